/- game.Spawn, game.Remove at one slot, over games without shots. slices.Clone over shots. Memory in a walk: blocks of the call's own and blocks that were handed in (Hs), and rows of shots. A game's cells, ship by ship: what is read, what is written. The field: places and speeds. A region that draws its order: loads may be taken first as long as no store to their cell has come up. -/
import Derived.Test.YtdopfonebpklkaaGreatFoldRuns01
import Derived.WalkLawsBesides
import Derived.StillTailTactics
import Derived.OwnWalk
import Derived.OrdersHeld
import Derived.StillTail
namespace Go.Proofs.YtdopfonebpklkaaGreat.game
open Go.ChangeShapes Go.WideShapes Go.ChangeAt Go.RowKit dice
set_option maxRecDepth 100000

def z21 : List Value := [.bool false, .int .i32 0, .int .i32 0, .int .i32 0, .int .i32 0, .int .i64 0, .int .i64 0, .bool false, .int .i32 0, .int .i32 0, .int .i32 0, .int .i32 0, .int .i64 0, .int .i64 0, .bool false, .int .i32 0, .int .i32 0, .int .i32 0, .int .i32 0, .int .i64 0, .int .i64 0]
def z28 : List Value := [.bool false, .int .i32 0, .int .i32 0, .int .i32 0, .int .i32 0, .int .i64 0, .int .i64 0, .bool false, .int .i32 0, .int .i32 0, .int .i32 0, .int .i32 0, .int .i64 0, .int .i64 0, .bool false, .int .i32 0, .int .i32 0, .int .i32 0, .int .i32 0, .int .i64 0, .int .i64 0, .bool false, .int .i32 0, .int .i32 0, .int .i32 0, .int .i32 0, .int .i64 0, .int .i64 0]
/-- A game without shots, in which slot 3 alone may have a ship, still. -/
def gq (fr d : Int) (o : Bool) (x y : Int) : Array Value := (.int .i64 fr :: .int .u64 d :: (z21 ++ (.bool o :: .int .i32 x :: .int .i32 y :: .int .i32 0 :: .int .i32 0 :: .int .i64 0 :: .int .i64 0 :: (z28 ++ [.slice none 0 0])))).toArray
theorem gq_gz (fr d : Int) : gq fr d false 0 0 = gz fr d := rfl
theorem gq_gm (fr d : Int) (o : Bool) (x y : Int) (h : OkShip o x y 0 0 0 0) : Gm (gq fr d o x y) fr d := by
  refine ⟨rfl, by simp [gq, z21, z28, Value.oneCell'], rfl, rfl, rfl, fun k hk => ?_⟩
  have hz : OkShip false 0 0 0 0 0 0 := by unfold OkShip; simp
  match k, hk with
  | 0, _ | 1, _ | 2, _ | 4, _ | 5, _ | 6, _ | 7, _ => exact ⟨_, _, _, _, _, _, _, rfl, rfl, rfl, rfl, rfl, rfl, rfl, hz⟩
  | 3, _ => exact ⟨_, _, _, _, _, _, _, rfl, rfl, rfl, rfl, rfl, rfl, rfl, h⟩
theorem eq_nil (w : World) : (binOp .eql 26 (.slice none 0 0) (.slice none 0 0)).run Tryz.prog w = .ok (.bool true) w := by
  have h := run_equal_slice_nil (P := Tryz.prog) w 26 93 none 0 0 Tryz.underlying26
  simp only [binOp]
  simp [h]
theorem clone_nil (w : World) : Calls Tryz.prog 118 #[.slice none 0 0] w fun e w' => e = .returned (.slice none 0 0) ∧ w = w' := by
  have he := eq_nil w
  go_enter Tryz.func118, Tryz.ntmps118
  go_wp2_with fail
  go_ret
  exact ⟨rfl, rfl⟩
theorem delete_nil (f : Value) (w : World) : Calls Tryz.prog 138 #[.slice none 0 0, f] w fun e w' => e = .returned (.slice none 0 0) ∧ w = w' := by
  go_enter Tryz.func138, Tryz.ntmps138
  go_wp2_with fail
  refine (indexShots_nil _ _).mono ?_; rintro e w' ⟨rfl, rfl⟩
  go_wp2_with fail
  go_ret
  exact ⟨rfl, rfl⟩
theorem ship3 (fr d : Int) (o : Bool) (x y : Int) (is : Bool) (w : World) (h : OkShip o x y 0 0 0 0) (h0 : 0 ≤ fr) (h1 : fr ≤ 1048576) :
    Calls Tryz.prog 137 #[.agg (gq fr d o x y), .int .i64 3, .bool is] w fun e w' => e = .returned (.bool (o == is)) ∧ Below w.heap.size w w' := by
  have HM := Lib.hid (fun w => may_any _ fr d w (gq_gm fr d o x y h) h0 h1)
  clear h h0 h1
  have H := St.start w
  have hc : (gq fr d o x y)[23]? = some (.bool o) := rfl
  have Hc := Lib.hid hc
  clear hc
  go_enter Tryz.func137, Tryz.ntmps137
  go_wp2_with (first | (refine wl_box H rfl 28 _ rfl (gq fr d o x y) rfl ?_; clear H; intro b w H) | (refine wl_whole H rfl 0 28 _ rfl _ rfl _ rfl _ Tryz.underlying28 rfl 59 info28 rfl ?_))
  refine (HM.out _).mono ?_; rintro e w' ⟨rfl, hb⟩
  replace H := H.call hb
  clear hb
  go_wp2_with (first | (refine wl_cell H rfl 0 4 _ rfl _ _ rfl _ _ rfl Tryz.isAgg4 (.bool o) Hc.out ?_))
  go_ret
  exact ⟨rfl, H.below⟩
theorem spawn_bad (fr d x y : Int) (w : World) (h : OkShip true x y 0 0 0 0) (h0 : 0 ≤ fr) (h1 : fr ≤ 1048576) :
    Calls Tryz.prog 124 #[.agg (gq fr d true x y), .int .i64 3] w fun e w' => e = .returned (.tuple #[.agg (gq fr d true x y), .int .i64 1]) ∧ Below w.heap.size w w' := by
  have HS := Lib.hid (fun w => ship3 fr d true x y false w h h0 h1)
  clear h h0 h1
  have H := St.start w
  go_enter Tryz.func124, Tryz.ntmps124
  go_wp2_with (first | (refine wl_box H rfl 28 _ rfl (gq fr d true x y) rfl ?_; clear H; intro b w H) | (refine wl_alloc H rfl 28 rfl _ Tryz.zeroValue28 ?_; clear H; intro b w H) | (refine wl_whole H rfl 1 28 _ rfl _ rfl _ rfl _ Tryz.underlying28 rfl 59 info28 rfl ?_))
  refine (HS.out _).mono ?_; rintro e w' ⟨rfl, hb⟩
  replace H := H.call hb
  clear hb
  go_wp2_with (first | (refine wl_whole H rfl 1 28 _ rfl _ rfl _ rfl _ Tryz.underlying28 rfl 59 info28 rfl ?_) | (refine wl_put H rfl 0 28 _ _ rfl _ _ rfl _ _ rfl (.agg _) rfl 59 info28 rfl rfl rfl ?_; clear H; intro w H))
  refine bodyPost_ret (v := .tuple #[.agg (gq fr d true x y), .int .i64 1]) ?_ rfl ⟨rfl, H.below⟩
  exact res2 rfl rfl rfl (H.holds _ (List.mem_cons_self ..)) rfl
theorem spawn_ok (fr d : Int) (w : World) (h0 : 0 ≤ fr) (h1 : fr ≤ 1048576) :
    Calls Tryz.prog 124 #[.agg (gq fr d false 0 0), .int .i64 3] w fun e w' => e = .returned (.tuple #[.agg (gq fr (next (next d)) true (px d) (py d)), .int .i64 0]) ∧ Below w.heap.size w w' := by
  have hz : OkShip false 0 0 0 0 0 0 := by unfold OkShip; simp
  have HS := Lib.hid (fun w => ship3 fr d false 0 0 false w hz h0 h1)
  clear hz h0 h1
  have H := St.start w
  go_enter Tryz.func124, Tryz.ntmps124
  go_wp2_with (first | (refine wl_box H rfl 28 _ rfl (gq fr d false 0 0) rfl ?_; clear H; intro b w H) | (refine wl_alloc H rfl 28 rfl _ Tryz.zeroValue28 ?_; clear H; intro b w H) | (refine wl_whole H rfl 1 28 _ rfl _ rfl _ rfl _ Tryz.underlying28 rfl 59 info28 rfl ?_))
  refine (HS.out _).mono ?_; rintro e w' ⟨rfl, hb⟩
  replace H := H.call hb
  clear hb
  go_wp2_with (first | (refine wl_alloc H rfl 24 rfl _ Tryz.zeroValue24 ?_; clear H; intro b w H) | (refine wl_put H rfl 0 24 _ _ rfl _ _ rfl _ _ rfl (.agg _) rfl 7 info24 rfl rfl rfl ?_; clear H; intro w H) | (refine wl_cell H rfl 2 22 _ rfl _ _ rfl _ _ rfl Tryz.isAgg22 (.int _ _) rfl ?_))
  refine (place_any d _).mono ?_; rintro e w' ⟨rfl, hb⟩
  replace H := H.call hb
  clear hb
  go_wp2_with (first | (refine wl_put H rfl 0 21 _ _ rfl _ _ rfl _ _ rfl (.int _ _) rfl 1 info21 rfl rfl rfl ?_; clear H; intro w H) | (refine wl_put H rfl 2 22 _ _ rfl _ _ rfl _ _ rfl (.int _ _) rfl 1 info22 rfl rfl rfl ?_; clear H; intro w H))
  refine wp_region_still_tail 7 (by kernel_rfl) (by kernel_rfl) ?_
  replace H : St _ ({ w with drawn := w.drawn + 1 } : World) _ := H.call ((Below.refl _ w).drew)
  generalize ({ w with drawn := w.drawn + 1 } : World) = W at *
  simp only [List.take_succ_cons, List.take_zero, List.drop_succ_cons, List.drop_zero]
  have e0 := H.holds _ (List.mem_cons_self ..)
  have e2 := H.holds _ (List.mem_cons_of_mem _ (List.mem_cons_of_mem _ (List.mem_cons_self ..)))
  have k0 : W.cell? ⟨b, 0, none⟩ = some (.bool true) := cell_of_row _ _ 0 _ _ _ e0
  have k1 : W.cell? ⟨b, 1, none⟩ = some (.int .i32 (px d)) := cell_of_row _ _ 1 _ _ _ e0
  have k2 : W.cell? ⟨b, 2, none⟩ = some (.int .i32 (py d)) := cell_of_row _ _ 2 _ _ _ e0
  have k3 : W.cell? ⟨b, 3, none⟩ = some (.int .i32 0) := cell_of_row _ _ 3 _ _ _ e0
  have k4 : W.cell? ⟨b, 4, none⟩ = some (.int .i32 0) := cell_of_row _ _ 4 _ _ _ e0
  have k5 : W.cell? ⟨b, 5, none⟩ = some (.int .i64 0) := cell_of_row _ _ 5 _ _ _ e0
  have k6 : W.cell? ⟨b, 6, none⟩ = some (.int .i64 0) := cell_of_row _ _ 6 _ _ _ e0
  have k58 := (cell_of_row _ _ 58 _ _ _ e2).trans (show _ = some (.slice none 0 0) from rfl)
  clear e0 e2
  repeat still_step
  still_call ((clone_nil _).mono fun _ _ h => ⟨h.1, h.2.symm⟩)
  repeat still_step
  refine wpStill_nil ?_
  clear k0 k1 k2 k3 k4 k5 k6 k58
  go_wp2_with (first | (refine wl_put H rfl 2 24 _ _ rfl _ _ rfl _ _ rfl (.agg _) rfl 7 info24 rfl rfl rfl ?_; clear H; intro w H) | (refine wl_put H rfl 2 26 _ _ rfl _ _ rfl _ _ rfl (.slice _ _ _) rfl 1 info26 rfl rfl rfl ?_; clear H; intro w H) | (refine wl_whole H rfl 2 28 _ rfl _ rfl _ rfl _ Tryz.underlying28 rfl 59 info28 rfl ?_) | (refine wl_put H rfl 1 28 _ _ rfl _ _ rfl _ _ rfl (.agg _) rfl 59 info28 rfl rfl rfl ?_; clear H; intro w H))
  refine bodyPost_ret (v := .tuple #[.agg (gq fr (next (next d)) true (px d) (py d)), .int .i64 0]) ?_ rfl ⟨rfl, H.below⟩
  exact res2 rfl rfl rfl (H.holds _ (List.mem_cons_of_mem _ (List.mem_cons_self ..))) rfl
theorem remove_bad (fr d : Int) (w : World) (h0 : 0 ≤ fr) (h1 : fr ≤ 1048576) :
    Calls Tryz.prog 123 #[.agg (gq fr d false 0 0), .int .i64 3] w fun e w' => e = .returned (.tuple #[.agg (gq fr d false 0 0), .int .i64 1]) ∧ Below w.heap.size w w' := by
  have hz : OkShip false 0 0 0 0 0 0 := by unfold OkShip; simp
  have HS := Lib.hid (fun w => ship3 fr d false 0 0 true w hz h0 h1)
  clear hz h0 h1
  have H := St.start w
  go_enter Tryz.func123, Tryz.ntmps123
  go_wp2_with (first | (refine wl_box H rfl 28 _ rfl (gq fr d false 0 0) rfl ?_; clear H; intro b w H) | (refine wl_box H rfl 3 _ rfl #[.int .i64 3] rfl ?_; clear H; intro b w H) | (refine wl_alloc H rfl 28 rfl _ Tryz.zeroValue28 ?_; clear H; intro b w H) | (refine wl_whole H rfl 2 28 _ rfl _ rfl _ rfl _ Tryz.underlying28 rfl 59 info28 rfl ?_) | (refine wl_cell H rfl 1 3 _ rfl _ _ rfl _ _ rfl Tryz.isAgg3 (.int _ _) rfl ?_))
  refine (HS.out _).mono ?_; rintro e w' ⟨rfl, hb⟩
  replace H := H.call hb
  clear hb
  go_wp2_with (first | (refine wl_whole H rfl 2 28 _ rfl _ rfl _ rfl _ Tryz.underlying28 rfl 59 info28 rfl ?_) | (refine wl_put H rfl 0 28 _ _ rfl _ _ rfl _ _ rfl (.agg _) rfl 59 info28 rfl rfl rfl ?_; clear H; intro w H))
  refine bodyPost_ret (v := .tuple #[.agg (gq fr d false 0 0), .int .i64 1]) ?_ rfl ⟨rfl, H.below⟩
  exact res2 rfl rfl rfl (H.holds _ (List.mem_cons_self ..)) rfl
theorem remove_ok (fr d x y : Int) (w : World) (h : OkShip true x y 0 0 0 0) (h0 : 0 ≤ fr) (h1 : fr ≤ 1048576) :
    Calls Tryz.prog 123 #[.agg (gq fr d true x y), .int .i64 3] w fun e w' => e = .returned (.tuple #[.agg (gq fr d false 0 0), .int .i64 0]) ∧ Below w.heap.size w w' := by
  have HS := Lib.hid (fun w => ship3 fr d true x y true w h h0 h1)
  clear h h0 h1
  have H := St.start w
  go_enter Tryz.func123, Tryz.ntmps123
  go_wp2_with (first | (refine wl_box H rfl 28 _ rfl (gq fr d true x y) rfl ?_; clear H; intro b w H) | (refine wl_box H rfl 3 _ rfl #[.int .i64 3] rfl ?_; clear H; intro b w H) | (refine wl_alloc H rfl 28 rfl _ Tryz.zeroValue28 ?_; clear H; intro b w H) | (refine wl_whole H rfl 2 28 _ rfl _ rfl _ rfl _ Tryz.underlying28 rfl 59 info28 rfl ?_) | (refine wl_cell H rfl 1 3 _ rfl _ _ rfl _ _ rfl Tryz.isAgg3 (.int _ _) rfl ?_))
  refine (HS.out _).mono ?_; rintro e w' ⟨rfl, hb⟩
  replace H := H.call hb
  clear hb
  go_wp2_with (first | (refine wl_cell H rfl 1 3 _ rfl _ _ rfl _ _ rfl Tryz.isAgg3 (.int _ _) rfl ?_) | (refine wl_put H rfl 2 24 _ _ rfl _ _ rfl _ _ rfl (.agg _) rfl 7 info24 rfl rfl rfl ?_; clear H; intro w H) | (refine wl_cell H rfl 2 26 _ rfl _ _ rfl _ _ rfl Tryz.isAgg26 (.slice _ _ _) rfl ?_))
  refine (clone_nil _).mono ?_; rintro e w' ⟨rfl, rfl⟩
  go_wp2_with fail
  refine (delete_nil _ _).mono ?_; rintro e w' ⟨rfl, rfl⟩
  go_wp2_with (first | (refine wl_put H rfl 2 26 _ _ rfl _ _ rfl _ _ rfl (.slice _ _ _) rfl 1 info26 rfl rfl rfl ?_; clear H; intro w H) | (refine wl_whole H rfl 2 28 _ rfl _ rfl _ rfl _ Tryz.underlying28 rfl 59 info28 rfl ?_) | (refine wl_put H rfl 0 28 _ _ rfl _ _ rfl _ _ rfl (.agg _) rfl 59 info28 rfl rfl rfl ?_; clear H; intro w H))
  refine bodyPost_ret (v := .tuple #[.agg (gq fr d false 0 0), .int .i64 0]) ?_ rfl ⟨rfl, H.below⟩
  exact res2 rfl rfl rfl (H.holds _ (List.mem_cons_self ..)) rfl
end Go.Proofs.YtdopfonebpklkaaGreat.game
namespace Go.Proofs.YtdopfonebpklkaaGreat.game
open Go.ChangeShapes Go.WideShapes Go.ChangeAt Go.RowKit dice
set_option maxRecDepth 100000

theorem info79 : (Tryz.prog.info? 93).map (fun i => (i.zero, i.size, i.bytes)) = some (some (.agg #[.int .i64 0, .int .i32 0, .int .i32 0, .int .i32 0, .int .i32 0, .int .i64 0]), 6, 32) := by kernel_rfl
theorem info_shot : ∃ i, Tryz.prog.info? 93 = some i ∧ i.zero = some (.agg #[.int .i64 0, .int .i32 0, .int .i32 0, .int .i32 0, .int .i32 0, .int .i64 0]) ∧ i.size = 6 ∧ i.bytes = 32 := by
  have h := info79
  cases hq : Tryz.prog.info? 93 with
  | none => rw [hq] at h; cases h
  | some i =>
    rw [hq] at h
    simp at h
    exact ⟨i, rfl, h.1, h.2.1, h.2.2⟩
theorem eq_some (w : World) (a : Addr) (n c : Nat) : (binOp .eql 26 (.slice (some a) n c) (.slice none 0 0)).run Tryz.prog w = .ok (.bool false) w := by
  have h := run_equal_slice_nil (P := Tryz.prog) w 26 93 (some a) n c Tryz.underlying26
  simp only [binOp]
  simp [h]
theorem cellsL_one (L : List Sht) : ∀ u ∈ cellsL L, u.oneCell' = true := by
  intro u hu
  unfold cellsL at hu
  obtain ⟨s, _, hs⟩ := List.mem_flatMap.1 hu
  simp [shotL] at hs
  rcases hs with rfl | rfl | rfl | rfl | rfl | rfl <;> rfl
/-- Shots in a row of a call's own. -/
def Own (w : World) (base : Nat) (sl : Value) (L : List Sht) : Prop := w.ownsRow base 93 6 sl L.length (cellsL L)
theorem Own.shotsIn {w : World} {base : Nat} {sl : Value} {L : List Sht} (h : Own w base sl L) : ShotsIn w sl L := by
  have h0 := h
  obtain ⟨_, ⟨rfl, hn⟩ | ⟨g, cap, cur, rfl, hb, hg, r⟩⟩ := h
  · exact .inl ⟨List.length_eq_zero_iff.1 hn, rfl⟩
  · refine .inr ⟨g, 0, cap, rfl, (Array.getElem?_eq_some_iff.1 hg).1, fun j v hv => ?_⟩
    have := World.ownsRow.cells h0 (g := g) rfl j v hv
    have a1 : (⟨g, 0, none⟩ : Addr).add j = ⟨g, 0 + j, none⟩ := by unfold Addr.add; split <;> simp_all
    rw [a1] at this; exact this
def ClonePost (w : World) (L : List Sht) (e : Ending) (w' : World) : Prop := (∃ sl, e = .returned sl ∧ Own w' w.heap.size sl L) ∧ Below w.heap.size w w'
theorem clone_any (sl : Value) (L : List Sht) (w : World) (h : ShotsIn w sl L) (hn : L.length ≤ 1000) : Calls Tryz.prog 118 #[sl] w (ClonePost w L) := by
  rcases h with ⟨rfl, rfl⟩ | ⟨g, o, c, rfl, hg, hc⟩
  · refine (clone_nil w).mono ?_
    rintro e w' ⟨rfl, rfl⟩
    exact ⟨⟨_, rfl, World.ownsRow_nil _ _ _ _⟩, Below.refl _ _⟩
  · have he := eq_some w ⟨g, o, none⟩ L.length c
    obtain ⟨i0, hi, hz0, hz1, hz2⟩ := info_shot
    have hown := World.ownsRow_made (base := w.heap.size) (e := 93) (size := 6) w #[] 0 (Nat.le_refl _) (Nat.zero_le _) rfl
    have hm : 0 + L.length ≤ maxLen := by unfold maxLen; omega
    have hbt : (0 + L.length) * 32 ≤ 140737488355328 := by omega
    have hnn : ∀ j u, (cellsL L)[j]? = some u → (w.alloc (.cells #[] 93)).cell? ((⟨g, o, none⟩ : Addr).add j) = some u := fun j u hu => by
      have a1 : (⟨g, o, none⟩ : Addr).add j = ⟨g, o + j, none⟩ := by unfold Addr.add; split <;> simp_all
      rw [a1]
      exact ((Below.alloc (Below.refl _ w) (Nat.le_refl _) (.cells #[] 93)).cell (p := ⟨g, o + j, none⟩) hg).trans (hc j u hu)
    have Hown := Lib.hid hown
    have Hnn := Lib.hid hnn
    clear hown hnn hc
    go_enter Tryz.func118, Tryz.ntmps118
    go_wp2_with (at_builtin; refine wpList_append_own _ rfl _ _ 26 rfl w.heap.size 93 i0 (.agg #[.int .i64 0, .int .i32 0, .int .i32 0, .int .i32 0, .int .i32 0, .int .i64 0]) 6 32 Tryz.underlying26 hi hz0 hz1 hz2 rfl (by decide) _ _ _ rfl Hown.out ⟨g, o, none⟩ L.length c (cellsL L) rfl (length_cellsL L) Hnn.out (cellsL_one L) hm hbt (by simp) ?_; intro v' w6 hown' hgrow hnil'; have HO := Lib.hid hown'; have HG := Lib.hid hgrow; clear hown' hgrow hnil')
    go_ret
    refine ⟨⟨_, rfl, ?_⟩, ((Below.refl _ w).alloc (Nat.le_refl _) _).grown HG.out (by simp) (fun k hk => by cases hk; exact Nat.le_refl _)⟩
    have := HO.out
    rw [Nat.zero_add, List.nil_append] at this
    exact this
end Go.Proofs.YtdopfonebpklkaaGreat.game
namespace Go.Proofs.YtdopfonebpklkaaGreat.game
open Go.ChangeShapes Go.WideShapes Go.ChangeAt Go.RowKit dice
set_option maxRecDepth 100000

abbrev Blk := Nat × Array Value × TypeId
abbrev RowS := Value × List Sht
/-- Blocks l and rows R stand; all else that was there at w0 is as it was. -/
structure Sb (Hs : List Nat) (w0 w : World) (l : List Blk) (R : List RowS) : Prop where
  os : w.os = w0.os
  tape : w.tape = w0.tape
  output : w.output = w0.output
  size : w0.heap.size ≤ w.heap.size
  fr : ∀ k, k < w0.heap.size → k ∉ Hs → w.heap[k]? = w0.heap[k]?
  holds : ∀ p ∈ l, w.heap[p.1]? = some (.cells p.2.1 p.2.2 (0, 0))
  ge : ∀ p ∈ l, w0.heap.size ≤ p.1 ∨ p.1 ∈ Hs
  nd : (l.map (·.1)).Nodup
  rows : ∀ r ∈ R, Own w 0 r.1 r.2
  rge : ∀ r ∈ R, ∀ k, r.1.ownBlock = some k → w0.heap.size ≤ k ∨ k ∈ Hs
  apart : ∀ r ∈ R, ∀ p ∈ l, r.1.ownBlock ≠ some p.1
  rnd : R.Pairwise fun a b => ∀ k, a.1.ownBlock = some k → b.1.ownBlock ≠ some k
variable {Hs : List Nat} {w0 w w' : World} {l : List Blk} {R : List RowS}
theorem Sb.start (w : World) : Sb [] w w [] [] :=
  ⟨rfl, rfl, rfl, Nat.le_refl _, fun _ _ _ => rfl, fun _ h => by simp at h, fun _ h => by simp at h, by simp, fun _ h => by simp at h, fun _ h => by simp at h, fun _ h => by simp at h, by simp⟩
theorem Sb.below (h : Sb [] w0 w l R) : Below w0.heap.size w0 w := ⟨h.os, h.tape, h.output, h.size, fun k hk => h.fr k hk (by simp)⟩
theorem Sb.lt (h : Sb Hs w0 w l R) : ∀ p ∈ l, p.1 < w.heap.size := fun p hp => (Array.getElem?_eq_some_iff.1 (h.holds p hp)).1
theorem Sb.rlt (h : Sb Hs w0 w l R) : ∀ r ∈ R, ∀ k, r.1.ownBlock = some k → k < w.heap.size := fun r hr k hk => (World.ownsRow.lt (h.rows r hr) k hk).2
theorem own_same {sl : Value} {L : List Sht} (h : Own w 0 sl L) (hs : ∀ k, sl.ownBlock = some k → w'.heap[k]? = w.heap[k]?) : Own w' 0 sl L := by
  refine ⟨h.1, ?_⟩
  rcases h.2 with a | ⟨g, cap, cur, rfl, hb, hg, r⟩
  · exact .inl a
  · exact .inr ⟨g, cap, cur, rfl, hb, (hs g rfl).trans hg, r⟩
theorem Sb.call (h : Sb Hs w0 w l R) (hb : Below w.heap.size w w') : Sb Hs w0 w' l R :=
  ⟨hb.os.trans h.os, hb.tape.trans h.tape, hb.output.trans h.output, Nat.le_trans h.size hb.size, fun k hk hh => (hb.block k (Nat.lt_of_lt_of_le hk h.size)).trans (h.fr k hk hh),
    fun p hp => (hb.block p.1 (h.lt p hp)).trans (h.holds p hp), h.ge, h.nd, fun r hr => own_same (h.rows r hr) (fun k hk => hb.block k (h.rlt r hr k hk)), h.rge, h.apart, h.rnd⟩
theorem Sb.new (h : Sb Hs w0 w l R) (c : Array Value) (t : TypeId) : Sb Hs w0 (w.alloc (.cells c t)) ((w.heap.size, c, t) :: l) R := by
  have hA := fun k (hk : k < w.heap.size) => Below.heap_alloc w (.cells c t) k hk
  refine ⟨h.os, h.tape, h.output, Nat.le_trans h.size (by simp), fun k hk hh => (hA k (Nat.lt_of_lt_of_le hk h.size)).trans (h.fr k hk hh), fun p hp => ?_, fun p hp => ?_, ?_, fun r hr => own_same (h.rows r hr) (fun k hk => hA k (h.rlt r hr k hk)), h.rge, fun r hr p hp => ?_, h.rnd⟩
  · rcases List.mem_cons.1 hp with rfl | hp
    · exact heap_alloc_last w _
    · exact (hA _ (h.lt p hp)).trans (h.holds p hp)
  · rcases List.mem_cons.1 hp with rfl | hp
    · exact .inl h.size
    · exact h.ge p hp
  · rw [List.map_cons, List.nodup_cons]
    refine ⟨fun hm => ?_, h.nd⟩
    obtain ⟨p, hp, he⟩ := List.mem_map.1 hm
    have := h.lt p hp
    omega
  · rcases List.mem_cons.1 hp with rfl | hp
    · intro e
      exact Nat.lt_irrefl _ (h.rlt r hr _ e)
    · exact h.apart r hr p hp
theorem map_set_fst (l : List Blk) (i : Nat) (g : Nat) (c c' : Array Value) (t t' : TypeId) (hl : l[i]? = some (g, c, t)) : (l.set i (g, c', t')).map (·.1) = l.map (·.1) := by
  have hi := (List.getElem?_eq_some_iff.1 hl).1
  rw [List.map_set]
  apply List.ext_getElem?
  intro j
  rw [List.getElem?_set]
  split
  · rename_i e
    subst e
    rw [List.getElem?_map, hl]
    simp [hi]
  · rfl
theorem mem_set_fst {l : List Blk} {i : Nat} {g : Nat} {c c' : Array Value} {t t' : TypeId} (hl : l[i]? = some (g, c, t)) {p : Blk} (hp : p ∈ l.set i (g, c', t')) : ∃ p' ∈ l, p'.1 = p.1 := by
  have : p.1 ∈ (l.set i (g, c', t')).map (·.1) := List.mem_map_of_mem hp
  rw [map_set_fst l i g c c' t t' hl] at this
  obtain ⟨p', hp', e⟩ := List.mem_map.1 this
  exact ⟨p', hp', e⟩
/-- One block turned, all others as they were. -/
theorem Sb.turn (h : Sb Hs w0 w l R) (i : Nat) (g : Nat) (c c' : Array Value) (t : TypeId) (hl : l[i]? = some (g, c, t)) (ho : w'.os = w.os) (ht : w'.tape = w.tape) (hu : w'.output = w.output) (hz : w.heap.size ≤ w'.heap.size)
    (hg' : w'.heap[g]? = some (.cells c' t (0, 0))) (hf : ∀ k, k < w.heap.size → k ≠ g → w'.heap[k]? = w.heap[k]?) : Sb Hs w0 w' (l.set i (g, c', t)) R := by
  have hi := (List.getElem?_eq_some_iff.1 hl).1
  have hm : (g, c, t) ∈ l := List.mem_of_getElem? hl
  refine ⟨ho.trans h.os, ht.trans h.tape, hu.trans h.output, Nat.le_trans h.size hz, fun k hk hh => ?_, fun p hp => ?_, fun p hp => ?_, by rw [map_set_fst l i g c c' t t hl]; exact h.nd, fun r hr => ?_, h.rge, fun r hr p hp => ?_, h.rnd⟩
  · rw [hf k (Nat.lt_of_lt_of_le hk h.size) (fun e => by subst e; rcases h.ge _ hm with a | a; exact absurd hk (Nat.not_lt.2 a); exact hh a)]
    exact h.fr k hk hh
  · obtain ⟨j, hj⟩ := List.mem_iff_getElem?.1 hp
    rw [List.getElem?_set] at hj
    by_cases e : i = j
    · rw [if_pos e, if_pos hi] at hj
      injection hj with hj
      subst hj
      exact hg'
    · rw [if_neg e] at hj
      have hne : p.1 ≠ g := fun e2 => by
        have h1 : (l.map (·.1))[j]? = some g := by rw [List.getElem?_map, hj]; simp [e2]
        have h2 : (l.map (·.1))[i]? = some g := by rw [List.getElem?_map, hl]; rfl
        exact e ((List.getElem?_inj (by simpa using hi) h.nd).1 (h2.trans h1.symm))
      have hp' := List.mem_of_getElem? hj
      rw [hf p.1 (h.lt p hp') hne]
      exact h.holds p hp'
  · obtain ⟨p', hp', e⟩ := mem_set_fst hl hp
    rw [← e]; exact h.ge p' hp'
  · refine own_same (h.rows r hr) (fun k hk => hf k (h.rlt r hr k hk) (fun e => ?_))
    subst e
    exact h.apart r hr _ hm hk
  · obtain ⟨p', hp', e⟩ := mem_set_fst hl hp
    rw [← e]; exact h.apart r hr p' hp'
theorem Sb.put (h : Sb Hs w0 w l R) (i : Nat) (g : Nat) (c c' : Array Value) (t : TypeId) (hl : l[i]? = some (g, c, t)) : Sb Hs w0 (w.setRow g c') (l.set i (g, c', t)) R :=
  h.turn i g c c' t hl rfl rfl rfl (by rw [size_setRow]; exact Nat.le_refl _) (setRow_heap w g c c' t (0, 0) (h.holds _ (List.mem_of_getElem? hl))) (fun k _ hk => heap_setRow_ne _ _ _ _ hk)
section
variable {ops : Array Oper} {rest : List Oper} {op : Oper} {a : Act} {Q : Exit → Act → World → Prop}
theorem wb_box (H : Sb Hs w0 w l R) (hw : Region.wanted op (yielded ops a.tmps) = true) (t : TypeId) (x : Operand) (ho : op.op = .box t x) (c : Array Value) (hx : (a.eval x).cells = c)
    (h : ∀ b w', Sb Hs w0 w' ((b, c, t) :: l) R → wpList Tryz.prog ops Q rest (a.put op.dst (.pointer (some ⟨b, 0, none⟩))) w') : wpList Tryz.prog ops Q (op :: rest) a w := by
  refine BigFrame.wpList_want hw fun _ hK => ?_
  unfold Oper.wp execOp
  simp only [ho, Instr.box, newVar, newRow, Sem.run_bind, Sem.run_pure, run_newObj_alloc, Result.andThen_ok, hx]
  exact hK _ _ (h _ _ (H.new c t))
theorem wb_alloc (H : Sb Hs w0 w l R) (hw : Region.wanted op (yielded ops a.tmps) = true) (t : TypeId) (ho : op.op = .alloc t) (z : Value) (hz : ∀ w, (zeroValue t).run Tryz.prog w = .ok z w)
    (h : ∀ b w', Sb Hs w0 w' ((b, z.cells, t) :: l) R → wpList Tryz.prog ops Q rest (a.put op.dst (.pointer (some ⟨b, 0, none⟩))) w') : wpList Tryz.prog ops Q (op :: rest) a w := by
  refine BigFrame.wpList_want hw fun _ hK => ?_
  unfold Oper.wp execOp
  simp only [ho, Instr.alloc, newVar, newRow, Sem.run_bind, Sem.run_pure, run_newObj_alloc, Result.andThen_ok, hz]
  exact hK _ _ (h _ _ (H.new z.cells t))
theorem wb_whole (H : Sb Hs w0 w l R) (hw : Region.wanted op (yielded ops a.tmps) = true) (i : Nat) (t : TypeId) (x : Operand) (ho : op.op = .load t x) (g : Nat) (hx : a.eval x = .pointer (some ⟨g, 0, none⟩)) (c : Array Value) (hl : l[i]? = some (g, c, t))
    (d : TypeDesc) (hu : Tryz.prog.underlying t = some d) (hd : d.isRow = true) (n : Nat) (hi : (Tryz.prog.info? t).map (·.size) = some n) (hn : c.size = n)
    (h : wpList Tryz.prog ops Q rest (a.put op.dst (.agg c)) w) : wpList Tryz.prog ops Q (op :: rest) a w :=
  BigFrame.wpList_want hw fun _ hK => wp_load_mid t x ho g 0 hx c.toList d (fun j v hv => by
    rw [Nat.zero_add, cell_of_row w g j c t (0, 0) (H.holds _ (List.mem_of_getElem? hl))]
    simpa using hv) hu hd (by rw [Array.length_toList, hn]; exact hi) (hK _ _ (by rw [Array.toArray_toList]; exact h))
theorem wb_part (H : Sb Hs w0 w l R) (hw : Region.wanted op (yielded ops a.tmps) = true) (i : Nat) (ty : TypeId) (x : Operand) (ho : op.op = .load ty x) (g o : Nat) (hx : a.eval x = .pointer (some ⟨g, o, none⟩)) (c : Array Value) (t : TypeId) (hl : l[i]? = some (g, c, t))
    (d : TypeDesc) (hu : Tryz.prog.underlying ty = some d) (hd : d.isRow = true) (n : Nat) (hi : (Tryz.prog.info? ty).map (·.size) = some n) (vs : List Value) (hvs : ∀ j v, vs[j]? = some v → c[o + j]? = some v) (hn : vs.length = n)
    (h : wpList Tryz.prog ops Q rest (a.put op.dst (.agg vs.toArray)) w) : wpList Tryz.prog ops Q (op :: rest) a w :=
  BigFrame.wpList_want hw fun _ hK => wp_load_mid ty x ho g o hx vs d (fun j v hv => by
    rw [cell_of_row w g (o + j) c t (0, 0) (H.holds _ (List.mem_of_getElem? hl))]
    exact hvs j v hv) hu hd (by rw [hn]; exact hi) (hK _ _ h)
theorem wb_cell (H : Sb Hs w0 w l R) (hw : Region.wanted op (yielded ops a.tmps) = true) (i : Nat) (ty : TypeId) (x : Operand) (ho : op.op = .load ty x) (g o : Nat) (hx : a.eval x = .pointer (some ⟨g, o, none⟩)) (c : Array Value) (t : TypeId) (hl : l[i]? = some (g, c, t))
    (ha : ∀ w, (isAgg ty).run Tryz.prog w = .ok false w) (v : Value) (hv : c[o]? = some v)
    (h : wpList Tryz.prog ops Q rest (a.put op.dst v) w) : wpList Tryz.prog ops Q (op :: rest) a w := by
  refine BigFrame.wpList_want hw fun _ hK => ?_
  have hc := (cell_of_row w g o c t (0, 0) (H.holds _ (List.mem_of_getElem? hl))).trans hv
  unfold Oper.wp execOp
  simp only [ho, hx, Instr.loadAt, Instr.sureAddr, Sem.run_bind, Sem.run_pure, Result.andThen_ok, loadVar, ha, Bool.false_eq_true, if_false, run_load, hc]
  exact hK _ _ h
theorem wb_put (H : Sb Hs w0 w l R) (hw : Region.wanted op (yielded ops a.tmps) = true) (i : Nat) (ty : TypeId) (x y : Operand) (ho : op.op = .store ty x y) (g o : Nat) (hx : a.eval x = .pointer (some ⟨g, o, none⟩)) (c : Array Value) (t : TypeId) (hl : l[i]? = some (g, c, t))
    (v : Value) (hy : a.eval y = v) (n : Nat) (hi : (Tryz.prog.info? ty).map (·.size) = some n) (hn : v.cells.size = n) (hfit : o + n ≤ c.size) (h1 : v.cells.toList.all (·.oneCell') = true) (c' : Array Value) (hc' : splice c o v.cells.toList = c')
    (h : ∀ w', Sb Hs w0 w' (l.set i (g, c', t)) R → wpList Tryz.prog ops Q rest (a.put op.dst undef) w') : wpList Tryz.prog ops Q (op :: rest) a w := by
  refine BigFrame.wpList_want hw fun _ hK => ?_
  have hb := H.holds _ (List.mem_of_getElem? hl)
  have hst := run_storeCells_at (P := Tryz.prog) g o t v.cells.toList 0 c w hb (by simp [hn]; exact hfit) (fun u hu => List.all_eq_true.1 h1 u hu)
  have hsv : (storeVar ty ⟨g, o, none⟩ v).run Tryz.prog w = .ok () (w.setRow g (splice c o v.cells.toList)) := by
    cases hq : Tryz.prog.info? ty with
    | none => simp [hq] at hi
    | some k =>
      have hk : k.size = n := by simpa [hq] using hi
      simp only [Nat.add_zero] at hst
      simp [storeVar, sizeOf, typeInfo, hq, hn, hk, hst, splice]
  rw [hc'] at hsv
  unfold Oper.wp execOp
  simp only [ho, hx, hy, Instr.storeAt, Instr.sureAddr, Sem.run_bind, Sem.run_pure, Result.andThen_ok, hsv]
  exact hK _ _ (h _ (H.put i g c _ t hl))
end
end Go.Proofs.YtdopfonebpklkaaGreat.game
namespace Go.Proofs.YtdopfonebpklkaaGreat.game
open Go.ChangeShapes Go.WideShapes Go.ChangeAt Go.RowKit dice

structure Shp where
  on : Bool
  x : Int
  y : Int
  vx : Int
  vy : Int
  cool : Int
  score : Int
def Shp.ok (s : Shp) : Prop := OkShip s.on s.x s.y s.vx s.vy s.cool s.score
def shipL (s : Shp) : List Value := [.bool s.on, .int .i32 s.x, .int .i32 s.y, .int .i32 s.vx, .int .i32 s.vy, .int .i64 s.cool, .int .i64 s.score]
def shipsL (S : List Shp) : List Value := S.flatMap shipL
def gameC (fr d : Int) (S : List Shp) (sl : Value) : Array Value := (.int .i64 fr :: .int .u64 d :: (shipsL S ++ [sl])).toArray
theorem length_shipsL (S : List Shp) : (shipsL S).length = S.length * 7 := by
  induction S with
  | nil => rfl
  | cons s S ih => unfold shipsL at *; rw [List.flatMap_cons, List.length_append, ih, List.length_cons]; simp only [shipL, List.length_cons, List.length_nil]; omega
theorem shipsL_at : ∀ (S : List Shp) (i j : Nat) (s : Shp) (v : Value), S[i]? = some s → (shipL s)[j]? = some v → (shipsL S)[i * 7 + j]? = some v
  | [], i, _, _, _, h, _ => by simp at h
  | s' :: S, 0, j, s, v, h, hj => by
    simp at h
    subst h
    have hl : j < (shipL s').length := (List.getElem?_eq_some_iff.1 hj).1
    unfold shipsL
    rw [List.flatMap_cons, Nat.zero_mul, Nat.zero_add, List.getElem?_append_left hl]
    exact hj
  | s' :: S, i + 1, j, s, v, h, hj => by
    have ih := shipsL_at S i j s v (by simpa using h) hj
    unfold shipsL at *
    have hl : (shipL s').length = 7 := rfl
    rw [List.flatMap_cons, List.getElem?_append_right (by rw [hl]; omega), hl, show (i + 1) * 7 + j - 7 = i * 7 + j by omega]
    exact ih
theorem shipsL_set : ∀ (S : List Shp) (i j : Nat) (s s' : Shp) (v : Value), S[i]? = some s → j < 7 → shipL s' = (shipL s).set j v → (shipsL S).set (i * 7 + j) v = shipsL (S.set i s')
  | [], i, _, _, _, _, h, _, _ => by simp at h
  | t :: S, 0, j, s, s', v, h, hj, he => by
    simp at h
    subst h
    unfold shipsL
    rw [List.flatMap_cons, Nat.zero_mul, Nat.zero_add, List.set_append_left _ _ (show j < (shipL t).length from hj), List.set_cons_zero, List.flatMap_cons, he]
  | t :: S, i + 1, j, s, s', v, h, hj, he => by
    have ih := shipsL_set S i j s s' v (by simpa using h) hj he
    unfold shipsL at *
    have hl : (shipL t).length = 7 := rfl
    rw [List.flatMap_cons, List.set_append_right _ _ (by rw [hl]; omega), hl, show (i + 1) * 7 + j - 7 = i * 7 + j by omega, ih, List.set_cons_succ, List.flatMap_cons]
theorem splice_one (c : Array Value) (o : Nat) (v : Value) (h : o < c.size) : splice c o [v] = (c.toList.set o v).toArray := by
  unfold splice
  rw [List.set_eq_take_append_cons_drop, if_pos (by simpa using h)]
  simp
variable {fr d : Int} {S : List Shp} {sl : Value}
theorem gc_size (h : S.length = 8) : (gameC fr d S sl).size = 59 := by
  unfold gameC
  simp [length_shipsL, h]
theorem gc_frame : (gameC fr d S sl)[0]? = some (.int .i64 fr) := rfl
theorem gc_dice : (gameC fr d S sl)[1]? = some (.int .u64 d) := rfl
theorem gc_shots (h : S.length = 8) : (gameC fr d S sl)[58]? = some sl := by
  unfold gameC
  rw [List.getElem?_toArray, List.getElem?_cons_succ, List.getElem?_cons_succ, List.getElem?_append_right (by rw [length_shipsL, h]; omega)]
  simp [length_shipsL, h]
theorem gc_at (k j : Nat) (s : Shp) (v : Value) (hs : S[k]? = some s) (hv : (shipL s)[j]? = some v) : (gameC fr d S sl)[2 + k * 7 + j]? = some v := by
  unfold gameC
  have h := shipsL_at S k j s v hs hv
  have hl := (List.getElem?_eq_some_iff.1 h).1
  rw [List.getElem?_toArray, show 2 + k * 7 + j = k * 7 + j + 1 + 1 by omega, List.getElem?_cons_succ, List.getElem?_cons_succ, List.getElem?_append_left hl]
  exact h
theorem gc_at0 (k : Nat) (s : Shp) (hs : S[k]? = some s) : (gameC fr d S sl)[2 + k * 7]? = some (.bool s.on) := gc_at k 0 s _ hs rfl
theorem gc_set (k j : Nat) (s s' : Shp) (v : Value) (hs : S[k]? = some s) (hj : j < 7) (he : shipL s' = (shipL s).set j v) : splice (gameC fr d S sl) (2 + k * 7 + j) [v] = gameC fr d (S.set k s') sl := by
  have hk := (List.getElem?_eq_some_iff.1 hs).1
  rw [splice_one _ _ _ (by unfold gameC; simp [length_shipsL]; omega)]
  unfold gameC
  rw [show 2 + k * 7 + j = k * 7 + j + 1 + 1 by omega]
  simp only [List.set_cons_succ]
  rw [List.set_append_left _ _ (by rw [length_shipsL]; omega), shipsL_set S k j s s' v hs hj he]
theorem gc_setFrame (fr' : Int) : splice (gameC fr d S sl) 0 [.int .i64 fr'] = gameC fr' d S sl := rfl
theorem gc_setDice (d' : Int) : splice (gameC fr d S sl) 1 [.int .u64 d'] = gameC fr d' S sl := rfl
theorem gc_setShots (h : S.length = 8) (sl' : Value) : splice (gameC fr d S sl) 58 [sl'] = gameC fr d S sl' := by
  rw [splice_one _ _ _ (by rw [gc_size h]; omega)]
  unfold gameC
  simp only [List.set_cons_succ]
  rw [List.set_append_right _ _ (by rw [length_shipsL, h]; omega), length_shipsL, h]
  rfl
theorem gc_one (hs : sl.oneCell' = true) : (gameC fr d S sl).all (·.oneCell') = true := by
  rw [Array.all_eq_true_iff_forall_mem]
  intro v hv
  unfold gameC shipsL at hv
  simp at hv
  rcases hv with rfl | rfl | ⟨s, _, hm⟩ | rfl
  · rfl
  · rfl
  · simp [shipL] at hm
    rcases hm with rfl | rfl | rfl | rfl | rfl | rfl | rfl <;> rfl
  · exact hs
theorem gc_gmS (h : S.length = 8) (hs : sl.oneCell' = true) (hok : ∀ s ∈ S, s.ok) : GmS (gameC fr d S sl) fr d sl := by
  refine ⟨gc_size h, gc_one hs, gc_frame, gc_dice, gc_shots h, fun k hk => ?_⟩
  obtain ⟨s, hsk⟩ : ∃ s, S[k]? = some s := ⟨S[k], List.getElem?_eq_getElem (by omega)⟩
  exact ⟨s.on, s.x, s.y, s.vx, s.vy, s.cool, s.score, gc_at k 0 s _ hsk rfl, gc_at k 1 s _ hsk rfl, gc_at k 2 s _ hsk rfl, gc_at k 3 s _ hsk rfl, gc_at k 4 s _ hsk rfl, gc_at k 5 s _ hsk rfl, gc_at k 6 s _ hsk rfl, hok s (List.mem_of_getElem? hsk)⟩
end Go.Proofs.YtdopfonebpklkaaGreat.game
namespace Go.Proofs.YtdopfonebpklkaaGreat.game
open Go.ChangeShapes Go.WideShapes Go.ChangeAt Go.RowKit dice
set_option maxRecDepth 100000

theorem tmod_cases (x : Int) : (0 ≤ x ∧ x.tmod 16777216 = x % 16777216) ∨ (x < 0 ∧ x.tmod 16777216 = -((-x) % 16777216)) := by
  by_cases h : 0 ≤ x
  · exact .inl ⟨h, Int.tmod_eq_emod_of_nonneg h⟩
  · refine .inr ⟨by omega, ?_⟩
    have := Int.neg_tmod (-x) 16777216
    rw [Int.neg_neg] at this
    rw [this, Int.tmod_eq_emod_of_nonneg (by omega)]
theorem wrap_any (a lo : Int) (w : World) (h0 : -8589934592 ≤ a) (h1 : a ≤ 8589934592) (hl : lo = 0 ∨ lo = -8388608) :
    Calls Tryz.prog 153 #[.int .i64 a, .int .i64 lo] w fun e w' => e = .returned (.int .i32 ((a - lo) % 16777216 + lo)) ∧ w = w' := by
  obtain ⟨t, ht⟩ : ∃ t, (a - lo).tmod 16777216 = t := ⟨_, rfl⟩
  have hb : -16777216 < t ∧ t < 16777216 ∧ ((t < 0 ∧ (a - lo) % 16777216 = t + 16777216) ∨ (0 ≤ t ∧ (a - lo) % 16777216 = t)) := by
    have := tmod_cases (a - lo)
    rw [ht] at this
    omega
  have hl0 : -8388608 ≤ lo := by omega
  have hl1 : lo ≤ 0 := by omega
  obtain ⟨b0, b1, hb2⟩ := hb
  have HB := Lib.hid hb2
  clear hb2 hl
  go_enter Tryz.func153, Tryz.ntmps153
  by_cases hn : t < 0
  · go_wp2_with fail
    go_ret
    have e : (a - lo) % 16777216 = t + 16777216 := by have := HB.out; omega
    exact ⟨by rw [e]; rfl, rfl⟩
  · go_wp2_with fail
    go_ret
    have e : (a - lo) % 16777216 = t := by have := HB.out; omega
    exact ⟨by rw [e]; rfl, rfl⟩
/-- A place that has moved. -/
def mv (a v : Int) : Int := (a + v) % 16777216
theorem mv_bd (a v : Int) : 0 ≤ mv a v ∧ mv a v < 16777216 := by unfold mv; omega
theorem move_any (a v : Int) (w : World) (h0 : -2147483648 ≤ a) (h1 : a ≤ 2147483647) (h2 : -2147483648 ≤ v) (h3 : v ≤ 2147483647) :
    Calls Tryz.prog 143 #[.int .i32 a, .int .i32 v] w fun e w' => e = .returned (.int .i32 (mv a v)) ∧ w = w' := by
  go_enter Tryz.func143, Tryz.ntmps143
  go_wp2_with fail
  refine (wrap_any _ 0 _ (by omega) (by omega) (.inl rfl)).mono ?_; rintro e w' ⟨rfl, rfl⟩
  go_wp2_with fail
  go_ret
  exact ⟨by unfold mv; simp, rfl⟩
/-- The way from one place to another. -/
def gapI (a b : Int) : Int := (b - a + 8388608) % 16777216 - 8388608
theorem gapI_bd (a b : Int) : -8388608 ≤ gapI a b ∧ gapI a b < 8388608 := by unfold gapI; omega
theorem gap_any (a b : Int) (w : World) (h0 : -2147483648 ≤ a) (h1 : a ≤ 2147483647) (h2 : -2147483648 ≤ b) (h3 : b ≤ 2147483647) :
    Calls Tryz.prog 156 #[.int .i32 a, .int .i32 b] w fun e w' => e = .returned (.int .i32 (gapI a b)) ∧ w = w' := by
  go_enter Tryz.func156, Tryz.ntmps156
  go_wp2_with fail
  refine (wrap_any _ (-8388608) _ (by omega) (by omega) (.inr rfl)).mono ?_; rintro e w' ⟨rfl, rfl⟩
  go_wp2_with fail
  go_ret
  exact ⟨by unfold gapI; rfl, rfl⟩
def near (g : Int) : Bool := decide (g < 786432) && decide (-g < 786432)
theorem near_any (g : Int) (w : World) (h0 : -8388608 ≤ g) (h1 : g < 8388608) :
    Calls Tryz.prog 155 #[.int .i32 g] w fun e w' => e = .returned (.bool (near g)) ∧ w = w' := by
  go_enter Tryz.func155, Tryz.ntmps155
  by_cases ha : g < 786432
  · by_cases hb : -g < 786432
    · have e : near g = true := by unfold near; rw [decide_eq_true ha, decide_eq_true hb]; rfl
      have E := Lib.hid e
      clear e
      go_wp2_with fail
      go_ret
      exact ⟨by rw [E.out]; rfl, rfl⟩
    · have e : near g = false := by unfold near; rw [decide_eq_true ha, decide_eq_false hb]; rfl
      have E := Lib.hid e
      clear e
      go_wp2_with fail
      go_ret
      exact ⟨by rw [E.out]; rfl, rfl⟩
  · have e : near g = false := by unfold near; rw [decide_eq_false ha]; rfl
    have E := Lib.hid e
    clear e
    go_wp2_with fail
    go_ret
    exact ⟨by rw [E.out]; rfl, rfl⟩
def hitsI (ax ay bx by_ : Int) : Bool := near (gapI ax bx) && near (gapI ay by_)
theorem hits_any (ax ay bx by_ : Int) (w : World) (h0 : 0 ≤ ax ∧ ax < 16777216) (h1 : 0 ≤ ay ∧ ay < 16777216) (h2 : 0 ≤ bx ∧ bx < 16777216) (h3 : 0 ≤ by_ ∧ by_ < 16777216) :
    Calls Tryz.prog 145 #[.int .i32 ax, .int .i32 ay, .int .i32 bx, .int .i32 by_] w fun e w' => e = .returned (.bool (hitsI ax ay bx by_)) ∧ w = w' := by
  have b1 := gapI_bd ax bx
  have b2 := gapI_bd ay by_
  have G1 := Lib.hid (fun w => gap_any ax bx w (by omega) (by omega) (by omega) (by omega))
  have G2 := Lib.hid (fun w => gap_any ay by_ w (by omega) (by omega) (by omega) (by omega))
  have N1 := Lib.hid (fun w => near_any (gapI ax bx) w b1.1 b1.2)
  have N2 := Lib.hid (fun w => near_any (gapI ay by_) w b2.1 b2.2)
  obtain ⟨q1, hq1⟩ : ∃ q, near (gapI ax bx) = q := ⟨_, rfl⟩
  obtain ⟨q2, hq2⟩ : ∃ q, near (gapI ay by_) = q := ⟨_, rfl⟩
  have HQ : Hid (hitsI ax ay bx by_ = (q1 && q2)) := Lib.hid (by unfold hitsI; rw [hq1, hq2])
  rw [hq1] at N1
  rw [hq2] at N2
  clear hq1 hq2 b1 b2 h0 h1 h2 h3
  go_enter Tryz.func145, Tryz.ntmps145
  go_wp2_with fail
  refine (G1.out _).mono ?_; rintro e w' ⟨rfl, rfl⟩
  go_wp2_with fail
  refine (N1.out _).mono ?_; rintro e w' ⟨rfl, rfl⟩
  cases q1
  · go_wp2_with fail
    go_ret
    exact ⟨by rw [HQ.out]; rfl, rfl⟩
  · go_wp2_with fail
    refine (G2.out _).mono ?_; rintro e w' ⟨rfl, rfl⟩
    go_wp2_with fail
    refine (N2.out _).mono ?_; rintro e w' ⟨rfl, rfl⟩
    go_wp2_with fail
    go_ret
    exact ⟨by rw [HQ.out]; rfl, rfl⟩
theorem axis_any (a : Int) (w : World) (h0 : -128 ≤ a) (h1 : a ≤ 127) :
    Calls Tryz.prog 141 #[.int .i8 a] w fun e w' => e = .returned (.int .i8 (max a (-127))) ∧ w = w' := by
  go_enter Tryz.func141, Tryz.ntmps141
  go_wp2_with fail
  all_goals
    go_ret
    exact ⟨ret_int (by omega), rfl⟩
theorem add1_any (a b : Int) (w : World) (h0 : -1000000 ≤ a) (h1 : a ≤ 1000000) (h2 : -1000000 ≤ b) (h3 : b ≤ 1000000) :
    Calls Tryz.prog 159 #[.int .i64 a, .int .i64 b] w fun e w' => e = .returned (.int .i64 (a + b)) ∧ w = w' := by
  go_enter Tryz.func159, Tryz.ntmps159
  go_wp2_with fail
  go_ret
  exact ⟨rfl, rfl⟩
theorem cut_any (a : Int) (w : World) (h0 : -2000000 ≤ a) (h1 : a ≤ 2000000) :
    Calls Tryz.prog 160 #[.int .i64 a] w fun e w' => e = .returned (.int .i32 a) ∧ w = w' := by
  go_enter Tryz.func160, Tryz.ntmps160
  go_wp2_with fail
  go_ret
  exact ⟨rfl, rfl⟩
theorem add_any (a b : Int) (w : World) (h0 : -1000000 ≤ a) (h1 : a ≤ 1000000) (h2 : -1000000 ≤ b) (h3 : b ≤ 1000000) :
    Calls Tryz.prog 152 #[.int .i32 a, .int .i32 b] w fun e w' => e = .returned (.int .i32 (a + b)) ∧ w = w' := by
  have HA := Lib.hid (fun w => add1_any a b w h0 h1 h2 h3)
  have HC := Lib.hid (fun w => cut_any (a + b) w (by omega) (by omega))
  have HD : Hid (∀ w, Calls Tryz.prog 158 #[.int .i32 a, .int .i32 b, .func (.func 159) #[] #[]] w fun e w' => e = .returned (.int .i32 (a + b)) ∧ w = w') := by
    intro w
    go_enter Tryz.func158, Tryz.ntmps158
    go_wp2_with fail
    refine (HA.out _).mono ?_; rintro e w' ⟨rfl, rfl⟩
    go_wp2_with fail
    refine (HC.out _).mono ?_; rintro e w' ⟨rfl, rfl⟩
    go_wp2_with fail
    go_ret
    exact ⟨rfl, rfl⟩
  clear HA HC
  go_enter Tryz.func152, Tryz.ntmps152
  go_wp2_with fail
  refine (HD.out _).mono ?_; rintro e w' ⟨rfl, rfl⟩
  go_wp2_with fail
  go_ret
  exact ⟨rfl, rfl⟩
def clampI (a : Int) : Int := min (max a (-524288)) 524288
theorem clamp_any (a : Int) (w : World) (h0 : -2000000 ≤ a) (h1 : a ≤ 2000000) :
    Calls Tryz.prog 151 #[.int .i32 a, .int .i32 (-524288), .int .i32 524288] w fun e w' => e = .returned (.int .i32 (clampI a)) ∧ w = w' := by
  by_cases ha : a < -524288
  · go_enter Tryz.func151, Tryz.ntmps151
    go_wp2_with fail
    go_ret
    exact ⟨ret_int (by unfold clampI; omega), rfl⟩
  · by_cases hb : 524288 < a
    · go_enter Tryz.func151, Tryz.ntmps151
      go_wp2_with fail
      go_ret
      exact ⟨ret_int (by unfold clampI; omega), rfl⟩
    · go_enter Tryz.func151, Tryz.ntmps151
      go_wp2_with fail
      go_ret
      exact ⟨ret_int (by unfold clampI; omega), rfl⟩
def pushI (v s : Int) : Int := clampI (v - v.tdiv 16 + 256 * s)
theorem pushI_bd (v s : Int) : -524288 ≤ pushI v s ∧ pushI v s ≤ 524288 := by unfold pushI clampI; omega
theorem push_any (v s : Int) (w : World) (h0 : -524288 ≤ v) (h1 : v ≤ 524288) (h2 : -128 ≤ s) (h3 : s ≤ 127) :
    Calls Tryz.prog 142 #[.int .i32 v, .int .i8 s] w fun e w' => e = .returned (.int .i32 (pushI v s)) ∧ w = w' := by
  obtain ⟨t, ht⟩ : ∃ t, v.tdiv 16 = t := ⟨_, rfl⟩
  have hb : -32768 ≤ t ∧ t ≤ 32768 := by
    rw [← ht]
    by_cases h : 0 ≤ v
    · rw [Int.tdiv_eq_ediv_of_nonneg h]; omega
    · have := Int.neg_tdiv (-v) 16
      rw [Int.neg_neg] at this
      rw [this, Int.tdiv_eq_ediv_of_nonneg (by omega)]; omega
  have HP : Hid (pushI v s = clampI (v - t + 256 * s)) := Lib.hid (by unfold pushI; rw [ht])
  obtain ⟨b0, b1⟩ := hb
  have HA := Lib.hid (fun w => add_any (v - t) (256 * s) w (by omega) (by omega) (by omega) (by omega))
  have HC := Lib.hid (fun w => clamp_any (v - t + 256 * s) w (by omega) (by omega))
  go_enter Tryz.func142, Tryz.ntmps142
  go_wp2_with fail
  refine (HA.out _).mono ?_; rintro e w' ⟨rfl, rfl⟩
  go_wp2_with fail
  refine (HC.out _).mono ?_; rintro e w' ⟨rfl, rfl⟩
  go_wp2_with fail
  go_ret
  exact ⟨by rw [HP.out]; rfl, rfl⟩
end Go.Proofs.YtdopfonebpklkaaGreat.game
namespace Go.Proofs.YtdopfonebpklkaaGreat.game
open Go

section
variable {P : Program} {ops : Array Oper} {md : Region.Mode} {Q : Exit → Act → World → Prop}
/-- Cells that hold their values as long as the store of that number has not come up. -/
abbrev Facts := List (Addr × Value × Nat)
def Held (T : Facts) (listed : Array Bool) (w : World) : Prop := ∀ t ∈ T, listed.getD t.2.2 true = false → w.cell? t.1 = some t.2.1
def wpAnyS (P : Program) (md : Region.Mode) (ops : Array Oper) (Q : Exit → Act → World → Prop) (T : Facts) : Nat → Array Bool → Act → World → Prop
  | 0, listed, a, w => Region.ready md ops listed = [] ∧ Q .normal a w
  | fuel + 1, listed, a, w =>
    (Region.ready md ops listed = [] → Q .normal a w) ∧
    ∀ i ∈ Region.ready md ops listed, wpOp P ops Q i (fun a' w' => Held T (listed.setIfInBounds i true) w' ∧ wpAnyS P md ops Q T fuel (listed.setIfInBounds i true) a' w') a w
theorem wpAny_of_S {T : Facts} : ∀ (fuel : Nat) (listed : Array Bool) (a : Act) (w : World), wpAnyS P md ops Q T fuel listed a w → wpAny P md ops Q fuel listed a w
  | 0, _, _, _, h => h
  | fuel + 1, _, _, _, h => ⟨h.1, fun i hi => wpOp_mono (fun a' w' h' => wpAny_of_S fuel _ a' w' h'.2) (h.2 i hi)⟩
/-- What has come up has come up behind what it waits for. -/
structure Closed (md : Region.Mode) (ops : Array Oper) (listed : Array Bool) : Prop where
  size : listed.size = ops.size
  closed : ∀ j oj, ops[j]? = some oj → listed.getD j false = true → ∀ e ∈ oj.after, Region.binds md e = true → listed.getD e.on false = true
theorem Closed.set {i : Nat} {listed : Array Bool} (inv : Closed md ops listed) (hi : i ∈ Region.ready md ops listed) : Closed md ops (listed.setIfInBounds i true) := by
  obtain ⟨_, oi, hoi, hall⟩ := mem_ready.1 hi
  refine ⟨by simp [inv.size], fun j oj hj hl e he hb => ?_⟩
  by_cases hij : i = j
  · subst hij
    have : oj = oi := Option.some.inj (hj.symm.trans hoi)
    subst this
    exact getD_set_true (hall e he hb)
  · rw [getD_set_ne false hij] at hl
    exact getD_set_true (inv.closed j oj hj hl e he hb)
theorem Held.unset {T : Facts} {i : Nat} {listed : Array Bool} {w : World} (hi : ∀ t ∈ T, t.2.2 ≠ i) (h : Held T (listed.setIfInBounds i true) w) : Held T listed w :=
  fun t ht hl => h t ht (by rw [getD_set_ne true (fun e => hi t ht e.symm)]; exact hl)
/-- An operation that may come up now may be taken first, if it yields its value wherever F holds, and F holds as long as it has not come up. -/
theorem wpAnyS_first {T : Facts} {F : World → Prop} {i : Nat} {oi : Oper} {v : Value} (hi : ops[i]? = some oi) (hsel : ∀ (j : Nat) (o : Oper) cs b, ops[j]? = some o → o.op ≠ .select cs b)
    (hQ : ∀ c a w, Q (.panic c) (a.put oi.dst v) w → Q (.panic c) a w) (hT : ∀ t ∈ T, t.2.2 ≠ i)
    (hF : ∀ listed w, Closed md ops listed → listed.getD i true = false → Held T listed w → F w) :
    ∀ (fuel : Nat) (listed : Array Bool) (a : Act) (w : World), Closed md ops listed →
      (∀ j oj, ops[j]? = some oj → j ≠ i → listed.getD j true = false → (∀ e ∈ oj.after, Region.binds md e = true → e.on ≠ i) → oi.apart ops oj = true) →
      i ∈ Region.ready md ops listed → YieldsIf P ops F oi v a → Held T listed w →
      wpAnyS P md ops Q T fuel (listed.setIfInBounds i true) (a.put oi.dst v) w → wpAnyS P md ops Q T (fuel + 1) listed a w := by
  intro fuel
  induction fuel with
  | zero =>
    intro listed a w inv _ hr hy hS H
    refine ⟨fun h => (by rw [h] at hr; cases hr), fun j hj => ?_⟩
    by_cases hji : j = i
    · subst hji
      exact hy.wpOp hi (hF listed w inv (mem_ready.1 hr).1 hS) ⟨fun t ht hl => hS t ht (by rw [getD_set_ne true (fun e => hT t ht e.symm)] at hl; exact hl), H⟩
    · have := ready_mono hj hji
      rw [H.1] at this
      cases this
  | succ fuel ih =>
    intro listed a w inv hfree hr hy hS H
    refine ⟨fun h => (by rw [h] at hr; cases hr), fun j hj => ?_⟩
    by_cases hji : j = i
    · subst hji
      exact hy.wpOp hi (hF listed w inv (mem_ready.1 hr).1 hS) ⟨fun t ht hl => hS t ht (by rw [getD_set_ne true (fun e => hT t ht e.symm)] at hl; exact hl), H⟩
    · have h1 := H.2 j (ready_mono hj hji)
      obtain ⟨hjun, oj, hoj, hall⟩ := mem_ready.1 hj
      have hnot : ∀ e ∈ oj.after, Region.binds md e = true → e.on ≠ i := fun e he hb heq => by
        have h1 := hall e he hb
        have h0 := (mem_ready.1 hr).1
        rw [heq, getD_both h0] at h1
        cases h1
      have h2 := wpOp_putIf hoj (hfree j oj hoj hji hjun hnot) (fun cs b => hsel i oi cs b hi) (fun cs b => hsel j oj cs b hoj) hQ hy h1
      have hfree' : ∀ k ok, ops[k]? = some ok → k ≠ i → (listed.setIfInBounds j true).getD k true = false →
          (∀ e ∈ ok.after, Region.binds md e = true → e.on ≠ i) → oi.apart ops ok = true := fun k ok hk hki hun hno => by
        refine hfree k ok hk hki ?_ hno
        by_cases hjk : j = k
        · subst hjk; exact hjun
        · rw [getD_set_ne true hjk] at hun; exact hun
      refine wpOp_mono (fun a' w' h3 => ?_) h2
      have hS' : Held T (listed.setIfInBounds j true) w' := by
        have := h3.2.1
        rw [Array.setIfInBounds_comm _ _ (Ne.symm hji)] at this
        exact this.unset hT
      refine ⟨hS', ih (listed.setIfInBounds j true) a' w' (inv.set hj) hfree' (ready_mono hr (Ne.symm hji)) h3.1 hS' ?_⟩
      rw [Array.setIfInBounds_comm _ _ hji]
      exact h3.2.2
def closedB (md : Region.Mode) (ops : Array Oper) (listed : Array Bool) : Bool :=
  decide (listed.size = ops.size) && (List.range ops.size).all fun j => !listed.getD j false || match ops[j]? with
    | some oj => oj.after.all fun e => !Region.binds md e || listed.getD e.on false
    | none => true
theorem closedB_spec {listed : Array Bool} (h : closedB md ops listed = true) : Closed md ops listed := by
  simp only [closedB, Bool.and_eq_true, decide_eq_true_eq] at h
  obtain ⟨h1, h2⟩ := h
  refine ⟨h1, fun j oj hj hl e he hb => ?_⟩
  have a1 := List.all_eq_true.1 h2 j (List.mem_range.2 (Array.getElem?_eq_some_iff.1 hj).1)
  simp only [hl, hj, Bool.not_true, Bool.false_or] at a1
  have a2 := Array.all_eq_true_iff_forall_mem.1 a1 e he
  simpa [hb] using a2
/-! ### The steps of a walk through such a region -/
/-- The state: what has come up is closed, the facts hold. -/
def Gs (P : Program) (ops : Array Oper) (Q : Exit → Act → World → Prop) (T : Facts) (fuel : Nat) (listed : Array Bool) (a : Act) (w : World) : Prop :=
  Closed .any ops listed → Held T listed w → wpAnyS P .any ops Q T fuel listed a w
variable {T : Facts} {fuel : Nat} {listed : Array Bool} {a : Act} {w : World}
theorem Gs_start {id : Nat} {W : World} {n : Nat} (hm : P.follows .mixedOrders = true) (hn : ops.size = n) (hh : Held T (Array.replicate n false) { W with drawn := W.drawn + 1 })
    (h : Gs P ops Q T n (Array.replicate n false) a { W with drawn := W.drawn + 1 }) : (Code.region id ops true).wp P Q a W := by
  refine wp_region_any hm ?_
  rw [hn]
  exact wpAny_of_S _ _ _ _ (h ⟨by simp [hn], fun j oj _ hl => by rw [getD_replicate_false] at hl; cases hl⟩ hh)
/-- Take number k first. -/
theorem Gs_take (F : World → Prop) (k : Nat) {o : Oper} {v : Value} (hQ : ∀ (d : Option Tmp) v c a w, Q (.panic c) (a.put d v) w → Q (.panic c) a w) (hi : ops[k]? = some o)
    (hs : Region.noSelect ops = true) (hf : Region.free .any ops listed k = true) (hr : (Region.ready .any ops listed).contains k = true) (hT : ∀ t ∈ T, t.2.2 ≠ k)
    (hF : ∀ listed w, Closed .any ops listed → listed.getD k true = false → Held T listed w → F w) (hy : YieldsIf P ops F o v a)
    (h : Gs P ops Q T fuel (listed.setIfInBounds k true) (a.put o.dst v) w) : Gs P ops Q T (fuel + 1) listed a w := by
  intro inv hh
  have hr' : k ∈ Region.ready .any ops listed := by simpa using hr
  refine wpAnyS_first hi (Region.noSelect_spec hs) (fun c a w => hQ _ _ c a w) hT hF fuel listed a w inv (Region.free_spec hi hf) hr' hy hh (h (inv.set hr') ?_)
  intro t ht hl
  exact hh t ht (by rw [getD_set_ne true (fun e => hT t ht e.symm)] at hl; exact hl)
theorem Gs_move (k : Nat) {o : Oper} (hQ : ∀ (d : Option Tmp) v c a w, Q (.panic c) (a.put d v) w → Q (.panic c) a w) (hs : Region.noSelect ops = true) (hi : ops[k]? = some o) (x : Operand) (ho : o.op = .move x) (hg : o.guard = none) (dst : Option Tmp) (hd : o.dst = dst)
    (hf : Region.free .any ops listed k = true) (hr : (Region.ready .any ops listed).contains k = true) (hT : ∀ t ∈ T, t.2.2 ≠ k) (v : Value) (hv : a.eval x = v)
    (h : Gs P ops Q T fuel (listed.setIfInBounds k true) (a.put dst v) w) : Gs P ops Q T (fuel + 1) listed a w :=
  Gs_take (v := v) (fun _ => True) k hQ hi hs hf hr hT (fun _ _ _ _ _ => trivial) (.inl ⟨by simp [Region.wanted, hg], fun w _ => by unfold execOp; rw [ho, ← hv]; rfl⟩) (by rw [hd]; exact h)
theorem Gs_nil (k : Nat) {o : Oper} (hQ : ∀ (d : Option Tmp) v c a w, Q (.panic c) (a.put d v) w → Q (.panic c) a w) (hs : Region.noSelect ops = true) (hi : ops[k]? = some o) (x : Operand) (ho : o.op = .nilCheck x) (hg : o.guard = none) (dst : Option Tmp) (hd : o.dst = dst)
    (hf : Region.free .any ops listed k = true) (hr : (Region.ready .any ops listed).contains k = true) (hT : ∀ t ∈ T, t.2.2 ≠ k) (p : Addr) (hv : a.eval x = .pointer (some p))
    (h : Gs P ops Q T fuel (listed.setIfInBounds k true) (a.put dst (.pointer (some p))) w) : Gs P ops Q T (fuel + 1) listed a w :=
  Gs_take (v := .pointer (some p)) (fun _ => True) k hQ hi hs hf hr hT (fun _ _ _ _ _ => trivial) (.inl ⟨by simp [Region.wanted, hg], fun w _ => by unfold execOp; rw [ho]; simp only [hv]; rfl⟩) (by rw [hd]; exact h)
theorem Gs_field (k : Nat) {o : Oper} (hQ : ∀ (d : Option Tmp) v c a w, Q (.panic c) (a.put d v) w → Q (.panic c) a w) (hs : Region.noSelect ops = true) (hi : ops[k]? = some o) (ty : TypeId) (x : Operand) (j : Nat) (ho : o.op = .fieldAddr ty x j) (hg : o.guard = none) (dst : Option Tmp) (hd : o.dst = dst)
    (hf : Region.free .any ops listed k = true) (hr : (Region.ready .any ops listed).contains k = true) (hT : ∀ t ∈ T, t.2.2 ≠ k) (p q : Addr) (hv : a.eval x = .pointer (some p)) (hrun : ∀ w, (Instr.fieldAt ty (.pointer (some p)) j).run P w = .ok (.pointer (some q)) w)
    (h : Gs P ops Q T fuel (listed.setIfInBounds k true) (a.put dst (.pointer (some q))) w) : Gs P ops Q T (fuel + 1) listed a w :=
  Gs_take (v := .pointer (some q)) (fun _ => True) k hQ hi hs hf hr hT (fun _ _ _ _ _ => trivial) (.inl ⟨by simp [Region.wanted, hg], fun w _ => by unfold execOp; rw [ho]; simp only [hv, Sem.run_bind, hrun, Result.andThen_ok, Sem.run_pure]⟩) (by rw [hd]; exact h)
theorem Gs_load (k d : Nat) {o : Oper} (hQ : ∀ (d : Option Tmp) v c a w, Q (.panic c) (a.put d v) w → Q (.panic c) a w) (hs : Region.noSelect ops = true) (hi : ops[k]? = some o) (ty : TypeId) (x : Operand) (ho : o.op = .load ty x) (hg : o.guard = none) (dst : Option Tmp) (hd : o.dst = dst)
    (hf : Region.free .any ops listed k = true) (hr : (Region.ready .any ops listed).contains k = true) (hT : ∀ t ∈ T, t.2.2 ≠ k) (p : Addr) (hv : a.eval x = .pointer (some p)) (ha : ∀ w, (isAgg ty).run P w = .ok false w)
    (v : Value) (hm : (p, v, d) ∈ T) (hw : Region.waitsFor .any ops d k = true)
    (h : Gs P ops Q T fuel (listed.setIfInBounds k true) (a.put dst v) w) : Gs P ops Q T (fuel + 1) listed a w := by
  refine Gs_take (v := v) (fun w => w.cell? p = some v) k hQ hi hs hf hr hT (fun listed w inv hk hh => ?_) (.inl ⟨by simp [Region.wanted, hg], fun w hc => ?_⟩) (by rw [hd]; exact h)
  · obtain ⟨od, hod, e, he, hb, hon⟩ := Region.waitsFor_spec hw
    refine hh _ hm ?_
    have hlt : d < listed.size := by rw [inv.size]; exact (Array.getElem?_eq_some_iff.1 hod).1
    cases hl : listed.getD d false with
    | true =>
      have := inv.closed d od hod hl e he hb
      rw [hon, getD_both hk] at this
      cases this
    | false => exact getD_in hlt hl
  · unfold execOp
    rw [ho]
    simp only [hv, Sem.run_bind, Instr.loadAt, Instr.sureAddr, Sem.run_pure, Result.andThen_ok, loadVar, ha, Bool.false_eq_true, if_false, run_load, hc]
theorem Gs_bin (k : Nat) {o : Oper} (hQ : ∀ (d : Option Tmp) v c a w, Q (.panic c) (a.put d v) w → Q (.panic c) a w) (hs : Region.noSelect ops = true) (hi : ops[k]? = some o) (hg : o.guard = none) (dst : Option Tmp) (hd : o.dst = dst)
    (hf : Region.free .any ops listed k = true) (hr : (Region.ready .any ops listed).contains k = true) (hT : ∀ t ∈ T, t.2.2 ≠ k) (v : Value) (hrun : ∀ w, (execOp a.eval o).run P w = .ok (.value v) w)
    (h : Gs P ops Q T fuel (listed.setIfInBounds k true) (a.put dst v) w) : Gs P ops Q T (fuel + 1) listed a w :=
  Gs_take (v := v) (fun _ => True) k hQ hi hs hf hr hT (fun _ _ _ _ _ => trivial) (.inl ⟨by simp [Region.wanted, hg], fun w _ => hrun w⟩) (by rw [hd]; exact h)
/-- A quiet call, alone ready. -/
theorem Gs_call (k : Nat) {o : Oper} (hi : ops[k]? = some o) (hg : o.guard = none) (dst : Option Tmp) (hd : o.dst = dst) (hr : Region.ready .any ops listed = [k]) (hT : ∀ t ∈ T, t.2.2 ≠ k) (f : FuncId) (vs : Array Value) (hrun : (execOp a.eval o).run P w = .ok (.enter f vs) w)
    (v : Value) (hc : Calls P f vs w fun e w' => e = .returned v ∧ w = w')
    (h : Gs P ops Q T fuel (listed.setIfInBounds k true) (a.put dst v) w) : Gs P ops Q T (fuel + 1) listed a w := by
  intro inv hh
  have hr' : k ∈ Region.ready .any ops listed := by rw [hr]; simp
  refine ⟨fun h0 => (by rw [h0] at hr'; cases hr'), fun i hik => ?_⟩
  rw [hr] at hik
  obtain rfl : i = k := by simpa using hik
  refine wpOp_of_stOp (K := fun a' => a' = a.put o.dst v) (fun a' ha => ?_) ?_
  · subst ha
    have hh' : Held T (listed.setIfInBounds i true) w := fun t ht hl => hh t ht (by rw [getD_set_ne true (fun e => hT t ht e.symm)] at hl; exact hl)
    rw [hd]
    exact ⟨hh', h (inv.set hr') hh'⟩
  · unfold stOp
    simp only [hi]
    rw [if_pos (by simp [Region.wanted, hg])]
    unfold Oper.still
    rw [hrun]
    exact ⟨rfl, v, hc.mono fun e w' hh => ⟨hh.1, hh.2.symm⟩, rfl⟩
theorem getD_set_true' {l : Array Bool} {i j : Nat} (h : l.getD j true = true) : (l.setIfInBounds i true).getD j true = true := by
  by_cases e : i = j
  · subst e
    simp only [Array.getD_eq_getD_getElem?, Array.getElem?_setIfInBounds]
    split <;> (try split) <;> simp_all
  · rw [getD_set_ne true e]; exact h
theorem wpAnyS_of_any : ∀ (fuel : Nat) {listed : Array Bool} {a : Act} {w : World}, (∀ t ∈ T, listed.getD t.2.2 true = true) → wpAny P md ops Q fuel listed a w → wpAnyS P md ops Q T fuel listed a w
  | 0, _, _, _, _, h => h
  | f + 1, _, _, _, ht, h => ⟨h.1, fun i hi => wpOp_mono (fun a' w' h' => ⟨fun t htm hl => (by rw [getD_set_true' (ht t htm)] at hl; cases hl), wpAnyS_of_any f (fun t htm => getD_set_true' (ht t htm)) h'⟩) (h.2 i hi)⟩
/-- The tail, from the store d on: forced. -/
theorem Gs_tail (d : Nat) (hr : Region.ready .any ops listed = [d]) (hd : ∀ t ∈ T, t.2.2 = d) (hB : Region.seqB .any ops (fuel + 1) d listed = true) (hz : (ops.toList.drop d).length = fuel + 1)
    (h : wpList P ops Q (ops.toList.drop d) a w) : Gs P ops Q T (fuel + 1) listed a w := by
  intro inv hh
  have hA := wpAny_of_seq (md := .any) (Q' := Q) (ops.toList.drop d) d listed a w (fun j => by simp [List.getElem?_drop]) (by rw [hz]; exact hB) h
  rw [hz] at hA
  refine ⟨hA.1, fun i hi => wpOp_mono (fun a' w' h' => ?_) (hA.2 i hi)⟩
  have hid : i = d := by rw [hr] at hi; simpa using hi
  have hall : ∀ t ∈ T, (listed.setIfInBounds i true).getD t.2.2 true = true := fun t ht => by
    rw [hd t ht, hid]
    simp
  exact ⟨fun t ht hl => (by rw [hall t ht] at hl; cases hl), wpAnyS_of_any fuel hall h'⟩
end
end Go.Proofs.YtdopfonebpklkaaGreat.game
