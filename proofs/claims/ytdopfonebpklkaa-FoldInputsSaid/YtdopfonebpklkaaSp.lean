/- game.Spawn, game.Remove at one slot, over games without shots. -/
import Derived.Test.YtdopfonebpklkaaMm
import Derived.WalkLawsBesides
import Derived.StillTailTactics
namespace Go.Proofs.Ytdopfonebpklkaa.game
open Go.ChangeShapes Go.WideShapes Go.ChangeAt Go.RowKit dice
set_option maxRecDepth 100000

def z21 : List Value := [.bool false, .int .i32 0, .int .i32 0, .int .i32 0, .int .i32 0, .int .i64 0, .int .i64 0, .bool false, .int .i32 0, .int .i32 0, .int .i32 0, .int .i32 0, .int .i64 0, .int .i64 0, .bool false, .int .i32 0, .int .i32 0, .int .i32 0, .int .i32 0, .int .i64 0, .int .i64 0]
def z28 : List Value := [.bool false, .int .i32 0, .int .i32 0, .int .i32 0, .int .i32 0, .int .i64 0, .int .i64 0, .bool false, .int .i32 0, .int .i32 0, .int .i32 0, .int .i32 0, .int .i64 0, .int .i64 0, .bool false, .int .i32 0, .int .i32 0, .int .i32 0, .int .i32 0, .int .i64 0, .int .i64 0, .bool false, .int .i32 0, .int .i32 0, .int .i32 0, .int .i32 0, .int .i64 0, .int .i64 0]
/-- A game without shots, in which slot 3 alone may have a ship, still. -/
def gq (fr d : Int) (o : Bool) (x y : Int) : Array Value := (.int .i64 fr :: .int .u64 d :: (z21 ++ (.bool o :: .int .i32 x :: .int .i32 y :: .int .i32 0 :: .int .i32 0 :: .int .i64 0 :: .int .i64 0 :: (z28 ++ [.slice none 0 0])))).toArray
theorem gq_gz (fr d : Int) : gq fr d false 0 0 = gz fr d := rfl
theorem gq_gm (fr d : Int) (o : Bool) (x y : Int) (h : OkShip o x y 0 0 0 0) : Gm (gq fr d o x y) fr d := by
  refine ⟨rfl, by simp [gq, z21, z28, Value.oneCell'], rfl, rfl, rfl, fun k hk => ?_⟩
  have hz : OkShip false 0 0 0 0 0 0 := by unfold OkShip; simp
  match k, hk with
  | 0, _ | 1, _ | 2, _ | 4, _ | 5, _ | 6, _ | 7, _ => exact ⟨_, _, _, _, _, _, _, rfl, rfl, rfl, rfl, rfl, rfl, rfl, hz⟩
  | 3, _ => exact ⟨_, _, _, _, _, _, _, rfl, rfl, rfl, rfl, rfl, rfl, rfl, h⟩
theorem eq_nil (w : World) : (binOp .eql 31 (.slice none 0 0) (.slice none 0 0)).run Try.prog w = .ok (.bool true) w := by
  have h := run_equal_slice_nil (P := Try.prog) w 31 75 none 0 0 Try.underlying31
  simp only [binOp]
  simp [h]
theorem clone_nil (w : World) : Calls Try.prog 39 #[.slice none 0 0] w fun e w' => e = .returned (.slice none 0 0) ∧ w = w' := by
  have he := eq_nil w
  go_enter Try.func39, Try.ntmps39
  go_wp2_with fail
  go_ret
  exact ⟨rfl, rfl⟩
theorem delete_nil (f : Value) (w : World) : Calls Try.prog 55 #[.slice none 0 0, f] w fun e w' => e = .returned (.slice none 0 0) ∧ w = w' := by
  go_enter Try.func55, Try.ntmps55
  go_wp2_with fail
  refine (indexShots_nil _ _).mono ?_; rintro e w' ⟨rfl, rfl⟩
  go_wp2_with fail
  go_ret
  exact ⟨rfl, rfl⟩
theorem ship3 (fr d : Int) (o : Bool) (x y : Int) (is : Bool) (w : World) (h : OkShip o x y 0 0 0 0) (h0 : 0 ≤ fr) (h1 : fr ≤ 1048576) :
    Calls Try.prog 54 #[.agg (gq fr d o x y), .int .i64 3, .bool is] w fun e w' => e = .returned (.bool (o == is)) ∧ Below w.heap.size w w' := by
  have HM := Lib.hid (fun w => may_any _ fr d w (gq_gm fr d o x y h) h0 h1)
  clear h h0 h1
  have H := St.start w
  have hc : (gq fr d o x y)[23]? = some (.bool o) := rfl
  have Hc := Lib.hid hc
  clear hc
  go_enter Try.func54, Try.ntmps54
  go_wp2_with (first | (refine wl_box H rfl 33 _ rfl (gq fr d o x y) rfl ?_; clear H; intro b w H) | (refine wl_whole H rfl 0 33 _ rfl _ rfl _ rfl _ Try.underlying33 rfl 59 info28 rfl ?_))
  refine (HM.out _).mono ?_; rintro e w' ⟨rfl, hb⟩
  replace H := H.call hb
  clear hb
  go_wp2_with (first | (refine wl_cell H rfl 0 4 _ rfl _ _ rfl _ _ rfl Try.isAgg4 (.bool o) Hc.out ?_))
  go_ret
  exact ⟨rfl, H.below⟩
theorem spawn_bad (fr d x y : Int) (w : World) (h : OkShip true x y 0 0 0 0) (h0 : 0 ≤ fr) (h1 : fr ≤ 1048576) :
    Calls Try.prog 38 #[.agg (gq fr d true x y), .int .i64 3] w fun e w' => e = .returned (.tuple #[.agg (gq fr d true x y), .int .i64 1]) ∧ Below w.heap.size w w' := by
  have HS := Lib.hid (fun w => ship3 fr d true x y false w h h0 h1)
  clear h h0 h1
  have H := St.start w
  go_enter Try.func38, Try.ntmps38
  go_wp2_with (first | (refine wl_box H rfl 33 _ rfl (gq fr d true x y) rfl ?_; clear H; intro b w H) | (refine wl_alloc H rfl 33 rfl _ Try.zeroValue33 ?_; clear H; intro b w H) | (refine wl_whole H rfl 1 33 _ rfl _ rfl _ rfl _ Try.underlying33 rfl 59 info28 rfl ?_))
  refine (HS.out _).mono ?_; rintro e w' ⟨rfl, hb⟩
  replace H := H.call hb
  clear hb
  go_wp2_with (first | (refine wl_whole H rfl 1 33 _ rfl _ rfl _ rfl _ Try.underlying33 rfl 59 info28 rfl ?_) | (refine wl_put H rfl 0 33 _ _ rfl _ _ rfl _ _ rfl (.agg _) rfl 59 info28 rfl rfl rfl ?_; clear H; intro w H))
  refine bodyPost_ret (v := .tuple #[.agg (gq fr d true x y), .int .i64 1]) ?_ rfl ⟨rfl, H.below⟩
  exact res2 rfl rfl rfl (H.holds _ (List.mem_cons_self ..)) rfl
theorem spawn_ok (fr d : Int) (w : World) (h0 : 0 ≤ fr) (h1 : fr ≤ 1048576) :
    Calls Try.prog 38 #[.agg (gq fr d false 0 0), .int .i64 3] w fun e w' => e = .returned (.tuple #[.agg (gq fr (next (next d)) true (px d) (py d)), .int .i64 0]) ∧ Below w.heap.size w w' := by
  have hz : OkShip false 0 0 0 0 0 0 := by unfold OkShip; simp
  have HS := Lib.hid (fun w => ship3 fr d false 0 0 false w hz h0 h1)
  clear hz h0 h1
  have H := St.start w
  go_enter Try.func38, Try.ntmps38
  go_wp2_with (first | (refine wl_box H rfl 33 _ rfl (gq fr d false 0 0) rfl ?_; clear H; intro b w H) | (refine wl_alloc H rfl 33 rfl _ Try.zeroValue33 ?_; clear H; intro b w H) | (refine wl_whole H rfl 1 33 _ rfl _ rfl _ rfl _ Try.underlying33 rfl 59 info28 rfl ?_))
  refine (HS.out _).mono ?_; rintro e w' ⟨rfl, hb⟩
  replace H := H.call hb
  clear hb
  go_wp2_with (first | (refine wl_alloc H rfl 29 rfl _ Try.zeroValue29 ?_; clear H; intro b w H) | (refine wl_put H rfl 0 29 _ _ rfl _ _ rfl _ _ rfl (.agg _) rfl 7 info24 rfl rfl rfl ?_; clear H; intro w H) | (refine wl_cell H rfl 2 27 _ rfl _ _ rfl _ _ rfl Try.isAgg27 (.int _ _) rfl ?_))
  refine (place_any d _).mono ?_; rintro e w' ⟨rfl, hb⟩
  replace H := H.call hb
  clear hb
  go_wp2_with (first | (refine wl_put H rfl 0 21 _ _ rfl _ _ rfl _ _ rfl (.int _ _) rfl 1 info21 rfl rfl rfl ?_; clear H; intro w H) | (refine wl_put H rfl 2 27 _ _ rfl _ _ rfl _ _ rfl (.int _ _) rfl 1 info22 rfl rfl rfl ?_; clear H; intro w H))
  refine wp_region_still_tail 7 (by kernel_rfl) (by kernel_rfl) ?_
  replace H : St _ ({ w with drawn := w.drawn + 1 } : World) _ := H.call ((Below.refl _ w).drew)
  generalize ({ w with drawn := w.drawn + 1 } : World) = W at *
  simp only [List.take_succ_cons, List.take_zero, List.drop_succ_cons, List.drop_zero]
  have e0 := H.holds _ (List.mem_cons_self ..)
  have e2 := H.holds _ (List.mem_cons_of_mem _ (List.mem_cons_of_mem _ (List.mem_cons_self ..)))
  have k0 : W.cell? ⟨b, 0, none⟩ = some (.bool true) := cell_of_row _ _ 0 _ _ _ e0
  have k1 : W.cell? ⟨b, 1, none⟩ = some (.int .i32 (px d)) := cell_of_row _ _ 1 _ _ _ e0
  have k2 : W.cell? ⟨b, 2, none⟩ = some (.int .i32 (py d)) := cell_of_row _ _ 2 _ _ _ e0
  have k3 : W.cell? ⟨b, 3, none⟩ = some (.int .i32 0) := cell_of_row _ _ 3 _ _ _ e0
  have k4 : W.cell? ⟨b, 4, none⟩ = some (.int .i32 0) := cell_of_row _ _ 4 _ _ _ e0
  have k5 : W.cell? ⟨b, 5, none⟩ = some (.int .i64 0) := cell_of_row _ _ 5 _ _ _ e0
  have k6 : W.cell? ⟨b, 6, none⟩ = some (.int .i64 0) := cell_of_row _ _ 6 _ _ _ e0
  have k58 := (cell_of_row _ _ 58 _ _ _ e2).trans (show _ = some (.slice none 0 0) from rfl)
  clear e0 e2
  repeat still_step
  still_call ((clone_nil _).mono fun _ _ h => ⟨h.1, h.2.symm⟩)
  repeat still_step
  refine wpStill_nil ?_
  clear k0 k1 k2 k3 k4 k5 k6 k58
  go_wp2_with (first | (refine wl_put H rfl 2 29 _ _ rfl _ _ rfl _ _ rfl (.agg _) rfl 7 info24 rfl rfl rfl ?_; clear H; intro w H) | (refine wl_put H rfl 2 31 _ _ rfl _ _ rfl _ _ rfl (.slice _ _ _) rfl 1 info26 rfl rfl rfl ?_; clear H; intro w H) | (refine wl_whole H rfl 2 33 _ rfl _ rfl _ rfl _ Try.underlying33 rfl 59 info28 rfl ?_) | (refine wl_put H rfl 1 33 _ _ rfl _ _ rfl _ _ rfl (.agg _) rfl 59 info28 rfl rfl rfl ?_; clear H; intro w H))
  refine bodyPost_ret (v := .tuple #[.agg (gq fr (next (next d)) true (px d) (py d)), .int .i64 0]) ?_ rfl ⟨rfl, H.below⟩
  exact res2 rfl rfl rfl (H.holds _ (List.mem_cons_of_mem _ (List.mem_cons_self ..))) rfl
theorem remove_bad (fr d : Int) (w : World) (h0 : 0 ≤ fr) (h1 : fr ≤ 1048576) :
    Calls Try.prog 37 #[.agg (gq fr d false 0 0), .int .i64 3] w fun e w' => e = .returned (.tuple #[.agg (gq fr d false 0 0), .int .i64 1]) ∧ Below w.heap.size w w' := by
  have hz : OkShip false 0 0 0 0 0 0 := by unfold OkShip; simp
  have HS := Lib.hid (fun w => ship3 fr d false 0 0 true w hz h0 h1)
  clear hz h0 h1
  have H := St.start w
  go_enter Try.func37, Try.ntmps37
  go_wp2_with (first | (refine wl_box H rfl 33 _ rfl (gq fr d false 0 0) rfl ?_; clear H; intro b w H) | (refine wl_box H rfl 3 _ rfl #[.int .i64 3] rfl ?_; clear H; intro b w H) | (refine wl_alloc H rfl 33 rfl _ Try.zeroValue33 ?_; clear H; intro b w H) | (refine wl_whole H rfl 2 33 _ rfl _ rfl _ rfl _ Try.underlying33 rfl 59 info28 rfl ?_) | (refine wl_cell H rfl 1 3 _ rfl _ _ rfl _ _ rfl Try.isAgg3 (.int _ _) rfl ?_))
  refine (HS.out _).mono ?_; rintro e w' ⟨rfl, hb⟩
  replace H := H.call hb
  clear hb
  go_wp2_with (first | (refine wl_whole H rfl 2 33 _ rfl _ rfl _ rfl _ Try.underlying33 rfl 59 info28 rfl ?_) | (refine wl_put H rfl 0 33 _ _ rfl _ _ rfl _ _ rfl (.agg _) rfl 59 info28 rfl rfl rfl ?_; clear H; intro w H))
  refine bodyPost_ret (v := .tuple #[.agg (gq fr d false 0 0), .int .i64 1]) ?_ rfl ⟨rfl, H.below⟩
  exact res2 rfl rfl rfl (H.holds _ (List.mem_cons_self ..)) rfl
theorem remove_ok (fr d x y : Int) (w : World) (h : OkShip true x y 0 0 0 0) (h0 : 0 ≤ fr) (h1 : fr ≤ 1048576) :
    Calls Try.prog 37 #[.agg (gq fr d true x y), .int .i64 3] w fun e w' => e = .returned (.tuple #[.agg (gq fr d false 0 0), .int .i64 0]) ∧ Below w.heap.size w w' := by
  have HS := Lib.hid (fun w => ship3 fr d true x y true w h h0 h1)
  clear h h0 h1
  have H := St.start w
  go_enter Try.func37, Try.ntmps37
  go_wp2_with (first | (refine wl_box H rfl 33 _ rfl (gq fr d true x y) rfl ?_; clear H; intro b w H) | (refine wl_box H rfl 3 _ rfl #[.int .i64 3] rfl ?_; clear H; intro b w H) | (refine wl_alloc H rfl 33 rfl _ Try.zeroValue33 ?_; clear H; intro b w H) | (refine wl_whole H rfl 2 33 _ rfl _ rfl _ rfl _ Try.underlying33 rfl 59 info28 rfl ?_) | (refine wl_cell H rfl 1 3 _ rfl _ _ rfl _ _ rfl Try.isAgg3 (.int _ _) rfl ?_))
  refine (HS.out _).mono ?_; rintro e w' ⟨rfl, hb⟩
  replace H := H.call hb
  clear hb
  go_wp2_with (first | (refine wl_cell H rfl 1 3 _ rfl _ _ rfl _ _ rfl Try.isAgg3 (.int _ _) rfl ?_) | (refine wl_put H rfl 2 29 _ _ rfl _ _ rfl _ _ rfl (.agg _) rfl 7 info24 rfl rfl rfl ?_; clear H; intro w H) | (refine wl_cell H rfl 2 31 _ rfl _ _ rfl _ _ rfl Try.isAgg31 (.slice _ _ _) rfl ?_))
  refine (clone_nil _).mono ?_; rintro e w' ⟨rfl, rfl⟩
  go_wp2_with fail
  refine (delete_nil _ _).mono ?_; rintro e w' ⟨rfl, rfl⟩
  go_wp2_with (first | (refine wl_put H rfl 2 31 _ _ rfl _ _ rfl _ _ rfl (.slice _ _ _) rfl 1 info26 rfl rfl rfl ?_; clear H; intro w H) | (refine wl_whole H rfl 2 33 _ rfl _ rfl _ rfl _ Try.underlying33 rfl 59 info28 rfl ?_) | (refine wl_put H rfl 0 33 _ _ rfl _ _ rfl _ _ rfl (.agg _) rfl 59 info28 rfl rfl rfl ?_; clear H; intro w H))
  refine bodyPost_ret (v := .tuple #[.agg (gq fr d false 0 0), .int .i64 0]) ?_ rfl ⟨rfl, H.below⟩
  exact res2 rfl rfl rfl (H.holds _ (List.mem_cons_self ..)) rfl
end Go.Proofs.Ytdopfonebpklkaa.game
