/- 'GameShots': the walk of the law. -/
import Derived.Test.YtijnfeigoggaeaaSs
import Derived.Test.YtijnfeigoggaeaaAm
import Derived.Test.YtijnfeigoggaeaaTd
import Derived.Deep.DeepCutAuto
import Derived.BigRegion
import Derived.Deep.LoopGhost
namespace Go.Proofs.Ytijnfeigoggaeaa.game
open Go.ChangeShapes Go.WideShapes Go.ChangeAt Go.RowKit dice
set_option maxRecDepth 100000

def wayX (k : Nat) : Int := [1, 1, 0, -1, -1, -1, 0, 1].getD k 0
def wayY (k : Nat) : Int := [0, 1, 1, 1, 0, -1, -1, -1].getD k 0
def S0 : List Shp := List.replicate 8 zShp
theorem gq_gameC (d : Int) : gq 0 d false 0 0 = gameC 0 d S0 (.slice none 0 0) := rfl
theorem new_gameC (s : ByteArray) (w : World) (hs : s.size ≤ maxLen) (d : Int) (hd : seed s.data.toList = d) :
    Calls Try.prog 27 #[.string s] w fun e w' => e = .returned (.agg (gameC 0 d S0 (.slice none 0 0))) ∧ Below w.heap.size w w' := new_gq s w hs d hd
theorem first_none (s : Sht) : firstHit s S0 = none := by
  unfold firstHit
  rw [List.find?_eq_none]
  intro j _
  have hz : S0.getD j zShp = zShp := by
    rw [List.getD_eq_getElem?_getD]
    cases h : S0[j]? with
    | none => rfl
    | some t => exact List.eq_of_mem_replicate (List.mem_of_getElem? h)
  rw [hz]
  simp [passes, zShp]
theorem s0_ok : ∀ t ∈ S0, t.ok := fun t ht => by rw [List.eq_of_mem_replicate ht]; unfold Shp.ok OkShip zShp; simp
theorem s0_off : ∀ t ∈ S0, t.on = false := fun t ht => by rw [List.eq_of_mem_replicate ht]; rfl
/-- The one shot behind so many frames. -/
def Lj (vx vy : Int) (j : Nat) (px py : Int) : List Sht := if j < 24 then [⟨2, px, py, vx, vy, 24 - (j : Int)⟩] else []
theorem fly_one (d vx vy : Int) (j : Nat) (px py : Int) : flyAll d S0 (Lj vx vy j px py) = ⟨d, S0, Lj vx vy (j + 1) (mv px vx) (mv py vy)⟩ := by
  unfold Lj
  by_cases h : j < 24
  · rw [if_pos h]
    by_cases h1 : j + 1 < 24
    · have e : flyF d S0 ⟨2, px, py, vx, vy, 24 - (j : Int)⟩ = ⟨true, d, S0⟩ := by
        unfold flyF
        have hl : (flown ⟨2, px, py, vx, vy, 24 - (j : Int)⟩).left = 24 - (j : Int) - 1 := rfl
        rw [if_neg (by rw [hl]; omega), first_none]
      rw [if_pos h1]
      simp only [flyAll, e, if_true, List.append_nil]
      unfold flown
      simp only [FlyA.mk.injEq, true_and, List.cons.injEq, and_true, Sht.mk.injEq]
      omega
    · have e : flyF d S0 ⟨2, px, py, vx, vy, 24 - (j : Int)⟩ = ⟨false, d, S0⟩ := by
        unfold flyF
        have hl : (flown ⟨2, px, py, vx, vy, 24 - (j : Int)⟩).left = 24 - (j : Int) - 1 := rfl
        rw [if_pos (by rw [hl]; omega)]
      rw [if_neg h1]
      simp [flyAll, e]
  · rw [if_neg h, if_neg (by omega)]
    rfl
theorem lj_ok (vx vy : Int) (j : Nat) (px py : Int) (h1 : 0 ≤ px ∧ px < 16777216) (h2 : 0 ≤ py ∧ py < 16777216) (h3 : -393216 ≤ vx ∧ vx ≤ 393216) (h4 : -393216 ≤ vy ∧ vy ≤ 393216) : ∀ s ∈ Lj vx vy j px py, OkShot s := by
  intro s hs
  unfold Lj at hs
  split at hs
  · rw [List.mem_singleton.1 hs]
    exact ⟨by dsimp only; omega, by dsimp only; omega, h1.1, h1.2, h2.1, h2.2, h3.1, h3.2, h4.1, h4.2, by dsimp only; omega, by dsimp only; omega⟩
  · simp at hs
theorem lj_len (vx vy : Int) (j : Nat) (px py : Int) : (Lj vx vy j px py).length ≤ 1 := by
  unfold Lj
  split <;> simp
theorem side_bd (a : Int) : -393216 ≤ sideI a ∧ sideI a ≤ 393216 := by
  unfold sideI
  split
  · omega
  · split <;> omega
theorem Sb.noRows {Hs : List Nat} {W0 w : World} {l : List Blk} {R : List RowS} (h : Sb Hs W0 w l R) : Sb Hs W0 w l [] :=
  ⟨h.os, h.tape, h.output, h.size, h.fr, h.holds, h.ge, h.nd, fun _ h => by simp at h, fun _ h => by simp at h, fun _ h => by simp at h, by simp⟩
theorem info60 : (Try.prog.info? 60).map (·.size) = some 3 := by kernel_rfl
theorem way_some (k : Nat) (h : k < 8) : wayX k ≠ 0 ∨ wayY k ≠ 0 := by
  match k, h with
  | 0, _ | 1, _ | 2, _ | 3, _ | 4, _ | 5, _ | 6, _ | 7, _ => decide
theorem three3 (w : World) (a b c : Obj) : (((w.alloc a).alloc b).alloc c).drew.heap[w.heap.size + 1 + 1]? = some c := by
  show (((w.alloc a).alloc b).alloc c).heap[w.heap.size + 1 + 1]? = some c
  have := heap_alloc_last ((w.alloc a).alloc b) c
  simpa using this
theorem three2 (w : World) (a b c : Obj) : (((w.alloc a).alloc b).alloc c).drew.heap[w.heap.size + 1]? = some b := by
  show (((w.alloc a).alloc b).alloc c).heap[w.heap.size + 1]? = some b
  rw [Below.heap_alloc _ _ _ (by simp)]
  have := heap_alloc_last (w.alloc a) b
  simpa using this
theorem three1 (w : World) (a b c : Obj) : (((w.alloc a).alloc b).alloc c).drew.heap[w.heap.size]? = some a := by
  show (((w.alloc a).alloc b).alloc c).heap[w.heap.size]? = some a
  rw [Below.heap_alloc _ _ _ (by simp; omega), Below.heap_alloc _ _ _ (by simp)]
  exact heap_alloc_last w a
set_option maxHeartbeats 8000000 in
theorem shotsWalk (x y way n : Int) (w0' : World) (hx : -2147483648 ≤ x ∧ x ≤ 2147483647) (hy : -2147483648 ≤ y ∧ y ≤ 2147483647) (k : Nat) (hk8 : k < 8) (hk : wrap64 ((IntKind.u64.wrap way).tmod 8) = (k : Int)) (kn : Nat) (hkn31 : kn < 31) (hkn : wrap64 ((IntKind.u64.wrap n).tmod 31) = (kn : Int)) :
    Calls Try.prog 12 #[.int .i32 x, .int .i32 y, .int .i64 way, .int .i64 n] w0' fun e w' => e = .returned (.bool true) ∧ Below w0'.heap.size w0' w' := by
  obtain ⟨D, hD⟩ : ∃ D, seed [115] = D := ⟨_, rfl⟩
  have HD := Lib.hid hD
  clear hD
  go_enter Try.func12, Try.ntmps12
  go_upto_region 2 with fail
  go_cut [10] (fun v wx => ∃ b, v = .pointer (some ⟨b, 0, none⟩) ∧ Hid (w0'.heap.size ≤ b ∧ Below w0'.heap.size w0' wx ∧ wx.heap[b]? = some (.cells #[.int .i8 (wayX k), .int .i8 (wayY k), .int .u8 0] 60 (0, 0))))
  case first =>
    match k, hk8 with
    | 0, _ | 1, _ | 2, _ | 3, _ | 4, _ | 5, _ | 6, _ | 7, _ =>
      go_region
      all_goals (go_wp2_with fail; go_meet; exact ⟨_, rfl, Lib.hid ⟨by omega, by repeat (first | exact Below.refl _ _ | apply Below.drew | (refine Below.alloc ?_ (by simp; try omega) _)), by first | exact three3 _ _ _ _ | exact three2 _ _ _ _ | exact three1 _ _ _ _⟩⟩)
  case rest =>
    obtain ⟨b, rfl, HQ⟩ := hcut
    have H : Sb [] w0' wc [(b, #[.int .i8 (wayX k), .int .i8 (wayY k), .int .u8 0], 60)] [] :=
      ⟨HQ.out.2.1.os, HQ.out.2.1.tape, HQ.out.2.1.output, HQ.out.2.1.size, fun j hj _ => HQ.out.2.1.block j hj, fun p hp => by simp at hp; subst hp; exact HQ.out.2.2, fun p hp => by simp at hp; subst hp; exact .inl HQ.out.1, by simp, fun _ h => by simp at h, fun _ h => by simp at h, fun _ h => by simp at h, by simp⟩
    clear HQ
    go_wp2_with (refine wb_whole H rfl 0 60 _ rfl _ rfl #[.int .i8 (wayX k), .int .i8 (wayY k), .int .u8 0] rfl _ Try.underlying60 rfl 3 info60 rfl ?_)
    refine (aim_any (wayX k) (wayY k) 0 _ (way_some k hk8)).mono ?_; rintro e w' ⟨rfl, hb⟩
    replace H := H.call hb
    clear hb
    go_wp2_with fail
    refine (wrapPlace_any x _ hx.1 hx.2).mono ?_; rintro e w' ⟨rfl, rfl⟩
    go_wp2_with fail
    refine (wrapPlace_any y _ hy.1 hy.2).mono ?_; rintro e w' ⟨rfl, rfl⟩
    go_wp2_with fail
    refine (new_gameC ⟨#[115]⟩ _ (by decide) D HD.out).mono ?_; rintro e w2 ⟨rfl, hb⟩
    replace H := H.call hb
    clear hb
    generalize hvx : sideI (wayX k) = vx at *
    generalize hvy : sideI (wayY k) = vy at *
    generalize hpx : x % 16777216 = px0 at *
    generalize hpy : y % 16777216 = py0 at *
    have Hvx := Lib.hid hvx
    have Hvy := Lib.hid hvy
    have Hpx := Lib.hid hpx
    have Hpy := Lib.hid hpy
    clear hvx hvy hpx hpy
    have HS0 : Hid (S0.length = 8) := Lib.hid rfl
    go_wp2_with (first | (refine wb_alloc H rfl 28 rfl _ Try.zeroValue28 ?_; clear H; intro b15 w H) | (refine wb_put H rfl 0 28 _ _ rfl _ 0 rfl _ _ rfl (.agg (gameC 0 D S0 (.slice none 0 0))) rfl 59 info28 rfl (Nat.le_of_ble_eq_true rfl) rfl (gameC 0 D S0 (.slice none 0 0)) rfl ?_; clear H; intro w H) | (refine wb_put (H.new _ 79) rfl 1 26 _ _ rfl _ 58 rfl _ _ rfl (.slice (some ⟨w.heap.size, 0, none⟩) 1 1) rfl 1 info26 rfl (by rw [gc_size HS0.out]; omega) rfl _ (gc_setShots HS0.out _) ?_; clear H; intro w3 H3) | (refine wb_whole H3 rfl 1 28 _ rfl _ rfl (gameC 0 D S0 (.slice (some ⟨w.heap.size, 0, none⟩) 1 1)) rfl _ Try.underlying28 rfl 59 info28 (gc_size HS0.out) ?_))
    have hsh : ShotsIn w3 (.slice (some ⟨w.heap.size, 0, none⟩) 1 1) [⟨2, px0, py0, vx, vy, 24⟩] := .inr ⟨w.heap.size, 0, 1, rfl, H3.lt _ (List.mem_cons_self ..), fun j v hv => by
      have e := H3.holds _ (List.mem_cons_self ..)
      rw [Nat.zero_add, cell_of_row _ _ j _ _ _ e]
      show (cellsL [⟨2, px0, py0, vx, vy, 24⟩]).toArray[j]? = some v
      rw [List.getElem?_toArray]
      exact hv⟩
    have hbx : -393216 ≤ vx ∧ vx ≤ 393216 := by rw [← Hvx.out]; exact side_bd _
    have hby : -393216 ≤ vy ∧ vy ≤ 393216 := by rw [← Hvy.out]; exact side_bd _
    have hpx0 : 0 ≤ px0 ∧ px0 < 16777216 := by rw [← Hpx.out]; omega
    have hpy0 : 0 ≤ py0 ∧ py0 < 16777216 := by rw [← Hpy.out]; omega
    have hok0 : OkShot ⟨2, px0, py0, vx, vy, 24⟩ := lj_ok vx vy 0 px0 py0 hpx0 hpy0 hbx hby _ (by unfold Lj; simp)
    refine (mayS_any _ 0 D _ 1 [⟨2, px0, py0, vx, vy, 24⟩] _ (gc_gmS HS0.out rfl (fun t ht => by rw [List.eq_of_mem_replicate ht]; unfold Shp.ok OkShip zShp; simp)) hsh (fun s hs => by rw [List.mem_singleton.1 hs]; exact hok0) (by simp) (by omega) (by omega)).mono ?_; rintro e w4 ⟨rfl, hb⟩
    replace H3 := H3.call hb
    have Hsh := Lib.hid (hsh.later hb)
    clear hb hsh
    go_wp2_with fail
    have H4 : Sb [] w0' w4 [(b15, gameC 0 D S0 (.slice (some ⟨w.heap.size, 0, none⟩) 1 1), 28), (b, #[.int .i8 (wayX k), .int .i8 (wayY k), .int .u8 0], 60)] [] := H3.tail
    clear H3
    try rw [hkn]
    go_loopg [17, 13, 14] kn (fun gk i vpx vpy W => ∃ (j : Nat) (px py : Int) (ad : Option Addr) (c : Nat), j + gk = kn ∧ i = .int .i64 j ∧ vpx = .int .i32 px ∧ vpy = .int .i32 py ∧ (0 ≤ px ∧ px < 16777216) ∧ (0 ≤ py ∧ py < 16777216) ∧ Hid (ShotsIn W (.slice ad (Lj vx vy j px py).length c) (Lj vx vy j px py)) ∧ Hid (Sb [] w0' W [(b15, gameC j D S0 (.slice ad (Lj vx vy j px py).length c), 28), (b, #[.int .i8 (wayX k), .int .i8 (wayY k), .int .u8 0], 60)] []))
    case atStart => exact ⟨0, px0, py0, some ⟨w.heap.size, 0, none⟩, 1, Nat.zero_add _, rfl, rfl, rfl, hpx0, hpy0, Hsh, Lib.hid H4⟩
    case round =>
      clear H4 Hsh
      obtain ⟨j, px, py, ad, c, hj, rfl, rfl, rfl, hpx, hpy, HI, HB⟩ := hrel
      by_cases hlt : j < kn
      · have H := HB.out
        have hL1 := lj_len vx vy j px py
        have hfl := fly_one D vx vy j px py
        have hok := lj_ok vx vy j px py hpx hpy hbx hby
        generalize Lj vx vy j px py = L at *
        obtain ⟨L', hL'⟩ : ∃ L', Lj vx vy (j + 1) (mv px vx) (mv py vy) = L' := ⟨_, rfl⟩
        rw [hL'] at hfl
        have HL' := Lib.hid hL'
        have HST := Lib.hid (fun (ins : Array Value) => stepShots (j : Int) D S0 L ad c ins wr HS0.out s0_ok s0_off hok (by omega) (by omega) (by omega) HI.out)
        have HF := Lib.hid hfl
        clear hL' hfl hok HI HB hL1
        go_wp2_with (refine wb_whole H rfl 0 28 _ rfl _ rfl (gameC j D S0 (.slice ad L.length c)) rfl _ Try.underlying28 rfl 59 info28 (gc_size HS0.out) ?_)
        refine (HST.out _).mono ?_; rintro e w5 ⟨⟨sl', rfl, hown, hfr⟩, hb⟩
        rw [HF.out] at hown ⊢
        dsimp only at hown ⊢
        obtain ⟨ad', c', rfl⟩ := own_form hown
        replace H := H.addRow _ L' hown hb hfr
        have HONE := Lib.hid (show (Value.cells (.agg (gameC ((j : Int) + 1) D S0 (.slice ad' L'.length c')))).toList.all (·.oneCell') = true by
          have := gc_one (fr := (j : Int) + 1) (d := D) (S := S0) (sl := .slice ad' L'.length c') rfl
          simpa [Value.cells] using this)
        have HGS : Hid ((gameC ((j : Int) + 1) D S0 (.slice ad' L'.length c')).size = 59) := Lib.hid (gc_size HS0.out)
        have HGS0 : Hid ((gameC j D S0 (.slice ad L.length c)).size = 59) := Lib.hid (gc_size HS0.out)
        clear hown hb hfr HST
        have hj1 : (j : Int) + 1 ≤ 31 := by omega
        go_wp2_with (first | (refine wb_alloc H rfl 28 rfl _ Try.zeroValue28 ?_; clear H; intro b18 w9 H) | (refine wb_put H rfl 0 28 _ _ rfl _ 0 rfl _ _ rfl (.agg (gameC ((j : Int) + 1) D S0 (.slice ad' L'.length c'))) rfl 59 info28 HGS.out (Nat.le_of_ble_eq_true rfl) HONE.out (gameC ((j : Int) + 1) D S0 (.slice ad' L'.length c')) (splice_all _ (gameC ((j : Int) + 1) D S0 (.slice ad' L'.length c')) (by rw [HGS.out]; rfl)) ?_; clear H; intro w9 H))
        refine (move_any px vx _ (by omega) (by omega) (by omega) (by omega)).mono ?_; rintro e w' ⟨rfl, rfl⟩
        go_wp2_with fail
        refine (move_any py vy _ (by omega) (by omega) (by omega) (by omega)).mono ?_; rintro e w' ⟨rfl, rfl⟩
        go_wp2_with (first | (refine wb_whole H rfl 0 28 _ rfl _ rfl (gameC ((j : Int) + 1) D S0 (.slice ad' L'.length c')) rfl _ Try.underlying28 rfl 59 info28 HGS.out ?_) | (refine wb_put H rfl 1 28 _ _ rfl _ 0 rfl _ _ rfl (.agg (gameC ((j : Int) + 1) D S0 (.slice ad' L'.length c'))) rfl 59 info28 HGS.out (by rw [HGS0.out]; omega) HONE.out (gameC ((j : Int) + 1) D S0 (.slice ad' L'.length c')) (splice_all _ (gameC ((j : Int) + 1) D S0 (.slice ad' L'.length c')) (by rw [HGS0.out, HGS.out])) ?_; clear H; intro w9 H))
        replace H : Sb [] w0' w9 [(b18, _, 28), (b15, (gameC ((j : Int) + 1) D S0 (.slice ad' L'.length c')), 28), (b, #[.int .i8 (wayX k), .int .i8 (wayY k), .int .u8 0], 60)] [(.slice ad' L'.length c', L')] := H
        have hin := Own.shotsIn (H.rows _ (List.mem_cons_self ..))
        have hm1 := mv_bd px vx
        have hm2 := mv_bd py vy
        have HF2 : Hid (Sb [] w0' w9 [(b15, gameC ((j + 1 : Nat) : Int) D S0 (.slice ad' L'.length c'), 28), (b, #[.int .i8 (wayX k), .int .i8 (wayY k), .int .u8 0], 60)] []) := Lib.hid H.tail.noRows
        clear H
        rw [← HL'.out] at hin HF2
        go_roundg (gk - 1)
        case measure => omega
        case rel => exact ⟨j + 1, mv px vx, mv py vy, ad', c', by omega, rfl, rfl, rfl, hm1, hm2, Lib.hid hin, HF2⟩
      · obtain rfl : j = kn := by omega
        have H := HB.out
        have Hin := HI
        clear HI HB
        by_cases h24 : j < 24
        · have h24i : (j : Int) < 24 := by omega
          go_wp2_with fail
          refine (told_any _).mono ?_; rintro e w5 ⟨rfl, hb⟩
          replace H := H.call hb
          have hin5 := Hin.out.later hb
          clear hb Hin
          have hLj : Lj vx vy j px py = [⟨2, px, py, vx, vy, 24 - (j : Int)⟩] := by unfold Lj; rw [if_pos h24]
          rw [hLj] at H hin5
          rcases hin5 with ⟨e, _⟩ | ⟨A, o, c2, e, _, hc⟩
          · cases e
          · injection e with e1 _ e3
            subst e1 e3
            have hA : ShotAt w5 A o ⟨2, px, py, vx, vy, 24 - (j : Int)⟩ := by have := shot_at hc 0 _ rfl; simpa using this
            obtain ⟨q0, q1, q2, q3, q4, q5⟩ := hA
            have Hs58 := Lib.hid (gc_shots (fr := (j : Int)) (d := D) (S := S0) (sl := .slice (some ⟨A, o, none⟩) 1 c) HS0.out)
            clear hc
            dsimp only at q0 q1 q2 q3 q4 q5
            go_wp2_with (refine wb_cell H rfl 0 26 _ rfl _ 58 rfl _ _ rfl Try.isAgg26 (.slice (some ⟨A, o, none⟩) 1 c) Hs58.out ?_)
            go_ret
            exact ⟨rfl, H.below⟩
        · have h24i : 24 ≤ (j : Int) := by omega
          go_wp2_with fail
          refine (told_any _).mono ?_; rintro e w5 ⟨rfl, hb⟩
          replace H := H.call hb
          clear hb
          have hLj : Lj vx vy j px py = [] := by unfold Lj; rw [if_neg h24]
          rw [hLj] at H
          have Hs58 := Lib.hid (gc_shots (fr := (j : Int)) (d := D) (S := S0) (sl := .slice ad 0 c) HS0.out)
          go_wp2_with (refine wb_cell H rfl 0 26 _ rfl _ 58 rfl _ _ rfl Try.isAgg26 (.slice ad 0 c) Hs58.out ?_)
          go_ret
          exact ⟨rfl, H.below⟩
end Go.Proofs.Ytijnfeigoggaeaa.game
