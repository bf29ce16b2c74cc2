/- The document's answer: which games may be, over any game, as a truth (printed by mkrw.py). -/
import Derived.Test.YtijnfeigoggaeaaRe
import Derived.Test.YtijnfeigoggaeaaBm
namespace Go.Proofs.Ytijnfeigoggaeaa.game
open Go.ChangeShapes Go.WideShapes Go.ChangeAt Go.RowKit dice
set_option maxRecDepth 100000

theorem rin_b (a : Int) (w : World) : Calls Try.prog 87 #[.int .i32 a] w fun e w' => e = .returned (.bool (onB a)) ∧ w = w' := by
  by_cases h : 0 ≤ a
  · by_cases h' : a < 16777216
    · rw [show onB a = true by simp [onB, h, h']]; exact rin_any a w h h'
    · rw [show onB a = false by simp [onB, h']]
      have h' : 16777216 ≤ a := by omega
      go_enter Try.func87, Try.ntmps87
      go_wp2
      go_ret
      exact ⟨rfl, rfl⟩
  · rw [show onB a = false by simp [onB, h]]
    have h : a < 0 := by omega
    go_enter Try.func87, Try.ntmps87
    go_wp2
    go_ret
    exact ⟨rfl, rfl⟩
theorem rslow_b (a m : Int) (w : World) (hm : m = 524288 ∨ m = 393216) : Calls Try.prog 88 #[.int .i32 a, .int .i32 m] w fun e w' => e = .returned (.bool (sizeB a m)) ∧ w = w' := by
  by_cases h : -m ≤ a
  · by_cases h' : a ≤ m
    · rw [show sizeB a m = true by simp [sizeB, h, h']]
      exact rslow_any a m w hm h h'
    · rw [show sizeB a m = false by simp [sizeB, h']]
      have h' : m < a := by omega
      rcases hm with rfl | rfl <;>
      · go_enter Try.func88, Try.ntmps88
        go_wp2
        go_ret
        exact ⟨rfl, rfl⟩
  · rw [show sizeB a m = false by simp [sizeB, h]]
    have h : a < -m := by omega
    rcases hm with rfl | rfl <;>
    · go_enter Try.func88, Try.ntmps88
      go_wp2
      go_ret
      exact ⟨rfl, rfl⟩
theorem may_ship {fr d : Int} {S : List Shp} {L : List Sht} (h : S.all Shp.may = false) : Gme.may ⟨fr, d, S, L⟩ = false := by
  simp [Gme.may, h]
theorem may_shot {fr d : Int} {S : List Shp} {L : List Sht} (h : L.all Sht.may = false) : Gme.may ⟨fr, d, S, L⟩ = false := by
  simp [Gme.may, h]
theorem info79w : (Try.prog.info? 79).map (·.size) = some 6 := by kernel_rfl
set_option maxHeartbeats 8000000 in
theorem rmayG_b (g : Gme) (sl : Value) (w0' : World) (hg : g.wf) (hin : ShotsW w0' sl g.L) :
    Calls Try.prog 49 #[.agg (gameC g.fr g.d g.S sl)] w0' fun e w' => e = .returned (.bool g.may) ∧ Below w0'.heap.size w0' w' := by
  obtain ⟨ad, c, rfl⟩ := hin.form
  have HS := Lib.hid hg.s8
  have HO := Lib.hid hg.ships
  have HI := Lib.hid hin
  have H := Sb.start w0'
  clear hg hin
  obtain ⟨fr, d, S, L⟩ := g
  dsimp only at *
  have Hs58 := Lib.hid (gc_shots (fr := fr) (d := d) (S := S) (sl := .slice ad L.length c) HS.out)
  have H00 : Hid ((gameC fr d S (.slice ad L.length c))[0]? = some (.int .i64 fr)) := Lib.hid rfl
  have HAT := Lib.hid (fun k j t v ht hv => gc_at (fr := fr) (d := d) (S := S) (sl := .slice ad L.length c) k j t v ht hv)
  obtain ⟨m, hmay⟩ : ∃ m, Gme.may ⟨fr, d, S, L⟩ = m := ⟨_, rfl⟩
  rw [hmay]
  have HMay := Lib.hid hmay
  clear hmay
  generalize gameC fr d S (.slice ad L.length c) = cs at *
  by_cases hA : 0 ≤ fr ∧ fr ≤ 1048576 ∧ L.length ≤ 32
  rotate_left
  · have hf : m = false := by
      rw [← HMay.out]
      simp only [Gme.may]
      by_cases h1 : 0 ≤ fr
      · by_cases h2 : fr ≤ 1048576
        · have h3 : ¬ L.length ≤ 32 := fun h => hA ⟨h1, h2, h⟩
          simp [h3]
        · simp [h2]
      · simp [h1]
    subst hf
    by_cases h1 : 0 ≤ fr
    · by_cases h2 : fr ≤ 1048576
      · have q0 : decide (fr < 0) = false := decide_eq_false (by omega)
        have q1 : decide (1048576 < fr) = false := decide_eq_false (by omega)
        have q2 : decide (32 < (L.length : Int)) = true := decide_eq_true (by omega)
        go_enter Try.func49, Try.ntmps49
        go_wp2_with (first | (refine wb_box H rfl 28 _ rfl cs rfl ?_; clear H; intro b1 w H) | (refine wb_cell H rfl 0 3 _ rfl _ 0 rfl _ _ rfl Try.isAgg3 (.int .i64 fr) H00.out ?_) | (refine wb_cell H rfl 0 26 _ rfl _ 58 rfl _ _ rfl Try.isAgg26 (.slice ad L.length c) Hs58.out ?_))
        go_ret
        exact ⟨rfl, H.below⟩
      · have q0 : decide (fr < 0) = false := decide_eq_false (by omega)
        have q1 : decide (1048576 < fr) = true := decide_eq_true (by omega)
        go_enter Try.func49, Try.ntmps49
        go_wp2_with (first | (refine wb_box H rfl 28 _ rfl cs rfl ?_; clear H; intro b1 w H) | (refine wb_cell H rfl 0 3 _ rfl _ 0 rfl _ _ rfl Try.isAgg3 (.int .i64 fr) H00.out ?_) | (refine wb_cell H rfl 0 26 _ rfl _ 58 rfl _ _ rfl Try.isAgg26 (.slice ad L.length c) Hs58.out ?_))
        go_ret
        exact ⟨rfl, H.below⟩
    · have q0 : decide (fr < 0) = true := decide_eq_true (by omega)
      go_enter Try.func49, Try.ntmps49
      go_wp2_with (first | (refine wb_box H rfl 28 _ rfl cs rfl ?_; clear H; intro b1 w H) | (refine wb_cell H rfl 0 3 _ rfl _ 0 rfl _ _ rfl Try.isAgg3 (.int .i64 fr) H00.out ?_) | (refine wb_cell H rfl 0 26 _ rfl _ 58 rfl _ _ rfl Try.isAgg26 (.slice ad L.length c) Hs58.out ?_))
      go_ret
      exact ⟨rfl, H.below⟩
  obtain ⟨h1, h2, h3⟩ := hA
  have HFR := Lib.hid (And.intro h1 h2)
  have h3' : (L.length : Int) ≤ 32 := by omega
  have q0 : decide (fr < 0) = false := decide_eq_false (by omega)
  have q1 : decide (1048576 < fr) = false := decide_eq_false (by omega)
  have q2 : decide (32 < (L.length : Int)) = false := decide_eq_false (by omega)
  go_enter Try.func49, Try.ntmps49
  go_wp2_with (first | (refine wb_box H rfl 28 _ rfl cs rfl ?_; clear H; intro b1 w H) | (refine wb_cell H rfl 0 3 _ rfl _ 0 rfl _ _ rfl Try.isAgg3 (.int .i64 fr) H00.out ?_) | (refine wb_cell H rfl 0 26 _ rfl _ 58 rfl _ _ rfl Try.isAgg26 (.slice ad L.length c) Hs58.out ?_))
  have H' := Lib.hid H
  clear H h1 h2 q0 q1 q2
  go_loopw [3] (fun i W => ∃ k : Nat, k ≤ 8 ∧ i = .int .i64 k ∧ Hid (Sb [] w0' W [(b1, cs, 28)] []) ∧ Hid ((S.take k).all Shp.may = true)) (fun i _ => 8 - (intOf i).toNat)
  case atStart => exact ⟨0, Nat.zero_le _, rfl, H', Lib.hid rfl⟩
  case round =>
    clear H'
    obtain ⟨k, hk, rfl, HB, HA⟩ := hrel
    by_cases hlt : k < 8
    · obtain ⟨t, ht⟩ : ∃ t, S[k]? = some t := ⟨S[k]'(by rw [HS.out]; exact hlt), List.getElem?_eq_getElem _⟩
      have hwf := HO.out t (List.mem_of_getElem? ht)
      have CX := Lib.hid (fun (j : Nat) (v : Value) hv => HAT.out k j t v ht hv)
      have Ht := Lib.hid ht
      have HE := Lib.hid (fun W => eq24 W t hwf)
      have H := HB.out
      clear HB ht hwf
      obtain ⟨o, x, y, vx, vy, cl, sc⟩ := t
      have I1 := Lib.hid (fun w => rin_b x w)
      have I2 := Lib.hid (fun w => rin_b y w)
      have I3 := Lib.hid (fun w => rslow_b vx 524288 w (.inl rfl))
      have I4 := Lib.hid (fun w => rslow_b vy 524288 w (.inl rfl))
      cases o
      · have HE2 := HE.out
        simp only [shipL, zShp, and_true] at HE2
        by_cases hz : x = 0 ∧ y = 0 ∧ vx = 0 ∧ vy = 0 ∧ cl = 0 ∧ sc = 0
        · have HMt : Hid (Shp.may ⟨false, x, y, vx, vy, cl, sc⟩ = true) := Lib.hid (by simp [Shp.may, hz])
          obtain ⟨rfl, rfl, rfl, rfl, rfl, rfl⟩ := hz
          have HE3 : ∀ (W : World), (Op.equalIn 10000 24 (.agg #[.bool false, .int .i32 0, .int .i32 0, .int .i32 0, .int .i32 0, .int .i64 0, .int .i64 0]) (.agg #[.bool false, .int .i32 0, .int .i32 0, .int .i32 0, .int .i32 0, .int .i64 0, .int .i64 0])).run Try.prog W = .ok true W := fun W => by rw [HE2 W]; rfl
          clear HE2 HE
          go_wp2_with (first | (refine wb_part H rfl 0 24 _ rfl _ (2 + k * 7) rfl _ _ rfl _ Try.underlying24 rfl 7 info24 [.bool false, .int .i32 0, .int .i32 0, .int .i32 0, .int .i32 0, .int .i64 0, .int .i64 0] CX.out rfl ?_) | (refine wb_alloc H rfl 24 rfl _ Try.zeroValue24 ?_; clear H; intro b4 w H) | (refine wb_put H rfl 0 24 _ _ rfl _ 0 rfl _ _ rfl (.agg #[.bool false, .int .i32 0, .int .i32 0, .int .i32 0, .int .i32 0, .int .i64 0, .int .i64 0]) rfl 7 info24 rfl (Nat.le_of_ble_eq_true rfl) rfl #[.bool false, .int .i32 0, .int .i32 0, .int .i32 0, .int .i32 0, .int .i64 0, .int .i64 0] rfl ?_; clear H; intro w H) | (refine wb_cell H rfl 0 4 _ rfl _ 0 rfl _ _ rfl Try.isAgg4 (.bool false) rfl ?_) | (refine wb_whole H rfl 0 24 _ rfl _ rfl #[.bool false, .int .i32 0, .int .i32 0, .int .i32 0, .int .i32 0, .int .i64 0, .int .i64 0] rfl _ Try.underlying24 rfl 7 info24 rfl ?_) | (refine wb_cell H rfl 0 21 _ rfl _ 1 rfl _ _ rfl Try.isAgg21 (.int .i32 0) rfl ?_))
          refine (I1.out _).mono ?_; rintro e w' ⟨rfl, rfl⟩
          rw [show onB 0 = true from rfl]
          go_wp2_with (refine wb_cell H rfl 0 21 _ rfl _ 2 rfl _ _ rfl Try.isAgg21 (.int .i32 0) rfl ?_)
          refine (I2.out _).mono ?_; rintro e w' ⟨rfl, rfl⟩
          rw [show onB 0 = true from rfl]
          go_wp2_with (refine wb_cell H rfl 0 21 _ rfl _ 3 rfl _ _ rfl Try.isAgg21 (.int .i32 0) rfl ?_)
          refine (I3.out _).mono ?_; rintro e w' ⟨rfl, rfl⟩
          rw [show sizeB 0 524288 = true from rfl]
          go_wp2_with (refine wb_cell H rfl 0 21 _ rfl _ 4 rfl _ _ rfl Try.isAgg21 (.int .i32 0) rfl ?_)
          refine (I4.out _).mono ?_; rintro e w' ⟨rfl, rfl⟩
          rw [show sizeB 0 524288 = true from rfl]
          go_wp2_with (first | (refine wb_cell H rfl 0 3 _ rfl _ 5 rfl _ _ rfl Try.isAgg3 (.int .i64 0) rfl ?_) | (refine wb_cell H rfl 0 3 _ rfl _ 6 rfl _ _ rfl Try.isAgg3 (.int .i64 0) rfl ?_))
          have H2 : Sb [] w0' w [(b4, #[.bool false, .int .i32 0, .int .i32 0, .int .i32 0, .int .i32 0, .int .i64 0, .int .i64 0], 24), (b1, cs, 28)] [] := H
          exact ⟨⟨k + 1, hlt, rfl, Lib.hid H2.tail, Lib.hid (all_take HA.out Ht.out HMt.out)⟩, by simp only [intOf]; omega⟩
        · have HMt : Hid (Shp.may ⟨false, x, y, vx, vy, cl, sc⟩ = false) := Lib.hid (by simp only [Shp.may, Bool.false_eq_true, if_false, decide_eq_false_iff_not]; exact hz)
          have HE3 : ∀ (W : World), (Op.equalIn 10000 24 (.agg #[.bool false, .int .i32 x, .int .i32 y, .int .i32 vx, .int .i32 vy, .int .i64 cl, .int .i64 sc]) (.agg #[.bool false, .int .i32 0, .int .i32 0, .int .i32 0, .int .i32 0, .int .i64 0, .int .i64 0])).run Try.prog W = .ok false W := fun W => by rw [HE2 W, decide_eq_false hz]
          clear HE2 HE hz
          go_wp2_with (first | (refine wb_part H rfl 0 24 _ rfl _ (2 + k * 7) rfl _ _ rfl _ Try.underlying24 rfl 7 info24 [.bool false, .int .i32 x, .int .i32 y, .int .i32 vx, .int .i32 vy, .int .i64 cl, .int .i64 sc] CX.out rfl ?_) | (refine wb_alloc H rfl 24 rfl _ Try.zeroValue24 ?_; clear H; intro b4 w H) | (refine wb_put H rfl 0 24 _ _ rfl _ 0 rfl _ _ rfl (.agg #[.bool false, .int .i32 x, .int .i32 y, .int .i32 vx, .int .i32 vy, .int .i64 cl, .int .i64 sc]) rfl 7 info24 rfl (Nat.le_of_ble_eq_true rfl) rfl #[.bool false, .int .i32 x, .int .i32 y, .int .i32 vx, .int .i32 vy, .int .i64 cl, .int .i64 sc] rfl ?_; clear H; intro w H) | (refine wb_cell H rfl 0 4 _ rfl _ 0 rfl _ _ rfl Try.isAgg4 (.bool false) rfl ?_) | (refine wb_whole H rfl 0 24 _ rfl _ rfl #[.bool false, .int .i32 x, .int .i32 y, .int .i32 vx, .int .i32 vy, .int .i64 cl, .int .i64 sc] rfl _ Try.underlying24 rfl 7 info24 rfl ?_) | (refine wb_cell H rfl 0 21 _ rfl _ 1 rfl _ _ rfl Try.isAgg21 (.int .i32 x) rfl ?_))
          go_ret
          exact ⟨by rw [← HMay.out, may_ship (all_not Ht.out HMt.out)]; rfl, H.below⟩
      · clear HE
        go_wp2_with (first | (refine wb_part H rfl 0 24 _ rfl _ (2 + k * 7) rfl _ _ rfl _ Try.underlying24 rfl 7 info24 [.bool true, .int .i32 x, .int .i32 y, .int .i32 vx, .int .i32 vy, .int .i64 cl, .int .i64 sc] CX.out rfl ?_) | (refine wb_alloc H rfl 24 rfl _ Try.zeroValue24 ?_; clear H; intro b4 w H) | (refine wb_put H rfl 0 24 _ _ rfl _ 0 rfl _ _ rfl (.agg #[.bool true, .int .i32 x, .int .i32 y, .int .i32 vx, .int .i32 vy, .int .i64 cl, .int .i64 sc]) rfl 7 info24 rfl (Nat.le_of_ble_eq_true rfl) rfl #[.bool true, .int .i32 x, .int .i32 y, .int .i32 vx, .int .i32 vy, .int .i64 cl, .int .i64 sc] rfl ?_; clear H; intro w H) | (refine wb_cell H rfl 0 4 _ rfl _ 0 rfl _ _ rfl Try.isAgg4 (.bool true) rfl ?_) | (refine wb_whole H rfl 0 24 _ rfl _ rfl #[.bool true, .int .i32 x, .int .i32 y, .int .i32 vx, .int .i32 vy, .int .i64 cl, .int .i64 sc] rfl _ Try.underlying24 rfl 7 info24 rfl ?_) | (refine wb_cell H rfl 0 21 _ rfl _ 1 rfl _ _ rfl Try.isAgg21 (.int .i32 x) rfl ?_))
        refine (I1.out _).mono ?_; rintro e w' ⟨rfl, rfl⟩
        cases q1 : onB x
        · have HMt : Hid (Shp.may ⟨true, x, y, vx, vy, cl, sc⟩ = false) := Lib.hid (by simp [Shp.may, q1])
          go_wp2_with fail
          go_ret
          exact ⟨by rw [← HMay.out, may_ship (all_not Ht.out HMt.out)]; rfl, H.below⟩
        go_wp2_with (refine wb_cell H rfl 0 21 _ rfl _ 2 rfl _ _ rfl Try.isAgg21 (.int .i32 y) rfl ?_)
        refine (I2.out _).mono ?_; rintro e w' ⟨rfl, rfl⟩
        cases q2 : onB y
        · have HMt : Hid (Shp.may ⟨true, x, y, vx, vy, cl, sc⟩ = false) := Lib.hid (by simp [Shp.may, q1, q2])
          go_wp2_with fail
          go_ret
          exact ⟨by rw [← HMay.out, may_ship (all_not Ht.out HMt.out)]; rfl, H.below⟩
        go_wp2_with (refine wb_cell H rfl 0 21 _ rfl _ 3 rfl _ _ rfl Try.isAgg21 (.int .i32 vx) rfl ?_)
        refine (I3.out _).mono ?_; rintro e w' ⟨rfl, rfl⟩
        cases q3 : sizeB vx 524288
        · have HMt : Hid (Shp.may ⟨true, x, y, vx, vy, cl, sc⟩ = false) := Lib.hid (by simp [Shp.may, q1, q2, q3])
          go_wp2_with fail
          go_ret
          exact ⟨by rw [← HMay.out, may_ship (all_not Ht.out HMt.out)]; rfl, H.below⟩
        go_wp2_with (refine wb_cell H rfl 0 21 _ rfl _ 4 rfl _ _ rfl Try.isAgg21 (.int .i32 vy) rfl ?_)
        refine (I4.out _).mono ?_; rintro e w' ⟨rfl, rfl⟩
        cases q4 : sizeB vy 524288
        · have HMt : Hid (Shp.may ⟨true, x, y, vx, vy, cl, sc⟩ = false) := Lib.hid (by simp [Shp.may, q1, q2, q3, q4])
          go_wp2_with fail
          go_ret
          exact ⟨by rw [← HMay.out, may_ship (all_not Ht.out HMt.out)]; rfl, H.below⟩
        by_cases c0 : 0 ≤ cl
        rotate_left
        · have HMt : Hid (Shp.may ⟨true, x, y, vx, vy, cl, sc⟩ = false) := Lib.hid (by simp [Shp.may, c0])
          have c0' : decide (cl < 0) = true := decide_eq_true (by omega)
          go_wp2_with (first | (refine wb_cell H rfl 0 3 _ rfl _ 5 rfl _ _ rfl Try.isAgg3 (.int .i64 cl) rfl ?_) | (refine wb_cell H rfl 0 3 _ rfl _ 6 rfl _ _ rfl Try.isAgg3 (.int .i64 sc) rfl ?_))
          go_ret
          exact ⟨by rw [← HMay.out, may_ship (all_not Ht.out HMt.out)]; rfl, H.below⟩
        have c0' : decide (cl < 0) = false := decide_eq_false (by omega)
        by_cases c1 : cl ≤ 10
        rotate_left
        · have HMt : Hid (Shp.may ⟨true, x, y, vx, vy, cl, sc⟩ = false) := Lib.hid (by simp [Shp.may, c1])
          have c1' : decide (10 < cl) = true := decide_eq_true (by omega)
          go_wp2_with (first | (refine wb_cell H rfl 0 3 _ rfl _ 5 rfl _ _ rfl Try.isAgg3 (.int .i64 cl) rfl ?_) | (refine wb_cell H rfl 0 3 _ rfl _ 6 rfl _ _ rfl Try.isAgg3 (.int .i64 sc) rfl ?_))
          go_ret
          exact ⟨by rw [← HMay.out, may_ship (all_not Ht.out HMt.out)]; rfl, H.below⟩
        have c1' : decide (10 < cl) = false := decide_eq_false (by omega)
        by_cases c2 : 0 ≤ sc
        rotate_left
        · have HMt : Hid (Shp.may ⟨true, x, y, vx, vy, cl, sc⟩ = false) := Lib.hid (by simp [Shp.may, c2])
          have c2' : decide (sc < 0) = true := decide_eq_true (by omega)
          go_wp2_with (first | (refine wb_cell H rfl 0 3 _ rfl _ 5 rfl _ _ rfl Try.isAgg3 (.int .i64 cl) rfl ?_) | (refine wb_cell H rfl 0 3 _ rfl _ 6 rfl _ _ rfl Try.isAgg3 (.int .i64 sc) rfl ?_))
          go_ret
          exact ⟨by rw [← HMay.out, may_ship (all_not Ht.out HMt.out)]; rfl, H.below⟩
        have c2' : decide (sc < 0) = false := decide_eq_false (by omega)
        by_cases c3 : sc ≤ 1073741824
        rotate_left
        · have HMt : Hid (Shp.may ⟨true, x, y, vx, vy, cl, sc⟩ = false) := Lib.hid (by simp [Shp.may, c3])
          have c3' : decide (1073741824 < sc) = true := decide_eq_true (by omega)
          go_wp2_with (first | (refine wb_cell H rfl 0 3 _ rfl _ 5 rfl _ _ rfl Try.isAgg3 (.int .i64 cl) rfl ?_) | (refine wb_cell H rfl 0 3 _ rfl _ 6 rfl _ _ rfl Try.isAgg3 (.int .i64 sc) rfl ?_))
          go_ret
          exact ⟨by rw [← HMay.out, may_ship (all_not Ht.out HMt.out)]; rfl, H.below⟩
        have c3' : decide (1073741824 < sc) = false := decide_eq_false (by omega)
        have HMt : Hid (Shp.may ⟨true, x, y, vx, vy, cl, sc⟩ = true) := Lib.hid (by simp [Shp.may, q1, q2, q3, q4, c0, c1, c2, c3])
        go_wp2_with (first | (refine wb_cell H rfl 0 3 _ rfl _ 5 rfl _ _ rfl Try.isAgg3 (.int .i64 cl) rfl ?_) | (refine wb_cell H rfl 0 3 _ rfl _ 6 rfl _ _ rfl Try.isAgg3 (.int .i64 sc) rfl ?_))
        have H2 : Sb [] w0' w [(b4, #[.bool true, .int .i32 x, .int .i32 y, .int .i32 vx, .int .i32 vy, .int .i64 cl, .int .i64 sc], 24), (b1, cs, 28)] [] := H
        exact ⟨⟨k + 1, hlt, rfl, Lib.hid H2.tail, Lib.hid (all_take HA.out Ht.out HMt.out)⟩, by simp only [intOf]; omega⟩
    · obtain rfl : k = 8 := by omega
      rw [show ((8 : Nat) : Int) = 8 from rfl]
      have hS : S.all Shp.may = true := by have := HA.out; rw [← HS.out, List.take_length] at this; exact this
      have HSm := Lib.hid hS
      clear hS HA
      go_wp2_with fail
      go_loopw [5] (fun i W => ∃ k : Nat, k ≤ L.length ∧ i = .int .i64 k ∧ Hid (Sb [] w0' W [(b1, cs, 28)] []) ∧ Hid ((L.take k).all Sht.may = true)) (fun i _ => L.length - (intOf i).toNat)
      case atStart => exact ⟨0, Nat.zero_le _, rfl, HB, Lib.hid rfl⟩
      case round =>
        clear HB
        obtain ⟨k, hk, rfl, HB, HA⟩ := hrel
        by_cases hlt : k < L.length
        · obtain ⟨gi, oi, had, hgi, hcs⟩ : ∃ gi oi, ad = some ⟨gi, oi, none⟩ ∧ gi < w0'.heap.size ∧ ∀ j v, (cellsL L)[j]? = some v → w0'.cell? ⟨gi, oi + j, none⟩ = some v := by
            rcases HI.out with ⟨e, _⟩ | ⟨gi, oi, c', e, hgi, hc⟩
            · rw [e] at hlt; exact absurd hlt (Nat.not_lt_zero _)
            · injection e with e1 e2 e3
              exact ⟨gi, oi, e1, hgi, hc⟩
          subst had
          obtain ⟨s, hs⟩ : ∃ s, L[k]? = some s := ⟨L[k], List.getElem?_eq_getElem hlt⟩
          have hA : ShotAt wr gi (oi + k * 6) s := shot_at (fun j v hv => (World.cell?_of_block (HB.out.fr gi hgi (by simp))).trans (hcs j v hv)) k s hs
          have Hs := Lib.hid hs
          have H := HB.out
          clear HB hs hcs
          obtain ⟨o, x, y, vx, vy, lf⟩ := s
          obtain ⟨p0, p1, p2, p3, p4, p5⟩ := hA
          have I1 := Lib.hid (fun w => rin_b x w)
          have I2 := Lib.hid (fun w => rin_b y w)
          have I3 := Lib.hid (fun w => rslow_b vx 393216 w (.inr rfl))
          have I4 := Lib.hid (fun w => rslow_b vy 393216 w (.inr rfl))
          dsimp only at p0 p1 p2 p3 p4 p5
          by_cases c0 : 0 ≤ o
          rotate_left
          · have HMt : Hid (Sht.may ⟨o, x, y, vx, vy, lf⟩ = false) := Lib.hid (by simp only [Sht.may, decide_eq_false c0, Bool.false_and])
            have c0' : decide (o < 0) = true := decide_eq_true (by omega)
            go_wp2_with (first | (refine wb_cell H rfl 0 26 _ rfl _ 58 rfl _ _ rfl Try.isAgg26 (.slice (some ⟨gi, oi, none⟩) L.length c) Hs58.out ?_) | (refine wb_alloc H rfl 79 rfl _ Try.zeroValue79 ?_; clear H; intro b6 w H) | (refine wb_put H rfl 0 79 _ _ rfl _ 0 rfl _ _ rfl (.agg #[.int .i64 o, .int .i32 x, .int .i32 y, .int .i32 vx, .int .i32 vy, .int .i64 lf]) rfl 6 info79w rfl (Nat.le_of_ble_eq_true rfl) rfl #[.int .i64 o, .int .i32 x, .int .i32 y, .int .i32 vx, .int .i32 vy, .int .i64 lf] rfl ?_; clear H; intro w H) | (refine wb_cell H rfl 0 3 _ rfl _ 0 rfl _ _ rfl Try.isAgg3 (.int .i64 o) rfl ?_) | (refine wb_cell H rfl 0 21 _ rfl _ 1 rfl _ _ rfl Try.isAgg21 (.int .i32 x) rfl ?_))
            go_ret
            exact ⟨by rw [← HMay.out, may_shot (all_not Hs.out HMt.out)]; rfl, H.below⟩
          have c0' : decide (o < 0) = false := decide_eq_false (by omega)
          by_cases c1 : o < 8
          rotate_left
          · have HMt : Hid (Sht.may ⟨o, x, y, vx, vy, lf⟩ = false) := Lib.hid (by simp only [Sht.may, decide_eq_false c1, Bool.and_false, Bool.false_and])
            have c1' : decide (8 ≤ o) = true := decide_eq_true (by omega)
            go_wp2_with (first | (refine wb_cell H rfl 0 26 _ rfl _ 58 rfl _ _ rfl Try.isAgg26 (.slice (some ⟨gi, oi, none⟩) L.length c) Hs58.out ?_) | (refine wb_alloc H rfl 79 rfl _ Try.zeroValue79 ?_; clear H; intro b6 w H) | (refine wb_put H rfl 0 79 _ _ rfl _ 0 rfl _ _ rfl (.agg #[.int .i64 o, .int .i32 x, .int .i32 y, .int .i32 vx, .int .i32 vy, .int .i64 lf]) rfl 6 info79w rfl (Nat.le_of_ble_eq_true rfl) rfl #[.int .i64 o, .int .i32 x, .int .i32 y, .int .i32 vx, .int .i32 vy, .int .i64 lf] rfl ?_; clear H; intro w H) | (refine wb_cell H rfl 0 3 _ rfl _ 0 rfl _ _ rfl Try.isAgg3 (.int .i64 o) rfl ?_) | (refine wb_cell H rfl 0 21 _ rfl _ 1 rfl _ _ rfl Try.isAgg21 (.int .i32 x) rfl ?_))
            go_ret
            exact ⟨by rw [← HMay.out, may_shot (all_not Hs.out HMt.out)]; rfl, H.below⟩
          have c1' : decide (8 ≤ o) = false := decide_eq_false (by omega)
          go_wp2_with (first | (refine wb_cell H rfl 0 26 _ rfl _ 58 rfl _ _ rfl Try.isAgg26 (.slice (some ⟨gi, oi, none⟩) L.length c) Hs58.out ?_) | (refine wb_alloc H rfl 79 rfl _ Try.zeroValue79 ?_; clear H; intro b6 w H) | (refine wb_put H rfl 0 79 _ _ rfl _ 0 rfl _ _ rfl (.agg #[.int .i64 o, .int .i32 x, .int .i32 y, .int .i32 vx, .int .i32 vy, .int .i64 lf]) rfl 6 info79w rfl (Nat.le_of_ble_eq_true rfl) rfl #[.int .i64 o, .int .i32 x, .int .i32 y, .int .i32 vx, .int .i32 vy, .int .i64 lf] rfl ?_; clear H; intro w H) | (refine wb_cell H rfl 0 3 _ rfl _ 0 rfl _ _ rfl Try.isAgg3 (.int .i64 o) rfl ?_) | (refine wb_cell H rfl 0 21 _ rfl _ 1 rfl _ _ rfl Try.isAgg21 (.int .i32 x) rfl ?_))
          refine (I1.out _).mono ?_; rintro e w' ⟨rfl, rfl⟩
          cases q1 : onB x
          · have HMt : Hid (Sht.may ⟨o, x, y, vx, vy, lf⟩ = false) := Lib.hid (by simp only [Sht.may, q1, Bool.and_false, Bool.false_and])
            go_wp2_with fail
            go_ret
            exact ⟨by rw [← HMay.out, may_shot (all_not Hs.out HMt.out)]; rfl, H.below⟩
          go_wp2_with (refine wb_cell H rfl 0 21 _ rfl _ 2 rfl _ _ rfl Try.isAgg21 (.int .i32 y) rfl ?_)
          refine (I2.out _).mono ?_; rintro e w' ⟨rfl, rfl⟩
          cases q2 : onB y
          · have HMt : Hid (Sht.may ⟨o, x, y, vx, vy, lf⟩ = false) := Lib.hid (by simp only [Sht.may, q2, Bool.and_false, Bool.false_and])
            go_wp2_with fail
            go_ret
            exact ⟨by rw [← HMay.out, may_shot (all_not Hs.out HMt.out)]; rfl, H.below⟩
          go_wp2_with (refine wb_cell H rfl 0 21 _ rfl _ 3 rfl _ _ rfl Try.isAgg21 (.int .i32 vx) rfl ?_)
          refine (I3.out _).mono ?_; rintro e w' ⟨rfl, rfl⟩
          cases q3 : sizeB vx 393216
          · have HMt : Hid (Sht.may ⟨o, x, y, vx, vy, lf⟩ = false) := Lib.hid (by simp only [Sht.may, q3, Bool.and_false, Bool.false_and])
            go_wp2_with fail
            go_ret
            exact ⟨by rw [← HMay.out, may_shot (all_not Hs.out HMt.out)]; rfl, H.below⟩
          go_wp2_with (refine wb_cell H rfl 0 21 _ rfl _ 4 rfl _ _ rfl Try.isAgg21 (.int .i32 vy) rfl ?_)
          refine (I4.out _).mono ?_; rintro e w' ⟨rfl, rfl⟩
          cases q4 : sizeB vy 393216
          · have HMt : Hid (Sht.may ⟨o, x, y, vx, vy, lf⟩ = false) := Lib.hid (by simp only [Sht.may, q4, Bool.and_false, Bool.false_and])
            go_wp2_with fail
            go_ret
            exact ⟨by rw [← HMay.out, may_shot (all_not Hs.out HMt.out)]; rfl, H.below⟩
          by_cases c2 : 1 ≤ lf
          rotate_left
          · have HMt : Hid (Sht.may ⟨o, x, y, vx, vy, lf⟩ = false) := Lib.hid (by simp only [Sht.may, decide_eq_false c2, Bool.and_false, Bool.false_and])
            have c2' : decide (lf < 1) = true := decide_eq_true (by omega)
            go_wp2_with (refine wb_cell H rfl 0 3 _ rfl _ 5 rfl _ _ rfl Try.isAgg3 (.int .i64 lf) rfl ?_)
            go_ret
            exact ⟨by rw [← HMay.out, may_shot (all_not Hs.out HMt.out)]; rfl, H.below⟩
          have c2' : decide (lf < 1) = false := decide_eq_false (by omega)
          by_cases c3 : lf ≤ 24
          rotate_left
          · have HMt : Hid (Sht.may ⟨o, x, y, vx, vy, lf⟩ = false) := Lib.hid (by simp only [Sht.may, decide_eq_false c3, Bool.and_false])
            have c3' : decide (24 < lf) = true := decide_eq_true (by omega)
            go_wp2_with (refine wb_cell H rfl 0 3 _ rfl _ 5 rfl _ _ rfl Try.isAgg3 (.int .i64 lf) rfl ?_)
            go_ret
            exact ⟨by rw [← HMay.out, may_shot (all_not Hs.out HMt.out)]; rfl, H.below⟩
          have c3' : decide (24 < lf) = false := decide_eq_false (by omega)
          have HMt : Hid (Sht.may ⟨o, x, y, vx, vy, lf⟩ = true) := Lib.hid (by simp [Sht.may, q1, q2, q3, q4, c0, c1, c2, c3])
          go_wp2_with (refine wb_cell H rfl 0 3 _ rfl _ 5 rfl _ _ rfl Try.isAgg3 (.int .i64 lf) rfl ?_)
          have H2 : Sb [] w0' w [(b6, #[.int .i64 o, .int .i32 x, .int .i32 y, .int .i32 vx, .int .i32 vy, .int .i64 lf], 79), (b1, cs, 28)] [] := H
          exact ⟨⟨k + 1, hlt, rfl, Lib.hid H2.tail, Lib.hid (all_take HA.out Hs.out HMt.out)⟩, by simp only [intOf]; omega⟩
        · obtain rfl : k = L.length := by omega
          have hLm : L.all Sht.may = true := by have := HA.out; rw [List.take_length] at this; exact this
          have H := HB.out
          clear HB HA
          have HMt : Hid (m = true) := Lib.hid (by rw [← HMay.out]; simp only [Gme.may, HSm.out, hLm]; simp [h3]; exact HFR.out)
          clear hLm
          go_wp2_with (refine wb_cell H rfl 0 26 _ rfl _ 58 rfl _ _ rfl Try.isAgg26 (.slice ad L.length c) Hs58.out ?_)
          go_ret
          exact ⟨by rw [HMt.out]; rfl, H.below⟩
end Go.Proofs.Ytijnfeigoggaeaa.game
