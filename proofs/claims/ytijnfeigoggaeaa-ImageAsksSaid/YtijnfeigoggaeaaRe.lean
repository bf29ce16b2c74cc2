/- The document's answer: dice, the field. -/
import Derived.Test.YtijnfeigoggaeaaPu
import Derived.Deep.RegionWith
import Derived.BigQuiet
namespace Go.Proofs.Ytijnfeigoggaeaa.game
open Go.ChangeShapes Go.WideShapes Go.ChangeAt Go.RowKit dice
set_option maxRecDepth 100000

theorem rnext_any (d : Int) (w : World) : Calls Try.prog 108 #[.int .u64 d] w fun e w' => e = .returned (.int .u64 (next d)) ∧ w = w' := by
  go_enter Try.func108, Try.ntmps108
  go_wp2
  go_ret
  exact ⟨by rw [← next_wrap d]; rfl, rfl⟩
theorem rpick_in (d n : Int) (w : World) (hn : 1 ≤ n) (hn' : n ≤ 2147483647) :
    Calls Try.prog 91 #[.int .u64 d, .int .i64 n] w fun e w' => e = .returned (.tuple #[.int .i64 (pick d n), .int .u64 (next d)]) ∧ w = w' := by
  have hb := next_bd d
  go_enter Try.func91, Try.ntmps91
  go_wp2_with (go_at_call 108; refine (rnext_any _ _).mono ?_; rintro e w' ⟨rfl, rfl⟩)
  go_ret2
  exact ⟨by rw [← pick_wrap d n hn hn']; rfl, rfl⟩
theorem rplace_any (d : Int) (w : World) :
    Calls Try.prog 64 #[.int .u64 d] w fun e w' => e = .returned (.tuple #[.int .i32 (px d), .int .i32 (py d), .int .u64 (next (next d))]) ∧ w = w' := by
  have hx := px_bd d
  have hy := py_bd d
  have P1 := Lib.hid (fun w => rpick_in d 16777216 w (by omega) (by omega))
  have P2 := Lib.hid (fun w => rpick_in (next d) 16777216 w (by omega) (by omega))
  change 0 ≤ pick d 16777216 ∧ pick d 16777216 ≤ 16777215 at hx
  change 0 ≤ pick (next d) 16777216 ∧ pick (next d) 16777216 ≤ 16777215 at hy
  unfold px py
  generalize pick d 16777216 = x at *
  generalize pick (next d) 16777216 = y at *
  go_enter Try.func64, Try.ntmps64
  go_wp2_with fail
  refine (P1.out _).mono ?_; rintro e w' ⟨rfl, rfl⟩
  go_wp2_with fail
  refine (P2.out _).mono ?_; rintro e w' ⟨rfl, rfl⟩
  go_wp2_with fail
  go_ret3
  exact ⟨rfl, rfl⟩
theorem rseed_any (s : ByteArray) (w : World) (hs : s.size ≤ maxLen) :
    Calls Try.prog 23 #[.string s] w fun e w' => e = .returned (.int .u64 (seed s.data.toList)) ∧ w = w' := by
  unfold maxLen at hs
  go_enter Try.func23, Try.ntmps23
  go_wp2
  go_loop [3, 4] (fun h i => ∃ k : Nat, k ≤ s.size ∧ i = .int .i64 k ∧ h = .int .u64 (seed (s.data.toList.take k))) (fun _ i => s.size - (intOf i).toNat)
  case atStart => exact ⟨0, Nat.zero_le _, rfl, rfl⟩
  case round =>
    obtain ⟨k, hk, rfl, rfl⟩ := hrel
    by_cases hlt : k < s.size
    · have HS : Hid (seed (s.data.toList.take (k + 1)) = seedStep (seed (s.data.toList.take k)) s[k]) := by rw [take_snoc s k hlt]; exact seed_snoc _ _ _
      go_wp2
      go_round
      case rel => exact ⟨k + 1, by omega, by go_num, by rw [HS.out]; rfl⟩
      case measure => simp [intOf]; omega
    · go_wp2
      go_ret
      exact ⟨ret_int (by rw [List.take_of_length_le (by simp; omega)]), rfl⟩
theorem rin_any (a : Int) (w : World) (h0 : 0 ≤ a) (h1 : a < 16777216) : Calls Try.prog 87 #[.int .i32 a] w fun e w' => e = .returned (.bool true) ∧ w = w' := by
  go_enter Try.func87, Try.ntmps87
  go_wp2
  go_ret
  exact ⟨rfl, rfl⟩
theorem rslow_any (a m : Int) (w : World) (hm : m = 524288 ∨ m = 393216) (h0 : -m ≤ a) (h1 : a ≤ m) : Calls Try.prog 88 #[.int .i32 a, .int .i32 m] w fun e w' => e = .returned (.bool true) ∧ w = w' := by
  rcases hm with rfl | rfl
  all_goals
    go_enter Try.func88, Try.ntmps88
    go_wp2
    go_ret
    exact ⟨rfl, rfl⟩
theorem rtame_any (a : Int) (w : World) (h0 : -128 ≤ a) (h1 : a ≤ 127) : Calls Try.prog 67 #[.int .i8 a] w fun e w' => e = .returned (.int .i8 (tameI a)) ∧ w = w' := by
  by_cases h : a = -128
  · subst h
    go_enter Try.func67, Try.ntmps67
    go_wp2
    go_ret
    exact ⟨rfl, rfl⟩
  · have e : Hid (tameI a = a) := Lib.hid (by unfold tameI; omega)
    have hq : (a == -128) = false := beq_eq_false_iff_ne.2 h
    clear h
    go_enter Try.func67, Try.ntmps67
    go_wp2
    go_ret
    exact ⟨by rw [e.out]; rfl, rfl⟩
theorem round_any (a : Int) (w : World) (h0 : -8589934592 ≤ a) (h1 : a ≤ 8589934592) : Calls Try.prog 96 #[.int .i64 a] w fun e w' => e = .returned (.int .i64 (a % 16777216)) ∧ w = w' := by
  obtain ⟨t, ht⟩ : ∃ t, a.tmod 16777216 = t := ⟨_, rfl⟩
  have hb : -16777216 < t ∧ t < 16777216 ∧ ((t < 0 ∧ a % 16777216 = t + 16777216) ∨ (0 ≤ t ∧ a % 16777216 = t)) := by
    have := tmod_cases a
    rw [ht] at this
    omega
  have HB := Lib.hid hb.2.2
  have b0 := hb.1
  have b1 := hb.2.1
  have a0 := h0
  have a1 := h1
  clear hb h0 h1
  go_enter Try.func96, Try.ntmps96
  go_wp2_with fail
  go_ret
  exact ⟨ret_int (by have := HB.out; omega), rfl⟩
theorem rmove_any (a v : Int) (w : World) (h0 : -2147483648 ≤ a) (h1 : a ≤ 2147483647) (h2 : -2147483648 ≤ v) (h3 : v ≤ 2147483647) :
    Calls Try.prog 69 #[.int .i32 a, .int .i32 v] w fun e w' => e = .returned (.int .i32 (mv a v)) ∧ w = w' := by
  have hm := mv_bd a v
  have R := Lib.hid (fun w => round_any (a + v) w (by omega) (by omega))
  rw [show (a + v) % 16777216 = mv a v from rfl] at R
  generalize mv a v = m at *
  go_enter Try.func69, Try.ntmps69
  go_wp2_with fail
  refine (R.out _).mono ?_; rintro e w' ⟨rfl, rfl⟩
  go_wp2_with fail
  go_ret
  exact ⟨rfl, rfl⟩
theorem rgap_any (a b : Int) (w : World) (h0 : -2147483648 ≤ a) (h1 : a ≤ 2147483647) (h2 : -2147483648 ≤ b) (h3 : b ≤ 2147483647) :
    Calls Try.prog 112 #[.int .i32 a, .int .i32 b] w fun e w' => e = .returned (.int .i32 (gapI a b)) ∧ w = w' := by
  have R := Lib.hid (fun w => round_any (b - a) w (by omega) (by omega))
  obtain ⟨m, hm⟩ : ∃ m, (b - a) % 16777216 = m := ⟨_, rfl⟩
  have hb : 0 ≤ m ∧ m < 16777216 := by omega
  rw [hm] at R
  by_cases hg : 8388608 ≤ m
  · have E : Hid (gapI a b = m - 16777216) := Lib.hid (by unfold gapI; omega)
    clear hm
    go_enter Try.func112, Try.ntmps112
    go_wp2_with fail
    refine (R.out _).mono ?_; rintro e w' ⟨rfl, rfl⟩
    go_wp2_with fail
    go_ret
    exact ⟨by rw [E.out]; rfl, rfl⟩
  · have E : Hid (gapI a b = m) := Lib.hid (by unfold gapI; omega)
    clear hm
    go_enter Try.func112, Try.ntmps112
    go_wp2_with fail
    refine (R.out _).mono ?_; rintro e w' ⟨rfl, rfl⟩
    go_wp2_with fail
    go_ret
    exact ⟨by rw [E.out]; rfl, rfl⟩
theorem rhits_any (ax ay bx by_ : Int) (w : World) (h0 : 0 ≤ ax ∧ ax < 16777216) (h1 : 0 ≤ ay ∧ ay < 16777216) (h2 : 0 ≤ bx ∧ bx < 16777216) (h3 : 0 ≤ by_ ∧ by_ < 16777216) :
    Calls Try.prog 98 #[.int .i32 ax, .int .i32 ay, .int .i32 bx, .int .i32 by_] w fun e w' => e = .returned (.bool (hitsI ax ay bx by_)) ∧ w = w' := by
  have b1 := gapI_bd ax bx
  have b2 := gapI_bd ay by_
  have G1 := Lib.hid (fun w => rgap_any ax bx w (by omega) (by omega) (by omega) (by omega))
  have G2 := Lib.hid (fun w => rgap_any ay by_ w (by omega) (by omega) (by omega) (by omega))
  have HQ : Hid (hitsI ax ay bx by_ = (near (gapI ax bx) && near (gapI ay by_))) := Lib.hid rfl
  generalize gapI ax bx = gx at *
  generalize gapI ay by_ = gy at *
  obtain ⟨q, hq⟩ : ∃ q, hitsI ax ay bx by_ = q := ⟨_, rfl⟩
  rw [hq] at HQ ⊢
  clear hq h0 h1 h2 h3
  have HE : Hid (q = ((decide (gx < 786432) && decide (-gx < 786432)) && (decide (gy < 786432) && decide (-gy < 786432)))) := Lib.hid HQ.out
  clear HQ
  by_cases c1 : -786432 < gx
  · by_cases c2 : gx < 786432
    · by_cases c3 : -786432 < gy
      · by_cases c4 : gy < 786432
        · have E : Hid (q = true) := Lib.hid (by rw [HE.out, decide_eq_true c2, decide_eq_true (show -gx < 786432 by omega), decide_eq_true c4, decide_eq_true (show -gy < 786432 by omega)]; rfl)
          go_enter Try.func98, Try.ntmps98
          go_wp2_with fail
          refine (G1.out _).mono ?_; rintro e w' ⟨rfl, rfl⟩
          go_wp2_with fail
          refine (G2.out _).mono ?_; rintro e w' ⟨rfl, rfl⟩
          go_wp2_with fail
          go_ret
          exact ⟨by rw [E.out]; rfl, rfl⟩
        · have E : Hid (q = false) := Lib.hid (by rw [HE.out, decide_eq_false c4]; simp)
          have d4 : decide (gy < 786432) = false := decide_eq_false c4
          go_enter Try.func98, Try.ntmps98
          go_wp2_with fail
          refine (G1.out _).mono ?_; rintro e w' ⟨rfl, rfl⟩
          go_wp2_with fail
          refine (G2.out _).mono ?_; rintro e w' ⟨rfl, rfl⟩
          go_wp2_with fail
          go_ret
          exact ⟨by rw [E.out]; rfl, rfl⟩
      · have E : Hid (q = false) := Lib.hid (by rw [HE.out, decide_eq_false (show ¬ -gy < 786432 by omega)]; simp)
        go_enter Try.func98, Try.ntmps98
        go_wp2_with fail
        refine (G1.out _).mono ?_; rintro e w' ⟨rfl, rfl⟩
        go_wp2_with fail
        refine (G2.out _).mono ?_; rintro e w' ⟨rfl, rfl⟩
        go_wp2_with fail
        go_ret
        exact ⟨by rw [E.out]; rfl, rfl⟩
    · have E : Hid (q = false) := Lib.hid (by rw [HE.out, decide_eq_false c2]; simp)
      go_enter Try.func98, Try.ntmps98
      go_wp2_with fail
      refine (G1.out _).mono ?_; rintro e w' ⟨rfl, rfl⟩
      go_wp2_with fail
      refine (G2.out _).mono ?_; rintro e w' ⟨rfl, rfl⟩
      go_wp2_with fail
      go_ret
      exact ⟨by rw [E.out]; rfl, rfl⟩
  · have E : Hid (q = false) := Lib.hid (by rw [HE.out, decide_eq_false (show ¬ -gx < 786432 by omega)]; simp)
    go_enter Try.func98, Try.ntmps98
    go_wp2_with fail
    refine (G1.out _).mono ?_; rintro e w' ⟨rfl, rfl⟩
    go_wp2_with fail
    refine (G2.out _).mono ?_; rintro e w' ⟨rfl, rfl⟩
    go_wp2_with fail
    go_ret
    exact ⟨by rw [E.out]; rfl, rfl⟩
theorem rcut_any (a : Int) (w : World) (h0 : -2000000 ≤ a) (h1 : a ≤ 2000000) : Calls Try.prog 111 #[.int .i64 a] w fun e w' => e = .returned (.int .i32 a) ∧ w = w' := by
  go_enter Try.func111, Try.ntmps111
  go_wp2_with fail
  go_ret
  exact ⟨rfl, rfl⟩
theorem radd_any (a b : Int) (w : World) (h0 : -1000000 ≤ a) (h1 : a ≤ 1000000) (h2 : -1000000 ≤ b) (h3 : b ≤ 1000000) :
    Calls Try.prog 95 #[.int .i32 a, .int .i32 b] w fun e w' => e = .returned (.int .i32 (a + b)) ∧ w = w' := by
  have HC := Lib.hid (fun w => rcut_any (a + b) w (by omega) (by omega))
  go_enter Try.func95, Try.ntmps95
  go_wp2_with fail
  refine (HC.out _).mono ?_; rintro e w' ⟨rfl, rfl⟩
  go_wp2_with fail
  go_ret
  exact ⟨rfl, rfl⟩
theorem rclamp_any (a : Int) (w : World) (h0 : -2000000 ≤ a) (h1 : a ≤ 2000000) :
    Calls Try.prog 94 #[.int .i32 a, .int .i32 (-524288), .int .i32 524288] w fun e w' => e = .returned (.int .i32 (clampI a)) ∧ w = w' := by
  by_cases ha : a < -524288
  · go_enter Try.func94, Try.ntmps94
    go_wp2_with fail
    go_ret
    exact ⟨ret_int (by unfold clampI; omega), rfl⟩
  · by_cases hb : 524288 < a
    · go_enter Try.func94, Try.ntmps94
      go_wp2_with fail
      go_ret
      exact ⟨ret_int (by unfold clampI; omega), rfl⟩
    · go_enter Try.func94, Try.ntmps94
      go_wp2_with fail
      go_ret
      exact ⟨ret_int (by unfold clampI; omega), rfl⟩
theorem rpush_any (v s : Int) (w : World) (h0 : -524288 ≤ v) (h1 : v ≤ 524288) (h2 : -128 ≤ s) (h3 : s ≤ 127) :
    Calls Try.prog 68 #[.int .i32 v, .int .i8 s] w fun e w' => e = .returned (.int .i32 (pushI v s)) ∧ w = w' := by
  obtain ⟨t, ht⟩ : ∃ t, v.tdiv 16 = t := ⟨_, rfl⟩
  have hb : -32768 ≤ t ∧ t ≤ 32768 := by
    rw [← ht]
    by_cases h : 0 ≤ v
    · rw [Int.tdiv_eq_ediv_of_nonneg h]; omega
    · have := Int.neg_tdiv (-v) 16
      rw [Int.neg_neg] at this
      rw [this, Int.tdiv_eq_ediv_of_nonneg (by omega)]; omega
  have HP : Hid (pushI v s = clampI (v - t + 256 * s)) := Lib.hid (by unfold pushI; rw [ht])
  obtain ⟨b0, b1⟩ := hb
  have HA := Lib.hid (fun w => radd_any (v - t) (256 * s) w (by omega) (by omega) (by omega) (by omega))
  have HC := Lib.hid (fun w => rclamp_any (v - t + 256 * s) w (by omega) (by omega))
  go_enter Try.func68, Try.ntmps68
  go_wp2_with fail
  refine (HA.out _).mono ?_; rintro e w' ⟨rfl, rfl⟩
  go_wp2_with fail
  refine (HC.out _).mono ?_; rintro e w' ⟨rfl, rfl⟩
  go_wp2_with fail
  go_ret
  exact ⟨by rw [HP.out]; rfl, rfl⟩
def signI (a : Int) : Int := if 0 < a then 1 else if a < 0 then -1 else 0
theorem sign_side (a : Int) : signI a * 6 * 65536 = sideI a := by unfold signI sideI; split <;> (try split) <;> rfl
theorem sign_bd (a : Int) : -1 ≤ signI a ∧ signI a ≤ 1 := by unfold signI; split <;> (try split) <;> omega
theorem sign_any (a : Int) (w : World) : Calls Try.prog 97 #[.int .i8 a] w fun e w' => e = .returned (.int .i32 (signI a)) ∧ w' = w := by
  by_cases h1 : 0 < a
  · have E : Hid (signI a = 1) := Lib.hid (by unfold signI; rw [if_pos h1])
    go_enter Try.func97, Try.ntmps97
    go_wp2_with fail
    go_ret
    exact ⟨ret_int E.out.symm, rfl⟩
  · by_cases h2 : a < 0
    · have E : Hid (signI a = -1) := Lib.hid (by unfold signI; rw [if_neg h1, if_pos h2])
      go_enter Try.func97, Try.ntmps97
      go_wp2_with fail
      go_ret
      exact ⟨ret_int E.out.symm, rfl⟩
    · have E : Hid (signI a = 0) := Lib.hid (by unfold signI; rw [if_neg h1, if_neg h2])
      go_enter Try.func97, Try.ntmps97
      go_wp2_with fail
      go_ret
      exact ⟨ret_int E.out.symm, rfl⟩
theorem raim_any (x y b : Int) (w : World) :
    Calls Try.prog 70 #[.agg #[.int .i8 x, .int .i8 y, .int .u8 b]] w fun e w' => e = .returned (.tuple #[.int .i32 (aimX x y), .int .i32 (sideI y)]) ∧ Below w.heap.size w w' := by
  have HX := Lib.hid (sign_any x)
  have HY := Lib.hid (sign_any y)
  have bx := sign_bd x
  have by' := sign_bd y
  have zx : signI x = 0 ↔ x = 0 := by unfold signI; split <;> (try split) <;> omega
  have zy : signI y = 0 ↔ y = 0 := by unfold signI; split <;> (try split) <;> omega
  have ey : Hid (sideI y = signI y * 6 * 65536) := Lib.hid (sign_side y).symm
  have hcase : (signI x = 0 ∧ signI y = 0 ∧ aimX x y = 393216) ∨ ((signI x ≠ 0 ∨ signI y ≠ 0) ∧ aimX x y = signI x * 6 * 65536) := by
    by_cases h : x = 0 ∧ y = 0
    · exact .inl ⟨zx.2 h.1, zy.2 h.2, by unfold aimX; rw [if_pos h]⟩
    · exact .inr ⟨by rw [Ne, zx, Ne, zy]; omega, by unfold aimX; rw [if_neg h, sign_side]⟩
  rw [ey.out]
  obtain ⟨ax, hax⟩ : ∃ ax, aimX x y = ax := ⟨_, rfl⟩
  rw [hax] at hcase ⊢
  clear zx zy ey hax
  by_cases hxy : x = y
  · subst hxy
    generalize signI x = s at *
    have HA : Hid (ax = if s = 0 then 393216 else s * 6 * 65536) := Lib.hid (by
      split
      · rename_i h; rcases hcase with ⟨_, _, h3⟩ | ⟨h1, _⟩
        · exact h3
        · omega
      · rename_i h; rcases hcase with ⟨h1, _, _⟩ | ⟨_, h2⟩
        · omega
        · exact h2)
    clear hcase
    by_cases hs : s = 0
    · subst hs
      go_enter Try.func70, Try.ntmps70
      go_wp2_with fail
      go_quiet ((go_at_call_of 97 (Value.int .i8 x); exact Calls.quiet_of_same (HX.out _)))
      go_wp2_with fail
      go_ret2
      exact ⟨by rw [HA.out]; rfl, by repeat (first | exact Below.refl _ _ | apply Below.drew | (refine bdN ?_ _) | (refine Below.alloc ?_ (by simp) _))⟩
    · have hq : (s == 0) = false := beq_eq_false_iff_ne.2 hs
      have E : Hid (ax = s * 6 * 65536) := Lib.hid (by rw [HA.out, if_neg hs])
      clear hs HA
      go_enter Try.func70, Try.ntmps70
      go_wp2_with fail
      go_quiet ((go_at_call_of 97 (Value.int .i8 x); exact Calls.quiet_of_same (HX.out _)))
      go_wp2_with fail
      go_ret2
      exact ⟨by rw [E.out]; rfl, by repeat (first | exact Below.refl _ _ | apply Below.drew | (refine bdN ?_ _) | (refine Below.alloc ?_ (by simp) _))⟩
  · have hxy' : y ≠ x := fun e => hxy e.symm
    generalize signI x = sx at *
    generalize signI y = sy at *
    by_cases h0 : sx = 0
    · subst h0
      by_cases h1 : sy = 0
      · subst h1
        have E : Hid (ax = 393216) := Lib.hid (by rcases hcase with ⟨_, _, h3⟩ | ⟨h1, _⟩ <;> omega)
        clear hcase
        go_enter Try.func70, Try.ntmps70
        go_wp2_with fail
        go_quiet (first | ((go_at_call_of 97 (Value.int .i8 x); exact Calls.quiet_of_same (HX.out _))) | ((go_at_call_of 97 (Value.int .i8 y); exact Calls.quiet_of_same (HY.out _))))
        go_wp2_with fail
        go_ret2
        exact ⟨by rw [E.out]; rfl, by repeat (first | exact Below.refl _ _ | apply Below.drew | (refine bdN ?_ _) | (refine Below.alloc ?_ (by simp) _))⟩
      · have hq : (sy == 0) = false := beq_eq_false_iff_ne.2 h1
        have E : Hid (ax = 0) := Lib.hid (by rcases hcase with ⟨_, h2, h3⟩ | ⟨_, h2⟩ <;> omega)
        clear hcase h1
        go_enter Try.func70, Try.ntmps70
        go_wp2_with fail
        go_quiet (first | ((go_at_call_of 97 (Value.int .i8 x); exact Calls.quiet_of_same (HX.out _))) | ((go_at_call_of 97 (Value.int .i8 y); exact Calls.quiet_of_same (HY.out _))))
        go_wp2_with fail
        go_ret2
        exact ⟨by rw [E.out]; rfl, by repeat (first | exact Below.refl _ _ | apply Below.drew | (refine bdN ?_ _) | (refine Below.alloc ?_ (by simp) _))⟩
    · have hq : (sx == 0) = false := beq_eq_false_iff_ne.2 h0
      have E : Hid (ax = sx * 6 * 65536) := Lib.hid (by rcases hcase with ⟨h2, _, h3⟩ | ⟨_, h2⟩ <;> omega)
      clear hcase h0
      go_enter Try.func70, Try.ntmps70
      go_wp2_with fail
      go_quiet (first | ((go_at_call_of 97 (Value.int .i8 x); exact Calls.quiet_of_same (HX.out _))) | ((go_at_call_of 97 (Value.int .i8 y); exact Calls.quiet_of_same (HY.out _))))
      go_wp2_with fail
      go_ret2
      exact ⟨by rw [E.out]; rfl, by repeat (first | exact Below.refl _ _ | apply Below.drew | (refine bdN ?_ _) | (refine Below.alloc ?_ (by simp) _))⟩
end Go.Proofs.Ytijnfeigoggaeaa.game
