/- The field: places and speeds. -/
import Derived.Test.YtdopfonebpklkaaMm
import Derived.WalkLawsBesides
namespace Go.Proofs.Ytdopfonebpklkaa.game
open Go.ChangeShapes Go.WideShapes Go.ChangeAt Go.RowKit dice
set_option maxRecDepth 100000

theorem tmod_cases (x : Int) : (0 ≤ x ∧ x.tmod 16777216 = x % 16777216) ∨ (x < 0 ∧ x.tmod 16777216 = -((-x) % 16777216)) := by
  by_cases h : 0 ≤ x
  · exact .inl ⟨h, Int.tmod_eq_emod_of_nonneg h⟩
  · refine .inr ⟨by omega, ?_⟩
    have := Int.neg_tmod (-x) 16777216
    rw [Int.neg_neg] at this
    rw [this, Int.tmod_eq_emod_of_nonneg (by omega)]
theorem wrap_any (a lo : Int) (w : World) (h0 : -8589934592 ≤ a) (h1 : a ≤ 8589934592) (hl : lo = 0 ∨ lo = -8388608) :
    Calls Try.prog 73 #[.int .i64 a, .int .i64 lo] w fun e w' => e = .returned (.int .i32 ((a - lo) % 16777216 + lo)) ∧ w = w' := by
  obtain ⟨t, ht⟩ : ∃ t, (a - lo).tmod 16777216 = t := ⟨_, rfl⟩
  have hb : -16777216 < t ∧ t < 16777216 ∧ ((t < 0 ∧ (a - lo) % 16777216 = t + 16777216) ∨ (0 ≤ t ∧ (a - lo) % 16777216 = t)) := by
    have := tmod_cases (a - lo)
    rw [ht] at this
    omega
  have hl0 : -8388608 ≤ lo := by omega
  have hl1 : lo ≤ 0 := by omega
  obtain ⟨b0, b1, hb2⟩ := hb
  have HB := Lib.hid hb2
  clear hb2 hl
  go_enter Try.func73, Try.ntmps73
  by_cases hn : t < 0
  · go_wp2_with fail
    go_ret
    have e : (a - lo) % 16777216 = t + 16777216 := by have := HB.out; omega
    exact ⟨by rw [e]; rfl, rfl⟩
  · go_wp2_with fail
    go_ret
    have e : (a - lo) % 16777216 = t := by have := HB.out; omega
    exact ⟨by rw [e]; rfl, rfl⟩
/-- A place that has moved. -/
def mv (a v : Int) : Int := (a + v) % 16777216
theorem mv_bd (a v : Int) : 0 ≤ mv a v ∧ mv a v < 16777216 := by unfold mv; omega
theorem move_any (a v : Int) (w : World) (h0 : -2147483648 ≤ a) (h1 : a ≤ 2147483647) (h2 : -2147483648 ≤ v) (h3 : v ≤ 2147483647) :
    Calls Try.prog 60 #[.int .i32 a, .int .i32 v] w fun e w' => e = .returned (.int .i32 (mv a v)) ∧ w = w' := by
  go_enter Try.func60, Try.ntmps60
  go_wp2_with fail
  refine (wrap_any _ 0 _ (by omega) (by omega) (.inl rfl)).mono ?_; rintro e w' ⟨rfl, rfl⟩
  go_wp2_with fail
  go_ret
  exact ⟨by unfold mv; simp, rfl⟩
/-- The way from one place to another. -/
def gapI (a b : Int) : Int := (b - a + 8388608) % 16777216 - 8388608
theorem gapI_bd (a b : Int) : -8388608 ≤ gapI a b ∧ gapI a b < 8388608 := by unfold gapI; omega
theorem gap_any (a b : Int) (w : World) (h0 : -2147483648 ≤ a) (h1 : a ≤ 2147483647) (h2 : -2147483648 ≤ b) (h3 : b ≤ 2147483647) :
    Calls Try.prog 76 #[.int .i32 a, .int .i32 b] w fun e w' => e = .returned (.int .i32 (gapI a b)) ∧ w = w' := by
  go_enter Try.func76, Try.ntmps76
  go_wp2_with fail
  refine (wrap_any _ (-8388608) _ (by omega) (by omega) (.inr rfl)).mono ?_; rintro e w' ⟨rfl, rfl⟩
  go_wp2_with fail
  go_ret
  exact ⟨by unfold gapI; rfl, rfl⟩
def near (g : Int) : Bool := decide (g < 786432) && decide (-g < 786432)
theorem near_any (g : Int) (w : World) (h0 : -8388608 ≤ g) (h1 : g < 8388608) :
    Calls Try.prog 75 #[.int .i32 g] w fun e w' => e = .returned (.bool (near g)) ∧ w = w' := by
  go_enter Try.func75, Try.ntmps75
  by_cases ha : g < 786432
  · by_cases hb : -g < 786432
    · have e : near g = true := by unfold near; rw [decide_eq_true ha, decide_eq_true hb]; rfl
      have E := Lib.hid e
      clear e
      go_wp2_with fail
      go_ret
      exact ⟨by rw [E.out]; rfl, rfl⟩
    · have e : near g = false := by unfold near; rw [decide_eq_true ha, decide_eq_false hb]; rfl
      have E := Lib.hid e
      clear e
      go_wp2_with fail
      go_ret
      exact ⟨by rw [E.out]; rfl, rfl⟩
  · have e : near g = false := by unfold near; rw [decide_eq_false ha]; rfl
    have E := Lib.hid e
    clear e
    go_wp2_with fail
    go_ret
    exact ⟨by rw [E.out]; rfl, rfl⟩
def hitsI (ax ay bx by_ : Int) : Bool := near (gapI ax bx) && near (gapI ay by_)
theorem hits_any (ax ay bx by_ : Int) (w : World) (h0 : 0 ≤ ax ∧ ax < 16777216) (h1 : 0 ≤ ay ∧ ay < 16777216) (h2 : 0 ≤ bx ∧ bx < 16777216) (h3 : 0 ≤ by_ ∧ by_ < 16777216) :
    Calls Try.prog 62 #[.int .i32 ax, .int .i32 ay, .int .i32 bx, .int .i32 by_] w fun e w' => e = .returned (.bool (hitsI ax ay bx by_)) ∧ w = w' := by
  have b1 := gapI_bd ax bx
  have b2 := gapI_bd ay by_
  have G1 := Lib.hid (fun w => gap_any ax bx w (by omega) (by omega) (by omega) (by omega))
  have G2 := Lib.hid (fun w => gap_any ay by_ w (by omega) (by omega) (by omega) (by omega))
  have N1 := Lib.hid (fun w => near_any (gapI ax bx) w b1.1 b1.2)
  have N2 := Lib.hid (fun w => near_any (gapI ay by_) w b2.1 b2.2)
  obtain ⟨q1, hq1⟩ : ∃ q, near (gapI ax bx) = q := ⟨_, rfl⟩
  obtain ⟨q2, hq2⟩ : ∃ q, near (gapI ay by_) = q := ⟨_, rfl⟩
  have HQ : Hid (hitsI ax ay bx by_ = (q1 && q2)) := Lib.hid (by unfold hitsI; rw [hq1, hq2])
  rw [hq1] at N1
  rw [hq2] at N2
  clear hq1 hq2 b1 b2 h0 h1 h2 h3
  go_enter Try.func62, Try.ntmps62
  go_wp2_with fail
  refine (G1.out _).mono ?_; rintro e w' ⟨rfl, rfl⟩
  go_wp2_with fail
  refine (N1.out _).mono ?_; rintro e w' ⟨rfl, rfl⟩
  cases q1
  · go_wp2_with fail
    go_ret
    exact ⟨by rw [HQ.out]; rfl, rfl⟩
  · go_wp2_with fail
    refine (G2.out _).mono ?_; rintro e w' ⟨rfl, rfl⟩
    go_wp2_with fail
    refine (N2.out _).mono ?_; rintro e w' ⟨rfl, rfl⟩
    go_wp2_with fail
    go_ret
    exact ⟨by rw [HQ.out]; rfl, rfl⟩
theorem axis_any (a : Int) (w : World) (h0 : -128 ≤ a) (h1 : a ≤ 127) :
    Calls Try.prog 58 #[.int .i8 a] w fun e w' => e = .returned (.int .i8 (max a (-127))) ∧ w = w' := by
  go_enter Try.func58, Try.ntmps58
  go_wp2_with fail
  all_goals
    go_ret
    exact ⟨ret_int (by omega), rfl⟩
theorem add1_any (a b : Int) (w : World) (h0 : -1000000 ≤ a) (h1 : a ≤ 1000000) (h2 : -1000000 ≤ b) (h3 : b ≤ 1000000) :
    Calls Try.prog 80 #[.int .i64 a, .int .i64 b] w fun e w' => e = .returned (.int .i64 (a + b)) ∧ w = w' := by
  go_enter Try.func80, Try.ntmps80
  go_wp2_with fail
  go_ret
  exact ⟨rfl, rfl⟩
theorem cut_any (a : Int) (w : World) (h0 : -2000000 ≤ a) (h1 : a ≤ 2000000) :
    Calls Try.prog 81 #[.int .i64 a] w fun e w' => e = .returned (.int .i32 a) ∧ w = w' := by
  go_enter Try.func81, Try.ntmps81
  go_wp2_with fail
  go_ret
  exact ⟨rfl, rfl⟩
theorem add_any (a b : Int) (w : World) (h0 : -1000000 ≤ a) (h1 : a ≤ 1000000) (h2 : -1000000 ≤ b) (h3 : b ≤ 1000000) :
    Calls Try.prog 72 #[.int .i32 a, .int .i32 b] w fun e w' => e = .returned (.int .i32 (a + b)) ∧ w = w' := by
  have HA := Lib.hid (fun w => add1_any a b w h0 h1 h2 h3)
  have HC := Lib.hid (fun w => cut_any (a + b) w (by omega) (by omega))
  have HD : Hid (∀ w, Calls Try.prog 79 #[.int .i32 a, .int .i32 b, .func (.func 80) #[] #[]] w fun e w' => e = .returned (.int .i32 (a + b)) ∧ w = w') := by
    intro w
    go_enter Try.func79, Try.ntmps79
    go_wp2_with fail
    refine (HA.out _).mono ?_; rintro e w' ⟨rfl, rfl⟩
    go_wp2_with fail
    refine (HC.out _).mono ?_; rintro e w' ⟨rfl, rfl⟩
    go_wp2_with fail
    go_ret
    exact ⟨rfl, rfl⟩
  clear HA HC
  go_enter Try.func72, Try.ntmps72
  go_wp2_with fail
  refine (HD.out _).mono ?_; rintro e w' ⟨rfl, rfl⟩
  go_wp2_with fail
  go_ret
  exact ⟨rfl, rfl⟩
def clampI (a : Int) : Int := min (max a (-524288)) 524288
theorem clamp_any (a : Int) (w : World) (h0 : -2000000 ≤ a) (h1 : a ≤ 2000000) :
    Calls Try.prog 71 #[.int .i32 a, .int .i32 (-524288), .int .i32 524288] w fun e w' => e = .returned (.int .i32 (clampI a)) ∧ w = w' := by
  by_cases ha : a < -524288
  · go_enter Try.func71, Try.ntmps71
    go_wp2_with fail
    go_ret
    exact ⟨ret_int (by unfold clampI; omega), rfl⟩
  · by_cases hb : 524288 < a
    · go_enter Try.func71, Try.ntmps71
      go_wp2_with fail
      go_ret
      exact ⟨ret_int (by unfold clampI; omega), rfl⟩
    · go_enter Try.func71, Try.ntmps71
      go_wp2_with fail
      go_ret
      exact ⟨ret_int (by unfold clampI; omega), rfl⟩
def pushI (v s : Int) : Int := clampI (v - v.tdiv 16 + 256 * s)
theorem pushI_bd (v s : Int) : -524288 ≤ pushI v s ∧ pushI v s ≤ 524288 := by unfold pushI clampI; omega
theorem push_any (v s : Int) (w : World) (h0 : -524288 ≤ v) (h1 : v ≤ 524288) (h2 : -128 ≤ s) (h3 : s ≤ 127) :
    Calls Try.prog 59 #[.int .i32 v, .int .i8 s] w fun e w' => e = .returned (.int .i32 (pushI v s)) ∧ w = w' := by
  obtain ⟨t, ht⟩ : ∃ t, v.tdiv 16 = t := ⟨_, rfl⟩
  have hb : -32768 ≤ t ∧ t ≤ 32768 := by
    rw [← ht]
    by_cases h : 0 ≤ v
    · rw [Int.tdiv_eq_ediv_of_nonneg h]; omega
    · have := Int.neg_tdiv (-v) 16
      rw [Int.neg_neg] at this
      rw [this, Int.tdiv_eq_ediv_of_nonneg (by omega)]; omega
  have HP : Hid (pushI v s = clampI (v - t + 256 * s)) := Lib.hid (by unfold pushI; rw [ht])
  obtain ⟨b0, b1⟩ := hb
  have HA := Lib.hid (fun w => add_any (v - t) (256 * s) w (by omega) (by omega) (by omega) (by omega))
  have HC := Lib.hid (fun w => clamp_any (v - t + 256 * s) w (by omega) (by omega))
  go_enter Try.func59, Try.ntmps59
  go_wp2_with fail
  refine (HA.out _).mono ?_; rintro e w' ⟨rfl, rfl⟩
  go_wp2_with fail
  refine (HC.out _).mono ?_; rintro e w' ⟨rfl, rfl⟩
  go_wp2_with fail
  go_ret
  exact ⟨by rw [HP.out]; rfl, rfl⟩
end Go.Proofs.Ytdopfonebpklkaa.game
