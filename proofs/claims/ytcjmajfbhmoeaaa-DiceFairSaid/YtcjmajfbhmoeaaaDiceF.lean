/- 'DiceFair': the walk of the law, one for each of the twenty powers. -/
import Derived.Test.YtcjmajfbhmoeaaaDiceTold
import Derived.WalkLawsBesides
namespace Go.Proofs.Ytcjmajfbhmoeaaa.dice
open Go.ChangeShapes Go.WideShapes Go.ChangeAt Go.RowKit
theorem px_pick (d : Int) : px d ≤ pick d 16777216 ∧ pick d 16777216 ≤ px d := ⟨Int.le_refl _, Int.le_refl _⟩

theorem pow0 (d : Int) : pick d 1 ≤ next d / 18446744073709551616 ∧ next d / 18446744073709551616 ≤ pick d 1 ∧ 2 * pick d 1 ≤ pick d 2 ∧ pick d 2 ≤ 2 * pick d 1 + 1 := by
  have := next_bd d
  unfold pick; generalize next d = e at *; omega
theorem fair0 (d n : Int) (w : World) (hk : (IntKind.u64.wrap n).tmod 20 = 0) : Calls Try.prog 9 #[.int .u64 d, .int .i64 n] w fun e w' => e = .returned (.bool true) ∧ Grown w w' := by
  have hb := next_bd d
  have hx := px_bd d
  have hp := pick_bd d 1 (by omega) (by omega)
  have hq := pick_bd d 2 (by omega) (by omega)
  obtain ⟨r1, r2, r3, r4⟩ := pow0 d
  obtain ⟨r5, r6⟩ := px_pick d
  go_enter Try.func9, Try.ntmps9
  go_wp2_with fail
  refine (pick_in _ _ _ (by omega) (by omega)).mono ?_; rintro e w' ⟨rfl, rfl⟩
  go_wp2_with fail
  refine (pick_in _ _ _ (by omega) (by omega)).mono ?_; rintro e w' ⟨rfl, rfl⟩
  go_wp2_with fail
  refine (place_any _ _).mono ?_; rintro e w' ⟨rfl, hg⟩
  go_wp2_with fail
  refine (pick_in _ _ _ (by omega) (by omega)).mono ?_; rintro e w' ⟨rfl, rfl⟩
  go_wp2_with fail
  refine (told_any _).mono ?_; rintro e w' ⟨rfl, rfl⟩
  go_wp2_with fail
  go_ret
  exact ⟨congrArg (fun b => Ending.returned (Value.bool b)) (beq_iff_eq.2 (by omega : px d = pick d 16777216)), hg⟩

theorem pow1 (d : Int) : pick d 2 ≤ next d / 9223372036854775808 ∧ next d / 9223372036854775808 ≤ pick d 2 ∧ 2 * pick d 2 ≤ pick d 4 ∧ pick d 4 ≤ 2 * pick d 2 + 1 := by
  have := next_bd d
  unfold pick; generalize next d = e at *; omega
theorem fair1 (d n : Int) (w : World) (hk : (IntKind.u64.wrap n).tmod 20 = 1) : Calls Try.prog 9 #[.int .u64 d, .int .i64 n] w fun e w' => e = .returned (.bool true) ∧ Grown w w' := by
  have hb := next_bd d
  have hx := px_bd d
  have hp := pick_bd d 2 (by omega) (by omega)
  have hq := pick_bd d 4 (by omega) (by omega)
  obtain ⟨r1, r2, r3, r4⟩ := pow1 d
  obtain ⟨r5, r6⟩ := px_pick d
  go_enter Try.func9, Try.ntmps9
  go_wp2_with fail
  refine (pick_in _ _ _ (by omega) (by omega)).mono ?_; rintro e w' ⟨rfl, rfl⟩
  go_wp2_with fail
  refine (pick_in _ _ _ (by omega) (by omega)).mono ?_; rintro e w' ⟨rfl, rfl⟩
  go_wp2_with fail
  refine (place_any _ _).mono ?_; rintro e w' ⟨rfl, hg⟩
  go_wp2_with fail
  refine (pick_in _ _ _ (by omega) (by omega)).mono ?_; rintro e w' ⟨rfl, rfl⟩
  go_wp2_with fail
  refine (told_any _).mono ?_; rintro e w' ⟨rfl, rfl⟩
  go_wp2_with fail
  go_ret
  exact ⟨congrArg (fun b => Ending.returned (Value.bool b)) (beq_iff_eq.2 (by omega : px d = pick d 16777216)), hg⟩

theorem pow2 (d : Int) : pick d 4 ≤ next d / 4611686018427387904 ∧ next d / 4611686018427387904 ≤ pick d 4 ∧ 2 * pick d 4 ≤ pick d 8 ∧ pick d 8 ≤ 2 * pick d 4 + 1 := by
  have := next_bd d
  unfold pick; generalize next d = e at *; omega
theorem fair2 (d n : Int) (w : World) (hk : (IntKind.u64.wrap n).tmod 20 = 2) : Calls Try.prog 9 #[.int .u64 d, .int .i64 n] w fun e w' => e = .returned (.bool true) ∧ Grown w w' := by
  have hb := next_bd d
  have hx := px_bd d
  have hp := pick_bd d 4 (by omega) (by omega)
  have hq := pick_bd d 8 (by omega) (by omega)
  obtain ⟨r1, r2, r3, r4⟩ := pow2 d
  obtain ⟨r5, r6⟩ := px_pick d
  go_enter Try.func9, Try.ntmps9
  go_wp2_with fail
  refine (pick_in _ _ _ (by omega) (by omega)).mono ?_; rintro e w' ⟨rfl, rfl⟩
  go_wp2_with fail
  refine (pick_in _ _ _ (by omega) (by omega)).mono ?_; rintro e w' ⟨rfl, rfl⟩
  go_wp2_with fail
  refine (place_any _ _).mono ?_; rintro e w' ⟨rfl, hg⟩
  go_wp2_with fail
  refine (pick_in _ _ _ (by omega) (by omega)).mono ?_; rintro e w' ⟨rfl, rfl⟩
  go_wp2_with fail
  refine (told_any _).mono ?_; rintro e w' ⟨rfl, rfl⟩
  go_wp2_with fail
  go_ret
  exact ⟨congrArg (fun b => Ending.returned (Value.bool b)) (beq_iff_eq.2 (by omega : px d = pick d 16777216)), hg⟩

theorem pow3 (d : Int) : pick d 8 ≤ next d / 2305843009213693952 ∧ next d / 2305843009213693952 ≤ pick d 8 ∧ 2 * pick d 8 ≤ pick d 16 ∧ pick d 16 ≤ 2 * pick d 8 + 1 := by
  have := next_bd d
  unfold pick; generalize next d = e at *; omega
theorem fair3 (d n : Int) (w : World) (hk : (IntKind.u64.wrap n).tmod 20 = 3) : Calls Try.prog 9 #[.int .u64 d, .int .i64 n] w fun e w' => e = .returned (.bool true) ∧ Grown w w' := by
  have hb := next_bd d
  have hx := px_bd d
  have hp := pick_bd d 8 (by omega) (by omega)
  have hq := pick_bd d 16 (by omega) (by omega)
  obtain ⟨r1, r2, r3, r4⟩ := pow3 d
  obtain ⟨r5, r6⟩ := px_pick d
  go_enter Try.func9, Try.ntmps9
  go_wp2_with fail
  refine (pick_in _ _ _ (by omega) (by omega)).mono ?_; rintro e w' ⟨rfl, rfl⟩
  go_wp2_with fail
  refine (pick_in _ _ _ (by omega) (by omega)).mono ?_; rintro e w' ⟨rfl, rfl⟩
  go_wp2_with fail
  refine (place_any _ _).mono ?_; rintro e w' ⟨rfl, hg⟩
  go_wp2_with fail
  refine (pick_in _ _ _ (by omega) (by omega)).mono ?_; rintro e w' ⟨rfl, rfl⟩
  go_wp2_with fail
  refine (told_any _).mono ?_; rintro e w' ⟨rfl, rfl⟩
  go_wp2_with fail
  go_ret
  exact ⟨congrArg (fun b => Ending.returned (Value.bool b)) (beq_iff_eq.2 (by omega : px d = pick d 16777216)), hg⟩

theorem pow4 (d : Int) : pick d 16 ≤ next d / 1152921504606846976 ∧ next d / 1152921504606846976 ≤ pick d 16 ∧ 2 * pick d 16 ≤ pick d 32 ∧ pick d 32 ≤ 2 * pick d 16 + 1 := by
  have := next_bd d
  unfold pick; generalize next d = e at *; omega
theorem fair4 (d n : Int) (w : World) (hk : (IntKind.u64.wrap n).tmod 20 = 4) : Calls Try.prog 9 #[.int .u64 d, .int .i64 n] w fun e w' => e = .returned (.bool true) ∧ Grown w w' := by
  have hb := next_bd d
  have hx := px_bd d
  have hp := pick_bd d 16 (by omega) (by omega)
  have hq := pick_bd d 32 (by omega) (by omega)
  obtain ⟨r1, r2, r3, r4⟩ := pow4 d
  obtain ⟨r5, r6⟩ := px_pick d
  go_enter Try.func9, Try.ntmps9
  go_wp2_with fail
  refine (pick_in _ _ _ (by omega) (by omega)).mono ?_; rintro e w' ⟨rfl, rfl⟩
  go_wp2_with fail
  refine (pick_in _ _ _ (by omega) (by omega)).mono ?_; rintro e w' ⟨rfl, rfl⟩
  go_wp2_with fail
  refine (place_any _ _).mono ?_; rintro e w' ⟨rfl, hg⟩
  go_wp2_with fail
  refine (pick_in _ _ _ (by omega) (by omega)).mono ?_; rintro e w' ⟨rfl, rfl⟩
  go_wp2_with fail
  refine (told_any _).mono ?_; rintro e w' ⟨rfl, rfl⟩
  go_wp2_with fail
  go_ret
  exact ⟨congrArg (fun b => Ending.returned (Value.bool b)) (beq_iff_eq.2 (by omega : px d = pick d 16777216)), hg⟩

theorem pow5 (d : Int) : pick d 32 ≤ next d / 576460752303423488 ∧ next d / 576460752303423488 ≤ pick d 32 ∧ 2 * pick d 32 ≤ pick d 64 ∧ pick d 64 ≤ 2 * pick d 32 + 1 := by
  have := next_bd d
  unfold pick; generalize next d = e at *; omega
theorem fair5 (d n : Int) (w : World) (hk : (IntKind.u64.wrap n).tmod 20 = 5) : Calls Try.prog 9 #[.int .u64 d, .int .i64 n] w fun e w' => e = .returned (.bool true) ∧ Grown w w' := by
  have hb := next_bd d
  have hx := px_bd d
  have hp := pick_bd d 32 (by omega) (by omega)
  have hq := pick_bd d 64 (by omega) (by omega)
  obtain ⟨r1, r2, r3, r4⟩ := pow5 d
  obtain ⟨r5, r6⟩ := px_pick d
  go_enter Try.func9, Try.ntmps9
  go_wp2_with fail
  refine (pick_in _ _ _ (by omega) (by omega)).mono ?_; rintro e w' ⟨rfl, rfl⟩
  go_wp2_with fail
  refine (pick_in _ _ _ (by omega) (by omega)).mono ?_; rintro e w' ⟨rfl, rfl⟩
  go_wp2_with fail
  refine (place_any _ _).mono ?_; rintro e w' ⟨rfl, hg⟩
  go_wp2_with fail
  refine (pick_in _ _ _ (by omega) (by omega)).mono ?_; rintro e w' ⟨rfl, rfl⟩
  go_wp2_with fail
  refine (told_any _).mono ?_; rintro e w' ⟨rfl, rfl⟩
  go_wp2_with fail
  go_ret
  exact ⟨congrArg (fun b => Ending.returned (Value.bool b)) (beq_iff_eq.2 (by omega : px d = pick d 16777216)), hg⟩

theorem pow6 (d : Int) : pick d 64 ≤ next d / 288230376151711744 ∧ next d / 288230376151711744 ≤ pick d 64 ∧ 2 * pick d 64 ≤ pick d 128 ∧ pick d 128 ≤ 2 * pick d 64 + 1 := by
  have := next_bd d
  unfold pick; generalize next d = e at *; omega
theorem fair6 (d n : Int) (w : World) (hk : (IntKind.u64.wrap n).tmod 20 = 6) : Calls Try.prog 9 #[.int .u64 d, .int .i64 n] w fun e w' => e = .returned (.bool true) ∧ Grown w w' := by
  have hb := next_bd d
  have hx := px_bd d
  have hp := pick_bd d 64 (by omega) (by omega)
  have hq := pick_bd d 128 (by omega) (by omega)
  obtain ⟨r1, r2, r3, r4⟩ := pow6 d
  obtain ⟨r5, r6⟩ := px_pick d
  go_enter Try.func9, Try.ntmps9
  go_wp2_with fail
  refine (pick_in _ _ _ (by omega) (by omega)).mono ?_; rintro e w' ⟨rfl, rfl⟩
  go_wp2_with fail
  refine (pick_in _ _ _ (by omega) (by omega)).mono ?_; rintro e w' ⟨rfl, rfl⟩
  go_wp2_with fail
  refine (place_any _ _).mono ?_; rintro e w' ⟨rfl, hg⟩
  go_wp2_with fail
  refine (pick_in _ _ _ (by omega) (by omega)).mono ?_; rintro e w' ⟨rfl, rfl⟩
  go_wp2_with fail
  refine (told_any _).mono ?_; rintro e w' ⟨rfl, rfl⟩
  go_wp2_with fail
  go_ret
  exact ⟨congrArg (fun b => Ending.returned (Value.bool b)) (beq_iff_eq.2 (by omega : px d = pick d 16777216)), hg⟩

theorem pow7 (d : Int) : pick d 128 ≤ next d / 144115188075855872 ∧ next d / 144115188075855872 ≤ pick d 128 ∧ 2 * pick d 128 ≤ pick d 256 ∧ pick d 256 ≤ 2 * pick d 128 + 1 := by
  have := next_bd d
  unfold pick; generalize next d = e at *; omega
theorem fair7 (d n : Int) (w : World) (hk : (IntKind.u64.wrap n).tmod 20 = 7) : Calls Try.prog 9 #[.int .u64 d, .int .i64 n] w fun e w' => e = .returned (.bool true) ∧ Grown w w' := by
  have hb := next_bd d
  have hx := px_bd d
  have hp := pick_bd d 128 (by omega) (by omega)
  have hq := pick_bd d 256 (by omega) (by omega)
  obtain ⟨r1, r2, r3, r4⟩ := pow7 d
  obtain ⟨r5, r6⟩ := px_pick d
  go_enter Try.func9, Try.ntmps9
  go_wp2_with fail
  refine (pick_in _ _ _ (by omega) (by omega)).mono ?_; rintro e w' ⟨rfl, rfl⟩
  go_wp2_with fail
  refine (pick_in _ _ _ (by omega) (by omega)).mono ?_; rintro e w' ⟨rfl, rfl⟩
  go_wp2_with fail
  refine (place_any _ _).mono ?_; rintro e w' ⟨rfl, hg⟩
  go_wp2_with fail
  refine (pick_in _ _ _ (by omega) (by omega)).mono ?_; rintro e w' ⟨rfl, rfl⟩
  go_wp2_with fail
  refine (told_any _).mono ?_; rintro e w' ⟨rfl, rfl⟩
  go_wp2_with fail
  go_ret
  exact ⟨congrArg (fun b => Ending.returned (Value.bool b)) (beq_iff_eq.2 (by omega : px d = pick d 16777216)), hg⟩

theorem pow8 (d : Int) : pick d 256 ≤ next d / 72057594037927936 ∧ next d / 72057594037927936 ≤ pick d 256 ∧ 2 * pick d 256 ≤ pick d 512 ∧ pick d 512 ≤ 2 * pick d 256 + 1 := by
  have := next_bd d
  unfold pick; generalize next d = e at *; omega
theorem fair8 (d n : Int) (w : World) (hk : (IntKind.u64.wrap n).tmod 20 = 8) : Calls Try.prog 9 #[.int .u64 d, .int .i64 n] w fun e w' => e = .returned (.bool true) ∧ Grown w w' := by
  have hb := next_bd d
  have hx := px_bd d
  have hp := pick_bd d 256 (by omega) (by omega)
  have hq := pick_bd d 512 (by omega) (by omega)
  obtain ⟨r1, r2, r3, r4⟩ := pow8 d
  obtain ⟨r5, r6⟩ := px_pick d
  go_enter Try.func9, Try.ntmps9
  go_wp2_with fail
  refine (pick_in _ _ _ (by omega) (by omega)).mono ?_; rintro e w' ⟨rfl, rfl⟩
  go_wp2_with fail
  refine (pick_in _ _ _ (by omega) (by omega)).mono ?_; rintro e w' ⟨rfl, rfl⟩
  go_wp2_with fail
  refine (place_any _ _).mono ?_; rintro e w' ⟨rfl, hg⟩
  go_wp2_with fail
  refine (pick_in _ _ _ (by omega) (by omega)).mono ?_; rintro e w' ⟨rfl, rfl⟩
  go_wp2_with fail
  refine (told_any _).mono ?_; rintro e w' ⟨rfl, rfl⟩
  go_wp2_with fail
  go_ret
  exact ⟨congrArg (fun b => Ending.returned (Value.bool b)) (beq_iff_eq.2 (by omega : px d = pick d 16777216)), hg⟩

theorem pow9 (d : Int) : pick d 512 ≤ next d / 36028797018963968 ∧ next d / 36028797018963968 ≤ pick d 512 ∧ 2 * pick d 512 ≤ pick d 1024 ∧ pick d 1024 ≤ 2 * pick d 512 + 1 := by
  have := next_bd d
  unfold pick; generalize next d = e at *; omega
theorem fair9 (d n : Int) (w : World) (hk : (IntKind.u64.wrap n).tmod 20 = 9) : Calls Try.prog 9 #[.int .u64 d, .int .i64 n] w fun e w' => e = .returned (.bool true) ∧ Grown w w' := by
  have hb := next_bd d
  have hx := px_bd d
  have hp := pick_bd d 512 (by omega) (by omega)
  have hq := pick_bd d 1024 (by omega) (by omega)
  obtain ⟨r1, r2, r3, r4⟩ := pow9 d
  obtain ⟨r5, r6⟩ := px_pick d
  go_enter Try.func9, Try.ntmps9
  go_wp2_with fail
  refine (pick_in _ _ _ (by omega) (by omega)).mono ?_; rintro e w' ⟨rfl, rfl⟩
  go_wp2_with fail
  refine (pick_in _ _ _ (by omega) (by omega)).mono ?_; rintro e w' ⟨rfl, rfl⟩
  go_wp2_with fail
  refine (place_any _ _).mono ?_; rintro e w' ⟨rfl, hg⟩
  go_wp2_with fail
  refine (pick_in _ _ _ (by omega) (by omega)).mono ?_; rintro e w' ⟨rfl, rfl⟩
  go_wp2_with fail
  refine (told_any _).mono ?_; rintro e w' ⟨rfl, rfl⟩
  go_wp2_with fail
  go_ret
  exact ⟨congrArg (fun b => Ending.returned (Value.bool b)) (beq_iff_eq.2 (by omega : px d = pick d 16777216)), hg⟩

theorem pow10 (d : Int) : pick d 1024 ≤ next d / 18014398509481984 ∧ next d / 18014398509481984 ≤ pick d 1024 ∧ 2 * pick d 1024 ≤ pick d 2048 ∧ pick d 2048 ≤ 2 * pick d 1024 + 1 := by
  have := next_bd d
  unfold pick; generalize next d = e at *; omega
theorem fair10 (d n : Int) (w : World) (hk : (IntKind.u64.wrap n).tmod 20 = 10) : Calls Try.prog 9 #[.int .u64 d, .int .i64 n] w fun e w' => e = .returned (.bool true) ∧ Grown w w' := by
  have hb := next_bd d
  have hx := px_bd d
  have hp := pick_bd d 1024 (by omega) (by omega)
  have hq := pick_bd d 2048 (by omega) (by omega)
  obtain ⟨r1, r2, r3, r4⟩ := pow10 d
  obtain ⟨r5, r6⟩ := px_pick d
  go_enter Try.func9, Try.ntmps9
  go_wp2_with fail
  refine (pick_in _ _ _ (by omega) (by omega)).mono ?_; rintro e w' ⟨rfl, rfl⟩
  go_wp2_with fail
  refine (pick_in _ _ _ (by omega) (by omega)).mono ?_; rintro e w' ⟨rfl, rfl⟩
  go_wp2_with fail
  refine (place_any _ _).mono ?_; rintro e w' ⟨rfl, hg⟩
  go_wp2_with fail
  refine (pick_in _ _ _ (by omega) (by omega)).mono ?_; rintro e w' ⟨rfl, rfl⟩
  go_wp2_with fail
  refine (told_any _).mono ?_; rintro e w' ⟨rfl, rfl⟩
  go_wp2_with fail
  go_ret
  exact ⟨congrArg (fun b => Ending.returned (Value.bool b)) (beq_iff_eq.2 (by omega : px d = pick d 16777216)), hg⟩

theorem pow11 (d : Int) : pick d 2048 ≤ next d / 9007199254740992 ∧ next d / 9007199254740992 ≤ pick d 2048 ∧ 2 * pick d 2048 ≤ pick d 4096 ∧ pick d 4096 ≤ 2 * pick d 2048 + 1 := by
  have := next_bd d
  unfold pick; generalize next d = e at *; omega
theorem fair11 (d n : Int) (w : World) (hk : (IntKind.u64.wrap n).tmod 20 = 11) : Calls Try.prog 9 #[.int .u64 d, .int .i64 n] w fun e w' => e = .returned (.bool true) ∧ Grown w w' := by
  have hb := next_bd d
  have hx := px_bd d
  have hp := pick_bd d 2048 (by omega) (by omega)
  have hq := pick_bd d 4096 (by omega) (by omega)
  obtain ⟨r1, r2, r3, r4⟩ := pow11 d
  obtain ⟨r5, r6⟩ := px_pick d
  go_enter Try.func9, Try.ntmps9
  go_wp2_with fail
  refine (pick_in _ _ _ (by omega) (by omega)).mono ?_; rintro e w' ⟨rfl, rfl⟩
  go_wp2_with fail
  refine (pick_in _ _ _ (by omega) (by omega)).mono ?_; rintro e w' ⟨rfl, rfl⟩
  go_wp2_with fail
  refine (place_any _ _).mono ?_; rintro e w' ⟨rfl, hg⟩
  go_wp2_with fail
  refine (pick_in _ _ _ (by omega) (by omega)).mono ?_; rintro e w' ⟨rfl, rfl⟩
  go_wp2_with fail
  refine (told_any _).mono ?_; rintro e w' ⟨rfl, rfl⟩
  go_wp2_with fail
  go_ret
  exact ⟨congrArg (fun b => Ending.returned (Value.bool b)) (beq_iff_eq.2 (by omega : px d = pick d 16777216)), hg⟩

theorem pow12 (d : Int) : pick d 4096 ≤ next d / 4503599627370496 ∧ next d / 4503599627370496 ≤ pick d 4096 ∧ 2 * pick d 4096 ≤ pick d 8192 ∧ pick d 8192 ≤ 2 * pick d 4096 + 1 := by
  have := next_bd d
  unfold pick; generalize next d = e at *; omega
theorem fair12 (d n : Int) (w : World) (hk : (IntKind.u64.wrap n).tmod 20 = 12) : Calls Try.prog 9 #[.int .u64 d, .int .i64 n] w fun e w' => e = .returned (.bool true) ∧ Grown w w' := by
  have hb := next_bd d
  have hx := px_bd d
  have hp := pick_bd d 4096 (by omega) (by omega)
  have hq := pick_bd d 8192 (by omega) (by omega)
  obtain ⟨r1, r2, r3, r4⟩ := pow12 d
  obtain ⟨r5, r6⟩ := px_pick d
  go_enter Try.func9, Try.ntmps9
  go_wp2_with fail
  refine (pick_in _ _ _ (by omega) (by omega)).mono ?_; rintro e w' ⟨rfl, rfl⟩
  go_wp2_with fail
  refine (pick_in _ _ _ (by omega) (by omega)).mono ?_; rintro e w' ⟨rfl, rfl⟩
  go_wp2_with fail
  refine (place_any _ _).mono ?_; rintro e w' ⟨rfl, hg⟩
  go_wp2_with fail
  refine (pick_in _ _ _ (by omega) (by omega)).mono ?_; rintro e w' ⟨rfl, rfl⟩
  go_wp2_with fail
  refine (told_any _).mono ?_; rintro e w' ⟨rfl, rfl⟩
  go_wp2_with fail
  go_ret
  exact ⟨congrArg (fun b => Ending.returned (Value.bool b)) (beq_iff_eq.2 (by omega : px d = pick d 16777216)), hg⟩

theorem pow13 (d : Int) : pick d 8192 ≤ next d / 2251799813685248 ∧ next d / 2251799813685248 ≤ pick d 8192 ∧ 2 * pick d 8192 ≤ pick d 16384 ∧ pick d 16384 ≤ 2 * pick d 8192 + 1 := by
  have := next_bd d
  unfold pick; generalize next d = e at *; omega
theorem fair13 (d n : Int) (w : World) (hk : (IntKind.u64.wrap n).tmod 20 = 13) : Calls Try.prog 9 #[.int .u64 d, .int .i64 n] w fun e w' => e = .returned (.bool true) ∧ Grown w w' := by
  have hb := next_bd d
  have hx := px_bd d
  have hp := pick_bd d 8192 (by omega) (by omega)
  have hq := pick_bd d 16384 (by omega) (by omega)
  obtain ⟨r1, r2, r3, r4⟩ := pow13 d
  obtain ⟨r5, r6⟩ := px_pick d
  go_enter Try.func9, Try.ntmps9
  go_wp2_with fail
  refine (pick_in _ _ _ (by omega) (by omega)).mono ?_; rintro e w' ⟨rfl, rfl⟩
  go_wp2_with fail
  refine (pick_in _ _ _ (by omega) (by omega)).mono ?_; rintro e w' ⟨rfl, rfl⟩
  go_wp2_with fail
  refine (place_any _ _).mono ?_; rintro e w' ⟨rfl, hg⟩
  go_wp2_with fail
  refine (pick_in _ _ _ (by omega) (by omega)).mono ?_; rintro e w' ⟨rfl, rfl⟩
  go_wp2_with fail
  refine (told_any _).mono ?_; rintro e w' ⟨rfl, rfl⟩
  go_wp2_with fail
  go_ret
  exact ⟨congrArg (fun b => Ending.returned (Value.bool b)) (beq_iff_eq.2 (by omega : px d = pick d 16777216)), hg⟩

theorem pow14 (d : Int) : pick d 16384 ≤ next d / 1125899906842624 ∧ next d / 1125899906842624 ≤ pick d 16384 ∧ 2 * pick d 16384 ≤ pick d 32768 ∧ pick d 32768 ≤ 2 * pick d 16384 + 1 := by
  have := next_bd d
  unfold pick; generalize next d = e at *; omega
theorem fair14 (d n : Int) (w : World) (hk : (IntKind.u64.wrap n).tmod 20 = 14) : Calls Try.prog 9 #[.int .u64 d, .int .i64 n] w fun e w' => e = .returned (.bool true) ∧ Grown w w' := by
  have hb := next_bd d
  have hx := px_bd d
  have hp := pick_bd d 16384 (by omega) (by omega)
  have hq := pick_bd d 32768 (by omega) (by omega)
  obtain ⟨r1, r2, r3, r4⟩ := pow14 d
  obtain ⟨r5, r6⟩ := px_pick d
  go_enter Try.func9, Try.ntmps9
  go_wp2_with fail
  refine (pick_in _ _ _ (by omega) (by omega)).mono ?_; rintro e w' ⟨rfl, rfl⟩
  go_wp2_with fail
  refine (pick_in _ _ _ (by omega) (by omega)).mono ?_; rintro e w' ⟨rfl, rfl⟩
  go_wp2_with fail
  refine (place_any _ _).mono ?_; rintro e w' ⟨rfl, hg⟩
  go_wp2_with fail
  refine (pick_in _ _ _ (by omega) (by omega)).mono ?_; rintro e w' ⟨rfl, rfl⟩
  go_wp2_with fail
  refine (told_any _).mono ?_; rintro e w' ⟨rfl, rfl⟩
  go_wp2_with fail
  go_ret
  exact ⟨congrArg (fun b => Ending.returned (Value.bool b)) (beq_iff_eq.2 (by omega : px d = pick d 16777216)), hg⟩

theorem pow15 (d : Int) : pick d 32768 ≤ next d / 562949953421312 ∧ next d / 562949953421312 ≤ pick d 32768 ∧ 2 * pick d 32768 ≤ pick d 65536 ∧ pick d 65536 ≤ 2 * pick d 32768 + 1 := by
  have := next_bd d
  unfold pick; generalize next d = e at *; omega
theorem fair15 (d n : Int) (w : World) (hk : (IntKind.u64.wrap n).tmod 20 = 15) : Calls Try.prog 9 #[.int .u64 d, .int .i64 n] w fun e w' => e = .returned (.bool true) ∧ Grown w w' := by
  have hb := next_bd d
  have hx := px_bd d
  have hp := pick_bd d 32768 (by omega) (by omega)
  have hq := pick_bd d 65536 (by omega) (by omega)
  obtain ⟨r1, r2, r3, r4⟩ := pow15 d
  obtain ⟨r5, r6⟩ := px_pick d
  go_enter Try.func9, Try.ntmps9
  go_wp2_with fail
  refine (pick_in _ _ _ (by omega) (by omega)).mono ?_; rintro e w' ⟨rfl, rfl⟩
  go_wp2_with fail
  refine (pick_in _ _ _ (by omega) (by omega)).mono ?_; rintro e w' ⟨rfl, rfl⟩
  go_wp2_with fail
  refine (place_any _ _).mono ?_; rintro e w' ⟨rfl, hg⟩
  go_wp2_with fail
  refine (pick_in _ _ _ (by omega) (by omega)).mono ?_; rintro e w' ⟨rfl, rfl⟩
  go_wp2_with fail
  refine (told_any _).mono ?_; rintro e w' ⟨rfl, rfl⟩
  go_wp2_with fail
  go_ret
  exact ⟨congrArg (fun b => Ending.returned (Value.bool b)) (beq_iff_eq.2 (by omega : px d = pick d 16777216)), hg⟩

theorem pow16 (d : Int) : pick d 65536 ≤ next d / 281474976710656 ∧ next d / 281474976710656 ≤ pick d 65536 ∧ 2 * pick d 65536 ≤ pick d 131072 ∧ pick d 131072 ≤ 2 * pick d 65536 + 1 := by
  have := next_bd d
  unfold pick; generalize next d = e at *; omega
theorem fair16 (d n : Int) (w : World) (hk : (IntKind.u64.wrap n).tmod 20 = 16) : Calls Try.prog 9 #[.int .u64 d, .int .i64 n] w fun e w' => e = .returned (.bool true) ∧ Grown w w' := by
  have hb := next_bd d
  have hx := px_bd d
  have hp := pick_bd d 65536 (by omega) (by omega)
  have hq := pick_bd d 131072 (by omega) (by omega)
  obtain ⟨r1, r2, r3, r4⟩ := pow16 d
  obtain ⟨r5, r6⟩ := px_pick d
  go_enter Try.func9, Try.ntmps9
  go_wp2_with fail
  refine (pick_in _ _ _ (by omega) (by omega)).mono ?_; rintro e w' ⟨rfl, rfl⟩
  go_wp2_with fail
  refine (pick_in _ _ _ (by omega) (by omega)).mono ?_; rintro e w' ⟨rfl, rfl⟩
  go_wp2_with fail
  refine (place_any _ _).mono ?_; rintro e w' ⟨rfl, hg⟩
  go_wp2_with fail
  refine (pick_in _ _ _ (by omega) (by omega)).mono ?_; rintro e w' ⟨rfl, rfl⟩
  go_wp2_with fail
  refine (told_any _).mono ?_; rintro e w' ⟨rfl, rfl⟩
  go_wp2_with fail
  go_ret
  exact ⟨congrArg (fun b => Ending.returned (Value.bool b)) (beq_iff_eq.2 (by omega : px d = pick d 16777216)), hg⟩

theorem pow17 (d : Int) : pick d 131072 ≤ next d / 140737488355328 ∧ next d / 140737488355328 ≤ pick d 131072 ∧ 2 * pick d 131072 ≤ pick d 262144 ∧ pick d 262144 ≤ 2 * pick d 131072 + 1 := by
  have := next_bd d
  unfold pick; generalize next d = e at *; omega
theorem fair17 (d n : Int) (w : World) (hk : (IntKind.u64.wrap n).tmod 20 = 17) : Calls Try.prog 9 #[.int .u64 d, .int .i64 n] w fun e w' => e = .returned (.bool true) ∧ Grown w w' := by
  have hb := next_bd d
  have hx := px_bd d
  have hp := pick_bd d 131072 (by omega) (by omega)
  have hq := pick_bd d 262144 (by omega) (by omega)
  obtain ⟨r1, r2, r3, r4⟩ := pow17 d
  obtain ⟨r5, r6⟩ := px_pick d
  go_enter Try.func9, Try.ntmps9
  go_wp2_with fail
  refine (pick_in _ _ _ (by omega) (by omega)).mono ?_; rintro e w' ⟨rfl, rfl⟩
  go_wp2_with fail
  refine (pick_in _ _ _ (by omega) (by omega)).mono ?_; rintro e w' ⟨rfl, rfl⟩
  go_wp2_with fail
  refine (place_any _ _).mono ?_; rintro e w' ⟨rfl, hg⟩
  go_wp2_with fail
  refine (pick_in _ _ _ (by omega) (by omega)).mono ?_; rintro e w' ⟨rfl, rfl⟩
  go_wp2_with fail
  refine (told_any _).mono ?_; rintro e w' ⟨rfl, rfl⟩
  go_wp2_with fail
  go_ret
  exact ⟨congrArg (fun b => Ending.returned (Value.bool b)) (beq_iff_eq.2 (by omega : px d = pick d 16777216)), hg⟩

theorem pow18 (d : Int) : pick d 262144 ≤ next d / 70368744177664 ∧ next d / 70368744177664 ≤ pick d 262144 ∧ 2 * pick d 262144 ≤ pick d 524288 ∧ pick d 524288 ≤ 2 * pick d 262144 + 1 := by
  have := next_bd d
  unfold pick; generalize next d = e at *; omega
theorem fair18 (d n : Int) (w : World) (hk : (IntKind.u64.wrap n).tmod 20 = 18) : Calls Try.prog 9 #[.int .u64 d, .int .i64 n] w fun e w' => e = .returned (.bool true) ∧ Grown w w' := by
  have hb := next_bd d
  have hx := px_bd d
  have hp := pick_bd d 262144 (by omega) (by omega)
  have hq := pick_bd d 524288 (by omega) (by omega)
  obtain ⟨r1, r2, r3, r4⟩ := pow18 d
  obtain ⟨r5, r6⟩ := px_pick d
  go_enter Try.func9, Try.ntmps9
  go_wp2_with fail
  refine (pick_in _ _ _ (by omega) (by omega)).mono ?_; rintro e w' ⟨rfl, rfl⟩
  go_wp2_with fail
  refine (pick_in _ _ _ (by omega) (by omega)).mono ?_; rintro e w' ⟨rfl, rfl⟩
  go_wp2_with fail
  refine (place_any _ _).mono ?_; rintro e w' ⟨rfl, hg⟩
  go_wp2_with fail
  refine (pick_in _ _ _ (by omega) (by omega)).mono ?_; rintro e w' ⟨rfl, rfl⟩
  go_wp2_with fail
  refine (told_any _).mono ?_; rintro e w' ⟨rfl, rfl⟩
  go_wp2_with fail
  go_ret
  exact ⟨congrArg (fun b => Ending.returned (Value.bool b)) (beq_iff_eq.2 (by omega : px d = pick d 16777216)), hg⟩

theorem pow19 (d : Int) : pick d 524288 ≤ next d / 35184372088832 ∧ next d / 35184372088832 ≤ pick d 524288 ∧ 2 * pick d 524288 ≤ pick d 1048576 ∧ pick d 1048576 ≤ 2 * pick d 524288 + 1 := by
  have := next_bd d
  unfold pick; generalize next d = e at *; omega
theorem fair19 (d n : Int) (w : World) (hk : (IntKind.u64.wrap n).tmod 20 = 19) : Calls Try.prog 9 #[.int .u64 d, .int .i64 n] w fun e w' => e = .returned (.bool true) ∧ Grown w w' := by
  have hb := next_bd d
  have hx := px_bd d
  have hp := pick_bd d 524288 (by omega) (by omega)
  have hq := pick_bd d 1048576 (by omega) (by omega)
  obtain ⟨r1, r2, r3, r4⟩ := pow19 d
  obtain ⟨r5, r6⟩ := px_pick d
  go_enter Try.func9, Try.ntmps9
  go_wp2_with fail
  refine (pick_in _ _ _ (by omega) (by omega)).mono ?_; rintro e w' ⟨rfl, rfl⟩
  go_wp2_with fail
  refine (pick_in _ _ _ (by omega) (by omega)).mono ?_; rintro e w' ⟨rfl, rfl⟩
  go_wp2_with fail
  refine (place_any _ _).mono ?_; rintro e w' ⟨rfl, hg⟩
  go_wp2_with fail
  refine (pick_in _ _ _ (by omega) (by omega)).mono ?_; rintro e w' ⟨rfl, rfl⟩
  go_wp2_with fail
  refine (told_any _).mono ?_; rintro e w' ⟨rfl, rfl⟩
  go_wp2_with fail
  go_ret
  exact ⟨congrArg (fun b => Ending.returned (Value.bool b)) (beq_iff_eq.2 (by omega : px d = pick d 16777216)), hg⟩
end Go.Proofs.Ytcjmajfbhmoeaaa.dice
