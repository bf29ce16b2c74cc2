/- 'BoundChunks': the walk of the law. For every two ints; no condition. -/
import Derived.Test.YtcjmajfbhmoeaaaBound
import Derived.Lib.Hide
namespace Go.Proofs.Ytcjmajfbhmoeaaa.bound
open Go.ChangeShapes Go.WideShapes Go.ChangeAt Go.RowKit
theorem draw_k (a : Int) : 1 ≤ wrap64 (1 + wrap64 ((IntKind.u64.wrap a).tmod 1000000)) ∧ wrap64 (1 + wrap64 ((IntKind.u64.wrap a).tmod 1000000)) ≤ 1000000 := by
  rw [IntKind.wrap_u64, Int.tmod_eq_emod_of_nonneg (by omega)]; unfold wrap64; omega
theorem draw_m (a : Int) : 0 ≤ wrap64 ((IntKind.u64.wrap a).tmod 60000) ∧ wrap64 ((IntKind.u64.wrap a).tmod 60000) ≤ 59999 := by
  rw [IntKind.wrap_u64, Int.tmod_eq_emod_of_nonneg (by omega)]; unfold wrap64; omega
theorem kept5 : kept 5 = 5 := rfl
theorem chunks_of (k : Int) (h : 1 ≤ k) (h' : k ≤ 1000000) : 1 ≤ chunks k ∧ chunks k ≤ 1000000 ∧ k ≤ chunks k * 64 ∧ (chunks k - 1) * 64 < k := by
  unfold chunks; rw [if_neg (by omega)]; omega
theorem chunksWalk (a b : Int) (w : World)  : Calls Try.prog 6 #[.int .i64 a, .int .i64 b] w fun e w' => e = .returned (.bool true) ∧ Grown w w' := by
  have hk := draw_k a
  have hm := draw_m b
  go_enter Try.func6, Try.ntmps6
  go_wp2_with fail
  generalize wrap64 (1 + wrap64 ((IntKind.u64.wrap a).tmod 1000000)) = k at *
  generalize wrap64 ((IntKind.u64.wrap b).tmod 60000) = m at *
  have hc := chunks_of k hk.1 hk.2
  have K1 := Lib.hid (kept_in (m + 1) (by omega) (by omega))
  have K0 := Lib.hid (kept_in m (by omega) (by omega))
  refine (chunks_any _ _ (by omega)).mono ?_; rintro e w' ⟨rfl, rfl⟩
  go_wp2_with fail
  refine (told_any _).mono ?_; rintro e w' ⟨rfl, hg⟩
  go_wp2_with fail
  refine (join_any _ _ _).mono ?_; rintro e w' ⟨rfl, rfl⟩
  rw [K1.out, kept5]
  go_wp2_with fail
  refine (join_any _ _ _).mono ?_; rintro e w' ⟨rfl, rfl⟩
  rw [K0.out, kept5]
  go_wp2_with fail
  refine (join_any _ _ _).mono ?_; rintro e w' ⟨rfl, rfl⟩
  rw [K1.out, kept5]
  go_wp2_with fail
  refine (join_any _ _ _).mono ?_; rintro e w' ⟨rfl, rfl⟩
  rw [K0.out, kept5]
  go_wp2_with fail
  refine (live_any _ _).mono ?_; rintro e w' ⟨rfl, rfl⟩
  rw [K1.out]
  go_wp2_with fail
  refine (live_any _ _).mono ?_; rintro e w' ⟨rfl, rfl⟩
  rw [K0.out]
  go_wp2_with fail
  go_ret
  exact ⟨congrArg (fun b => Ending.returned (Value.bool b)) (show (60 + 8 * (m + 1) - (60 + 8 * m) == 8) = true by rw [beq_iff_eq]; omega), by repeat (first | exact hg | exact Grown.refl _ | apply Grown.drew | apply Grown.alloc)⟩
end Go.Proofs.Ytcjmajfbhmoeaaa.bound
