/- What the functions of package bound, and the document's answers to them, compute: contracts for the laws of layer 22. No condition but that the arguments are ints. -/
import Derived.Test.YtcjmajfbhmoeaaaRows
import Derived.WalkKit
import Derived.ProofKit
import Derived.WalkLawsBesides
namespace Go.Proofs.Ytcjmajfbhmoeaaa.bound
open Go.ChangeShapes Go.WideShapes Go.ChangeAt Go.RowKit

def kept (n : Int) : Int := if n < 0 then 0 else if n ≤ 65535 then n else 65535
theorem kept_bd (n : Int) : 0 ≤ kept n ∧ kept n ≤ 65535 := by unfold kept; split <;> (try split) <;> omega
theorem kept_in (n : Int) (h : 0 ≤ n) (h' : n ≤ 65535) : kept n = n := by unfold kept; rw [if_neg (by omega), if_pos h']
def chunks (n : Int) : Int := if n ≤ 0 then 0 else (n - 1) / 64 + 1
theorem chunks_bd (n : Int) (h : n ≤ 9223372036854775807) : 0 ≤ chunks n ∧ chunks n ≤ 9223372036854775807 := by unfold chunks; split <;> omega
theorem ret_int {k : IntKind} {a b : Int} (h : a = b) : Ending.returned (.int k a) = .returned (.int k b) := by rw [h]

theorem some_any (n : Int) (w : World) : Calls Try.prog 29 #[.int .i64 n] w fun e w' => e = .returned (.int .i64 (kept n)) ∧ w = w' := by
  by_cases h0 : n < 0
  · go_enter Try.func29, Try.ntmps29
    go_wp2
    go_ret
    exact ⟨ret_int (by unfold kept; rw [if_pos h0]), rfl⟩
  · by_cases h1 : n ≤ 65535
    all_goals
      go_enter Try.func29, Try.ntmps29
      go_wp2
      go_ret
      exact ⟨ret_int (by unfold kept; rw [if_neg (by omega)]; first | rw [if_pos h1] | rw [if_neg (by omega)]), rfl⟩

theorem kept_any (n : Int) (w : World) : Calls Try.prog 27 #[.int .i64 n] w fun e w' => e = .returned (.int .i64 (kept n)) ∧ w = w' := by
  by_cases h0 : n < 0
  · go_enter Try.func27, Try.ntmps27
    go_wp2
    go_ret
    exact ⟨ret_int (by unfold kept; rw [if_pos h0]), rfl⟩
  · by_cases h1 : n ≤ 65535
    all_goals
      go_enter Try.func27, Try.ntmps27
      go_wp2
      go_ret
      exact ⟨ret_int (by unfold kept; rw [if_neg (by omega)]; first | rw [if_pos h1] | rw [if_neg (by omega)]), rfl⟩

theorem chunks_any (n : Int) (w : World) (h : n ≤ 9223372036854775807) : Calls Try.prog 14 #[.int .i64 n] w fun e w' => e = .returned (.int .i64 (chunks n)) ∧ w = w' := by
  by_cases h0 : n ≤ 0
  all_goals
    go_enter Try.func14, Try.ntmps14
    go_wp2
    go_ret
    exact ⟨ret_int (by unfold chunks; first | rw [if_pos h0] | rw [if_neg (by omega)]), rfl⟩
theorem refChunks_any (n : Int) (w : World) (h : n ≤ 9223372036854775807) : Calls Try.prog 15 #[.int .i64 n] w fun e w' => e = .returned (.int .i64 (chunks n)) ∧ w = w' := by
  by_cases h0 : n ≤ 0
  all_goals
    go_enter Try.func15, Try.ntmps15
    go_wp2
    go_ret
    exact ⟨ret_int (by unfold chunks; first | rw [if_pos h0] | rw [if_neg (by omega)]), rfl⟩

theorem rounds_two (c a b : Int) (w : World) (hc : 0 ≤ c) (hc' : c ≤ 8) :
    Calls Try.prog 26 #[.int .i64 c, .slice (some ⟨w.heap.size, 0, none⟩) 2 2] (w.alloc (.cells #[.int .i64 a, .int .i64 b] 3)) fun e w' => e = .returned (.int .i64 (60 + c * kept a + c * kept b)) ∧ w.alloc (.cells #[.int .i64 a, .int .i64 b] 3) = w' := by
  have ha := kept_bd a
  have hb := kept_bd b
  have m1 : 0 ≤ c * kept a ∧ c * kept a ≤ 8 * 65535 := ⟨Int.mul_nonneg hc ha.1, Int.mul_le_mul hc' ha.2 ha.1 (by omega)⟩
  have m2 : 0 ≤ c * kept b ∧ c * kept b ≤ 8 * 65535 := ⟨Int.mul_nonneg hc hb.1, Int.mul_le_mul hc' hb.2 hb.1 (by omega)⟩
  go_enter Try.func26, Try.ntmps26
  go_wp2_with fail
  refine wp_loop_rounds 3 ?_
  rw [rounds_succ]
  go_wp2_with fail
  refine (some_any _ _).mono ?_; rintro e w' ⟨rfl, rfl⟩
  go_wp2_with fail
  rw [rounds_succ]
  go_wp2_with fail
  refine (some_any _ _).mono ?_; rintro e w' ⟨rfl, rfl⟩
  go_wp2_with fail
  rw [rounds_succ]
  go_wp2_with fail
  go_ret
  exact ⟨rfl, rfl⟩

theorem rounds_one (c a : Int) (w : World) (hc : 0 ≤ c) (hc' : c ≤ 8) :
    Calls Try.prog 26 #[.int .i64 c, .slice (some ⟨w.heap.size, 0, none⟩) 1 1] (w.alloc (.cells #[.int .i64 a] 3)) fun e w' => e = .returned (.int .i64 (60 + c * kept a)) ∧ w.alloc (.cells #[.int .i64 a] 3) = w' := by
  have ha := kept_bd a
  have m1 : 0 ≤ c * kept a ∧ c * kept a ≤ 8 * 65535 := ⟨Int.mul_nonneg hc ha.1, Int.mul_le_mul hc' ha.2 ha.1 (by omega)⟩
  go_enter Try.func26, Try.ntmps26
  go_wp2_with fail
  refine wp_loop_rounds 2 ?_
  rw [rounds_succ]
  go_wp2_with fail
  refine (some_any _ _).mono ?_; rintro e w' ⟨rfl, rfl⟩
  go_wp2_with fail
  rw [rounds_succ]
  go_wp2_with fail
  go_ret
  exact ⟨rfl, rfl⟩

theorem join_any (a b : Int) (w : World) : Calls Try.prog 16 #[.int .i64 a, .int .i64 b] w fun e w' => e = .returned (.int .i64 (60 + 4 * kept a + 4 * kept b)) ∧ w.alloc (.cells #[.int .i64 a, .int .i64 b] 3) = w' := by
  go_enter Try.func16, Try.ntmps16
  go_wp2_with fail
  refine (rounds_two _ _ _ _ (by omega) (by omega)).mono ?_; rintro e w' ⟨rfl, rfl⟩
  go_wp2_with fail
  go_ret
  exact ⟨rfl, rfl⟩
theorem live_any (a : Int) (w : World) : Calls Try.prog 18 #[.int .i64 a] w fun e w' => e = .returned (.int .i64 (60 + 8 * kept a)) ∧ w.alloc (.cells #[.int .i64 a] 3) = w' := by
  go_enter Try.func18, Try.ntmps18
  go_wp2_with fail
  refine (rounds_one _ _ _ (by omega) (by omega)).mono ?_; rintro e w' ⟨rfl, rfl⟩
  go_wp2_with fail
  go_ret
  exact ⟨rfl, rfl⟩
theorem refJoin_any (a b : Int) (w : World) : Calls Try.prog 17 #[.int .i64 a, .int .i64 b] w fun e w' => e = .returned (.int .i64 (60 + 4 * kept a + 4 * kept b)) ∧ w = w' := by
  have ha := kept_bd a
  have hb := kept_bd b
  go_enter Try.func17, Try.ntmps17
  go_wp2_with fail
  refine (kept_any _ _).mono ?_; rintro e w' ⟨rfl, rfl⟩
  go_wp2_with fail
  refine (kept_any _ _).mono ?_; rintro e w' ⟨rfl, rfl⟩
  go_wp2_with fail
  go_ret
  exact ⟨rfl, rfl⟩
theorem refLive_any (a : Int) (w : World) : Calls Try.prog 19 #[.int .i64 a] w fun e w' => e = .returned (.int .i64 (60 + 8 * kept a)) ∧ w = w' := by
  have ha := kept_bd a
  go_enter Try.func19, Try.ntmps19
  go_wp2_with fail
  refine (kept_any _ _).mono ?_; rintro e w' ⟨rfl, rfl⟩
  go_wp2_with fail
  go_ret
  exact ⟨rfl, rfl⟩

theorem k2 : kept 2 = 2 := rfl
theorem k3 : kept 3 = 3 := rfl
theorem k5 : kept (-5) = 0 := rfl
theorem c65 : chunks 65 = 2 := rfl
theorem c0 : chunks 0 = 0 := rfl

theorem told_any (w : World) : Calls Try.prog 13 #[] w fun e w' => e = .returned (.bool true) ∧ Grown w w' := by
  go_enter Try.func13, Try.ntmps13
  go_wp2_with fail
  refine (chunks_any _ _ (by omega)).mono ?_; rintro e w' ⟨rfl, rfl⟩
  rw [c65]
  go_wp2_with fail
  refine (chunks_any _ _ (by omega)).mono ?_; rintro e w' ⟨rfl, rfl⟩
  rw [c0]
  go_wp2_with fail
  refine (join_any _ _ _).mono ?_; rintro e w' ⟨rfl, rfl⟩
  rw [k2, k3]
  go_wp2_with fail
  refine (live_any _ _).mono ?_; rintro e w' ⟨rfl, rfl⟩
  rw [k5]
  go_wp2_with fail
  refine (live_any _ _).mono ?_; rintro e w' ⟨rfl, rfl⟩
  rw [k2]
  go_wp2_with fail
  go_ret
  exact ⟨rfl, by repeat (first | exact Grown.refl _ | apply Grown.drew | apply Grown.alloc)⟩

/-- 'BoundAsks' -/
theorem asks (a b c : Int) (w : World) (h : a ≤ 9223372036854775807) : Calls Try.prog 5 #[.int .i64 a, .int .i64 b, .int .i64 c] w fun e w' => e = .returned (.bool true) ∧ Grown w w' := by
  go_enter Try.func5, Try.ntmps5
  go_wp2_with fail
  refine (told_any _).mono ?_; rintro e w' ⟨rfl, hg⟩
  go_wp2_with fail
  refine (chunks_any _ _ h).mono ?_; rintro e w' ⟨rfl, rfl⟩
  go_wp2_with fail
  refine (refChunks_any _ _ h).mono ?_; rintro e w' ⟨rfl, rfl⟩
  go_wp2_with fail
  refine (join_any _ _ _).mono ?_; rintro e w' ⟨rfl, rfl⟩
  go_wp2_with fail
  refine (refJoin_any _ _ _).mono ?_; rintro e w' ⟨rfl, rfl⟩
  go_wp2_with fail
  refine (live_any _ _).mono ?_; rintro e w' ⟨rfl, rfl⟩
  go_wp2_with fail
  refine (refLive_any _ _).mono ?_; rintro e w' ⟨rfl, rfl⟩
  go_wp2_with fail
  go_ret
  exact ⟨rfl, by repeat (first | exact hg | exact Grown.refl _ | apply Grown.drew | apply Grown.alloc)⟩
end Go.Proofs.Ytcjmajfbhmoeaaa.bound
