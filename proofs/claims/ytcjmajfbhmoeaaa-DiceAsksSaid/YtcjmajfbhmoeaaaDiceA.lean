/- 'DiceAsks', 'DiceRange': the walks of the laws. -/
import Derived.Test.YtcjmajfbhmoeaaaDiceTold
import Derived.WalkLawsBesides
import Derived.Lib.Hide
namespace Go.Proofs.Ytcjmajfbhmoeaaa.dice
open Go.ChangeShapes Go.WideShapes Go.ChangeAt Go.RowKit

theorem asksIn (d n : Int) (s : ByteArray) (w : World) (hs : s.size ≤ 200) (hn : 1 ≤ n) (hn' : n ≤ 2147483647) : Calls Try.prog 7 #[.int .u64 d, .int .i64 n, .string s] w fun e w' => e = .returned (.bool true) ∧ Grown w w' := by
  go_enter Try.func7, Try.ntmps7
  go_wp2_with fail
  refine (pick_in _ _ _ hn hn').mono ?_; rintro e w' ⟨rfl, rfl⟩
  go_wp2_with fail
  refine (refPick_in _ _ _ hn hn').mono ?_; rintro e w' ⟨rfl, rfl⟩
  go_wp2_with fail
  refine (place_any _ _).mono ?_; rintro e w' ⟨rfl, hg⟩
  go_wp2_with fail
  refine (refPlace_any _ _).mono ?_; rintro e w' ⟨rfl, rfl⟩
  go_wp2_with fail
  refine (told_any _).mono ?_; rintro e w' ⟨rfl, rfl⟩
  go_wp2_with fail
  refine (next_any _ _).mono ?_; rintro e w' ⟨rfl, rfl⟩
  go_wp2_with fail
  refine (refNext_any _ _).mono ?_; rintro e w' ⟨rfl, rfl⟩
  go_wp2_with fail
  refine (seed_any _ _ (by unfold maxLen; omega)).mono ?_; rintro e w' ⟨rfl, rfl⟩
  go_wp2_with fail
  refine (refSeed_any _ _ (by unfold maxLen; omega)).mono ?_; rintro e w' ⟨rfl, rfl⟩
  go_wp2_with fail
  go_ret
  exact ⟨rfl, hg⟩

theorem asksOut (d n : Int) (s : ByteArray) (w : World) (hs : s.size ≤ 200) (hn : ¬ (1 ≤ n ∧ n ≤ 2147483647)) : Calls Try.prog 7 #[.int .u64 d, .int .i64 n, .string s] w fun e w' => e = .returned (.bool true) ∧ Grown w w' := by
  have H := Lib.hid hn
  clear hn
  go_enter Try.func7, Try.ntmps7
  go_wp2_with fail
  refine (pick_out _ _ _ H.out).mono ?_; rintro e w' ⟨rfl, rfl⟩
  go_wp2_with fail
  refine (refPick_out _ _ _ H.out).mono ?_; rintro e w' ⟨rfl, rfl⟩
  go_wp2_with fail
  refine (place_any _ _).mono ?_; rintro e w' ⟨rfl, hg⟩
  go_wp2_with fail
  refine (refPlace_any _ _).mono ?_; rintro e w' ⟨rfl, rfl⟩
  go_wp2_with fail
  refine (told_any _).mono ?_; rintro e w' ⟨rfl, rfl⟩
  go_wp2_with fail
  refine (next_any _ _).mono ?_; rintro e w' ⟨rfl, rfl⟩
  go_wp2_with fail
  refine (refNext_any _ _).mono ?_; rintro e w' ⟨rfl, rfl⟩
  go_wp2_with fail
  refine (seed_any _ _ (by unfold maxLen; omega)).mono ?_; rintro e w' ⟨rfl, rfl⟩
  go_wp2_with fail
  refine (refSeed_any _ _ (by unfold maxLen; omega)).mono ?_; rintro e w' ⟨rfl, rfl⟩
  go_wp2_with fail
  go_ret
  exact ⟨rfl, hg⟩

theorem asksLong (d n : Int) (s : ByteArray) (w : World) (hs : ¬ s.size ≤ 200) (hs' : s.size ≤ 9223372036854775807) : Calls Try.prog 7 #[.int .u64 d, .int .i64 n, .string s] w fun e w' => e = .returned (.bool true) ∧ Grown w w' := by
  go_enter Try.func7, Try.ntmps7
  go_wp2_with fail
  refine (told_any _).mono ?_; rintro e w' ⟨rfl, rfl⟩
  go_wp2_with fail
  go_ret
  exact ⟨rfl, Grown.refl _⟩

theorem draw_k (a : Int) : 1 ≤ wrap64 (1 + wrap64 ((IntKind.u64.wrap a).tmod 2147483647)) ∧ wrap64 (1 + wrap64 ((IntKind.u64.wrap a).tmod 2147483647)) ≤ 2147483647 := by
  rw [IntKind.wrap_u64, Int.tmod_eq_emod_of_nonneg (by omega)]; unfold wrap64; omega

theorem range (d n : Int) (w : World) : Calls Try.prog 8 #[.int .u64 d, .int .i64 n] w fun e w' => e = .returned (.bool true) ∧ Grown w w' := by
  have hk := draw_k n
  have hx := px_bd d
  have hy := py_bd d
  go_enter Try.func8, Try.ntmps8
  go_wp2_with fail
  generalize wrap64 (1 + wrap64 ((IntKind.u64.wrap n).tmod 2147483647)) = k at *
  have hp := pick_bd d k hk.1 hk.2
  refine (pick_in _ _ _ hk.1 hk.2).mono ?_; rintro e w' ⟨rfl, rfl⟩
  go_wp2_with fail
  refine (place_any _ _).mono ?_; rintro e w' ⟨rfl, hg⟩
  go_wp2_with fail
  refine (told_any _).mono ?_; rintro e w' ⟨rfl, rfl⟩
  go_wp2_with fail
  refine (next_any _ _).mono ?_; rintro e w' ⟨rfl, rfl⟩
  go_wp2_with fail
  go_ret
  exact ⟨congrArg (fun b => Ending.returned (Value.bool b)) (decide_eq_true (by omega : py d < 16777216)), hg⟩

end Go.Proofs.Ytcjmajfbhmoeaaa.dice
