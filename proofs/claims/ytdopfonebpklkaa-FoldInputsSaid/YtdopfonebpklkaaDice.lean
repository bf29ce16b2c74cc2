/- What the functions of package dice compute, each proved once: contracts for the laws of layer 4. No condition but that the arguments are of their kinds. -/
import Derived.Test.YtdopfonebpklkaaRows
import Derived.WalkKit
import Derived.ProofKit
import Derived.RegionTactic
import Derived.ChangeAlike
import Derived.Below
namespace Go.Proofs.Ytdopfonebpklkaa.dice
open Go.ChangeShapes Go.WideShapes Go.ChangeAt Go.RowKit

def next (d : Int) : Int := (d * 6364136223846793005 + 1442695040888963407) % 18446744073709551616
def pick (d n : Int) : Int := next d / 4294967296 * n / 4294967296

theorem next_bd (d : Int) : 0 ≤ next d ∧ next d ≤ 18446744073709551615 := by unfold next; omega
theorem next_hi (d : Int) : 0 ≤ next d / 4294967296 ∧ next d / 4294967296 ≤ 4294967295 := by have := next_bd d; omega
theorem mul_bd (a n : Int) (h : 0 ≤ a) (h' : a ≤ 4294967295) (hn : 1 ≤ n) (hn' : n ≤ 2147483647) : 0 ≤ a * n ∧ a * n ≤ 4294967295 * n := 
  ⟨Int.mul_nonneg h (by omega), Int.mul_le_mul_of_nonneg_right h' (by omega)⟩
theorem pick_bd (d n : Int) (hn : 1 ≤ n) (hn' : n ≤ 2147483647) : 0 ≤ pick d n ∧ pick d n < n := by
  unfold pick
  have := next_hi d
  have := mul_bd _ n this.1 this.2 hn hn'
  generalize next d / 4294967296 * n = m at *
  omega
theorem next_wrap (d : Int) : IntKind.u64.wrap (IntKind.u64.wrap (d * 6364136223846793005) + 1442695040888963407) = next d := by
  rw [IntKind.wrap_u64, IntKind.wrap_u64]; unfold next; omega
theorem pick_wrap (d n : Int) (hn : 1 ≤ n) (hn' : n ≤ 2147483647) : RowKit.wrap64 (IntKind.u64.wrap (next d / 4294967296 * n) / 4294967296) = pick d n := by
  rw [IntKind.wrap_u64]; unfold pick wrap64
  have := next_hi d
  have := mul_bd _ n this.1 this.2 hn hn'
  generalize next d / 4294967296 * n = m at *
  omega

theorem next_any (d : Int) (w : World) :
    Calls Try.prog 78 #[.int .u64 d] w fun e w' => e = .returned (.int .u64 (next d)) ∧ w = w' := by
  go_enter Try.func78, Try.ntmps78
  go_wp2
  go_ret
  exact ⟨by rw [← next_wrap d]; rfl, rfl⟩

def pickOf (d n : Int) : Value := if 1 ≤ n ∧ n ≤ 2147483647 then .tuple #[.int .i64 (pick d n), .int .u64 (next d)] else .tuple #[.int .i64 0, .int .u64 d]

theorem pick_in (d n : Int) (w : World) (hn : 1 ≤ n) (hn' : n ≤ 2147483647) :
    Calls Try.prog 70 #[.int .u64 d, .int .i64 n] w fun e w' => e = .returned (.tuple #[.int .i64 (pick d n), .int .u64 (next d)]) ∧ w = w' := by
  have hb := next_bd d
  go_enter Try.func70, Try.ntmps70
  go_wp2_with (go_at_call 78; refine (next_any _ _).mono ?_; rintro e w' ⟨rfl, rfl⟩)
  go_ret2
  exact ⟨by rw [← pick_wrap d n hn hn']; rfl, rfl⟩

theorem pick_out (d n : Int) (w : World) (hn : ¬ (1 ≤ n ∧ n ≤ 2147483647)) :
    Calls Try.prog 70 #[.int .u64 d, .int .i64 n] w fun e w' => e = .returned (.tuple #[.int .i64 0, .int .u64 d]) ∧ w = w' := by
  by_cases h1 : n < 1
  all_goals
    go_enter Try.func70, Try.ntmps70
    go_wp2
    go_ret2
    exact ⟨rfl, rfl⟩

def px (d : Int) : Int := pick d 16777216
def py (d : Int) : Int := pick (next d) 16777216
theorem px_bd (d : Int) : 0 ≤ px d ∧ px d ≤ 16777215 := by have := pick_bd d 16777216 (by omega) (by omega); unfold px; omega
theorem py_bd (d : Int) : 0 ≤ py d ∧ py d ≤ 16777215 := by have := pick_bd (next d) 16777216 (by omega) (by omega); unfold py; omega

theorem one_any (d : Int) (w : World) :
    Calls Try.prog 69 #[.pointer (some { block := w.heap.size, off := 0 })] (w.alloc (.cells #[.int .u64 d] 27)) fun e w' => e = .returned (.int .i32 (px d)) ∧ w.alloc (.cells #[.int .u64 (next d)] 27) = w' := by
  have hx := px_bd d
  go_enter Try.func69, Try.ntmps69
  go_wp2_with fail
  refine (pick_in _ _ _ (by omega) (by omega)).mono ?_; rintro e w' ⟨rfl, rfl⟩
  change 0 ≤ pick d 16777216 ∧ pick d 16777216 ≤ 16777215 at hx
  go_wp2_with fail
  go_ret
  exact ⟨rfl, rfl⟩

theorem place_any (d : Int) (w : World) :
    Calls Try.prog 57 #[.int .u64 d] w fun e w' => e = .returned (.tuple #[.int .i32 (px d), .int .i32 (py d), .int .u64 (next (next d))]) ∧ Below w.heap.size w w' := by
  have hx := px_bd d
  have hy := py_bd d
  go_enter Try.func57, Try.ntmps57
  go_wp2_with fail
  refine (one_any _ _).mono ?_; rintro e w' ⟨rfl, rfl⟩
  go_wp2_with fail
  refine (one_any _ _).mono ?_; rintro e w' ⟨rfl, rfl⟩
  go_wp2_with fail
  go_region
  go_wp2
  go_ret3
  exact ⟨rfl, by repeat (first | exact Below.refl _ _ | apply Below.drew | (refine Below.alloc ?_ (by simp) _))⟩

def seedStep (h : Int) (c : UInt8) : Int := IntKind.u64.wrap (bits .xor .u64 h (IntKind.u64.wrap (c.toNat : Int)) * 1099511628211)
def seedFrom (h : Int) (l : List UInt8) : Int := l.foldl seedStep h
def seed (l : List UInt8) : Int := seedFrom 14695981039346656037 l

theorem take_snoc (s : ByteArray) (k : Nat) (h : k < s.size) : s.data.toList.take (k + 1) = s.data.toList.take k ++ [s[k]] := by
  rw [List.take_succ_eq_append_getElem (by simpa using h)]; rfl
theorem seed_snoc (h : Int) (l : List UInt8) (c : UInt8) : seedFrom h (l ++ [c]) = seedStep (seedFrom h l) c := by simp [seedFrom]

theorem ret_int {k : IntKind} {a b : Int} (h : a = b) : Ending.returned (.int k a) = .returned (.int k b) := by rw [h]

set_option maxHeartbeats 400000 in
theorem seed_any (s : ByteArray) (w : World) (hs : s.size ≤ maxLen) :
    Calls Try.prog 21 #[.string s] w fun e w' => e = .returned (.int .u64 (seed s.data.toList)) ∧ w = w' := by
  unfold maxLen at hs
  go_enter Try.func21, Try.ntmps21
  go_wp2
  go_loop [3, 4, 7] (fun h _ i => ∃ k : Nat, k ≤ s.size ∧ i = .int .i64 k ∧ h = .int .u64 (seed (s.data.toList.take k))) (fun _ _ i => s.size - (intOf i).toNat)
  case atStart => exact ⟨0, Nat.zero_le _, rfl, rfl⟩
  case round =>
    obtain ⟨k, hk, rfl, rfl⟩ := hrel
    by_cases hlt : k < s.size
    · have HS : Hid (seed (s.data.toList.take (k + 1)) = seedStep (seed (s.data.toList.take k)) s[k]) := by rw [take_snoc s k hlt]; exact seed_snoc _ _ _
      go_wp2
      go_round
      case rel => exact ⟨k + 1, by omega, by go_num, by rw [HS.out]; rfl⟩
      case measure => simp [intOf]; omega
    · go_wp2
      go_ret
      exact ⟨ret_int (by rw [List.take_of_length_le (by simp; omega)]), rfl⟩

end Go.Proofs.Ytdopfonebpklkaa.dice
