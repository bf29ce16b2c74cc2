/- The leaves of package chunk: what a Gather holds in memory, and what Has and Full tell; the text's number (dice.Seed). Contracts for the laws of layer 18. -/
import Derived.Test.YtkoplojnfijllaaDoorRows
import Derived.WalkKit
import Derived.ProofKit
import Derived.WalkLawsBesides
import Derived.Lib.Hide
import Derived.Deep.QuietTactic
import Derived.BigQuiet
import Derived.Outline
namespace Go.Proofs.YtkoplojnfijllaaDoor.chunk
open Go.ChangeShapes Go.WideShapes Go.ChangeAt Go.RowKit

/-- A Gather: how many pieces, their sum, the words of the bits, the slots of the pieces, how many came. -/
structure Ga where
  of : Nat
  sum : Int
  xs : List Nat
  ps : List Value
  n : Nat

/-- Where it lies: its block, the words' block, the pieces' block. -/
structure Lies (w : World) (G C A : Nat) (s : Ga) : Prop where
  head : w.heap[G]? = some (.cells #[.int .i64 s.of, .int .u64 s.sum, .slice (some ⟨C, 0, none⟩) s.xs.length s.xs.length, .slice (some ⟨A, 0, none⟩) s.of s.of, .int .i64 s.n] 63 (0, 0))
  words : w.heap[C]? = some (.cells (s.xs.map (fun x : Nat => Value.int .u64 (x : Int))).toArray 32 (0, 0))
  pieces : w.heap[A]? = some (.cells s.ps.toArray 22 (0, 0))
  gc : G ≠ C
  ga : G ≠ A
  ca : C ≠ A

structure Ga.ok (s : Ga) : Prop where
  of1 : 1 ≤ s.of
  of2 : s.of ≤ 65535
  len : s.xs.length = s.of / 64 + 1
  lenp : s.ps.length = s.of
  small : ∀ x ∈ s.xs, x < 18446744073709551616
  n : s.n ≤ s.of

def Ga.word (s : Ga) (i : Nat) : Nat := s.xs.getD i 0
def Ga.has (s : Ga) (k : Nat) : Bool := decide (k < s.of) && (s.word (k / 64)).testBit (k % 64)

theorem Lies.c0 {w : World} {G C A : Nat} {s : Ga} (h : Lies w G C A s) : w.cell? ⟨G, 0, none⟩ = some (.int .i64 s.of) := by simp [World.cell?, h.head]
theorem Lies.c1 {w : World} {G C A : Nat} {s : Ga} (h : Lies w G C A s) : w.cell? ⟨G, 1, none⟩ = some (.int .u64 s.sum) := by simp [World.cell?, h.head]
theorem Lies.c2 {w : World} {G C A : Nat} {s : Ga} (h : Lies w G C A s) : w.cell? ⟨G, 2, none⟩ = some (.slice (some ⟨C, 0, none⟩) s.xs.length s.xs.length) := by simp [World.cell?, h.head]
theorem Lies.c3 {w : World} {G C A : Nat} {s : Ga} (h : Lies w G C A s) : w.cell? ⟨G, 3, none⟩ = some (.slice (some ⟨A, 0, none⟩) s.of s.of) := by simp [World.cell?, h.head]
theorem Lies.c4 {w : World} {G C A : Nat} {s : Ga} (h : Lies w G C A s) : w.cell? ⟨G, 4, none⟩ = some (.int .i64 s.n) := by simp [World.cell?, h.head]
theorem Lies.word {w : World} {G C A : Nat} {s : Ga} (h : Lies w G C A s) (i : Nat) (hi : i < s.xs.length) : w.cell? ⟨C, i, none⟩ = some (.int .u64 (s.word i : Nat)) := by
  simp [World.cell?, h.words, List.getElem?_eq_getElem hi, Ga.word]
theorem Ga.ok.word {s : Ga} (h : s.ok) (i : Nat) : s.word i < 18446744073709551616 := by
  unfold Ga.word
  rcases Nat.lt_or_ge i s.xs.length with hi | hi
  · rw [List.getD, List.getElem?_eq_getElem hi]; exact h.small _ (List.getElem_mem hi)
  · rw [List.getD, List.getElem?_eq_none hi]; decide

theorem bit_and (x j : Nat) (h : x < 18446744073709551616) : (bits BinOp.and IntKind.u64 ((x : Int) / 2 ^ j) 1 == 1) = x.testBit j := by
  have e : ((x : Int) / 2 ^ j) = ((x / 2 ^ j : Nat) : Int) := by simp
  have hp : 0 < 2 ^ j := Nat.two_pow_pos j
  have hl : x / 2 ^ j ≤ x := Nat.div_le_self _ _
  rw [e, and_one_u64 _ (Int.natCast_nonneg _) (by omega), Nat.testBit_eq_decide_div_mod_eq]
  rw [Bool.eq_iff_iff]; simp; omega

theorem has_out (G C A : Nat) (s : Ga) (w : World) (hL : Lies w G C A s) (m : Int) (hm : m < 0 ∨ (s.of : Int) ≤ m) :
    Calls Tryd.prog 24 #[.pointer (some ⟨G, 0, none⟩), .int .i64 m] w fun e w' => e = .returned (.bool false) ∧ w = w' := by
  have h0 := hL.c0
  clear hL
  by_cases h : m < 0
  · clear hm
    go_enter Tryd.func24, Tryd.ntmps24
    go_wp2_with fail
    go_ret
    exact ⟨rfl, rfl⟩
  · have h' : (s.of : Int) ≤ m := by omega
    clear hm
    go_enter Tryd.func24, Tryd.ntmps24
    go_wp2_with fail
    go_ret
    exact ⟨rfl, rfl⟩

theorem has_in (G C A : Nat) (s : Ga) (w : World) (hL : Lies w G C A s) (hs : s.ok) (k : Nat) (hk : k < s.of) :
    Calls Tryd.prog 24 #[.pointer (some ⟨G, 0, none⟩), .int .i64 k] w fun e w' => e = .returned (.bool (s.has k)) ∧ w = w' := by
  have h0 := hL.c0
  have h2 := hL.c2
  have ho := hs.of2
  have hl := hs.len
  have hi : k / 64 < s.xs.length := by omega
  have hw := hL.word (k / 64) hi
  have hx := hs.word (k / 64)
  have hb := bit_and (s.word (k / 64)) (k % 64) hx
  have Hb := Lib.hid hb
  have hk64 : k % 64 ≤ 64 := by omega
  clear hL hs hb hl
  go_enter Tryd.func24, Tryd.ntmps24
  go_wp2_with fail
  go_ret
  refine ⟨?_, rfl⟩
  have e : s.has k = (s.word (k / 64)).testBit (k % 64) := by unfold Ga.has; rw [decide_eq_true hk, Bool.true_and]
  rw [e, ← Hb.out]; rfl

theorem has_any (G C A : Nat) (s : Ga) (w : World) (hL : Lies w G C A s) (hs : s.ok) (m : Int) :
    Calls Tryd.prog 24 #[.pointer (some ⟨G, 0, none⟩), .int .i64 m] w fun e w' => e = .returned (.bool (decide (0 ≤ m) && s.has m.toNat)) ∧ w = w' := by
  by_cases h : 0 ≤ m ∧ m < s.of
  · obtain ⟨k, rfl⟩ := Int.eq_ofNat_of_zero_le h.1
    have e : (decide (0 ≤ (k : Int)) && s.has (k : Int).toNat) = s.has k := by simp
    rw [e]
    exact has_in G C A s w hL hs k (by omega)
  · have e : (decide (0 ≤ m) && s.has m.toNat) = false := by
      by_cases h0 : 0 ≤ m
      · rw [decide_eq_true h0, Bool.true_and]; unfold Ga.has; rw [decide_eq_false (by omega), Bool.false_and]
      · rw [decide_eq_false h0, Bool.false_and]
    rw [e]
    exact has_out G C A s w hL m (by omega)

/-- Full -/
theorem full_any (G C A : Nat) (s : Ga) (w : World) (hL : Lies w G C A s) :
    Calls Tryd.prog 20 #[.pointer (some ⟨G, 0, none⟩)] w fun e w' => e = .returned (.bool ((s.n : Int) == s.of)) ∧ ∃ q, w' = w.drewN q := by
  have h0 := hL.c0
  have h4 := hL.c4
  clear hL
  go_enter Tryd.func20, Tryd.ntmps20
  go_wp2_with fail
  go_quiet (fail)
  go_wp2_with fail
  go_ret
  exact ⟨rfl, _, rfl⟩
theorem full_nil (w : World) :
    Calls Tryd.prog 20 #[.pointer none] w fun e w' => e = .returned (.bool false) ∧ ∃ q, w' = w.drewN q := by
  go_enter Tryd.func20, Tryd.ntmps20
  go_wp2_with fail
  go_quiet (fail)
  go_wp2_with fail
  go_ret
  exact ⟨rfl, _, rfl⟩

/-! ### dice.Seed, and the document's -/
def seedStep (h : Int) (c : UInt8) : Int := IntKind.u64.wrap (bits .xor .u64 h (IntKind.u64.wrap (c.toNat : Int)) * 1099511628211)
def seedFrom (h : Int) (l : List UInt8) : Int := l.foldl seedStep h
def seed (l : List UInt8) : Int := seedFrom 14695981039346656037 l
theorem take_snoc (s : ByteArray) (k : Nat) (h : k < s.size) : s.data.toList.take (k + 1) = s.data.toList.take k ++ [s[k]] := by
  rw [List.take_succ_eq_append_getElem (by simpa using h)]; rfl
theorem seed_snoc (h : Int) (l : List UInt8) (c : UInt8) : seedFrom h (l ++ [c]) = seedStep (seedFrom h l) c := by simp [seedFrom]
theorem ret_int {k : IntKind} {a b : Int} (h : a = b) : Ending.returned (.int k a) = .returned (.int k b) := by rw [h]

set_option maxHeartbeats 400000 in
theorem seed_any (s : ByteArray) (w : World) (hs : s.size ≤ maxLen) :
    Calls Tryd.prog 28 #[.string s] w fun e w' => e = .returned (.int .u64 (seed s.data.toList)) ∧ w = w' := by
  unfold maxLen at hs
  go_enter Tryd.func28, Tryd.ntmps28
  go_wp2
  go_loop [3, 4, 7] (fun h _ i => ∃ k : Nat, k ≤ s.size ∧ i = .int .i64 k ∧ h = .int .u64 (seed (s.data.toList.take k))) (fun _ _ i => s.size - (intOf i).toNat)
  case atStart => exact ⟨0, Nat.zero_le _, rfl, rfl⟩
  case round =>
    obtain ⟨k, hk, rfl, rfl⟩ := hrel
    by_cases hlt : k < s.size
    · have HS : Hid (seed (s.data.toList.take (k + 1)) = seedStep (seed (s.data.toList.take k)) s[k]) := by rw [take_snoc s k hlt]; exact seed_snoc _ _ _
      go_wp2
      go_round
      case rel => exact ⟨k + 1, by omega, by go_num, by rw [HS.out]; rfl⟩
      case measure => simp [intOf]; omega
    · go_wp2
      go_ret
      exact ⟨ret_int (by rw [List.take_of_length_le (by simp; omega)]), rfl⟩

set_option maxHeartbeats 400000 in
theorem refSeed_any (s : ByteArray) (w : World) (hs : s.size ≤ maxLen) :
    Calls Tryd.prog 11 #[.string s] w fun e w' => e = .returned (.int .u64 (seed s.data.toList)) ∧ w = w' := by
  unfold maxLen at hs
  go_enter Tryd.func11, Tryd.ntmps11
  go_wp2
  go_loop [3, 4] (fun h i => ∃ k : Nat, k ≤ s.size ∧ i = .int .i64 k ∧ h = .int .u64 (seed (s.data.toList.take k))) (fun _ i => s.size - (intOf i).toNat)
  case atStart => exact ⟨0, Nat.zero_le _, rfl, rfl⟩
  case round =>
    obtain ⟨k, hk, rfl, rfl⟩ := hrel
    by_cases hlt : k < s.size
    · have HS : Hid (seed (s.data.toList.take (k + 1)) = seedStep (seed (s.data.toList.take k)) s[k]) := by rw [take_snoc s k hlt]; exact seed_snoc _ _ _
      go_wp2
      go_round
      case rel => exact ⟨k + 1, by omega, by go_num, by rw [HS.out]; rfl⟩
      case measure => simp [intOf]; omega
    · go_wp2
      go_ret
      exact ⟨ret_int (by rw [List.take_of_length_le (by simp; omega)]), rfl⟩
end Go.Proofs.YtkoplojnfijllaaDoor.chunk
