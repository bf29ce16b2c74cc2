/- The reference's Bytes: its contract for 'ChunkPlays'. -/
import Derived.Test.YtkoplojnfijllaaDoorRt
import Derived.Outline
import Derived.BigQuiet
namespace Go.Proofs.YtkoplojnfijllaaDoor.chunk
open Go.ChangeShapes Go.WideShapes Go.ChangeAt Go.RowKit
set_option maxRecDepth 100000

theorem strOf_append (a b : List UInt8) : strOf a ++ strOf b = strOf (a ++ b) := by
  apply ByteArray.ext
  simp [strOf]
def partsTo (parts : Nat → List UInt8) (n : Nat) : List UInt8 := ((List.range n).map parts).flatten
theorem partsTo_succ (parts : Nat → List UInt8) (n : Nat) : partsTo parts (n + 1) = partsTo parts n ++ parts n := by
  unfold partsTo; rw [List.range_succ, List.map_append, List.flatten_append]; simp
theorem partsTo_le (parts : Nat → List UInt8) (n m : Nat) (h : n ≤ m) : (partsTo parts n).length ≤ (partsTo parts m).length := by
  induction h with
  | refl => exact Nat.le_refl _
  | step _ ih => rw [partsTo_succ, List.length_append]; omega
theorem rbytes_part (R D S k : Nat) (sum : Int) (f : Nat → Bool) (parts : Nat → List UInt8) (w : World) (h : RLies w R D S k sum f parts) (hk : k ≤ 65535) (n : Nat) (hn : n < k) (hall : ∀ j, j < n → f j = true) (hstop : f n = false) :
    Calls Tryd.prog 19 #[.pointer (some ⟨R, 0, none⟩)] w fun e w' => e = .returned (.tuple #[.string ⟨#[]⟩, .int .i64 3]) ∧ w = w' := by
  have h0 := h.c0
  have HG := Lib.hid (rgot_any R D S k sum f parts w h hk n (by omega) hall (fun _ => hstop))
  have hnk : (n : Int) < k := by omega
  clear h hall hstop
  go_enter Tryd.func19, Tryd.ntmps19
  go_wp2_with fail
  refine HG.out.mono ?_; rintro e w' ⟨rfl, rfl⟩
  go_wp2_with fail
  go_ret2
  exact ⟨rfl, rfl⟩
def RBytes (k : Nat) (sum : Int) (parts : Nat → List UInt8) (w : World) (e : Ending) (w' : World) : Prop :=
  (∃ q, w' = w.drewN q) ∧ if seed (partsTo parts k) = sum then e = .returned (.tuple #[.string (strOf (partsTo parts k)), .int .i64 0]) else e = .returned (.tuple #[.string ⟨#[]⟩, .int .i64 9])
set_option maxHeartbeats 2000000 in
theorem rbytes_full (R D S k : Nat) (sum : Int) (f : Nat → Bool) (parts : Nat → List UInt8) (w : World) (h : RLies w R D S k sum f parts) (hk : k ≤ 65535) (hall : ∀ j, j < k → f j = true) (hl : (partsTo parts k).length ≤ 5000000) :
    Calls Tryd.prog 19 #[.pointer (some ⟨R, 0, none⟩)] w (RBytes k sum parts w) := by
  have h0 := h.c0
  have h1 := h.c1
  have h3 := h.c3
  have HL := Lib.hid h
  have HG := Lib.hid (rgot_any R D S k sum f parts w h hk k (Nat.le_refl _) hall (fun h => absurd h (by omega)))
  have Hl := Lib.hid hl
  clear h hall hl
  go_enter Tryd.func19, Tryd.ntmps19
  go_wp2_with fail
  refine HG.out.mono ?_; rintro e w' ⟨rfl, rfl⟩
  clear HG
  go_wp2_with fail
  go_loop [6, 7] (fun s i => ∃ m : Nat, m ≤ k ∧ i = .int .i64 m ∧ s = .string (strOf (partsTo parts m))) (fun _ i => k - (intOf i).toNat)
  case atStart => exact ⟨0, by omega, rfl, rfl⟩
  case round =>
    obtain ⟨m, hm, rfl, rfl⟩ := hrel
    by_cases hmk : m < k
    · have hs := HL.out.str m hmk
      have HA := Lib.hid (strOf_append (partsTo parts m) (parts m))
      have hsz : (strOf (partsTo parts m)).size + (strOf (parts m)).size ≤ 5000000 := by
        have := partsTo_le parts (m + 1) k hmk
        rw [partsTo_succ, List.length_append] at this
        have := Hl.out
        rw [strOf_size, strOf_size]; omega
      go_wp2_with fail
      exact ⟨⟨m + 1, hmk, rfl, by rw [HA.out, partsTo_succ]⟩, by simp only [intOf]; omega⟩
    · obtain rfl : m = k := by omega
      have Hsd : Hid (∀ W, Calls Tryd.prog 11 #[.string (strOf (partsTo parts m))] W fun e w' => e = .returned (.int .u64 (seed (partsTo parts m))) ∧ w' = W) := fun W => (refSeed_any _ W (by rw [strOf_size]; unfold maxLen; have := Hl.out; omega)).mono fun e w' ⟨a, b⟩ => ⟨by rw [a, strOf_list], b.symm⟩
      go_wp2_with fail
      go_quiet ((go_at_call 11; exact Calls.quiet_of_same (Hsd.out _)))
      by_cases hse : seed (partsTo parts m) = sum
      · go_wp2_with fail
        go_ret2
        exact ⟨⟨_, rfl⟩, by rw [if_pos hse]; rfl⟩
      · go_wp2_with fail
        go_ret2
        exact ⟨⟨_, rfl⟩, by rw [if_neg hse]; rfl⟩
end Go.Proofs.YtkoplojnfijllaaDoor.chunk
