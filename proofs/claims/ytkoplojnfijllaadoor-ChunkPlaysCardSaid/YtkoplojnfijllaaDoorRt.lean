/- The reference's Got: its contract for 'ChunkPlays'. -/
import Derived.Test.YtkoplojnfijllaaDoorRf
import Derived.Outline
namespace Go.Proofs.YtkoplojnfijllaaDoor.chunk
open Go.ChangeShapes Go.WideShapes Go.ChangeAt Go.RowKit
set_option maxRecDepth 100000

/-- The bits of those beyond n, as far as the i-th, of pieces k, f. -/
def seenOf (k : Nat) (f : Nat → Bool) (n : Nat) : Nat → Nat
  | 0 => 0
  | i + 1 => if n + 1 + i < k ∧ f (n + 1 + i) = true then seenOf k f n i ||| 2 ^ i else seenOf k f n i
theorem seenOf_eq (s : Ga) (n : Nat) : ∀ i, seenTo s n i = seenOf s.of s.has n i
  | 0 => rfl
  | i + 1 => by
    unfold seenTo seenOf
    rw [seenOf_eq s n i]
    by_cases h : s.has (n + 1 + i) = true
    · have : n + 1 + i < s.of := by
        unfold Ga.has at h; simp at h; exact h.1
      rw [if_pos h, if_pos ⟨this, h⟩]
    · rw [if_neg h, if_neg (fun h' => h h'.2)]
theorem seenOf_lt (k : Nat) (f : Nat → Bool) (n : Nat) : ∀ i, seenOf k f n i < 2 ^ i
  | 0 => by simp [seenOf]
  | i + 1 => by
    have h := seenOf_lt k f n i
    have hp : 2 ^ i < 2 ^ (i + 1) := Nat.pow_lt_pow_of_lt (by decide) (by omega)
    unfold seenOf
    split
    · exact Nat.or_lt_two_pow (by omega) hp
    · omega
theorem seenOf_stop (k : Nat) (f : Nat → Bool) (n i : Nat) (h : k ≤ n + 1 + i) : ∀ j, i ≤ j → seenOf k f n j = seenOf k f n i
  | 0, hj => by rw [show i = 0 by omega]
  | j + 1, hj => by
    by_cases e : i = j + 1
    · rw [e]
    · rw [← seenOf_stop k f n i h j (by omega)]
      rw [seenOf, if_neg (by omega)]
set_option maxHeartbeats 2000000 in
theorem rgot_any (R D S k : Nat) (sum : Int) (f : Nat → Bool) (parts : Nat → List UInt8) (w : World) (h : RLies w R D S k sum f parts) (hk : k ≤ 65535) (n : Nat) (hn : n ≤ k) (hall : ∀ j, j < n → f j = true) (hstop : n < k → f n = false) :
    Calls Tryd.prog 17 #[.pointer (some ⟨R, 0, none⟩)] w fun e w' => e = .returned (.tuple #[.int .i64 n, .int .u32 (seenOf k f n 32)]) ∧ w = w' := by
  have h0 := h.c0
  have h2 := h.c2
  have HL := Lib.hid h
  have Hall := Lib.hid hall
  have Hstop := Lib.hid hstop
  clear h hall hstop
  go_enter Tryd.func17, Tryd.ntmps17
  go_wp2_with fail
  go_loop [4] (fun i => ∃ a : Nat, a ≤ n ∧ i = .int .i64 a) (fun i => n - (intOf i).toNat)
  case atStart => exact ⟨0, by omega, rfl⟩
  case round =>
    obtain ⟨a, ha, rfl⟩ := hrel
    by_cases han : a < n
    · have hb := HL.out.bit a (by omega)
      rw [Hall.out a han] at hb
      have hak : (a : Int) < k := by omega
      go_wp2_with fail
      exact ⟨⟨a + 1, han, rfl⟩, by simp only [intOf]; omega⟩
    · obtain rfl : a = n := by omega
      have hex : (a < k ∧ w.cell? ⟨D, a, none⟩ = some (.bool false)) ∨ ¬ (a : Int) < (k : Int) := by
        by_cases h : a < k
        · have hb := HL.out.bit a h
          rw [Hstop.out h] at hb
          exact .inl ⟨h, hb⟩
        · exact .inr (by omega)
      rcases hex with ⟨hak, hb⟩ | hak
      all_goals go_wp2_with fail
      all_goals
        clear ha
        go_loop [5, 6] (fun x i => ∃ m : Nat, m ≤ 32 ∧ i = .int .i64 m ∧ x = .int .u32 (seenOf k f a m)) (fun _ i => 32 - (intOf i).toNat)
        case atStart => exact ⟨0, by omega, rfl, rfl⟩
        case round =>
          obtain ⟨m, hm, rfl, rfl⟩ := hrel
          by_cases hgo : m < 32 ∧ a + 1 + m < k
          · obtain ⟨hm32, hin⟩ := hgo
            have hi1 : (a : Int) + 1 + m < k := by omega
            have hc := HL.out.bit (a + 1 + m) hin
            have hm0 : (0 : Int) ≤ (m : Int) := by omega
            have hm64 : (m : Int) ≤ 64 := by omega
            have hor := or_u32 (seenOf k f a m) m (seenOf_lt k f a m) hm32
            have Hs := seenOf_lt k f a m
            have HS : Hid (seenOf k f a (m + 1) = if a + 1 + m < k ∧ f (a + 1 + m) = true then seenOf k f a m ||| 2 ^ m else seenOf k f a m) := rfl
            clear Hs
            by_cases hf : f (a + 1 + m) = true
            · rw [hf] at hc
              have HS2 : Hid (seenOf k f a (m + 1) = seenOf k f a m ||| 2 ^ m) := by have := HS.out; rw [if_pos ⟨hin, hf⟩] at this; exact this
              clear hf
              go_wp2_with fail
              all_goals exact ⟨⟨m + 1, hm32, rfl, congrArg _ (by rw [HS2.out])⟩, by simp only [intOf]; omega⟩
            · have hf2 : f (a + 1 + m) = false := by simpa using hf
              rw [hf2] at hc
              have HS2 : Hid (seenOf k f a (m + 1) = seenOf k f a m) := by have := HS.out; rw [if_neg (fun h => hf h.2)] at this; exact this
              clear hf hf2
              go_wp2_with fail
              all_goals exact ⟨⟨m + 1, hm32, rfl, congrArg _ (by rw [HS2.out])⟩, by simp only [intOf]; omega⟩
          · have hst : seenOf k f a m = seenOf k f a 32 := by
              by_cases h : m < 32
              · exact (seenOf_stop k f a m (by omega) 32 hm).symm
              · rw [show m = 32 by omega]
            rw [hst]
            have hex : ¬ (m : Int) < 32 ∨ ((m : Int) < 32 ∧ ¬ (a : Int) + 1 + m < k) := by omega
            clear hst hgo
            rcases hex with h | ⟨h, h'⟩
            all_goals go_wp2_with fail
            all_goals go_ret2
            all_goals exact ⟨rfl, rfl⟩
end Go.Proofs.YtkoplojnfijllaaDoor.chunk
