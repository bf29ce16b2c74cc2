/- The reference's Put: contracts for 'ChunkPlays'. -/
import Derived.Test.YtkoplojnfijllaaDoorRf
import Derived.BigRegion
namespace Go.Proofs.YtkoplojnfijllaaDoor.chunk
open Go.ChangeShapes Go.WideShapes Go.ChangeAt Go.RowKit
set_option maxRecDepth 100000

theorem rput_out (R D S k : Nat) (sum : Int) (f : Nat → Bool) (parts : Nat → List UInt8) (w : World) (h : RLies w R D S k sum f parts) (m : Int) (x : ByteArray) (hm : m < 0 ∨ (k : Int) ≤ m) :
    Calls Tryd.prog 15 #[.pointer (some ⟨R, 0, none⟩), .int .i64 m, .string x] w fun e w' => e = .returned (.bool false) ∧ w = w' := by
  have h0 := h.c0
  clear h
  by_cases hn : m < 0
  · clear hm
    go_enter Tryd.func15, Tryd.ntmps15
    go_wp2_with fail
    go_ret
    exact ⟨rfl, rfl⟩
  · have h2 : (k : Int) ≤ m := by omega
    clear hm
    go_enter Tryd.func15, Tryd.ntmps15
    go_wp2_with fail
    go_ret
    exact ⟨rfl, rfl⟩
theorem rput_had (R D S k : Nat) (sum : Int) (f : Nat → Bool) (parts : Nat → List UInt8) (w : World) (h : RLies w R D S k sum f parts) (n : Nat) (x : ByteArray) (hn : n < k) (hf : f n = true) :
    Calls Tryd.prog 15 #[.pointer (some ⟨R, 0, none⟩), .int .i64 n, .string x] w fun e w' => e = .returned (.bool false) ∧ w = w' := by
  have h0 := h.c0
  have h2 := h.c2
  have hb := h.bit n hn
  rw [hf] at hb
  clear h
  go_enter Tryd.func15, Tryd.ntmps15
  go_wp2_with fail
  go_ret
  exact ⟨rfl, rfl⟩
theorem rput_bad (R D S k : Nat) (sum : Int) (f : Nat → Bool) (parts : Nat → List UInt8) (w : World) (h : RLies w R D S k sum f parts) (n : Nat) (x : ByteArray) (hk : k ≤ 65535) (hn : n < k) (hf : f n = false) (hx : x.size < 1 ∨ 64 < x.size ∨ (n < k - 1 ∧ x.size < 64)) :
    Calls Tryd.prog 15 #[.pointer (some ⟨R, 0, none⟩), .int .i64 n, .string x] w fun e w' => e = .returned (.bool false) ∧ w = w' := by
  have h0 := h.c0
  have h2 := h.c2
  have hb := h.bit n hn
  rw [hf] at hb
  clear h
  have hc : (x.size : Int) < 1 ∨ ((1 : Int) ≤ x.size ∧ (64 : Int) < x.size) ∨ ((1 : Int) ≤ x.size ∧ ((x.size : Int) < 64 ∧ ((x.size : Int) != 64) = true) ∧ (n : Int) < (k : Int) - 1) := by
    rcases hx with h | h | ⟨h1, h⟩
    · exact .inl (by omega)
    · exact .inr (.inl ⟨by omega, by omega⟩)
    · by_cases h0 : x.size < 1
      · exact .inl (by omega)
      · exact .inr (.inr ⟨by omega, ⟨by omega, by rw [bne_iff_ne]; omega⟩, by omega⟩)
  clear hx
  rcases hc with hc | ⟨hc, hd⟩ | ⟨hc, ⟨hd, hd2⟩, he⟩
  all_goals
    go_enter Tryd.func15, Tryd.ntmps15
    go_wp2_with fail
    go_ret
    exact ⟨rfl, rfl⟩
def RPut (R D S k : Nat) (sum : Int) (f : Nat → Bool) (parts : Nat → List UInt8) (n : Nat) (pl : List UInt8) (w : World) (e : Ending) (w' : World) : Prop :=
  e = .returned (.bool true) ∧ RLies w' R D S k sum (putF f n) (with_ parts n pl) ∧ Fr (fun j => j = D ∨ j = S) w w'
theorem RLies.put {w : World} {R D S k : Nat} {sum : Int} {f : Nat → Bool} {parts : Nat → List UInt8} (h : RLies w R D S k sum f parts) (n : Nat) (pl : List UInt8) :
    RLies ((w.setCell ⟨D, n, none⟩ (.bool true)).setCell ⟨S, n, none⟩ (.string (strOf pl))).drew R D S k sum (putF f n) (with_ parts n pl) := by
  have e1 : ((w.setCell ⟨D, n, none⟩ (.bool true)).setCell ⟨S, n, none⟩ (.string (strOf pl))).heap[R]? = w.heap[R]? := by
    rw [Below.heap_setCell _ _ _ _ h.rs, Below.heap_setCell _ _ _ _ h.rd]
  have e2 : ((w.setCell ⟨D, n, none⟩ (.bool true)).setCell ⟨S, n, none⟩ (.string (strOf pl))).heap[D]? = some (.cells (rowOf k (putF f n)) 4 (0, 0)) := by
    rw [Below.heap_setCell _ _ _ _ h.ds, heap_setCell_at h.came, rowOf_set]
  have e3 : ((w.setCell ⟨D, n, none⟩ (.bool true)).setCell ⟨S, n, none⟩ (.string (strOf pl))).heap[S]? = some (.cells (strRow k (with_ parts n pl)) 9 (0, 0)) := by
    have : (w.setCell ⟨D, n, none⟩ (.bool true)).heap[S]? = some (.cells (strRow k parts) 9 (0, 0)) := by rw [Below.heap_setCell _ _ _ _ (Ne.symm h.ds)]; exact h.strs
    rw [heap_setCell_at this, strRow_set]
  exact ⟨e1.trans h.head, e2, e3, h.rd, h.rs, h.ds⟩
set_option maxHeartbeats 1000000 in
theorem rput_in (R D S k : Nat) (sum : Int) (f : Nat → Bool) (parts : Nat → List UInt8) (w : World) (h : RLies w R D S k sum f parts) (n : Nat) (pl : List UInt8) (hk : k ≤ 65535) (hn : n < k) (hf : f n = false) (h1 : 1 ≤ pl.length) (h64 : pl.length ≤ 64) (hl : n < k - 1 → 64 ≤ pl.length) :
    Calls Tryd.prog 15 #[.pointer (some ⟨R, 0, none⟩), .int .i64 n, .string (strOf pl)] w (RPut R D S k sum f parts n pl w) := by
  have h0 := h.c0
  have h2 := h.c2
  have h3 := h.c3
  have hb := h.bit n hn
  have hs := h.str n hn
  have hz := (h.fz n).1
  have hz2 := (h.fz n).2
  have hds := h.ds
  have hrd := h.rd
  have hrs := h.rs
  have hsz := strOf_size pl
  rw [hf] at hb
  have HL := Lib.hid h
  clear h
  have hc : ((n : Int) < (k : Int) - 1 ∧ (pl.length : Int) = 64) ∨ ¬ (n : Int) < (k : Int) - 1 := by
    by_cases h : n < k - 1
    · exact .inl ⟨by omega, by have := hl h; omega⟩
    · exact .inr (by omega)
  clear hl
  rcases hc with ⟨hc, hd⟩ | hc
  all_goals
    go_enter Tryd.func15, Tryd.ntmps15
    go_wp2_with fail
    go_region
    all_goals
      go_wp2_with fail
      go_ret
      exact ⟨rfl, HL.out.put n pl, (((Fr.refl _ _).setCell (p := ⟨D, n, none⟩) (Or.inl rfl) _).setCell (p := ⟨S, n, none⟩) (Or.inr rfl) _).drew⟩
end Go.Proofs.YtkoplojnfijllaaDoor.chunk
