/- The reference's Gather: where it lies; NewGather, Put: contracts for 'ChunkPlays'. -/
import Derived.Test.YtkoplojnfijllaaDoorCm
namespace Go.Proofs.YtkoplojnfijllaaDoor.chunk
open Go.ChangeShapes Go.WideShapes Go.ChangeAt Go.RowKit
set_option maxRecDepth 100000

theorem info9 : (Tryd.prog.info? 9).map (fun i => (i.zero, i.size, i.bytes)) = some (some (.string ⟨#[]⟩), 1, 16) := by kernel_rfl
def blanks (n : Nat) : Array Value := madeCells #[.string ⟨#[]⟩] n
theorem mk29 (k : Nat) (h : k ≤ 65535) (w : World) : (Instr.makeSlice 29 (.int .i64 k) (.int .i64 k)).run Tryd.prog w = .ok (.slice (some ⟨w.heap.size, 0, none⟩) k k) (w.alloc (.cells (blanks k) 9)) :=
  run_make_row' (P := Tryd.prog) 29 9 (.string ⟨#[]⟩) 16 Tryd.underlying29 info9 rfl .i64 .i64 k (by omega) (by omega) w

def strRow (k : Nat) (parts : Nat → List UInt8) : Array Value := ((List.range k).map fun j => Value.string (strOf (parts j))).toArray
structure RLies (W : World) (R D S k : Nat) (sum : Int) (f : Nat → Bool) (parts : Nat → List UInt8) : Prop where
  head : W.heap[R]? = some (.cells #[.int .i64 k, .int .u64 sum, .slice (some ⟨D, 0, none⟩) k k, .slice (some ⟨S, 0, none⟩) k k] 65 (0, 0))
  came : W.heap[D]? = some (.cells (rowOf k f) 4 (0, 0))
  strs : W.heap[S]? = some (.cells (strRow k parts) 9 (0, 0))
  rd : R ≠ D
  rs : R ≠ S
  ds : D ≠ S
theorem RLies.c0 {W : World} {R D S k : Nat} {sum : Int} {f : Nat → Bool} {parts : Nat → List UInt8} (h : RLies W R D S k sum f parts) : W.cell? ⟨R, 0, none⟩ = some (.int .i64 k) := by simp [World.cell?, h.head]
theorem RLies.c1 {W : World} {R D S k : Nat} {sum : Int} {f : Nat → Bool} {parts : Nat → List UInt8} (h : RLies W R D S k sum f parts) : W.cell? ⟨R, 1, none⟩ = some (.int .u64 sum) := by simp [World.cell?, h.head]
theorem RLies.c2 {W : World} {R D S k : Nat} {sum : Int} {f : Nat → Bool} {parts : Nat → List UInt8} (h : RLies W R D S k sum f parts) : W.cell? ⟨R, 2, none⟩ = some (.slice (some ⟨D, 0, none⟩) k k) := by simp [World.cell?, h.head]
theorem RLies.c3 {W : World} {R D S k : Nat} {sum : Int} {f : Nat → Bool} {parts : Nat → List UInt8} (h : RLies W R D S k sum f parts) : W.cell? ⟨R, 3, none⟩ = some (.slice (some ⟨S, 0, none⟩) k k) := by simp [World.cell?, h.head]
theorem RLies.bit {W : World} {R D S k : Nat} {sum : Int} {f : Nat → Bool} {parts : Nat → List UInt8} (h : RLies W R D S k sum f parts) (j : Nat) (hj : j < k) : W.cell? ⟨D, j, none⟩ = some (.bool (f j)) := by simp [World.cell?, h.came, rowOf, hj]
theorem RLies.str {W : World} {R D S k : Nat} {sum : Int} {f : Nat → Bool} {parts : Nat → List UInt8} (h : RLies W R D S k sum f parts) (j : Nat) (hj : j < k) : W.cell? ⟨S, j, none⟩ = some (.string (strOf (parts j))) := by simp [World.cell?, h.strs, strRow, hj]
theorem RLies.fz {W : World} {R D S k : Nat} {sum : Int} {f : Nat → Bool} {parts : Nat → List UInt8} (h : RLies W R D S k sum f parts) (j : Nat) : W.frozen? ⟨D, j, none⟩ = false ∧ W.frozen? ⟨S, j, none⟩ = false := by simp [World.frozen?, h.came, h.strs]
theorem RLies.lt {W : World} {R D S k : Nat} {sum : Int} {f : Nat → Bool} {parts : Nat → List UInt8} (h : RLies W R D S k sum f parts) : R < W.heap.size ∧ D < W.heap.size ∧ S < W.heap.size :=
  ⟨(Array.getElem?_eq_some_iff.1 h.head).1, (Array.getElem?_eq_some_iff.1 h.came).1, (Array.getElem?_eq_some_iff.1 h.strs).1⟩
theorem RLies.fr {T : Nat → Prop} {W W' : World} {R D S k : Nat} {sum : Int} {f : Nat → Bool} {parts : Nat → List UInt8} (h : RLies W R D S k sum f parts) (hf : Fr T W W') (hR : ¬ T R) (hD : ¬ T D) (hS : ¬ T S) : RLies W' R D S k sum f parts :=
  ⟨(hf.block R h.lt.1 hR).trans h.head, (hf.block D h.lt.2.1 hD).trans h.came, (hf.block S h.lt.2.2 hS).trans h.strs, h.rd, h.rs, h.ds⟩
theorem strRow_set (k n : Nat) (parts : Nat → List UInt8) (pl : List UInt8) : (strRow k parts).setIfInBounds n (.string (strOf pl)) = strRow k (with_ parts n pl) := by
  apply Array.ext'
  simp only [Array.toList_setIfInBounds, strRow, List.toList_toArray]
  apply List.ext_getElem?
  intro j
  rw [List.getElem?_set, List.getElem?_map, List.getElem?_map, List.length_map, List.length_range]
  by_cases hj : j < k
  · rw [List.getElem?_range hj]
    unfold with_
    by_cases hn : n = j
    · subst hn; simp [hj]
    · have : ¬ j = n := fun e => hn e.symm
      simp [hn, this]
  · rw [List.getElem?_eq_none (by simp; omega)]
    by_cases hn : n = j
    · subst hn; simp [hj]
    · simp [hn]
theorem rowOf_set (k n : Nat) (f : Nat → Bool) : (rowOf k f).setIfInBounds n (.bool true) = rowOf k (putF f n) := by
  apply Array.ext'
  simp only [Array.toList_setIfInBounds, rowOf, List.toList_toArray]
  apply List.ext_getElem?
  intro j
  rw [List.getElem?_set, List.getElem?_map, List.getElem?_map, List.length_map, List.length_range]
  by_cases hj : j < k
  · rw [List.getElem?_range hj]
    unfold putF
    by_cases hn : n = j
    · subst hn; simp [hj]
    · have : ¬ j = n := fun e => hn e.symm
      simp [hn, this]
  · rw [List.getElem?_eq_none (by simp; omega)]
    by_cases hn : n = j
    · subst hn; simp [hj]
    · simp [hn]

def RMade (k : Nat) (sum : Int) (w : World) (e : Ending) (w' : World) : Prop :=
  ∃ R D S, e = .returned (.pointer (some ⟨R, 0, none⟩)) ∧ w.heap.size ≤ R ∧ w.heap.size ≤ D ∧ w.heap.size ≤ S ∧ RLies w' R D S k sum (fun _ => false) (fun _ => []) ∧ Below w.heap.size w w'
theorem falses_eq (n : Nat) : falses n = rowOf n (fun _ => false) := by
  apply Array.ext'
  rw [falses, toList_madeCells_one]; simp [rowOf, List.map_const']
theorem blanks_eq (n : Nat) : blanks n = strRow n (fun _ => []) := by
  apply Array.ext'
  rw [blanks, toList_madeCells_one]; simp [strRow, List.map_const', strOf]
theorem rnew_in (k : Nat) (sum : Int) (w : World) (h1 : 1 ≤ k) (h2 : k ≤ 65535) : Calls Tryd.prog 13 #[.int .i64 k, .int .u64 sum] w (RMade k sum w) := by
  have m1 := mk54 k h2
  have m2 := mk29 k h2
  go_enter Tryd.func13, Tryd.ntmps13
  go_wp2_with fail
  go_region
  · go_wp2_with fail
    go_ret
    obtain ⟨e1, e2, e3⟩ := alloc3 w (.cells (falses k) 4) (.cells (blanks k) 9) (.cells #[.int .i64 k, .int .u64 sum, .slice (some ⟨w.heap.size, 0, none⟩) k k, .slice (some ⟨w.heap.size + 1, 0, none⟩) k k] 65)
    refine ⟨w.heap.size + 1 + 1, w.heap.size, w.heap.size + 1, rfl, by omega, by omega, by omega, ⟨?_, ?_, ?_, by omega, by omega, by omega⟩, ((((Below.refl _ w).alloc (Nat.le_refl _) _).alloc (by simp) _).alloc (by simp; omega) _).drew⟩
    · exact e3
    · rw [e1, falses_eq]
    · rw [e2, blanks_eq]
  · go_wp2_with fail
    go_ret
    obtain ⟨e1, e2, e3⟩ := alloc3 w (.cells (blanks k) 9) (.cells (falses k) 4) (.cells #[.int .i64 k, .int .u64 sum, .slice (some ⟨w.heap.size + 1, 0, none⟩) k k, .slice (some ⟨w.heap.size, 0, none⟩) k k] 65)
    refine ⟨w.heap.size + 1 + 1, w.heap.size + 1, w.heap.size, rfl, by omega, by omega, by omega, ⟨?_, ?_, ?_, by omega, by omega, by omega⟩, ((((Below.refl _ w).alloc (Nat.le_refl _) _).alloc (by simp) _).alloc (by simp; omega) _).drew⟩
    · exact e3
    · rw [e2, falses_eq]
    · rw [e1, blanks_eq]
end Go.Proofs.YtkoplojnfijllaaDoor.chunk
