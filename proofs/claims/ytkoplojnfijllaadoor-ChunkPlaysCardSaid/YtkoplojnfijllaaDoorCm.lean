/- A row of truths beside a Gather, for 'ChunkGot'. -/
import Derived.Test.YtkoplojnfijllaaDoorIv
namespace Go.Proofs.YtkoplojnfijllaaDoor.chunk
open Go.ChangeShapes Go.WideShapes Go.ChangeAt Go.RowKit

theorem info4 : (Tryd.prog.info? 4).map (fun i => (i.zero, i.size, i.bytes)) = some (some (.bool false), 1, 1) := by kernel_rfl
def falses (n : Nat) : Array Value := madeCells #[.bool false] n
theorem mk54 (k : Nat) (h : k ≤ 65535) (w : World) : (Instr.makeSlice 54 (.int .i64 k) (.int .i64 k)).run Tryd.prog w = .ok (.slice (some ⟨w.heap.size, 0, none⟩) k k) (w.alloc (.cells (falses k) 4)) :=
  run_make_row' (P := Tryd.prog) 54 4 (.bool false) 1 Tryd.underlying54 info4 rfl .i64 .i64 k (by omega) (by omega) w

def rowOf (k : Nat) (f : Nat → Bool) : Array Value := ((List.range k).map fun j => Value.bool (f j)).toArray
structure Came (D k : Nat) (f : Nat → Bool) (W : World) : Prop where
  heap : W.heap[D]? = some (.cells (rowOf k f) 4 (0, 0))
theorem Came.start (k : Nat) (w : World) : Came w.heap.size k (fun _ => false) (w.alloc (.cells (falses k) 4)) := by
  refine ⟨?_⟩
  rw [heap_alloc_new]
  have : falses k = rowOf k (fun _ => false) := by
    apply Array.ext'
    rw [falses, toList_madeCells_one]; simp [rowOf, List.map_const']
  rw [this]
theorem Came.cell {D k : Nat} {f : Nat → Bool} {W : World} (h : Came D k f W) (j : Nat) (hj : j < k) : W.cell? ⟨D, j, none⟩ = some (.bool (f j)) := by
  simp [World.cell?, h.heap, rowOf, hj]
theorem Came.frozen {D k : Nat} {f : Nat → Bool} {W : World} (h : Came D k f W) (j : Nat) : W.frozen? ⟨D, j, none⟩ = false := by
  simp [World.frozen?, h.heap]
theorem Came.lt {D k : Nat} {f : Nat → Bool} {W : World} (h : Came D k f W) : D < W.heap.size := (Array.getElem?_eq_some_iff.1 h.heap).1
theorem Came.fr {S : Nat → Prop} {D k : Nat} {f : Nat → Bool} {W W' : World} (h : Came D k f W) (hf : Fr S W W') (hS : ¬ S D) : Came D k f W' := ⟨(hf.block D h.lt hS).trans h.heap⟩
theorem Came.later {D k : Nat} {f : Nat → Bool} {W W' : World} (h : Came D k f W) (hb : Below W.heap.size W W') : Came D k f W' := ⟨(hb.block D h.lt).trans h.heap⟩
theorem Came.set {D k : Nat} {f : Nat → Bool} {W : World} (h : Came D k f W) (n : Nat) : Came D k (putF f n) (W.setCell ⟨D, n, none⟩ (.bool true)) := by
  refine ⟨?_⟩
  rw [heap_setCell_at h.heap]
  congr 2
  apply Array.ext'
  simp only [Array.toList_setIfInBounds, rowOf, List.toList_toArray]
  apply List.ext_getElem?
  intro j
  rw [List.getElem?_set, List.getElem?_map, List.getElem?_map, List.length_map, List.length_range]
  by_cases hj : j < k
  · rw [List.getElem?_range hj]
    unfold putF
    by_cases hn : n = j
    · subst hn; simp [hj]
    · have : ¬ j = n := fun e => hn e.symm
      simp [hn, this]
  · rw [List.getElem?_eq_none (by simp; omega)]
    by_cases hn : n = j
    · subst hn; simp [hj]
    · simp [hn]
theorem Inv.setD {B0 n2 g b2 G C A : Nat} {l : List UInt8} {sum : Int} {w : World} {f : Nat → Bool} {W : World} {D k n : Nat} {f' : Nat → Bool} (h : Inv B0 n2 g b2 G C A l sum w f W) (hD : Came D k f' W) (h0 : B0 ≤ D) (hg : D ≠ g) (hb : D ≠ b2) (hG : D ≠ G) (hC : D ≠ C) (hA : D ≠ A) (v : Value) :
    Inv B0 n2 g b2 G C A l sum w f (W.setCell ⟨D, n, none⟩ v) := by
  obtain ⟨s, parts, hgd, h1, h2, h3, h4⟩ := h.good
  have hF : Fr (fun j => j = D) W (W.setCell ⟨D, n, none⟩ v) := Fr.setCell (S := fun j => j = D) (Fr.refl (fun j => j = D) W) (p := ⟨D, n, none⟩) (show D = D from Eq.refl D) v
  refine ⟨h.below.setCell (p := ⟨D, n, none⟩) h0 v, h.size, h.env.fr hF (Ne.symm hg) (Ne.symm hb), ⟨s, parts, ⟨?_, hgd.ok, hgd.tidy, hgd.g, hgd.c, hgd.a, hgd.count, ?_⟩, h1, h2, h3, h4⟩, h.gl, h.bl, h.hG, h.hC, h.hA, h.base⟩
  · exact hgd.lies.fr hF (Ne.symm hG) (Ne.symm hC) (Ne.symm hA)
  · intro j hj
    obtain ⟨gj, cap, hv, ho, e1, e2, e3⟩ := hgd.piece j hj
    refine ⟨gj, cap, hv, ownsRow_set ho _ _ ?_, e1, e2, e3⟩
    intro e
    have e' : gj = D := by simpa [Value.ownBlock] using e
    subst e'
    rcases ho.2 with ⟨e, _⟩ | ⟨g', c', cur, e, hb, hg, _⟩
    · cases e
    · cases e
      rw [hD.heap] at hg
      cases hg
/-- What Got tells, of a Gather over pieces. -/
theorem seenTo_bit (s : Ga) (n : Nat) : ∀ i j, j < i → (seenTo s n i).testBit j = s.has (n + 1 + j)
  | 0, _, h => by omega
  | i + 1, j, h => by
    have hlt := seenTo_lt s n i
    unfold seenTo
    by_cases hj : j = i
    · subst hj
      by_cases hh : s.has (n + 1 + j) = true
      · rw [if_pos hh, hh, Nat.testBit_or, Nat.testBit_two_pow_self]; simp
      · rw [if_neg hh, Nat.testBit_lt_two_pow hlt]; simpa using hh
    · have ih := seenTo_bit s n i j (by omega)
      split
      · rw [Nat.testBit_or, ih, Nat.testBit_two_pow]
        have : ¬ i = j := fun e => hj e.symm
        simp [this]
      · exact ih
theorem seen_bit_div (x j : Nat) : ((x / 2 ^ j % 2 = 1) ↔ x.testBit j = true) := by
  rw [Nat.testBit_eq_decide_div_mod_eq]; simp

/-- Got, over the pieces that came. -/
def GotInv (B0 n2 g b2 G C A : Nat) (l : List UInt8) (sum : Int) (w : World) (f : Nat → Bool) (a : Nat) (W : World) (e : Ending) (W' : World) : Prop :=
  ∃ x : Nat, x < 4294967296 ∧ e = .returned (.tuple #[.int .i64 a, .int .u32 x]) ∧ (∀ j, j < 32 → x.testBit j = (decide (a + 1 + j < pieces l.length) && f (a + 1 + j))) ∧ Below W.heap.size W W' ∧ Inv B0 n2 g b2 G C A l sum w f W'
theorem inv_got {B0 n2 g b2 G C A : Nat} {l : List UInt8} {sum : Int} {w : World} {f : Nat → Bool} {W : World} (h : Inv B0 n2 g b2 G C A l sum w f W) (hT : Tab W) (a : Nat) (ha : a ≤ pieces l.length) (hall : ∀ j, j < a → f j = true) (hstop : a < pieces l.length → f a = false) :
    Calls Tryd.prog 16 #[.pointer (some ⟨G, 0, none⟩)] W (GotInv B0 n2 g b2 G C A l sum w f a W) := by
  obtain ⟨s, parts, hg, h1, h2, h3, h4⟩ := h.good
  refine (got_any G C A s W hg.lies hg.ok hg.tidy hT).mono ?_
  rintro e W' ⟨n, hn, rfl, hbel⟩
  have hfr : Front s a := ⟨fun j hj => by rw [h3 j (by omega)]; exact hall j hj, by
    by_cases hlt : a < s.of
    · rw [h3 a hlt]; exact hstop (by omega)
    · unfold Ga.has; rw [decide_eq_false hlt]; rfl⟩
  obtain rfl : n = a := hn.uniq hfr
  refine ⟨seenTo s n 32, ?_, rfl, ?_, hbel, h.later hbel⟩
  · have := seenTo_lt s n 32; simpa using this
  · intro j hj
    rw [seenTo_bit s n 32 j hj, ← h1]
    by_cases hlt : n + 1 + j < s.of
    · rw [h3 _ hlt, decide_eq_true hlt]; rfl
    · unfold Ga.has; rw [decide_eq_false hlt]; rfl
end Go.Proofs.YtkoplojnfijllaaDoor.chunk
