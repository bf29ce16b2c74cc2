/- A list of inputs as an argument. -/
import Derived.Test.YtdopfonebpklkaaSn
import Derived.Deep.Slices
import Derived.Deep.Fields
import Derived.ChangeSame
namespace Go.Proofs.Ytdopfonebpklkaa.game
open Go.ChangeShapes Go.WideShapes Go.ChangeAt Go.RowKit Go.Deep dice
set_option maxRecDepth 100000

theorem cells60 : Try.prog.cellsOf 24 = 3 := by kernel_rfl
def InsIn (W : World) (sl : Value) (I : List Inp) : Prop :=
  (I = [] ∧ ∃ ad c, sl = .slice ad 0 c) ∨ ∃ g o c, sl = .slice (some ⟨g, o, none⟩) I.length c ∧ g < W.heap.size ∧ ∀ j v, (I.flatMap inpL)[j]? = some v → W.cell? ⟨g, o + j, none⟩ = some v
theorem InsIn.later {W W' : World} {sl : Value} {I : List Inp} (h : InsIn W sl I) (hb : Below W.heap.size W W') : InsIn W' sl I := by
  rcases h with h | ⟨g, o, c, h1, h2, h3⟩
  · exact .inl h
  · exact .inr ⟨g, o, c, h1, Nat.lt_of_lt_of_le h2 hb.size, fun j v hv => (hb.cell (p := ⟨g, o + j, none⟩) h2).trans (h3 j v hv)⟩
structure InpAt (W : World) (g o : Nat) (i : Inp) : Prop where
  x : W.cell? ⟨g, o, none⟩ = some (.int .i8 i.x)
  y : W.cell? ⟨g, o + 1, none⟩ = some (.int .i8 i.y)
  b : W.cell? ⟨g, o + 2, none⟩ = some (.int .u8 i.b)
theorem inp_at {W : World} {g o : Nat} {I : List Inp} (h : ∀ j v, (I.flatMap inpL)[j]? = some v → W.cell? ⟨g, o + j, none⟩ = some v) (k : Nat) (i : Inp) (hk : I[k]? = some i) : InpAt W g (o + k * 3) i := by
  have c : ∀ j v, (inpL i)[j]? = some v → W.cell? ⟨g, o + k * 3 + j, none⟩ = some v := fun j v hv => by
    rw [Nat.add_assoc]; exact h _ v (insL_at I k j i v hk hv)
  exact ⟨c 0 _ rfl, c 1 _ rfl, c 2 _ rfl⟩
theorem i8_bd {a : Int} (h : (Lit.int .i8 a).wf = true) : -128 ≤ a ∧ a ≤ 127 := by
  simp [Lit.wf, IntKind.min, IntKind.max, IntKind.signed, IntKind.bits] at h
  omega
theorem u8_bd {a : Int} (h : (Lit.int .u8 a).wf = true) : 0 ≤ a ∧ a ≤ 255 := by
  simp [Lit.wf, IntKind.min, IntKind.max, IntKind.signed, IntKind.bits] at h
  omega
theorem pick_list {α : Type} (n : Nat) (f : Nat → α → Prop) (h : ∀ i, i < n → ∃ a, f i a) : ∃ l : List α, l.length = n ∧ ∀ i a, l[i]? = some a → f i a := by
  induction n with
  | zero => exact ⟨[], rfl, fun i a hi => by simp at hi⟩
  | succ n ih =>
    obtain ⟨l, hl, hf⟩ := ih (fun i hi => h i (by omega))
    obtain ⟨a, ha⟩ := h n (by omega)
    refine ⟨l ++ [a], by simp [hl], fun i b hi => ?_⟩
    by_cases e : i < n
    · rw [List.getElem?_append_left (by omega)] at hi
      exact hf i b hi
    · rw [List.getElem?_append_right (by omega), hl] at hi
      by_cases e2 : i - n = 0
      · rw [e2] at hi
        simp at hi
        subst hi
        rw [show i = n by omega]
        exact ha
      · rw [List.getElem?_eq_none (by simp; omega)] at hi
        cases hi
theorem flat_at : ∀ (I : List Inp) (j : Nat) (v : Value), (I.flatMap inpL)[j]? = some v → ∃ i, I[j / 3]? = some i ∧ (inpL i)[j % 3]? = some v
  | [], j, v, h => by simp at h
  | i :: I, j, v, h => by
    rw [List.flatMap_cons] at h
    have hl : (inpL i).length = 3 := rfl
    by_cases e : j < 3
    · rw [List.getElem?_append_left (by omega)] at h
      exact ⟨i, by rw [Nat.div_eq_of_lt e]; rfl, by rw [Nat.mod_eq_of_lt e]; exact h⟩
    · rw [List.getElem?_append_right (by omega), hl] at h
      obtain ⟨i', h1, h2⟩ := flat_at I (j - 3) v h
      refine ⟨i', ?_, ?_⟩
      · rw [show j / 3 = (j - 3) / 3 + 1 by omega, List.getElem?_cons_succ]
        exact h1
      · rw [show j % 3 = (j - 3) % 3 by omega]
        exact h2
/-- The list of inputs, as it comes in. -/
theorem open_inputs {H : Type} {enc : TypeId × Value → H} {W : World} {a0 : Option Addr} {len cap : Nat} {d : DataW H} {ps : List MemPlace} (h : DataW.Trod enc Try.prog W 0 (fun _ => true) true 79 (.slice a0 len cap) d ps) :
    len ≤ maxLen ∧ ∃ I : List Inp, I.length = len ∧ (∀ i ∈ I, i.ok) ∧ InsIn W (.slice a0 len cap) I := by
  obtain ⟨fuel, hf⟩ := h
  rcases open_slice Try.underlying79 hf with ⟨hcs, hx⟩ | ⟨a, len', cap', m, n, D, Pl, hcs, _, hl, hm, hmm, hx, hel⟩
  · simp [Value.cells] at hcs
    obtain ⟨rfl, rfl, rfl⟩ := hcs
    exact ⟨Nat.zero_le _, [], rfl, fun _ h => by simp at h, .inl ⟨rfl, _, _, rfl⟩⟩
  · simp [Value.cells] at hcs
    obtain ⟨rfl, rfl, rfl⟩ := hcs
    simp only [if_true] at hmm
    refine ⟨by omega, ?_⟩
    rw [cells60] at hel
    have hone : ∀ k, k < len → ∃ i : Inp, i.ok ∧ W.cell? (a.add (k * 3)) = some (.int .i8 i.x) ∧ W.cell? (a.add (k * 3 + 1)) = some (.int .i8 i.y) ∧ W.cell? (a.add (k * 3 + 2)) = some (.int .u8 i.b) := by
      intro k hk
      obtain ⟨cs', hc, ht⟩ := hel k (by omega)
      obtain ⟨xs, n', _, _, hlen, hxl, hfs⟩ := DataW.trod_struct Try.underlying24 ht
      rw [cells60] at hlen
      obtain ⟨_, _, hat⟩ := World.cells?_some hc
      match cs', hlen with
      | [c0, c1, c2], _ =>
        have e0 := hfs 0 _ rfl
        have e1 := hfs 1 _ rfl
        have e2 := hfs 2 _ rfl
        have g0 : W.cell? (a.add (k * 3)) = some c0 := by have := hat 0 (by omega); rw [add_add] at this; simpa using this
        have g1 : W.cell? (a.add (k * 3 + 1)) = some c1 := by have := hat 1 (by omega); rw [add_add] at this; simpa using this
        have g2 : W.cell? (a.add (k * 3 + 2)) = some c2 := by have := hat 2 (by omega); rw [add_add] at this; simpa using this
        have hx0 : xs[0]? = some (xs[0]'(by rw [hxl]; decide)) := List.getElem?_eq_getElem _
        have hx1 : xs[1]? = some (xs[1]'(by rw [hxl]; decide)) := List.getElem?_eq_getElem _
        have hx2 : xs[2]? = some (xs[2]'(by rw [hxl]; decide)) := List.getElem?_eq_getElem _
        rw [hx0] at e0
        rw [hx1] at e1
        rw [hx2] at e2
        have f0 : DataW.trod enc Try.prog W 0 (fun _ => true) true n' 22 [c0] = some _ := e0
        have f1 : DataW.trod enc Try.prog W 0 (fun _ => true) true n' 22 [c1] = some _ := e1
        have f2 : DataW.trod enc Try.prog W 0 (fun _ => true) true n' 5 [c2] = some _ := e2
        obtain ⟨x, hx, _, wx⟩ := DataW.trod_int Try.underlying22 f0
        obtain ⟨y, hy, _, wy⟩ := DataW.trod_int Try.underlying22 f1
        obtain ⟨b, hb, _, wb⟩ := DataW.trod_int Try.underlying5 f2
        have hx' : c0 = .int .i8 x := by simpa using hx
        have hy' : c1 = .int .i8 y := by simpa using hy
        have hb' : c2 = .int .u8 b := by simpa using hb
        subst hx' hy' hb'
        exact ⟨⟨x, y, b⟩, ⟨(i8_bd wx).1, (i8_bd wx).2, (i8_bd wy).1, (i8_bd wy).2, (u8_bd wb).1, (u8_bd wb).2⟩, g0, g1, g2⟩
    obtain ⟨I, hIl, hI⟩ := pick_list len _ hone
    refine ⟨I, hIl, fun i hi => ?_, ?_⟩
    · obtain ⟨k, hk⟩ := List.mem_iff_getElem?.1 hi
      exact (hI k i hk).1
    · by_cases h0 : len = 0
      · subst h0
        exact .inl ⟨List.length_eq_zero_iff.1 hIl, _, _, rfl⟩
      · obtain ⟨b, o, np⟩ := a
        obtain ⟨i0, _, h00, _⟩ := hone 0 (by omega)
        have hnp : np = none := by simpa [Addr.add] using World.cell?_spot h00
        subst hnp
        have a1 : ∀ i, (⟨b, o, none⟩ : Addr).add i = ⟨b, o + i, none⟩ := fun i => by unfold Addr.add; split <;> simp_all
        refine .inr ⟨b, o, cap, by rw [hIl], ?_, fun j v hv => ?_⟩
        · have := World.block_lt_of_cell? W _ h00
          rw [a1] at this; exact this
        · obtain ⟨i, hi, hv'⟩ := flat_at I j v hv
          obtain ⟨_, q0, q1, q2⟩ := hI _ i hi
          rw [a1] at q0 q1 q2
          have hm := Nat.mod_lt j (show 0 < 3 by omega)
          have hd := Nat.div_add_mod j 3
          match hj : j % 3, hm with
          | 0, _ =>
            rw [hj] at hv' hd
            cases hv'
            rw [show j = j / 3 * 3 by omega]; exact q0
          | 1, _ =>
            rw [hj] at hv' hd
            cases hv'
            rw [show j = j / 3 * 3 + 1 by omega]; exact q1
          | 2, _ =>
            rw [hj] at hv' hd
            cases hv'
            rw [show j = j / 3 * 3 + 2 by omega]; exact q2
end Go.Proofs.Ytdopfonebpklkaa.game
