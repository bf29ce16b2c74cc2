/- A Gather that is in order: what it has, and what a piece more makes of it. Plain laws for layer 18. -/
import Derived.Test.YtkoplojnfijllaaDoorSt
namespace Go.Proofs.YtkoplojnfijllaaDoor.chunk
open Go.ChangeShapes Go.WideShapes Go.ChangeAt Go.RowKit

/-- A piece that came: its slice, and the bytes behind it. -/
def PieceAt (w : World) (B0 G C A : Nat) (v : Value) (l : List UInt8) : Prop :=
  ∃ g cap, v = .slice (some ⟨g, 0, none⟩) l.length cap ∧ w.ownsRow B0 5 1 (.slice (some ⟨g, 0, none⟩) l.length cap) l.length (bytesOf l) ∧ g ≠ G ∧ g ≠ C ∧ g ≠ A

structure Good (w : World) (B0 G C A : Nat) (s : Ga) (parts : Nat → List UInt8) : Prop where
  lies : Lies w G C A s
  ok : s.ok
  tidy : s.tidy
  g : B0 ≤ G
  c : B0 ≤ C
  a : B0 ≤ A
  count : s.n = (List.range s.of).countP s.has
  piece : ∀ k, s.has k = true → PieceAt w B0 G C A (s.ps.getD k undef) (parts k)

theorem word_set (s : Ga) (hs : s.ok) (k i x : Nat) (hk : k < s.of) : ({ s with xs := s.xs.set (k / 64) x } : Ga).word i = if i = k / 64 then x else s.word i := by
  unfold Ga.word
  have hl : k / 64 < s.xs.length := by rw [hs.len]; omega
  simp only [List.getD_eq_getElem?_getD, List.getElem?_set]
  by_cases h : i = k / 64
  · subst h; rw [if_pos rfl, if_pos hl]; simp
  · rw [if_neg (Ne.symm h), if_neg h]

theorem put_word (s : Ga) (hs : s.ok) (k i : Nat) (v : Value) (hk : k < s.of) : (s.put k v).word i = if i = k / 64 then s.word (k / 64) ||| 2 ^ (k % 64) else s.word i :=
  word_set s hs k i _ hk
theorem put_bit (s : Ga) (hs : s.ok) (k j : Nat) (v : Value) (hk : k < s.of) : ((s.put k v).word (j / 64)).testBit (j % 64) = (decide (j = k) || (s.word (j / 64)).testBit (j % 64)) := by
  rw [put_word s hs k _ v hk]
  by_cases h : j / 64 = k / 64
  · rw [if_pos h, Nat.testBit_or, Nat.testBit_two_pow, h]
    by_cases h2 : j = k
    · subst h2; simp
    · have : ¬ k % 64 = j % 64 := by omega
      simp [h2, this]
  · rw [if_neg h]
    have : ¬ j = k := fun e => h (by rw [e])
    simp [this]
theorem put_has (s : Ga) (hs : s.ok) (k j : Nat) (v : Value) (hk : k < s.of) : (s.put k v).has j = (decide (j = k) || s.has j) := by
  unfold Ga.has
  rw [put_bit s hs k j v hk]
  show (decide (j < s.of) && _) = _
  by_cases h : j < s.of
  · simp [h]
  · have : ¬ j = k := by omega
    simp [h, this]
theorem put_tidy (s : Ga) (hs : s.ok) (ht : s.tidy) (k : Nat) (v : Value) (hk : k < s.of) : (s.put k v).tidy := by
  intro j hj
  have hj' : s.of ≤ j := hj
  rw [put_bit s hs k j v hk, ht j hj']
  have : ¬ j = k := by omega
  simp [this]
theorem countP_put (p q : Nat → Bool) (k : Nat) : ∀ n, k < n → p k = false → (∀ j, q j = (decide (j = k) || p j)) → (List.range n).countP q = (List.range n).countP p + 1
  | 0, h, _, _ => by omega
  | n + 1, h, hp, hq => by
    rw [List.range_succ, List.countP_append, List.countP_append]
    simp only [List.countP_cons, List.countP_nil]
    by_cases hn : k = n
    · subst hn
      have h1 : (List.range k).countP q = (List.range k).countP p := List.countP_congr (fun j hj => by
        have : j < k := List.mem_range.1 hj
        rw [hq j]; simp; omega)
      rw [h1, hq k, hp]; simp
    · have h1 := countP_put p q k n (by omega) hp hq
      rw [h1, hq n]
      have : ¬ n = k := fun e => hn e.symm
      simp [this]; omega
theorem countP_lt (p : Nat → Bool) (n k : Nat) (h : k < n) (hp : p k = false) : (List.range n).countP p < n := by
  have h1 := countP_put p (fun j => decide (j = k) || p j) k n h hp (fun _ => rfl)
  have h2 : (List.range n).countP (fun j => decide (j = k) || p j) ≤ n := by
    have := List.countP_le_length (p := fun j => decide (j = k) || p j) (l := List.range n)
    simpa using this
  omega
theorem countP_all (p : Nat → Bool) (n : Nat) (h : ∀ k, k < n → p k = true) : (List.range n).countP p = n := by
  have : (List.range n).countP p = (List.range n).length := List.countP_eq_length.2 (fun k hk => h k (List.mem_range.1 hk))
  simpa using this
theorem put_ok (s : Ga) (hs : s.ok) (k : Nat) (v : Value) (hn : s.n < s.of) : (s.put k v).ok :=
  ⟨hs.of1, hs.of2, by show (s.xs.set _ _).length = _; rw [List.length_set]; exact hs.len, by show (s.ps.set _ _).length = _; rw [List.length_set]; exact hs.lenp, by
    intro x hx
    rcases List.mem_or_eq_of_mem_set hx with h | h
    · exact hs.small x h
    · subst h
      have h1 := hs.word (k / 64)
      have h2 : 2 ^ (k % 64) < 2 ^ 64 := Nat.pow_lt_pow_of_lt (by decide) (by omega)
      exact Nat.or_lt_two_pow h1 h2, hn⟩

/-- The parts with one more. -/
def with_ (parts : Nat → List UInt8) (k : Nat) (l : List UInt8) : Nat → List UInt8 := fun j => if j = k then l else parts j

theorem PieceAt.fr {w w' : World} {B0 G C A : Nat} {v : Value} {l : List UInt8} (h : PieceAt w B0 G C A v l) (hf : Fr (fun j => j = G ∨ j = C ∨ j = A) w w') : PieceAt w' B0 G C A v l := by
  obtain ⟨g, cap, rfl, ho, h1, h2, h3⟩ := h
  refine ⟨g, cap, rfl, ⟨ho.1, ?_⟩, h1, h2, h3⟩
  rcases ho.2 with ⟨e, _⟩ | ⟨g', c', cur, e, hb, hg, r⟩
  · cases e
  · cases e
    refine .inr ⟨g, cap, cur, rfl, hb, ?_, r⟩
    rw [hf.block g (Array.getElem?_eq_some_iff.1 hg).1 (by omega)]
    exact hg
theorem Good.fr {w w' : World} {B0 G C A : Nat} {s : Ga} {parts : Nat → List UInt8} (h : Good w B0 G C A s parts) (hb : Below w.heap.size w w') : Good w' B0 G C A s parts :=
  ⟨h.lies.below hb h.lies.lt.1 h.lies.lt.2.1 h.lies.lt.2.2, h.ok, h.tidy, h.g, h.c, h.a, h.count, fun k hk => (h.piece k hk).fr (Fr.of_below hb)⟩
theorem Good.put {w w' : World} {B0 G C A : Nat} {s : Ga} {parts : Nat → List UInt8} (h : Good w B0 G C A s parts) (k : Nat) (hk : k < s.of) (hn : s.has k = false) (l : List UInt8) (e : Ending) (hB : B0 ≤ w.heap.size)
    (hp : PutYes G C A s k l w e w') : ∃ v, e = .returned (.bool true) ∧ Good w' B0 G C A (s.put k v) (with_ parts k l) ∧ Fr (fun j => j = G ∨ j = C ∨ j = A) w w' := by
  obtain ⟨g, cap, rfl, hg, hL, hO, hF⟩ := hp
  have hlt : s.n < s.of := by rw [h.count]; exact countP_lt s.has s.of k hk hn
  refine ⟨.slice (some ⟨g, 0, none⟩) l.length cap, rfl, ⟨hL, put_ok s h.ok k _ hlt, put_tidy s h.ok h.tidy k _ hk, h.g, h.c, h.a, ?_, ?_⟩, hF⟩
  · show s.n + 1 = (List.range s.of).countP (s.put k _).has
    rw [countP_put s.has _ k s.of hk hn (fun j => put_has s h.ok k j _ hk), h.count]
  · intro j hj
    rw [put_has s h.ok k j _ hk] at hj
    unfold with_
    by_cases hjk : j = k
    · subst hjk
      rw [if_pos rfl]
      have e : (s.put j (.slice (some ⟨g, 0, none⟩) l.length cap)).ps.getD j undef = .slice (some ⟨g, 0, none⟩) l.length cap := by
        show (s.ps.set j _).getD j undef = _
        rw [List.getD_eq_getElem?_getD, List.getElem?_set, if_pos rfl, if_pos (by rw [h.ok.lenp]; exact hk)]; rfl
      rw [e]
      have hl := h.lies.lt
      exact ⟨g, cap, rfl, ownsRow_base hO hB, by omega, by omega, by omega⟩
    · rw [if_neg hjk]
      have e : (s.put k (.slice (some ⟨g, 0, none⟩) l.length cap)).ps.getD j undef = s.ps.getD j undef := by
        show (s.ps.set k _).getD j undef = _
        rw [List.getD_eq_getElem?_getD, List.getElem?_set, if_neg (Ne.symm hjk), List.getD_eq_getElem?_getD]
      rw [e]
      have : s.has j = true := by simpa [hjk] using hj
      exact (h.piece j this).fr hF
theorem Good.full {w : World} {B0 G C A : Nat} {s : Ga} {parts : Nat → List UInt8} (h : Good w B0 G C A s parts) : s.n = s.of ↔ ∀ k, k < s.of → s.has k = true := by
  constructor
  · intro hn k hk
    cases hb : s.has k with
    | true => rfl
    | false => have := countP_lt s.has s.of k hk hb; have := h.count; omega
  · intro ha
    rw [h.count]; exact countP_all s.has s.of ha
theorem Good.rows {w : World} {B0 G C A : Nat} {s : Ga} {parts : Nat → List UInt8} (h : Good w B0 G C A s parts) (ha : ∀ k, k < s.of → s.has k = true) : RowsAt w A ((List.range s.of).map parts) := by
  refine ⟨fun i hi => ?_⟩
  have hi' : i < s.of := by simpa using hi
  obtain ⟨g, cap, e, hO, _⟩ := h.piece i (ha i hi')
  have hp : s.ps.getD i undef = s.ps[i]'(by rw [h.ok.lenp]; exact hi') := by rw [List.getD_eq_getElem?_getD, List.getElem?_eq_getElem (by rw [h.ok.lenp]; exact hi')]; rfl
  have el : ((List.range s.of).map parts)[i] = parts i := by simp
  rw [el]
  refine ⟨g, 0, cap, ?_, ⟨hO.cells (g := g) rfl⟩⟩
  rw [h.lies.hole h.ok.lenp i hi', ← hp, e]
theorem fresh_good {w : World} {B0 G C A of : Nat} {sum : Int} (hL : Lies w G C A (fresh of sum)) (h1 : 1 ≤ of) (h2 : of ≤ 65535) (g : B0 ≤ G) (c : B0 ≤ C) (a : B0 ≤ A) : Good w B0 G C A (fresh of sum) (fun _ => []) := by
  have hw : ∀ i, (fresh of sum).word i = 0 := fun i => by
    unfold Ga.word fresh
    simp only [List.getD_eq_getElem?_getD, List.getElem?_replicate]; split <;> rfl
  have hh : ∀ k, (fresh of sum).has k = false := fun k => by unfold Ga.has; rw [hw]; simp
  refine ⟨hL, fresh_ok of sum h1 h2, fun k _ => by rw [hw]; simp, g, c, a, ?_, fun k hk => by rw [hh k] at hk; cases hk⟩
  show 0 = _
  rw [eq_comm, List.countP_eq_zero]
  intro k _; rw [hh k]; simp
theorem fresh_has (of : Nat) (sum : Int) (k : Nat) : (fresh of sum).has k = false := by
  unfold Ga.has Ga.word fresh
  simp only [List.getD_eq_getElem?_getD, List.getElem?_replicate]; split <;> simp
end Go.Proofs.YtkoplojnfijllaaDoor.chunk
