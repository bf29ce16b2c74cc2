/- A list of inputs as an argument. The game that the laws begin with: ships of a mask. Fold, pure: rosters, events, entries, and what they make of a state. The document's answer: dice, the field. The zero state; puts into a state. (Of image.Get: ) image.Get's deferred closure: it turns the reader's panic into an error. -/
import Derived.Test.YtdopfonebpklkaaGreatFoldRuns08
import Derived.Deep.Slices
import Derived.Deep.Fields
import Derived.ChangeSame
import Derived.Test.YtdopfonebpklkaaGreatFoldRuns06
import Derived.Test.YtdopfonebpklkaaGreatFoldRuns04
import Derived.Deep.RegionWith
import Derived.BigQuiet
import Derived.Defers
import Derived.Recover
namespace Go.Proofs.YtdopfonebpklkaaGreat.game
open Go.ChangeShapes Go.WideShapes Go.ChangeAt Go.RowKit Go.Deep dice
set_option maxRecDepth 100000

theorem cells60 : Tryz.prog.cellsOf 39 = 3 := by kernel_rfl
def InsIn (W : World) (sl : Value) (I : List Inp) : Prop :=
  (I = [] ∧ ∃ ad c, sl = .slice ad 0 c) ∨ ∃ g o c, sl = .slice (some ⟨g, o, none⟩) I.length c ∧ g < W.heap.size ∧ ∀ j v, (I.flatMap inpL)[j]? = some v → W.cell? ⟨g, o + j, none⟩ = some v
theorem InsIn.later {W W' : World} {sl : Value} {I : List Inp} (h : InsIn W sl I) (hb : Below W.heap.size W W') : InsIn W' sl I := by
  rcases h with h | ⟨g, o, c, h1, h2, h3⟩
  · exact .inl h
  · exact .inr ⟨g, o, c, h1, Nat.lt_of_lt_of_le h2 hb.size, fun j v hv => (hb.cell (p := ⟨g, o + j, none⟩) h2).trans (h3 j v hv)⟩
structure InpAt (W : World) (g o : Nat) (i : Inp) : Prop where
  x : W.cell? ⟨g, o, none⟩ = some (.int .i8 i.x)
  y : W.cell? ⟨g, o + 1, none⟩ = some (.int .i8 i.y)
  b : W.cell? ⟨g, o + 2, none⟩ = some (.int .u8 i.b)
theorem inp_at {W : World} {g o : Nat} {I : List Inp} (h : ∀ j v, (I.flatMap inpL)[j]? = some v → W.cell? ⟨g, o + j, none⟩ = some v) (k : Nat) (i : Inp) (hk : I[k]? = some i) : InpAt W g (o + k * 3) i := by
  have c : ∀ j v, (inpL i)[j]? = some v → W.cell? ⟨g, o + k * 3 + j, none⟩ = some v := fun j v hv => by
    rw [Nat.add_assoc]; exact h _ v (insL_at I k j i v hk hv)
  exact ⟨c 0 _ rfl, c 1 _ rfl, c 2 _ rfl⟩
theorem i8_bd {a : Int} (h : (Lit.int .i8 a).wf = true) : -128 ≤ a ∧ a ≤ 127 := by
  simp [Lit.wf, IntKind.min, IntKind.max, IntKind.signed, IntKind.bits] at h
  omega
theorem u8_bd {a : Int} (h : (Lit.int .u8 a).wf = true) : 0 ≤ a ∧ a ≤ 255 := by
  simp [Lit.wf, IntKind.min, IntKind.max, IntKind.signed, IntKind.bits] at h
  omega
theorem pick_list {α : Type} (n : Nat) (f : Nat → α → Prop) (h : ∀ i, i < n → ∃ a, f i a) : ∃ l : List α, l.length = n ∧ ∀ i a, l[i]? = some a → f i a := by
  induction n with
  | zero => exact ⟨[], rfl, fun i a hi => by simp at hi⟩
  | succ n ih =>
    obtain ⟨l, hl, hf⟩ := ih (fun i hi => h i (by omega))
    obtain ⟨a, ha⟩ := h n (by omega)
    refine ⟨l ++ [a], by simp [hl], fun i b hi => ?_⟩
    by_cases e : i < n
    · rw [List.getElem?_append_left (by omega)] at hi
      exact hf i b hi
    · rw [List.getElem?_append_right (by omega), hl] at hi
      by_cases e2 : i - n = 0
      · rw [e2] at hi
        simp at hi
        subst hi
        rw [show i = n by omega]
        exact ha
      · rw [List.getElem?_eq_none (by simp; omega)] at hi
        cases hi
theorem flat_at : ∀ (I : List Inp) (j : Nat) (v : Value), (I.flatMap inpL)[j]? = some v → ∃ i, I[j / 3]? = some i ∧ (inpL i)[j % 3]? = some v
  | [], j, v, h => by simp at h
  | i :: I, j, v, h => by
    rw [List.flatMap_cons] at h
    have hl : (inpL i).length = 3 := rfl
    by_cases e : j < 3
    · rw [List.getElem?_append_left (by omega)] at h
      exact ⟨i, by rw [Nat.div_eq_of_lt e]; rfl, by rw [Nat.mod_eq_of_lt e]; exact h⟩
    · rw [List.getElem?_append_right (by omega), hl] at h
      obtain ⟨i', h1, h2⟩ := flat_at I (j - 3) v h
      refine ⟨i', ?_, ?_⟩
      · rw [show j / 3 = (j - 3) / 3 + 1 by omega, List.getElem?_cons_succ]
        exact h1
      · rw [show j % 3 = (j - 3) % 3 by omega]
        exact h2
/-- The list of inputs, as it comes in. -/
theorem open_inputs {H : Type} {enc : TypeId × Value → H} {W : World} {a0 : Option Addr} {len cap : Nat} {d : DataW H} {ps : List MemPlace} (h : DataW.Trod enc Tryz.prog W 0 (fun _ => true) true 148 (.slice a0 len cap) d ps) :
    len ≤ maxLen ∧ ∃ I : List Inp, I.length = len ∧ (∀ i ∈ I, i.ok) ∧ InsIn W (.slice a0 len cap) I := by
  obtain ⟨fuel, hf⟩ := h
  rcases open_slice Tryz.underlying148 hf with ⟨hcs, hx⟩ | ⟨a, len', cap', m, n, D, Pl, hcs, _, hl, hm, hmm, hx, hel⟩
  · simp [Value.cells] at hcs
    obtain ⟨rfl, rfl, rfl⟩ := hcs
    exact ⟨Nat.zero_le _, [], rfl, fun _ h => by simp at h, .inl ⟨rfl, _, _, rfl⟩⟩
  · simp [Value.cells] at hcs
    obtain ⟨rfl, rfl, rfl⟩ := hcs
    simp only [if_true] at hmm
    refine ⟨by omega, ?_⟩
    rw [cells60] at hel
    have hone : ∀ k, k < len → ∃ i : Inp, i.ok ∧ W.cell? (a.add (k * 3)) = some (.int .i8 i.x) ∧ W.cell? (a.add (k * 3 + 1)) = some (.int .i8 i.y) ∧ W.cell? (a.add (k * 3 + 2)) = some (.int .u8 i.b) := by
      intro k hk
      obtain ⟨cs', hc, ht⟩ := hel k (by omega)
      obtain ⟨xs, n', _, _, hlen, hxl, hfs⟩ := DataW.trod_struct Tryz.underlying39 ht
      rw [cells60] at hlen
      obtain ⟨_, _, hat⟩ := World.cells?_some hc
      match cs', hlen with
      | [c0, c1, c2], _ =>
        have e0 := hfs 0 _ rfl
        have e1 := hfs 1 _ rfl
        have e2 := hfs 2 _ rfl
        have g0 : W.cell? (a.add (k * 3)) = some c0 := by have := hat 0 (by omega); rw [add_add] at this; simpa using this
        have g1 : W.cell? (a.add (k * 3 + 1)) = some c1 := by have := hat 1 (by omega); rw [add_add] at this; simpa using this
        have g2 : W.cell? (a.add (k * 3 + 2)) = some c2 := by have := hat 2 (by omega); rw [add_add] at this; simpa using this
        have hx0 : xs[0]? = some (xs[0]'(by rw [hxl]; decide)) := List.getElem?_eq_getElem _
        have hx1 : xs[1]? = some (xs[1]'(by rw [hxl]; decide)) := List.getElem?_eq_getElem _
        have hx2 : xs[2]? = some (xs[2]'(by rw [hxl]; decide)) := List.getElem?_eq_getElem _
        rw [hx0] at e0
        rw [hx1] at e1
        rw [hx2] at e2
        have f0 : DataW.trod enc Tryz.prog W 0 (fun _ => true) true n' 37 [c0] = some _ := e0
        have f1 : DataW.trod enc Tryz.prog W 0 (fun _ => true) true n' 37 [c1] = some _ := e1
        have f2 : DataW.trod enc Tryz.prog W 0 (fun _ => true) true n' 5 [c2] = some _ := e2
        obtain ⟨x, hx, _, wx⟩ := DataW.trod_int Tryz.underlying37 f0
        obtain ⟨y, hy, _, wy⟩ := DataW.trod_int Tryz.underlying37 f1
        obtain ⟨b, hb, _, wb⟩ := DataW.trod_int Tryz.underlying5 f2
        have hx' : c0 = .int .i8 x := by simpa using hx
        have hy' : c1 = .int .i8 y := by simpa using hy
        have hb' : c2 = .int .u8 b := by simpa using hb
        subst hx' hy' hb'
        exact ⟨⟨x, y, b⟩, ⟨(i8_bd wx).1, (i8_bd wx).2, (i8_bd wy).1, (i8_bd wy).2, (u8_bd wb).1, (u8_bd wb).2⟩, g0, g1, g2⟩
    obtain ⟨I, hIl, hI⟩ := pick_list len _ hone
    refine ⟨I, hIl, fun i hi => ?_, ?_⟩
    · obtain ⟨k, hk⟩ := List.mem_iff_getElem?.1 hi
      exact (hI k i hk).1
    · by_cases h0 : len = 0
      · subst h0
        exact .inl ⟨List.length_eq_zero_iff.1 hIl, _, _, rfl⟩
      · obtain ⟨b, o, np⟩ := a
        obtain ⟨i0, _, h00, _⟩ := hone 0 (by omega)
        have hnp : np = none := by simpa [Addr.add] using World.cell?_spot h00
        subst hnp
        have a1 : ∀ i, (⟨b, o, none⟩ : Addr).add i = ⟨b, o + i, none⟩ := fun i => by unfold Addr.add; split <;> simp_all
        refine .inr ⟨b, o, cap, by rw [hIl], ?_, fun j v hv => ?_⟩
        · have := World.block_lt_of_cell? W _ h00
          rw [a1] at this; exact this
        · obtain ⟨i, hi, hv'⟩ := flat_at I j v hv
          obtain ⟨_, q0, q1, q2⟩ := hI _ i hi
          rw [a1] at q0 q1 q2
          have hm := Nat.mod_lt j (show 0 < 3 by omega)
          have hd := Nat.div_add_mod j 3
          match hj : j % 3, hm with
          | 0, _ =>
            rw [hj] at hv' hd
            cases hv'
            rw [show j = j / 3 * 3 by omega]; exact q0
          | 1, _ =>
            rw [hj] at hv' hd
            cases hv'
            rw [show j = j / 3 * 3 + 1 by omega]; exact q1
          | 2, _ =>
            rw [hj] at hv' hd
            cases hv'
            rw [show j = j / 3 * 3 + 2 by omega]; exact q2
end Go.Proofs.YtdopfonebpklkaaGreat.game
namespace Go.Proofs.YtdopfonebpklkaaGreat.game
open Go.ChangeShapes Go.WideShapes Go.ChangeAt Go.RowKit dice
set_option maxRecDepth 100000

def maskB (mask : Int) (k : Nat) : Bool := bits .and .i64 (mask / 2 ^ k) 1 == 1
def g0 (D : Int) : Gme := ⟨0, D, zS, []⟩
def playTo (mask : Int) (g : Gme) : Nat → Gme
  | 0 => g
  | n + 1 => if maskB mask n = true then spawnG (playTo mask g n) n else playTo mask g n
theorem spawned_ok (d : Int) : (⟨true, px d, py d, 0, 0, 0, 0⟩ : Shp).ok := by
  have := px_bd d
  have := py_bd d
  unfold Shp.ok OkShip
  rw [if_pos rfl]
  dsimp only
  omega
theorem spawnG_ok {g : Gme} (k : Nat) (h : g.ok) : (spawnG g k).ok := by
  refine ⟨h.f0, h.f1, by unfold spawnG; dsimp only; rw [List.length_set]; exact h.s8, fun t ht => ?_, h.shots, h.most⟩
  rcases List.mem_or_eq_of_mem_set ht with a | a
  · exact h.ships t a
  · rw [a]; exact spawned_ok _
theorem g0_ok (D : Int) : (g0 D).ok := ⟨by unfold g0; dsimp only; omega, by unfold g0; dsimp only; omega, rfl, zS_ok, fun s hs => by simp [g0] at hs, by simp [g0]⟩
theorem playTo_ok (mask : Int) (D : Int) : ∀ n, (playTo mask (g0 D) n).ok
  | 0 => g0_ok D
  | n + 1 => by
    unfold playTo
    split
    · exact spawnG_ok n (playTo_ok mask D n)
    · exact playTo_ok mask D n
theorem playTo_L (mask : Int) (D : Int) : ∀ n, (playTo mask (g0 D) n).L = [] ∧ (playTo mask (g0 D) n).fr = 0
  | 0 => ⟨rfl, rfl⟩
  | n + 1 => by
    unfold playTo
    split
    · exact playTo_L mask D n
    · exact playTo_L mask D n
/-- Which ships are there behind n slots. -/
theorem playTo_on (mask : Int) (D : Int) : ∀ (n j : Nat), j < 8 → n ≤ 8 → ∃ t, (playTo mask (g0 D) n).S[j]? = some t ∧ t.on = (decide (j < n) && maskB mask j) ∧ t.score = 0
  | 0, j, hj, _ => by
    refine ⟨zShp, ?_, by simp [zShp], rfl⟩
    show zS[j]? = some zShp
    unfold zS
    rw [List.getElem?_replicate, if_pos hj]
  | n + 1, j, hj, hn => by
    obtain ⟨t, h1, h2, h3⟩ := playTo_on mask D n j hj (by omega)
    unfold playTo
    by_cases hm : maskB mask n = true
    · rw [if_pos hm]
      by_cases e : n = j
      · subst e
        refine ⟨⟨true, px (playTo mask (g0 D) n).d, py (playTo mask (g0 D) n).d, 0, 0, 0, 0⟩, List.getElem?_set_self (List.getElem?_eq_some_iff.1 h1).1, ?_, rfl⟩
        simp [hm]
      · refine ⟨t, ?_, ?_, h3⟩
        · show ((playTo mask (g0 D) n).S.set n _)[j]? = _
          rw [List.getElem?_set_ne e, h1]
        · rw [h2]
          have : decide (j < n + 1) = decide (j < n) := by
            by_cases h : j < n
            · rw [decide_eq_true h, decide_eq_true (by omega)]
            · rw [decide_eq_false h, decide_eq_false (by omega)]
          rw [this]
    · rw [if_neg hm]
      refine ⟨t, h1, ?_, h3⟩
      rw [h2]
      by_cases e : n = j
      · subst e
        have : maskB mask n = false := by simpa using hm
        simp [this]
      · have : decide (j < n + 1) = decide (j < n) := by
          by_cases h : j < n
          · rw [decide_eq_true h, decide_eq_true (by omega)]
          · rw [decide_eq_false h, decide_eq_false (by omega)]
        rw [this]
theorem Sb.oneRow {Hs : List Nat} {W0 w : World} {l : List Blk} {r : RowS} {R : List RowS} (h : Sb Hs W0 w l (r :: R)) : Sb Hs W0 w l [r] :=
  ⟨h.os, h.tape, h.output, h.size, h.fr, h.holds, h.ge, h.nd, fun q hq => h.rows q (by rw [List.mem_singleton.1 hq]; exact List.mem_cons_self ..), fun q hq => h.rge q (by rw [List.mem_singleton.1 hq]; exact List.mem_cons_self ..),
    fun q hq => h.apart q (by rw [List.mem_singleton.1 hq]; exact List.mem_cons_self ..), by simp⟩
def PlayPost (mask D : Int) (w : World) (e : Ending) (w' : World) : Prop :=
  (∃ ad c, e = .returned (.tuple #[.agg (gameC 0 (playTo mask (g0 D) 8).d (playTo mask (g0 D) 8).S (.slice ad 0 c)), .bool true]) ∧ Own w' 0 (.slice ad 0 c) [] ∧ ∀ k, (Value.slice ad 0 c).ownBlock = some k → w.heap.size ≤ k) ∧ Below w.heap.size w w'
theorem own_nil_in {w : World} {B : Nat} {sl : Value} (h : Own w B sl []) : ShotsIn w sl [] := h.shotsIn
end Go.Proofs.YtdopfonebpklkaaGreat.game
namespace Go.Proofs.YtdopfonebpklkaaGreat.game
open Go.ChangeShapes Go.WideShapes Go.ChangeAt Go.RowKit dice

structure Evt where
  kind : Int
  slot : Int
  gen : Int
  peer : Int
  deriving DecidableEq
structure Ent where
  fr : Int
  evs : List Evt
  ins : List Inp
def Inp.z (i : Inp) : Bool := decide (i.x = 0 ∧ i.y = 0 ∧ i.b = 0)

/-! Seats that may be. -/
def seatOk (q : Seat) : Prop := -1 ≤ q.peer ∧ q.peer ≤ 11 ∧ 0 ≤ q.gen ∧ q.gen ≤ 60000 ∧ (0 ≤ q.peer → 1 ≤ q.gen)
def seatsOk (T : List Seat) : Prop := (∀ q ∈ T, seatOk q) ∧ ∀ (i j : Nat) (a b : Seat), T[i]? = some a → T[j]? = some b → 0 ≤ b.peer → a.peer = b.peer → i = j
theorem seatBad_iff (q : Seat) : seatBad q = false ↔ -1 ≤ q.peer ∧ q.peer ≤ 11 ∧ 0 ≤ q.gen ∧ q.gen ≤ 60000 := by
  unfold seatBad
  simp only [Bool.or_eq_false_iff, decide_eq_false_iff_not]
  omega
theorem seatsBad_iff : ∀ (T : List Seat) (m : Nat) (A : List Seat), MaskOk m A → (seatsBad m T = false ↔
    (∀ q ∈ T, seatOk q ∧ (0 ≤ q.peer → ∀ a ∈ A, a.peer ≠ q.peer)) ∧ T.Pairwise fun a b => 0 ≤ b.peer → a.peer ≠ b.peer)
  | [], m, A, _ => by simp [seatsBad]
  | s :: T, m, A, h => by
    unfold seatsBad
    rw [Bool.or_eq_false_iff, Bool.or_eq_false_iff]
    constructor
    · rintro ⟨⟨h1, h2⟩, h3⟩
      have ih := (seatsBad_iff T _ _ (h.snoc h1)).1 h3
      have hb := (seatBad_iff s).1 h1
      have hs : ¬ ((0 ≤ s.peer ∧ s.gen < 1) ∨ (0 ≤ s.peer ∧ ∃ q ∈ A, q.peer = s.peer)) := fun e => by
        rw [(step_bad h h1).2 e] at h2
        cases h2
      refine ⟨fun q hq => ?_, ?_⟩
      · rcases List.mem_cons.1 hq with rfl | hq
        · refine ⟨⟨hb.1, hb.2.1, hb.2.2.1, hb.2.2.2, fun h0 => ?_⟩, fun h0 a ha e => hs (.inr ⟨h0, a, ha, e⟩)⟩
          have : ¬ q.gen < 1 := fun e => hs (.inl ⟨h0, e⟩)
          omega
        · exact ⟨(ih.1 q hq).1, fun h0 a ha => (ih.1 q hq).2 h0 a (List.mem_append_left _ ha)⟩
      · rw [List.pairwise_cons]
        exact ⟨fun b hb' h0 => (ih.1 b hb').2 h0 s (List.mem_append_right _ (List.mem_singleton.2 rfl)), ih.2⟩
    · rintro ⟨h1, h2⟩
      rw [List.pairwise_cons] at h2
      have hs := h1 s (List.mem_cons_self ..)
      have hb : seatBad s = false := (seatBad_iff s).2 ⟨hs.1.1, hs.1.2.1, hs.1.2.2.1, hs.1.2.2.2.1⟩
      refine ⟨⟨hb, ?_⟩, (seatsBad_iff T _ _ (h.snoc hb)).2 ⟨fun q hq => ⟨(h1 q (List.mem_cons_of_mem _ hq)).1, fun h0 a ha => ?_⟩, h2.2⟩⟩
      · rw [Bool.eq_false_iff]
        intro e
        rcases (step_bad h hb).1 e with ⟨h0, h1'⟩ | ⟨h0, a, ha, e'⟩
        · have := hs.1.2.2.2.2 h0
          omega
        · exact hs.2 h0 a ha e'
      · rcases List.mem_append.1 ha with ha | ha
        · exact (h1 q (List.mem_cons_of_mem _ hq)).2 h0 a ha
        · rw [List.mem_singleton] at ha
          subst ha
          exact h2.1 q hq h0
theorem pair_idx {T : List Seat} : (T.Pairwise fun a b => 0 ≤ b.peer → a.peer ≠ b.peer) ↔ ∀ (i j : Nat) (a b : Seat), T[i]? = some a → T[j]? = some b → 0 ≤ b.peer → a.peer = b.peer → i = j := by
  rw [List.pairwise_iff_getElem]
  constructor
  · intro h i j a b hi hj h0 e
    obtain ⟨h1, e1⟩ := List.getElem?_eq_some_iff.1 hi
    obtain ⟨h2, e2⟩ := List.getElem?_eq_some_iff.1 hj
    rcases Nat.lt_trichotomy i j with hl | hl | hl
    · exact absurd (by rw [e1, e2]; exact e) (h i j h1 h2 hl (by rw [e2]; exact h0))
    · exact hl
    · exact absurd (by rw [e1, e2]; exact e.symm) (h j i h2 h1 hl (by rw [e1, e]; exact h0))
  · intro h i j hi hj hl h0 e
    have := h i j _ _ (List.getElem?_eq_getElem hi) (List.getElem?_eq_getElem hj) h0 e
    omega
theorem mayR_iff {ver : Int} {T : List Seat} : mayR ver T = true ↔ 0 ≤ ver ∧ ver ≤ 1073741824 ∧ seatsOk T := by
  unfold mayR
  rw [Bool.and_eq_true, Bool.and_eq_true, decide_eq_true_eq, decide_eq_true_eq, Bool.not_eq_true', seatsBad_iff T 0 [] MaskOk.nil, pair_idx]
  constructor
  · rintro ⟨a, b, c, d⟩
    exact ⟨a, b, fun q hq => (c q hq).1, d⟩
  · rintro ⟨a, b, c, d⟩
    exact ⟨a, b, fun q hq => ⟨c q hq, fun _ a ha => by simp at ha⟩, d⟩
theorem seatsOk.leave {T : List Seat} {k : Nat} {q : Seat} (h : seatsOk T) (hq : T[k]? = some q) : seatsOk (T.set k ⟨-1, q.gen⟩) := by
  have hk := (List.getElem?_eq_some_iff.1 hq).1
  have hs := h.1 q (List.mem_of_getElem? hq)
  refine ⟨fun p hp => ?_, fun i j a b hi hj h0 e => ?_⟩
  · rcases List.mem_or_eq_of_mem_set hp with hp | rfl
    · exact h.1 p hp
    · exact ⟨by simp, by simp, hs.2.2.1, hs.2.2.2.1, fun h0 => by simp at h0⟩
  · rw [List.getElem?_set] at hi hj
    by_cases hj' : k = j
    · rw [if_pos hj', if_pos hk] at hj
      injection hj with hj
      rw [← hj] at h0
      simp at h0
    · rw [if_neg hj'] at hj
      by_cases hi' : k = i
      · rw [if_pos hi', if_pos hk] at hi
        injection hi with hi
        rw [← hi] at e
        simp at e
        omega
      · rw [if_neg hi'] at hi
        exact h.2 i j a b hi hj h0 e
theorem seatsOk.join {T : List Seat} {k : Nat} {q : Seat} {p g : Int} (h : seatsOk T) (hq : T[k]? = some q) (hp0 : 0 ≤ p) (hp1 : p < 12) (hno : T.any (fun q => q.peer == p) = false) (hg0 : 1 ≤ g) (hg1 : g ≤ 60000) : seatsOk (T.set k ⟨p, g⟩) := by
  have hk := (List.getElem?_eq_some_iff.1 hq).1
  have hno' : ∀ (i : Nat) (a : Seat), T[i]? = some a → a.peer ≠ p := fun i a hi e => by
    have := List.any_eq_false.1 hno a (List.mem_of_getElem? hi)
    simp [e] at this
  refine ⟨fun r hr => ?_, fun i j a b hi hj h0 e => ?_⟩
  · rcases List.mem_or_eq_of_mem_set hr with hr | rfl
    · exact h.1 r hr
    · exact ⟨by dsimp only; omega, by dsimp only; omega, by dsimp only; omega, by dsimp only; omega, fun _ => hg0⟩
  · rw [List.getElem?_set] at hi hj
    by_cases hj' : k = j
    · rw [if_pos hj', if_pos hk] at hj
      injection hj with hj
      by_cases hi' : k = i
      · omega
      · rw [if_neg hi'] at hi
        rw [← hj] at e
        exact absurd e (hno' i a hi)
    · rw [if_neg hj'] at hj
      by_cases hi' : k = i
      · rw [if_pos hi', if_pos hk] at hi
        injection hi with hi
        rw [← hi] at e
        exact absurd e.symm (hno' j b hj)
      · rw [if_neg hi'] at hi
        exact h.2 i j a b hi hj h0 e

/-! Events. -/
def evR (ver : Int) (T : List Seat) (x : Evt) : Option (Int × List Seat) :=
  if mayR ver T = true ∧ ver < 1073741824 ∧ 0 ≤ x.slot ∧ x.slot < 8 then
    (T[x.slot.toNat]?).bind fun q =>
      if x.kind = 1 ∧ q.peer < 0 ∧ 0 ≤ x.peer ∧ x.peer < 12 ∧ T.any (fun q => q.peer == x.peer) = false ∧ q.gen < 60000 ∧ q.gen + 1 = x.gen then some (ver + 1, T.set x.slot.toNat ⟨x.peer, x.gen⟩)
      else if x.kind = 2 ∧ 0 ≤ q.peer ∧ q.peer = x.peer ∧ q.gen = x.gen then some (ver + 1, T.set x.slot.toNat ⟨-1, q.gen⟩)
      else none
  else none
def removeG (g : Gme) (k : Nat) : Gme := ⟨g.fr, g.d, g.S.set k zShp, g.L.filter fun s => decide (s.owner ≠ k)⟩
def evG (g : Gme) (x : Evt) : Gme := if x.kind = 2 then removeG g x.slot.toNat else spawnG g x.slot.toNat
def evS (s : Ste) (x : Evt) : Option Ste := (evR s.ver s.T x).bind fun r => some ⟨evG s.g x, r.1, r.2⟩
def evsS : Ste → List Evt → Option Ste
  | s, [] => some s
  | s, x :: l => (evS s x).bind fun t => evsS t l
/-- What an event that is taken is. -/
theorem evR_some {ver : Int} {T : List Seat} {x : Evt} {r : Int × List Seat} (h : evR ver T x = some r) :
    mayR ver T = true ∧ ver < 1073741824 ∧ ∃ (k : Nat) (q : Seat), x.slot = (k : Int) ∧ k < 8 ∧ T[k]? = some q ∧
      ((x.kind = 1 ∧ q.peer < 0 ∧ 0 ≤ x.peer ∧ x.peer < 12 ∧ T.any (fun q => q.peer == x.peer) = false ∧ q.gen < 60000 ∧ q.gen + 1 = x.gen ∧ r = (ver + 1, T.set k ⟨x.peer, x.gen⟩)) ∨
       (x.kind = 2 ∧ 0 ≤ q.peer ∧ q.peer = x.peer ∧ q.gen = x.gen ∧ r = (ver + 1, T.set k ⟨-1, q.gen⟩))) := by
  unfold evR at h
  split at h
  · rename_i hc
    obtain ⟨q, hq, h⟩ := Option.bind_eq_some_iff.1 h
    refine ⟨hc.1, hc.2.1, x.slot.toNat, q, by omega, by omega, hq, ?_⟩
    split at h
    · rename_i h1
      injection h with h
      exact .inl ⟨h1.1, h1.2.1, h1.2.2.1, h1.2.2.2.1, h1.2.2.2.2.1, h1.2.2.2.2.2.1, h1.2.2.2.2.2.2, h.symm⟩
    · split at h
      · rename_i h1
        injection h with h
        exact .inr ⟨h1.1, h1.2.1, h1.2.2.1, h1.2.2.2, h.symm⟩
      · cases h
  · cases h
theorem evR_may {ver : Int} {T : List Seat} {x : Evt} {r : Int × List Seat} (h : evR ver T x = some r) : mayR r.1 r.2 = true ∧ r.1 = ver + 1 ∧ r.2.length = T.length := by
  obtain ⟨hm, hv, k, q, hk, hk8, hq, h⟩ := evR_some h
  obtain ⟨v0, v1, ho⟩ := mayR_iff.1 hm
  rcases h with ⟨_, _, hp0, hp1, hno, hg, hg', rfl⟩ | ⟨_, _, _, _, rfl⟩
  · have hs := ho.1 q (List.mem_of_getElem? hq)
    refine ⟨mayR_iff.2 ⟨by dsimp only; omega, by dsimp only; omega, ho.join hq hp0 hp1 hno ?_ ?_⟩, rfl, by simp⟩
    · have := hs.2.2.1; omega
    · omega
  · exact ⟨mayR_iff.2 ⟨by dsimp only; omega, by dsimp only; omega, ho.leave hq⟩, rfl, by simp⟩
theorem pairs_idx {S : List Shp} {T : List Seat} : pairs S T = true ↔ ∀ (i : Nat) (t : Shp) (q : Seat), S[i]? = some t → T[i]? = some q → t.on = decide (0 ≤ q.peer) := by
  unfold pairs
  rw [List.all_eq_true]
  constructor
  · intro h i t q ht hq
    have hz : (S.zip T)[i]? = some (t, q) := by rw [List.getElem?_zip_eq_some]; exact ⟨ht, hq⟩
    have := h (t, q) (List.mem_of_getElem? hz)
    simpa using this
  · rintro h ⟨t, q⟩ hm
    obtain ⟨i, hi⟩ := List.mem_iff_getElem?.1 hm
    rw [List.getElem?_zip_eq_some] at hi
    simpa using h i t q hi.1 hi.2
theorem removeG_ok {g : Gme} (k : Nat) (h : g.ok) : (removeG g k).ok :=
  ⟨h.f0, h.f1, by simp [removeG, h.s8], fun t ht => by
    rcases List.mem_or_eq_of_mem_set ht with a | rfl
    · exact h.ships t a
    · exact zShp_ok, fun s hs => h.shots s (List.mem_filter.1 hs).1, Nat.le_trans (List.length_filter_le ..) h.most⟩
theorem evG_ok {g : Gme} (x : Evt) (h : g.ok) : (evG g x).ok := by
  unfold evG
  split
  · exact removeG_ok _ h
  · exact spawnG_ok _ h
structure Ste.may (s : Ste) : Prop where
  g : s.g.ok
  r : mayR s.ver s.T = true
  p : pairs s.g.S s.T = true
  t8 : s.T.length = 8
theorem Ste.may_iff {s : Ste} (h8 : s.g.S.length = 8) (t8 : s.T.length = 8) : mayS s = true ↔ s.may := by
  unfold mayS
  rw [Bool.and_eq_true, Bool.and_eq_true, Gme.may_ok h8]
  exact ⟨fun h => ⟨h.1.1, h.1.2, h.2, t8⟩, fun h => ⟨⟨h.g, h.r⟩, h.p⟩⟩
theorem Ste.may.mayS {s : Ste} (h : s.may) : mayS s = true := (Ste.may_iff h.g.s8 h.t8).2 h
theorem evS_may {s t : Ste} {x : Evt} (hs : s.may) (h : evS s x = some t) : t.may ∧ t.ver = s.ver + 1 ∧ t.g.fr = s.g.fr ∧ t.g = evG s.g x ∧ evR s.ver s.T x = some (t.ver, t.T) := by
  unfold evS at h
  obtain ⟨⟨v, T⟩, hr, h⟩ := Option.bind_eq_some_iff.1 h
  injection h with h
  subst h
  have hm := evR_may hr
  obtain ⟨_, _, k, q, hk, hk8, hq, hh⟩ := evR_some hr
  have hkt : x.slot.toNat = k := by omega
  have hfr : (evG s.g x).fr = s.g.fr := by unfold evG removeG spawnG; split <;> rfl
  refine ⟨⟨evG_ok x hs.g, hm.1, ?_, by dsimp only; rw [hm.2.2]; exact hs.t8⟩, hm.2.1, hfr, rfl, hr⟩
  have hpi := pairs_idx.1 hs.p
  refine pairs_idx.2 fun i t p hi hp => ?_
  dsimp only at hi hp
  unfold evG at hi
  rcases hh with ⟨hkd, _, hp0, _, _, _, _, e⟩ | ⟨hkd, _, _, _, e⟩
  · rw [if_neg (by omega), hkt] at hi
    unfold spawnG at hi
    dsimp only at hi
    have e2 := congrArg Prod.snd e
    dsimp only at e2
    rw [e2] at hp
    rw [List.getElem?_set] at hi hp
    by_cases hki : k = i
    · rw [if_pos hki] at hi hp
      rw [if_pos (by rw [hs.g.s8]; exact hk8)] at hi
      rw [if_pos (by rw [hs.t8]; exact hk8)] at hp
      injection hi with hi
      injection hp with hp
      rw [← hi, ← hp]
      simp [hp0]
    · rw [if_neg hki] at hi hp
      exact hpi i t p hi hp
  · rw [if_pos hkd, hkt] at hi
    unfold removeG at hi
    dsimp only at hi
    have e2 := congrArg Prod.snd e
    dsimp only at e2
    rw [e2] at hp
    rw [List.getElem?_set] at hi hp
    by_cases hki : k = i
    · rw [if_pos hki] at hi hp
      rw [if_pos (by rw [hs.g.s8]; exact hk8)] at hi
      rw [if_pos (by rw [hs.t8]; exact hk8)] at hp
      injection hi with hi
      injection hp with hp
      rw [← hi, ← hp]
      simp [zShp]
    · rw [if_neg hki] at hi hp
      exact hpi i t p hi hp

/-! Entries. -/
def mayEv (x : Evt) : Bool := (decide (x.kind = 1) || decide (x.kind = 2)) && decide (0 ≤ x.slot) && decide (x.slot < 8) && decide (1 ≤ x.gen) && decide (x.gen ≤ 60000) && decide (0 ≤ x.peer) && decide (x.peer < 12)
def evPair (a x : Evt) : Bool := !(decide (a.kind < x.kind) || (decide (a.kind = x.kind) && decide (x.slot ≤ a.slot)))
def evsMay : Option Evt → List Evt → Bool
  | _, [] => true
  | none, x :: l => mayEv x && evsMay (some x) l
  | some a, x :: l => mayEv x && evPair a x && evsMay (some x) l
def mayIn (i : Inp) : Bool := decide (-127 ≤ i.x) && decide (-127 ≤ i.y)
def entMay (e : Ent) : Bool := decide (0 ≤ e.fr) && decide (e.fr < 1048576) && evsMay none e.evs && e.ins.all mayIn
/-- The document's look: kind and slot go on. -/
def rEvs : Int → Int → List Evt → Bool
  | _, _, [] => true
  | k, s, x :: l =>
    if x.kind = 1 ∧ k = 2 then decide (-1 < x.slot) && decide (x.slot < 8) && decide (1 ≤ x.gen) && decide (x.gen ≤ 60000) && decide (0 ≤ x.peer) && decide (x.peer < 12) && rEvs 1 x.slot l
    else decide (x.kind = k) && decide (s < x.slot) && decide (x.slot < 8) && decide (1 ≤ x.gen) && decide (x.gen ≤ 60000) && decide (0 ≤ x.peer) && decide (x.peer < 12) && rEvs k x.slot l
theorem rEvs_some : ∀ (l : List Evt) (a : Evt), mayEv a = true → rEvs a.kind a.slot l = evsMay (some a) l
  | [], _, _ => rfl
  | x :: l, a, ha => by
    have ha' : (a.kind = 1 ∨ a.kind = 2) ∧ 0 ≤ a.slot := by
      unfold mayEv at ha
      simp only [Bool.and_eq_true, Bool.or_eq_true, decide_eq_true_eq] at ha
      exact ⟨ha.1.1.1.1.1.1, ha.1.1.1.1.1.2⟩
    unfold rEvs evsMay
    by_cases hx : mayEv x = true
    · have ih := rEvs_some l x hx
      have hx' := hx
      unfold mayEv at hx'
      simp only [Bool.and_eq_true, Bool.or_eq_true, decide_eq_true_eq] at hx'
      obtain ⟨⟨⟨⟨⟨⟨k1, s0⟩, s1⟩, g0⟩, g1⟩, p0⟩, p1⟩ := hx'
      rw [hx, ← ih]
      by_cases hc : x.kind = 1 ∧ a.kind = 2
      · rw [if_pos hc]
        have : evPair a x = true := by unfold evPair; simp; omega
        rw [this, hc.1]
        simp [s1, g0, g1, p0, p1]
        omega
      · rw [if_neg hc]
        by_cases hk : x.kind = a.kind
        · have : evPair a x = decide (a.slot < x.slot) := by
            unfold evPair
            rw [Bool.eq_iff_iff]
            simp [hk]
          rw [this, hk]
          simp [s1, g0, g1, p0, p1]
        · have : evPair a x = false := by
            unfold evPair
            simp
            omega
          rw [this]
          simp [hk]
    · have hx2 : mayEv x = false := by simpa using hx
      rw [hx2, Bool.false_and, Bool.false_and]
      unfold mayEv at hx2
      by_cases hc : x.kind = 1 ∧ a.kind = 2
      · rw [if_pos hc]
        simp [hc.1] at hx2
        simp
        intro h1 h2 h3 h4 h5 h6
        exact absurd (hx2 (by omega) h2 h3 h4 h5) (by omega)
      · rw [if_neg hc]
        simp at hx2
        simp
        intro h1 h2 h3 h4 h5 h6 h7
        exact absurd (hx2 (by omega) (by omega) h3 h4 h5 h6) (by omega)
theorem rEvs_none (l : List Evt) : rEvs 2 (-1) l = evsMay none l := by
  cases l with
  | nil => rfl
  | cons x l =>
    unfold rEvs evsMay
    by_cases hx : mayEv x = true
    · have ih := rEvs_some l x hx
      have hx' := hx
      unfold mayEv at hx'
      simp only [Bool.and_eq_true, Bool.or_eq_true, decide_eq_true_eq] at hx'
      obtain ⟨⟨⟨⟨⟨⟨k1, s0⟩, s1⟩, g0⟩, g1⟩, p0⟩, p1⟩ := hx'
      rw [hx, ← ih]
      by_cases hc : x.kind = 1
      · rw [if_pos ⟨hc, rfl⟩, hc]
        simp [s1, g0, g1, p0, p1]
        omega
      · rw [if_neg (fun h => hc h.1)]
        have hk : x.kind = 2 := by omega
        rw [hk]
        simp [s1, g0, g1, p0, p1]
        omega
    · have hx2 : mayEv x = false := by simpa using hx
      rw [hx2, Bool.false_and]
      unfold mayEv at hx2
      simp at hx2
      split
      · simp
        intro h1 h2 h3 h4 h5 h6
        exact absurd (hx2 (by omega) (by omega) h2 h3 h4 h5) (by omega)
      · simp
        intro h1 h2 h3 h4 h5 h6 h7
        exact absurd (hx2 (by omega) (by omega) h3 h4 h5 h6) (by omega)

/-! What an entry makes of a state. -/
def insOk (I : List Inp) (T : List Seat) : Bool := (I.zip T).all fun p => p.1.z || decide (0 ≤ p.2.peer)
def applyF (s : Ste) (e : Ent) : Option Ste :=
  if mayS s = true ∧ entMay e = true ∧ e.fr = s.g.fr then
    (evsS s e.evs).bind fun t => if insOk e.ins t.T = true then some ⟨stepG t.g e.ins, t.ver, t.T⟩ else none
  else none
def runF : Ste → List Ent → Option Ste
  | s, [] => some s
  | s, e :: l => (applyF s e).bind fun t => runF t l
theorem evsS_may : ∀ (l : List Evt) {s t : Ste}, s.may → evsS s l = some t → t.may ∧ t.g.fr = s.g.fr ∧ t.ver = s.ver + l.length
  | [], s, t, hs, h => by injection h with h; subst h; exact ⟨hs, rfl, by simp⟩
  | x :: l, s, t, hs, h => by
    unfold evsS at h
    obtain ⟨u, hu, h⟩ := Option.bind_eq_some_iff.1 h
    obtain ⟨a, b, c, _⟩ := evS_may hs hu
    obtain ⟨a', b', c'⟩ := evsS_may l a h
    exact ⟨a', b'.trans c, by rw [c', b]; simp; omega⟩
theorem entMay_parts {e : Ent} (h : entMay e = true) : 0 ≤ e.fr ∧ e.fr < 1048576 ∧ evsMay none e.evs = true ∧ ∀ i ∈ e.ins, mayIn i = true := by
  unfold entMay at h
  simp only [Bool.and_eq_true, decide_eq_true_eq, List.all_eq_true] at h
  exact ⟨h.1.1.1, h.1.1.2, h.1.2, h.2⟩
theorem runF_append : ∀ (l m : List Ent) (s : Ste), runF s (l ++ m) = (runF s l).bind fun t => runF t m
  | [], m, s => rfl
  | e :: l, m, s => by
    rw [List.cons_append, show runF s (e :: (l ++ m)) = (applyF s e).bind fun t => runF t (l ++ m) from rfl, show runF s (e :: l) = (applyF s e).bind fun t => runF t l from rfl, Option.bind_assoc]
    congr 1
    funext t
    exact runF_append l m t
end Go.Proofs.YtdopfonebpklkaaGreat.game
namespace Go.Proofs.YtdopfonebpklkaaGreat.game
open Go.ChangeShapes Go.WideShapes Go.ChangeAt Go.RowKit dice
set_option maxRecDepth 100000

theorem rnext_any (d : Int) (w : World) : Calls Tryz.prog 146 #[.int .u64 d] w fun e w' => e = .returned (.int .u64 (next d)) ∧ w = w' := by
  go_enter Tryz.func146, Tryz.ntmps146
  go_wp2
  go_ret
  exact ⟨by rw [← next_wrap d]; rfl, rfl⟩
theorem rpick_in (d n : Int) (w : World) (hn : 1 ≤ n) (hn' : n ≤ 2147483647) :
    Calls Tryz.prog 127 #[.int .u64 d, .int .i64 n] w fun e w' => e = .returned (.tuple #[.int .i64 (pick d n), .int .u64 (next d)]) ∧ w = w' := by
  have hb := next_bd d
  go_enter Tryz.func127, Tryz.ntmps127
  go_wp2_with (go_at_call 146; refine (rnext_any _ _).mono ?_; rintro e w' ⟨rfl, rfl⟩)
  go_ret2
  exact ⟨by rw [← pick_wrap d n hn hn']; rfl, rfl⟩
theorem rplace_any (d : Int) (w : World) :
    Calls Tryz.prog 99 #[.int .u64 d] w fun e w' => e = .returned (.tuple #[.int .i32 (px d), .int .i32 (py d), .int .u64 (next (next d))]) ∧ w = w' := by
  have hx := px_bd d
  have hy := py_bd d
  have P1 := Lib.hid (fun w => rpick_in d 16777216 w (by omega) (by omega))
  have P2 := Lib.hid (fun w => rpick_in (next d) 16777216 w (by omega) (by omega))
  change 0 ≤ pick d 16777216 ∧ pick d 16777216 ≤ 16777215 at hx
  change 0 ≤ pick (next d) 16777216 ∧ pick (next d) 16777216 ≤ 16777215 at hy
  unfold px py
  generalize pick d 16777216 = x at *
  generalize pick (next d) 16777216 = y at *
  go_enter Tryz.func99, Tryz.ntmps99
  go_wp2_with fail
  refine (P1.out _).mono ?_; rintro e w' ⟨rfl, rfl⟩
  go_wp2_with fail
  refine (P2.out _).mono ?_; rintro e w' ⟨rfl, rfl⟩
  go_wp2_with fail
  go_ret3
  exact ⟨rfl, rfl⟩
theorem rseed_any (s : ByteArray) (w : World) (hs : s.size ≤ maxLen) :
    Calls Tryz.prog 109 #[.string s] w fun e w' => e = .returned (.int .u64 (seed s.data.toList)) ∧ w = w' := by
  unfold maxLen at hs
  go_enter Tryz.func109, Tryz.ntmps109
  go_wp2
  go_loop [3, 4] (fun h i => ∃ k : Nat, k ≤ s.size ∧ i = .int .i64 k ∧ h = .int .u64 (seed (s.data.toList.take k))) (fun _ i => s.size - (intOf i).toNat)
  case atStart => exact ⟨0, Nat.zero_le _, rfl, rfl⟩
  case round =>
    obtain ⟨k, hk, rfl, rfl⟩ := hrel
    by_cases hlt : k < s.size
    · have HS : Hid (seed (s.data.toList.take (k + 1)) = seedStep (seed (s.data.toList.take k)) s[k]) := by rw [take_snoc s k hlt]; exact seed_snoc _ _ _
      go_wp2
      go_round
      case rel => exact ⟨k + 1, by omega, by go_num, by rw [HS.out]; rfl⟩
      case measure => simp [intOf]; omega
    · go_wp2
      go_ret
      exact ⟨ret_int (by rw [List.take_of_length_le (by simp; omega)]), rfl⟩
theorem rin_any (a : Int) (w : World) (h0 : 0 ≤ a) (h1 : a < 16777216) : Calls Tryz.prog 105 #[.int .i32 a] w fun e w' => e = .returned (.bool true) ∧ w = w' := by
  go_enter Tryz.func105, Tryz.ntmps105
  go_wp2
  go_ret
  exact ⟨rfl, rfl⟩
theorem rslow_any (a m : Int) (w : World) (hm : m = 524288 ∨ m = 393216) (h0 : -m ≤ a) (h1 : a ≤ m) : Calls Tryz.prog 106 #[.int .i32 a, .int .i32 m] w fun e w' => e = .returned (.bool true) ∧ w = w' := by
  rcases hm with rfl | rfl
  all_goals
    go_enter Tryz.func106, Tryz.ntmps106
    go_wp2
    go_ret
    exact ⟨rfl, rfl⟩
theorem rtame_any (a : Int) (w : World) (h0 : -128 ≤ a) (h1 : a ≤ 127) : Calls Tryz.prog 100 #[.int .i8 a] w fun e w' => e = .returned (.int .i8 (tameI a)) ∧ w = w' := by
  by_cases h : a = -128
  · subst h
    go_enter Tryz.func100, Tryz.ntmps100
    go_wp2
    go_ret
    exact ⟨rfl, rfl⟩
  · have e : Hid (tameI a = a) := Lib.hid (by unfold tameI; omega)
    have hq : (a == -128) = false := beq_eq_false_iff_ne.2 h
    clear h
    go_enter Tryz.func100, Tryz.ntmps100
    go_wp2
    go_ret
    exact ⟨by rw [e.out]; rfl, rfl⟩
theorem round_any (a : Int) (w : World) (h0 : -8589934592 ≤ a) (h1 : a ≤ 8589934592) : Calls Tryz.prog 130 #[.int .i64 a] w fun e w' => e = .returned (.int .i64 (a % 16777216)) ∧ w = w' := by
  obtain ⟨t, ht⟩ : ∃ t, a.tmod 16777216 = t := ⟨_, rfl⟩
  have hb : -16777216 < t ∧ t < 16777216 ∧ ((t < 0 ∧ a % 16777216 = t + 16777216) ∨ (0 ≤ t ∧ a % 16777216 = t)) := by
    have := tmod_cases a
    rw [ht] at this
    omega
  have HB := Lib.hid hb.2.2
  have b0 := hb.1
  have b1 := hb.2.1
  have a0 := h0
  have a1 := h1
  clear hb h0 h1
  go_enter Tryz.func130, Tryz.ntmps130
  go_wp2_with fail
  go_ret
  exact ⟨ret_int (by have := HB.out; omega), rfl⟩
theorem rmove_any (a v : Int) (w : World) (h0 : -2147483648 ≤ a) (h1 : a ≤ 2147483647) (h2 : -2147483648 ≤ v) (h3 : v ≤ 2147483647) :
    Calls Tryz.prog 102 #[.int .i32 a, .int .i32 v] w fun e w' => e = .returned (.int .i32 (mv a v)) ∧ w = w' := by
  have hm := mv_bd a v
  have R := Lib.hid (fun w => round_any (a + v) w (by omega) (by omega))
  rw [show (a + v) % 16777216 = mv a v from rfl] at R
  generalize mv a v = m at *
  go_enter Tryz.func102, Tryz.ntmps102
  go_wp2_with fail
  refine (R.out _).mono ?_; rintro e w' ⟨rfl, rfl⟩
  go_wp2_with fail
  go_ret
  exact ⟨rfl, rfl⟩
theorem rgap_any (a b : Int) (w : World) (h0 : -2147483648 ≤ a) (h1 : a ≤ 2147483647) (h2 : -2147483648 ≤ b) (h3 : b ≤ 2147483647) :
    Calls Tryz.prog 148 #[.int .i32 a, .int .i32 b] w fun e w' => e = .returned (.int .i32 (gapI a b)) ∧ w = w' := by
  have R := Lib.hid (fun w => round_any (b - a) w (by omega) (by omega))
  obtain ⟨m, hm⟩ : ∃ m, (b - a) % 16777216 = m := ⟨_, rfl⟩
  have hb : 0 ≤ m ∧ m < 16777216 := by omega
  rw [hm] at R
  by_cases hg : 8388608 ≤ m
  · have E : Hid (gapI a b = m - 16777216) := Lib.hid (by unfold gapI; omega)
    clear hm
    go_enter Tryz.func148, Tryz.ntmps148
    go_wp2_with fail
    refine (R.out _).mono ?_; rintro e w' ⟨rfl, rfl⟩
    go_wp2_with fail
    go_ret
    exact ⟨by rw [E.out]; rfl, rfl⟩
  · have E : Hid (gapI a b = m) := Lib.hid (by unfold gapI; omega)
    clear hm
    go_enter Tryz.func148, Tryz.ntmps148
    go_wp2_with fail
    refine (R.out _).mono ?_; rintro e w' ⟨rfl, rfl⟩
    go_wp2_with fail
    go_ret
    exact ⟨by rw [E.out]; rfl, rfl⟩
theorem rhits_any (ax ay bx by_ : Int) (w : World) (h0 : 0 ≤ ax ∧ ax < 16777216) (h1 : 0 ≤ ay ∧ ay < 16777216) (h2 : 0 ≤ bx ∧ bx < 16777216) (h3 : 0 ≤ by_ ∧ by_ < 16777216) :
    Calls Tryz.prog 132 #[.int .i32 ax, .int .i32 ay, .int .i32 bx, .int .i32 by_] w fun e w' => e = .returned (.bool (hitsI ax ay bx by_)) ∧ w = w' := by
  have b1 := gapI_bd ax bx
  have b2 := gapI_bd ay by_
  have G1 := Lib.hid (fun w => rgap_any ax bx w (by omega) (by omega) (by omega) (by omega))
  have G2 := Lib.hid (fun w => rgap_any ay by_ w (by omega) (by omega) (by omega) (by omega))
  have HQ : Hid (hitsI ax ay bx by_ = (near (gapI ax bx) && near (gapI ay by_))) := Lib.hid rfl
  generalize gapI ax bx = gx at *
  generalize gapI ay by_ = gy at *
  obtain ⟨q, hq⟩ : ∃ q, hitsI ax ay bx by_ = q := ⟨_, rfl⟩
  rw [hq] at HQ ⊢
  clear hq h0 h1 h2 h3
  have HE : Hid (q = ((decide (gx < 786432) && decide (-gx < 786432)) && (decide (gy < 786432) && decide (-gy < 786432)))) := Lib.hid HQ.out
  clear HQ
  by_cases c1 : -786432 < gx
  · by_cases c2 : gx < 786432
    · by_cases c3 : -786432 < gy
      · by_cases c4 : gy < 786432
        · have E : Hid (q = true) := Lib.hid (by rw [HE.out, decide_eq_true c2, decide_eq_true (show -gx < 786432 by omega), decide_eq_true c4, decide_eq_true (show -gy < 786432 by omega)]; rfl)
          go_enter Tryz.func132, Tryz.ntmps132
          go_wp2_with fail
          refine (G1.out _).mono ?_; rintro e w' ⟨rfl, rfl⟩
          go_wp2_with fail
          refine (G2.out _).mono ?_; rintro e w' ⟨rfl, rfl⟩
          go_wp2_with fail
          go_ret
          exact ⟨by rw [E.out]; rfl, rfl⟩
        · have E : Hid (q = false) := Lib.hid (by rw [HE.out, decide_eq_false c4]; simp)
          have d4 : decide (gy < 786432) = false := decide_eq_false c4
          go_enter Tryz.func132, Tryz.ntmps132
          go_wp2_with fail
          refine (G1.out _).mono ?_; rintro e w' ⟨rfl, rfl⟩
          go_wp2_with fail
          refine (G2.out _).mono ?_; rintro e w' ⟨rfl, rfl⟩
          go_wp2_with fail
          go_ret
          exact ⟨by rw [E.out]; rfl, rfl⟩
      · have E : Hid (q = false) := Lib.hid (by rw [HE.out, decide_eq_false (show ¬ -gy < 786432 by omega)]; simp)
        go_enter Tryz.func132, Tryz.ntmps132
        go_wp2_with fail
        refine (G1.out _).mono ?_; rintro e w' ⟨rfl, rfl⟩
        go_wp2_with fail
        refine (G2.out _).mono ?_; rintro e w' ⟨rfl, rfl⟩
        go_wp2_with fail
        go_ret
        exact ⟨by rw [E.out]; rfl, rfl⟩
    · have E : Hid (q = false) := Lib.hid (by rw [HE.out, decide_eq_false c2]; simp)
      go_enter Tryz.func132, Tryz.ntmps132
      go_wp2_with fail
      refine (G1.out _).mono ?_; rintro e w' ⟨rfl, rfl⟩
      go_wp2_with fail
      refine (G2.out _).mono ?_; rintro e w' ⟨rfl, rfl⟩
      go_wp2_with fail
      go_ret
      exact ⟨by rw [E.out]; rfl, rfl⟩
  · have E : Hid (q = false) := Lib.hid (by rw [HE.out, decide_eq_false (show ¬ -gx < 786432 by omega)]; simp)
    go_enter Tryz.func132, Tryz.ntmps132
    go_wp2_with fail
    refine (G1.out _).mono ?_; rintro e w' ⟨rfl, rfl⟩
    go_wp2_with fail
    refine (G2.out _).mono ?_; rintro e w' ⟨rfl, rfl⟩
    go_wp2_with fail
    go_ret
    exact ⟨by rw [E.out]; rfl, rfl⟩
theorem rcut_any (a : Int) (w : World) (h0 : -2000000 ≤ a) (h1 : a ≤ 2000000) : Calls Tryz.prog 147 #[.int .i64 a] w fun e w' => e = .returned (.int .i32 a) ∧ w = w' := by
  go_enter Tryz.func147, Tryz.ntmps147
  go_wp2_with fail
  go_ret
  exact ⟨rfl, rfl⟩
theorem radd_any (a b : Int) (w : World) (h0 : -1000000 ≤ a) (h1 : a ≤ 1000000) (h2 : -1000000 ≤ b) (h3 : b ≤ 1000000) :
    Calls Tryz.prog 129 #[.int .i32 a, .int .i32 b] w fun e w' => e = .returned (.int .i32 (a + b)) ∧ w = w' := by
  have HC := Lib.hid (fun w => rcut_any (a + b) w (by omega) (by omega))
  go_enter Tryz.func129, Tryz.ntmps129
  go_wp2_with fail
  refine (HC.out _).mono ?_; rintro e w' ⟨rfl, rfl⟩
  go_wp2_with fail
  go_ret
  exact ⟨rfl, rfl⟩
theorem rclamp_any (a : Int) (w : World) (h0 : -2000000 ≤ a) (h1 : a ≤ 2000000) :
    Calls Tryz.prog 128 #[.int .i32 a, .int .i32 (-524288), .int .i32 524288] w fun e w' => e = .returned (.int .i32 (clampI a)) ∧ w = w' := by
  by_cases ha : a < -524288
  · go_enter Tryz.func128, Tryz.ntmps128
    go_wp2_with fail
    go_ret
    exact ⟨ret_int (by unfold clampI; omega), rfl⟩
  · by_cases hb : 524288 < a
    · go_enter Tryz.func128, Tryz.ntmps128
      go_wp2_with fail
      go_ret
      exact ⟨ret_int (by unfold clampI; omega), rfl⟩
    · go_enter Tryz.func128, Tryz.ntmps128
      go_wp2_with fail
      go_ret
      exact ⟨ret_int (by unfold clampI; omega), rfl⟩
theorem rpush_any (v s : Int) (w : World) (h0 : -524288 ≤ v) (h1 : v ≤ 524288) (h2 : -128 ≤ s) (h3 : s ≤ 127) :
    Calls Tryz.prog 101 #[.int .i32 v, .int .i8 s] w fun e w' => e = .returned (.int .i32 (pushI v s)) ∧ w = w' := by
  obtain ⟨t, ht⟩ : ∃ t, v.tdiv 16 = t := ⟨_, rfl⟩
  have hb : -32768 ≤ t ∧ t ≤ 32768 := by
    rw [← ht]
    by_cases h : 0 ≤ v
    · rw [Int.tdiv_eq_ediv_of_nonneg h]; omega
    · have := Int.neg_tdiv (-v) 16
      rw [Int.neg_neg] at this
      rw [this, Int.tdiv_eq_ediv_of_nonneg (by omega)]; omega
  have HP : Hid (pushI v s = clampI (v - t + 256 * s)) := Lib.hid (by unfold pushI; rw [ht])
  obtain ⟨b0, b1⟩ := hb
  have HA := Lib.hid (fun w => radd_any (v - t) (256 * s) w (by omega) (by omega) (by omega) (by omega))
  have HC := Lib.hid (fun w => rclamp_any (v - t + 256 * s) w (by omega) (by omega))
  go_enter Tryz.func101, Tryz.ntmps101
  go_wp2_with fail
  refine (HA.out _).mono ?_; rintro e w' ⟨rfl, rfl⟩
  go_wp2_with fail
  refine (HC.out _).mono ?_; rintro e w' ⟨rfl, rfl⟩
  go_wp2_with fail
  go_ret
  exact ⟨by rw [HP.out]; rfl, rfl⟩
def signI (a : Int) : Int := if 0 < a then 1 else if a < 0 then -1 else 0
theorem sign_side (a : Int) : signI a * 6 * 65536 = sideI a := by unfold signI sideI; split <;> (try split) <;> rfl
theorem sign_bd (a : Int) : -1 ≤ signI a ∧ signI a ≤ 1 := by unfold signI; split <;> (try split) <;> omega
theorem sign_any (a : Int) (w : World) : Calls Tryz.prog 131 #[.int .i8 a] w fun e w' => e = .returned (.int .i32 (signI a)) ∧ w' = w := by
  by_cases h1 : 0 < a
  · have E : Hid (signI a = 1) := Lib.hid (by unfold signI; rw [if_pos h1])
    go_enter Tryz.func131, Tryz.ntmps131
    go_wp2_with fail
    go_ret
    exact ⟨ret_int E.out.symm, rfl⟩
  · by_cases h2 : a < 0
    · have E : Hid (signI a = -1) := Lib.hid (by unfold signI; rw [if_neg h1, if_pos h2])
      go_enter Tryz.func131, Tryz.ntmps131
      go_wp2_with fail
      go_ret
      exact ⟨ret_int E.out.symm, rfl⟩
    · have E : Hid (signI a = 0) := Lib.hid (by unfold signI; rw [if_neg h1, if_neg h2])
      go_enter Tryz.func131, Tryz.ntmps131
      go_wp2_with fail
      go_ret
      exact ⟨ret_int E.out.symm, rfl⟩
theorem raim_any (x y b : Int) (w : World) :
    Calls Tryz.prog 103 #[.agg #[.int .i8 x, .int .i8 y, .int .u8 b]] w fun e w' => e = .returned (.tuple #[.int .i32 (aimX x y), .int .i32 (sideI y)]) ∧ Below w.heap.size w w' := by
  have HX := Lib.hid (sign_any x)
  have HY := Lib.hid (sign_any y)
  have bx := sign_bd x
  have by' := sign_bd y
  have zx : signI x = 0 ↔ x = 0 := by unfold signI; split <;> (try split) <;> omega
  have zy : signI y = 0 ↔ y = 0 := by unfold signI; split <;> (try split) <;> omega
  have ey : Hid (sideI y = signI y * 6 * 65536) := Lib.hid (sign_side y).symm
  have hcase : (signI x = 0 ∧ signI y = 0 ∧ aimX x y = 393216) ∨ ((signI x ≠ 0 ∨ signI y ≠ 0) ∧ aimX x y = signI x * 6 * 65536) := by
    by_cases h : x = 0 ∧ y = 0
    · exact .inl ⟨zx.2 h.1, zy.2 h.2, by unfold aimX; rw [if_pos h]⟩
    · exact .inr ⟨by rw [Ne, zx, Ne, zy]; omega, by unfold aimX; rw [if_neg h, sign_side]⟩
  rw [ey.out]
  obtain ⟨ax, hax⟩ : ∃ ax, aimX x y = ax := ⟨_, rfl⟩
  rw [hax] at hcase ⊢
  clear zx zy ey hax
  by_cases hxy : x = y
  · subst hxy
    generalize signI x = s at *
    have HA : Hid (ax = if s = 0 then 393216 else s * 6 * 65536) := Lib.hid (by
      split
      · rename_i h; rcases hcase with ⟨_, _, h3⟩ | ⟨h1, _⟩
        · exact h3
        · omega
      · rename_i h; rcases hcase with ⟨h1, _, _⟩ | ⟨_, h2⟩
        · omega
        · exact h2)
    clear hcase
    by_cases hs : s = 0
    · subst hs
      go_enter Tryz.func103, Tryz.ntmps103
      go_wp2_with fail
      go_quiet ((go_at_call_of 131 (Value.int .i8 x); exact Calls.quiet_of_same (HX.out _)))
      go_wp2_with fail
      go_ret2
      exact ⟨by rw [HA.out]; rfl, by repeat (first | exact Below.refl _ _ | apply Below.drew | (refine bdN ?_ _) | (refine Below.alloc ?_ (by simp) _))⟩
    · have hq : (s == 0) = false := beq_eq_false_iff_ne.2 hs
      have E : Hid (ax = s * 6 * 65536) := Lib.hid (by rw [HA.out, if_neg hs])
      clear hs HA
      go_enter Tryz.func103, Tryz.ntmps103
      go_wp2_with fail
      go_quiet ((go_at_call_of 131 (Value.int .i8 x); exact Calls.quiet_of_same (HX.out _)))
      go_wp2_with fail
      go_ret2
      exact ⟨by rw [E.out]; rfl, by repeat (first | exact Below.refl _ _ | apply Below.drew | (refine bdN ?_ _) | (refine Below.alloc ?_ (by simp) _))⟩
  · have hxy' : y ≠ x := fun e => hxy e.symm
    generalize signI x = sx at *
    generalize signI y = sy at *
    by_cases h0 : sx = 0
    · subst h0
      by_cases h1 : sy = 0
      · subst h1
        have E : Hid (ax = 393216) := Lib.hid (by rcases hcase with ⟨_, _, h3⟩ | ⟨h1, _⟩ <;> omega)
        clear hcase
        go_enter Tryz.func103, Tryz.ntmps103
        go_wp2_with fail
        go_quiet (first | ((go_at_call_of 131 (Value.int .i8 x); exact Calls.quiet_of_same (HX.out _))) | ((go_at_call_of 131 (Value.int .i8 y); exact Calls.quiet_of_same (HY.out _))))
        go_wp2_with fail
        go_ret2
        exact ⟨by rw [E.out]; rfl, by repeat (first | exact Below.refl _ _ | apply Below.drew | (refine bdN ?_ _) | (refine Below.alloc ?_ (by simp) _))⟩
      · have hq : (sy == 0) = false := beq_eq_false_iff_ne.2 h1
        have E : Hid (ax = 0) := Lib.hid (by rcases hcase with ⟨_, h2, h3⟩ | ⟨_, h2⟩ <;> omega)
        clear hcase h1
        go_enter Tryz.func103, Tryz.ntmps103
        go_wp2_with fail
        go_quiet (first | ((go_at_call_of 131 (Value.int .i8 x); exact Calls.quiet_of_same (HX.out _))) | ((go_at_call_of 131 (Value.int .i8 y); exact Calls.quiet_of_same (HY.out _))))
        go_wp2_with fail
        go_ret2
        exact ⟨by rw [E.out]; rfl, by repeat (first | exact Below.refl _ _ | apply Below.drew | (refine bdN ?_ _) | (refine Below.alloc ?_ (by simp) _))⟩
    · have hq : (sx == 0) = false := beq_eq_false_iff_ne.2 h0
      have E : Hid (ax = sx * 6 * 65536) := Lib.hid (by rcases hcase with ⟨h2, _, h3⟩ | ⟨_, h2⟩ <;> omega)
      clear hcase h0
      go_enter Tryz.func103, Tryz.ntmps103
      go_wp2_with fail
      go_quiet (first | ((go_at_call_of 131 (Value.int .i8 x); exact Calls.quiet_of_same (HX.out _))) | ((go_at_call_of 131 (Value.int .i8 y); exact Calls.quiet_of_same (HY.out _))))
      go_wp2_with fail
      go_ret2
      exact ⟨by rw [E.out]; rfl, by repeat (first | exact Below.refl _ _ | apply Below.drew | (refine bdN ?_ _) | (refine Below.alloc ?_ (by simp) _))⟩
end Go.Proofs.YtdopfonebpklkaaGreat.game
namespace Go.Proofs.YtdopfonebpklkaaGreat.game
open Go.ChangeShapes Go.WideShapes Go.ChangeAt Go.RowKit dice
set_option maxRecDepth 100000

def zC : Array Value := #[.int .i64 0, .int .u64 0, .bool false, .int .i32 0, .int .i32 0, .int .i32 0, .int .i32 0, .int .i64 0, .int .i64 0, .bool false, .int .i32 0, .int .i32 0, .int .i32 0, .int .i32 0, .int .i64 0, .int .i64 0, .bool false, .int .i32 0, .int .i32 0, .int .i32 0, .int .i32 0, .int .i64 0, .int .i64 0, .bool false, .int .i32 0, .int .i32 0, .int .i32 0, .int .i32 0, .int .i64 0, .int .i64 0, .bool false, .int .i32 0, .int .i32 0, .int .i32 0, .int .i32 0, .int .i64 0, .int .i64 0, .bool false, .int .i32 0, .int .i32 0, .int .i32 0, .int .i32 0, .int .i64 0, .int .i64 0, .bool false, .int .i32 0, .int .i32 0, .int .i32 0, .int .i32 0, .int .i64 0, .int .i64 0, .bool false, .int .i32 0, .int .i32 0, .int .i32 0, .int .i32 0, .int .i64 0, .int .i64 0, .slice none 0 0, .int .i64 0, .int .i64 0, .int .i64 0, .int .i64 0, .int .i64 0, .int .i64 0, .int .i64 0, .int .i64 0, .int .i64 0, .int .i64 0, .int .i64 0, .int .i64 0, .int .i64 0, .int .i64 0, .int .i64 0, .int .i64 0, .int .i64 0]
theorem zC_size : zC.size = 76 := rfl
theorem zC_one : zC.toList.all (·.oneCell') = true := by decide +kernel
open Go.ChangeShapes Go.WideShapes Go.ChangeAt Go.RowKit dice
set_option maxRecDepth 100000

def zSte : Ste := ⟨⟨0, 0, List.replicate 8 zShp, []⟩, 0, List.replicate 8 ⟨0, 0⟩⟩
theorem zSte_cells : stateC zSte (.slice none 0 0) = zC := rfl
theorem lv35 (W : World) (b : Nat) (cs : Array Value) (h : W.heap[b]? = some (.cells cs 35 (0, 0))) (hs : cs.size = 76) :
    (loadVar 35 ⟨b, 0, none⟩).run Tryz.prog W = .ok (.agg cs) W :=
  run_loadVar_row W b 35 35 cs (0, 0) _ h Tryz.underlying35 rfl (by rw [hs]; exact info35)
theorem lv3 (W : World) (b : Nat) (v : Value) (h : W.heap[b]? = some (.cells #[v] 3 (0, 0))) :
    (loadVar 3 ⟨b, 0, none⟩).run Tryz.prog W = .ok v W := by
  have hc : W.cell? ⟨b, 0, none⟩ = some v := cell_of_row W b 0 #[v] 3 (0, 0) h
  simp only [loadVar, Sem.run_bind, Tryz.isAgg3, Result.andThen_ok, Bool.false_eq_true, if_false, run_load, hc]
theorem splice_mid (A old new B : List Value) (o : Nat) (ho : o = A.length) (h : old.length = new.length) : splice (A ++ (old ++ B)).toArray o new = (A ++ (new ++ B)).toArray := by
  subst ho
  unfold splice
  simp only [List.take_left, ← h]
  rw [← List.append_assoc A old B, ← List.length_append, List.drop_left, List.append_assoc]
section
variable {fr d ver : Int} {S : List Shp} {L : List Sht} {T : List Seat} {sl : Value}
theorem sc_putFr (fr' : Int) : splice (stateC ⟨⟨fr, d, S, L⟩, ver, T⟩ sl) 0 [.int .i64 fr'] = stateC ⟨⟨fr', d, S, L⟩, ver, T⟩ sl := rfl
theorem sc_putD (d' : Int) : splice (stateC ⟨⟨fr, d, S, L⟩, ver, T⟩ sl) 1 [.int .u64 d'] = stateC ⟨⟨fr, d', S, L⟩, ver, T⟩ sl := rfl
theorem shipsL_append (A B : List Shp) : shipsL (A ++ B) = shipsL A ++ shipsL B := by simp [shipsL]
theorem shipsL_cons (t : Shp) (B : List Shp) : shipsL (t :: B) = shipL t ++ shipsL B := by simp [shipsL]
theorem seatsL_append (A B : List Seat) : seatsL (A ++ B) = seatsL A ++ seatsL B := by simp [seatsL]
theorem seatsL_cons (t : Seat) (B : List Seat) : seatsL (t :: B) = seatL t ++ seatsL B := by simp [seatsL]
theorem sc_putShip (D E : List Shp) (z t : Shp) (k : Nat) (hk : D.length = k) : splice (stateC ⟨⟨fr, d, D ++ z :: E, L⟩, ver, T⟩ sl) (2 + k * 7) (shipL t) = stateC ⟨⟨fr, d, D ++ t :: E, L⟩, ver, T⟩ sl := by
  have e : ∀ t : Shp, stateC ⟨⟨fr, d, D ++ t :: E, L⟩, ver, T⟩ sl = ((Value.int .i64 fr :: Value.int .u64 d :: shipsL D) ++ (shipL t ++ (shipsL E ++ (sl :: .int .i64 ver :: seatsL T)))).toArray := fun t => by
    simp [stateC, stateL, shipsL_append, shipsL_cons]
  rw [e z, e t]
  exact splice_mid _ _ _ _ _ (by simp [length_shipsL, hk]; omega) rfl
theorem sc_putShots (h8 : S.length = 8) (sl' : Value) : splice (stateC ⟨⟨fr, d, S, L⟩, ver, T⟩ sl) 58 [sl'] = stateC ⟨⟨fr, d, S, L⟩, ver, T⟩ sl' := by
  have e : ∀ sl : Value, stateC ⟨⟨fr, d, S, L⟩, ver, T⟩ sl = ((Value.int .i64 fr :: Value.int .u64 d :: shipsL S) ++ ([sl] ++ (.int .i64 ver :: seatsL T))).toArray := fun t => by
    simp [stateC, stateL]
  rw [e sl, e sl']
  exact splice_mid _ _ _ _ _ (by simp [length_shipsL, h8]) rfl
theorem sc_putVer (h8 : S.length = 8) (ver' : Int) : splice (stateC ⟨⟨fr, d, S, L⟩, ver, T⟩ sl) 59 [.int .i64 ver'] = stateC ⟨⟨fr, d, S, L⟩, ver', T⟩ sl := by
  have e : ∀ ver : Int, stateC ⟨⟨fr, d, S, L⟩, ver, T⟩ sl = ((Value.int .i64 fr :: Value.int .u64 d :: (shipsL S ++ [sl])) ++ ([Value.int .i64 ver] ++ seatsL T)).toArray := fun t => by
    simp [stateC, stateL]
  rw [e ver, e ver']
  exact splice_mid _ _ _ _ _ (by simp [length_shipsL, h8]) rfl
theorem sc_putSeat (h8 : S.length = 8) (D E : List Seat) (z t : Seat) (k : Nat) (hk : D.length = k) : splice (stateC ⟨⟨fr, d, S, L⟩, ver, D ++ z :: E⟩ sl) (60 + k * 2) (seatL t) = stateC ⟨⟨fr, d, S, L⟩, ver, D ++ t :: E⟩ sl := by
  have e : ∀ t : Seat, stateC ⟨⟨fr, d, S, L⟩, ver, D ++ t :: E⟩ sl = ((Value.int .i64 fr :: Value.int .u64 d :: (shipsL S ++ (sl :: .int .i64 ver :: seatsL D))) ++ (seatL t ++ seatsL E)).toArray := fun t => by
    simp [stateC, stateL, seatsL_append, seatsL_cons]
  rw [e z, e t]
  exact splice_mid _ _ _ _ _ (by simp [length_shipsL, length_seatsL, h8, hk]; omega) rfl
theorem sc_L (L' : List Sht) : stateC ⟨⟨fr, d, S, L⟩, ver, T⟩ sl = stateC ⟨⟨fr, d, S, L'⟩, ver, T⟩ sl := rfl
theorem rep_cons {α : Type} (k : Nat) (hk : k < 8) (z : α) : List.replicate (8 - k) z = z :: List.replicate (8 - (k + 1)) z := by
  rw [show 8 - k = 8 - (k + 1) + 1 by omega, List.replicate_succ]
end
end Go.Proofs.YtdopfonebpklkaaGreat.game
