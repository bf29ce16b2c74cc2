/- A state as an argument. -/
import Derived.Test.YtdopfonebpklkaaSi
import Derived.OpenShut
import Derived.Deep.Slices
import Derived.Deep.Fields
import Derived.ChangeSame
namespace Go.Proofs.Ytdopfonebpklkaa.game
open Go.ChangeShapes Go.WideShapes Go.ChangeAt Go.RowKit Go.Deep dice
set_option maxRecDepth 100000

theorem co79 : Try.prog.cellsOf 75 = 6 := by kernel_rfl
theorem co24 : Try.prog.cellsOf 29 = 7 := by kernel_rfl
theorem co25 : Try.prog.cellsOf 30 = 56 := by kernel_rfl
theorem co30 : Try.prog.cellsOf 35 = 2 := by kernel_rfl
theorem co31 : Try.prog.cellsOf 36 = 16 := by kernel_rfl
theorem co28 : Try.prog.cellsOf 33 = 59 := by kernel_rfl
theorem co33 : Try.prog.cellsOf 38 = 17 := by kernel_rfl
theorem co35 : Try.prog.cellsOf 40 = 76 := by kernel_rfl
theorem co3 : Try.prog.cellsOf 3 = 1 := by kernel_rfl
theorem co4 : Try.prog.cellsOf 4 = 1 := by kernel_rfl
theorem co21 : Try.prog.cellsOf 21 = 1 := by kernel_rfl
theorem co22 : Try.prog.cellsOf 27 = 1 := by kernel_rfl
theorem co26 : Try.prog.cellsOf 31 = 1 := by kernel_rfl
theorem chunks {α : Type} (f : α → List Value) (m : Nat) (P : α → Prop) : ∀ (n : Nat) (cs : List Value), cs.length = n * m → (∀ i, i < n → ∃ a, (cs.drop (i * m)).take m = f a ∧ P a) → ∃ l : List α, l.length = n ∧ cs = l.flatMap f ∧ ∀ a ∈ l, P a
  | 0, cs, h, _ => ⟨[], rfl, by simpa using List.length_eq_zero_iff.1 (by simpa using h), fun a ha => by simp at ha⟩
  | n + 1, cs, h, hi => by
    obtain ⟨a, ha, hP⟩ := hi 0 (by omega)
    rw [Nat.zero_mul, List.drop_zero] at ha
    obtain ⟨l, hl, hc, hl'⟩ := chunks f m P n (cs.drop m) (by rw [List.length_drop, h, Nat.succ_mul]; omega) (fun i hin => by
      obtain ⟨b, hb, hPb⟩ := hi (i + 1) (by omega)
      refine ⟨b, ?_, hPb⟩
      rw [List.drop_drop, show m + i * m = (i + 1) * m by rw [Nat.succ_mul]; omega]
      exact hb)
    refine ⟨a :: l, by rw [List.length_cons, hl], ?_, fun b hb => ?_⟩
    · rw [List.flatMap_cons, ← ha, ← hc, List.take_append_drop]
    · rcases List.mem_cons.1 hb with rfl | hb
      · exact hP
      · exact hl' b hb
section
variable {H : Type} {enc : TypeId × Value → H} {W : World} {fuel : Nat} {cs : List Value} {x : DataW H × List MemPlace}
noncomputable abbrev TT (enc : TypeId × Value → H) (W : World) (fuel : Nat) (t : TypeId) (cs : List Value) := DataW.trod enc Try.prog W 0 (fun _ => true) true fuel t cs
theorem open_ship (h : TT enc W fuel 29 cs = some x) : ∃ t : Shp, cs = shipL t ∧ t.wf := by
  obtain ⟨xs, n, _, _, hlen, hxl, hfs⟩ := DataW.trod_struct Try.underlying29 h
  rw [co24] at hlen
  match cs, hlen with
  | [c0, c1, c2, c3, c4, c5, c6], _ =>
    have e0 := hfs 0 _ rfl
    have e1 := hfs 1 _ rfl
    have e2 := hfs 2 _ rfl
    have e3 := hfs 3 _ rfl
    have e4 := hfs 4 _ rfl
    have e5 := hfs 5 _ rfl
    have e6 := hfs 6 _ rfl
    have g : ∀ i, i < 7 → ∃ y, xs[i]? = some y := fun i hi => ⟨xs[i]'(by rw [hxl]; exact hi), List.getElem?_eq_getElem _⟩
    obtain ⟨y0, g0⟩ := g 0 (by decide)
    obtain ⟨y1, g1⟩ := g 1 (by decide)
    obtain ⟨y2, g2⟩ := g 2 (by decide)
    obtain ⟨y3, g3⟩ := g 3 (by decide)
    obtain ⟨y4, g4⟩ := g 4 (by decide)
    obtain ⟨y5, g5⟩ := g 5 (by decide)
    obtain ⟨y6, g6⟩ := g 6 (by decide)
    rw [g0] at e0
    rw [g1] at e1
    rw [g2] at e2
    rw [g3] at e3
    rw [g4] at e4
    rw [g5] at e5
    rw [g6] at e6
    have f0 : TT enc W n 4 [c0] = some y0 := e0
    have f1 : TT enc W n 21 [c1] = some y1 := e1
    have f2 : TT enc W n 21 [c2] = some y2 := e2
    have f3 : TT enc W n 21 [c3] = some y3 := e3
    have f4 : TT enc W n 21 [c4] = some y4 := e4
    have f5 : TT enc W n 3 [c5] = some y5 := e5
    have f6 : TT enc W n 3 [c6] = some y6 := e6
    obtain ⟨o, ho, _⟩ := DataW.trod_bool Try.underlying4 f0
    obtain ⟨a1, h1, _, w1⟩ := DataW.trod_int Try.underlying21 f1
    obtain ⟨a2, h2, _, w2⟩ := DataW.trod_int Try.underlying21 f2
    obtain ⟨a3, h3, _, w3⟩ := DataW.trod_int Try.underlying21 f3
    obtain ⟨a4, h4, _, w4⟩ := DataW.trod_int Try.underlying21 f4
    obtain ⟨a5, h5, _, w5⟩ := DataW.trod_int Try.underlying3 f5
    obtain ⟨a6, h6, _, w6⟩ := DataW.trod_int Try.underlying3 f6
    refine ⟨⟨o, a1, a2, a3, a4, a5, a6⟩, ?_, ⟨w1, w2, w3, w4, w5, w6⟩⟩
    simp only [List.cons.injEq, and_true] at ho h1 h2 h3 h4 h5 h6
    rw [ho, h1, h2, h3, h4, h5, h6]
    rfl
theorem open_shot (h : TT enc W fuel 75 cs = some x) : ∃ t : Sht, cs = shotL t ∧ t.wf := by
  obtain ⟨xs, n, _, _, hlen, hxl, hfs⟩ := DataW.trod_struct Try.underlying75 h
  rw [co79] at hlen
  match cs, hlen with
  | [c0, c1, c2, c3, c4, c5], _ =>
    have e0 := hfs 0 _ rfl
    have e1 := hfs 1 _ rfl
    have e2 := hfs 2 _ rfl
    have e3 := hfs 3 _ rfl
    have e4 := hfs 4 _ rfl
    have e5 := hfs 5 _ rfl
    have g : ∀ i, i < 6 → ∃ y, xs[i]? = some y := fun i hi => ⟨xs[i]'(by rw [hxl]; exact hi), List.getElem?_eq_getElem _⟩
    obtain ⟨y0, g0⟩ := g 0 (by decide)
    obtain ⟨y1, g1⟩ := g 1 (by decide)
    obtain ⟨y2, g2⟩ := g 2 (by decide)
    obtain ⟨y3, g3⟩ := g 3 (by decide)
    obtain ⟨y4, g4⟩ := g 4 (by decide)
    obtain ⟨y5, g5⟩ := g 5 (by decide)
    rw [g0] at e0
    rw [g1] at e1
    rw [g2] at e2
    rw [g3] at e3
    rw [g4] at e4
    rw [g5] at e5
    have f0 : TT enc W n 3 [c0] = some y0 := e0
    have f1 : TT enc W n 21 [c1] = some y1 := e1
    have f2 : TT enc W n 21 [c2] = some y2 := e2
    have f3 : TT enc W n 21 [c3] = some y3 := e3
    have f4 : TT enc W n 21 [c4] = some y4 := e4
    have f5 : TT enc W n 3 [c5] = some y5 := e5
    obtain ⟨a0, h0, _, w0⟩ := DataW.trod_int Try.underlying3 f0
    obtain ⟨a1, h1, _, w1⟩ := DataW.trod_int Try.underlying21 f1
    obtain ⟨a2, h2, _, w2⟩ := DataW.trod_int Try.underlying21 f2
    obtain ⟨a3, h3, _, w3⟩ := DataW.trod_int Try.underlying21 f3
    obtain ⟨a4, h4, _, w4⟩ := DataW.trod_int Try.underlying21 f4
    obtain ⟨a5, h5, _, w5⟩ := DataW.trod_int Try.underlying3 f5
    refine ⟨⟨a0, a1, a2, a3, a4, a5⟩, ?_, ⟨w1, w2, w3, w4, w0, w5⟩⟩
    simp only [List.cons.injEq, and_true] at h0 h1 h2 h3 h4 h5
    rw [h0, h1, h2, h3, h4, h5]
    rfl
theorem open_seat (h : TT enc W fuel 35 cs = some x) : ∃ t : Seat, cs = seatL t ∧ (Lit.int .i64 t.peer).wf = true ∧ (Lit.int .i64 t.gen).wf = true := by
  obtain ⟨xs, n, _, _, hlen, hxl, hfs⟩ := DataW.trod_struct Try.underlying35 h
  rw [co30] at hlen
  match cs, hlen with
  | [c0, c1], _ =>
    have e0 := hfs 0 _ rfl
    have e1 := hfs 1 _ rfl
    have g : ∀ i, i < 2 → ∃ y, xs[i]? = some y := fun i hi => ⟨xs[i]'(by rw [hxl]; exact hi), List.getElem?_eq_getElem _⟩
    obtain ⟨y0, g0⟩ := g 0 (by decide)
    obtain ⟨y1, g1⟩ := g 1 (by decide)
    rw [g0] at e0
    rw [g1] at e1
    have f0 : TT enc W n 3 [c0] = some y0 := e0
    have f1 : TT enc W n 3 [c1] = some y1 := e1
    obtain ⟨a0, h0, _, w0⟩ := DataW.trod_int Try.underlying3 f0
    obtain ⟨a1, h1, _, w1⟩ := DataW.trod_int Try.underlying3 f1
    refine ⟨⟨a0, a1⟩, ?_, w0, w1⟩
    simp only [List.cons.injEq, and_true] at h0 h1
    rw [h0, h1]
    rfl
theorem pick_listG {α : Type} (n : Nat) (f : Nat → α → Prop) (h : ∀ i, i < n → ∃ a, f i a) : ∃ l : List α, l.length = n ∧ ∀ i a, l[i]? = some a → f i a := by
  induction n with
  | zero => exact ⟨[], rfl, fun i a hi => by simp at hi⟩
  | succ n ih =>
    obtain ⟨l, hl, hf⟩ := ih (fun i hi => h i (by omega))
    obtain ⟨a, ha⟩ := h n (by omega)
    refine ⟨l ++ [a], by simp [hl], fun i b hi => ?_⟩
    by_cases e : i < n
    · rw [List.getElem?_append_left (by omega)] at hi
      exact hf i b hi
    · rw [List.getElem?_append_right (by omega), hl] at hi
      by_cases e2 : i - n = 0
      · rw [e2] at hi
        simp at hi
        subst hi
        rw [show i = n by omega]
        exact ha
      · rw [List.getElem?_eq_none (by simp; omega)] at hi
        cases hi
theorem cellsL_inv : ∀ (L : List Sht) (j : Nat) (v : Value), (cellsL L)[j]? = some v → ∃ s, L[j / 6]? = some s ∧ (shotL s)[j % 6]? = some v
  | [], j, v, h => by simp [cellsL] at h
  | s :: L, j, v, h => by
    unfold cellsL at h
    rw [List.flatMap_cons] at h
    have hl : (shotL s).length = 6 := rfl
    by_cases e : j < 6
    · rw [List.getElem?_append_left (by omega)] at h
      exact ⟨s, by rw [Nat.div_eq_of_lt e]; rfl, by rw [Nat.mod_eq_of_lt e]; exact h⟩
    · rw [List.getElem?_append_right (by omega), hl] at h
      obtain ⟨s', h1, h2⟩ := cellsL_inv L (j - 6) v h
      refine ⟨s', ?_, ?_⟩
      · rw [show j / 6 = (j - 6) / 6 + 1 by omega, List.getElem?_cons_succ]
        exact h1
      · rw [show j % 6 = (j - 6) % 6 by omega]
        exact h2
theorem open_shots (h : TT enc W fuel 31 cs = some x) : ∃ (sl : Value) (L : List Sht), cs = [sl] ∧ L.length ≤ maxLen ∧ (∀ t ∈ L, t.wf) ∧ ShotsW W sl L := by
  rcases open_slice Try.underlying31 h with ⟨hcs, hx⟩ | ⟨a, len, cap, m, n, D, Pl, hcs, _, hl, hm, hmm, hx, hel⟩
  · exact ⟨_, [], hcs, Nat.zero_le _, fun _ h => by simp at h, .inl ⟨rfl, none, 0, rfl⟩⟩
  · simp only [if_true] at hmm
    rw [co79] at hel
    have hone : ∀ k, k < len → ∃ s : Sht, s.wf ∧ ∀ j v, (shotL s)[j]? = some v → W.cell? (a.add (k * 6 + j)) = some v := by
      intro k hk
      obtain ⟨cs', hc, ht⟩ := hel k (by omega)
      obtain ⟨s, rfl, hw⟩ := open_shot ht
      obtain ⟨_, _, hat⟩ := World.cells?_some hc
      refine ⟨s, hw, fun j v hj => ?_⟩
      have hj6 : j < 6 := (List.getElem?_eq_some_iff.1 hj).1
      have := hat j hj6
      rw [add_add] at this
      rw [this]
      exact hj
    obtain ⟨L, hLl, hL⟩ := pick_listG len _ hone
    refine ⟨_, L, hcs, by omega, fun s hs => ?_, ?_⟩
    · obtain ⟨k, hk⟩ := List.mem_iff_getElem?.1 hs
      exact (hL k s hk).1
    · by_cases h0 : len = 0
      · subst h0
        exact .inl ⟨List.length_eq_zero_iff.1 hLl, _, _, rfl⟩
      · obtain ⟨b, o, np⟩ := a
        obtain ⟨s0, _, h00⟩ := hone 0 (by omega)
        have h00 := h00 0 _ rfl
        have hnp : np = none := by simpa [Addr.add] using World.cell?_spot h00
        subst hnp
        have a1 : ∀ i, (⟨b, o, none⟩ : Addr).add i = ⟨b, o + i, none⟩ := fun i => by unfold Addr.add; split <;> simp_all
        refine .inr ⟨b, o, cap, by rw [hLl], ?_, fun j v hv => ?_⟩
        · have := World.block_lt_of_cell? W _ h00
          rw [a1] at this; exact this
        · obtain ⟨s, hs, hv'⟩ := cellsL_inv L j v hv
          have := (hL _ s hs).2 _ v hv'
          rw [a1] at this
          rw [show j = j / 6 * 6 + j % 6 by omega]
          exact this
theorem open_game (h : TT enc W fuel 33 cs = some x) : ∃ (g : Gme) (sl : Value), cs = (gameC g.fr g.d g.S sl).toList ∧ g.wf ∧ g.L.length ≤ maxLen ∧ ShotsW W sl g.L := by
  obtain ⟨xs, n, _, _, hlen, hxl, hfs⟩ := DataW.trod_struct Try.underlying33 h
  rw [co28] at hlen
  have g : ∀ i, i < 4 → ∃ y, xs[i]? = some y := fun i hi => ⟨xs[i]'(by rw [hxl]; exact hi), List.getElem?_eq_getElem _⟩
  obtain ⟨y0, g0⟩ := g 0 (by decide)
  obtain ⟨y1, g1⟩ := g 1 (by decide)
  obtain ⟨y2, g2⟩ := g 2 (by decide)
  obtain ⟨y3, g3⟩ := g 3 (by decide)
  have e0 := hfs 0 _ rfl
  have e1 := hfs 1 _ rfl
  have e2 := hfs 2 _ rfl
  have e3 := hfs 3 _ rfl
  rw [g0] at e0
  rw [g1] at e1
  rw [g2] at e2
  rw [g3] at e3
  have f0 : TT enc W n 3 ((cs.drop 0).take 1) = some y0 := e0
  have f1 : TT enc W n 27 ((cs.drop 1).take 1) = some y1 := e1
  have f2 : TT enc W n 30 ((cs.drop 2).take 56) = some y2 := e2
  have f3 : TT enc W n 31 ((cs.drop 58).take 1) = some y3 := e3
  obtain ⟨fr, h0, _, w0⟩ := DataW.trod_int Try.underlying3 f0
  obtain ⟨d, h1, _, w1⟩ := DataW.trod_int Try.underlying27 f1
  obtain ⟨ys, m, _, _, hl2, hyl, hys⟩ := DataW.trod_array Try.underlying30 f2
  obtain ⟨sl, L, h3, hm, hw, hin⟩ := open_shots f3
  obtain ⟨S, hS, hc, hSw⟩ := chunks shipL 7 Shp.wf 8 ((cs.drop 2).take 56) (by rw [hl2, co25]) (fun i hi => by
    have e := hys i hi
    rw [co24] at e
    obtain ⟨y, hy⟩ : ∃ y, ys[i]? = some y := ⟨ys[i]'(by rw [hyl]; exact hi), List.getElem?_eq_getElem _⟩
    rw [hy] at e
    exact open_ship e)
  refine ⟨⟨fr, d, S, L⟩, sl, ?_, ⟨w0, w1, hS, hSw, hw⟩, hm, hin⟩
  have hcs : cs = (cs.drop 0).take 1 ++ ((cs.drop 1).take 1 ++ ((cs.drop 2).take 56 ++ (cs.drop 58).take 1)) := by
    have e3 : (cs.drop 58).take 1 = cs.drop 58 := List.take_of_length_le (by rw [List.length_drop, hlen]; omega)
    have a3 : (cs.drop 2).take 56 ++ cs.drop 58 = cs.drop 2 := by rw [show cs.drop 58 = (cs.drop 2).drop 56 by rw [List.drop_drop]]; exact List.take_append_drop ..
    have a2 : (cs.drop 1).take 1 ++ cs.drop 2 = cs.drop 1 := by rw [show cs.drop 2 = (cs.drop 1).drop 1 by rw [List.drop_drop]]; exact List.take_append_drop ..
    have a1 : (cs.drop 0).take 1 ++ cs.drop 1 = cs := by rw [List.drop_zero]; exact List.take_append_drop ..
    rw [e3, a3, a2, a1]
  rw [hcs, h0, h1, hc, h3]
  rfl
theorem open_roster (h : TT enc W fuel 38 cs = some x) : ∃ (ver : Int) (T : List Seat), cs = (rosterC ver T).toList ∧ T.length = 8 ∧ (Lit.int .i64 ver).wf = true ∧ ∀ q ∈ T, (Lit.int .i64 q.peer).wf = true ∧ (Lit.int .i64 q.gen).wf = true := by
  obtain ⟨xs, n, _, _, hlen, hxl, hfs⟩ := DataW.trod_struct Try.underlying38 h
  rw [co33] at hlen
  have g : ∀ i, i < 2 → ∃ y, xs[i]? = some y := fun i hi => ⟨xs[i]'(by rw [hxl]; exact hi), List.getElem?_eq_getElem _⟩
  obtain ⟨y0, g0⟩ := g 0 (by decide)
  obtain ⟨y1, g1⟩ := g 1 (by decide)
  have e0 := hfs 0 _ rfl
  have e1 := hfs 1 _ rfl
  rw [g0] at e0
  rw [g1] at e1
  have f0 : TT enc W n 3 ((cs.drop 0).take 1) = some y0 := e0
  have f1 : TT enc W n 36 ((cs.drop 1).take 16) = some y1 := e1
  obtain ⟨ver, h0, _, w0⟩ := DataW.trod_int Try.underlying3 f0
  obtain ⟨ys, m, _, _, hl2, hyl, hys⟩ := DataW.trod_array Try.underlying36 f1
  obtain ⟨T, hT, hc, hTw⟩ := chunks seatL 2 (fun t => (Lit.int .i64 t.peer).wf = true ∧ (Lit.int .i64 t.gen).wf = true) 8 ((cs.drop 1).take 16) (by rw [hl2, co31]) (fun i hi => by
    have e := hys i hi
    rw [co30] at e
    obtain ⟨y, hy⟩ : ∃ y, ys[i]? = some y := ⟨ys[i]'(by rw [hyl]; exact hi), List.getElem?_eq_getElem _⟩
    rw [hy] at e
    exact open_seat e)
  refine ⟨ver, T, ?_, hT, w0, hTw⟩
  have hcs : cs = (cs.drop 0).take 1 ++ (cs.drop 1).take 16 := by
    have e3 : (cs.drop 1).take 16 = cs.drop 1 := List.take_of_length_le (by rw [List.length_drop, hlen]; omega)
    have a1 : (cs.drop 0).take 1 ++ cs.drop 1 = cs := by rw [List.drop_zero]; exact List.take_append_drop ..
    rw [e3, a1]
  rw [hcs, h0, hc]
  rfl
theorem stateL_split (g : Gme) (ver : Int) (T : List Seat) (sl : Value) : stateL ⟨g, ver, T⟩ sl = (gameC g.fr g.d g.S sl).toList ++ (rosterC ver T).toList := by
  simp [stateL, gameC, rosterC]
/-- The state, as it comes in. -/
structure Ste.wf (s : Ste) : Prop where
  g : s.g.wf
  ver : (Lit.int .i64 s.ver).wf = true
  t8 : s.T.length = 8
  seats : ∀ q ∈ s.T, (Lit.int .i64 q.peer).wf = true ∧ (Lit.int .i64 q.gen).wf = true
theorem open_state {d : DataW H} {ps : List MemPlace} {cs : Array Value} (h : DataW.Trod enc Try.prog W 0 (fun _ => true) true 40 (.agg cs) d ps) : ∃ (s : Ste) (sl : Value), cs = stateC s sl ∧ s.wf ∧ s.g.L.length ≤ maxLen ∧ ShotsW W sl s.g.L := by
  obtain ⟨fuel, hf⟩ := h
  have hf' : TT enc W fuel 40 cs.toList = some (d, ps) := hf
  obtain ⟨xs, n, _, _, hlen, hxl, hfs⟩ := DataW.trod_struct Try.underlying40 hf'
  rw [co35] at hlen
  have g : ∀ i, i < 2 → ∃ y, xs[i]? = some y := fun i hi => ⟨xs[i]'(by rw [hxl]; exact hi), List.getElem?_eq_getElem _⟩
  obtain ⟨y0, g0⟩ := g 0 (by decide)
  obtain ⟨y1, g1⟩ := g 1 (by decide)
  have e0 := hfs 0 _ rfl
  have e1 := hfs 1 _ rfl
  rw [g0] at e0
  rw [g1] at e1
  have f0 : TT enc W n 33 ((cs.toList.drop 0).take 59) = some y0 := e0
  have f1 : TT enc W n 38 ((cs.toList.drop 59).take 17) = some y1 := e1
  obtain ⟨gm, sl, h0, hw, hm, hin⟩ := open_game f0
  obtain ⟨ver, T, h1, hT, hv, hs⟩ := open_roster f1
  refine ⟨⟨gm, ver, T⟩, sl, ?_, ⟨hw, hv, hT, hs⟩, hm, hin⟩
  have hcs : cs.toList = (cs.toList.drop 0).take 59 ++ (cs.toList.drop 59).take 17 := by
    have e3 : (cs.toList.drop 59).take 17 = cs.toList.drop 59 := List.take_of_length_le (by rw [List.length_drop, hlen]; omega)
    have a1 : (cs.toList.drop 0).take 59 ++ cs.toList.drop 59 = cs.toList := by rw [List.drop_zero]; exact List.take_append_drop ..
    rw [e3, a1]
  have : cs.toList = stateL ⟨gm, ver, T⟩ sl := by rw [hcs, h0, h1, stateL_split]
  unfold stateC
  rw [← this, Array.toArray_toList]
end
end Go.Proofs.Ytdopfonebpklkaa.game
