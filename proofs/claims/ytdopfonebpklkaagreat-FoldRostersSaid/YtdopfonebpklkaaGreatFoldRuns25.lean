/- A list of turns as an argument. -/
import Derived.Test.YtdopfonebpklkaaGreatFoldRuns11
import Derived.Test.YtdopfonebpklkaaGreatFoldRuns23
namespace Go.Proofs.YtdopfonebpklkaaGreat.game
open Go.ChangeShapes Go.WideShapes Go.ChangeAt Go.RowKit Go.Deep dice
set_option maxRecDepth 100000

theorem co72 : Tryz.prog.cellsOf 72 = 25 := by kernel_rfl
theorem co40 : Tryz.prog.cellsOf 40 = 24 := by kernel_rfl
theorem co39' : Tryz.prog.cellsOf 39 = 3 := by kernel_rfl
section
variable {H : Type} {enc : TypeId × Value → H} {W : World} {fuel : Nat} {cs : List Value} {x : DataW H × List MemPlace}
theorem open_inp (h : TT enc W fuel 39 cs = some x) : ∃ t : Inp, cs = inpL t ∧ t.ok := by
  obtain ⟨xs, n, _, _, hlen, hxl, hfs⟩ := DataW.trod_struct Tryz.underlying39 h
  rw [co39'] at hlen
  match cs, hlen with
  | [c0, c1, c2], _ =>
    have e0 := hfs 0 _ rfl
    have e1 := hfs 1 _ rfl
    have e2 := hfs 2 _ rfl
    have g : ∀ i, i < 3 → ∃ y, xs[i]? = some y := fun i hi => ⟨xs[i]'(by rw [hxl]; exact hi), List.getElem?_eq_getElem _⟩
    obtain ⟨y0, g0⟩ := g 0 (by decide)
    obtain ⟨y1, g1⟩ := g 1 (by decide)
    obtain ⟨y2, g2⟩ := g 2 (by decide)
    rw [g0] at e0
    rw [g1] at e1
    rw [g2] at e2
    have f0 : TT enc W n 37 [c0] = some y0 := e0
    have f1 : TT enc W n 37 [c1] = some y1 := e1
    have f2 : TT enc W n 5 [c2] = some y2 := e2
    obtain ⟨a0, h0, _, w0⟩ := DataW.trod_int Tryz.underlying37 f0
    obtain ⟨a1, h1, _, w1⟩ := DataW.trod_int Tryz.underlying37 f1
    obtain ⟨a2, h2, _, w2⟩ := DataW.trod_int Tryz.underlying5 f2
    refine ⟨⟨a0, a1, a2⟩, ?_, ⟨(i8_bd w0).1, (i8_bd w0).2, (i8_bd w1).1, (i8_bd w1).2, (u8_bd w2).1, (u8_bd w2).2⟩⟩
    simp only [List.cons.injEq, and_true] at h0 h1 h2
    rw [h0, h1, h2]
    rfl
theorem open_turn (h : TT enc W fuel 72 cs = some x) : ∃ t : Trn, cs = trnL t ∧ t.ok := by
  obtain ⟨xs, n, _, _, hlen, hxl, hfs⟩ := DataW.trod_struct Tryz.underlying72 h
  rw [co72] at hlen
  have g : ∀ i, i < 2 → ∃ y, xs[i]? = some y := fun i hi => ⟨xs[i]'(by rw [hxl]; exact hi), List.getElem?_eq_getElem _⟩
  obtain ⟨y0, g0⟩ := g 0 (by decide)
  obtain ⟨y1, g1⟩ := g 1 (by decide)
  have e0 := hfs 0 _ rfl
  have e1 := hfs 1 _ rfl
  rw [g0] at e0
  rw [g1] at e1
  have f0 : TT enc W n 3 ((cs.drop 0).take 1) = some y0 := e0
  have f1 : TT enc W n 40 ((cs.drop 1).take 24) = some y1 := e1
  obtain ⟨p, h0, _, w0⟩ := DataW.trod_int Tryz.underlying3 f0
  obtain ⟨ys, m, _, _, hl2, hyl, hys⟩ := DataW.trod_array Tryz.underlying40 f1
  obtain ⟨T, hT, hc, hTw⟩ := chunks inpL 3 Inp.ok 8 ((cs.drop 1).take 24) (by rw [hl2, co40]) (fun i hi => by
    have e := hys i hi
    rw [co39'] at e
    obtain ⟨y, hy⟩ : ∃ y, ys[i]? = some y := ⟨ys[i]'(by rw [hyl]; exact hi), List.getElem?_eq_getElem _⟩
    rw [hy] at e
    exact open_inp e)
  refine ⟨⟨p, T⟩, ?_, ⟨hT, hTw, w0⟩⟩
  have hcs : cs = (cs.drop 0).take 1 ++ (cs.drop 1).take 24 := by
    have e3 : (cs.drop 1).take 24 = cs.drop 1 := List.take_of_length_le (by rw [List.length_drop, hlen]; omega)
    have a1 : (cs.drop 0).take 1 ++ cs.drop 1 = cs := by rw [List.drop_zero]; exact List.take_append_drop ..
    rw [e3, a1]
  rw [hcs, h0, hc]
  rfl
theorem open_turns {a0 : Option Addr} {len cap : Nat} {d : DataW H} {ps : List MemPlace} (h : DataW.Trod enc Tryz.prog W 0 (fun _ => true) true 51 (.slice a0 len cap) d ps) :
    len ≤ maxLen ∧ ∃ L : List Trn, L.length = len ∧ (∀ t ∈ L, t.ok) ∧ TrnW W (.slice a0 len cap) L := by
  obtain ⟨fuel, hf⟩ := h
  rcases open_slice Tryz.underlying51 hf with ⟨hcs, hx⟩ | ⟨a, len', cap', m, n, D, Pl, hcs, _, hl, hm, hmm, hx, hel⟩
  · simp [Value.cells] at hcs
    obtain ⟨rfl, rfl, rfl⟩ := hcs
    exact ⟨Nat.zero_le _, [], rfl, fun _ h => by simp at h, .inl ⟨rfl, _, _, rfl⟩⟩
  · simp [Value.cells] at hcs
    obtain ⟨rfl, rfl, rfl⟩ := hcs
    simp only [if_true] at hmm
    refine ⟨by omega, ?_⟩
    rw [co72] at hel
    have hone : ∀ k, k < len → ∃ t : Trn, t.ok ∧ ∀ j v, (trnL t)[j]? = some v → W.cell? (a.add (k * 25 + j)) = some v := by
      intro k hk
      obtain ⟨cs', hc, ht⟩ := hel k (by omega)
      obtain ⟨t, rfl, hw⟩ := open_turn ht
      obtain ⟨_, _, hat⟩ := World.cells?_some hc
      refine ⟨t, hw, fun j v hj => ?_⟩
      have hj6 : j < 25 := by
        have := (List.getElem?_eq_some_iff.1 hj).1
        unfold trnL at this
        rw [List.length_cons, length_ins, hw.i8] at this
        omega
      have := hat j hj6
      rw [add_add] at this
      rw [this]
      exact hj
    obtain ⟨L, hLl, hL⟩ := pick_listG len _ hone
    refine ⟨L, hLl, fun s hs => ?_, ?_⟩
    · obtain ⟨k, hk⟩ := List.mem_iff_getElem?.1 hs
      exact (hL k s hk).1
    · by_cases h0 : len = 0
      · subst h0
        exact .inl ⟨List.length_eq_zero_iff.1 hLl, _, _, rfl⟩
      · obtain ⟨b, o, np⟩ := a
        obtain ⟨s0, _, h00⟩ := hone 0 (by omega)
        have h00 := h00 0 _ rfl
        have hnp : np = none := by simpa [Addr.add] using World.cell?_spot h00
        subst hnp
        have a1 : ∀ i, (⟨b, o, none⟩ : Addr).add i = ⟨b, o + i, none⟩ := fun i => by unfold Addr.add; split <;> simp_all
        refine .inr ⟨b, o, cap, by rw [hLl], ?_, fun k t ht j u hu => ?_⟩
        · have := World.block_lt_of_cell? W _ h00
          rw [a1] at this; exact this
        · have := (hL k t ht).2 j u hu
          rw [a1] at this
          rw [Nat.add_assoc]
          exact this
end
end Go.Proofs.YtdopfonebpklkaaGreat.game
