/- Guarded operations in a region that draws: moves, rows, calls that make memory, what is not wanted. A state as an argument. The document's answer: are two states the same? The document's answer: Same, over any two states. -/
import Derived.Test.YtdopfonebpklkaaGreatFoldRuns10
import Derived.Test.YtdopfonebpklkaaGreatFoldRuns06
import Derived.OpenShut
import Derived.Deep.Slices
import Derived.Deep.Fields
import Derived.ChangeSame
import Derived.Test.YtdopfonebpklkaaGreatFoldRuns09
namespace Go.Proofs.YtdopfonebpklkaaGreat.game
open Go Go.ChangeShapes Go.WideShapes Go.ChangeAt Go.RowKit
set_option maxRecDepth 100000

section
variable {P : Program} {ops : Array Oper} {Q : Exit → Act → World → Prop}
variable {T : Facts} {fuel : Nat} {listed : Array Bool} {a : Act} {w : World}
theorem Gv_move (k : Nat) {o : Oper} (hQ : ∀ (d : Option Tmp) v c a w, Q (.panic c) (a.put d v) w → Q (.panic c) a w) (hs : Region.noSelect ops = true) (hi : ops[k]? = some o) (x : Operand) (ho : o.op = .move x) (hw : Region.wanted o (yielded ops a.tmps) = true) (dst : Option Tmp) (hd : o.dst = dst)
    (hf : Region.free .any ops listed k = true) (hr : (Region.ready .any ops listed).contains k = true) (hT : ∀ t ∈ T, t.2.2 ≠ k) (v : Value) (hv : a.eval x = v)
    (h : Gs P ops Q T fuel (listed.setIfInBounds k true) (a.put dst v) w) : Gs P ops Q T (fuel + 1) listed a w :=
  Gs_take (v := v) (fun _ => True) k hQ hi hs hf hr hT (fun _ _ _ _ _ => trivial) (.inl ⟨hw, fun w _ => by unfold execOp; rw [ho, ← hv]; rfl⟩) (by rw [hd]; exact h)
/-- An operation that reads a row and yields a value. -/
theorem Gv_row (k d : Nat) {o : Oper} (hQ : ∀ (d : Option Tmp) v c a w, Q (.panic c) (a.put d v) w → Q (.panic c) a w) (hs : Region.noSelect ops = true) (hi : ops[k]? = some o) (hw : Region.wanted o (yielded ops a.tmps) = true) (dst : Option Tmp) (hd : o.dst = dst)
    (hf : Region.free .any ops listed k = true) (hr : (Region.ready .any ops listed).contains k = true) (hT : ∀ t ∈ T, t.2.2 ≠ k) (b p : Nat) (vs : List Value)
    (hm : ∀ j v, vs[j]? = some v → ((⟨b, p + j, none⟩ : Addr), v, d) ∈ T) (hwf : Region.waitsFor .any ops d k = true) (v : Value) (hrun : ∀ w : World, w.rangeAt b p vs → (execOp a.eval o).run P w = .ok (.value v) w)
    (h : Gs P ops Q T fuel (listed.setIfInBounds k true) (a.put dst v) w) : Gs P ops Q T (fuel + 1) listed a w := by
  refine Gs_take (v := v) (fun w => w.rangeAt b p vs) k hQ hi hs hf hr hT (fun listed w inv hk hh => ?_) (.inl ⟨hw, fun w hc => hrun w hc⟩) (by rw [hd]; exact h)
  obtain ⟨od, hod, e, he, hb, hon⟩ := Region.waitsFor_spec hwf
  have hlt : d < listed.size := by rw [inv.size]; exact (Array.getElem?_eq_some_iff.1 hod).1
  have hopen : listed.getD d true = false := by
    cases hl : listed.getD d false with
    | true =>
      have := inv.closed d od hod hl e he hb
      rw [hon, getD_both hk] at this
      cases this
    | false => exact getD_in hlt hl
  intro j v hj
  exact hh _ (hm j v hj) hopen
/-- A call that makes memory, alone ready. -/
theorem Gv_callB (k : Nat) {o : Oper} (hi : ops[k]? = some o) (hr : Region.ready .any ops listed = [k]) (dst : Option Tmp) (hd : o.dst = dst) (hw : Region.wanted o (yielded ops a.tmps) = true) (f : FuncId) (vs : Array Value) (hrun : (execOp a.eval o).run P w = .ok (.enter f vs) w)
    {R : Ending → World → Prop} (hc : Calls P f vs w R)
    (h : ∀ e w', R e w' → ∃ v, e = .returned v ∧ Below w.heap.size w w' ∧ Gs P ops Q T fuel (listed.setIfInBounds k true) (a.put dst v) w') : Gs P ops Q T (fuel + 1) listed a w := by
  intro inv hh
  have hr' : k ∈ Region.ready .any ops listed := by rw [hr]; simp
  refine ⟨fun h0 => (by rw [h0] at hr'; cases hr'), fun i hik => ?_⟩
  rw [hr] at hik
  obtain rfl : i = k := by simpa using hik
  have hsz : i < listed.size := by rw [inv.size]; exact (Array.getElem?_eq_some_iff.1 hi).1
  have hh' : Held T (listed.setIfInBounds i true) w := hh.later hsz
  unfold wpOp
  simp only [hi]
  rw [if_pos hw]
  refine .inl ?_
  unfold Oper.wp
  rw [hrun]
  subst hd
  refine Calls.mono hc fun e w' hR => ?_
  obtain ⟨v, rfl, hb, hG⟩ := h e w' hR
  have hw' := hh'.below hb
  exact ⟨hw', hG (inv.set hr') hw'⟩
/-- A guarded operation that is not wanted. -/
theorem Gv_skip (k : Nat) {o : Oper} (hQ : ∀ (d : Option Tmp) v c a w, Q (.panic c) (a.put d v) w → Q (.panic c) a w) (hs : Region.noSelect ops = true) (hi : ops[k]? = some o) (hw : Region.wanted o (yielded ops a.tmps) = false) (dst : Option Tmp) (hd : o.dst = dst)
    (hf : Region.free .any ops listed k = true) (hr : (Region.ready .any ops listed).contains k = true) (hT : ∀ t ∈ T, t.2.2 ≠ k)
    (h : Gs P ops Q T fuel (listed.setIfInBounds k true) (a.put dst undef) w) : Gs P ops Q T (fuel + 1) listed a w :=
  Gs_take (v := undef) (fun _ => True) k hQ hi hs hf hr hT (fun _ _ _ _ _ => trivial) (.inr ⟨hw, rfl⟩) (by rw [hd]; exact h)
/-- An operation that only computes. -/
theorem Gv_bin (k : Nat) {o : Oper} (hQ : ∀ (d : Option Tmp) v c a w, Q (.panic c) (a.put d v) w → Q (.panic c) a w) (hs : Region.noSelect ops = true) (hi : ops[k]? = some o) (hw : Region.wanted o (yielded ops a.tmps) = true) (dst : Option Tmp) (hd : o.dst = dst)
    (hf : Region.free .any ops listed k = true) (hr : (Region.ready .any ops listed).contains k = true) (hT : ∀ t ∈ T, t.2.2 ≠ k) (v : Value) (hrun : ∀ w, (execOp a.eval o).run P w = .ok (.value v) w)
    (h : Gs P ops Q T fuel (listed.setIfInBounds k true) (a.put dst v) w) : Gs P ops Q T (fuel + 1) listed a w :=
  Gs_take (v := v) (fun _ => True) k hQ hi hs hf hr hT (fun _ _ _ _ _ => trivial) (.inl ⟨hw, fun w _ => hrun w⟩) (by rw [hd]; exact h)
/-- d waits for k by a chain. -/
def chainB (ops : Array Oper) : Nat → List Nat → Nat → Bool
  | d, [], k => Region.waitsFor .any ops d k
  | d, m :: ms, k => Region.waitsFor .any ops d m && chainB ops m ms k
theorem chain_one {listed : Array Bool} {d k : Nat} (h : Region.waitsFor .any ops d k = true) (inv : Closed .any ops listed) (hk : listed.getD k true = false) : listed.getD d true = false := by
  obtain ⟨od, hod, e, he, hb, hon⟩ := Region.waitsFor_spec h
  have hlt : d < listed.size := by rw [inv.size]; exact (Array.getElem?_eq_some_iff.1 hod).1
  cases hl : listed.getD d false with
  | true =>
    have := inv.closed d od hod hl e he hb
    rw [hon, getD_both hk] at this
    cases this
  | false => exact getD_in hlt hl
theorem chain_open {listed : Array Bool} : ∀ (ms : List Nat) (d k : Nat), chainB ops d ms k = true → Closed .any ops listed → listed.getD k true = false → listed.getD d true = false
  | [], _, _, h, inv, hk => chain_one h inv hk
  | m :: ms, d, k, h, inv, hk => by
    unfold chainB at h
    rw [Bool.and_eq_true] at h
    exact chain_one h.1 inv (chain_open ms m k h.2 inv hk)
theorem Gv_loadC (k d : Nat) (ms : List Nat) {o : Oper} (hQ : ∀ (d : Option Tmp) v c a w, Q (.panic c) (a.put d v) w → Q (.panic c) a w) (hs : Region.noSelect ops = true) (hi : ops[k]? = some o) (ty : TypeId) (x : Operand) (ho : o.op = .load ty x) (hw : Region.wanted o (yielded ops a.tmps) = true) (dst : Option Tmp) (hd : o.dst = dst)
    (hf : Region.free .any ops listed k = true) (hr : (Region.ready .any ops listed).contains k = true) (hT : ∀ t ∈ T, t.2.2 ≠ k) (p : Addr) (hv : a.eval x = .pointer (some p)) (ha : ∀ w, (isAgg ty).run P w = .ok false w)
    (v : Value) (hm : (p, v, d) ∈ T) (hwf : chainB ops d ms k = true)
    (h : Gs P ops Q T fuel (listed.setIfInBounds k true) (a.put dst v) w) : Gs P ops Q T (fuel + 1) listed a w := by
  refine Gs_take (v := v) (fun w => w.cell? p = some v) k hQ hi hs hf hr hT (fun listed w inv hk hh => hh _ hm (chain_open ms d k hwf inv hk)) (.inl ⟨hw, fun w hc => ?_⟩) (by rw [hd]; exact h)
  unfold execOp
  rw [ho]
  simp only [hv, Sem.run_bind, Instr.loadAt, Instr.sureAddr, Sem.run_pure, Result.andThen_ok, loadVar, ha, Bool.false_eq_true, if_false, run_load, hc]
theorem Gv_loadRowC (k d : Nat) (ms : List Nat) {o : Oper} (hQ : ∀ (d : Option Tmp) v c a w, Q (.panic c) (a.put d v) w → Q (.panic c) a w) (hs : Region.noSelect ops = true) (hi : ops[k]? = some o) (ty : TypeId) (x : Operand) (ho : o.op = .load ty x) (hw : Region.wanted o (yielded ops a.tmps) = true) (dst : Option Tmp) (hd : o.dst = dst)
    (hf : Region.free .any ops listed k = true) (hr : (Region.ready .any ops listed).contains k = true) (hT : ∀ t ∈ T, t.2.2 ≠ k) (b p : Nat) (hv : a.eval x = .pointer (some ⟨b, p, none⟩)) (vs : List Value)
    (hm : ∀ j v, vs[j]? = some v → ((⟨b, p + j, none⟩ : Addr), v, d) ∈ T) (hwf : chainB ops d ms k = true) (ds : TypeDesc) (hu : P.underlying ty = some ds) (hrow : ds.isRow = true) (hsz : (P.info? ty).map (·.size) = some vs.length)
    (h : Gs P ops Q T fuel (listed.setIfInBounds k true) (a.put dst (.agg vs.toArray)) w) : Gs P ops Q T (fuel + 1) listed a w :=
  Gs_take (v := .agg vs.toArray) (fun w => w.rangeAt b p vs) k hQ hi hs hf hr hT (fun listed w inv hk hh j v hj => hh _ (hm j v hj) (chain_open ms d k hwf inv hk)) (yieldsIf_load_mid hw ty x ho b p hv vs ds (fun _ h => h) hu hrow hsz) (by rw [hd]; exact h)
end
end Go.Proofs.YtdopfonebpklkaaGreat.game
namespace Go.Proofs.YtdopfonebpklkaaGreat.game
open Go.ChangeShapes Go.WideShapes Go.ChangeAt Go.RowKit Go.Deep dice
set_option maxRecDepth 100000

theorem co79 : Tryz.prog.cellsOf 93 = 6 := by kernel_rfl
theorem co24 : Tryz.prog.cellsOf 24 = 7 := by kernel_rfl
theorem co25 : Tryz.prog.cellsOf 25 = 56 := by kernel_rfl
theorem co30 : Tryz.prog.cellsOf 30 = 2 := by kernel_rfl
theorem co31 : Tryz.prog.cellsOf 31 = 16 := by kernel_rfl
theorem co28 : Tryz.prog.cellsOf 28 = 59 := by kernel_rfl
theorem co33 : Tryz.prog.cellsOf 33 = 17 := by kernel_rfl
theorem co35 : Tryz.prog.cellsOf 35 = 76 := by kernel_rfl
theorem co3 : Tryz.prog.cellsOf 3 = 1 := by kernel_rfl
theorem co4 : Tryz.prog.cellsOf 4 = 1 := by kernel_rfl
theorem co21 : Tryz.prog.cellsOf 21 = 1 := by kernel_rfl
theorem co22 : Tryz.prog.cellsOf 22 = 1 := by kernel_rfl
theorem co26 : Tryz.prog.cellsOf 26 = 1 := by kernel_rfl
theorem chunks {α : Type} (f : α → List Value) (m : Nat) (P : α → Prop) : ∀ (n : Nat) (cs : List Value), cs.length = n * m → (∀ i, i < n → ∃ a, (cs.drop (i * m)).take m = f a ∧ P a) → ∃ l : List α, l.length = n ∧ cs = l.flatMap f ∧ ∀ a ∈ l, P a
  | 0, cs, h, _ => ⟨[], rfl, by simpa using List.length_eq_zero_iff.1 (by simpa using h), fun a ha => by simp at ha⟩
  | n + 1, cs, h, hi => by
    obtain ⟨a, ha, hP⟩ := hi 0 (by omega)
    rw [Nat.zero_mul, List.drop_zero] at ha
    obtain ⟨l, hl, hc, hl'⟩ := chunks f m P n (cs.drop m) (by rw [List.length_drop, h, Nat.succ_mul]; omega) (fun i hin => by
      obtain ⟨b, hb, hPb⟩ := hi (i + 1) (by omega)
      refine ⟨b, ?_, hPb⟩
      rw [List.drop_drop, show m + i * m = (i + 1) * m by rw [Nat.succ_mul]; omega]
      exact hb)
    refine ⟨a :: l, by rw [List.length_cons, hl], ?_, fun b hb => ?_⟩
    · rw [List.flatMap_cons, ← ha, ← hc, List.take_append_drop]
    · rcases List.mem_cons.1 hb with rfl | hb
      · exact hP
      · exact hl' b hb
section
variable {H : Type} {enc : TypeId × Value → H} {W : World} {fuel : Nat} {cs : List Value} {x : DataW H × List MemPlace}
noncomputable abbrev TT (enc : TypeId × Value → H) (W : World) (fuel : Nat) (t : TypeId) (cs : List Value) := DataW.trod enc Tryz.prog W 0 (fun _ => true) true fuel t cs
theorem open_ship (h : TT enc W fuel 24 cs = some x) : ∃ t : Shp, cs = shipL t ∧ t.wf := by
  obtain ⟨xs, n, _, _, hlen, hxl, hfs⟩ := DataW.trod_struct Tryz.underlying24 h
  rw [co24] at hlen
  match cs, hlen with
  | [c0, c1, c2, c3, c4, c5, c6], _ =>
    have e0 := hfs 0 _ rfl
    have e1 := hfs 1 _ rfl
    have e2 := hfs 2 _ rfl
    have e3 := hfs 3 _ rfl
    have e4 := hfs 4 _ rfl
    have e5 := hfs 5 _ rfl
    have e6 := hfs 6 _ rfl
    have g : ∀ i, i < 7 → ∃ y, xs[i]? = some y := fun i hi => ⟨xs[i]'(by rw [hxl]; exact hi), List.getElem?_eq_getElem _⟩
    obtain ⟨y0, g0⟩ := g 0 (by decide)
    obtain ⟨y1, g1⟩ := g 1 (by decide)
    obtain ⟨y2, g2⟩ := g 2 (by decide)
    obtain ⟨y3, g3⟩ := g 3 (by decide)
    obtain ⟨y4, g4⟩ := g 4 (by decide)
    obtain ⟨y5, g5⟩ := g 5 (by decide)
    obtain ⟨y6, g6⟩ := g 6 (by decide)
    rw [g0] at e0
    rw [g1] at e1
    rw [g2] at e2
    rw [g3] at e3
    rw [g4] at e4
    rw [g5] at e5
    rw [g6] at e6
    have f0 : TT enc W n 4 [c0] = some y0 := e0
    have f1 : TT enc W n 21 [c1] = some y1 := e1
    have f2 : TT enc W n 21 [c2] = some y2 := e2
    have f3 : TT enc W n 21 [c3] = some y3 := e3
    have f4 : TT enc W n 21 [c4] = some y4 := e4
    have f5 : TT enc W n 3 [c5] = some y5 := e5
    have f6 : TT enc W n 3 [c6] = some y6 := e6
    obtain ⟨o, ho, _⟩ := DataW.trod_bool Tryz.underlying4 f0
    obtain ⟨a1, h1, _, w1⟩ := DataW.trod_int Tryz.underlying21 f1
    obtain ⟨a2, h2, _, w2⟩ := DataW.trod_int Tryz.underlying21 f2
    obtain ⟨a3, h3, _, w3⟩ := DataW.trod_int Tryz.underlying21 f3
    obtain ⟨a4, h4, _, w4⟩ := DataW.trod_int Tryz.underlying21 f4
    obtain ⟨a5, h5, _, w5⟩ := DataW.trod_int Tryz.underlying3 f5
    obtain ⟨a6, h6, _, w6⟩ := DataW.trod_int Tryz.underlying3 f6
    refine ⟨⟨o, a1, a2, a3, a4, a5, a6⟩, ?_, ⟨w1, w2, w3, w4, w5, w6⟩⟩
    simp only [List.cons.injEq, and_true] at ho h1 h2 h3 h4 h5 h6
    rw [ho, h1, h2, h3, h4, h5, h6]
    rfl
theorem open_shot (h : TT enc W fuel 93 cs = some x) : ∃ t : Sht, cs = shotL t ∧ t.wf := by
  obtain ⟨xs, n, _, _, hlen, hxl, hfs⟩ := DataW.trod_struct Tryz.underlying93 h
  rw [co79] at hlen
  match cs, hlen with
  | [c0, c1, c2, c3, c4, c5], _ =>
    have e0 := hfs 0 _ rfl
    have e1 := hfs 1 _ rfl
    have e2 := hfs 2 _ rfl
    have e3 := hfs 3 _ rfl
    have e4 := hfs 4 _ rfl
    have e5 := hfs 5 _ rfl
    have g : ∀ i, i < 6 → ∃ y, xs[i]? = some y := fun i hi => ⟨xs[i]'(by rw [hxl]; exact hi), List.getElem?_eq_getElem _⟩
    obtain ⟨y0, g0⟩ := g 0 (by decide)
    obtain ⟨y1, g1⟩ := g 1 (by decide)
    obtain ⟨y2, g2⟩ := g 2 (by decide)
    obtain ⟨y3, g3⟩ := g 3 (by decide)
    obtain ⟨y4, g4⟩ := g 4 (by decide)
    obtain ⟨y5, g5⟩ := g 5 (by decide)
    rw [g0] at e0
    rw [g1] at e1
    rw [g2] at e2
    rw [g3] at e3
    rw [g4] at e4
    rw [g5] at e5
    have f0 : TT enc W n 3 [c0] = some y0 := e0
    have f1 : TT enc W n 21 [c1] = some y1 := e1
    have f2 : TT enc W n 21 [c2] = some y2 := e2
    have f3 : TT enc W n 21 [c3] = some y3 := e3
    have f4 : TT enc W n 21 [c4] = some y4 := e4
    have f5 : TT enc W n 3 [c5] = some y5 := e5
    obtain ⟨a0, h0, _, w0⟩ := DataW.trod_int Tryz.underlying3 f0
    obtain ⟨a1, h1, _, w1⟩ := DataW.trod_int Tryz.underlying21 f1
    obtain ⟨a2, h2, _, w2⟩ := DataW.trod_int Tryz.underlying21 f2
    obtain ⟨a3, h3, _, w3⟩ := DataW.trod_int Tryz.underlying21 f3
    obtain ⟨a4, h4, _, w4⟩ := DataW.trod_int Tryz.underlying21 f4
    obtain ⟨a5, h5, _, w5⟩ := DataW.trod_int Tryz.underlying3 f5
    refine ⟨⟨a0, a1, a2, a3, a4, a5⟩, ?_, ⟨w1, w2, w3, w4, w0, w5⟩⟩
    simp only [List.cons.injEq, and_true] at h0 h1 h2 h3 h4 h5
    rw [h0, h1, h2, h3, h4, h5]
    rfl
theorem open_seat (h : TT enc W fuel 30 cs = some x) : ∃ t : Seat, cs = seatL t ∧ (Lit.int .i64 t.peer).wf = true ∧ (Lit.int .i64 t.gen).wf = true := by
  obtain ⟨xs, n, _, _, hlen, hxl, hfs⟩ := DataW.trod_struct Tryz.underlying30 h
  rw [co30] at hlen
  match cs, hlen with
  | [c0, c1], _ =>
    have e0 := hfs 0 _ rfl
    have e1 := hfs 1 _ rfl
    have g : ∀ i, i < 2 → ∃ y, xs[i]? = some y := fun i hi => ⟨xs[i]'(by rw [hxl]; exact hi), List.getElem?_eq_getElem _⟩
    obtain ⟨y0, g0⟩ := g 0 (by decide)
    obtain ⟨y1, g1⟩ := g 1 (by decide)
    rw [g0] at e0
    rw [g1] at e1
    have f0 : TT enc W n 3 [c0] = some y0 := e0
    have f1 : TT enc W n 3 [c1] = some y1 := e1
    obtain ⟨a0, h0, _, w0⟩ := DataW.trod_int Tryz.underlying3 f0
    obtain ⟨a1, h1, _, w1⟩ := DataW.trod_int Tryz.underlying3 f1
    refine ⟨⟨a0, a1⟩, ?_, w0, w1⟩
    simp only [List.cons.injEq, and_true] at h0 h1
    rw [h0, h1]
    rfl
theorem pick_listG {α : Type} (n : Nat) (f : Nat → α → Prop) (h : ∀ i, i < n → ∃ a, f i a) : ∃ l : List α, l.length = n ∧ ∀ i a, l[i]? = some a → f i a := by
  induction n with
  | zero => exact ⟨[], rfl, fun i a hi => by simp at hi⟩
  | succ n ih =>
    obtain ⟨l, hl, hf⟩ := ih (fun i hi => h i (by omega))
    obtain ⟨a, ha⟩ := h n (by omega)
    refine ⟨l ++ [a], by simp [hl], fun i b hi => ?_⟩
    by_cases e : i < n
    · rw [List.getElem?_append_left (by omega)] at hi
      exact hf i b hi
    · rw [List.getElem?_append_right (by omega), hl] at hi
      by_cases e2 : i - n = 0
      · rw [e2] at hi
        simp at hi
        subst hi
        rw [show i = n by omega]
        exact ha
      · rw [List.getElem?_eq_none (by simp; omega)] at hi
        cases hi
theorem cellsL_inv : ∀ (L : List Sht) (j : Nat) (v : Value), (cellsL L)[j]? = some v → ∃ s, L[j / 6]? = some s ∧ (shotL s)[j % 6]? = some v
  | [], j, v, h => by simp [cellsL] at h
  | s :: L, j, v, h => by
    unfold cellsL at h
    rw [List.flatMap_cons] at h
    have hl : (shotL s).length = 6 := rfl
    by_cases e : j < 6
    · rw [List.getElem?_append_left (by omega)] at h
      exact ⟨s, by rw [Nat.div_eq_of_lt e]; rfl, by rw [Nat.mod_eq_of_lt e]; exact h⟩
    · rw [List.getElem?_append_right (by omega), hl] at h
      obtain ⟨s', h1, h2⟩ := cellsL_inv L (j - 6) v h
      refine ⟨s', ?_, ?_⟩
      · rw [show j / 6 = (j - 6) / 6 + 1 by omega, List.getElem?_cons_succ]
        exact h1
      · rw [show j % 6 = (j - 6) % 6 by omega]
        exact h2
theorem open_shots (h : TT enc W fuel 26 cs = some x) : ∃ (sl : Value) (L : List Sht), cs = [sl] ∧ L.length ≤ maxLen ∧ (∀ t ∈ L, t.wf) ∧ ShotsW W sl L := by
  rcases open_slice Tryz.underlying26 h with ⟨hcs, hx⟩ | ⟨a, len, cap, m, n, D, Pl, hcs, _, hl, hm, hmm, hx, hel⟩
  · exact ⟨_, [], hcs, Nat.zero_le _, fun _ h => by simp at h, .inl ⟨rfl, none, 0, rfl⟩⟩
  · simp only [if_true] at hmm
    rw [co79] at hel
    have hone : ∀ k, k < len → ∃ s : Sht, s.wf ∧ ∀ j v, (shotL s)[j]? = some v → W.cell? (a.add (k * 6 + j)) = some v := by
      intro k hk
      obtain ⟨cs', hc, ht⟩ := hel k (by omega)
      obtain ⟨s, rfl, hw⟩ := open_shot ht
      obtain ⟨_, _, hat⟩ := World.cells?_some hc
      refine ⟨s, hw, fun j v hj => ?_⟩
      have hj6 : j < 6 := (List.getElem?_eq_some_iff.1 hj).1
      have := hat j hj6
      rw [add_add] at this
      rw [this]
      exact hj
    obtain ⟨L, hLl, hL⟩ := pick_listG len _ hone
    refine ⟨_, L, hcs, by omega, fun s hs => ?_, ?_⟩
    · obtain ⟨k, hk⟩ := List.mem_iff_getElem?.1 hs
      exact (hL k s hk).1
    · by_cases h0 : len = 0
      · subst h0
        exact .inl ⟨List.length_eq_zero_iff.1 hLl, _, _, rfl⟩
      · obtain ⟨b, o, np⟩ := a
        obtain ⟨s0, _, h00⟩ := hone 0 (by omega)
        have h00 := h00 0 _ rfl
        have hnp : np = none := by simpa [Addr.add] using World.cell?_spot h00
        subst hnp
        have a1 : ∀ i, (⟨b, o, none⟩ : Addr).add i = ⟨b, o + i, none⟩ := fun i => by unfold Addr.add; split <;> simp_all
        refine .inr ⟨b, o, cap, by rw [hLl], ?_, fun j v hv => ?_⟩
        · have := World.block_lt_of_cell? W _ h00
          rw [a1] at this; exact this
        · obtain ⟨s, hs, hv'⟩ := cellsL_inv L j v hv
          have := (hL _ s hs).2 _ v hv'
          rw [a1] at this
          rw [show j = j / 6 * 6 + j % 6 by omega]
          exact this
theorem open_game (h : TT enc W fuel 28 cs = some x) : ∃ (g : Gme) (sl : Value), cs = (gameC g.fr g.d g.S sl).toList ∧ g.wf ∧ g.L.length ≤ maxLen ∧ ShotsW W sl g.L := by
  obtain ⟨xs, n, _, _, hlen, hxl, hfs⟩ := DataW.trod_struct Tryz.underlying28 h
  rw [co28] at hlen
  have g : ∀ i, i < 4 → ∃ y, xs[i]? = some y := fun i hi => ⟨xs[i]'(by rw [hxl]; exact hi), List.getElem?_eq_getElem _⟩
  obtain ⟨y0, g0⟩ := g 0 (by decide)
  obtain ⟨y1, g1⟩ := g 1 (by decide)
  obtain ⟨y2, g2⟩ := g 2 (by decide)
  obtain ⟨y3, g3⟩ := g 3 (by decide)
  have e0 := hfs 0 _ rfl
  have e1 := hfs 1 _ rfl
  have e2 := hfs 2 _ rfl
  have e3 := hfs 3 _ rfl
  rw [g0] at e0
  rw [g1] at e1
  rw [g2] at e2
  rw [g3] at e3
  have f0 : TT enc W n 3 ((cs.drop 0).take 1) = some y0 := e0
  have f1 : TT enc W n 22 ((cs.drop 1).take 1) = some y1 := e1
  have f2 : TT enc W n 25 ((cs.drop 2).take 56) = some y2 := e2
  have f3 : TT enc W n 26 ((cs.drop 58).take 1) = some y3 := e3
  obtain ⟨fr, h0, _, w0⟩ := DataW.trod_int Tryz.underlying3 f0
  obtain ⟨d, h1, _, w1⟩ := DataW.trod_int Tryz.underlying22 f1
  obtain ⟨ys, m, _, _, hl2, hyl, hys⟩ := DataW.trod_array Tryz.underlying25 f2
  obtain ⟨sl, L, h3, hm, hw, hin⟩ := open_shots f3
  obtain ⟨S, hS, hc, hSw⟩ := chunks shipL 7 Shp.wf 8 ((cs.drop 2).take 56) (by rw [hl2, co25]) (fun i hi => by
    have e := hys i hi
    rw [co24] at e
    obtain ⟨y, hy⟩ : ∃ y, ys[i]? = some y := ⟨ys[i]'(by rw [hyl]; exact hi), List.getElem?_eq_getElem _⟩
    rw [hy] at e
    exact open_ship e)
  refine ⟨⟨fr, d, S, L⟩, sl, ?_, ⟨w0, w1, hS, hSw, hw⟩, hm, hin⟩
  have hcs : cs = (cs.drop 0).take 1 ++ ((cs.drop 1).take 1 ++ ((cs.drop 2).take 56 ++ (cs.drop 58).take 1)) := by
    have e3 : (cs.drop 58).take 1 = cs.drop 58 := List.take_of_length_le (by rw [List.length_drop, hlen]; omega)
    have a3 : (cs.drop 2).take 56 ++ cs.drop 58 = cs.drop 2 := by rw [show cs.drop 58 = (cs.drop 2).drop 56 by rw [List.drop_drop]]; exact List.take_append_drop ..
    have a2 : (cs.drop 1).take 1 ++ cs.drop 2 = cs.drop 1 := by rw [show cs.drop 2 = (cs.drop 1).drop 1 by rw [List.drop_drop]]; exact List.take_append_drop ..
    have a1 : (cs.drop 0).take 1 ++ cs.drop 1 = cs := by rw [List.drop_zero]; exact List.take_append_drop ..
    rw [e3, a3, a2, a1]
  rw [hcs, h0, h1, hc, h3]
  rfl
theorem open_roster (h : TT enc W fuel 33 cs = some x) : ∃ (ver : Int) (T : List Seat), cs = (rosterC ver T).toList ∧ T.length = 8 ∧ (Lit.int .i64 ver).wf = true ∧ ∀ q ∈ T, (Lit.int .i64 q.peer).wf = true ∧ (Lit.int .i64 q.gen).wf = true := by
  obtain ⟨xs, n, _, _, hlen, hxl, hfs⟩ := DataW.trod_struct Tryz.underlying33 h
  rw [co33] at hlen
  have g : ∀ i, i < 2 → ∃ y, xs[i]? = some y := fun i hi => ⟨xs[i]'(by rw [hxl]; exact hi), List.getElem?_eq_getElem _⟩
  obtain ⟨y0, g0⟩ := g 0 (by decide)
  obtain ⟨y1, g1⟩ := g 1 (by decide)
  have e0 := hfs 0 _ rfl
  have e1 := hfs 1 _ rfl
  rw [g0] at e0
  rw [g1] at e1
  have f0 : TT enc W n 3 ((cs.drop 0).take 1) = some y0 := e0
  have f1 : TT enc W n 31 ((cs.drop 1).take 16) = some y1 := e1
  obtain ⟨ver, h0, _, w0⟩ := DataW.trod_int Tryz.underlying3 f0
  obtain ⟨ys, m, _, _, hl2, hyl, hys⟩ := DataW.trod_array Tryz.underlying31 f1
  obtain ⟨T, hT, hc, hTw⟩ := chunks seatL 2 (fun t => (Lit.int .i64 t.peer).wf = true ∧ (Lit.int .i64 t.gen).wf = true) 8 ((cs.drop 1).take 16) (by rw [hl2, co31]) (fun i hi => by
    have e := hys i hi
    rw [co30] at e
    obtain ⟨y, hy⟩ : ∃ y, ys[i]? = some y := ⟨ys[i]'(by rw [hyl]; exact hi), List.getElem?_eq_getElem _⟩
    rw [hy] at e
    exact open_seat e)
  refine ⟨ver, T, ?_, hT, w0, hTw⟩
  have hcs : cs = (cs.drop 0).take 1 ++ (cs.drop 1).take 16 := by
    have e3 : (cs.drop 1).take 16 = cs.drop 1 := List.take_of_length_le (by rw [List.length_drop, hlen]; omega)
    have a1 : (cs.drop 0).take 1 ++ cs.drop 1 = cs := by rw [List.drop_zero]; exact List.take_append_drop ..
    rw [e3, a1]
  rw [hcs, h0, hc]
  rfl
theorem stateL_split (g : Gme) (ver : Int) (T : List Seat) (sl : Value) : stateL ⟨g, ver, T⟩ sl = (gameC g.fr g.d g.S sl).toList ++ (rosterC ver T).toList := by
  simp [stateL, gameC, rosterC]
/-- The state, as it comes in. -/
structure Ste.wf (s : Ste) : Prop where
  g : s.g.wf
  ver : (Lit.int .i64 s.ver).wf = true
  t8 : s.T.length = 8
  seats : ∀ q ∈ s.T, (Lit.int .i64 q.peer).wf = true ∧ (Lit.int .i64 q.gen).wf = true
theorem open_state {d : DataW H} {ps : List MemPlace} {cs : Array Value} (h : DataW.Trod enc Tryz.prog W 0 (fun _ => true) true 35 (.agg cs) d ps) : ∃ (s : Ste) (sl : Value), cs = stateC s sl ∧ s.wf ∧ s.g.L.length ≤ maxLen ∧ ShotsW W sl s.g.L := by
  obtain ⟨fuel, hf⟩ := h
  have hf' : TT enc W fuel 35 cs.toList = some (d, ps) := hf
  obtain ⟨xs, n, _, _, hlen, hxl, hfs⟩ := DataW.trod_struct Tryz.underlying35 hf'
  rw [co35] at hlen
  have g : ∀ i, i < 2 → ∃ y, xs[i]? = some y := fun i hi => ⟨xs[i]'(by rw [hxl]; exact hi), List.getElem?_eq_getElem _⟩
  obtain ⟨y0, g0⟩ := g 0 (by decide)
  obtain ⟨y1, g1⟩ := g 1 (by decide)
  have e0 := hfs 0 _ rfl
  have e1 := hfs 1 _ rfl
  rw [g0] at e0
  rw [g1] at e1
  have f0 : TT enc W n 28 ((cs.toList.drop 0).take 59) = some y0 := e0
  have f1 : TT enc W n 33 ((cs.toList.drop 59).take 17) = some y1 := e1
  obtain ⟨gm, sl, h0, hw, hm, hin⟩ := open_game f0
  obtain ⟨ver, T, h1, hT, hv, hs⟩ := open_roster f1
  refine ⟨⟨gm, ver, T⟩, sl, ?_, ⟨hw, hv, hT, hs⟩, hm, hin⟩
  have hcs : cs.toList = (cs.toList.drop 0).take 59 ++ (cs.toList.drop 59).take 17 := by
    have e3 : (cs.toList.drop 59).take 17 = cs.toList.drop 59 := List.take_of_length_le (by rw [List.length_drop, hlen]; omega)
    have a1 : (cs.toList.drop 0).take 59 ++ cs.toList.drop 59 = cs.toList := by rw [List.drop_zero]; exact List.take_append_drop ..
    rw [e3, a1]
  have : cs.toList = stateL ⟨gm, ver, T⟩ sl := by rw [hcs, h0, h1, stateL_split]
  unfold stateC
  rw [← this, Array.toArray_toList]
end
end Go.Proofs.YtdopfonebpklkaaGreat.game
namespace Go.Proofs.YtdopfonebpklkaaGreat.game
open Go.ChangeShapes Go.WideShapes Go.ChangeAt Go.RowKit dice
set_option maxRecDepth 100000

def litsAllm (S : List Shp) : List Lit := S.flatMap litsSm
theorem kl25w (d : Nat) (S : List Shp) (h8 : S.length = 8) (h : ∀ t ∈ S, t.wf) : Tryz.prog.keyLits (d + 3) 25 (shipsL S) = some (litsAllm S) := by
  match S, h8 with
  | [t0, t1, t2, t3, t4, t5, t6, t7], _ =>
    have k0 := kl24w d t0 (h t0 (by simp))
    have k1 := kl24w d t1 (h t1 (by simp))
    have k2 := kl24w d t2 (h t2 (by simp))
    have k3 := kl24w d t3 (h t3 (by simp))
    have k4 := kl24w d t4 (h t4 (by simp))
    have k5 := kl24w d t5 (h t5 (by simp))
    have k6 := kl24w d t6 (h t6 (by simp))
    have k7 := kl24w d t7 (h t7 (by simp))
    show Tryz.prog.keyLits ((d + 2) + 1) 25 (shipsL _) = some (litsAllm _)
    unfold Program.keyLits
    rw [Tryz.underlying25]
    have hr : List.range 8 = [0, 1, 2, 3, 4, 5, 6, 7] := rfl
    have e0 : ((shipsL [t0, t1, t2, t3, t4, t5, t6, t7]).drop (0 * 7)).take 7 = shipL t0 := rfl
    have e1 : ((shipsL [t0, t1, t2, t3, t4, t5, t6, t7]).drop (1 * 7)).take 7 = shipL t1 := rfl
    have e2 : ((shipsL [t0, t1, t2, t3, t4, t5, t6, t7]).drop (2 * 7)).take 7 = shipL t2 := rfl
    have e3 : ((shipsL [t0, t1, t2, t3, t4, t5, t6, t7]).drop (3 * 7)).take 7 = shipL t3 := rfl
    have e4 : ((shipsL [t0, t1, t2, t3, t4, t5, t6, t7]).drop (4 * 7)).take 7 = shipL t4 := rfl
    have e5 : ((shipsL [t0, t1, t2, t3, t4, t5, t6, t7]).drop (5 * 7)).take 7 = shipL t5 := rfl
    have e6 : ((shipsL [t0, t1, t2, t3, t4, t5, t6, t7]).drop (6 * 7)).take 7 = shipL t6 := rfl
    have e7 : ((shipsL [t0, t1, t2, t3, t4, t5, t6, t7]).drop (7 * 7)).take 7 = shipL t7 := rfl
    simp only [co25, co24, length_shipsL, hr, List.mapM_cons, List.mapM_nil, e0, e1, e2, e3, e4, e5, e6, e7, k0, k1, k2, k3, k4, k5, k6, k7, List.length_cons, List.length_nil]
    rfl
theorem flat_inj {α β : Type} (f : α → List β) (m : Nat) (hf : ∀ a, (f a).length = m) (hi : ∀ a b, f a = f b → a = b) : ∀ (l l' : List α), l.length = l'.length → l.flatMap f = l'.flatMap f → l = l'
  | [], [], _, _ => rfl
  | [], _ :: _, h, _ => by simp at h
  | _ :: _, [], h, _ => by simp at h
  | a :: l, b :: l', h, e => by
    rw [List.flatMap_cons, List.flatMap_cons] at e
    obtain ⟨e1, e2⟩ := List.append_inj e (by rw [hf, hf])
    rw [hi a b e1, flat_inj f m hf hi l l' (by simpa using h) e2]
theorem formed25w (S : List Shp) (h8 : S.length = 8) : (Value.agg (shipsL S).toArray).formed Tryz.prog 25 = true := by
  unfold Value.formed
  rw [Tryz.underlying25]
  simp [co25, length_shipsL, h8]
theorem eq25w (W : World) (S S' : List Shp) (h8 : S.length = 8) (h8' : S'.length = 8) (h : ∀ t ∈ S, t.wf) (h' : ∀ t ∈ S', t.wf) : ∃ r, (Op.equalIn 10000 25 (.agg (shipsL S).toArray) (.agg (shipsL S').toArray)).run Tryz.prog W = .ok r W ∧ (r = true ↔ S = S') := by
  obtain ⟨r, h1, hr⟩ := run_equalIn_deep (P := Tryz.prog) 9990 10 25 (by kernel_rfl) W 10 10 (.agg (shipsL S).toArray) (.agg (shipsL S').toArray) (litsAllm S) (litsAllm S') (formed25w S h8) (formed25w S' h8') (kl25w 7 S h8 h) (kl25w 7 S' h8' h')
  refine ⟨r, h1, hr.trans ⟨fun e => flat_inj litsSm 7 (fun _ => rfl) (fun a b => litsS_inj) S S' (by rw [h8, h8']) e, fun e => by rw [e]⟩⟩
def litsH (s : Sht) : List Lit := [.int .i64 s.owner, .int .i32 s.x, .int .i32 s.y, .int .i32 s.vx, .int .i32 s.vy, .int .i64 s.left]
theorem litsH_inj {a b : Sht} (h : litsH a = litsH b) : a = b := by
  cases a; cases b
  simp [litsH] at h
  simp_all
theorem kl79w (d : Nat) (t : Sht) (h : t.wf) : Tryz.prog.keyLits (d + 2) 93 (shotL t) = some (litsH t) := by
  have k1 := kl21m d t.x h.x
  have k2 := kl21m d t.y h.y
  have k3 := kl21m d t.vx h.vx
  have k4 := kl21m d t.vy h.vy
  have k5 := kl3m d t.owner h.owner
  have k6 := kl3m d t.left h.left
  show Tryz.prog.keyLits ((d + 1) + 1) 93 (shotL t) = some (litsH t)
  unfold Program.keyLits
  rw [Tryz.underlying93]
  simp only [co79, shotL, List.length_cons, List.length_nil, co21, co3, List.mapM_cons, List.mapM_nil, List.drop_succ_cons, List.drop_zero, List.take_succ_cons, List.take_zero, k1, k2, k3, k4, k5, k6]
  rw [if_pos ⟨trivial, by decide +kernel⟩]
  rfl
theorem formed79w (t : Sht) : (Value.agg (shotL t).toArray).formed Tryz.prog 93 = true := by
  unfold Value.formed
  rw [Tryz.underlying93]
  simp [co79, shotL]
theorem eq79w (W : World) (s s' : Sht) (h : s.wf) (h' : s'.wf) : ∃ r, (Op.equalIn 10000 93 (.agg (shotL s).toArray) (.agg (shotL s').toArray)).run Tryz.prog W = .ok r W ∧ (r = true ↔ s = s') := by
  obtain ⟨r, h1, hr⟩ := run_equalIn_deep (P := Tryz.prog) 9990 10 93 (by kernel_rfl) W 10 10 (.agg (shotL s).toArray) (.agg (shotL s').toArray) (litsH s) (litsH s') (formed79w s) (formed79w s') (kl79w 8 s h) (kl79w 8 s' h')
  exact ⟨r, h1, hr.trans ⟨litsH_inj, fun e => by rw [e]⟩⟩
def litsQ (q : Seat) : List Lit := [.int .i64 q.peer, .int .i64 q.gen]
theorem kl30w (d : Nat) (q : Seat) (h : (Lit.int .i64 q.peer).wf = true ∧ (Lit.int .i64 q.gen).wf = true) : Tryz.prog.keyLits (d + 2) 30 (seatL q) = some (litsQ q) := by
  have k5 := kl3m d q.peer h.1
  have k6 := kl3m d q.gen h.2
  show Tryz.prog.keyLits ((d + 1) + 1) 30 (seatL q) = some (litsQ q)
  unfold Program.keyLits
  rw [Tryz.underlying30]
  simp only [co30, seatL, List.length_cons, List.length_nil, co3, List.mapM_cons, List.mapM_nil, List.drop_succ_cons, List.drop_zero, List.take_succ_cons, List.take_zero, k5, k6]
  rw [if_pos ⟨trivial, by decide +kernel⟩]
  rfl
def litsT (T : List Seat) : List Lit := T.flatMap litsQ
theorem kl31w (d : Nat) (T : List Seat) (h8 : T.length = 8) (h : ∀ q ∈ T, (Lit.int .i64 q.peer).wf = true ∧ (Lit.int .i64 q.gen).wf = true) : Tryz.prog.keyLits (d + 3) 31 (seatsL T) = some (litsT T) := by
  match T, h8 with
  | [t0, t1, t2, t3, t4, t5, t6, t7], _ =>
    have k0 := kl30w d t0 (h t0 (by simp))
    have k1 := kl30w d t1 (h t1 (by simp))
    have k2 := kl30w d t2 (h t2 (by simp))
    have k3 := kl30w d t3 (h t3 (by simp))
    have k4 := kl30w d t4 (h t4 (by simp))
    have k5 := kl30w d t5 (h t5 (by simp))
    have k6 := kl30w d t6 (h t6 (by simp))
    have k7 := kl30w d t7 (h t7 (by simp))
    show Tryz.prog.keyLits ((d + 2) + 1) 31 (seatsL _) = some (litsT _)
    unfold Program.keyLits
    rw [Tryz.underlying31]
    have hr : List.range 8 = [0, 1, 2, 3, 4, 5, 6, 7] := rfl
    have e0 : ((seatsL [t0, t1, t2, t3, t4, t5, t6, t7]).drop (0 * 2)).take 2 = seatL t0 := rfl
    have e1 : ((seatsL [t0, t1, t2, t3, t4, t5, t6, t7]).drop (1 * 2)).take 2 = seatL t1 := rfl
    have e2 : ((seatsL [t0, t1, t2, t3, t4, t5, t6, t7]).drop (2 * 2)).take 2 = seatL t2 := rfl
    have e3 : ((seatsL [t0, t1, t2, t3, t4, t5, t6, t7]).drop (3 * 2)).take 2 = seatL t3 := rfl
    have e4 : ((seatsL [t0, t1, t2, t3, t4, t5, t6, t7]).drop (4 * 2)).take 2 = seatL t4 := rfl
    have e5 : ((seatsL [t0, t1, t2, t3, t4, t5, t6, t7]).drop (5 * 2)).take 2 = seatL t5 := rfl
    have e6 : ((seatsL [t0, t1, t2, t3, t4, t5, t6, t7]).drop (6 * 2)).take 2 = seatL t6 := rfl
    have e7 : ((seatsL [t0, t1, t2, t3, t4, t5, t6, t7]).drop (7 * 2)).take 2 = seatL t7 := rfl
    simp only [co31, co30, length_seatsL, hr, List.mapM_cons, List.mapM_nil, e0, e1, e2, e3, e4, e5, e6, e7, k0, k1, k2, k3, k4, k5, k6, k7, List.length_cons, List.length_nil]
    rfl
theorem kl33w (d : Nat) (ver : Int) (T : List Seat) (h8 : T.length = 8) (hv : (Lit.int .i64 ver).wf = true) (h : ∀ q ∈ T, (Lit.int .i64 q.peer).wf = true ∧ (Lit.int .i64 q.gen).wf = true) : Tryz.prog.keyLits (d + 4) 33 (.int .i64 ver :: seatsL T) = some (.int .i64 ver :: litsT T) := by
  have k0 := kl3m (d + 2) ver hv
  have k1 := kl31w d T h8 h
  have hl : (seatsL T).length = 16 := by rw [length_seatsL, h8]
  have ht : (seatsL T).take 16 = seatsL T := List.take_of_length_le (by omega)
  show Tryz.prog.keyLits ((d + 3) + 1) 33 (.int .i64 ver :: seatsL T) = _
  unfold Program.keyLits
  rw [Tryz.underlying33]
  simp only [co33, List.length_cons, hl, co31, co3, List.mapM_cons, List.mapM_nil, List.drop_succ_cons, List.drop_zero, List.take_succ_cons, List.take_zero, ht, k0, k1]
  rw [if_pos ⟨trivial, by decide +kernel⟩]
  simp
theorem formed33w (ver : Int) (T : List Seat) (h8 : T.length = 8) : (Value.agg (rosterC ver T)).formed Tryz.prog 33 = true := by
  unfold Value.formed
  rw [Tryz.underlying33]
  simp [co33, rosterC, length_seatsL, h8]
theorem eq33w (W : World) (ver ver' : Int) (T T' : List Seat) (h8 : T.length = 8) (h8' : T'.length = 8) (hv : (Lit.int .i64 ver).wf = true) (hv' : (Lit.int .i64 ver').wf = true) (h : ∀ q ∈ T, (Lit.int .i64 q.peer).wf = true ∧ (Lit.int .i64 q.gen).wf = true) (h' : ∀ q ∈ T', (Lit.int .i64 q.peer).wf = true ∧ (Lit.int .i64 q.gen).wf = true) :
    ∃ r, (Op.equalIn 10000 33 (.agg (rosterC ver T)) (.agg (rosterC ver' T'))).run Tryz.prog W = .ok r W ∧ (r = true ↔ ver = ver' ∧ T = T') := by
  obtain ⟨r, h1, hr⟩ := run_equalIn_deep (P := Tryz.prog) 9990 10 33 (by kernel_rfl) W 10 10 (.agg (rosterC ver T)) (.agg (rosterC ver' T')) _ _ (formed33w ver T h8) (formed33w ver' T' h8') (kl33w 6 ver T h8 hv h) (kl33w 6 ver' T' h8' hv' h')
  refine ⟨r, h1, hr.trans ⟨fun e => ?_, fun e => by rw [e.1, e.2]⟩⟩
  simp only [List.cons.injEq, Lit.int.injEq, true_and] at e
  refine ⟨e.1, flat_inj litsQ 2 (fun _ => rfl) (fun a b hab => ?_) T T' (by rw [h8, h8']) e.2⟩
  cases a; cases b
  simp [litsQ] at hab
  simp_all
section
variable {ops : Array Oper} {rest : List Oper} {op : Oper} {a : Act} {Q : Exit → Act → World → Prop} {w0 w : World} {Hs : List Nat} {l : List Blk} {R : List RowS}
/-- wb_part, the operation's kind asked first. -/
theorem wb_partL (ty : TypeId) (x : Operand) (ho : op.op = .load ty x) (H : Sb Hs w0 w l R) (hw : Region.wanted op (yielded ops a.tmps) = true) (i : Nat) (g o : Nat) (hx : a.eval x = .pointer (some ⟨g, o, none⟩)) (c : Array Value) (t : TypeId) (hl : l[i]? = some (g, c, t))
    (d : TypeDesc) (hu : Tryz.prog.underlying ty = some d) (hd : d.isRow = true) (n : Nat) (hi : (Tryz.prog.info? ty).map (·.size) = some n) (vs : List Value) (hvs : ∀ j v, vs[j]? = some v → c[o + j]? = some v) (hn : vs.length = n)
    (h : wpList Tryz.prog ops Q rest (a.put op.dst (.agg vs.toArray)) w) : wpList Tryz.prog ops Q (op :: rest) a w :=
  wb_part H hw i ty x ho g o hx c t hl d hu hd n hi vs hvs hn h
end
theorem gc_shipsw {fr d : Int} {S : List Shp} {sl : Value} : ∀ j v, (shipsL S)[j]? = some v → (gameC fr d S sl)[2 + j]? = some v := fun j v h => by
  unfold gameC
  have hl := (List.getElem?_eq_some_iff.1 h).1
  rw [List.getElem?_toArray, show 2 + j = j + 1 + 1 by omega, List.getElem?_cons_succ, List.getElem?_cons_succ, List.getElem?_append_left hl]
  exact h
def SameOut (m : Prop) (e : Ending) : Prop := ∃ r : Bool, e = .returned (.bool r) ∧ (r = true ↔ m)
theorem sameNo {m : Prop} {e : Ending} (h : ¬ m) (he : e = .returned (.bool false)) : SameOut m e := ⟨false, he, by simp [h]⟩
theorem sameYes {m : Prop} {e : Ending} (h : m) (he : e = .returned (.bool true)) : SameOut m e := ⟨true, he, by simp [h]⟩
set_option maxHeartbeats 8000000 in
theorem rsameG (g g' : Gme) (sl sl' : Value) (w0 : World) (hg : g.wf) (hg' : g'.wf) (hin : ShotsW w0 sl g.L) (hin' : ShotsW w0 sl' g'.L) (hm : g.L.length ≤ 1000) (hm' : g'.L.length ≤ 1000) :
    Calls Tryz.prog 62 #[.agg (gameC g.fr g.d g.S sl), .agg (gameC g'.fr g'.d g'.S sl')] w0 fun e w' => SameOut (g = g') e ∧ Below w0.heap.size w0 w' := by
  obtain ⟨ad1, c1, rfl⟩ := hin.form
  obtain ⟨ad2, c2, rfl⟩ := hin'.form
  have HE := Lib.hid (fun W => eq25w W g.S g'.S hg.s8 hg'.s8 hg.ships hg'.ships)
  have HE79 := Lib.hid (fun W s s' (h : s ∈ g.L) (h' : s' ∈ g'.L) => eq79w W s s' (hg.shots s h) (hg'.shots s' h'))
  have HI1 := Lib.hid hin
  have HI2 := Lib.hid hin'
  have Hl1 := Lib.hid (show (shipsL g.S).length = 56 by rw [length_shipsL, hg.s8])
  have Hl2 := Lib.hid (show (shipsL g'.S).length = 56 by rw [length_shipsL, hg'.s8])
  have Hs1 := Lib.hid (gc_shots (fr := g.fr) (d := g.d) (S := g.S) (sl := .slice ad1 g.L.length c1) hg.s8)
  have Hs2 := Lib.hid (gc_shots (fr := g'.fr) (d := g'.d) (S := g'.S) (sl := .slice ad2 g'.L.length c2) hg'.s8)
  have Hp1 := Lib.hid (fun j v h => gc_shipsw (fr := g.fr) (d := g.d) (S := g.S) (sl := .slice ad1 g.L.length c1) j v h)
  have Hp2 := Lib.hid (fun j v h => gc_shipsw (fr := g'.fr) (d := g'.d) (S := g'.S) (sl := .slice ad2 g'.L.length c2) j v h)
  have HF1 : Hid ((gameC g.fr g.d g.S (.slice ad1 g.L.length c1))[0]? = some (.int .i64 g.fr)) := Lib.hid rfl
  have HF2 : Hid ((gameC g'.fr g'.d g'.S (.slice ad2 g'.L.length c2))[0]? = some (.int .i64 g'.fr)) := Lib.hid rfl
  have HD1 : Hid ((gameC g.fr g.d g.S (.slice ad1 g.L.length c1))[1]? = some (.int .u64 g.d)) := Lib.hid rfl
  have HD2 : Hid ((gameC g'.fr g'.d g'.S (.slice ad2 g'.L.length c2))[1]? = some (.int .u64 g'.d)) := Lib.hid rfl
  have H := Sb.start w0
  clear hg hg' hin hin'
  obtain ⟨fr, d, S, L⟩ := g
  obtain ⟨fr', d', S', L'⟩ := g'
  dsimp only at *
  generalize gameC fr d S (.slice ad1 L.length c1) = A at *
  generalize gameC fr' d' S' (.slice ad2 L'.length c2) = B at *
  obtain ⟨m, hmm⟩ : ∃ m : Prop, ((⟨fr, d, S, L⟩ : Gme) = ⟨fr', d', S', L'⟩) = m := ⟨_, rfl⟩
  rw [hmm]
  have HM := Lib.hid (show m ↔ fr = fr' ∧ d = d' ∧ S = S' ∧ L = L' by rw [← hmm]; simp)
  clear hmm
  go_enter Tryz.func62, Tryz.ntmps62
  go_upto_region 1 with (first | (refine wb_box H rfl 28 _ rfl A rfl ?_; clear H; intro b2 w H) | (refine wb_box H rfl 28 _ rfl B rfl ?_; clear H; intro b3 w H))
  replace H : Sb [] w0 w [(b3, B, 28), (b2, A, 28)] [] := H
  have x0 : w.cell? ⟨b2, 0, none⟩ = some (.int .i64 fr) := (cell_of_row w b2 0 _ 28 (0, 0) (H.holds _ (List.mem_cons_of_mem _ (List.mem_cons_self ..)))).trans HF1.out
  have y0 : w.cell? ⟨b3, 0, none⟩ = some (.int .i64 fr') := (cell_of_row w b3 0 _ 28 (0, 0) (H.holds _ (List.mem_cons_self ..))).trans HF2.out
  by_cases e1 : fr = fr'
  rotate_left
  · have q : decide (fr = fr') = false := decide_eq_false e1
    go_wp2_with fail
    go_ret
    exact ⟨sameNo (fun h => e1 (HM.out.1 h).1) rfl, H.below⟩
  subst e1
  have x1 : w.cell? ⟨b2, 1, none⟩ = some (.int .u64 d) := (cell_of_row w b2 1 _ 28 (0, 0) (H.holds _ (List.mem_cons_of_mem _ (List.mem_cons_self ..)))).trans HD1.out
  have y1 : w.cell? ⟨b3, 1, none⟩ = some (.int .u64 d') := (cell_of_row w b3 1 _ 28 (0, 0) (H.holds _ (List.mem_cons_self ..))).trans HD2.out
  by_cases e2 : d = d'
  rotate_left
  · have q : decide (d = d') = false := decide_eq_false e2
    go_wp2_with fail
    go_ret
    exact ⟨sameNo (fun h => e2 (HM.out.1 h).2.1) rfl, H.below⟩
  subst e2
  have x2 : w.cell? ⟨b2, 58, none⟩ = some (.slice ad1 L.length c1) := (cell_of_row w b2 58 _ 28 (0, 0) (H.holds _ (List.mem_cons_of_mem _ (List.mem_cons_self ..)))).trans Hs1.out
  have y2 : w.cell? ⟨b3, 58, none⟩ = some (.slice ad2 L'.length c2) := (cell_of_row w b3 58 _ 28 (0, 0) (H.holds _ (List.mem_cons_self ..))).trans Hs2.out
  by_cases e3 : S = S'
  rotate_left
  · have he : ∀ W, (Op.equalIn 10000 25 (.agg (shipsL S).toArray) (.agg (shipsL S').toArray)).run Tryz.prog W = .ok false W := fun W => by
      obtain ⟨r, hr, hi⟩ := HE.out W
      cases r with
      | true => exact absurd (hi.1 rfl) e3
      | false => exact hr
    clear HE HE79
    generalize shipsL S = ss at *
    generalize shipsL S' = ss' at *
    go_wp2_with (first | (refine wb_partL 25 _ rfl H rfl 1 _ 2 rfl _ _ rfl _ Tryz.underlying25 rfl 56 info25 ss Hp1.out Hl1.out ?_) | (refine wb_partL 25 _ rfl H rfl 0 _ 2 rfl _ _ rfl _ Tryz.underlying25 rfl 56 info25 ss' Hp2.out Hl2.out ?_))
    go_ret
    exact ⟨sameNo (fun h => e3 (HM.out.1 h).2.2.1) rfl, H.below⟩
  subst e3
  have he : ∀ W, (Op.equalIn 10000 25 (.agg (shipsL S).toArray) (.agg (shipsL S).toArray)).run Tryz.prog W = .ok true W := fun W => by
    obtain ⟨r, hr, hi⟩ := HE.out W
    rw [hi.2 rfl] at hr
    exact hr
  clear HE
  generalize shipsL S = ss at *
  by_cases e4 : L.length = L'.length
  rotate_left
  · have q : decide ((L.length : Int) = (L'.length : Int)) = false := decide_eq_false (by omega)
    have q' : ¬ (L.length : Int) = (L'.length : Int) := by omega
    go_wp2_with (first | (refine wb_partL 25 _ rfl H rfl 1 _ 2 rfl _ _ rfl _ Tryz.underlying25 rfl 56 info25 ss Hp1.out Hl1.out ?_) | (refine wb_partL 25 _ rfl H rfl 0 _ 2 rfl _ _ rfl _ Tryz.underlying25 rfl 56 info25 ss Hp2.out Hl2.out ?_))
    go_ret
    exact ⟨sameNo (fun h => e4 (by rw [(HM.out.1 h).2.2.2])) rfl, H.below⟩
  rw [← e4] at y2 Hs2
  go_wp2_with (first | (refine wb_partL 25 _ rfl H rfl 1 _ 2 rfl _ _ rfl _ Tryz.underlying25 rfl 56 info25 ss Hp1.out Hl1.out ?_) | (refine wb_partL 25 _ rfl H rfl 0 _ 2 rfl _ _ rfl _ Tryz.underlying25 rfl 56 info25 ss Hp2.out Hl2.out ?_))
  have HB := Lib.hid H
  have E4 := Lib.hid e4
  clear H he x0 y0 x1 y1 x2 y2 e4
  go_loopw [5] (fun i W => ∃ k : Nat, k ≤ L.length ∧ i = .int .i64 k ∧ Hid (Sb [] w0 W [(b3, B, 28), (b2, A, 28)] []) ∧ Hid (L.take k = L'.take k)) (fun i _ => L.length - (intOf i).toNat)
  case atStart => exact ⟨0, Nat.zero_le _, rfl, HB, Lib.hid rfl⟩
  case round =>
    clear HB
    obtain ⟨k, hk, rfl, HB, HA⟩ := hrel
    have x2 : wr.cell? ⟨b2, 58, none⟩ = some (.slice ad1 L.length c1) := (cell_of_row wr b2 58 _ 28 (0, 0) (HB.out.holds _ (List.mem_cons_of_mem _ (List.mem_cons_self ..)))).trans Hs1.out
    by_cases hlt : k < L.length
    · obtain ⟨g1, o1, had1, hg1, hc1⟩ : ∃ gi oi, ad1 = some ⟨gi, oi, none⟩ ∧ gi < w0.heap.size ∧ ∀ j v, (cellsL L)[j]? = some v → w0.cell? ⟨gi, oi + j, none⟩ = some v := by
        rcases HI1.out with ⟨e, _⟩ | ⟨gi, oi, c', e, hgi, hc⟩
        · rw [e] at hlt; exact absurd hlt (Nat.not_lt_zero _)
        · injection e with e1 e2 e3
          exact ⟨gi, oi, e1, hgi, hc⟩
      obtain ⟨g2, o2, had2, hg2, hc2⟩ : ∃ gi oi, ad2 = some ⟨gi, oi, none⟩ ∧ gi < w0.heap.size ∧ ∀ j v, (cellsL L')[j]? = some v → w0.cell? ⟨gi, oi + j, none⟩ = some v := by
        rcases HI2.out with ⟨e, _⟩ | ⟨gi, oi, c', e, hgi, hc⟩
        · have := E4.out
          rw [e] at this
          simp at this
          rw [this] at hlt
          exact absurd hlt (by simp)
        · injection e with e1 e2 e3
          exact ⟨gi, oi, e1, hgi, hc⟩
      subst had1
      subst had2
      obtain ⟨s, hs⟩ : ∃ s, L[k]? = some s := ⟨L[k], List.getElem?_eq_getElem hlt⟩
      obtain ⟨s', hs'⟩ : ∃ s, L'[k]? = some s := ⟨L'[k]'(by rw [← E4.out]; exact hlt), List.getElem?_eq_getElem _⟩
      have y2 : wr.cell? ⟨b3, 58, none⟩ = some (.slice (some ⟨g2, o2, none⟩) L.length c2) := (cell_of_row wr b3 58 _ 28 (0, 0) (HB.out.holds _ (List.mem_cons_self ..))).trans Hs2.out
      obtain ⟨p0, p1, p2, p3, p4, p5⟩ := shot_at (fun j v h => (World.cell?_of_block (a := ⟨g1, o1 + j, none⟩) (HB.out.fr g1 hg1 (by simp))).trans (hc1 j v h)) k s hs
      obtain ⟨r0, r1, r2, r3, r4, r5⟩ := shot_at (fun j v h => (World.cell?_of_block (a := ⟨g2, o2 + j, none⟩) (HB.out.fr g2 hg2 (by simp))).trans (hc2 j v h)) k s' hs'
      have HEk := Lib.hid (fun W => HE79.out W s s' (List.mem_of_getElem? hs) (List.mem_of_getElem? hs'))
      have Hs := Lib.hid hs
      have Hs' := Lib.hid hs'
      clear hs hs' hc1 hc2 hg1 hg2
      by_cases es : s = s'
      · have HT : Hid (L.take (k + 1) = L'.take (k + 1)) := Lib.hid (by
          obtain ⟨hk1, e1⟩ := List.getElem?_eq_some_iff.1 Hs.out
          obtain ⟨hk2, e2⟩ := List.getElem?_eq_some_iff.1 Hs'.out
          rw [List.take_succ_eq_append_getElem hk1, List.take_succ_eq_append_getElem hk2, HA.out, e1, e2, es])
        subst es
        have hq : ∀ W, (Op.equalIn 10000 93 (.agg #[.int .i64 s.owner, .int .i32 s.x, .int .i32 s.y, .int .i32 s.vx, .int .i32 s.vy, .int .i64 s.left]) (.agg #[.int .i64 s.owner, .int .i32 s.x, .int .i32 s.y, .int .i32 s.vx, .int .i32 s.vy, .int .i64 s.left])).run Tryz.prog W = .ok true W := fun W => by
          obtain ⟨r, hr, hi⟩ := HEk.out W
          rw [hi.2 rfl] at hr
          exact hr
        clear HEk
        go_wp2_with fail
        go_quiet (fail)
        have HB2 := Lib.hid (HB.out.call (below_drewN (Below.refl _ _) nq))
        clear p0 p1 p2 p3 p4 p5 r0 r1 r2 r3 r4 r5 x2 y2 HB hq
        go_wp2_with fail
        exact ⟨⟨k + 1, hlt, rfl, HB2, HT⟩, by simp only [intOf]; omega⟩
      · have hq : ∀ W, (Op.equalIn 10000 93 (.agg #[.int .i64 s.owner, .int .i32 s.x, .int .i32 s.y, .int .i32 s.vx, .int .i32 s.vy, .int .i64 s.left]) (.agg #[.int .i64 s'.owner, .int .i32 s'.x, .int .i32 s'.y, .int .i32 s'.vx, .int .i32 s'.vy, .int .i64 s'.left])).run Tryz.prog W = .ok false W := fun W => by
          obtain ⟨r, hr, hi⟩ := HEk.out W
          cases r with
          | true => exact absurd (hi.1 rfl) es
          | false => exact hr
        have HNe : Hid (L ≠ L') := Lib.hid (fun h => by
          have := Hs.out
          rw [h] at this
          exact es (Option.some.inj (this.symm.trans Hs'.out)))
        clear HEk
        go_wp2_with fail
        go_quiet (fail)
        have HB2 := Lib.hid (HB.out.call (below_drewN (Below.refl _ _) nq))
        clear p0 p1 p2 p3 p4 p5 r0 r1 r2 r3 r4 r5 x2 y2 HB hq
        go_wp2_with fail
        go_ret
        exact ⟨sameNo (fun h => HNe.out (HM.out.1 h).2.2.2) rfl, HB2.out.below⟩
    · obtain rfl : k = L.length := by omega
      have hLL : L = L' := by
        have := HA.out
        rw [List.take_length, E4.out, List.take_length] at this
        exact this
      have hmt : m := HM.out.2 (by simp [hLL])
      have HMt := Lib.hid hmt
      clear hLL hmt
      go_wp2_with fail
      go_ret
      exact ⟨sameYes HMt.out rfl, HB.out.below⟩
end Go.Proofs.YtdopfonebpklkaaGreat.game
namespace Go.Proofs.YtdopfonebpklkaaGreat.game
open Go.ChangeShapes Go.WideShapes Go.ChangeAt Go.RowKit dice
set_option maxRecDepth 100000

theorem ste_eq {s u : Ste} : s = u ↔ s.g = u.g ∧ s.ver = u.ver ∧ s.T = u.T := by
  constructor
  · rintro rfl; exact ⟨rfl, rfl, rfl⟩
  · obtain ⟨a, b, c⟩ := s
    obtain ⟨a', b', c'⟩ := u
    rintro ⟨h1, h2, h3⟩
    dsimp only at h1 h2 h3
    rw [h1, h2, h3]
set_option maxHeartbeats 4000000 in
theorem rsameS (s u : Ste) (sl sl' : Value) (w0 : World) (hs : s.wf) (hu : u.wf) (hin : ShotsW w0 sl s.g.L) (hin' : ShotsW w0 sl' u.g.L) (hm : s.g.L.length ≤ 1000) (hm' : u.g.L.length ≤ 1000) :
    Calls Tryz.prog 21 #[.agg (stateC s sl), .agg (stateC u sl')] w0 fun e w' => SameOut (s = u) e ∧ Below w0.heap.size w0 w' := by
  have HSG := Lib.hid (fun w h h' => rsameG s.g u.g sl sl' w hs.g hu.g h h' hm hm')
  have HE := Lib.hid (fun W => eq33w W s.ver u.ver s.T u.T hs.t8 hu.t8 hs.ver hu.ver hs.seats hu.seats)
  have HI1 := Lib.hid hin
  have HI2 := Lib.hid hin'
  have HG1 := Lib.hid (fun j v h => sc_game (s := s) (sl := sl) j v h)
  have HG2 := Lib.hid (fun j v h => sc_game (s := u) (sl := sl') j v h)
  have HO1 := Lib.hid (fun j v h => sc_roster (s := s) (sl := sl) hs.g.s8 j v h)
  have HO2 := Lib.hid (fun j v h => sc_roster (s := u) (sl := sl') hu.g.s8 j v h)
  have Hgs1 := Lib.hid (gc_size (fr := s.g.fr) (d := s.g.d) (sl := sl) hs.g.s8)
  have Hgs2 := Lib.hid (gc_size (fr := u.g.fr) (d := u.g.d) (sl := sl') hu.g.s8)
  have Hrs1 := Lib.hid (rc_size (ver := s.ver) hs.t8)
  have Hrs2 := Lib.hid (rc_size (ver := u.ver) hu.t8)
  have H := Sb.start w0
  obtain ⟨m, hmm⟩ : ∃ m : Prop, (s = u) = m := ⟨_, rfl⟩
  rw [hmm]
  have HM := Lib.hid (show m ↔ s.g = u.g ∧ s.ver = u.ver ∧ s.T = u.T by rw [← hmm]; exact ste_eq)
  clear hmm hs hu hin hin' hm hm'
  generalize stateC s sl = A at *
  generalize stateC u sl' = B at *
  go_enter Tryz.func21, Tryz.ntmps21
  go_wp2_with (first | (refine wb_box H rfl 35 _ rfl A rfl ?_; clear H; intro b2 w H) | (refine wb_box H rfl 35 _ rfl B rfl ?_; clear H; intro b3 w H) | (refine wb_partA H rfl 1 28 _ rfl _ 0 rfl _ _ rfl _ Tryz.underlying28 rfl 59 info28 (gameC s.g.fr s.g.d s.g.S sl) (fun j v h => by rw [Nat.zero_add]; exact HG1.out j v h) Hgs1.out ?_) | (refine wb_partA H rfl 0 28 _ rfl _ 0 rfl _ _ rfl _ Tryz.underlying28 rfl 59 info28 (gameC u.g.fr u.g.d u.g.S sl') (fun j v h => by rw [Nat.zero_add]; exact HG2.out j v h) Hgs2.out ?_))
  refine (HSG.out _ (HI1.out.later H.below) (HI2.out.later H.below)).mono ?_
  rintro e w' ⟨⟨r, rfl, hi⟩, hb⟩
  replace H := H.call hb
  have Hi := Lib.hid hi
  clear hb hi
  cases r with
  | false =>
    go_wp2_with fail
    go_ret
    exact ⟨sameNo (fun h => by have := Hi.out.2 (HM.out.1 h).1; cases this) rfl, H.below⟩
  | true =>
    have hG := Hi.out.1 rfl
    by_cases e2 : s.ver = u.ver ∧ s.T = u.T
    · have he : ∀ W, (Op.equalIn 10000 33 (.agg (rosterC s.ver s.T)) (.agg (rosterC u.ver u.T))).run Tryz.prog W = .ok true W := fun W => by
        obtain ⟨r, hr, hi⟩ := HE.out W
        rw [hi.2 e2] at hr
        exact hr
      have HMt : Hid m := Lib.hid (HM.out.2 ⟨hG, e2⟩)
      clear HE e2 hG HM Hi
      generalize rosterC s.ver s.T = RA at *
      generalize rosterC u.ver u.T = RB at *
      go_wp2_with (first | (refine wb_partA H rfl 1 33 _ rfl _ 59 rfl _ _ rfl _ Tryz.underlying33 rfl 17 info33 RA HO1.out Hrs1.out ?_) | (refine wb_partA H rfl 0 33 _ rfl _ 59 rfl _ _ rfl _ Tryz.underlying33 rfl 17 info33 RB HO2.out Hrs2.out ?_))
      go_ret
      exact ⟨sameYes HMt.out rfl, H.below⟩
    · have he : ∀ W, (Op.equalIn 10000 33 (.agg (rosterC s.ver s.T)) (.agg (rosterC u.ver u.T))).run Tryz.prog W = .ok false W := fun W => by
        obtain ⟨r, hr, hi⟩ := HE.out W
        cases r with
        | true => exact absurd (hi.1 rfl) e2
        | false => exact hr
      have HMf : Hid (¬ m) := Lib.hid (fun h => e2 (HM.out.1 h).2)
      clear HE e2 hG HM Hi
      generalize rosterC s.ver s.T = RA at *
      generalize rosterC u.ver u.T = RB at *
      go_wp2_with (first | (refine wb_partA H rfl 1 33 _ rfl _ 59 rfl _ _ rfl _ Tryz.underlying33 rfl 17 info33 RA HO1.out Hrs1.out ?_) | (refine wb_partA H rfl 0 33 _ rfl _ 59 rfl _ _ rfl _ Tryz.underlying33 rfl 17 info33 RB HO2.out Hrs2.out ?_))
      go_ret
      exact ⟨sameNo HMf.out rfl, H.below⟩
end Go.Proofs.YtdopfonebpklkaaGreat.game
