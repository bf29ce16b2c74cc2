/- Guarded operations in a region that draws: moves, rows, calls that make memory, what is not wanted. -/
import Derived.Test.YtdopfonebpklkaaGy
import Derived.Test.YtdopfonebpklkaaRz
namespace Go.Proofs.Ytdopfonebpklkaa.game
open Go Go.ChangeShapes Go.WideShapes Go.ChangeAt Go.RowKit
set_option maxRecDepth 100000

section
variable {P : Program} {ops : Array Oper} {Q : Exit → Act → World → Prop}
variable {T : Facts} {fuel : Nat} {listed : Array Bool} {a : Act} {w : World}
theorem Gv_move (k : Nat) {o : Oper} (hQ : ∀ (d : Option Tmp) v c a w, Q (.panic c) (a.put d v) w → Q (.panic c) a w) (hs : Region.noSelect ops = true) (hi : ops[k]? = some o) (x : Operand) (ho : o.op = .move x) (hw : Region.wanted o (yielded ops a.tmps) = true) (dst : Option Tmp) (hd : o.dst = dst)
    (hf : Region.free .any ops listed k = true) (hr : (Region.ready .any ops listed).contains k = true) (hT : ∀ t ∈ T, t.2.2 ≠ k) (v : Value) (hv : a.eval x = v)
    (h : Gs P ops Q T fuel (listed.setIfInBounds k true) (a.put dst v) w) : Gs P ops Q T (fuel + 1) listed a w :=
  Gs_take (v := v) (fun _ => True) k hQ hi hs hf hr hT (fun _ _ _ _ _ => trivial) (.inl ⟨hw, fun w _ => by unfold execOp; rw [ho, ← hv]; rfl⟩) (by rw [hd]; exact h)
/-- An operation that reads a row and yields a value. -/
theorem Gv_row (k d : Nat) {o : Oper} (hQ : ∀ (d : Option Tmp) v c a w, Q (.panic c) (a.put d v) w → Q (.panic c) a w) (hs : Region.noSelect ops = true) (hi : ops[k]? = some o) (hw : Region.wanted o (yielded ops a.tmps) = true) (dst : Option Tmp) (hd : o.dst = dst)
    (hf : Region.free .any ops listed k = true) (hr : (Region.ready .any ops listed).contains k = true) (hT : ∀ t ∈ T, t.2.2 ≠ k) (b p : Nat) (vs : List Value)
    (hm : ∀ j v, vs[j]? = some v → ((⟨b, p + j, none⟩ : Addr), v, d) ∈ T) (hwf : Region.waitsFor .any ops d k = true) (v : Value) (hrun : ∀ w : World, w.rangeAt b p vs → (execOp a.eval o).run P w = .ok (.value v) w)
    (h : Gs P ops Q T fuel (listed.setIfInBounds k true) (a.put dst v) w) : Gs P ops Q T (fuel + 1) listed a w := by
  refine Gs_take (v := v) (fun w => w.rangeAt b p vs) k hQ hi hs hf hr hT (fun listed w inv hk hh => ?_) (.inl ⟨hw, fun w hc => hrun w hc⟩) (by rw [hd]; exact h)
  obtain ⟨od, hod, e, he, hb, hon⟩ := Region.waitsFor_spec hwf
  have hlt : d < listed.size := by rw [inv.size]; exact (Array.getElem?_eq_some_iff.1 hod).1
  have hopen : listed.getD d true = false := by
    cases hl : listed.getD d false with
    | true =>
      have := inv.closed d od hod hl e he hb
      rw [hon, getD_both hk] at this
      cases this
    | false => exact getD_in hlt hl
  intro j v hj
  exact hh _ (hm j v hj) hopen
/-- A call that makes memory, alone ready. -/
theorem Gv_callB (k : Nat) {o : Oper} (hi : ops[k]? = some o) (hr : Region.ready .any ops listed = [k]) (dst : Option Tmp) (hd : o.dst = dst) (hw : Region.wanted o (yielded ops a.tmps) = true) (f : FuncId) (vs : Array Value) (hrun : (execOp a.eval o).run P w = .ok (.enter f vs) w)
    {R : Ending → World → Prop} (hc : Calls P f vs w R)
    (h : ∀ e w', R e w' → ∃ v, e = .returned v ∧ Below w.heap.size w w' ∧ Gs P ops Q T fuel (listed.setIfInBounds k true) (a.put dst v) w') : Gs P ops Q T (fuel + 1) listed a w := by
  intro inv hh
  have hr' : k ∈ Region.ready .any ops listed := by rw [hr]; simp
  refine ⟨fun h0 => (by rw [h0] at hr'; cases hr'), fun i hik => ?_⟩
  rw [hr] at hik
  obtain rfl : i = k := by simpa using hik
  have hsz : i < listed.size := by rw [inv.size]; exact (Array.getElem?_eq_some_iff.1 hi).1
  have hh' : Held T (listed.setIfInBounds i true) w := hh.later hsz
  unfold wpOp
  simp only [hi]
  rw [if_pos hw]
  refine .inl ?_
  unfold Oper.wp
  rw [hrun]
  subst hd
  refine Calls.mono hc fun e w' hR => ?_
  obtain ⟨v, rfl, hb, hG⟩ := h e w' hR
  have hw' := hh'.below hb
  exact ⟨hw', hG (inv.set hr') hw'⟩
/-- A guarded operation that is not wanted. -/
theorem Gv_skip (k : Nat) {o : Oper} (hQ : ∀ (d : Option Tmp) v c a w, Q (.panic c) (a.put d v) w → Q (.panic c) a w) (hs : Region.noSelect ops = true) (hi : ops[k]? = some o) (hw : Region.wanted o (yielded ops a.tmps) = false) (dst : Option Tmp) (hd : o.dst = dst)
    (hf : Region.free .any ops listed k = true) (hr : (Region.ready .any ops listed).contains k = true) (hT : ∀ t ∈ T, t.2.2 ≠ k)
    (h : Gs P ops Q T fuel (listed.setIfInBounds k true) (a.put dst undef) w) : Gs P ops Q T (fuel + 1) listed a w :=
  Gs_take (v := undef) (fun _ => True) k hQ hi hs hf hr hT (fun _ _ _ _ _ => trivial) (.inr ⟨hw, rfl⟩) (by rw [hd]; exact h)
/-- An operation that only computes. -/
theorem Gv_bin (k : Nat) {o : Oper} (hQ : ∀ (d : Option Tmp) v c a w, Q (.panic c) (a.put d v) w → Q (.panic c) a w) (hs : Region.noSelect ops = true) (hi : ops[k]? = some o) (hw : Region.wanted o (yielded ops a.tmps) = true) (dst : Option Tmp) (hd : o.dst = dst)
    (hf : Region.free .any ops listed k = true) (hr : (Region.ready .any ops listed).contains k = true) (hT : ∀ t ∈ T, t.2.2 ≠ k) (v : Value) (hrun : ∀ w, (execOp a.eval o).run P w = .ok (.value v) w)
    (h : Gs P ops Q T fuel (listed.setIfInBounds k true) (a.put dst v) w) : Gs P ops Q T (fuel + 1) listed a w :=
  Gs_take (v := v) (fun _ => True) k hQ hi hs hf hr hT (fun _ _ _ _ _ => trivial) (.inl ⟨hw, fun w _ => hrun w⟩) (by rw [hd]; exact h)
/-- d waits for k by a chain. -/
def chainB (ops : Array Oper) : Nat → List Nat → Nat → Bool
  | d, [], k => Region.waitsFor .any ops d k
  | d, m :: ms, k => Region.waitsFor .any ops d m && chainB ops m ms k
theorem chain_one {listed : Array Bool} {d k : Nat} (h : Region.waitsFor .any ops d k = true) (inv : Closed .any ops listed) (hk : listed.getD k true = false) : listed.getD d true = false := by
  obtain ⟨od, hod, e, he, hb, hon⟩ := Region.waitsFor_spec h
  have hlt : d < listed.size := by rw [inv.size]; exact (Array.getElem?_eq_some_iff.1 hod).1
  cases hl : listed.getD d false with
  | true =>
    have := inv.closed d od hod hl e he hb
    rw [hon, getD_both hk] at this
    cases this
  | false => exact getD_in hlt hl
theorem chain_open {listed : Array Bool} : ∀ (ms : List Nat) (d k : Nat), chainB ops d ms k = true → Closed .any ops listed → listed.getD k true = false → listed.getD d true = false
  | [], _, _, h, inv, hk => chain_one h inv hk
  | m :: ms, d, k, h, inv, hk => by
    unfold chainB at h
    rw [Bool.and_eq_true] at h
    exact chain_one h.1 inv (chain_open ms m k h.2 inv hk)
theorem Gv_loadC (k d : Nat) (ms : List Nat) {o : Oper} (hQ : ∀ (d : Option Tmp) v c a w, Q (.panic c) (a.put d v) w → Q (.panic c) a w) (hs : Region.noSelect ops = true) (hi : ops[k]? = some o) (ty : TypeId) (x : Operand) (ho : o.op = .load ty x) (hw : Region.wanted o (yielded ops a.tmps) = true) (dst : Option Tmp) (hd : o.dst = dst)
    (hf : Region.free .any ops listed k = true) (hr : (Region.ready .any ops listed).contains k = true) (hT : ∀ t ∈ T, t.2.2 ≠ k) (p : Addr) (hv : a.eval x = .pointer (some p)) (ha : ∀ w, (isAgg ty).run P w = .ok false w)
    (v : Value) (hm : (p, v, d) ∈ T) (hwf : chainB ops d ms k = true)
    (h : Gs P ops Q T fuel (listed.setIfInBounds k true) (a.put dst v) w) : Gs P ops Q T (fuel + 1) listed a w := by
  refine Gs_take (v := v) (fun w => w.cell? p = some v) k hQ hi hs hf hr hT (fun listed w inv hk hh => hh _ hm (chain_open ms d k hwf inv hk)) (.inl ⟨hw, fun w hc => ?_⟩) (by rw [hd]; exact h)
  unfold execOp
  rw [ho]
  simp only [hv, Sem.run_bind, Instr.loadAt, Instr.sureAddr, Sem.run_pure, Result.andThen_ok, loadVar, ha, Bool.false_eq_true, if_false, run_load, hc]
theorem Gv_loadRowC (k d : Nat) (ms : List Nat) {o : Oper} (hQ : ∀ (d : Option Tmp) v c a w, Q (.panic c) (a.put d v) w → Q (.panic c) a w) (hs : Region.noSelect ops = true) (hi : ops[k]? = some o) (ty : TypeId) (x : Operand) (ho : o.op = .load ty x) (hw : Region.wanted o (yielded ops a.tmps) = true) (dst : Option Tmp) (hd : o.dst = dst)
    (hf : Region.free .any ops listed k = true) (hr : (Region.ready .any ops listed).contains k = true) (hT : ∀ t ∈ T, t.2.2 ≠ k) (b p : Nat) (hv : a.eval x = .pointer (some ⟨b, p, none⟩)) (vs : List Value)
    (hm : ∀ j v, vs[j]? = some v → ((⟨b, p + j, none⟩ : Addr), v, d) ∈ T) (hwf : chainB ops d ms k = true) (ds : TypeDesc) (hu : P.underlying ty = some ds) (hrow : ds.isRow = true) (hsz : (P.info? ty).map (·.size) = some vs.length)
    (h : Gs P ops Q T fuel (listed.setIfInBounds k true) (a.put dst (.agg vs.toArray)) w) : Gs P ops Q T (fuel + 1) listed a w :=
  Gs_take (v := .agg vs.toArray) (fun w => w.rangeAt b p vs) k hQ hi hs hf hr hT (fun listed w inv hk hh j v hj => hh _ (hm j v hj) (chain_open ms d k hwf inv hk)) (yieldsIf_load_mid hw ty x ho b p hv vs ds (fun _ h => h) hu hrow hsz) (by rw [hd]; exact h)
end
end Go.Proofs.Ytdopfonebpklkaa.game
