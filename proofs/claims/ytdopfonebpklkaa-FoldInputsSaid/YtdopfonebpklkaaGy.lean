/- A region that draws its order: guarded operations. -/
import Derived.Test.YtdopfonebpklkaaRt
import Derived.Deep.MidRow
namespace Go.Proofs.Ytdopfonebpklkaa.game
open Go Go.ChangeShapes Go.WideShapes Go.ChangeAt Go.RowKit

section
variable {P : Program} {ops : Array Oper} {Q : Exit → Act → World → Prop}
variable {T : Facts} {fuel : Nat} {listed : Array Bool} {a : Act} {w : World}
/-- An operation that yields a value, alone ready. -/
theorem Gv_val (k : Nat) {o : Oper} (hi : ops[k]? = some o) (hr : Region.ready .any ops listed = [k]) (dst : Option Tmp) (hd : o.dst = dst) (hw : Region.wanted o (yielded ops a.tmps) = true) (v : Value) (hrun : (execOp a.eval o).run P w = .ok (.value v) w)
    (h : Gs P ops Q T fuel (listed.setIfInBounds k true) (a.put dst v) w) : Gs P ops Q T (fuel + 1) listed a w := by
  intro inv hh
  have hr' : k ∈ Region.ready .any ops listed := by rw [hr]; simp
  refine ⟨fun h0 => (by rw [h0] at hr'; cases hr'), fun i hik => ?_⟩
  rw [hr] at hik
  obtain rfl : i = k := by simpa using hik
  have hsz : i < listed.size := by rw [inv.size]; exact (Array.getElem?_eq_some_iff.1 hi).1
  have hh' : Held T (listed.setIfInBounds i true) w := hh.later hsz
  unfold wpOp
  simp only [hi]
  rw [if_pos hw]
  refine .inl ?_
  unfold Oper.wp
  rw [hrun]
  subst hd
  exact ⟨hh', h (inv.set hr') hh'⟩
/-- A call, alone ready. -/
theorem Gv_call (k : Nat) {o : Oper} (hi : ops[k]? = some o) (hr : Region.ready .any ops listed = [k]) (dst : Option Tmp) (hd : o.dst = dst) (hw : Region.wanted o (yielded ops a.tmps) = true) (f : FuncId) (vs : Array Value) (hrun : (execOp a.eval o).run P w = .ok (.enter f vs) w)
    (v : Value) (hc : Calls P f vs w fun e w' => e = .returned v ∧ w = w')
    (h : Gs P ops Q T fuel (listed.setIfInBounds k true) (a.put dst v) w) : Gs P ops Q T (fuel + 1) listed a w := by
  intro inv hh
  have hr' : k ∈ Region.ready .any ops listed := by rw [hr]; simp
  refine ⟨fun h0 => (by rw [h0] at hr'; cases hr'), fun i hik => ?_⟩
  rw [hr] at hik
  obtain rfl : i = k := by simpa using hik
  have hsz : i < listed.size := by rw [inv.size]; exact (Array.getElem?_eq_some_iff.1 hi).1
  have hh' : Held T (listed.setIfInBounds i true) w := hh.later hsz
  unfold wpOp
  simp only [hi]
  rw [if_pos hw]
  refine .inl ?_
  unfold Oper.wp
  rw [hrun]
  subst hd
  refine Calls.mono hc fun e w' hR => ?_
  obtain ⟨rfl, rfl⟩ := hR
  exact ⟨hh', h (inv.set hr') hh'⟩
theorem Gv_field (k : Nat) {o : Oper} (hQ : ∀ (d : Option Tmp) v c a w, Q (.panic c) (a.put d v) w → Q (.panic c) a w) (hs : Region.noSelect ops = true) (hi : ops[k]? = some o) (ty : TypeId) (x : Operand) (j : Nat) (ho : o.op = .fieldAddr ty x j) (hw : Region.wanted o (yielded ops a.tmps) = true) (dst : Option Tmp) (hd : o.dst = dst)
    (hf : Region.free .any ops listed k = true) (hr : (Region.ready .any ops listed).contains k = true) (hT : ∀ t ∈ T, t.2.2 ≠ k) (p q : Addr) (hv : a.eval x = .pointer (some p)) (hrun : ∀ w, (Instr.fieldAt ty (.pointer (some p)) j).run P w = .ok (.pointer (some q)) w)
    (h : Gs P ops Q T fuel (listed.setIfInBounds k true) (a.put dst (.pointer (some q))) w) : Gs P ops Q T (fuel + 1) listed a w :=
  Gs_take (v := .pointer (some q)) (fun _ => True) k hQ hi hs hf hr hT (fun _ _ _ _ _ => trivial) (.inl ⟨hw, fun w _ => by unfold execOp; rw [ho]; simp only [hv, Sem.run_bind, hrun, Result.andThen_ok, Sem.run_pure]⟩) (by rw [hd]; exact h)
theorem Gv_load (k d : Nat) {o : Oper} (hQ : ∀ (d : Option Tmp) v c a w, Q (.panic c) (a.put d v) w → Q (.panic c) a w) (hs : Region.noSelect ops = true) (hi : ops[k]? = some o) (ty : TypeId) (x : Operand) (ho : o.op = .load ty x) (hw : Region.wanted o (yielded ops a.tmps) = true) (dst : Option Tmp) (hd : o.dst = dst)
    (hf : Region.free .any ops listed k = true) (hr : (Region.ready .any ops listed).contains k = true) (hT : ∀ t ∈ T, t.2.2 ≠ k) (p : Addr) (hv : a.eval x = .pointer (some p)) (ha : ∀ w, (isAgg ty).run P w = .ok false w)
    (v : Value) (hm : (p, v, d) ∈ T) (hwf : Region.waitsFor .any ops d k = true)
    (h : Gs P ops Q T fuel (listed.setIfInBounds k true) (a.put dst v) w) : Gs P ops Q T (fuel + 1) listed a w := by
  refine Gs_take (v := v) (fun w => w.cell? p = some v) k hQ hi hs hf hr hT (fun listed w inv hk hh => ?_) (.inl ⟨hw, fun w hc => ?_⟩) (by rw [hd]; exact h)
  · obtain ⟨od, hod, e, he, hb, hon⟩ := Region.waitsFor_spec hwf
    refine hh _ hm ?_
    have hlt : d < listed.size := by rw [inv.size]; exact (Array.getElem?_eq_some_iff.1 hod).1
    cases hl : listed.getD d false with
    | true =>
      have := inv.closed d od hod hl e he hb
      rw [hon, getD_both hk] at this
      cases this
    | false => exact getD_in hlt hl
  · unfold execOp
    rw [ho]
    simp only [hv, Sem.run_bind, Instr.loadAt, Instr.sureAddr, Sem.run_pure, Result.andThen_ok, loadVar, ha, Bool.false_eq_true, if_false, run_load, hc]
theorem Gv_loadRow (k d : Nat) {o : Oper} (hQ : ∀ (d : Option Tmp) v c a w, Q (.panic c) (a.put d v) w → Q (.panic c) a w) (hs : Region.noSelect ops = true) (hi : ops[k]? = some o) (ty : TypeId) (x : Operand) (ho : o.op = .load ty x) (hw : Region.wanted o (yielded ops a.tmps) = true) (dst : Option Tmp) (hd : o.dst = dst)
    (hf : Region.free .any ops listed k = true) (hr : (Region.ready .any ops listed).contains k = true) (hT : ∀ t ∈ T, t.2.2 ≠ k) (b p : Nat) (hv : a.eval x = .pointer (some ⟨b, p, none⟩)) (vs : List Value)
    (hm : ∀ j v, vs[j]? = some v → ((⟨b, p + j, none⟩ : Addr), v, d) ∈ T) (hwf : Region.waitsFor .any ops d k = true) (ds : TypeDesc) (hu : P.underlying ty = some ds) (hrow : ds.isRow = true) (hsz : (P.info? ty).map (·.size) = some vs.length)
    (h : Gs P ops Q T fuel (listed.setIfInBounds k true) (a.put dst (.agg vs.toArray)) w) : Gs P ops Q T (fuel + 1) listed a w := by
  refine Gs_take (v := .agg vs.toArray) (fun w => w.rangeAt b p vs) k hQ hi hs hf hr hT (fun listed w inv hk hh => ?_) (yieldsIf_load_mid hw ty x ho b p hv vs ds (fun _ h => h) hu hrow hsz) (by rw [hd]; exact h)
  obtain ⟨od, hod, e, he, hb, hon⟩ := Region.waitsFor_spec hwf
  have hlt : d < listed.size := by rw [inv.size]; exact (Array.getElem?_eq_some_iff.1 hod).1
  have hopen : listed.getD d true = false := by
    cases hl : listed.getD d false with
    | true =>
      have := inv.closed d od hod hl e he hb
      rw [hon, getD_both hk] at this
      cases this
    | false => exact getD_in hlt hl
  intro j v hj
  exact hh _ (hm j v hj) hopen
end
end Go.Proofs.Ytdopfonebpklkaa.game
