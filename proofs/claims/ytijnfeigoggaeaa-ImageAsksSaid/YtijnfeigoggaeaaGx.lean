/- A region that draws its order, where a panic goes on to deferred calls: what is posted of a panic may depend on some slots. -/
import Derived.Test.YtijnfeigoggaeaaGd
import Derived.Test.YtijnfeigoggaeaaRt
namespace Go.Proofs.Ytijnfeigoggaeaa.game
open Go Go.ChangeShapes Go.WideShapes Go.ChangeAt Go.RowKit

section
variable {P : Program} {ops : Array Oper} {Q : Exit → Act → World → Prop}
variable {T : Facts} {fuel : Nat} {listed : Array Bool} {a : Act} {w : World}
/-- Take number k first. -/
theorem Gp_take (F : World → Prop) (k : Nat) {o : Oper} {v : Value} (hQ : ∀ v c a w, Q (.panic c) (a.put o.dst v) w → Q (.panic c) a w) (hi : ops[k]? = some o)
    (hs : Region.noSelect ops = true) (hf : Region.free .any ops listed k = true) (hr : (Region.ready .any ops listed).contains k = true) (hT : ∀ t ∈ T, t.2.2 ≠ k)
    (hF : ∀ listed w, Closed .any ops listed → listed.getD k true = false → Held T listed w → F w) (hy : YieldsIf P ops F o v a)
    (h : Gs P ops Q T fuel (listed.setIfInBounds k true) (a.put o.dst v) w) : Gs P ops Q T (fuel + 1) listed a w := by
  intro inv hh
  have hr' : k ∈ Region.ready .any ops listed := by simpa using hr
  refine wpAnyS_first hi (Region.noSelect_spec hs) (fun c a w => hQ _ c a w) hT hF fuel listed a w inv (Region.free_spec hi hf) hr' hy hh (h (inv.set hr') ?_)
  intro t ht hl
  exact hh t ht (by rw [getD_set_ne true (fun e => hT t ht e.symm)] at hl; exact hl)
theorem Gp_move (k : Nat) {o : Oper} (hQ : ∀ v c a w, Q (.panic c) (a.put o.dst v) w → Q (.panic c) a w) (hs : Region.noSelect ops = true) (hi : ops[k]? = some o) (x : Operand) (ho : o.op = .move x) (hg : o.guard = none) (dst : Option Tmp) (hd : o.dst = dst)
    (hf : Region.free .any ops listed k = true) (hr : (Region.ready .any ops listed).contains k = true) (hT : ∀ t ∈ T, t.2.2 ≠ k) (v : Value) (hv : a.eval x = v)
    (h : Gs P ops Q T fuel (listed.setIfInBounds k true) (a.put dst v) w) : Gs P ops Q T (fuel + 1) listed a w :=
  Gp_take (v := v) (fun _ => True) k hQ hi hs hf hr hT (fun _ _ _ _ _ => trivial) (.inl ⟨by simp [Region.wanted, hg], fun w _ => by unfold execOp; rw [ho, ← hv]; rfl⟩) (by rw [hd]; exact h)
theorem Gp_nil (k : Nat) {o : Oper} (hQ : ∀ v c a w, Q (.panic c) (a.put o.dst v) w → Q (.panic c) a w) (hs : Region.noSelect ops = true) (hi : ops[k]? = some o) (x : Operand) (ho : o.op = .nilCheck x) (hg : o.guard = none) (dst : Option Tmp) (hd : o.dst = dst)
    (hf : Region.free .any ops listed k = true) (hr : (Region.ready .any ops listed).contains k = true) (hT : ∀ t ∈ T, t.2.2 ≠ k) (p : Addr) (hv : a.eval x = .pointer (some p))
    (h : Gs P ops Q T fuel (listed.setIfInBounds k true) (a.put dst (.pointer (some p))) w) : Gs P ops Q T (fuel + 1) listed a w :=
  Gp_take (v := .pointer (some p)) (fun _ => True) k hQ hi hs hf hr hT (fun _ _ _ _ _ => trivial) (.inl ⟨by simp [Region.wanted, hg], fun w _ => by unfold execOp; rw [ho]; simp only [hv]; rfl⟩) (by rw [hd]; exact h)
theorem Gp_field (k : Nat) {o : Oper} (hQ : ∀ v c a w, Q (.panic c) (a.put o.dst v) w → Q (.panic c) a w) (hs : Region.noSelect ops = true) (hi : ops[k]? = some o) (ty : TypeId) (x : Operand) (j : Nat) (ho : o.op = .fieldAddr ty x j) (hg : o.guard = none) (dst : Option Tmp) (hd : o.dst = dst)
    (hf : Region.free .any ops listed k = true) (hr : (Region.ready .any ops listed).contains k = true) (hT : ∀ t ∈ T, t.2.2 ≠ k) (p q : Addr) (hv : a.eval x = .pointer (some p)) (hrun : ∀ w, (Instr.fieldAt ty (.pointer (some p)) j).run P w = .ok (.pointer (some q)) w)
    (h : Gs P ops Q T fuel (listed.setIfInBounds k true) (a.put dst (.pointer (some q))) w) : Gs P ops Q T (fuel + 1) listed a w :=
  Gp_take (v := .pointer (some q)) (fun _ => True) k hQ hi hs hf hr hT (fun _ _ _ _ _ => trivial) (.inl ⟨by simp [Region.wanted, hg], fun w _ => by unfold execOp; rw [ho]; simp only [hv, Sem.run_bind, hrun, Result.andThen_ok, Sem.run_pure]⟩) (by rw [hd]; exact h)
theorem Gp_load (k d : Nat) {o : Oper} (hQ : ∀ v c a w, Q (.panic c) (a.put o.dst v) w → Q (.panic c) a w) (hs : Region.noSelect ops = true) (hi : ops[k]? = some o) (ty : TypeId) (x : Operand) (ho : o.op = .load ty x) (hg : o.guard = none) (dst : Option Tmp) (hd : o.dst = dst)
    (hf : Region.free .any ops listed k = true) (hr : (Region.ready .any ops listed).contains k = true) (hT : ∀ t ∈ T, t.2.2 ≠ k) (p : Addr) (hv : a.eval x = .pointer (some p)) (ha : ∀ w, (isAgg ty).run P w = .ok false w)
    (v : Value) (hm : (p, v, d) ∈ T) (hw : Region.waitsFor .any ops d k = true)
    (h : Gs P ops Q T fuel (listed.setIfInBounds k true) (a.put dst v) w) : Gs P ops Q T (fuel + 1) listed a w := by
  refine Gp_take (v := v) (fun w => w.cell? p = some v) k hQ hi hs hf hr hT (fun listed w inv hk hh => ?_) (.inl ⟨by simp [Region.wanted, hg], fun w hc => ?_⟩) (by rw [hd]; exact h)
  · obtain ⟨od, hod, e, he, hb, hon⟩ := Region.waitsFor_spec hw
    refine hh _ hm ?_
    have hlt : d < listed.size := by rw [inv.size]; exact (Array.getElem?_eq_some_iff.1 hod).1
    cases hl : listed.getD d false with
    | true =>
      have := inv.closed d od hod hl e he hb
      rw [hon, getD_both hk] at this
      cases this
    | false => exact getD_in hlt hl
  · unfold execOp
    rw [ho]
    simp only [hv, Sem.run_bind, Instr.loadAt, Instr.sureAddr, Sem.run_pure, Result.andThen_ok, loadVar, ha, Bool.false_eq_true, if_false, run_load, hc]
theorem Gp_bin (k : Nat) {o : Oper} (hQ : ∀ v c a w, Q (.panic c) (a.put o.dst v) w → Q (.panic c) a w) (hs : Region.noSelect ops = true) (hi : ops[k]? = some o) (hg : o.guard = none) (dst : Option Tmp) (hd : o.dst = dst)
    (hf : Region.free .any ops listed k = true) (hr : (Region.ready .any ops listed).contains k = true) (hT : ∀ t ∈ T, t.2.2 ≠ k) (v : Value) (hrun : ∀ w, (execOp a.eval o).run P w = .ok (.value v) w)
    (h : Gs P ops Q T fuel (listed.setIfInBounds k true) (a.put dst v) w) : Gs P ops Q T (fuel + 1) listed a w :=
  Gp_take (v := v) (fun _ => True) k hQ hi hs hf hr hT (fun _ _ _ _ _ => trivial) (.inl ⟨by simp [Region.wanted, hg], fun w _ => hrun w⟩) (by rw [hd]; exact h)
/-- A call that returns or panics, alone ready; the facts that hold still hold behind it. -/
theorem Gp_call (k : Nat) {o : Oper} (hi : ops[k]? = some o) (hg : o.guard = none) (dst : Option Tmp) (hd : o.dst = dst) (hr : Region.ready .any ops listed = [k]) (f : FuncId) (vs : Array Value) (hrun : (execOp a.eval o).run P w = .ok (.enter f vs) w)
    {R : Ending → World → Prop} (hc : Calls P f vs w R)
    (h : ∀ e w', R e w' → (∃ c, e = .panicked c ∧ Q (.panic c) a w') ∨ ∃ v, e = .returned v ∧ (∀ t ∈ T, w'.cell? t.1 = some t.2.1) ∧ Gs P ops Q T fuel (listed.setIfInBounds k true) (a.put dst v) w') : Gs P ops Q T (fuel + 1) listed a w := by
  intro inv hh
  have hr' : k ∈ Region.ready .any ops listed := by rw [hr]; simp
  refine ⟨fun h0 => (by rw [h0] at hr'; cases hr'), fun i hik => ?_⟩
  rw [hr] at hik
  obtain rfl : i = k := by simpa using hik
  unfold wpOp
  simp only [hi]
  rw [if_pos (by simp [Region.wanted, hg])]
  refine .inl ?_
  unfold Oper.wp
  rw [hrun]
  subst hd
  refine Calls.mono hc fun e w' hR => ?_
  rcases h e w' hR with ⟨c, rfl, hq⟩ | ⟨v, rfl, hT, hG⟩
  · exact hq
  · have hw' : Held T (listed.setIfInBounds i true) w' := fun t ht _ => hT t ht
    exact ⟨hw', hG (inv.set hr') hw'⟩
end
theorem results_put {tmps : Array Value} {d : Nat} {v : Value} (h2 : d ≠ 2) (h3 : d ≠ 3) : results Try.f19 (tmps.setIfInBounds d v) = results Try.f19 tmps := by
  simp only [results, Try.results19]
  have e2 : (tmps.setIfInBounds d v)[2]? = tmps[2]? := Array.getElem?_setIfInBounds_ne h2
  have e3 : (tmps.setIfInBounds d v)[3]? = tmps[3]? := Array.getElem?_setIfInBounds_ne h3
  simp [e2, e3]
theorem leaves_put {R : Ending → World → Prop} {tmps : Array Value} {d : Nat} {v : Value} (h2 : d ≠ 2) (h3 : d ≠ 3) : ∀ (D : List Deferred) (u : FrameMode) (w : World),
    Leaves Try.prog Try.f19 (tmps.setIfInBounds d v) R D u w → Leaves Try.prog Try.f19 tmps R D u w
  | [], .returning, w, h => by
    obtain ⟨v', hr, hR⟩ := h
    rw [results_put h2 h3] at hr
    exact ⟨v', hr, hR⟩
  | [], .panicking _, w, h => h
  | [], .run, w, h => h
  | x :: D, u, w, h => by
    obtain ⟨hu, fv, cap, f, args, ht, hi, hc⟩ := h
    refine ⟨hu, fv, cap, f, args, ht, hi, hc.mono fun e u' w' hh => ?_⟩
    cases e with
    | returned v' => exact leaves_put h2 h3 D _ _ hh
    | panicked c => exact leaves_put h2 h3 D _ _ hh
    | outgrown => exact hh
end Go.Proofs.Ytijnfeigoggaeaa.game
