/- A region that draws its order: a whole row is loaded; a call that makes memory, alone ready. -/
import Derived.Test.YtdopfonebpklkaaRt
import Derived.Deep.MidRow
namespace Go.Proofs.Ytdopfonebpklkaa.game
open Go Go.ChangeShapes Go.WideShapes Go.ChangeAt Go.RowKit

section
variable {P : Program} {ops : Array Oper} {Q : Exit → Act → World → Prop}
variable {T : Facts} {fuel : Nat} {listed : Array Bool} {a : Act} {w : World}
theorem Gs_loadRow (k d : Nat) {o : Oper} (hQ : ∀ (d : Option Tmp) v c a w, Q (.panic c) (a.put d v) w → Q (.panic c) a w) (hs : Region.noSelect ops = true) (hi : ops[k]? = some o) (ty : TypeId) (x : Operand) (ho : o.op = .load ty x) (hg : o.guard = none) (dst : Option Tmp) (hd : o.dst = dst)
    (hf : Region.free .any ops listed k = true) (hr : (Region.ready .any ops listed).contains k = true) (hT : ∀ t ∈ T, t.2.2 ≠ k) (b p : Nat) (hv : a.eval x = .pointer (some ⟨b, p, none⟩)) (vs : List Value)
    (hm : ∀ j v, vs[j]? = some v → ((⟨b, p + j, none⟩ : Addr), v, d) ∈ T) (hw : Region.waitsFor .any ops d k = true) (ds : TypeDesc) (hu : P.underlying ty = some ds) (hrow : ds.isRow = true) (hsz : (P.info? ty).map (·.size) = some vs.length)
    (h : Gs P ops Q T fuel (listed.setIfInBounds k true) (a.put dst (.agg vs.toArray)) w) : Gs P ops Q T (fuel + 1) listed a w := by
  refine Gs_take (v := .agg vs.toArray) (fun w => w.rangeAt b p vs) k hQ hi hs hf hr hT (fun listed w inv hk hh => ?_) (yieldsIf_load_mid (by simp [Region.wanted, hg]) ty x ho b p hv vs ds (fun _ h => h) hu hrow hsz) (by rw [hd]; exact h)
  obtain ⟨od, hod, e, he, hb, hon⟩ := Region.waitsFor_spec hw
  have hlt : d < listed.size := by rw [inv.size]; exact (Array.getElem?_eq_some_iff.1 hod).1
  have hopen : listed.getD d true = false := by
    cases hl : listed.getD d false with
    | true =>
      have := inv.closed d od hod hl e he hb
      rw [hon, getD_both hk] at this
      cases this
    | false => exact getD_in hlt hl
  intro j v hj
  exact hh _ (hm j v hj) hopen
theorem Gs_callB (k : Nat) {o : Oper} (hi : ops[k]? = some o) (hg : o.guard = none) (dst : Option Tmp) (hd : o.dst = dst) (hr : Region.ready .any ops listed = [k]) (f : FuncId) (vs : Array Value) (hrun : (execOp a.eval o).run P w = .ok (.enter f vs) w)
    {R : Ending → World → Prop} (hc : Calls P f vs w R)
    (h : ∀ e w', R e w' → ∃ v, e = .returned v ∧ Below w.heap.size w w' ∧ Gs P ops Q T fuel (listed.setIfInBounds k true) (a.put dst v) w') : Gs P ops Q T (fuel + 1) listed a w := by
  intro inv hh
  have hr' : k ∈ Region.ready .any ops listed := by rw [hr]; simp
  refine ⟨fun h0 => (by rw [h0] at hr'; cases hr'), fun i hik => ?_⟩
  rw [hr] at hik
  obtain rfl : i = k := by simpa using hik
  have hsz : i < listed.size := by rw [inv.size]; exact (Array.getElem?_eq_some_iff.1 hi).1
  have hh' : Held T (listed.setIfInBounds i true) w := hh.later hsz
  unfold wpOp
  simp only [hi]
  rw [if_pos (by simp [Region.wanted, hg])]
  refine .inl ?_
  unfold Oper.wp
  rw [hrun]
  subst hd
  refine Calls.mono hc fun e w' hR => ?_
  obtain ⟨v, rfl, hb, hG⟩ := h e w' hR
  have hw' : Held T (listed.setIfInBounds i true) w' := fun t ht hl => by
    have hc0 := hh' t ht hl
    have hlt : t.1.block < w.heap.size := by
      unfold World.cell? at hc0
      cases hq : w.heap[t.1.block]? with
      | none => simp [hq] at hc0
      | some o => exact (Array.getElem?_eq_some_iff.1 hq).1
    rw [hb.cell hlt]
    exact hc0
  exact ⟨hw', hG (inv.set hr') hw'⟩
end
end Go.Proofs.Ytdopfonebpklkaa.game
