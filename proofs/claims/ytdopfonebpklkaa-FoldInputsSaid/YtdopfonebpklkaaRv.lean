/- A region that draws its order: facts by rows; a call and a fresh variable in either order. -/
import Derived.Test.YtdopfonebpklkaaRu
namespace Go.Proofs.Ytdopfonebpklkaa.game
open Go Go.ChangeShapes Go.WideShapes Go.ChangeAt Go.RowKit

/-- A row's cells as facts. -/
def rowF (b o : Nat) (vs : List Value) (d : Nat) : Facts := vs.zipIdx.map fun p => ((⟨b, o + p.2, none⟩ : Addr), p.1, d)
theorem mem_rowF {b o d j : Nat} {vs : List Value} {v : Value} (h : vs[j]? = some v) : ((⟨b, o + j, none⟩ : Addr), v, d) ∈ rowF b o vs d := by
  unfold rowF
  rw [List.mem_map]
  exact ⟨(v, j), List.mem_zipIdx_iff_getElem?.2 (by simpa using h), rfl⟩
theorem rowF_d {b o d : Nat} {vs : List Value} : ∀ t ∈ rowF b o vs d, t.2.2 = d := fun t ht => by
  unfold rowF at ht
  obtain ⟨p, _, rfl⟩ := List.mem_map.1 ht
  rfl
theorem rowF_holds {b o d : Nat} {vs : List Value} {w : World} (h : w.rangeAt b o vs) : ∀ t ∈ rowF b o vs d, w.cell? t.1 = some t.2.1 := fun t ht => by
  unfold rowF at ht
  obtain ⟨⟨v, j⟩, hp, rfl⟩ := List.mem_map.1 ht
  exact h j v (by simpa using List.mem_zipIdx_iff_getElem?.1 hp)
section
variable {P : Program} {ops : Array Oper} {Q : Exit → Act → World → Prop}
variable {T : Facts} {fuel : Nat} {listed : Array Bool} {a : Act} {w : World}
theorem cell_lt {w : World} {p : Addr} {v : Value} (h : w.cell? p = some v) : p.block < w.heap.size := by
  unfold World.cell? at h
  cases hq : w.heap[p.block]? with
  | none => simp [hq] at h
  | some o => exact (Array.getElem?_eq_some_iff.1 hq).1
theorem Held.below {T : Facts} {listed : Array Bool} {w w' : World} (h : Held T listed w) (hb : Below w.heap.size w w') : Held T listed w' := fun t ht hl => by
  have hc := h t ht hl
  rw [hb.cell (cell_lt hc)]
  exact hc
/-- A call that makes memory (k) and a fresh variable (m) are ready, nothing else: both orders. -/
theorem Gs_two (k m : Nat) {o om : Oper} (hi : ops[k]? = some o) (hg : o.guard = none) (dst : Option Tmp) (hd : o.dst = dst) (him : ops[m]? = some om) (hgm : om.guard = none) (dm : Option Tmp) (hdm : om.dst = dm) (hr : Region.ready .any ops listed = [k, m])
    (f : FuncId) (vs : Array Value) (hrun : (execOp a.eval o).run P w = .ok (.enter f vs) w) {R : Ending → World → Prop} (hc : Calls P f vs w R)
    (v : Value) (ob : Obj) (hrunm : (execOp a.eval om).run P w = .ok (.value v) (w.alloc ob))
    (h1 : ∀ e w', R e w' → ∃ v, e = .returned v ∧ Below w.heap.size w w' ∧ Gs P ops Q T fuel (listed.setIfInBounds k true) (a.put dst v) w')
    (h2 : Gs P ops Q T fuel (listed.setIfInBounds m true) (a.put dm v) (w.alloc ob)) : Gs P ops Q T (fuel + 1) listed a w := by
  intro inv hh
  have hk : k ∈ Region.ready .any ops listed := by rw [hr]; simp
  have hm : m ∈ Region.ready .any ops listed := by rw [hr]; simp
  refine ⟨fun h0 => (by rw [h0] at hk; cases hk), fun i hik => ?_⟩
  have hsz : ∀ i o, ops[i]? = some o → i < listed.size := fun i o h => by rw [inv.size]; exact (Array.getElem?_eq_some_iff.1 h).1
  rw [hr] at hik
  have hik' : i = k ∨ i = m := by simpa using hik
  rcases hik' with rfl | rfl
  · have hh' : Held T (listed.setIfInBounds i true) w := hh.later (hsz i o hi)
    unfold wpOp
    simp only [hi]
    rw [if_pos (by simp [Region.wanted, hg])]
    refine .inl ?_
    unfold Oper.wp
    rw [hrun]
    subst hd
    refine Calls.mono hc fun e w' hR => ?_
    obtain ⟨v, rfl, hb, hG⟩ := h1 e w' hR
    have hw' := hh'.below hb
    exact ⟨hw', hG (inv.set hk) hw'⟩
  · have hh' : Held T (listed.setIfInBounds i true) (w.alloc ob) := fun t ht hl => cell_alloc_some ob (hh.later (hsz i om him) t ht hl)
    unfold wpOp
    simp only [him]
    rw [if_pos (by simp [Region.wanted, hgm])]
    refine .inl ?_
    unfold Oper.wp
    rw [hrunm]
    subst hdm
    exact ⟨hh', h2 (inv.set hm) hh'⟩
end
end Go.Proofs.Ytdopfonebpklkaa.game
