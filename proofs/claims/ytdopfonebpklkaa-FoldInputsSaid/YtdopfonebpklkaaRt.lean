/- A region that draws its order: more steps (facts that end at different operations; an operation that makes memory). -/
import Derived.Test.YtdopfonebpklkaaRs
import Derived.Test.YtdopfonebpklkaaDice
import Derived.Below
namespace Go.Proofs.Ytdopfonebpklkaa.game
open Go Go.ChangeShapes Go.WideShapes Go.ChangeAt Go.RowKit

section
variable {P : Program} {ops : Array Oper} {Q : Exit → Act → World → Prop}
variable {T : Facts} {fuel : Nat} {listed : Array Bool} {a : Act} {w : World}
theorem HTof {k : Nat} (h : (T.map (·.2.2)).all (· != k) = true) : ∀ t ∈ T, t.2.2 ≠ k := fun t ht e => by
  have := List.all_eq_true.1 h t.2.2 (List.mem_map_of_mem ht)
  simp [e] at this
theorem Held.later {T : Facts} {i : Nat} {listed : Array Bool} {w : World} (h : Held T listed w) (hs : i < listed.size) : Held T (listed.setIfInBounds i true) w := fun t ht hl => by
  by_cases e : i = t.2.2
  · subst e
    simp [Array.getD_eq_getD_getElem?, hs] at hl
  · exact h t ht (by rw [getD_set_ne true e] at hl; exact hl)
/-- A quiet call, alone ready; facts may end here. -/
theorem Gs_call' (k : Nat) {o : Oper} (hi : ops[k]? = some o) (hg : o.guard = none) (dst : Option Tmp) (hd : o.dst = dst) (hr : Region.ready .any ops listed = [k]) (f : FuncId) (vs : Array Value) (hrun : (execOp a.eval o).run P w = .ok (.enter f vs) w)
    (v : Value) (hc : Calls P f vs w fun e w' => e = .returned v ∧ w = w')
    (h : Gs P ops Q T fuel (listed.setIfInBounds k true) (a.put dst v) w) : Gs P ops Q T (fuel + 1) listed a w := by
  intro inv hh
  have hr' : k ∈ Region.ready .any ops listed := by rw [hr]; simp
  refine ⟨fun h0 => (by rw [h0] at hr'; cases hr'), fun i hik => ?_⟩
  rw [hr] at hik
  obtain rfl : i = k := by simpa using hik
  have hsz : i < listed.size := by rw [inv.size]; exact (Array.getElem?_eq_some_iff.1 hi).1
  refine wpOp_of_stOp (K := fun a' => a' = a.put o.dst v) (fun a' ha => ?_) ?_
  · subst ha
    have hh' : Held T (listed.setIfInBounds i true) w := hh.later hsz
    rw [hd]
    exact ⟨hh', h (inv.set hr') hh'⟩
  · unfold stOp
    simp only [hi]
    rw [if_pos (by simp [Region.wanted, hg])]
    unfold Oper.still
    rw [hrun]
    exact ⟨rfl, v, hc.mono fun e w' hh => ⟨hh.1, hh.2.symm⟩, rfl⟩
/-- An operation that only computes, alone ready; facts may end here. -/
theorem Gs_bin' (k : Nat) {o : Oper} (hi : ops[k]? = some o) (hg : o.guard = none) (dst : Option Tmp) (hd : o.dst = dst) (hr : Region.ready .any ops listed = [k]) (v : Value) (hrun : ∀ w, (execOp a.eval o).run P w = .ok (.value v) w)
    (h : Gs P ops Q T fuel (listed.setIfInBounds k true) (a.put dst v) w) : Gs P ops Q T (fuel + 1) listed a w := by
  intro inv hh
  have hr' : k ∈ Region.ready .any ops listed := by rw [hr]; simp
  refine ⟨fun h0 => (by rw [h0] at hr'; cases hr'), fun i hik => ?_⟩
  rw [hr] at hik
  obtain rfl : i = k := by simpa using hik
  have hsz : i < listed.size := by rw [inv.size]; exact (Array.getElem?_eq_some_iff.1 hi).1
  have hh' : Held T (listed.setIfInBounds i true) w := hh.later hsz
  unfold wpOp
  simp only [hi]
  rw [if_pos (by simp [Region.wanted, hg])]
  refine .inl ?_
  unfold Oper.wp
  rw [hrun]
  subst hd
  exact ⟨hh', h (inv.set hr') hh'⟩
theorem cell_alloc_some {w : World} {p : Addr} {v : Value} (ob : Obj) (h : w.cell? p = some v) : (w.alloc ob).cell? p = some v := by
  have hb : p.block < w.heap.size := by
    unfold World.cell? at h
    cases hq : w.heap[p.block]? with
    | none => simp [hq] at h
    | some o => exact (Array.getElem?_eq_some_iff.1 hq).1
  rw [← h]
  exact ((Below.refl w.heap.size w).alloc (Nat.le_refl _) ob).cell hb
/-- An operation that makes memory, alone ready. -/
theorem Gs_alloc (k : Nat) {o : Oper} (hi : ops[k]? = some o) (hg : o.guard = none) (dst : Option Tmp) (hd : o.dst = dst) (hr : Region.ready .any ops listed = [k]) (v : Value) (ob : Obj) (hrun : (execOp a.eval o).run P w = .ok (.value v) (w.alloc ob))
    (h : Gs P ops Q T fuel (listed.setIfInBounds k true) (a.put dst v) (w.alloc ob)) : Gs P ops Q T (fuel + 1) listed a w := by
  intro inv hh
  have hr' : k ∈ Region.ready .any ops listed := by rw [hr]; simp
  refine ⟨fun h0 => (by rw [h0] at hr'; cases hr'), fun i hik => ?_⟩
  rw [hr] at hik
  obtain rfl : i = k := by simpa using hik
  have hsz : i < listed.size := by rw [inv.size]; exact (Array.getElem?_eq_some_iff.1 hi).1
  have hh' : Held T (listed.setIfInBounds i true) (w.alloc ob) := fun t ht hl => cell_alloc_some ob (hh.later hsz t ht hl)
  unfold wpOp
  simp only [hi]
  rw [if_pos (by simp [Region.wanted, hg])]
  refine .inl ?_
  unfold Oper.wp
  rw [hrun]
  subst hd
  exact ⟨hh', h (inv.set hr') hh'⟩
/-- The tail, from the operation d on: forced; all facts have ended. -/
theorem Gs_tail' (d : Nat) (hr : Region.ready .any ops listed = [d]) (hd : (T.map (·.2.2)).all (fun e => (listed.setIfInBounds d true).getD e true) = true) (hB : Region.seqB .any ops (fuel + 1) d listed = true) (hz : (ops.toList.drop d).length = fuel + 1)
    (h : wpList P ops Q (ops.toList.drop d) a w) : Gs P ops Q T (fuel + 1) listed a w := by
  intro inv hh
  have hA := wpAny_of_seq (md := .any) (Q' := Q) (ops.toList.drop d) d listed a w (fun j => by simp [List.getElem?_drop]) (by rw [hz]; exact hB) h
  rw [hz] at hA
  refine ⟨hA.1, fun i hi => wpOp_mono (fun a' w' h' => ?_) (hA.2 i hi)⟩
  have hid : i = d := by rw [hr] at hi; simpa using hi
  have hall : ∀ t ∈ T, (listed.setIfInBounds i true).getD t.2.2 true = true := fun t ht => by
    rw [hid]
    exact List.all_eq_true.1 hd t.2.2 (List.mem_map_of_mem ht)
  exact ⟨fun t ht hl => (by rw [hall t ht] at hl; cases hl), wpAnyS_of_any fuel hall h'⟩
end
end Go.Proofs.Ytdopfonebpklkaa.game
