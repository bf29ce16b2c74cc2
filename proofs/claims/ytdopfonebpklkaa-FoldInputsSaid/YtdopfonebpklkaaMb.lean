/- Memory in a walk: blocks of the call's own and blocks that were handed in (Hs), and rows of shots. -/
import Derived.Test.YtdopfonebpklkaaCl
namespace Go.Proofs.Ytdopfonebpklkaa.game
open Go.ChangeShapes Go.WideShapes Go.ChangeAt Go.RowKit dice
set_option maxRecDepth 100000

abbrev Blk := Nat × Array Value × TypeId
abbrev RowS := Value × List Sht
/-- Blocks l and rows R stand; all else that was there at w0 is as it was. -/
structure Sb (Hs : List Nat) (w0 w : World) (l : List Blk) (R : List RowS) : Prop where
  os : w.os = w0.os
  tape : w.tape = w0.tape
  output : w.output = w0.output
  size : w0.heap.size ≤ w.heap.size
  fr : ∀ k, k < w0.heap.size → k ∉ Hs → w.heap[k]? = w0.heap[k]?
  holds : ∀ p ∈ l, w.heap[p.1]? = some (.cells p.2.1 p.2.2 (0, 0))
  ge : ∀ p ∈ l, w0.heap.size ≤ p.1 ∨ p.1 ∈ Hs
  nd : (l.map (·.1)).Nodup
  rows : ∀ r ∈ R, Own w 0 r.1 r.2
  rge : ∀ r ∈ R, ∀ k, r.1.ownBlock = some k → w0.heap.size ≤ k ∨ k ∈ Hs
  apart : ∀ r ∈ R, ∀ p ∈ l, r.1.ownBlock ≠ some p.1
  rnd : R.Pairwise fun a b => ∀ k, a.1.ownBlock = some k → b.1.ownBlock ≠ some k
variable {Hs : List Nat} {w0 w w' : World} {l : List Blk} {R : List RowS}
theorem Sb.start (w : World) : Sb [] w w [] [] :=
  ⟨rfl, rfl, rfl, Nat.le_refl _, fun _ _ _ => rfl, fun _ h => by simp at h, fun _ h => by simp at h, by simp, fun _ h => by simp at h, fun _ h => by simp at h, fun _ h => by simp at h, by simp⟩
theorem Sb.below (h : Sb [] w0 w l R) : Below w0.heap.size w0 w := ⟨h.os, h.tape, h.output, h.size, fun k hk => h.fr k hk (by simp)⟩
theorem Sb.lt (h : Sb Hs w0 w l R) : ∀ p ∈ l, p.1 < w.heap.size := fun p hp => (Array.getElem?_eq_some_iff.1 (h.holds p hp)).1
theorem Sb.rlt (h : Sb Hs w0 w l R) : ∀ r ∈ R, ∀ k, r.1.ownBlock = some k → k < w.heap.size := fun r hr k hk => (World.ownsRow.lt (h.rows r hr) k hk).2
theorem own_same {sl : Value} {L : List Sht} (h : Own w 0 sl L) (hs : ∀ k, sl.ownBlock = some k → w'.heap[k]? = w.heap[k]?) : Own w' 0 sl L := by
  refine ⟨h.1, ?_⟩
  rcases h.2 with a | ⟨g, cap, cur, rfl, hb, hg, r⟩
  · exact .inl a
  · exact .inr ⟨g, cap, cur, rfl, hb, (hs g rfl).trans hg, r⟩
theorem Sb.call (h : Sb Hs w0 w l R) (hb : Below w.heap.size w w') : Sb Hs w0 w' l R :=
  ⟨hb.os.trans h.os, hb.tape.trans h.tape, hb.output.trans h.output, Nat.le_trans h.size hb.size, fun k hk hh => (hb.block k (Nat.lt_of_lt_of_le hk h.size)).trans (h.fr k hk hh),
    fun p hp => (hb.block p.1 (h.lt p hp)).trans (h.holds p hp), h.ge, h.nd, fun r hr => own_same (h.rows r hr) (fun k hk => hb.block k (h.rlt r hr k hk)), h.rge, h.apart, h.rnd⟩
theorem Sb.new (h : Sb Hs w0 w l R) (c : Array Value) (t : TypeId) : Sb Hs w0 (w.alloc (.cells c t)) ((w.heap.size, c, t) :: l) R := by
  have hA := fun k (hk : k < w.heap.size) => Below.heap_alloc w (.cells c t) k hk
  refine ⟨h.os, h.tape, h.output, Nat.le_trans h.size (by simp), fun k hk hh => (hA k (Nat.lt_of_lt_of_le hk h.size)).trans (h.fr k hk hh), fun p hp => ?_, fun p hp => ?_, ?_, fun r hr => own_same (h.rows r hr) (fun k hk => hA k (h.rlt r hr k hk)), h.rge, fun r hr p hp => ?_, h.rnd⟩
  · rcases List.mem_cons.1 hp with rfl | hp
    · exact heap_alloc_last w _
    · exact (hA _ (h.lt p hp)).trans (h.holds p hp)
  · rcases List.mem_cons.1 hp with rfl | hp
    · exact .inl h.size
    · exact h.ge p hp
  · rw [List.map_cons, List.nodup_cons]
    refine ⟨fun hm => ?_, h.nd⟩
    obtain ⟨p, hp, he⟩ := List.mem_map.1 hm
    have := h.lt p hp
    omega
  · rcases List.mem_cons.1 hp with rfl | hp
    · intro e
      exact Nat.lt_irrefl _ (h.rlt r hr _ e)
    · exact h.apart r hr p hp
theorem map_set_fst (l : List Blk) (i : Nat) (g : Nat) (c c' : Array Value) (t t' : TypeId) (hl : l[i]? = some (g, c, t)) : (l.set i (g, c', t')).map (·.1) = l.map (·.1) := by
  have hi := (List.getElem?_eq_some_iff.1 hl).1
  rw [List.map_set]
  apply List.ext_getElem?
  intro j
  rw [List.getElem?_set]
  split
  · rename_i e
    subst e
    rw [List.getElem?_map, hl]
    simp [hi]
  · rfl
theorem mem_set_fst {l : List Blk} {i : Nat} {g : Nat} {c c' : Array Value} {t t' : TypeId} (hl : l[i]? = some (g, c, t)) {p : Blk} (hp : p ∈ l.set i (g, c', t')) : ∃ p' ∈ l, p'.1 = p.1 := by
  have : p.1 ∈ (l.set i (g, c', t')).map (·.1) := List.mem_map_of_mem hp
  rw [map_set_fst l i g c c' t t' hl] at this
  obtain ⟨p', hp', e⟩ := List.mem_map.1 this
  exact ⟨p', hp', e⟩
/-- One block turned, all others as they were. -/
theorem Sb.turn (h : Sb Hs w0 w l R) (i : Nat) (g : Nat) (c c' : Array Value) (t : TypeId) (hl : l[i]? = some (g, c, t)) (ho : w'.os = w.os) (ht : w'.tape = w.tape) (hu : w'.output = w.output) (hz : w.heap.size ≤ w'.heap.size)
    (hg' : w'.heap[g]? = some (.cells c' t (0, 0))) (hf : ∀ k, k < w.heap.size → k ≠ g → w'.heap[k]? = w.heap[k]?) : Sb Hs w0 w' (l.set i (g, c', t)) R := by
  have hi := (List.getElem?_eq_some_iff.1 hl).1
  have hm : (g, c, t) ∈ l := List.mem_of_getElem? hl
  refine ⟨ho.trans h.os, ht.trans h.tape, hu.trans h.output, Nat.le_trans h.size hz, fun k hk hh => ?_, fun p hp => ?_, fun p hp => ?_, by rw [map_set_fst l i g c c' t t hl]; exact h.nd, fun r hr => ?_, h.rge, fun r hr p hp => ?_, h.rnd⟩
  · rw [hf k (Nat.lt_of_lt_of_le hk h.size) (fun e => by subst e; rcases h.ge _ hm with a | a; exact absurd hk (Nat.not_lt.2 a); exact hh a)]
    exact h.fr k hk hh
  · obtain ⟨j, hj⟩ := List.mem_iff_getElem?.1 hp
    rw [List.getElem?_set] at hj
    by_cases e : i = j
    · rw [if_pos e, if_pos hi] at hj
      injection hj with hj
      subst hj
      exact hg'
    · rw [if_neg e] at hj
      have hne : p.1 ≠ g := fun e2 => by
        have h1 : (l.map (·.1))[j]? = some g := by rw [List.getElem?_map, hj]; simp [e2]
        have h2 : (l.map (·.1))[i]? = some g := by rw [List.getElem?_map, hl]; rfl
        exact e ((List.getElem?_inj (by simpa using hi) h.nd).1 (h2.trans h1.symm))
      have hp' := List.mem_of_getElem? hj
      rw [hf p.1 (h.lt p hp') hne]
      exact h.holds p hp'
  · obtain ⟨p', hp', e⟩ := mem_set_fst hl hp
    rw [← e]; exact h.ge p' hp'
  · refine own_same (h.rows r hr) (fun k hk => hf k (h.rlt r hr k hk) (fun e => ?_))
    subst e
    exact h.apart r hr _ hm hk
  · obtain ⟨p', hp', e⟩ := mem_set_fst hl hp
    rw [← e]; exact h.apart r hr p' hp'
theorem Sb.put (h : Sb Hs w0 w l R) (i : Nat) (g : Nat) (c c' : Array Value) (t : TypeId) (hl : l[i]? = some (g, c, t)) : Sb Hs w0 (w.setRow g c') (l.set i (g, c', t)) R :=
  h.turn i g c c' t hl rfl rfl rfl (by rw [size_setRow]; exact Nat.le_refl _) (setRow_heap w g c c' t (0, 0) (h.holds _ (List.mem_of_getElem? hl))) (fun k _ hk => heap_setRow_ne _ _ _ _ hk)
section
variable {ops : Array Oper} {rest : List Oper} {op : Oper} {a : Act} {Q : Exit → Act → World → Prop}
theorem wb_box (H : Sb Hs w0 w l R) (hw : Region.wanted op (yielded ops a.tmps) = true) (t : TypeId) (x : Operand) (ho : op.op = .box t x) (c : Array Value) (hx : (a.eval x).cells = c)
    (h : ∀ b w', Sb Hs w0 w' ((b, c, t) :: l) R → wpList Try.prog ops Q rest (a.put op.dst (.pointer (some ⟨b, 0, none⟩))) w') : wpList Try.prog ops Q (op :: rest) a w := by
  refine BigFrame.wpList_want hw fun _ hK => ?_
  unfold Oper.wp execOp
  simp only [ho, Instr.box, newVar, newRow, Sem.run_bind, Sem.run_pure, run_newObj_alloc, Result.andThen_ok, hx]
  exact hK _ _ (h _ _ (H.new c t))
theorem wb_alloc (H : Sb Hs w0 w l R) (hw : Region.wanted op (yielded ops a.tmps) = true) (t : TypeId) (ho : op.op = .alloc t) (z : Value) (hz : ∀ w, (zeroValue t).run Try.prog w = .ok z w)
    (h : ∀ b w', Sb Hs w0 w' ((b, z.cells, t) :: l) R → wpList Try.prog ops Q rest (a.put op.dst (.pointer (some ⟨b, 0, none⟩))) w') : wpList Try.prog ops Q (op :: rest) a w := by
  refine BigFrame.wpList_want hw fun _ hK => ?_
  unfold Oper.wp execOp
  simp only [ho, Instr.alloc, newVar, newRow, Sem.run_bind, Sem.run_pure, run_newObj_alloc, Result.andThen_ok, hz]
  exact hK _ _ (h _ _ (H.new z.cells t))
theorem wb_whole (H : Sb Hs w0 w l R) (hw : Region.wanted op (yielded ops a.tmps) = true) (i : Nat) (t : TypeId) (x : Operand) (ho : op.op = .load t x) (g : Nat) (hx : a.eval x = .pointer (some ⟨g, 0, none⟩)) (c : Array Value) (hl : l[i]? = some (g, c, t))
    (d : TypeDesc) (hu : Try.prog.underlying t = some d) (hd : d.isRow = true) (n : Nat) (hi : (Try.prog.info? t).map (·.size) = some n) (hn : c.size = n)
    (h : wpList Try.prog ops Q rest (a.put op.dst (.agg c)) w) : wpList Try.prog ops Q (op :: rest) a w :=
  BigFrame.wpList_want hw fun _ hK => wp_load_mid t x ho g 0 hx c.toList d (fun j v hv => by
    rw [Nat.zero_add, cell_of_row w g j c t (0, 0) (H.holds _ (List.mem_of_getElem? hl))]
    simpa using hv) hu hd (by rw [Array.length_toList, hn]; exact hi) (hK _ _ (by rw [Array.toArray_toList]; exact h))
theorem wb_part (H : Sb Hs w0 w l R) (hw : Region.wanted op (yielded ops a.tmps) = true) (i : Nat) (ty : TypeId) (x : Operand) (ho : op.op = .load ty x) (g o : Nat) (hx : a.eval x = .pointer (some ⟨g, o, none⟩)) (c : Array Value) (t : TypeId) (hl : l[i]? = some (g, c, t))
    (d : TypeDesc) (hu : Try.prog.underlying ty = some d) (hd : d.isRow = true) (n : Nat) (hi : (Try.prog.info? ty).map (·.size) = some n) (vs : List Value) (hvs : ∀ j v, vs[j]? = some v → c[o + j]? = some v) (hn : vs.length = n)
    (h : wpList Try.prog ops Q rest (a.put op.dst (.agg vs.toArray)) w) : wpList Try.prog ops Q (op :: rest) a w :=
  BigFrame.wpList_want hw fun _ hK => wp_load_mid ty x ho g o hx vs d (fun j v hv => by
    rw [cell_of_row w g (o + j) c t (0, 0) (H.holds _ (List.mem_of_getElem? hl))]
    exact hvs j v hv) hu hd (by rw [hn]; exact hi) (hK _ _ h)
theorem wb_cell (H : Sb Hs w0 w l R) (hw : Region.wanted op (yielded ops a.tmps) = true) (i : Nat) (ty : TypeId) (x : Operand) (ho : op.op = .load ty x) (g o : Nat) (hx : a.eval x = .pointer (some ⟨g, o, none⟩)) (c : Array Value) (t : TypeId) (hl : l[i]? = some (g, c, t))
    (ha : ∀ w, (isAgg ty).run Try.prog w = .ok false w) (v : Value) (hv : c[o]? = some v)
    (h : wpList Try.prog ops Q rest (a.put op.dst v) w) : wpList Try.prog ops Q (op :: rest) a w := by
  refine BigFrame.wpList_want hw fun _ hK => ?_
  have hc := (cell_of_row w g o c t (0, 0) (H.holds _ (List.mem_of_getElem? hl))).trans hv
  unfold Oper.wp execOp
  simp only [ho, hx, Instr.loadAt, Instr.sureAddr, Sem.run_bind, Sem.run_pure, Result.andThen_ok, loadVar, ha, Bool.false_eq_true, if_false, run_load, hc]
  exact hK _ _ h
theorem wb_put (H : Sb Hs w0 w l R) (hw : Region.wanted op (yielded ops a.tmps) = true) (i : Nat) (ty : TypeId) (x y : Operand) (ho : op.op = .store ty x y) (g o : Nat) (hx : a.eval x = .pointer (some ⟨g, o, none⟩)) (c : Array Value) (t : TypeId) (hl : l[i]? = some (g, c, t))
    (v : Value) (hy : a.eval y = v) (n : Nat) (hi : (Try.prog.info? ty).map (·.size) = some n) (hn : v.cells.size = n) (hfit : o + n ≤ c.size) (h1 : v.cells.toList.all (·.oneCell') = true) (c' : Array Value) (hc' : splice c o v.cells.toList = c')
    (h : ∀ w', Sb Hs w0 w' (l.set i (g, c', t)) R → wpList Try.prog ops Q rest (a.put op.dst undef) w') : wpList Try.prog ops Q (op :: rest) a w := by
  refine BigFrame.wpList_want hw fun _ hK => ?_
  have hb := H.holds _ (List.mem_of_getElem? hl)
  have hst := run_storeCells_at (P := Try.prog) g o t v.cells.toList 0 c w hb (by simp [hn]; exact hfit) (fun u hu => List.all_eq_true.1 h1 u hu)
  have hsv : (storeVar ty ⟨g, o, none⟩ v).run Try.prog w = .ok () (w.setRow g (splice c o v.cells.toList)) := by
    cases hq : Try.prog.info? ty with
    | none => simp [hq] at hi
    | some k =>
      have hk : k.size = n := by simpa [hq] using hi
      simp only [Nat.add_zero] at hst
      simp [storeVar, sizeOf, typeInfo, hq, hn, hk, hst, splice]
  rw [hc'] at hsv
  unfold Oper.wp execOp
  simp only [ho, hx, hy, Instr.storeAt, Instr.sureAddr, Sem.run_bind, Sem.run_pure, Result.andThen_ok, hsv]
  exact hK _ _ (h _ (H.put i g c _ t hl))
end
end Go.Proofs.Ytdopfonebpklkaa.game
