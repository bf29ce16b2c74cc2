/- Memory in a walk, kept as a list of blocks: what each load, store, alloc and box makes of it. -/
import Derived.Test.YtdopfonebpklkaaSm
import Derived.Laws.CopyRow
namespace Go.Proofs.Ytdopfonebpklkaa.game
open Go.ChangeShapes Go.WideShapes Go.ChangeAt Go.RowKit dice
set_option maxRecDepth 100000

def splice (cs : Array Value) (o : Nat) (vs : List Value) : Array Value := (cs.toList.take o ++ vs ++ cs.toList.drop (o + vs.length)).toArray
/-- The blocks that a call has made so far, and what they hold; all that was there before stands. -/
structure St (w0 w : World) (l : List (Nat × Array Value × TypeId)) : Prop where
  below : Below w0.heap.size w0 w
  holds : ∀ p ∈ l, w.heap[p.1]? = some (.cells p.2.1 p.2.2 (0, 0))
  ge : ∀ p ∈ l, w0.heap.size ≤ p.1
  nd : (l.map (·.1)).Nodup
theorem St.start (w : World) : St w w [] := ⟨Below.refl _ _, fun _ h => by simp at h, fun _ h => by simp at h, by simp⟩
theorem St.lt {w0 w : World} {l : List (Nat × Array Value × TypeId)} (h : St w0 w l) : ∀ p ∈ l, p.1 < w.heap.size := fun p hp => (Array.getElem?_eq_some_iff.1 (h.holds p hp)).1
theorem St.call {w0 w w' : World} {l : List (Nat × Array Value × TypeId)} (h : St w0 w l) (hb : Below w.heap.size w w') : St w0 w' l :=
  ⟨h.below.trans (hb.mono h.below.size), fun p hp => (hb.block p.1 (h.lt p hp)).trans (h.holds p hp), h.ge, h.nd⟩
theorem St.new {w0 w : World} {l : List (Nat × Array Value × TypeId)} (h : St w0 w l) (c : Array Value) (t : TypeId) : St w0 (w.alloc (.cells c t)) ((w.heap.size, c, t) :: l) := by
  refine ⟨h.below.alloc h.below.size _, fun p hp => ?_, fun p hp => ?_, ?_⟩
  · rcases List.mem_cons.1 hp with rfl | hp
    · exact heap_alloc_last w _
    · exact (Below.heap_alloc w _ _ (h.lt p hp)).trans (h.holds p hp)
  · rcases List.mem_cons.1 hp with rfl | hp
    · exact h.below.size
    · exact h.ge p hp
  · rw [List.map_cons, List.nodup_cons]
    refine ⟨fun hm => ?_, h.nd⟩
    obtain ⟨p, hp, he⟩ := List.mem_map.1 hm
    have := h.lt p hp
    omega
theorem heap_setRow_ne (w : World) (g : Nat) (cs : Array Value) (k : Nat) (h : k ≠ g) : (w.setRow g cs).heap[k]? = w.heap[k]? := by
  simp only [World.setRow, Array.getElem?_modify]
  rw [if_neg (fun e => h e.symm)]
theorem St.put {w0 w : World} {l : List (Nat × Array Value × TypeId)} (h : St w0 w l) (i : Nat) (g : Nat) (c c' : Array Value) (t : TypeId) (hl : l[i]? = some (g, c, t)) : St w0 (w.setRow g c') (l.set i (g, c', t)) := by
  have hi := (List.getElem?_eq_some_iff.1 hl).1
  have hm : (g, c, t) ∈ l := List.mem_of_getElem? hl
  have hg := h.ge _ hm
  have hg' : w.heap[g]? = some (.cells c t (0, 0)) := h.holds _ hm
  have hmap : (l.set i (g, c', t)).map (·.1) = l.map (·.1) := by
    rw [List.map_set]
    apply List.ext_getElem?
    intro j
    rw [List.getElem?_set]
    split
    · rename_i e
      subst e
      rw [List.getElem?_map, hl]
      simp [hi]
    · rfl
  refine ⟨⟨h.below.os, h.below.tape, h.below.output, by rw [size_setRow]; exact h.below.size, fun k hk => ?_⟩, fun p hp => ?_, fun p hp => ?_, by rw [hmap]; exact h.nd⟩
  · rw [heap_setRow_ne _ _ _ _ (by have : w0.heap.size ≤ g := hg; omega)]
    exact h.below.block k hk
  · obtain ⟨j, hj⟩ := List.mem_iff_getElem?.1 hp
    rw [List.getElem?_set] at hj
    by_cases e : i = j
    · rw [if_pos e, if_pos hi] at hj
      injection hj with hj
      subst hj
      exact setRow_heap w g c c' t (0, 0) hg'
    · rw [if_neg e] at hj
      have hne : p.1 ≠ g := fun e2 => by
        have h1 : (l.map (·.1))[j]? = some g := by rw [List.getElem?_map, hj]; simp [e2]
        have h2 : (l.map (·.1))[i]? = some g := by rw [List.getElem?_map, hl]; rfl
        exact e ((List.getElem?_inj (by simpa using hi) h.nd).1 (h2.trans h1.symm))
      rw [heap_setRow_ne _ _ _ _ hne]
      exact h.holds p (List.mem_of_getElem? hj)
  · have : p.1 ∈ (l.set i (g, c', t)).map (·.1) := List.mem_map_of_mem hp
    rw [hmap] at this
    obtain ⟨p', hp', e⟩ := List.mem_map.1 this
    rw [← e]
    exact h.ge p' hp'
section
variable {ops : Array Oper} {rest : List Oper} {op : Oper} {a : Act} {w w0 : World} {Q : Exit → Act → World → Prop} {l : List (Nat × Array Value × TypeId)}
theorem wl_box (H : St w0 w l) (hw : Region.wanted op (yielded ops a.tmps) = true) (t : TypeId) (x : Operand) (ho : op.op = .box t x) (c : Array Value) (hx : (a.eval x).cells = c)
    (h : ∀ b w', St w0 w' ((b, c, t) :: l) → wpList Try.prog ops Q rest (a.put op.dst (.pointer (some ⟨b, 0, none⟩))) w') : wpList Try.prog ops Q (op :: rest) a w := by
  refine BigFrame.wpList_want hw fun _ hK => ?_
  unfold Oper.wp execOp
  simp only [ho, Instr.box, newVar, newRow, Sem.run_bind, Sem.run_pure, run_newObj_alloc, Result.andThen_ok, hx]
  exact hK _ _ (h _ _ (H.new c t))
theorem wl_alloc (H : St w0 w l) (hw : Region.wanted op (yielded ops a.tmps) = true) (t : TypeId) (ho : op.op = .alloc t) (z : Value) (hz : ∀ w, (zeroValue t).run Try.prog w = .ok z w)
    (h : ∀ b w', St w0 w' ((b, z.cells, t) :: l) → wpList Try.prog ops Q rest (a.put op.dst (.pointer (some ⟨b, 0, none⟩))) w') : wpList Try.prog ops Q (op :: rest) a w := by
  refine BigFrame.wpList_want hw fun _ hK => ?_
  unfold Oper.wp execOp
  simp only [ho, Instr.alloc, newVar, newRow, Sem.run_bind, Sem.run_pure, run_newObj_alloc, Result.andThen_ok, hz]
  exact hK _ _ (h _ _ (H.new z.cells t))
/-- A whole block as a value. -/
theorem wl_whole (H : St w0 w l) (hw : Region.wanted op (yielded ops a.tmps) = true) (i : Nat) (t : TypeId) (x : Operand) (ho : op.op = .load t x) (g : Nat) (hx : a.eval x = .pointer (some ⟨g, 0, none⟩)) (c : Array Value) (hl : l[i]? = some (g, c, t))
    (d : TypeDesc) (hu : Try.prog.underlying t = some d) (hd : d.isRow = true) (n : Nat) (hi : (Try.prog.info? t).map (·.size) = some n) (hn : c.size = n)
    (h : wpList Try.prog ops Q rest (a.put op.dst (.agg c)) w) : wpList Try.prog ops Q (op :: rest) a w :=
  BigFrame.wpList_want hw fun _ hK => wp_load_mid t x ho g 0 hx c.toList d (fun j v hv => by
    rw [Nat.zero_add, cell_of_row w g j c t (0, 0) (H.holds _ (List.mem_of_getElem? hl))]
    simpa using hv) hu hd (by rw [Array.length_toList, hn]; exact hi) (hK _ _ (by rw [Array.toArray_toList]; exact h))
/-- A part of a block as a value. -/
theorem wl_part (H : St w0 w l) (hw : Region.wanted op (yielded ops a.tmps) = true) (i : Nat) (ty : TypeId) (x : Operand) (ho : op.op = .load ty x) (g o : Nat) (hx : a.eval x = .pointer (some ⟨g, o, none⟩)) (c : Array Value) (t : TypeId) (hl : l[i]? = some (g, c, t))
    (d : TypeDesc) (hu : Try.prog.underlying ty = some d) (hd : d.isRow = true) (n : Nat) (hi : (Try.prog.info? ty).map (·.size) = some n) (vs : List Value) (hvs : (c.toList.drop o).take n = vs) (hn : vs.length = n)
    (h : wpList Try.prog ops Q rest (a.put op.dst (.agg vs.toArray)) w) : wpList Try.prog ops Q (op :: rest) a w :=
  BigFrame.wpList_want hw fun _ hK => wp_load_mid ty x ho g o hx vs d (fun j v hv => by
    rw [cell_of_row w g (o + j) c t (0, 0) (H.holds _ (List.mem_of_getElem? hl))]
    rw [← hvs] at hv
    simp [List.getElem?_take, List.getElem?_drop] at hv
    simpa using hv.2) hu hd (by rw [hn]; exact hi) (hK _ _ h)
/-- One cell of a block. -/
theorem wl_cell (H : St w0 w l) (hw : Region.wanted op (yielded ops a.tmps) = true) (i : Nat) (ty : TypeId) (x : Operand) (ho : op.op = .load ty x) (g o : Nat) (hx : a.eval x = .pointer (some ⟨g, o, none⟩)) (c : Array Value) (t : TypeId) (hl : l[i]? = some (g, c, t))
    (ha : ∀ w, (isAgg ty).run Try.prog w = .ok false w) (v : Value) (hv : c[o]? = some v)
    (h : wpList Try.prog ops Q rest (a.put op.dst v) w) : wpList Try.prog ops Q (op :: rest) a w := by
  refine BigFrame.wpList_want hw fun _ hK => ?_
  have hc := (cell_of_row w g o c t (0, 0) (H.holds _ (List.mem_of_getElem? hl))).trans hv
  unfold Oper.wp execOp
  simp only [ho, hx, Instr.loadAt, Instr.sureAddr, Sem.run_bind, Sem.run_pure, Result.andThen_ok, loadVar, ha, Bool.false_eq_true, if_false, run_load, hc]
  exact hK _ _ h
/-- A value into a block. -/
theorem wl_put (H : St w0 w l) (hw : Region.wanted op (yielded ops a.tmps) = true) (i : Nat) (ty : TypeId) (x y : Operand) (ho : op.op = .store ty x y) (g o : Nat) (hx : a.eval x = .pointer (some ⟨g, o, none⟩)) (c : Array Value) (t : TypeId) (hl : l[i]? = some (g, c, t))
    (v : Value) (hy : a.eval y = v) (n : Nat) (hi : (Try.prog.info? ty).map (·.size) = some n) (hn : v.cells.size = n) (hfit : Nat.ble (o + n) c.size = true) (h1 : v.cells.toList.all (·.oneCell') = true)
    (h : ∀ w', St w0 w' (l.set i (g, splice c o v.cells.toList, t)) → wpList Try.prog ops Q rest (a.put op.dst undef) w') : wpList Try.prog ops Q (op :: rest) a w := by
  refine BigFrame.wpList_want hw fun _ hK => ?_
  have hb := H.holds _ (List.mem_of_getElem? hl)
  have hst := run_storeCells_at (P := Try.prog) g o t v.cells.toList 0 c w hb (by have := Nat.le_of_ble_eq_true hfit; simp [hn]; exact this) (fun u hu => List.all_eq_true.1 h1 u hu)
  have hsv : (storeVar ty ⟨g, o, none⟩ v).run Try.prog w = .ok () (w.setRow g (splice c o v.cells.toList)) := by
    cases hq : Try.prog.info? ty with
    | none => simp [hq] at hi
    | some k =>
      have hk : k.size = n := by simpa [hq] using hi
      simp only [Nat.add_zero] at hst
      simp [storeVar, sizeOf, typeInfo, hq, hn, hk, hst, splice]
  unfold Oper.wp execOp
  simp only [ho, hx, hy, Instr.storeAt, Instr.sureAddr, Sem.run_bind, Sem.run_pure, Result.andThen_ok, hsv]
  exact hK _ _ (h _ (H.put i g c _ t hl))
end
theorem info24 : (Try.prog.info? 29).map (·.size) = some 7 := by kernel_rfl
theorem info3 : (Try.prog.info? 3).map (·.size) = some 1 := by kernel_rfl
theorem info4 : (Try.prog.info? 4).map (·.size) = some 1 := by kernel_rfl
theorem info21 : (Try.prog.info? 21).map (·.size) = some 1 := by kernel_rfl
theorem info22 : (Try.prog.info? 27).map (·.size) = some 1 := by kernel_rfl
theorem info26 : (Try.prog.info? 31).map (·.size) = some 1 := by kernel_rfl
end Go.Proofs.Ytdopfonebpklkaa.game
