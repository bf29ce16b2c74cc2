/- Memory in a walk: what stood there ahead of the call is read. -/
import Derived.Test.YtijnfeigoggaeaaMw
namespace Go.Proofs.Ytijnfeigoggaeaa.game
open Go.ChangeShapes Go.WideShapes Go.ChangeAt Go.RowKit dice
set_option maxRecDepth 100000

section
variable {w0 w : World} {l : List Blk} {R : List RowS}
variable {ops : Array Oper} {rest : List Oper} {op : Oper} {a : Act} {Q : Exit → Act → World → Prop}
theorem wb_oldRow (H : Sb [] w0 w l R) (hw : Region.wanted op (yielded ops a.tmps) = true) (ty : TypeId) (x : Operand) (ho : op.op = .load ty x) (g o : Nat) (hx : a.eval x = .pointer (some ⟨g, o, none⟩)) (vs : List Value) (hg : g < w0.heap.size) (hvs : w0.rangeAt g o vs)
    (d : TypeDesc) (hu : Try.prog.underlying ty = some d) (hd : d.isRow = true) (hi : (Try.prog.info? ty).map (·.size) = some vs.length)
    (h : wpList Try.prog ops Q rest (a.put op.dst (.agg vs.toArray)) w) : wpList Try.prog ops Q (op :: rest) a w :=
  BigFrame.wpList_want hw fun _ hK => wp_load_mid ty x ho g o hx vs d (fun j v hv => (H.old rfl (p := ⟨g, o + j, none⟩) hg).trans (hvs j v hv)) hu hd hi (hK _ _ h)
theorem wb_oldCell (H : Sb [] w0 w l R) (hw : Region.wanted op (yielded ops a.tmps) = true) (ty : TypeId) (x : Operand) (ho : op.op = .load ty x) (g o : Nat) (hx : a.eval x = .pointer (some ⟨g, o, none⟩)) (v : Value) (hg : g < w0.heap.size) (hv : w0.cell? ⟨g, o, none⟩ = some v)
    (ha : ∀ w, (isAgg ty).run Try.prog w = .ok false w)
    (h : wpList Try.prog ops Q rest (a.put op.dst v) w) : wpList Try.prog ops Q (op :: rest) a w := by
  refine BigFrame.wpList_want hw fun _ hK => ?_
  have hc := (H.old rfl (p := ⟨g, o, none⟩) hg).trans hv
  unfold Oper.wp execOp
  simp only [ho, hx, Instr.loadAt, Instr.sureAddr, Sem.run_bind, Sem.run_pure, Result.andThen_ok, loadVar, ha, Bool.false_eq_true, if_false, run_load, hc]
  exact hK _ _ h
end
theorem range3 {w : World} {g o : Nat} {i : Inp} (h : InpAt w g o i) : w.rangeAt g o [.int .i8 i.x, .int .i8 i.y, .int .u8 i.b] := fun j v hv => by
  match j, hv with
  | 0, hv => cases hv; exact h.x
  | 1, hv => cases hv; exact h.y
  | 2, hv => cases hv; exact h.b
  | j + 3, hv => simp at hv
end Go.Proofs.Ytijnfeigoggaeaa.game
