/- The reference's Start and NewRoster. -/
import Derived.Test.YtdopfonebpklkaaRe
import Derived.Test.YtdopfonebpklkaaZc
namespace Go.Proofs.Ytdopfonebpklkaa.game
open Go.ChangeShapes Go.WideShapes Go.ChangeAt Go.RowKit dice
set_option maxRecDepth 100000

def nobody : List Seat := List.replicate 8 ⟨-1, 0⟩
def startS (D : Int) : Ste := ⟨⟨0, D, List.replicate 8 zShp, []⟩, 0, nobody⟩
theorem rc_putPeer (v : Int) (A E : List Seat) (z : Seat) (p : Int) (k : Nat) (hk : A.length = k) : splice (rosterC v (A ++ z :: E)) (1 + k * 2) [.int .i64 p] = rosterC v (A ++ ⟨p, z.gen⟩ :: E) := by
  have e : ∀ z : Seat, rosterC v (A ++ z :: E) = ((Value.int .i64 v :: seatsL A) ++ ([Value.int .i64 z.peer] ++ (.int .i64 z.gen :: seatsL E))).toArray := fun z => by
    simp [rosterC, seatsL_append, seatsL_cons, seatL]
  rw [e z, e ⟨p, z.gen⟩]
  exact splice_mid _ _ _ _ _ (by simp [length_seatsL, hk]; omega) rfl
theorem res33 {fn : Func} {p : Tmp} {tmps : Array Value} {w : World} {b : Nat} {cs : Array Value} (h : fn.results = #[.cell p 38]) (ha : tmps.getD p undef = .pointer (some ⟨b, 0, none⟩)) (hb : w.heap[b]? = some (.cells cs 38 (0, 0))) (hs : cs.size = 17) :
    (results fn tmps).run Try.prog w = .ok (.agg cs) w := by
  have hl : (loadVar 38 ⟨b, 0, none⟩).run Try.prog w = .ok (.agg cs) w := run_loadVar_row w b 38 38 cs (0, 0) _ hb Try.underlying38 rfl (by rw [hs]; exact info33)
  rw [Array.getD_eq_getD_getElem?] at ha
  simp only [results, h]
  simp [ha, asAddr, hl]
theorem res35 {fn : Func} {p : Tmp} {tmps : Array Value} {w : World} {b : Nat} {cs : Array Value} (h : fn.results = #[.cell p 40]) (ha : tmps.getD p undef = .pointer (some ⟨b, 0, none⟩)) (hb : w.heap[b]? = some (.cells cs 40 (0, 0))) (hs : cs.size = 76) :
    (results fn tmps).run Try.prog w = .ok (.agg cs) w := by
  rw [Array.getD_eq_getD_getElem?] at ha
  simp only [results, h]
  simp [ha, asAddr, lv35 w b cs hb hs]
theorem wl_build {ops : Array Oper} {rest : List Oper} {o : Oper} {a : Act} {w : World} {Q : Exit → Act → World → Prop} (hg : o.guard = none) (t : TypeId) (parts : Array (Nat × Operand)) (ho : o.op = .build t parts) (cells : Array Value)
    (hf : Try.prog.built t (parts.map fun (i, x) => (i, a.eval x)).toList = some cells)
    (h : wpList Try.prog ops Q rest (a.put o.dst (.agg cells)) w) : wpList Try.prog ops Q (o :: rest) a w := by
  refine wpList_build hg t parts ho (by rw [hf]; rfl) ?_
  rw [hf]
  exact h
end Go.Proofs.Ytdopfonebpklkaa.game
