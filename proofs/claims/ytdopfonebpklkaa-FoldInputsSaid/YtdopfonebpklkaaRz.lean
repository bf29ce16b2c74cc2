/- A region that draws its order: an operation that writes, alone ready, by the walk's own laws. -/
import Derived.Test.YtdopfonebpklkaaRv
namespace Go.Proofs.Ytdopfonebpklkaa.game
open Go Go.ChangeShapes Go.WideShapes Go.ChangeAt Go.RowKit

section
variable {P : Program} {ops : Array Oper} {Q : Exit → Act → World → Prop}
variable {T : Facts} {fuel : Nat} {listed : Array Bool} {a : Act} {w : World}
def Qn (Q : Exit → Act → World → Prop) (K : Act → World → Prop) : Exit → Act → World → Prop
  | .normal, a, w => K a w
  | e, a, w => Q e a w
theorem Gs_one (k : Nat) {o : Oper} (hi : ops[k]? = some o) (hr : Region.ready .any ops listed = [k])
    (h : wpList P ops (Qn Q fun a' w' => Held T (listed.setIfInBounds k true) w' ∧ Gs P ops Q T fuel (listed.setIfInBounds k true) a' w') [o] a w) : Gs P ops Q T (fuel + 1) listed a w := by
  intro inv hh
  have hr' : k ∈ Region.ready .any ops listed := by rw [hr]; simp
  refine ⟨fun h0 => (by rw [h0] at hr'; cases hr'), fun i hik => ?_⟩
  rw [hr] at hik
  obtain rfl : i = k := by simpa using hik
  have hw : wpOp P ops Q i (fun a' w' => Held T (listed.setIfInBounds i true) w' ∧ Gs P ops Q T fuel (listed.setIfInBounds i true) a' w') a w := by
    unfold wpOp
    simp only [hi]
    exact h
  exact wpOp_mono (fun a' w' h' => ⟨h'.1, h'.2 (inv.set hr') h'.1⟩) hw
theorem Gs_end (d : Nat) (hr : Region.ready .any ops listed = [d]) (hd : ∀ t ∈ T, (listed.setIfInBounds d true).getD t.2.2 true = true) (hB : Region.seqB .any ops (fuel + 1) d listed = true) (hz : (ops.toList.drop d).length = fuel + 1)
    (h : wpList P ops Q (ops.toList.drop d) a w) : Gs P ops Q T (fuel + 1) listed a w := by
  intro inv hh
  have hA := wpAny_of_seq (md := .any) (Q' := Q) (ops.toList.drop d) d listed a w (fun j => by simp [List.getElem?_drop]) (by rw [hz]; exact hB) h
  rw [hz] at hA
  refine ⟨hA.1, fun i hi => wpOp_mono (fun a' w' h' => ?_) (hA.2 i hi)⟩
  have hid : i = d := by rw [hr] at hi; simpa using hi
  have hall : ∀ t ∈ T, (listed.setIfInBounds i true).getD t.2.2 true = true := fun t ht => by rw [hid]; exact hd t ht
  exact ⟨fun t ht hl => (by rw [hall t ht] at hl; cases hl), wpAnyS_of_any fuel hall h'⟩
end
end Go.Proofs.Ytdopfonebpklkaa.game
