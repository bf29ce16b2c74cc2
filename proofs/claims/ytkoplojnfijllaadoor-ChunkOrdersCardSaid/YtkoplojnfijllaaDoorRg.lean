/- A region that draws its order, whose first operation alone may come up at first (a call that makes memory), and whose others only read. -/
import Derived.Test.YtkoplojnfijllaaDoorIv
import Derived.Deep.QuietTactic
import Derived.BigQuiet
namespace Go.Proofs.YtkoplojnfijllaaDoor.chunk

theorem wp_region_first_quiet {P : Program} {id : Nat} {Q : Exit → Act → World → Prop} {a : Act} {w : World} {o : Oper} {l : List Oper} (hm : P.follows .mixedOrders = true) (hns : Region.noSelect (o :: l).toArray = true)
    (hr : Region.ready .any (o :: l).toArray (Array.replicate (o :: l).toArray.size false) = [0])
    (hB : Region.lexFrom .any (o :: l).toArray l.length 1 ((Array.replicate (o :: l).toArray.size false).setIfInBounds 0 true) = true)
    (h : wpOp P (o :: l).toArray Q 0 (fun a' w' => wpQuiet P (o :: l).toArray (fun w'' => ∃ n, w'' = w'.drewN n) (fun a'' => ∀ w'', (∃ n, w'' = w'.drewN n) → Q .normal a'' w'') l a') a w.drew) :
    (Code.region id (o :: l).toArray true).wp P Q a w := by
  refine wp_region_any hm ?_
  have hs : (o :: l).toArray.size = l.length + 1 := by simp
  generalize Array.replicate (o :: l).toArray.size false = listed at *
  rw [hs]
  refine wpAny_all hr (by simp) (fun i hi => ?_)
  obtain rfl : i = 0 := by simpa using hi
  refine wpOp_mono (fun a' w' hq => ?_) h
  refine wpAny_of_quiet (C := fun w'' => ∃ n, w'' = w'.drewN n) (Q := fun a'' => ∀ w'', (∃ n, w'' = w'.drewN n) → Q .normal a'' w'') (fun a w hc hh => hh w hc) _ _ _ _ ⟨0, rfl⟩ ?_
  exact wpAnyQ_lex hns l 1 _ _ (fun j => by simp [Nat.add_comm 1 j]) hB hq

theorem wp_call0 {P : Program} {o : Oper} {a : Act} {w : World} {K : Act → World → Prop} {Q : Exit → Act → World → Prop} {f : FuncId} (hop : o.op = .call { callee := .value (.func f), args := #[], argTypes := #[] }) (hc : ∀ w, Sem.run P (callFunc f #[]) w = .ok (.enter f #[]) w)
    (h : Calls P f #[] w fun e w' => ∃ v, e = .returned v ∧ K (a.put o.dst v) w') : o.wp P a w K Q := by
  unfold Oper.wp
  simp [hop, go_sem]
  have e := hc w
  rw [e]
  refine h.mono ?_
  rintro e w' ⟨v, rfl, hk⟩
  exact hk
theorem call8 (w : World) : Sem.run Tryd.prog (callFunc 8 #[]) w = .ok (.enter 8 #[]) w := by
  go_simp
/-- .. whose first operation is a call without arguments. -/
theorem wp_region_call_quiet {P : Program} {id : Nat} {Q : Exit → Act → World → Prop} {a : Act} {w : World} {o : Oper} {l : List Oper} {f : FuncId} (hm : P.follows .mixedOrders = true) (hns : Region.noSelect (o :: l).toArray = true)
    (hr : Region.ready .any (o :: l).toArray (Array.replicate (o :: l).toArray.size false) = [0])
    (hB : Region.lexFrom .any (o :: l).toArray l.length 1 ((Array.replicate (o :: l).toArray.size false).setIfInBounds 0 true) = true)
    (hg : o.guard = none) (hop : o.op = .call { callee := .value (.func f), args := #[], argTypes := #[] }) (hc : ∀ w, Sem.run P (callFunc f #[]) w = .ok (.enter f #[]) w)
    (h : Calls P f #[] w.drew fun e w' => ∃ v, e = .returned v ∧ ∀ K : Act → Prop, (∀ a', wpQuiet P (o :: l).toArray (fun w'' => ∃ n, w'' = w'.drewN n) (fun a'' => ∀ w'', (∃ n, w'' = w'.drewN n) → Q .normal a'' w'') l a' → K a') → K (a.put o.dst v)) :
    (Code.region id (o :: l).toArray true).wp P Q a w := by
  refine wp_region_first_quiet hm hns hr hB ?_
  unfold wpOp
  have h0 : (o :: l).toArray[0]? = some o := rfl
  rw [h0]
  have hw : Region.wanted o (yielded (o :: l).toArray a.tmps) = true := by unfold Region.wanted; rw [hg]
  simp only [hw, if_true]
  exact .inl (wp_call0 hop hc (h.mono fun e w' ⟨v, he, hk⟩ => ⟨v, he, hk _ (fun _ h => h)⟩))
end Go.Proofs.YtkoplojnfijllaaDoor.chunk
