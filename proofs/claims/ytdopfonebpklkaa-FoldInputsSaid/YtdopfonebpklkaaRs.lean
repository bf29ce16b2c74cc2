/- A region that draws its order: loads may be taken first as long as no store to their cell has come up. -/
import Derived.OrdersHeld
import Derived.StillTail
namespace Go.Proofs.Ytdopfonebpklkaa.game
open Go

section
variable {P : Program} {ops : Array Oper} {md : Region.Mode} {Q : Exit → Act → World → Prop}
/-- Cells that hold their values as long as the store of that number has not come up. -/
abbrev Facts := List (Addr × Value × Nat)
def Held (T : Facts) (listed : Array Bool) (w : World) : Prop := ∀ t ∈ T, listed.getD t.2.2 true = false → w.cell? t.1 = some t.2.1
def wpAnyS (P : Program) (md : Region.Mode) (ops : Array Oper) (Q : Exit → Act → World → Prop) (T : Facts) : Nat → Array Bool → Act → World → Prop
  | 0, listed, a, w => Region.ready md ops listed = [] ∧ Q .normal a w
  | fuel + 1, listed, a, w =>
    (Region.ready md ops listed = [] → Q .normal a w) ∧
    ∀ i ∈ Region.ready md ops listed, wpOp P ops Q i (fun a' w' => Held T (listed.setIfInBounds i true) w' ∧ wpAnyS P md ops Q T fuel (listed.setIfInBounds i true) a' w') a w
theorem wpAny_of_S {T : Facts} : ∀ (fuel : Nat) (listed : Array Bool) (a : Act) (w : World), wpAnyS P md ops Q T fuel listed a w → wpAny P md ops Q fuel listed a w
  | 0, _, _, _, h => h
  | fuel + 1, _, _, _, h => ⟨h.1, fun i hi => wpOp_mono (fun a' w' h' => wpAny_of_S fuel _ a' w' h'.2) (h.2 i hi)⟩
/-- What has come up has come up behind what it waits for. -/
structure Closed (md : Region.Mode) (ops : Array Oper) (listed : Array Bool) : Prop where
  size : listed.size = ops.size
  closed : ∀ j oj, ops[j]? = some oj → listed.getD j false = true → ∀ e ∈ oj.after, Region.binds md e = true → listed.getD e.on false = true
theorem Closed.set {i : Nat} {listed : Array Bool} (inv : Closed md ops listed) (hi : i ∈ Region.ready md ops listed) : Closed md ops (listed.setIfInBounds i true) := by
  obtain ⟨_, oi, hoi, hall⟩ := mem_ready.1 hi
  refine ⟨by simp [inv.size], fun j oj hj hl e he hb => ?_⟩
  by_cases hij : i = j
  · subst hij
    have : oj = oi := Option.some.inj (hj.symm.trans hoi)
    subst this
    exact getD_set_true (hall e he hb)
  · rw [getD_set_ne false hij] at hl
    exact getD_set_true (inv.closed j oj hj hl e he hb)
theorem Held.unset {T : Facts} {i : Nat} {listed : Array Bool} {w : World} (hi : ∀ t ∈ T, t.2.2 ≠ i) (h : Held T (listed.setIfInBounds i true) w) : Held T listed w :=
  fun t ht hl => h t ht (by rw [getD_set_ne true (fun e => hi t ht e.symm)]; exact hl)
/-- An operation that may come up now may be taken first, if it yields its value wherever F holds, and F holds as long as it has not come up. -/
theorem wpAnyS_first {T : Facts} {F : World → Prop} {i : Nat} {oi : Oper} {v : Value} (hi : ops[i]? = some oi) (hsel : ∀ (j : Nat) (o : Oper) cs b, ops[j]? = some o → o.op ≠ .select cs b)
    (hQ : ∀ c a w, Q (.panic c) (a.put oi.dst v) w → Q (.panic c) a w) (hT : ∀ t ∈ T, t.2.2 ≠ i)
    (hF : ∀ listed w, Closed md ops listed → listed.getD i true = false → Held T listed w → F w) :
    ∀ (fuel : Nat) (listed : Array Bool) (a : Act) (w : World), Closed md ops listed →
      (∀ j oj, ops[j]? = some oj → j ≠ i → listed.getD j true = false → (∀ e ∈ oj.after, Region.binds md e = true → e.on ≠ i) → oi.apart ops oj = true) →
      i ∈ Region.ready md ops listed → YieldsIf P ops F oi v a → Held T listed w →
      wpAnyS P md ops Q T fuel (listed.setIfInBounds i true) (a.put oi.dst v) w → wpAnyS P md ops Q T (fuel + 1) listed a w := by
  intro fuel
  induction fuel with
  | zero =>
    intro listed a w inv _ hr hy hS H
    refine ⟨fun h => (by rw [h] at hr; cases hr), fun j hj => ?_⟩
    by_cases hji : j = i
    · subst hji
      exact hy.wpOp hi (hF listed w inv (mem_ready.1 hr).1 hS) ⟨fun t ht hl => hS t ht (by rw [getD_set_ne true (fun e => hT t ht e.symm)] at hl; exact hl), H⟩
    · have := ready_mono hj hji
      rw [H.1] at this
      cases this
  | succ fuel ih =>
    intro listed a w inv hfree hr hy hS H
    refine ⟨fun h => (by rw [h] at hr; cases hr), fun j hj => ?_⟩
    by_cases hji : j = i
    · subst hji
      exact hy.wpOp hi (hF listed w inv (mem_ready.1 hr).1 hS) ⟨fun t ht hl => hS t ht (by rw [getD_set_ne true (fun e => hT t ht e.symm)] at hl; exact hl), H⟩
    · have h1 := H.2 j (ready_mono hj hji)
      obtain ⟨hjun, oj, hoj, hall⟩ := mem_ready.1 hj
      have hnot : ∀ e ∈ oj.after, Region.binds md e = true → e.on ≠ i := fun e he hb heq => by
        have h1 := hall e he hb
        have h0 := (mem_ready.1 hr).1
        rw [heq, getD_both h0] at h1
        cases h1
      have h2 := wpOp_putIf hoj (hfree j oj hoj hji hjun hnot) (fun cs b => hsel i oi cs b hi) (fun cs b => hsel j oj cs b hoj) hQ hy h1
      have hfree' : ∀ k ok, ops[k]? = some ok → k ≠ i → (listed.setIfInBounds j true).getD k true = false →
          (∀ e ∈ ok.after, Region.binds md e = true → e.on ≠ i) → oi.apart ops ok = true := fun k ok hk hki hun hno => by
        refine hfree k ok hk hki ?_ hno
        by_cases hjk : j = k
        · subst hjk; exact hjun
        · rw [getD_set_ne true hjk] at hun; exact hun
      refine wpOp_mono (fun a' w' h3 => ?_) h2
      have hS' : Held T (listed.setIfInBounds j true) w' := by
        have := h3.2.1
        rw [Array.setIfInBounds_comm _ _ (Ne.symm hji)] at this
        exact this.unset hT
      refine ⟨hS', ih (listed.setIfInBounds j true) a' w' (inv.set hj) hfree' (ready_mono hr (Ne.symm hji)) h3.1 hS' ?_⟩
      rw [Array.setIfInBounds_comm _ _ hji]
      exact h3.2.2
def closedB (md : Region.Mode) (ops : Array Oper) (listed : Array Bool) : Bool :=
  decide (listed.size = ops.size) && (List.range ops.size).all fun j => !listed.getD j false || match ops[j]? with
    | some oj => oj.after.all fun e => !Region.binds md e || listed.getD e.on false
    | none => true
theorem closedB_spec {listed : Array Bool} (h : closedB md ops listed = true) : Closed md ops listed := by
  simp only [closedB, Bool.and_eq_true, decide_eq_true_eq] at h
  obtain ⟨h1, h2⟩ := h
  refine ⟨h1, fun j oj hj hl e he hb => ?_⟩
  have a1 := List.all_eq_true.1 h2 j (List.mem_range.2 (Array.getElem?_eq_some_iff.1 hj).1)
  simp only [hl, hj, Bool.not_true, Bool.false_or] at a1
  have a2 := Array.all_eq_true_iff_forall_mem.1 a1 e he
  simpa [hb] using a2
/-! ### The steps of a walk through such a region -/
/-- The state: what has come up is closed, the facts hold. -/
def Gs (P : Program) (ops : Array Oper) (Q : Exit → Act → World → Prop) (T : Facts) (fuel : Nat) (listed : Array Bool) (a : Act) (w : World) : Prop :=
  Closed .any ops listed → Held T listed w → wpAnyS P .any ops Q T fuel listed a w
variable {T : Facts} {fuel : Nat} {listed : Array Bool} {a : Act} {w : World}
theorem Gs_start {id : Nat} {W : World} {n : Nat} (hm : P.follows .mixedOrders = true) (hn : ops.size = n) (hh : Held T (Array.replicate n false) { W with drawn := W.drawn + 1 })
    (h : Gs P ops Q T n (Array.replicate n false) a { W with drawn := W.drawn + 1 }) : (Code.region id ops true).wp P Q a W := by
  refine wp_region_any hm ?_
  rw [hn]
  exact wpAny_of_S _ _ _ _ (h ⟨by simp [hn], fun j oj _ hl => by rw [getD_replicate_false] at hl; cases hl⟩ hh)
/-- Take number k first. -/
theorem Gs_take (F : World → Prop) (k : Nat) {o : Oper} {v : Value} (hQ : ∀ (d : Option Tmp) v c a w, Q (.panic c) (a.put d v) w → Q (.panic c) a w) (hi : ops[k]? = some o)
    (hs : Region.noSelect ops = true) (hf : Region.free .any ops listed k = true) (hr : (Region.ready .any ops listed).contains k = true) (hT : ∀ t ∈ T, t.2.2 ≠ k)
    (hF : ∀ listed w, Closed .any ops listed → listed.getD k true = false → Held T listed w → F w) (hy : YieldsIf P ops F o v a)
    (h : Gs P ops Q T fuel (listed.setIfInBounds k true) (a.put o.dst v) w) : Gs P ops Q T (fuel + 1) listed a w := by
  intro inv hh
  have hr' : k ∈ Region.ready .any ops listed := by simpa using hr
  refine wpAnyS_first hi (Region.noSelect_spec hs) (fun c a w => hQ _ _ c a w) hT hF fuel listed a w inv (Region.free_spec hi hf) hr' hy hh (h (inv.set hr') ?_)
  intro t ht hl
  exact hh t ht (by rw [getD_set_ne true (fun e => hT t ht e.symm)] at hl; exact hl)
theorem Gs_move (k : Nat) {o : Oper} (hQ : ∀ (d : Option Tmp) v c a w, Q (.panic c) (a.put d v) w → Q (.panic c) a w) (hs : Region.noSelect ops = true) (hi : ops[k]? = some o) (x : Operand) (ho : o.op = .move x) (hg : o.guard = none) (dst : Option Tmp) (hd : o.dst = dst)
    (hf : Region.free .any ops listed k = true) (hr : (Region.ready .any ops listed).contains k = true) (hT : ∀ t ∈ T, t.2.2 ≠ k) (v : Value) (hv : a.eval x = v)
    (h : Gs P ops Q T fuel (listed.setIfInBounds k true) (a.put dst v) w) : Gs P ops Q T (fuel + 1) listed a w :=
  Gs_take (v := v) (fun _ => True) k hQ hi hs hf hr hT (fun _ _ _ _ _ => trivial) (.inl ⟨by simp [Region.wanted, hg], fun w _ => by unfold execOp; rw [ho, ← hv]; rfl⟩) (by rw [hd]; exact h)
theorem Gs_nil (k : Nat) {o : Oper} (hQ : ∀ (d : Option Tmp) v c a w, Q (.panic c) (a.put d v) w → Q (.panic c) a w) (hs : Region.noSelect ops = true) (hi : ops[k]? = some o) (x : Operand) (ho : o.op = .nilCheck x) (hg : o.guard = none) (dst : Option Tmp) (hd : o.dst = dst)
    (hf : Region.free .any ops listed k = true) (hr : (Region.ready .any ops listed).contains k = true) (hT : ∀ t ∈ T, t.2.2 ≠ k) (p : Addr) (hv : a.eval x = .pointer (some p))
    (h : Gs P ops Q T fuel (listed.setIfInBounds k true) (a.put dst (.pointer (some p))) w) : Gs P ops Q T (fuel + 1) listed a w :=
  Gs_take (v := .pointer (some p)) (fun _ => True) k hQ hi hs hf hr hT (fun _ _ _ _ _ => trivial) (.inl ⟨by simp [Region.wanted, hg], fun w _ => by unfold execOp; rw [ho]; simp only [hv]; rfl⟩) (by rw [hd]; exact h)
theorem Gs_field (k : Nat) {o : Oper} (hQ : ∀ (d : Option Tmp) v c a w, Q (.panic c) (a.put d v) w → Q (.panic c) a w) (hs : Region.noSelect ops = true) (hi : ops[k]? = some o) (ty : TypeId) (x : Operand) (j : Nat) (ho : o.op = .fieldAddr ty x j) (hg : o.guard = none) (dst : Option Tmp) (hd : o.dst = dst)
    (hf : Region.free .any ops listed k = true) (hr : (Region.ready .any ops listed).contains k = true) (hT : ∀ t ∈ T, t.2.2 ≠ k) (p q : Addr) (hv : a.eval x = .pointer (some p)) (hrun : ∀ w, (Instr.fieldAt ty (.pointer (some p)) j).run P w = .ok (.pointer (some q)) w)
    (h : Gs P ops Q T fuel (listed.setIfInBounds k true) (a.put dst (.pointer (some q))) w) : Gs P ops Q T (fuel + 1) listed a w :=
  Gs_take (v := .pointer (some q)) (fun _ => True) k hQ hi hs hf hr hT (fun _ _ _ _ _ => trivial) (.inl ⟨by simp [Region.wanted, hg], fun w _ => by unfold execOp; rw [ho]; simp only [hv, Sem.run_bind, hrun, Result.andThen_ok, Sem.run_pure]⟩) (by rw [hd]; exact h)
theorem Gs_load (k d : Nat) {o : Oper} (hQ : ∀ (d : Option Tmp) v c a w, Q (.panic c) (a.put d v) w → Q (.panic c) a w) (hs : Region.noSelect ops = true) (hi : ops[k]? = some o) (ty : TypeId) (x : Operand) (ho : o.op = .load ty x) (hg : o.guard = none) (dst : Option Tmp) (hd : o.dst = dst)
    (hf : Region.free .any ops listed k = true) (hr : (Region.ready .any ops listed).contains k = true) (hT : ∀ t ∈ T, t.2.2 ≠ k) (p : Addr) (hv : a.eval x = .pointer (some p)) (ha : ∀ w, (isAgg ty).run P w = .ok false w)
    (v : Value) (hm : (p, v, d) ∈ T) (hw : Region.waitsFor .any ops d k = true)
    (h : Gs P ops Q T fuel (listed.setIfInBounds k true) (a.put dst v) w) : Gs P ops Q T (fuel + 1) listed a w := by
  refine Gs_take (v := v) (fun w => w.cell? p = some v) k hQ hi hs hf hr hT (fun listed w inv hk hh => ?_) (.inl ⟨by simp [Region.wanted, hg], fun w hc => ?_⟩) (by rw [hd]; exact h)
  · obtain ⟨od, hod, e, he, hb, hon⟩ := Region.waitsFor_spec hw
    refine hh _ hm ?_
    have hlt : d < listed.size := by rw [inv.size]; exact (Array.getElem?_eq_some_iff.1 hod).1
    cases hl : listed.getD d false with
    | true =>
      have := inv.closed d od hod hl e he hb
      rw [hon, getD_both hk] at this
      cases this
    | false => exact getD_in hlt hl
  · unfold execOp
    rw [ho]
    simp only [hv, Sem.run_bind, Instr.loadAt, Instr.sureAddr, Sem.run_pure, Result.andThen_ok, loadVar, ha, Bool.false_eq_true, if_false, run_load, hc]
theorem Gs_bin (k : Nat) {o : Oper} (hQ : ∀ (d : Option Tmp) v c a w, Q (.panic c) (a.put d v) w → Q (.panic c) a w) (hs : Region.noSelect ops = true) (hi : ops[k]? = some o) (hg : o.guard = none) (dst : Option Tmp) (hd : o.dst = dst)
    (hf : Region.free .any ops listed k = true) (hr : (Region.ready .any ops listed).contains k = true) (hT : ∀ t ∈ T, t.2.2 ≠ k) (v : Value) (hrun : ∀ w, (execOp a.eval o).run P w = .ok (.value v) w)
    (h : Gs P ops Q T fuel (listed.setIfInBounds k true) (a.put dst v) w) : Gs P ops Q T (fuel + 1) listed a w :=
  Gs_take (v := v) (fun _ => True) k hQ hi hs hf hr hT (fun _ _ _ _ _ => trivial) (.inl ⟨by simp [Region.wanted, hg], fun w _ => hrun w⟩) (by rw [hd]; exact h)
/-- A quiet call, alone ready. -/
theorem Gs_call (k : Nat) {o : Oper} (hi : ops[k]? = some o) (hg : o.guard = none) (dst : Option Tmp) (hd : o.dst = dst) (hr : Region.ready .any ops listed = [k]) (hT : ∀ t ∈ T, t.2.2 ≠ k) (f : FuncId) (vs : Array Value) (hrun : (execOp a.eval o).run P w = .ok (.enter f vs) w)
    (v : Value) (hc : Calls P f vs w fun e w' => e = .returned v ∧ w = w')
    (h : Gs P ops Q T fuel (listed.setIfInBounds k true) (a.put dst v) w) : Gs P ops Q T (fuel + 1) listed a w := by
  intro inv hh
  have hr' : k ∈ Region.ready .any ops listed := by rw [hr]; simp
  refine ⟨fun h0 => (by rw [h0] at hr'; cases hr'), fun i hik => ?_⟩
  rw [hr] at hik
  obtain rfl : i = k := by simpa using hik
  refine wpOp_of_stOp (K := fun a' => a' = a.put o.dst v) (fun a' ha => ?_) ?_
  · subst ha
    have hh' : Held T (listed.setIfInBounds i true) w := fun t ht hl => hh t ht (by rw [getD_set_ne true (fun e => hT t ht e.symm)] at hl; exact hl)
    rw [hd]
    exact ⟨hh', h (inv.set hr') hh'⟩
  · unfold stOp
    simp only [hi]
    rw [if_pos (by simp [Region.wanted, hg])]
    unfold Oper.still
    rw [hrun]
    exact ⟨rfl, v, hc.mono fun e w' hh => ⟨hh.1, hh.2.symm⟩, rfl⟩
theorem getD_set_true' {l : Array Bool} {i j : Nat} (h : l.getD j true = true) : (l.setIfInBounds i true).getD j true = true := by
  by_cases e : i = j
  · subst e
    simp only [Array.getD_eq_getD_getElem?, Array.getElem?_setIfInBounds]
    split <;> (try split) <;> simp_all
  · rw [getD_set_ne true e]; exact h
theorem wpAnyS_of_any : ∀ (fuel : Nat) {listed : Array Bool} {a : Act} {w : World}, (∀ t ∈ T, listed.getD t.2.2 true = true) → wpAny P md ops Q fuel listed a w → wpAnyS P md ops Q T fuel listed a w
  | 0, _, _, _, _, h => h
  | f + 1, _, _, _, ht, h => ⟨h.1, fun i hi => wpOp_mono (fun a' w' h' => ⟨fun t htm hl => (by rw [getD_set_true' (ht t htm)] at hl; cases hl), wpAnyS_of_any f (fun t htm => getD_set_true' (ht t htm)) h'⟩) (h.2 i hi)⟩
/-- The tail, from the store d on: forced. -/
theorem Gs_tail (d : Nat) (hr : Region.ready .any ops listed = [d]) (hd : ∀ t ∈ T, t.2.2 = d) (hB : Region.seqB .any ops (fuel + 1) d listed = true) (hz : (ops.toList.drop d).length = fuel + 1)
    (h : wpList P ops Q (ops.toList.drop d) a w) : Gs P ops Q T (fuel + 1) listed a w := by
  intro inv hh
  have hA := wpAny_of_seq (md := .any) (Q' := Q) (ops.toList.drop d) d listed a w (fun j => by simp [List.getElem?_drop]) (by rw [hz]; exact hB) h
  rw [hz] at hA
  refine ⟨hA.1, fun i hi => wpOp_mono (fun a' w' h' => ?_) (hA.2 i hi)⟩
  have hid : i = d := by rw [hr] at hi; simpa using hi
  have hall : ∀ t ∈ T, (listed.setIfInBounds i true).getD t.2.2 true = true := fun t ht => by
    rw [hd t ht, hid]
    simp
  exact ⟨fun t ht hl => (by rw [hall t ht] at hl; cases hl), wpAnyS_of_any fuel hall h'⟩
end
end Go.Proofs.Ytdopfonebpklkaa.game
