/- Memory in a walk: a callee that turned two blocks; an append to a row of shots. -/
import Derived.Test.YtdopfonebpklkaaMb
import Derived.Maps.AppendAt
namespace Go.Proofs.Ytdopfonebpklkaa.game
open Go.ChangeShapes Go.WideShapes Go.ChangeAt Go.RowKit dice
set_option maxRecDepth 100000
variable {Hs : List Nat} {W0 w w' : World} {l : List Blk} {R : List RowS}
/-- Two blocks of the caller's, handed to a callee. -/
theorem Sb.handed (h : Sb Hs W0 w l R) (p g : Nat) (c c' : Array Value) (t t' : TypeId) (hp : (p, c, t) ∈ l) (hg : (g, c', t') ∈ l) (hne : p ≠ g) : Sb [g, p] w w [(p, c, t), (g, c', t')] [] := by
  refine ⟨rfl, rfl, rfl, Nat.le_refl _, fun _ _ _ => rfl, fun q hq => ?_, fun q hq => ?_, by simp [hne], fun _ h => by simp at h, fun _ h => by simp at h, fun _ h => by simp at h, by simp⟩
  · simp at hq
    rcases hq with rfl | rfl
    · exact h.holds _ hp
    · exact h.holds _ hg
  · simp at hq
    rcases hq with rfl | rfl
    · exact .inr (by simp)
    · exact .inr (by simp)
/-- What the caller knows behind a callee that turned two blocks. -/
theorem Sb.sub2 (h : Sb Hs W0 w l R) (i j p g : Nat) (c c' c2 c3 : Array Value) (t t' : TypeId) (hij : i ≠ j) (hi : l[i]? = some (p, c, t)) (hj : l[j]? = some (g, c', t')) (hne : p ≠ g)
    (hc : Sb [g, p] w w' [(p, c2, t), (g, c3, t')] []) : Sb Hs W0 w' ((l.set i (p, c2, t)).set j (g, c3, t')) R := by
  have hgw : w.heap[g]? = some (.cells c' t' (0, 0)) := h.holds _ (List.mem_of_getElem? hj)
  have hg' : w'.heap[g]? = some (.cells c3 t' (0, 0)) := hc.holds (g, c3, t') (by simp)
  have hp' : w'.heap[p]? = some (.cells c2 t (0, 0)) := hc.holds (p, c2, t) (by simp)
  have A := h.turn (w' := w'.setRow g c') i p c c2 t hi hc.os hc.tape hc.output (by rw [size_setRow]; exact hc.size) ((heap_setRow_ne _ _ _ _ hne).trans hp') (fun k hk hkp => by
    by_cases e : k = g
    · subst e
      rw [hgw]
      exact setRow_heap w' k c3 c' t' (0, 0) hg'
    · rw [heap_setRow_ne _ _ _ _ e]
      exact hc.fr k hk (by simp [e, hkp]))
  exact A.turn j g c' c3 t' (by rw [List.getElem?_set_ne hij]; exact hj) rfl rfl rfl (by rw [size_setRow]; exact Nat.le_refl _) hg' (fun k _ hk => (heap_setRow_ne _ _ _ _ hk).symm)
/-- An append to row number r: the row has one shot more. -/
theorem Sb.append (h : Sb Hs W0 w l R) (r : Nat) (v v' : Value) (L L' : List Sht) (hr : R[r]? = some (v, L)) (ho : Own w' 0 v' L') (hg : w.grownBy w' v.ownBlock) (hb : v'.ownBlock = v.ownBlock ∨ v'.ownBlock = some w.heap.size) :
    Sb Hs W0 w' l (R.set r (v', L')) := by
  have hm : (v, L) ∈ R := List.mem_of_getElem? hr
  have hrl := (List.getElem?_eq_some_iff.1 hr).1
  have other : ∀ k, k < w.heap.size → v.ownBlock ≠ some k → w'.heap[k]? = w.heap[k]? := fun k hk hn => hg.block k hk (fun e => hn e.symm)
  have memR : ∀ q ∈ R.set r (v', L'), q = (v', L') ∨ ∃ j, j ≠ r ∧ R[j]? = some q := fun q hq => by
    obtain ⟨j, hj⟩ := List.mem_iff_getElem?.1 hq
    rw [List.getElem?_set] at hj
    by_cases e : r = j
    · rw [if_pos e, if_pos hrl] at hj
      exact .inl (Option.some.inj hj).symm
    · rw [if_neg e] at hj
      exact .inr ⟨j, fun e' => e e'.symm, hj⟩
  have diff : ∀ j q, j ≠ r → R[j]? = some q → ∀ k, q.1.ownBlock = some k → v.ownBlock ≠ some k := fun j q hj hq k hk e => by
    have hP := List.pairwise_iff_getElem.1 h.rnd
    obtain ⟨hjl, hjq⟩ := List.getElem?_eq_some_iff.1 hq
    obtain ⟨_, hrq⟩ := List.getElem?_eq_some_iff.1 hr
    rcases Nat.lt_or_gt_of_ne hj with hlt | hlt
    · have := hP j r hjl hrl hlt k (by rw [hjq]; exact hk)
      rw [hrq] at this
      exact this e
    · have := hP r j hrl hjl hlt k (by rw [hrq]; exact e)
      rw [hjq] at this
      exact this hk
  have newOk : ∀ k, v'.ownBlock = some k → v.ownBlock = some k ∨ k = w.heap.size := fun k hk => by
    rcases hb with e | e
    · exact .inl (by rw [← e]; exact hk)
    · rw [e] at hk
      exact .inr (Option.some.inj hk).symm
  refine ⟨hg.os.trans h.os, hg.tape.trans h.tape, hg.output.trans h.output, Nat.le_trans h.size hg.size, fun k hk hh => ?_, fun p hp => ?_, h.ge, h.nd, fun q hq => ?_, fun q hq k hk => ?_, fun q hq p hp e => ?_, ?_⟩
  · rw [other k (Nat.lt_of_lt_of_le hk h.size) (fun e => by
      rcases h.rge _ hm k e with a | a
      · exact absurd hk (Nat.not_lt.2 a)
      · exact hh a)]
    exact h.fr k hk hh
  · rw [other p.1 (h.lt p hp) (h.apart _ hm p hp)]
    exact h.holds p hp
  · rcases memR q hq with rfl | ⟨j, hj, hjq⟩
    · exact ho
    · have hqR := List.mem_of_getElem? hjq
      exact own_same (h.rows q hqR) (fun k hk => other k (h.rlt q hqR k hk) (diff j q hj hjq k hk))
  · rcases memR q hq with rfl | ⟨j, hj, hjq⟩
    · rcases newOk k hk with e | e
      · exact h.rge _ hm k e
      · exact .inl (by rw [e]; exact h.size)
    · exact h.rge q (List.mem_of_getElem? hjq) k hk
  · rcases memR q hq with rfl | ⟨j, hj, hjq⟩
    · rcases newOk p.1 e with a | a
      · exact h.apart _ hm p hp a
      · have := h.lt p hp
        omega
    · exact h.apart q (List.mem_of_getElem? hjq) p hp e
  · rw [List.pairwise_iff_getElem]
    intro i j hi hj hij k hk hk'
    have hP := List.pairwise_iff_getElem.1 h.rnd
    rw [List.length_set] at hi hj
    rw [List.getElem_set] at hk hk'
    by_cases ei : r = i
    · rw [if_pos ei] at hk
      rw [if_neg (by omega)] at hk'
      have hjq : R[j]? = some R[j] := List.getElem?_eq_getElem hj
      rcases newOk k hk with e | e
      · exact diff j _ (by omega) hjq k hk' e
      · have := h.rlt _ (List.mem_of_getElem? hjq) k hk'
        omega
    · rw [if_neg ei] at hk
      by_cases ej : r = j
      · rw [if_pos ej] at hk'
        have hiq : R[i]? = some R[i] := List.getElem?_eq_getElem hi
        rcases newOk k hk' with e | e
        · exact diff i _ (by omega) hiq k hk e
        · have := h.rlt _ (List.mem_of_getElem? hiq) k hk
          omega
      · rw [if_neg ej] at hk'
        exact hP i j hi hj hij k hk hk'
/-- A row of the call's own besides. -/
theorem Sb.addRow (h : Sb Hs W0 w l R) (v : Value) (L : List Sht) (ho : Own w' 0 v L) (hb : Below w.heap.size w w') (hn : ∀ k, v.ownBlock = some k → w.heap.size ≤ k) : Sb Hs W0 w' l ((v, L) :: R) := by
  have h' := h.call hb
  refine ⟨h'.os, h'.tape, h'.output, h'.size, h'.fr, h'.holds, h'.ge, h'.nd, fun q hq => ?_, fun q hq k hk => ?_, fun q hq p hp e => ?_, ?_⟩
  · rcases List.mem_cons.1 hq with rfl | hq
    · exact ho
    · exact h'.rows q hq
  · rcases List.mem_cons.1 hq with rfl | hq
    · exact .inl (Nat.le_trans h.size (hn k hk))
    · exact h'.rge q hq k hk
  · rcases List.mem_cons.1 hq with rfl | hq
    · have := hn _ e
      have := h.lt p hp
      omega
    · exact h'.apart q hq p hp e
  · rw [List.pairwise_cons]
    refine ⟨fun q hq k hk hk' => ?_, h'.rnd⟩
    have := hn k hk
    have := h.rlt q hq k hk'
    omega
end Go.Proofs.Ytdopfonebpklkaa.game
