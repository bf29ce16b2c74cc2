/- Steps in numbers: nobody is pushed; one is hit. -/
import Derived.Test.YtdopfonebpklkaaPu
namespace Go.Proofs.Ytdopfonebpklkaa.game
open Go.ChangeShapes Go.WideShapes Go.ChangeAt Go.RowKit dice

def zS : List Shp := List.replicate 8 zShp
def zI : List Inp := List.replicate 8 zInp
theorem zI_ok : ∀ i ∈ zI, i.ok := fun i hi => by rw [List.eq_of_mem_replicate hi]; exact zInp_ok
theorem zShp_ok : zShp.ok := by unfold Shp.ok OkShip zShp; simp
theorem zS_ok : ∀ t ∈ zS, t.ok := fun t ht => by rw [List.eq_of_mem_replicate ht]; exact zShp_ok
/-- A ship that is not pushed. -/
def coast (t : Shp) : Shp := if t.on = true then (if 0 < t.cool then { pushT t zInp with cool := t.cool - 1 } else pushT t zInp) else t
theorem sailF_zero (k : Nat) (t : Shp) (out : List Sht) : sailF k t zInp out = ⟨if 0 < t.cool then { pushT t zInp with cool := t.cool - 1 } else pushT t zInp, out⟩ := by
  unfold sailF
  split
  · rfl
  · rw [if_neg (by unfold shoots zInp; simp)]
theorem sailL_zero : ∀ (S : List Shp) (k : Nat) (I : List Inp) (out : List Sht), (∀ i ∈ I, i = zInp) → sailL k S I out = ⟨S.map coast, out⟩
  | [], _, _, _, _ => rfl
  | t :: S, k, I, out, h => by
    have h0 : hdI I = zInp := by
      cases I with
      | nil => rfl
      | cons i I => exact h i (List.mem_cons_self ..)
    have ht : ∀ i ∈ I.tail, i = zInp := fun i hi => h i (List.mem_of_mem_tail hi)
    unfold sailL
    rw [h0, sailF_zero]
    have e : (if t.on = true then (⟨if 0 < t.cool then { pushT t zInp with cool := t.cool - 1 } else pushT t zInp, out⟩ : SailR) else ⟨t, out⟩) = ⟨coast t, out⟩ := by
      unfold coast
      split <;> rfl
    simp only [e, sailL_zero S (k + 1) I.tail out ht, List.map_cons]
theorem hitP (D X Y n : Int) (i k : Nat) (hi : i < 8) (hk : k < 8) (hik : i ≠ k) :
    ∃ S', stepG ⟨0, D, (zS.set i ⟨true, mv X 8388608, Y, 0, 0, 0, n⟩).set k ⟨true, X, Y, 5, 0, 4, 7⟩, [⟨i, X, Y, 65536, 0, 9⟩]⟩ zI = ⟨1, next (next D), S', []⟩ ∧ S'.length = 8 ∧ S'[k]? = some ⟨true, px D, py D, 0, 0, 0, 7⟩ ∧ ∃ t, S'[i]? = some t ∧ t.score = min (n + 1) 1073741824 := by
  have hz : ∀ i ∈ zI, i = zInp := fun i hi => List.eq_of_mem_replicate hi
  unfold stepG
  dsimp only
  rw [sailL_zero _ 0 zI _ hz]
  dsimp only
  have hm : ((zS.set i ⟨true, mv X 8388608, Y, 0, 0, 0, n⟩).set k ⟨true, X, Y, 5, 0, 4, 7⟩).map coast = (zS.set i ⟨true, mv (mv X 8388608) 0, mv Y 0, 0, 0, 0, n⟩).set k ⟨true, mv X 5, mv Y 0, 5, 0, 3, 7⟩ := by
    rw [List.map_set, List.map_set]
    rfl
  rw [hm]
  clear hm
  have hl8 : (zS.set i (⟨true, mv (mv X 8388608) 0, mv Y 0, 0, 0, 0, n⟩ : Shp)).length = 8 := by rw [List.length_set]; rfl
  have gk : ((zS.set i ⟨true, mv (mv X 8388608) 0, mv Y 0, 0, 0, 0, n⟩).set k ⟨true, mv X 5, mv Y 0, 5, 0, 3, 7⟩)[k]? = some ⟨true, mv X 5, mv Y 0, 5, 0, 3, 7⟩ := List.getElem?_set_self (by rw [hl8]; exact hk)
  have gi : ((zS.set i ⟨true, mv (mv X 8388608) 0, mv Y 0, 0, 0, 0, n⟩).set k ⟨true, mv X 5, mv Y 0, 5, 0, 3, 7⟩)[i]? = some ⟨true, mv (mv X 8388608) 0, mv Y 0, 0, 0, 0, n⟩ := by
    rw [List.getElem?_set_ne (fun e => hik e.symm)]
    exact List.getElem?_set_self (by exact hi)
  have gj : ∀ j, j ≠ i → j ≠ k → ((zS.set i ⟨true, mv (mv X 8388608) 0, mv Y 0, 0, 0, 0, n⟩).set k ⟨true, mv X 5, mv Y 0, 5, 0, 3, 7⟩).getD j zShp = zShp := fun j h1 h2 => by
    rw [List.getD_eq_getElem?_getD, List.getElem?_set_ne (fun e => h2 e.symm), List.getElem?_set_ne (fun e => h1 e.symm)]
    cases h : zS[j]? with
    | none => rfl
    | some t => exact List.eq_of_mem_replicate (List.mem_of_getElem? h)
  have h8 : ((zS.set i ⟨true, mv (mv X 8388608) 0, mv Y 0, 0, 0, 0, n⟩).set k ⟨true, mv X 5, mv Y 0, 5, 0, 3, 7⟩).length = 8 := by rw [List.length_set]; exact hl8
  generalize (zS.set i ⟨true, mv (mv X 8388608) 0, mv Y 0, 0, 0, 0, n⟩).set k ⟨true, mv X 5, mv Y 0, 5, 0, 3, 7⟩ = S1 at *
  have gkD : S1.getD k zShp = ⟨true, mv X 5, mv Y 0, 5, 0, 3, 7⟩ := by rw [List.getD_eq_getElem?_getD, gk]; rfl
  have giD : S1.getD i zShp = ⟨true, mv (mv X 8388608) 0, mv Y 0, 0, 0, 0, n⟩ := by rw [List.getD_eq_getElem?_getD, gi]; rfl
  have hf : flown ⟨i, X, Y, 65536, 0, 9⟩ = ⟨i, mv X 65536, mv Y 0, 65536, 0, 8⟩ := rfl
  have hh : hitsI (mv X 65536) (mv Y 0) (mv X 5) (mv Y 0) = true := by
    have e1 : -786432 < gapI (mv X 65536) (mv X 5) ∧ gapI (mv X 65536) (mv X 5) < 786432 := by unfold gapI mv; omega
    have e2 : gapI (mv Y 0) (mv Y 0) = 0 := by unfold gapI; omega
    unfold hitsI near
    rw [e2, decide_eq_true e1.2, decide_eq_true (show -gapI (mv X 65536) (mv X 5) < 786432 by omega)]
    rfl
  have hp : passes ⟨i, mv X 65536, mv Y 0, 65536, 0, 8⟩ k (S1.getD k zShp) = false := by
    unfold passes
    rw [gkD]
    dsimp only
    rw [hh, beq_eq_false_iff_ne.2 (show ((k : Int)) ≠ (i : Int) by omega)]
    rfl
  have ho : ∀ j, j < k → passes ⟨i, mv X 65536, mv Y 0, 65536, 0, 8⟩ j (S1.getD j zShp) = true := fun j hj => by
    unfold passes
    by_cases hji : j = i
    · subst hji
      dsimp only
      simp
    · rw [gj j hji (by omega)]
      rfl
  have hfirst : firstHit ⟨i, mv X 65536, mv Y 0, 65536, 0, 8⟩ S1 = some k := by
    unfold firstHit
    rw [List.find?_range_eq_some]
    exact ⟨by rw [hp]; rfl, List.mem_range.2 hk, fun j hj => by rw [ho j hj]; rfl⟩
  have hF : flyF D S1 ⟨i, X, Y, 65536, 0, 9⟩ = ⟨false, next (next D), hitS S1 k i (px D) (py D)⟩ := by
    unfold flyF
    rw [hf, if_neg (by dsimp only; omega), hfirst]
    rfl
  have hS : hitS S1 k i (px D) (py D) = (S1.set k ⟨true, px D, py D, 0, 0, 0, 7⟩).set i ⟨true, mv (mv X 8388608) 0, mv Y 0, 0, 0, 0, min (n + 1) 1073741824⟩ := by
    unfold hitS
    have e : (S1.set k (hurt (S1.getD k zShp) (px D) (py D))).getD i zShp = ⟨true, mv (mv X 8388608) 0, mv Y 0, 0, 0, 0, n⟩ := by
      rw [List.getD_eq_getElem?_getD, List.getElem?_set_ne (fun e => hik e.symm), gi]; rfl
    dsimp only
    rw [e, if_pos rfl, gkD]
    rfl
  refine ⟨hitS S1 k i (px D) (py D), ?_, ?_, ?_, ?_⟩
  · simp only [flyAll, hF, Bool.false_eq_true, if_false, List.append_nil]
    rfl
  · rw [hS, List.length_set, List.length_set, h8]
  · rw [hS, List.getElem?_set_ne hik]
    exact List.getElem?_set_self (by rw [h8]; exact hk)
  · refine ⟨⟨true, mv (mv X 8388608) 0, mv Y 0, 0, 0, 0, min (n + 1) 1073741824⟩, ?_, rfl⟩
    rw [hS]
    exact List.getElem?_set_self (by rw [List.length_set, h8]; exact hi)
end Go.Proofs.Ytdopfonebpklkaa.game
