/- A game's cells, ship by ship: what is read, what is written. -/
import Derived.Test.YtdopfonebpklkaaMb
namespace Go.Proofs.Ytdopfonebpklkaa.game
open Go.ChangeShapes Go.WideShapes Go.ChangeAt Go.RowKit dice

structure Shp where
  on : Bool
  x : Int
  y : Int
  vx : Int
  vy : Int
  cool : Int
  score : Int
def Shp.ok (s : Shp) : Prop := OkShip s.on s.x s.y s.vx s.vy s.cool s.score
def shipL (s : Shp) : List Value := [.bool s.on, .int .i32 s.x, .int .i32 s.y, .int .i32 s.vx, .int .i32 s.vy, .int .i64 s.cool, .int .i64 s.score]
def shipsL (S : List Shp) : List Value := S.flatMap shipL
def gameC (fr d : Int) (S : List Shp) (sl : Value) : Array Value := (.int .i64 fr :: .int .u64 d :: (shipsL S ++ [sl])).toArray
theorem length_shipsL (S : List Shp) : (shipsL S).length = S.length * 7 := by
  induction S with
  | nil => rfl
  | cons s S ih => unfold shipsL at *; rw [List.flatMap_cons, List.length_append, ih, List.length_cons]; simp only [shipL, List.length_cons, List.length_nil]; omega
theorem shipsL_at : ∀ (S : List Shp) (i j : Nat) (s : Shp) (v : Value), S[i]? = some s → (shipL s)[j]? = some v → (shipsL S)[i * 7 + j]? = some v
  | [], i, _, _, _, h, _ => by simp at h
  | s' :: S, 0, j, s, v, h, hj => by
    simp at h
    subst h
    have hl : j < (shipL s').length := (List.getElem?_eq_some_iff.1 hj).1
    unfold shipsL
    rw [List.flatMap_cons, Nat.zero_mul, Nat.zero_add, List.getElem?_append_left hl]
    exact hj
  | s' :: S, i + 1, j, s, v, h, hj => by
    have ih := shipsL_at S i j s v (by simpa using h) hj
    unfold shipsL at *
    have hl : (shipL s').length = 7 := rfl
    rw [List.flatMap_cons, List.getElem?_append_right (by rw [hl]; omega), hl, show (i + 1) * 7 + j - 7 = i * 7 + j by omega]
    exact ih
theorem shipsL_set : ∀ (S : List Shp) (i j : Nat) (s s' : Shp) (v : Value), S[i]? = some s → j < 7 → shipL s' = (shipL s).set j v → (shipsL S).set (i * 7 + j) v = shipsL (S.set i s')
  | [], i, _, _, _, _, h, _, _ => by simp at h
  | t :: S, 0, j, s, s', v, h, hj, he => by
    simp at h
    subst h
    unfold shipsL
    rw [List.flatMap_cons, Nat.zero_mul, Nat.zero_add, List.set_append_left _ _ (show j < (shipL t).length from hj), List.set_cons_zero, List.flatMap_cons, he]
  | t :: S, i + 1, j, s, s', v, h, hj, he => by
    have ih := shipsL_set S i j s s' v (by simpa using h) hj he
    unfold shipsL at *
    have hl : (shipL t).length = 7 := rfl
    rw [List.flatMap_cons, List.set_append_right _ _ (by rw [hl]; omega), hl, show (i + 1) * 7 + j - 7 = i * 7 + j by omega, ih, List.set_cons_succ, List.flatMap_cons]
theorem splice_one (c : Array Value) (o : Nat) (v : Value) (h : o < c.size) : splice c o [v] = (c.toList.set o v).toArray := by
  unfold splice
  rw [List.set_eq_take_append_cons_drop, if_pos (by simpa using h)]
  simp
variable {fr d : Int} {S : List Shp} {sl : Value}
theorem gc_size (h : S.length = 8) : (gameC fr d S sl).size = 59 := by
  unfold gameC
  simp [length_shipsL, h]
theorem gc_frame : (gameC fr d S sl)[0]? = some (.int .i64 fr) := rfl
theorem gc_dice : (gameC fr d S sl)[1]? = some (.int .u64 d) := rfl
theorem gc_shots (h : S.length = 8) : (gameC fr d S sl)[58]? = some sl := by
  unfold gameC
  rw [List.getElem?_toArray, List.getElem?_cons_succ, List.getElem?_cons_succ, List.getElem?_append_right (by rw [length_shipsL, h]; omega)]
  simp [length_shipsL, h]
theorem gc_at (k j : Nat) (s : Shp) (v : Value) (hs : S[k]? = some s) (hv : (shipL s)[j]? = some v) : (gameC fr d S sl)[2 + k * 7 + j]? = some v := by
  unfold gameC
  have h := shipsL_at S k j s v hs hv
  have hl := (List.getElem?_eq_some_iff.1 h).1
  rw [List.getElem?_toArray, show 2 + k * 7 + j = k * 7 + j + 1 + 1 by omega, List.getElem?_cons_succ, List.getElem?_cons_succ, List.getElem?_append_left hl]
  exact h
theorem gc_at0 (k : Nat) (s : Shp) (hs : S[k]? = some s) : (gameC fr d S sl)[2 + k * 7]? = some (.bool s.on) := gc_at k 0 s _ hs rfl
theorem gc_set (k j : Nat) (s s' : Shp) (v : Value) (hs : S[k]? = some s) (hj : j < 7) (he : shipL s' = (shipL s).set j v) : splice (gameC fr d S sl) (2 + k * 7 + j) [v] = gameC fr d (S.set k s') sl := by
  have hk := (List.getElem?_eq_some_iff.1 hs).1
  rw [splice_one _ _ _ (by unfold gameC; simp [length_shipsL]; omega)]
  unfold gameC
  rw [show 2 + k * 7 + j = k * 7 + j + 1 + 1 by omega]
  simp only [List.set_cons_succ]
  rw [List.set_append_left _ _ (by rw [length_shipsL]; omega), shipsL_set S k j s s' v hs hj he]
theorem gc_setFrame (fr' : Int) : splice (gameC fr d S sl) 0 [.int .i64 fr'] = gameC fr' d S sl := rfl
theorem gc_setDice (d' : Int) : splice (gameC fr d S sl) 1 [.int .u64 d'] = gameC fr d' S sl := rfl
theorem gc_setShots (h : S.length = 8) (sl' : Value) : splice (gameC fr d S sl) 58 [sl'] = gameC fr d S sl' := by
  rw [splice_one _ _ _ (by rw [gc_size h]; omega)]
  unfold gameC
  simp only [List.set_cons_succ]
  rw [List.set_append_right _ _ (by rw [length_shipsL, h]; omega), length_shipsL, h]
  rfl
theorem gc_one (hs : sl.oneCell' = true) : (gameC fr d S sl).all (·.oneCell') = true := by
  rw [Array.all_eq_true_iff_forall_mem]
  intro v hv
  unfold gameC shipsL at hv
  simp at hv
  rcases hv with rfl | rfl | ⟨s, _, hm⟩ | rfl
  · rfl
  · rfl
  · simp [shipL] at hm
    rcases hm with rfl | rfl | rfl | rfl | rfl | rfl | rfl <;> rfl
  · exact hs
theorem gc_gmS (h : S.length = 8) (hs : sl.oneCell' = true) (hok : ∀ s ∈ S, s.ok) : GmS (gameC fr d S sl) fr d sl := by
  refine ⟨gc_size h, gc_one hs, gc_frame, gc_dice, gc_shots h, fun k hk => ?_⟩
  obtain ⟨s, hsk⟩ : ∃ s, S[k]? = some s := ⟨S[k], List.getElem?_eq_getElem (by omega)⟩
  exact ⟨s.on, s.x, s.y, s.vx, s.vy, s.cool, s.score, gc_at k 0 s _ hsk rfl, gc_at k 1 s _ hsk rfl, gc_at k 2 s _ hsk rfl, gc_at k 3 s _ hsk rfl, gc_at k 4 s _ hsk rfl, gc_at k 5 s _ hsk rfl, gc_at k 6 s _ hsk rfl, hok s (List.mem_of_getElem? hsk)⟩
end Go.Proofs.Ytdopfonebpklkaa.game
