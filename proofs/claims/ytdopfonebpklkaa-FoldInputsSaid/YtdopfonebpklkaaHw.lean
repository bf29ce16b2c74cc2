/- 'GameHit': the walk of the law. -/
import Derived.Test.YtdopfonebpklkaaSx
import Derived.Test.YtdopfonebpklkaaHp
import Derived.Test.YtdopfonebpklkaaTd
namespace Go.Proofs.Ytdopfonebpklkaa.game
open Go.ChangeShapes Go.WideShapes Go.ChangeAt Go.RowKit dice
set_option maxRecDepth 100000

theorem gq_zS (d : Int) : gq 0 d false 0 0 = gameC 0 d zS (.slice none 0 0) := rfl
theorem new_zS (s : ByteArray) (w : World) (hs : s.size ≤ maxLen) (d : Int) (hd : seed s.data.toList = d) :
    Calls Try.prog 11 #[.string s] w fun e w' => e = .returned (.agg (gameC 0 d zS (.slice none 0 0))) ∧ Below w.heap.size w w' := new_gq s w hs d hd
theorem Sb.noRows' {Hs : List Nat} {W0 w : World} {l : List Blk} {R : List RowS} (h : Sb Hs W0 w l R) : Sb Hs W0 w l [] :=
  ⟨h.os, h.tape, h.output, h.size, h.fr, h.holds, h.ge, h.nd, fun _ h => by simp at h, fun _ h => by simp at h, fun _ h => by simp at h, by simp⟩
/-- A whole ship is written. -/
theorem splice_many (a b c x : List Value) (h : x.length = b.length) : splice (a ++ b ++ c).toArray a.length x = (a ++ x ++ c).toArray := by
  unfold splice
  simp [h]
theorem shipsL_put (S : List Shp) (k : Nat) (s : Shp) (hk : k < S.length) : shipsL (S.set k s) = (shipsL S).take (k * 7) ++ shipL s ++ (shipsL S).drop (k * 7 + 7) := by
  induction S generalizing k with
  | nil => simp at hk
  | cons t S ih =>
    cases k with
    | zero => unfold shipsL; simp [shipL]
    | succ k =>
      have := ih k (by simpa using hk)
      unfold shipsL at *
      rw [List.set_cons_succ, List.flatMap_cons, this, List.flatMap_cons]
      have hl : (shipL t).length = 7 := rfl
      rw [show (k + 1) * 7 + 7 = (shipL t).length + (k * 7 + 7) by rw [hl]; omega, show (k + 1) * 7 = (shipL t).length + k * 7 by rw [hl]; omega, List.take_length_add_append, List.drop_length_add_append]
      simp
theorem gc_ship {fr d : Int} {S : List Shp} {sl : Value} (k : Nat) (s : Shp) (hk : k < S.length) : splice (gameC fr d S sl) (2 + k * 7) (shipL s) = gameC fr d (S.set k s) sl := by
  have hL := length_shipsL S
  have e : shipsL S = (shipsL S).take (k * 7) ++ ((shipsL S).drop (k * 7)).take 7 ++ (shipsL S).drop (k * 7 + 7) := by
    rw [List.append_assoc, show (shipsL S).drop (k * 7 + 7) = ((shipsL S).drop (k * 7)).drop 7 by rw [List.drop_drop], List.take_append_drop, List.take_append_drop]
  have g : gameC fr d S sl = ((.int .i64 fr :: .int .u64 d :: (shipsL S).take (k * 7)) ++ ((shipsL S).drop (k * 7)).take 7 ++ ((shipsL S).drop (k * 7 + 7) ++ [sl])).toArray := by
    unfold gameC
    conv => lhs; rw [e]
    simp
  rw [g, show 2 + k * 7 = (Value.int .i64 fr :: .int .u64 d :: (shipsL S).take (k * 7)).length by simp [hL]; omega, splice_many _ _ _ _ (by simp [shipL, hL]; omega)]
  unfold gameC
  rw [shipsL_put S k s hk]
  simp
theorem gcv_one {fr d : Int} {S : List Shp} {ad : Option Addr} {n c : Nat} : (Value.cells (.agg (gameC fr d S (.slice ad n c)))).toList.all (·.oneCell') = true := by
  have := gc_one (fr := fr) (d := d) (S := S) (sl := .slice ad n c) rfl
  simpa [Value.cells] using this
end Go.Proofs.Ytdopfonebpklkaa.game
