/- The zero state; puts into a state. (Of image.Get: ) image.Get's deferred closure: it turns the reader's panic into an error. -/
import Derived.Test.YtdopfonebpklkaaSi
import Derived.Defers
import Derived.Recover
namespace Go.Proofs.Ytdopfonebpklkaa.game
open Go.ChangeShapes Go.WideShapes Go.ChangeAt Go.RowKit dice
set_option maxRecDepth 100000

def zC : Array Value := #[.int .i64 0, .int .u64 0, .bool false, .int .i32 0, .int .i32 0, .int .i32 0, .int .i32 0, .int .i64 0, .int .i64 0, .bool false, .int .i32 0, .int .i32 0, .int .i32 0, .int .i32 0, .int .i64 0, .int .i64 0, .bool false, .int .i32 0, .int .i32 0, .int .i32 0, .int .i32 0, .int .i64 0, .int .i64 0, .bool false, .int .i32 0, .int .i32 0, .int .i32 0, .int .i32 0, .int .i64 0, .int .i64 0, .bool false, .int .i32 0, .int .i32 0, .int .i32 0, .int .i32 0, .int .i64 0, .int .i64 0, .bool false, .int .i32 0, .int .i32 0, .int .i32 0, .int .i32 0, .int .i64 0, .int .i64 0, .bool false, .int .i32 0, .int .i32 0, .int .i32 0, .int .i32 0, .int .i64 0, .int .i64 0, .bool false, .int .i32 0, .int .i32 0, .int .i32 0, .int .i32 0, .int .i64 0, .int .i64 0, .slice none 0 0, .int .i64 0, .int .i64 0, .int .i64 0, .int .i64 0, .int .i64 0, .int .i64 0, .int .i64 0, .int .i64 0, .int .i64 0, .int .i64 0, .int .i64 0, .int .i64 0, .int .i64 0, .int .i64 0, .int .i64 0, .int .i64 0, .int .i64 0]
theorem zC_size : zC.size = 76 := rfl
theorem zC_one : zC.toList.all (·.oneCell') = true := by decide +kernel
open Go.ChangeShapes Go.WideShapes Go.ChangeAt Go.RowKit dice
set_option maxRecDepth 100000

def zSte : Ste := ⟨⟨0, 0, List.replicate 8 zShp, []⟩, 0, List.replicate 8 ⟨0, 0⟩⟩
theorem zSte_cells : stateC zSte (.slice none 0 0) = zC := rfl
theorem lv35 (W : World) (b : Nat) (cs : Array Value) (h : W.heap[b]? = some (.cells cs 40 (0, 0))) (hs : cs.size = 76) :
    (loadVar 40 ⟨b, 0, none⟩).run Try.prog W = .ok (.agg cs) W :=
  run_loadVar_row W b 40 40 cs (0, 0) _ h Try.underlying40 rfl (by rw [hs]; exact info35)
theorem lv3 (W : World) (b : Nat) (v : Value) (h : W.heap[b]? = some (.cells #[v] 3 (0, 0))) :
    (loadVar 3 ⟨b, 0, none⟩).run Try.prog W = .ok v W := by
  have hc : W.cell? ⟨b, 0, none⟩ = some v := cell_of_row W b 0 #[v] 3 (0, 0) h
  simp only [loadVar, Sem.run_bind, Try.isAgg3, Result.andThen_ok, Bool.false_eq_true, if_false, run_load, hc]
theorem splice_mid (A old new B : List Value) (o : Nat) (ho : o = A.length) (h : old.length = new.length) : splice (A ++ (old ++ B)).toArray o new = (A ++ (new ++ B)).toArray := by
  subst ho
  unfold splice
  simp only [List.take_left, ← h]
  rw [← List.append_assoc A old B, ← List.length_append, List.drop_left, List.append_assoc]
section
variable {fr d ver : Int} {S : List Shp} {L : List Sht} {T : List Seat} {sl : Value}
theorem sc_putFr (fr' : Int) : splice (stateC ⟨⟨fr, d, S, L⟩, ver, T⟩ sl) 0 [.int .i64 fr'] = stateC ⟨⟨fr', d, S, L⟩, ver, T⟩ sl := rfl
theorem sc_putD (d' : Int) : splice (stateC ⟨⟨fr, d, S, L⟩, ver, T⟩ sl) 1 [.int .u64 d'] = stateC ⟨⟨fr, d', S, L⟩, ver, T⟩ sl := rfl
theorem shipsL_append (A B : List Shp) : shipsL (A ++ B) = shipsL A ++ shipsL B := by simp [shipsL]
theorem shipsL_cons (t : Shp) (B : List Shp) : shipsL (t :: B) = shipL t ++ shipsL B := by simp [shipsL]
theorem seatsL_append (A B : List Seat) : seatsL (A ++ B) = seatsL A ++ seatsL B := by simp [seatsL]
theorem seatsL_cons (t : Seat) (B : List Seat) : seatsL (t :: B) = seatL t ++ seatsL B := by simp [seatsL]
theorem sc_putShip (D E : List Shp) (z t : Shp) (k : Nat) (hk : D.length = k) : splice (stateC ⟨⟨fr, d, D ++ z :: E, L⟩, ver, T⟩ sl) (2 + k * 7) (shipL t) = stateC ⟨⟨fr, d, D ++ t :: E, L⟩, ver, T⟩ sl := by
  have e : ∀ t : Shp, stateC ⟨⟨fr, d, D ++ t :: E, L⟩, ver, T⟩ sl = ((Value.int .i64 fr :: Value.int .u64 d :: shipsL D) ++ (shipL t ++ (shipsL E ++ (sl :: .int .i64 ver :: seatsL T)))).toArray := fun t => by
    simp [stateC, stateL, shipsL_append, shipsL_cons]
  rw [e z, e t]
  exact splice_mid _ _ _ _ _ (by simp [length_shipsL, hk]; omega) rfl
theorem sc_putShots (h8 : S.length = 8) (sl' : Value) : splice (stateC ⟨⟨fr, d, S, L⟩, ver, T⟩ sl) 58 [sl'] = stateC ⟨⟨fr, d, S, L⟩, ver, T⟩ sl' := by
  have e : ∀ sl : Value, stateC ⟨⟨fr, d, S, L⟩, ver, T⟩ sl = ((Value.int .i64 fr :: Value.int .u64 d :: shipsL S) ++ ([sl] ++ (.int .i64 ver :: seatsL T))).toArray := fun t => by
    simp [stateC, stateL]
  rw [e sl, e sl']
  exact splice_mid _ _ _ _ _ (by simp [length_shipsL, h8]) rfl
theorem sc_putVer (h8 : S.length = 8) (ver' : Int) : splice (stateC ⟨⟨fr, d, S, L⟩, ver, T⟩ sl) 59 [.int .i64 ver'] = stateC ⟨⟨fr, d, S, L⟩, ver', T⟩ sl := by
  have e : ∀ ver : Int, stateC ⟨⟨fr, d, S, L⟩, ver, T⟩ sl = ((Value.int .i64 fr :: Value.int .u64 d :: (shipsL S ++ [sl])) ++ ([Value.int .i64 ver] ++ seatsL T)).toArray := fun t => by
    simp [stateC, stateL]
  rw [e ver, e ver']
  exact splice_mid _ _ _ _ _ (by simp [length_shipsL, h8]) rfl
theorem sc_putSeat (h8 : S.length = 8) (D E : List Seat) (z t : Seat) (k : Nat) (hk : D.length = k) : splice (stateC ⟨⟨fr, d, S, L⟩, ver, D ++ z :: E⟩ sl) (60 + k * 2) (seatL t) = stateC ⟨⟨fr, d, S, L⟩, ver, D ++ t :: E⟩ sl := by
  have e : ∀ t : Seat, stateC ⟨⟨fr, d, S, L⟩, ver, D ++ t :: E⟩ sl = ((Value.int .i64 fr :: Value.int .u64 d :: (shipsL S ++ (sl :: .int .i64 ver :: seatsL D))) ++ (seatL t ++ seatsL E)).toArray := fun t => by
    simp [stateC, stateL, seatsL_append, seatsL_cons]
  rw [e z, e t]
  exact splice_mid _ _ _ _ _ (by simp [length_shipsL, length_seatsL, h8, hk]; omega) rfl
theorem sc_L (L' : List Sht) : stateC ⟨⟨fr, d, S, L⟩, ver, T⟩ sl = stateC ⟨⟨fr, d, S, L'⟩, ver, T⟩ sl := rfl
theorem rep_cons {α : Type} (k : Nat) (hk : k < 8) (z : α) : List.replicate (8 - k) z = z :: List.replicate (8 - (k + 1)) z := by
  rw [show 8 - k = 8 - (k + 1) + 1 by omega, List.replicate_succ]
end
end Go.Proofs.Ytdopfonebpklkaa.game
