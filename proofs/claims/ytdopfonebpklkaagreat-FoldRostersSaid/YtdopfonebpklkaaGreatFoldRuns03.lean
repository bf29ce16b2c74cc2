/- game.fly: a shot that moves, and whom it hits. Memory in a walk: a callee that turned two blocks; an append to a row of shots. game.Step over games without ships and shots. -/
import Derived.Test.YtdopfonebpklkaaGreatFoldRuns02
import Derived.BigQuiet
import Derived.Deep.RegionWith
import Derived.Deep.LoopGhost
import Derived.Maps.AppendAt
namespace Go.Proofs.YtdopfonebpklkaaGreat.game
open Go.ChangeShapes Go.WideShapes Go.ChangeAt Go.RowKit dice
set_option maxRecDepth 100000

def flown (s : Sht) : Sht := { s with x := mv s.x s.vx, y := mv s.y s.vy, left := s.left - 1 }
def passes (s : Sht) (k : Nat) (t : Shp) : Bool := !t.on || ((k : Int) == s.owner) || !hitsI s.x s.y t.x t.y
def zShp : Shp := ⟨false, 0, 0, 0, 0, 0, 0⟩
def firstHit (s : Sht) (S : List Shp) : Option Nat := (List.range 8).find? fun k => !passes s k (S.getD k zShp)
def hurt (t : Shp) (x y : Int) : Shp := { t with x := x, y := y, vx := 0, vy := 0, cool := 0 }
def scored (t : Shp) : Shp := { t with score := min (t.score + 1) 1073741824 }
def hitS (S : List Shp) (k ow : Nat) (x y : Int) : List Shp :=
  let S1 := S.set k (hurt (S.getD k zShp) x y)
  if (S1.getD ow zShp).on = true then S1.set ow (scored (S1.getD ow zShp)) else S1
structure FlyR where
  stays : Bool
  dice : Int
  ships : List Shp
def flyF (d : Int) (S : List Shp) (s : Sht) : FlyR :=
  if (flown s).left = 0 then ⟨false, d, S⟩ else
    match firstHit (flown s) S with
    | none => ⟨true, d, S⟩
    | some k => ⟨false, next (next d), hitS S k s.owner.toNat (px d) (py d)⟩
def FlyPost (g p : Nat) (fr d : Int) (S : List Shp) (sl : Value) (s : Sht) (w : World) (e : Ending) (w' : World) : Prop :=
  e = .returned (.bool (flyF d S s).stays) ∧ Sb [g, p] w w' [(p, (shotL (flown s)).toArray, 93), (g, gameC fr (flyF d S s).dice (flyF d S s).ships sl, 28)] []
theorem fieldAt79_0 (b o : Nat) (w : World) : (Instr.fieldAt 93 (.pointer (some ⟨b, o, none⟩)) 0).run Tryz.prog w = .ok (.pointer (some ⟨b, o + 0, none⟩)) w := by go_simp
theorem fieldAt79_1 (b o : Nat) (w : World) : (Instr.fieldAt 93 (.pointer (some ⟨b, o, none⟩)) 1).run Tryz.prog w = .ok (.pointer (some ⟨b, o + 1, none⟩)) w := by go_simp
theorem fieldAt79_2 (b o : Nat) (w : World) : (Instr.fieldAt 93 (.pointer (some ⟨b, o, none⟩)) 2).run Tryz.prog w = .ok (.pointer (some ⟨b, o + 2, none⟩)) w := by go_simp
theorem fieldAt79_3 (b o : Nat) (w : World) : (Instr.fieldAt 93 (.pointer (some ⟨b, o, none⟩)) 3).run Tryz.prog w = .ok (.pointer (some ⟨b, o + 3, none⟩)) w := by go_simp
theorem fieldAt79_4 (b o : Nat) (w : World) : (Instr.fieldAt 93 (.pointer (some ⟨b, o, none⟩)) 4).run Tryz.prog w = .ok (.pointer (some ⟨b, o + 4, none⟩)) w := by go_simp
theorem fieldAt79_5 (b o : Nat) (w : World) : (Instr.fieldAt 93 (.pointer (some ⟨b, o, none⟩)) 5).run Tryz.prog w = .ok (.pointer (some ⟨b, o + 5, none⟩)) w := by go_simp
theorem gc_set2 {fr d : Int} {S : List Shp} {sl : Value} (k j : Nat) (s a b : Shp) (v : Value) (hs : S[k]? = some s) (hj : j < 7) (he : shipL b = (shipL a).set j v) : splice (gameC fr d (S.set k a) sl) (2 + k * 7 + j) [v] = gameC fr d (S.set k b) sl := by
  have hk := (List.getElem?_eq_some_iff.1 hs).1
  rw [gc_set k j a b v (by rw [List.getElem?_set_self hk]) hj he, List.set_set]
theorem below_drewN {B : Nat} {a w : World} (h : Below B a w) (n : Nat) : Below B a (w.drewN n) := ⟨h.os, h.tape, h.output, h.size, h.block⟩
set_option maxHeartbeats 8000000 in
theorem fly_any (g p : Nat) (fr d : Int) (S : List Shp) (sl : Value) (s : Sht) (w0' : World) (hS : S.length = 8) (hok : ∀ t ∈ S, t.ok) (hs : OkShot s)
    (H : Sb [g, p] w0' w0' [(p, (shotL s).toArray, 93), (g, gameC fr d S sl, 28)] []) :
    Calls Tryz.prog 126 #[.pointer (some ⟨g, 0, none⟩), .pointer (some ⟨p, 0, none⟩)] w0' (FlyPost g p fr d S sl s w0') := by
  obtain ⟨w, hw⟩ : ∃ w, w0' = w := ⟨_, rfl⟩
  have HW := Lib.hid hw
  replace H : Sb [g, p] w0' w [(p, (shotL s).toArray, 93), (g, gameC fr d S sl, 28)] [] := by rw [hw] at H ⊢; exact H
  rw [show Calls Tryz.prog 126 #[.pointer (some ⟨g, 0, none⟩), .pointer (some ⟨p, 0, none⟩)] w0' = Calls Tryz.prog 126 #[.pointer (some ⟨g, 0, none⟩), .pointer (some ⟨p, 0, none⟩)] w by rw [hw]]
  clear hw
  have HS := Lib.hid hS
  have HO := Lib.hid hok
  have Hs := Lib.hid hs
  have M1 := Lib.hid (fun w => move_any s.x s.vx w (by have := hs.x0; omega) (by have := hs.x1; omega) (by have := hs.u0; omega) (by have := hs.u1; omega))
  have M2 := Lib.hid (fun w => move_any s.y s.vy w (by have := hs.y0; omega) (by have := hs.y1; omega) (by have := hs.v0; omega) (by have := hs.v1; omega))
  have l0 := hs.l0
  have l1 := hs.l1
  clear hS hok hs
  go_enter Tryz.func126, Tryz.ntmps126
  go_wp2_with fail
  have e0 := (H.call ((Below.refl _ w).drew)).holds _ (List.mem_cons_self ..)
  have HT : ∀ k, k ≠ 28 → ∀ t ∈ [((⟨p, 1, none⟩ : Addr), Value.int .i32 s.x, 28), (⟨p, 2, none⟩, .int .i32 s.y, 28), (⟨p, 3, none⟩, .int .i32 s.vx, 28), (⟨p, 4, none⟩, .int .i32 s.vy, 28), (⟨p, 5, none⟩, .int .i64 s.left, 28)], t.2.2 ≠ k := by
    intro k hk t ht
    simp at ht
    rcases ht with rfl | rfl | rfl | rfl | rfl <;> exact fun e => hk e.symm
  have HD : ∀ t ∈ [((⟨p, 1, none⟩ : Addr), Value.int .i32 s.x, 28), (⟨p, 2, none⟩, .int .i32 s.y, 28), (⟨p, 3, none⟩, .int .i32 s.vx, 28), (⟨p, 4, none⟩, .int .i32 s.vy, 28), (⟨p, 5, none⟩, .int .i64 s.left, 28)], t.2.2 = 28 := by
    intro t ht
    simp at ht
    rcases ht with rfl | rfl | rfl | rfl | rfl <;> rfl
  refine Gs_start (T := [((⟨p, 1, none⟩ : Addr), Value.int .i32 s.x, 28), (⟨p, 2, none⟩, .int .i32 s.y, 28), (⟨p, 3, none⟩, .int .i32 s.vx, 28), (⟨p, 4, none⟩, .int .i32 s.vy, 28), (⟨p, 5, none⟩, .int .i64 s.left, 28)]) (n := 35) (by kernel_rfl) rfl ?_ ?_
  · intro t ht _
    simp at ht
    rcases ht with rfl | rfl | rfl | rfl | rfl
    · exact cell_of_row _ _ 1 _ _ _ e0
    · exact cell_of_row _ _ 2 _ _ _ e0
    · exact cell_of_row _ _ 3 _ _ _ e0
    · exact cell_of_row _ _ 4 _ _ _ e0
    · exact cell_of_row _ _ 5 _ _ _ e0
  clear e0
  refine Gs_move 0 (fun d _ _ _ _ h => by cases d <;> exact h) (by kernel_rfl) rfl _ rfl rfl (some 8) rfl (by kernel_rfl) (by kernel_rfl) (HT 0 (by decide)) (.pointer _) rfl ?_
  simp only [Act.put, List.setIfInBounds_toArray, List.set_cons_succ, List.set_cons_zero]
  refine Gs_move 1 (fun d _ _ _ _ h => by cases d <;> exact h) (by kernel_rfl) rfl _ rfl rfl (some 9) rfl (by kernel_rfl) (by kernel_rfl) (HT 1 (by decide)) (.pointer _) rfl ?_
  simp only [Act.put, List.setIfInBounds_toArray, List.set_cons_succ, List.set_cons_zero]
  refine Gs_move 2 (fun d _ _ _ _ h => by cases d <;> exact h) (by kernel_rfl) rfl _ rfl rfl (some 10) rfl (by kernel_rfl) (by kernel_rfl) (HT 2 (by decide)) (.pointer _) rfl ?_
  simp only [Act.put, List.setIfInBounds_toArray, List.set_cons_succ, List.set_cons_zero]
  refine Gs_move 3 (fun d _ _ _ _ h => by cases d <;> exact h) (by kernel_rfl) rfl _ rfl rfl (some 11) rfl (by kernel_rfl) (by kernel_rfl) (HT 3 (by decide)) (.pointer _) rfl ?_
  simp only [Act.put, List.setIfInBounds_toArray, List.set_cons_succ, List.set_cons_zero]
  refine Gs_nil 4 (fun d _ _ _ _ h => by cases d <;> exact h) (by kernel_rfl) rfl _ rfl rfl (some 12) rfl (by kernel_rfl) (by kernel_rfl) (HT 4 (by decide)) _ rfl ?_
  simp only [Act.put, List.setIfInBounds_toArray, List.set_cons_succ, List.set_cons_zero]
  refine Gs_field 5 (fun d _ _ _ _ h => by cases d <;> exact h) (by kernel_rfl) rfl _ _ _ rfl rfl (some 13) rfl (by kernel_rfl) (by kernel_rfl) (HT 5 (by decide)) _ _ rfl (fieldAt79_1 _ _) ?_
  simp only [Act.put, List.setIfInBounds_toArray, List.set_cons_succ, List.set_cons_zero]
  refine Gs_load 6 28 (fun d _ _ _ _ h => by cases d <;> exact h) (by kernel_rfl) rfl _ _ rfl rfl (some 14) rfl (by kernel_rfl) (by kernel_rfl) (HT 6 (by decide)) _ rfl Tryz.isAgg21 _ (List.Mem.head _) (by kernel_rfl) ?_
  simp only [Act.put, List.setIfInBounds_toArray, List.set_cons_succ, List.set_cons_zero]
  refine Gs_move 7 (fun d _ _ _ _ h => by cases d <;> exact h) (by kernel_rfl) rfl _ rfl rfl (some 15) rfl (by kernel_rfl) (by kernel_rfl) (HT 7 (by decide)) (.pointer _) rfl ?_
  simp only [Act.put, List.setIfInBounds_toArray, List.set_cons_succ, List.set_cons_zero]
  refine Gs_nil 8 (fun d _ _ _ _ h => by cases d <;> exact h) (by kernel_rfl) rfl _ rfl rfl (some 16) rfl (by kernel_rfl) (by kernel_rfl) (HT 8 (by decide)) _ rfl ?_
  simp only [Act.put, List.setIfInBounds_toArray, List.set_cons_succ, List.set_cons_zero]
  refine Gs_field 9 (fun d _ _ _ _ h => by cases d <;> exact h) (by kernel_rfl) rfl _ _ _ rfl rfl (some 17) rfl (by kernel_rfl) (by kernel_rfl) (HT 9 (by decide)) _ _ rfl (fieldAt79_3 _ _) ?_
  simp only [Act.put, List.setIfInBounds_toArray, List.set_cons_succ, List.set_cons_zero]
  refine Gs_load 10 28 (fun d _ _ _ _ h => by cases d <;> exact h) (by kernel_rfl) rfl _ _ rfl rfl (some 18) rfl (by kernel_rfl) (by kernel_rfl) (HT 10 (by decide)) _ rfl Tryz.isAgg21 _ (List.Mem.tail _ (List.Mem.tail _ (List.Mem.head _))) (by kernel_rfl) ?_
  simp only [Act.put, List.setIfInBounds_toArray, List.set_cons_succ, List.set_cons_zero]
  refine Gs_move 12 (fun d _ _ _ _ h => by cases d <;> exact h) (by kernel_rfl) rfl _ rfl rfl (some 20) rfl (by kernel_rfl) (by kernel_rfl) (HT 12 (by decide)) (.pointer _) rfl ?_
  simp only [Act.put, List.setIfInBounds_toArray, List.set_cons_succ, List.set_cons_zero]
  refine Gs_nil 13 (fun d _ _ _ _ h => by cases d <;> exact h) (by kernel_rfl) rfl _ rfl rfl (some 21) rfl (by kernel_rfl) (by kernel_rfl) (HT 13 (by decide)) _ rfl ?_
  simp only [Act.put, List.setIfInBounds_toArray, List.set_cons_succ, List.set_cons_zero]
  refine Gs_field 14 (fun d _ _ _ _ h => by cases d <;> exact h) (by kernel_rfl) rfl _ _ _ rfl rfl (some 22) rfl (by kernel_rfl) (by kernel_rfl) (HT 14 (by decide)) _ _ rfl (fieldAt79_2 _ _) ?_
  simp only [Act.put, List.setIfInBounds_toArray, List.set_cons_succ, List.set_cons_zero]
  refine Gs_load 15 28 (fun d _ _ _ _ h => by cases d <;> exact h) (by kernel_rfl) rfl _ _ rfl rfl (some 23) rfl (by kernel_rfl) (by kernel_rfl) (HT 15 (by decide)) _ rfl Tryz.isAgg21 _ (List.Mem.tail _ (List.Mem.head _)) (by kernel_rfl) ?_
  simp only [Act.put, List.setIfInBounds_toArray, List.set_cons_succ, List.set_cons_zero]
  refine Gs_move 16 (fun d _ _ _ _ h => by cases d <;> exact h) (by kernel_rfl) rfl _ rfl rfl (some 24) rfl (by kernel_rfl) (by kernel_rfl) (HT 16 (by decide)) (.pointer _) rfl ?_
  simp only [Act.put, List.setIfInBounds_toArray, List.set_cons_succ, List.set_cons_zero]
  refine Gs_nil 17 (fun d _ _ _ _ h => by cases d <;> exact h) (by kernel_rfl) rfl _ rfl rfl (some 25) rfl (by kernel_rfl) (by kernel_rfl) (HT 17 (by decide)) _ rfl ?_
  simp only [Act.put, List.setIfInBounds_toArray, List.set_cons_succ, List.set_cons_zero]
  refine Gs_field 18 (fun d _ _ _ _ h => by cases d <;> exact h) (by kernel_rfl) rfl _ _ _ rfl rfl (some 26) rfl (by kernel_rfl) (by kernel_rfl) (HT 18 (by decide)) _ _ rfl (fieldAt79_4 _ _) ?_
  simp only [Act.put, List.setIfInBounds_toArray, List.set_cons_succ, List.set_cons_zero]
  refine Gs_load 19 28 (fun d _ _ _ _ h => by cases d <;> exact h) (by kernel_rfl) rfl _ _ rfl rfl (some 27) rfl (by kernel_rfl) (by kernel_rfl) (HT 19 (by decide)) _ rfl Tryz.isAgg21 _ (List.Mem.tail _ (List.Mem.tail _ (List.Mem.tail _ (List.Mem.head _)))) (by kernel_rfl) ?_
  simp only [Act.put, List.setIfInBounds_toArray, List.set_cons_succ, List.set_cons_zero]
  refine Gs_move 21 (fun d _ _ _ _ h => by cases d <;> exact h) (by kernel_rfl) rfl _ rfl rfl (some 29) rfl (by kernel_rfl) (by kernel_rfl) (HT 21 (by decide)) (.pointer _) rfl ?_
  simp only [Act.put, List.setIfInBounds_toArray, List.set_cons_succ, List.set_cons_zero]
  refine Gs_nil 22 (fun d _ _ _ _ h => by cases d <;> exact h) (by kernel_rfl) rfl _ rfl rfl (some 30) rfl (by kernel_rfl) (by kernel_rfl) (HT 22 (by decide)) _ rfl ?_
  simp only [Act.put, List.setIfInBounds_toArray, List.set_cons_succ, List.set_cons_zero]
  refine Gs_field 23 (fun d _ _ _ _ h => by cases d <;> exact h) (by kernel_rfl) rfl _ _ _ rfl rfl (some 31) rfl (by kernel_rfl) (by kernel_rfl) (HT 23 (by decide)) _ _ rfl (fieldAt79_5 _ _) ?_
  simp only [Act.put, List.setIfInBounds_toArray, List.set_cons_succ, List.set_cons_zero]
  refine Gs_load 24 28 (fun d _ _ _ _ h => by cases d <;> exact h) (by kernel_rfl) rfl _ _ rfl rfl (some 32) rfl (by kernel_rfl) (by kernel_rfl) (HT 24 (by decide)) _ rfl Tryz.isAgg3 _ (List.Mem.tail _ (List.Mem.tail _ (List.Mem.tail _ (List.Mem.tail _ (List.Mem.head _))))) (by kernel_rfl) ?_
  simp only [Act.put, List.setIfInBounds_toArray, List.set_cons_succ, List.set_cons_zero]
  refine Gs_bin 25 (fun d _ _ _ _ h => by cases d <;> exact h) (by kernel_rfl) rfl rfl (some 33) rfl (by kernel_rfl) (by kernel_rfl) (HT 25 (by decide)) (.int .i64 (s.left - 1)) (fun w => by go_simp; rw [IntKind.wrap_i64]; omega) ?_
  simp only [Act.put, List.setIfInBounds_toArray, List.set_cons_succ, List.set_cons_zero]
  refine Gs_call 11 rfl rfl (some 19) rfl (by kernel_rfl) (HT 11 (by decide)) 143 #[.int .i32 s.x, .int .i32 s.vx] (by go_simp) (.int .i32 (mv s.x s.vx)) (M1.out _) ?_
  simp only [Act.put, List.setIfInBounds_toArray, List.set_cons_succ, List.set_cons_zero]
  refine Gs_call 20 rfl rfl (some 28) rfl (by kernel_rfl) (HT 20 (by decide)) 143 #[.int .i32 s.y, .int .i32 s.vy] (by go_simp) (.int .i32 (mv s.y s.vy)) (M2.out _) ?_
  simp only [Act.put, List.setIfInBounds_toArray, List.set_cons_succ, List.set_cons_zero]
  refine Gs_nil 26 (fun d _ _ _ _ h => by cases d <;> exact h) (by kernel_rfl) rfl _ rfl rfl (some 34) rfl (by kernel_rfl) (by kernel_rfl) (HT 26 (by decide)) _ rfl ?_
  simp only [Act.put, List.setIfInBounds_toArray, List.set_cons_succ, List.set_cons_zero]
  refine Gs_field 27 (fun d _ _ _ _ h => by cases d <;> exact h) (by kernel_rfl) rfl _ _ _ rfl rfl (some 35) rfl (by kernel_rfl) (by kernel_rfl) (HT 27 (by decide)) _ _ rfl (fieldAt79_1 _ _) ?_
  simp only [Act.put, List.setIfInBounds_toArray, List.set_cons_succ, List.set_cons_zero]
  refine Gs_tail 28 (by kernel_rfl) HD (by kernel_rfl) rfl ?_
  replace H : Sb [g, p] w0' ({ w with drawn := w.drawn + 1 } : World) _ _ := H.call ((Below.refl _ w).drew)
  generalize ({ w with drawn := w.drawn + 1 } : World) = W at *
  simp only [List.drop_succ_cons, List.drop_zero]
  by_cases hl0 : s.left - 1 = 0
  · have hq : (s.left - 1 == 0) = true := by rw [hl0]; rfl
    have Hl := Lib.hid hl0
    clear hl0
    go_wp2_with (first | (refine wb_put H rfl 0 21 _ _ rfl _ _ rfl _ _ rfl (.int _ _) rfl 1 info21 rfl (Nat.le_of_ble_eq_true rfl) rfl _ rfl ?_; clear H; intro w H) | (refine wb_put H rfl 0 3 _ _ rfl _ _ rfl _ _ rfl (.int _ _) rfl 1 info3 rfl (Nat.le_of_ble_eq_true rfl) rfl _ rfl ?_; clear H; intro w H) | (refine wb_cell H rfl 0 3 _ rfl _ _ rfl _ _ rfl Tryz.isAgg3 (.int .i64 (s.left - 1)) rfl ?_))
    go_ret
    have e : flyF d S s = ⟨false, d, S⟩ := by unfold flyF; rw [if_pos (show (flown s).left = 0 from Hl.out)]
    refine ⟨by rw [e]; rfl, ?_⟩
    rw [e]
    exact H
  · have hq : (s.left - 1 == 0) = false := beq_eq_false_iff_ne.2 hl0
    go_wp2_with (first | (refine wb_put H rfl 0 21 _ _ rfl _ _ rfl _ _ rfl (.int _ _) rfl 1 info21 rfl (Nat.le_of_ble_eq_true rfl) rfl _ rfl ?_; clear H; intro w H) | (refine wb_put H rfl 0 3 _ _ rfl _ _ rfl _ _ rfl (.int _ _) rfl 1 info3 rfl (Nat.le_of_ble_eq_true rfl) rfl _ rfl ?_; clear H; intro w H) | (refine wb_cell H rfl 0 3 _ rfl _ _ rfl _ _ rfl Tryz.isAgg3 (.int .i64 (s.left - 1)) rfl ?_))
    replace H : Sb [g, p] _ w [(p, (shotL (flown s)).toArray, 93), (g, gameC fr d S sl, 28)] [] := H
    have Hl := Lib.hid hl0
    clear hq hl0 l0 l1
    go_loopw [45] (fun i W => ∃ k : Nat, k ≤ 8 ∧ i = .int .i64 k ∧ Hid (∀ j, j < k → passes (flown s) j (S.getD j zShp) = true) ∧ Hid (Sb [g, p] w0' W [(p, (shotL (flown s)).toArray, 93), (g, gameC fr d S sl, 28)] [])) (fun i _ => 8 - (intOf i).toNat)
    case atStart => exact ⟨0, Nat.zero_le _, rfl, Lib.hid (fun j hj => by omega), Lib.hid H⟩
    case round =>
      clear H
      obtain ⟨k, hk, rfl, HP, HB⟩ := hrel
      by_cases hlt : k < 8
      · obtain ⟨t, ht⟩ : ∃ t, S[k]? = some t := ⟨S[k]'(by rw [HS.out]; exact hlt), List.getElem?_eq_getElem _⟩
        have Ht := Lib.hid ht
        have hbg := HB.out.holds _ (List.mem_cons_of_mem _ (List.mem_cons_self ..))
        have hbp := HB.out.holds _ (List.mem_cons_self ..)
        have con : wr.cell? ⟨g, 2 + k * 7, none⟩ = some (.bool t.on) := (cell_of_row _ _ _ _ _ _ hbg).trans (gc_at0 k t ht)
        have cx : wr.cell? ⟨g, 2 + k * 7 + 1, none⟩ = some (.int .i32 t.x) := (cell_of_row _ _ _ _ _ _ hbg).trans (gc_at k 1 t _ ht rfl)
        have cy : wr.cell? ⟨g, 2 + k * 7 + 2, none⟩ = some (.int .i32 t.y) := (cell_of_row _ _ _ _ _ _ hbg).trans (gc_at k 2 t _ ht rfl)
        have so : wr.cell? ⟨p, 0, none⟩ = some (.int .i64 s.owner) := cell_of_row _ _ 0 _ _ _ hbp
        have sx : wr.cell? ⟨p, 1, none⟩ = some (.int .i32 (mv s.x s.vx)) := cell_of_row _ _ 1 _ _ _ hbp
        have sy : wr.cell? ⟨p, 2, none⟩ = some (.int .i32 (mv s.y s.vy)) := cell_of_row _ _ 2 _ _ _ hbp
        have hg : S.getD k zShp = t := by rw [List.getD_eq_getElem?_getD, ht]; rfl
        have Hg := Lib.hid hg
        clear hbg hbp ht hg
        obtain ⟨ow, how⟩ : ∃ ow : Nat, s.owner = ow := ⟨s.owner.toNat, by have := Hs.out.o0; omega⟩
        have how8 : ow < 8 := by have := Hs.out.o1; omega
        rw [how] at so
        have How := Lib.hid how
        clear how
        have HPn : passes (flown s) k t = true → Hid (∀ j, j < k + 1 → passes (flown s) j (S.getD j zShp) = true) := fun h => Lib.hid (fun j hj => by
          by_cases e : j = k
          · rw [e, Hg.out]; exact h
          · exact HP.out j (by omega))
        have Htk := Lib.hid (HO.out t (List.mem_of_getElem? Ht.out))
        by_cases hon : t.on = true
        · by_cases hko : k = ow
          · have HP' := HPn (by unfold passes; rw [show (flown s).owner = s.owner from rfl, How.out, hko]; simp)
            have hqk : ((k : Int) == (ow : Int)) = true := by rw [hko]; simp
            rw [hon] at con
            have Hon := Lib.hid hon
            clear hon hko HPn
            go_wp2_with fail
            go_quiet (fail)
            have HB' := Lib.hid (HB.out.call (below_drewN (Below.refl _ _) nq))
            clear HB con cx cy so sx sy
            go_wp2_with fail
            exact ⟨⟨k + 1, hlt, rfl, HP', HB'⟩, by simp only [intOf]; omega⟩
          · have hqk : ((k : Int) == (ow : Int)) = false := beq_eq_false_iff_ne.2 (by omega)
            have hok : 0 ≤ t.x ∧ t.x < 16777216 ∧ 0 ≤ t.y ∧ t.y < 16777216 := by
              have := Htk.out
              unfold Shp.ok OkShip at this
              rw [if_pos hon] at this
              omega
            obtain ⟨q, hq⟩ : ∃ q, hitsI (mv s.x s.vx) (mv s.y s.vy) t.x t.y = q := ⟨_, rfl⟩
            have Hq := Lib.hid hq
            have HH : Hid (∀ w, Calls Tryz.prog 145 #[.int .i32 (mv s.x s.vx), .int .i32 (mv s.y s.vy), .int .i32 t.x, .int .i32 t.y] w fun e w' => e = .returned (.bool q) ∧ w' = w) := Lib.hid (fun w => (hits_any (mv s.x s.vx) (mv s.y s.vy) t.x t.y w (mv_bd _ _) (mv_bd _ _) ⟨hok.1, hok.2.1⟩ ⟨hok.2.2.1, hok.2.2.2⟩).mono fun e w' h => ⟨by rw [← hq]; exact h.1, h.2.symm⟩)
            rw [hon] at con
            have Hon := Lib.hid hon
            have Hko := Lib.hid hko
            clear hq hon hko hok
            cases q
            · have HP' := HPn (by unfold passes; rw [show (flown s).x = mv s.x s.vx from rfl, show (flown s).y = mv s.y s.vy from rfl, Hq.out]; simp)
              clear HPn
              go_wp2_with fail
              go_quiet ((go_at_call_of 145 (Value.int .i32 (mv s.x s.vx)); exact Calls.quiet_of_same (HH.out _)))
              have HB' := Lib.hid (HB.out.call (below_drewN (Below.refl _ _) nq))
              clear HB con cx cy so sx sy
              go_wp2_with fail
              exact ⟨⟨k + 1, hlt, rfl, HP', HB'⟩, by simp only [intOf]; omega⟩
            · clear HPn
              go_wp2_with fail
              go_quiet ((go_at_call_of 145 (Value.int .i32 (mv s.x s.vx)); exact Calls.quiet_of_same (HH.out _)))
              have H := HB.out.call (below_drewN (Below.refl _ _) nq)
              generalize wr.drewN nq = w at *
              have hgt : passes (flown s) k t = false := by
                unfold passes
                rw [show (flown s).owner = s.owner from rfl, How.out, hqk, show (flown s).x = mv s.x s.vx from rfl, show (flown s).y = mv s.y s.vy from rfl, Hq.out, Hon.out]
                rfl
              have hfirst : firstHit (flown s) S = some k := by
                unfold firstHit
                rw [List.find?_range_eq_some]
                refine ⟨by rw [Hg.out, hgt]; rfl, List.mem_range.2 hlt, fun j hj => by rw [HP.out j hj]; rfl⟩
              have Hfirst := Lib.hid hfirst
              clear HB con cx cy so sx sy hgt hfirst hqk HH Hq
              have G1 := Lib.hid (gc_set (fr := fr) (d := d) (sl := sl) k 1 t ⟨t.on, px d, t.y, t.vx, t.vy, t.cool, t.score⟩ (.int .i32 (px d)) Ht.out (by omega) rfl)
              have G2 := Lib.hid (gc_set2 (fr := fr) (d := d) (sl := sl) k 2 t ⟨t.on, px d, t.y, t.vx, t.vy, t.cool, t.score⟩ ⟨t.on, px d, py d, t.vx, t.vy, t.cool, t.score⟩ (.int .i32 (py d)) Ht.out (by omega) rfl)
              have G4 := Lib.hid (gc_set2 (fr := fr) (d := next (next d)) (sl := sl) k 3 t ⟨t.on, px d, py d, t.vx, t.vy, t.cool, t.score⟩ ⟨t.on, px d, py d, 0, t.vy, t.cool, t.score⟩ (.int .i32 0) Ht.out (by omega) rfl)
              have G5 := Lib.hid (gc_set2 (fr := fr) (d := next (next d)) (sl := sl) k 4 t ⟨t.on, px d, py d, 0, t.vy, t.cool, t.score⟩ ⟨t.on, px d, py d, 0, 0, t.cool, t.score⟩ (.int .i32 0) Ht.out (by omega) rfl)
              have G6 := Lib.hid (gc_set2 (fr := fr) (d := next (next d)) (sl := sl) k 5 t ⟨t.on, px d, py d, 0, 0, t.cool, t.score⟩ (hurt t (px d) (py d)) (.int .i64 0) Ht.out (by omega) rfl)
              go_wp2_with (first | (refine wb_cell H rfl 1 22 _ rfl _ _ rfl _ _ rfl Tryz.isAgg22 (.int .u64 d) rfl ?_))
              refine (place_any d _).mono ?_; rintro e w' ⟨rfl, hb⟩
              replace H := H.call hb
              clear hb
              go_wp2_with (first | (refine wb_put H rfl 1 21 _ _ rfl _ (2 + k * 7 + 1) rfl _ _ rfl (.int .i32 (px d)) rfl 1 info21 rfl (by rw [gc_size (by first | exact HS.out | (simp only [List.length_set]; exact HS.out))]; omega) rfl _ G1.out ?_; clear H; intro w H) | (refine wb_put H rfl 1 21 _ _ rfl _ (2 + k * 7 + 2) rfl _ _ rfl (.int .i32 (py d)) rfl 1 info21 rfl (by rw [gc_size (by first | exact HS.out | (simp only [List.length_set]; exact HS.out))]; omega) rfl _ G2.out ?_; clear H; intro w H) | (refine wb_put H rfl 1 22 _ _ rfl _ 1 rfl _ _ rfl (.int .u64 (next (next d))) rfl 1 info22 rfl (by rw [gc_size (by first | exact HS.out | (simp only [List.length_set]; exact HS.out))]; omega) rfl _ (gc_setDice _) ?_; clear H; intro w H) | (refine wb_put H rfl 1 21 _ _ rfl _ (2 + k * 7 + 3) rfl _ _ rfl (.int .i32 0) rfl 1 info21 rfl (by rw [gc_size (by first | exact HS.out | (simp only [List.length_set]; exact HS.out))]; omega) rfl _ G4.out ?_; clear H; intro w H) | (refine wb_put H rfl 1 21 _ _ rfl _ (2 + k * 7 + 4) rfl _ _ rfl (.int .i32 0) rfl 1 info21 rfl (by rw [gc_size (by first | exact HS.out | (simp only [List.length_set]; exact HS.out))]; omega) rfl _ G5.out ?_; clear H; intro w H) | (refine wb_put H rfl 1 3 _ _ rfl _ (2 + k * 7 + 5) rfl _ _ rfl (.int .i64 0) rfl 1 info3 rfl (by rw [gc_size (by first | exact HS.out | (simp only [List.length_set]; exact HS.out))]; omega) rfl _ G6.out ?_; clear H; intro w H))
              replace H : Sb [g, p] w0' w [(p, (shotL (flown s)).toArray, 93), (g, gameC fr (next (next d)) (S.set k (hurt t (px d) (py d))) sl, 28)] [] := H
              clear G1 G2 G4 G5 G6
              have hbp := H.holds _ (List.mem_cons_self ..)
              have so : w.cell? ⟨p, 0, none⟩ = some (.int .i64 (ow : Int)) := (cell_of_row _ _ 0 _ _ _ hbp).trans (show some (Value.int .i64 s.owner) = _ by rw [How.out])
              have hu1 : (S.set k (hurt t (px d) (py d)))[ow]? = S[ow]? := List.getElem?_set_ne Hko.out
              obtain ⟨u, hu⟩ : ∃ u, S[ow]? = some u := ⟨S[ow]'(by rw [HS.out]; exact how8), List.getElem?_eq_getElem _⟩
              have Huk := Lib.hid (HO.out u (List.mem_of_getElem? hu))
              have Hu := Lib.hid (hu1.trans hu)
              have how8i : (ow : Int) < 8 := by omega
              have hFl : flyF d S s = ⟨false, next (next d), hitS S k ow (px d) (py d)⟩ := by
                unfold flyF
                rw [if_neg (show ¬ (flown s).left = 0 from Hl.out), Hfirst.out]
                show (⟨false, _, hitS S k s.owner.toNat _ _⟩ : FlyR) = _
                rw [How.out]; rfl
              have hHit : hitS S k ow (px d) (py d) = if u.on = true then (S.set k (hurt t (px d) (py d))).set ow (scored u) else S.set k (hurt t (px d) (py d)) := by
                unfold hitS
                have e1 : (S.set k (hurt t (px d) (py d))).getD ow zShp = u := by rw [List.getD_eq_getElem?_getD, Hu.out]; rfl
                simp only [Hg.out, e1]
              rw [hHit] at hFl
              have HFl := Lib.hid hFl
              clear hbp hu1 hu hFl hHit
              go_wp2_with fail
              go_quiet (fail)
              replace H := H.call (below_drewN (Below.refl _ _) nq)
              clear so
              generalize w.drewN nq = w at *
              by_cases huo : u.on = true
              · have hsc : 0 ≤ u.score ∧ u.score ≤ 1073741824 := by
                  have := Huk.out
                  unfold Shp.ok OkShip at this
                  rw [if_pos huo] at this
                  omega
                have hsc0 := hsc.1
                have hsc1 := hsc.2
                have Huo := Lib.hid huo
                have hv : (gameC fr (next (next d)) (S.set k (hurt t (px d) (py d))) sl)[2 + ow * 7]? = some (.bool true) := by rw [← huo]; exact gc_at0 ow u Hu.out
                have Hv := Lib.hid hv
                have Hw := Lib.hid (gc_at (fr := fr) (d := next (next d)) (sl := sl) ow 6 u (.int .i64 u.score) Hu.out rfl)
                clear huo hsc hv
                by_cases hmin : u.score + 1 ≤ 1073741824
                · have G7 := Lib.hid (gc_set (fr := fr) (d := next (next d)) (sl := sl) ow 6 u (scored u) (.int .i64 (u.score + 1)) Hu.out (by omega) (by unfold scored; rw [show min (u.score + 1) 1073741824 = u.score + 1 by omega]; rfl))
                  go_wp2_with (first | (refine wb_cell H rfl 1 4 _ rfl _ _ rfl _ _ rfl Tryz.isAgg4 (.bool true) Hv.out ?_) | (refine wb_cell H rfl 1 3 _ rfl _ (2 + ow * 7 + 6) rfl _ _ rfl Tryz.isAgg3 (.int .i64 u.score) Hw.out ?_) | (refine wb_put H rfl 1 3 _ _ rfl _ (2 + ow * 7 + 6) rfl _ _ rfl (.int .i64 (u.score + 1)) rfl 1 info3 rfl (by rw [gc_size (by first | exact HS.out | (simp only [List.length_set]; exact HS.out))]; omega) rfl _ G7.out ?_; clear H; intro w H))
                  go_ret
                  have e := HFl.out
                  rw [if_pos Huo.out] at e
                  refine ⟨by rw [e]; rfl, ?_⟩
                  rw [e]
                  exact H
                · have G7 := Lib.hid (gc_set (fr := fr) (d := next (next d)) (sl := sl) ow 6 u (scored u) (.int .i64 1073741824) Hu.out (by omega) (by unfold scored; rw [show min (u.score + 1) 1073741824 = 1073741824 by omega]; rfl))
                  have hmin2 : 1073741824 < u.score + 1 := by omega
                  clear hmin
                  go_wp2_with (first | (refine wb_cell H rfl 1 4 _ rfl _ _ rfl _ _ rfl Tryz.isAgg4 (.bool true) Hv.out ?_) | (refine wb_cell H rfl 1 3 _ rfl _ (2 + ow * 7 + 6) rfl _ _ rfl Tryz.isAgg3 (.int .i64 u.score) Hw.out ?_) | (refine wb_put H rfl 1 3 _ _ rfl _ (2 + ow * 7 + 6) rfl _ _ rfl (.int .i64 1073741824) rfl 1 info3 rfl (by rw [gc_size (by first | exact HS.out | (simp only [List.length_set]; exact HS.out))]; omega) rfl _ G7.out ?_; clear H; intro w H))
                  go_ret
                  have e := HFl.out
                  rw [if_pos Huo.out] at e
                  refine ⟨by rw [e]; rfl, ?_⟩
                  rw [e]
                  exact H
              · have huf : u.on = false := by simpa using huo
                have hv : (gameC fr (next (next d)) (S.set k (hurt t (px d) (py d))) sl)[2 + ow * 7]? = some (.bool false) := by rw [← huf]; exact gc_at0 ow u Hu.out
                have Hv := Lib.hid hv
                have Huo := Lib.hid huo
                clear huo huf hv
                go_wp2_with (refine wb_cell H rfl 1 4 _ rfl _ _ rfl _ _ rfl Tryz.isAgg4 (.bool false) Hv.out ?_)
                go_ret
                have e := HFl.out
                rw [if_neg Huo.out] at e
                refine ⟨by rw [e]; rfl, ?_⟩
                rw [e]
                exact H
        · have hon' : t.on = false := by simpa using hon
          have HP' := HPn (by unfold passes; rw [hon']; rfl)
          rw [hon'] at con
          clear hon hon' HPn
          go_wp2_with fail
          go_quiet (fail)
          have HB' := Lib.hid (HB.out.call (below_drewN (Below.refl _ _) nq))
          clear HB con cx cy so sx sy
          go_wp2_with fail
          exact ⟨⟨k + 1, hlt, rfl, HP', HB'⟩, by simp only [intOf]; omega⟩
      · obtain rfl : k = 8 := by omega
        go_wp2_with fail
        go_ret
        have e : flyF d S s = ⟨true, d, S⟩ := by
          unfold flyF
          rw [if_neg (show ¬ (flown s).left = 0 from Hl.out)]
          have : firstHit (flown s) S = none := by
            unfold firstHit
            rw [List.find?_eq_none]
            intro j hj
            rw [HP.out j (List.mem_range.1 hj)]
            simp
          rw [this]
        refine ⟨by rw [e]; rfl, ?_⟩
        rw [e]
        exact HB.out
end Go.Proofs.YtdopfonebpklkaaGreat.game
namespace Go.Proofs.YtdopfonebpklkaaGreat.game
open Go.ChangeShapes Go.WideShapes Go.ChangeAt Go.RowKit dice
set_option maxRecDepth 100000
variable {Hs : List Nat} {W0 w w' : World} {l : List Blk} {R : List RowS}
/-- Two blocks of the caller's, handed to a callee. -/
theorem Sb.handed (h : Sb Hs W0 w l R) (p g : Nat) (c c' : Array Value) (t t' : TypeId) (hp : (p, c, t) ∈ l) (hg : (g, c', t') ∈ l) (hne : p ≠ g) : Sb [g, p] w w [(p, c, t), (g, c', t')] [] := by
  refine ⟨rfl, rfl, rfl, Nat.le_refl _, fun _ _ _ => rfl, fun q hq => ?_, fun q hq => ?_, by simp [hne], fun _ h => by simp at h, fun _ h => by simp at h, fun _ h => by simp at h, by simp⟩
  · simp at hq
    rcases hq with rfl | rfl
    · exact h.holds _ hp
    · exact h.holds _ hg
  · simp at hq
    rcases hq with rfl | rfl
    · exact .inr (by simp)
    · exact .inr (by simp)
/-- What the caller knows behind a callee that turned two blocks. -/
theorem Sb.sub2 (h : Sb Hs W0 w l R) (i j p g : Nat) (c c' c2 c3 : Array Value) (t t' : TypeId) (hij : i ≠ j) (hi : l[i]? = some (p, c, t)) (hj : l[j]? = some (g, c', t')) (hne : p ≠ g)
    (hc : Sb [g, p] w w' [(p, c2, t), (g, c3, t')] []) : Sb Hs W0 w' ((l.set i (p, c2, t)).set j (g, c3, t')) R := by
  have hgw : w.heap[g]? = some (.cells c' t' (0, 0)) := h.holds _ (List.mem_of_getElem? hj)
  have hg' : w'.heap[g]? = some (.cells c3 t' (0, 0)) := hc.holds (g, c3, t') (by simp)
  have hp' : w'.heap[p]? = some (.cells c2 t (0, 0)) := hc.holds (p, c2, t) (by simp)
  have A := h.turn (w' := w'.setRow g c') i p c c2 t hi hc.os hc.tape hc.output (by rw [size_setRow]; exact hc.size) ((heap_setRow_ne _ _ _ _ hne).trans hp') (fun k hk hkp => by
    by_cases e : k = g
    · subst e
      rw [hgw]
      exact setRow_heap w' k c3 c' t' (0, 0) hg'
    · rw [heap_setRow_ne _ _ _ _ e]
      exact hc.fr k hk (by simp [e, hkp]))
  exact A.turn j g c' c3 t' (by rw [List.getElem?_set_ne hij]; exact hj) rfl rfl rfl (by rw [size_setRow]; exact Nat.le_refl _) hg' (fun k _ hk => (heap_setRow_ne _ _ _ _ hk).symm)
/-- An append to row number r: the row has one shot more. -/
theorem Sb.append (h : Sb Hs W0 w l R) (r : Nat) (v v' : Value) (L L' : List Sht) (hr : R[r]? = some (v, L)) (ho : Own w' 0 v' L') (hg : w.grownBy w' v.ownBlock) (hb : v'.ownBlock = v.ownBlock ∨ v'.ownBlock = some w.heap.size) :
    Sb Hs W0 w' l (R.set r (v', L')) := by
  have hm : (v, L) ∈ R := List.mem_of_getElem? hr
  have hrl := (List.getElem?_eq_some_iff.1 hr).1
  have other : ∀ k, k < w.heap.size → v.ownBlock ≠ some k → w'.heap[k]? = w.heap[k]? := fun k hk hn => hg.block k hk (fun e => hn e.symm)
  have memR : ∀ q ∈ R.set r (v', L'), q = (v', L') ∨ ∃ j, j ≠ r ∧ R[j]? = some q := fun q hq => by
    obtain ⟨j, hj⟩ := List.mem_iff_getElem?.1 hq
    rw [List.getElem?_set] at hj
    by_cases e : r = j
    · rw [if_pos e, if_pos hrl] at hj
      exact .inl (Option.some.inj hj).symm
    · rw [if_neg e] at hj
      exact .inr ⟨j, fun e' => e e'.symm, hj⟩
  have diff : ∀ j q, j ≠ r → R[j]? = some q → ∀ k, q.1.ownBlock = some k → v.ownBlock ≠ some k := fun j q hj hq k hk e => by
    have hP := List.pairwise_iff_getElem.1 h.rnd
    obtain ⟨hjl, hjq⟩ := List.getElem?_eq_some_iff.1 hq
    obtain ⟨_, hrq⟩ := List.getElem?_eq_some_iff.1 hr
    rcases Nat.lt_or_gt_of_ne hj with hlt | hlt
    · have := hP j r hjl hrl hlt k (by rw [hjq]; exact hk)
      rw [hrq] at this
      exact this e
    · have := hP r j hrl hjl hlt k (by rw [hrq]; exact e)
      rw [hjq] at this
      exact this hk
  have newOk : ∀ k, v'.ownBlock = some k → v.ownBlock = some k ∨ k = w.heap.size := fun k hk => by
    rcases hb with e | e
    · exact .inl (by rw [← e]; exact hk)
    · rw [e] at hk
      exact .inr (Option.some.inj hk).symm
  refine ⟨hg.os.trans h.os, hg.tape.trans h.tape, hg.output.trans h.output, Nat.le_trans h.size hg.size, fun k hk hh => ?_, fun p hp => ?_, h.ge, h.nd, fun q hq => ?_, fun q hq k hk => ?_, fun q hq p hp e => ?_, ?_⟩
  · rw [other k (Nat.lt_of_lt_of_le hk h.size) (fun e => by
      rcases h.rge _ hm k e with a | a
      · exact absurd hk (Nat.not_lt.2 a)
      · exact hh a)]
    exact h.fr k hk hh
  · rw [other p.1 (h.lt p hp) (h.apart _ hm p hp)]
    exact h.holds p hp
  · rcases memR q hq with rfl | ⟨j, hj, hjq⟩
    · exact ho
    · have hqR := List.mem_of_getElem? hjq
      exact own_same (h.rows q hqR) (fun k hk => other k (h.rlt q hqR k hk) (diff j q hj hjq k hk))
  · rcases memR q hq with rfl | ⟨j, hj, hjq⟩
    · rcases newOk k hk with e | e
      · exact h.rge _ hm k e
      · exact .inl (by rw [e]; exact h.size)
    · exact h.rge q (List.mem_of_getElem? hjq) k hk
  · rcases memR q hq with rfl | ⟨j, hj, hjq⟩
    · rcases newOk p.1 e with a | a
      · exact h.apart _ hm p hp a
      · have := h.lt p hp
        omega
    · exact h.apart q (List.mem_of_getElem? hjq) p hp e
  · rw [List.pairwise_iff_getElem]
    intro i j hi hj hij k hk hk'
    have hP := List.pairwise_iff_getElem.1 h.rnd
    rw [List.length_set] at hi hj
    rw [List.getElem_set] at hk hk'
    by_cases ei : r = i
    · rw [if_pos ei] at hk
      rw [if_neg (by omega)] at hk'
      have hjq : R[j]? = some R[j] := List.getElem?_eq_getElem hj
      rcases newOk k hk with e | e
      · exact diff j _ (by omega) hjq k hk' e
      · have := h.rlt _ (List.mem_of_getElem? hjq) k hk'
        omega
    · rw [if_neg ei] at hk
      by_cases ej : r = j
      · rw [if_pos ej] at hk'
        have hiq : R[i]? = some R[i] := List.getElem?_eq_getElem hi
        rcases newOk k hk' with e | e
        · exact diff i _ (by omega) hiq k hk e
        · have := h.rlt _ (List.mem_of_getElem? hiq) k hk
          omega
      · rw [if_neg ej] at hk'
        exact hP i j hi hj hij k hk hk'
/-- A row of the call's own besides. -/
theorem Sb.addRow (h : Sb Hs W0 w l R) (v : Value) (L : List Sht) (ho : Own w' 0 v L) (hb : Below w.heap.size w w') (hn : ∀ k, v.ownBlock = some k → w.heap.size ≤ k) : Sb Hs W0 w' l ((v, L) :: R) := by
  have h' := h.call hb
  refine ⟨h'.os, h'.tape, h'.output, h'.size, h'.fr, h'.holds, h'.ge, h'.nd, fun q hq => ?_, fun q hq k hk => ?_, fun q hq p hp e => ?_, ?_⟩
  · rcases List.mem_cons.1 hq with rfl | hq
    · exact ho
    · exact h'.rows q hq
  · rcases List.mem_cons.1 hq with rfl | hq
    · exact .inl (Nat.le_trans h.size (hn k hk))
    · exact h'.rge q hq k hk
  · rcases List.mem_cons.1 hq with rfl | hq
    · have := hn _ e
      have := h.lt p hp
      omega
    · exact h'.apart q hq p hp e
  · rw [List.pairwise_cons]
    refine ⟨fun q hq k hk hk' => ?_, h'.rnd⟩
    have := hn k hk
    have := h.rlt q hq k hk'
    omega
end Go.Proofs.YtdopfonebpklkaaGreat.game
namespace Go.Proofs.YtdopfonebpklkaaGreat.game
open Go.ChangeShapes Go.WideShapes Go.ChangeAt Go.RowKit dice
set_option maxRecDepth 100000

theorem gz_off (fr d : Int) (k : Nat) (hk : k < 8) : (gq fr d false 0 0)[2 + k * 7]? = some (.bool false) := by
  match k, hk with
  | 0, _ | 1, _ | 2, _ | 3, _ | 4, _ | 5, _ | 6, _ | 7, _ => rfl
theorem step_end (d : Int) (ins : Array Value) (w : World) :
    Calls Tryz.prog 95 #[.agg (gq 1048576 d false 0 0), .agg ins] w fun e w' => e = .returned (.tuple #[.agg (gq 1048576 d false 0 0), .int .i64 7]) ∧ Below w.heap.size w w' := by
  obtain ⟨fr, hfr⟩ : ∃ fr : Int, 1048576 = fr := ⟨_, rfl⟩
  rw [hfr]
  have hz : OkShip false 0 0 0 0 0 0 := by unfold OkShip; simp
  have HM := Lib.hid (fun w => may_any _ fr d w (gq_gm fr d false 0 0 hz) (by omega) (by omega))
  have hq : (fr == 1048576) = true := by rw [← hfr]; rfl
  clear hz hfr
  have H := St.start w
  go_enter Tryz.func95, Tryz.ntmps95
  go_wp2_with (first | (refine wl_box H rfl 28 _ rfl (gq fr d false 0 0) rfl ?_; clear H; intro b w H) | (refine wl_box H rfl 40 _ rfl ins rfl ?_; clear H; intro b w H) | (refine wl_alloc H rfl 28 rfl _ Tryz.zeroValue28 ?_; clear H; intro b w H) | (refine wl_whole H rfl 2 28 _ rfl _ rfl _ rfl _ Tryz.underlying28 rfl 59 info28 rfl ?_))
  refine (HM.out _).mono ?_; rintro e w' ⟨rfl, hb⟩
  replace H := H.call hb
  clear hb
  go_wp2_with (first | (refine wl_cell H rfl 2 3 _ rfl _ _ rfl _ _ rfl Tryz.isAgg3 (.int _ _) rfl ?_) | (refine wl_whole H rfl 2 28 _ rfl _ rfl _ rfl _ Tryz.underlying28 rfl 59 info28 rfl ?_) | (refine wl_put H rfl 0 28 _ _ rfl _ _ rfl _ _ rfl (.agg _) rfl 59 info28 rfl rfl rfl ?_; clear H; intro w H))
  refine bodyPost_ret (v := .tuple #[.agg (gq fr d false 0 0), .int .i64 7]) ?_ rfl ⟨rfl, H.below⟩
  exact res2 rfl rfl rfl (H.holds _ (List.mem_cons_self ..)) rfl
theorem step_ok (fr d : Int) (ins : Array Value) (w : World) (h0 : 0 ≤ fr) (h1 : fr < 1048576) :
    Calls Tryz.prog 95 #[.agg (gq fr d false 0 0), .agg ins] w fun e w' => e = .returned (.tuple #[.agg (gq (fr + 1) d false 0 0), .int .i64 0]) ∧ Below w.heap.size w w' := by
  have hz : OkShip false 0 0 0 0 0 0 := by unfold OkShip; simp
  have HM := Lib.hid (fun w => may_any _ fr d w (gq_gm fr d false 0 0 hz) h0 (by omega))
  have hq : (fr == 1048576) = false := beq_eq_false_iff_ne.2 (by omega)
  have HO := Lib.hid (gz_off fr d)
  clear hz
  have H := St.start w
  go_enter Tryz.func95, Tryz.ntmps95
  go_wp2_with (first | (refine wl_box H rfl 28 _ rfl (gq fr d false 0 0) rfl ?_; clear H; intro b w H) | (refine wl_box H rfl 40 _ rfl ins rfl ?_; clear H; intro b w H) | (refine wl_alloc H rfl 28 rfl _ Tryz.zeroValue28 ?_; clear H; intro b w H) | (refine wl_whole H rfl 2 28 _ rfl _ rfl _ rfl _ Tryz.underlying28 rfl 59 info28 rfl ?_))
  refine (HM.out _).mono ?_; rintro e w' ⟨rfl, hb⟩
  replace H := H.call hb
  clear hb
  go_wp2_with (first | (refine wl_cell H rfl 2 3 _ rfl _ _ rfl _ _ rfl Tryz.isAgg3 (.int _ _) rfl ?_) | (refine wl_whole H rfl 2 28 _ rfl _ rfl _ rfl _ Tryz.underlying28 rfl 59 info28 rfl ?_) | (refine wl_alloc H rfl 28 rfl _ Tryz.zeroValue28 ?_; clear H; intro b w H) | (refine wl_put H rfl 0 28 _ _ rfl _ _ rfl _ _ rfl (.agg _) rfl 59 info28 rfl rfl rfl ?_; clear H; intro w H) | (refine wl_cell H rfl 3 26 _ rfl _ _ rfl _ _ rfl Tryz.isAgg26 (.slice _ _ _) rfl ?_))
  refine (clone_nil _).mono ?_; rintro e w' ⟨rfl, rfl⟩
  go_wp2_with (first | (refine wl_put H rfl 0 26 _ _ rfl _ _ rfl _ _ rfl (.slice _ _ _) rfl 1 info26 rfl rfl rfl ?_; clear H; intro w H))
  replace H : St _ w [(b, gq fr d false 0 0, 28), (_, _, _), (_, ins, 40), (_, gq fr d false 0 0, 28)] := H
  go_loopw [26] (fun i W => ∃ k : Nat, k ≤ 8 ∧ i = .int .i64 k ∧ W = w) (fun i _ => 8 - (intOf i).toNat)
  case atStart => exact ⟨0, Nat.zero_le _, rfl, rfl⟩
  case round =>
    obtain ⟨k, hk, rfl, rfl⟩ := hrel
    by_cases hlt : k < 8
    · go_wp2_with (first | (refine wl_cell H rfl 0 4 _ rfl _ _ rfl _ _ rfl Tryz.isAgg4 (.bool false) (HO.out k hlt) ?_))
      exact ⟨⟨k + 1, hlt, rfl, by first | rfl | trivial⟩, by simp only [intOf]; omega⟩
    · obtain rfl : k = 8 := by omega
      go_wp2_with (first | (refine wl_cell H rfl 0 26 _ rfl _ _ rfl _ _ rfl Tryz.isAgg26 (.slice _ _ _) rfl ?_) | (refine wl_put H rfl 0 26 _ _ rfl _ _ rfl _ _ rfl (.slice _ _ _) rfl 1 info26 rfl rfl rfl ?_; clear H; intro w H))
      replace H : St _ w [(b, gq fr d false 0 0, 28), (_, _, _), (_, ins, 40), (_, gq fr d false 0 0, 28)] := H
      go_loopw [45] (fun i W => i = .int .i64 0 ∧ W = w) (fun _ _ => 0)
      case atStart => exact ⟨rfl, rfl⟩
      case round =>
        obtain ⟨rfl, rfl⟩ := hrel
        go_wp2_with (first | (refine wl_cell H rfl 0 3 _ rfl _ _ rfl _ _ rfl Tryz.isAgg3 (.int _ _) rfl ?_) | (refine wl_put H rfl 0 3 _ _ rfl _ _ rfl _ _ rfl (.int _ _) rfl 1 info3 rfl rfl rfl ?_; clear H; intro w H) | (refine wl_whole H rfl 0 28 _ rfl _ rfl _ rfl _ Tryz.underlying28 rfl 59 info28 rfl ?_) | (refine wl_put H rfl 1 28 _ _ rfl _ _ rfl _ _ rfl (.agg _) rfl 59 info28 rfl rfl rfl ?_; clear H; intro w H))
        refine bodyPost_ret (v := .tuple #[.agg (gq (fr + 1) d false 0 0), .int .i64 0]) ?_ rfl ⟨rfl, H.below⟩
        exact res2 rfl rfl rfl (H.holds _ (List.mem_cons_of_mem _ (List.mem_cons_self ..))) rfl
end Go.Proofs.YtdopfonebpklkaaGreat.game
