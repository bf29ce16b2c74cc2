/- game.fly: a shot that moves, and whom it hits. -/
import Derived.Test.YtdopfonebpklkaaGc
import Derived.Test.YtdopfonebpklkaaFd
import Derived.Test.YtdopfonebpklkaaRs
import Derived.BigQuiet
import Derived.Deep.RegionWith
import Derived.Deep.LoopGhost
namespace Go.Proofs.Ytdopfonebpklkaa.game
open Go.ChangeShapes Go.WideShapes Go.ChangeAt Go.RowKit dice
set_option maxRecDepth 100000

def flown (s : Sht) : Sht := { s with x := mv s.x s.vx, y := mv s.y s.vy, left := s.left - 1 }
def passes (s : Sht) (k : Nat) (t : Shp) : Bool := !t.on || ((k : Int) == s.owner) || !hitsI s.x s.y t.x t.y
def zShp : Shp := ⟨false, 0, 0, 0, 0, 0, 0⟩
def firstHit (s : Sht) (S : List Shp) : Option Nat := (List.range 8).find? fun k => !passes s k (S.getD k zShp)
def hurt (t : Shp) (x y : Int) : Shp := { t with x := x, y := y, vx := 0, vy := 0, cool := 0 }
def scored (t : Shp) : Shp := { t with score := min (t.score + 1) 1073741824 }
def hitS (S : List Shp) (k ow : Nat) (x y : Int) : List Shp :=
  let S1 := S.set k (hurt (S.getD k zShp) x y)
  if (S1.getD ow zShp).on = true then S1.set ow (scored (S1.getD ow zShp)) else S1
structure FlyR where
  stays : Bool
  dice : Int
  ships : List Shp
def flyF (d : Int) (S : List Shp) (s : Sht) : FlyR :=
  if (flown s).left = 0 then ⟨false, d, S⟩ else
    match firstHit (flown s) S with
    | none => ⟨true, d, S⟩
    | some k => ⟨false, next (next d), hitS S k s.owner.toNat (px d) (py d)⟩
def FlyPost (g p : Nat) (fr d : Int) (S : List Shp) (sl : Value) (s : Sht) (w : World) (e : Ending) (w' : World) : Prop :=
  e = .returned (.bool (flyF d S s).stays) ∧ Sb [g, p] w w' [(p, (shotL (flown s)).toArray, 75), (g, gameC fr (flyF d S s).dice (flyF d S s).ships sl, 33)] []
theorem fieldAt79_0 (b o : Nat) (w : World) : (Instr.fieldAt 75 (.pointer (some ⟨b, o, none⟩)) 0).run Try.prog w = .ok (.pointer (some ⟨b, o + 0, none⟩)) w := by go_simp
theorem fieldAt79_1 (b o : Nat) (w : World) : (Instr.fieldAt 75 (.pointer (some ⟨b, o, none⟩)) 1).run Try.prog w = .ok (.pointer (some ⟨b, o + 1, none⟩)) w := by go_simp
theorem fieldAt79_2 (b o : Nat) (w : World) : (Instr.fieldAt 75 (.pointer (some ⟨b, o, none⟩)) 2).run Try.prog w = .ok (.pointer (some ⟨b, o + 2, none⟩)) w := by go_simp
theorem fieldAt79_3 (b o : Nat) (w : World) : (Instr.fieldAt 75 (.pointer (some ⟨b, o, none⟩)) 3).run Try.prog w = .ok (.pointer (some ⟨b, o + 3, none⟩)) w := by go_simp
theorem fieldAt79_4 (b o : Nat) (w : World) : (Instr.fieldAt 75 (.pointer (some ⟨b, o, none⟩)) 4).run Try.prog w = .ok (.pointer (some ⟨b, o + 4, none⟩)) w := by go_simp
theorem fieldAt79_5 (b o : Nat) (w : World) : (Instr.fieldAt 75 (.pointer (some ⟨b, o, none⟩)) 5).run Try.prog w = .ok (.pointer (some ⟨b, o + 5, none⟩)) w := by go_simp
theorem gc_set2 {fr d : Int} {S : List Shp} {sl : Value} (k j : Nat) (s a b : Shp) (v : Value) (hs : S[k]? = some s) (hj : j < 7) (he : shipL b = (shipL a).set j v) : splice (gameC fr d (S.set k a) sl) (2 + k * 7 + j) [v] = gameC fr d (S.set k b) sl := by
  have hk := (List.getElem?_eq_some_iff.1 hs).1
  rw [gc_set k j a b v (by rw [List.getElem?_set_self hk]) hj he, List.set_set]
theorem below_drewN {B : Nat} {a w : World} (h : Below B a w) (n : Nat) : Below B a (w.drewN n) := ⟨h.os, h.tape, h.output, h.size, h.block⟩
set_option maxHeartbeats 8000000 in
theorem fly_any (g p : Nat) (fr d : Int) (S : List Shp) (sl : Value) (s : Sht) (w0' : World) (hS : S.length = 8) (hok : ∀ t ∈ S, t.ok) (hs : OkShot s)
    (H : Sb [g, p] w0' w0' [(p, (shotL s).toArray, 75), (g, gameC fr d S sl, 33)] []) :
    Calls Try.prog 41 #[.pointer (some ⟨g, 0, none⟩), .pointer (some ⟨p, 0, none⟩)] w0' (FlyPost g p fr d S sl s w0') := by
  obtain ⟨w, hw⟩ : ∃ w, w0' = w := ⟨_, rfl⟩
  have HW := Lib.hid hw
  replace H : Sb [g, p] w0' w [(p, (shotL s).toArray, 75), (g, gameC fr d S sl, 33)] [] := by rw [hw] at H ⊢; exact H
  rw [show Calls Try.prog 41 #[.pointer (some ⟨g, 0, none⟩), .pointer (some ⟨p, 0, none⟩)] w0' = Calls Try.prog 41 #[.pointer (some ⟨g, 0, none⟩), .pointer (some ⟨p, 0, none⟩)] w by rw [hw]]
  clear hw
  have HS := Lib.hid hS
  have HO := Lib.hid hok
  have Hs := Lib.hid hs
  have M1 := Lib.hid (fun w => move_any s.x s.vx w (by have := hs.x0; omega) (by have := hs.x1; omega) (by have := hs.u0; omega) (by have := hs.u1; omega))
  have M2 := Lib.hid (fun w => move_any s.y s.vy w (by have := hs.y0; omega) (by have := hs.y1; omega) (by have := hs.v0; omega) (by have := hs.v1; omega))
  have l0 := hs.l0
  have l1 := hs.l1
  clear hS hok hs
  go_enter Try.func41, Try.ntmps41
  go_wp2_with fail
  have e0 := (H.call ((Below.refl _ w).drew)).holds _ (List.mem_cons_self ..)
  have HT : ∀ k, k ≠ 28 → ∀ t ∈ [((⟨p, 1, none⟩ : Addr), Value.int .i32 s.x, 28), (⟨p, 2, none⟩, .int .i32 s.y, 28), (⟨p, 3, none⟩, .int .i32 s.vx, 28), (⟨p, 4, none⟩, .int .i32 s.vy, 28), (⟨p, 5, none⟩, .int .i64 s.left, 28)], t.2.2 ≠ k := by
    intro k hk t ht
    simp at ht
    rcases ht with rfl | rfl | rfl | rfl | rfl <;> exact fun e => hk e.symm
  have HD : ∀ t ∈ [((⟨p, 1, none⟩ : Addr), Value.int .i32 s.x, 28), (⟨p, 2, none⟩, .int .i32 s.y, 28), (⟨p, 3, none⟩, .int .i32 s.vx, 28), (⟨p, 4, none⟩, .int .i32 s.vy, 28), (⟨p, 5, none⟩, .int .i64 s.left, 28)], t.2.2 = 28 := by
    intro t ht
    simp at ht
    rcases ht with rfl | rfl | rfl | rfl | rfl <;> rfl
  refine Gs_start (T := [((⟨p, 1, none⟩ : Addr), Value.int .i32 s.x, 28), (⟨p, 2, none⟩, .int .i32 s.y, 28), (⟨p, 3, none⟩, .int .i32 s.vx, 28), (⟨p, 4, none⟩, .int .i32 s.vy, 28), (⟨p, 5, none⟩, .int .i64 s.left, 28)]) (n := 35) (by kernel_rfl) rfl ?_ ?_
  · intro t ht _
    simp at ht
    rcases ht with rfl | rfl | rfl | rfl | rfl
    · exact cell_of_row _ _ 1 _ _ _ e0
    · exact cell_of_row _ _ 2 _ _ _ e0
    · exact cell_of_row _ _ 3 _ _ _ e0
    · exact cell_of_row _ _ 4 _ _ _ e0
    · exact cell_of_row _ _ 5 _ _ _ e0
  clear e0
  refine Gs_move 0 (fun d _ _ _ _ h => by cases d <;> exact h) (by kernel_rfl) rfl _ rfl rfl (some 8) rfl (by kernel_rfl) (by kernel_rfl) (HT 0 (by decide)) (.pointer _) rfl ?_
  simp only [Act.put, List.setIfInBounds_toArray, List.set_cons_succ, List.set_cons_zero]
  refine Gs_move 1 (fun d _ _ _ _ h => by cases d <;> exact h) (by kernel_rfl) rfl _ rfl rfl (some 9) rfl (by kernel_rfl) (by kernel_rfl) (HT 1 (by decide)) (.pointer _) rfl ?_
  simp only [Act.put, List.setIfInBounds_toArray, List.set_cons_succ, List.set_cons_zero]
  refine Gs_move 2 (fun d _ _ _ _ h => by cases d <;> exact h) (by kernel_rfl) rfl _ rfl rfl (some 10) rfl (by kernel_rfl) (by kernel_rfl) (HT 2 (by decide)) (.pointer _) rfl ?_
  simp only [Act.put, List.setIfInBounds_toArray, List.set_cons_succ, List.set_cons_zero]
  refine Gs_move 3 (fun d _ _ _ _ h => by cases d <;> exact h) (by kernel_rfl) rfl _ rfl rfl (some 11) rfl (by kernel_rfl) (by kernel_rfl) (HT 3 (by decide)) (.pointer _) rfl ?_
  simp only [Act.put, List.setIfInBounds_toArray, List.set_cons_succ, List.set_cons_zero]
  refine Gs_nil 4 (fun d _ _ _ _ h => by cases d <;> exact h) (by kernel_rfl) rfl _ rfl rfl (some 12) rfl (by kernel_rfl) (by kernel_rfl) (HT 4 (by decide)) _ rfl ?_
  simp only [Act.put, List.setIfInBounds_toArray, List.set_cons_succ, List.set_cons_zero]
  refine Gs_field 5 (fun d _ _ _ _ h => by cases d <;> exact h) (by kernel_rfl) rfl _ _ _ rfl rfl (some 13) rfl (by kernel_rfl) (by kernel_rfl) (HT 5 (by decide)) _ _ rfl (fieldAt79_1 _ _) ?_
  simp only [Act.put, List.setIfInBounds_toArray, List.set_cons_succ, List.set_cons_zero]
  refine Gs_load 6 28 (fun d _ _ _ _ h => by cases d <;> exact h) (by kernel_rfl) rfl _ _ rfl rfl (some 14) rfl (by kernel_rfl) (by kernel_rfl) (HT 6 (by decide)) _ rfl Try.isAgg21 _ (List.Mem.head _) (by kernel_rfl) ?_
  simp only [Act.put, List.setIfInBounds_toArray, List.set_cons_succ, List.set_cons_zero]
  refine Gs_move 7 (fun d _ _ _ _ h => by cases d <;> exact h) (by kernel_rfl) rfl _ rfl rfl (some 15) rfl (by kernel_rfl) (by kernel_rfl) (HT 7 (by decide)) (.pointer _) rfl ?_
  simp only [Act.put, List.setIfInBounds_toArray, List.set_cons_succ, List.set_cons_zero]
  refine Gs_nil 8 (fun d _ _ _ _ h => by cases d <;> exact h) (by kernel_rfl) rfl _ rfl rfl (some 16) rfl (by kernel_rfl) (by kernel_rfl) (HT 8 (by decide)) _ rfl ?_
  simp only [Act.put, List.setIfInBounds_toArray, List.set_cons_succ, List.set_cons_zero]
  refine Gs_field 9 (fun d _ _ _ _ h => by cases d <;> exact h) (by kernel_rfl) rfl _ _ _ rfl rfl (some 17) rfl (by kernel_rfl) (by kernel_rfl) (HT 9 (by decide)) _ _ rfl (fieldAt79_3 _ _) ?_
  simp only [Act.put, List.setIfInBounds_toArray, List.set_cons_succ, List.set_cons_zero]
  refine Gs_load 10 28 (fun d _ _ _ _ h => by cases d <;> exact h) (by kernel_rfl) rfl _ _ rfl rfl (some 18) rfl (by kernel_rfl) (by kernel_rfl) (HT 10 (by decide)) _ rfl Try.isAgg21 _ (List.Mem.tail _ (List.Mem.tail _ (List.Mem.head _))) (by kernel_rfl) ?_
  simp only [Act.put, List.setIfInBounds_toArray, List.set_cons_succ, List.set_cons_zero]
  refine Gs_move 12 (fun d _ _ _ _ h => by cases d <;> exact h) (by kernel_rfl) rfl _ rfl rfl (some 20) rfl (by kernel_rfl) (by kernel_rfl) (HT 12 (by decide)) (.pointer _) rfl ?_
  simp only [Act.put, List.setIfInBounds_toArray, List.set_cons_succ, List.set_cons_zero]
  refine Gs_nil 13 (fun d _ _ _ _ h => by cases d <;> exact h) (by kernel_rfl) rfl _ rfl rfl (some 21) rfl (by kernel_rfl) (by kernel_rfl) (HT 13 (by decide)) _ rfl ?_
  simp only [Act.put, List.setIfInBounds_toArray, List.set_cons_succ, List.set_cons_zero]
  refine Gs_field 14 (fun d _ _ _ _ h => by cases d <;> exact h) (by kernel_rfl) rfl _ _ _ rfl rfl (some 22) rfl (by kernel_rfl) (by kernel_rfl) (HT 14 (by decide)) _ _ rfl (fieldAt79_2 _ _) ?_
  simp only [Act.put, List.setIfInBounds_toArray, List.set_cons_succ, List.set_cons_zero]
  refine Gs_load 15 28 (fun d _ _ _ _ h => by cases d <;> exact h) (by kernel_rfl) rfl _ _ rfl rfl (some 23) rfl (by kernel_rfl) (by kernel_rfl) (HT 15 (by decide)) _ rfl Try.isAgg21 _ (List.Mem.tail _ (List.Mem.head _)) (by kernel_rfl) ?_
  simp only [Act.put, List.setIfInBounds_toArray, List.set_cons_succ, List.set_cons_zero]
  refine Gs_move 16 (fun d _ _ _ _ h => by cases d <;> exact h) (by kernel_rfl) rfl _ rfl rfl (some 24) rfl (by kernel_rfl) (by kernel_rfl) (HT 16 (by decide)) (.pointer _) rfl ?_
  simp only [Act.put, List.setIfInBounds_toArray, List.set_cons_succ, List.set_cons_zero]
  refine Gs_nil 17 (fun d _ _ _ _ h => by cases d <;> exact h) (by kernel_rfl) rfl _ rfl rfl (some 25) rfl (by kernel_rfl) (by kernel_rfl) (HT 17 (by decide)) _ rfl ?_
  simp only [Act.put, List.setIfInBounds_toArray, List.set_cons_succ, List.set_cons_zero]
  refine Gs_field 18 (fun d _ _ _ _ h => by cases d <;> exact h) (by kernel_rfl) rfl _ _ _ rfl rfl (some 26) rfl (by kernel_rfl) (by kernel_rfl) (HT 18 (by decide)) _ _ rfl (fieldAt79_4 _ _) ?_
  simp only [Act.put, List.setIfInBounds_toArray, List.set_cons_succ, List.set_cons_zero]
  refine Gs_load 19 28 (fun d _ _ _ _ h => by cases d <;> exact h) (by kernel_rfl) rfl _ _ rfl rfl (some 27) rfl (by kernel_rfl) (by kernel_rfl) (HT 19 (by decide)) _ rfl Try.isAgg21 _ (List.Mem.tail _ (List.Mem.tail _ (List.Mem.tail _ (List.Mem.head _)))) (by kernel_rfl) ?_
  simp only [Act.put, List.setIfInBounds_toArray, List.set_cons_succ, List.set_cons_zero]
  refine Gs_move 21 (fun d _ _ _ _ h => by cases d <;> exact h) (by kernel_rfl) rfl _ rfl rfl (some 29) rfl (by kernel_rfl) (by kernel_rfl) (HT 21 (by decide)) (.pointer _) rfl ?_
  simp only [Act.put, List.setIfInBounds_toArray, List.set_cons_succ, List.set_cons_zero]
  refine Gs_nil 22 (fun d _ _ _ _ h => by cases d <;> exact h) (by kernel_rfl) rfl _ rfl rfl (some 30) rfl (by kernel_rfl) (by kernel_rfl) (HT 22 (by decide)) _ rfl ?_
  simp only [Act.put, List.setIfInBounds_toArray, List.set_cons_succ, List.set_cons_zero]
  refine Gs_field 23 (fun d _ _ _ _ h => by cases d <;> exact h) (by kernel_rfl) rfl _ _ _ rfl rfl (some 31) rfl (by kernel_rfl) (by kernel_rfl) (HT 23 (by decide)) _ _ rfl (fieldAt79_5 _ _) ?_
  simp only [Act.put, List.setIfInBounds_toArray, List.set_cons_succ, List.set_cons_zero]
  refine Gs_load 24 28 (fun d _ _ _ _ h => by cases d <;> exact h) (by kernel_rfl) rfl _ _ rfl rfl (some 32) rfl (by kernel_rfl) (by kernel_rfl) (HT 24 (by decide)) _ rfl Try.isAgg3 _ (List.Mem.tail _ (List.Mem.tail _ (List.Mem.tail _ (List.Mem.tail _ (List.Mem.head _))))) (by kernel_rfl) ?_
  simp only [Act.put, List.setIfInBounds_toArray, List.set_cons_succ, List.set_cons_zero]
  refine Gs_bin 25 (fun d _ _ _ _ h => by cases d <;> exact h) (by kernel_rfl) rfl rfl (some 33) rfl (by kernel_rfl) (by kernel_rfl) (HT 25 (by decide)) (.int .i64 (s.left - 1)) (fun w => by go_simp; rw [IntKind.wrap_i64]; omega) ?_
  simp only [Act.put, List.setIfInBounds_toArray, List.set_cons_succ, List.set_cons_zero]
  refine Gs_call 11 rfl rfl (some 19) rfl (by kernel_rfl) (HT 11 (by decide)) 60 #[.int .i32 s.x, .int .i32 s.vx] (by go_simp) (.int .i32 (mv s.x s.vx)) (M1.out _) ?_
  simp only [Act.put, List.setIfInBounds_toArray, List.set_cons_succ, List.set_cons_zero]
  refine Gs_call 20 rfl rfl (some 28) rfl (by kernel_rfl) (HT 20 (by decide)) 60 #[.int .i32 s.y, .int .i32 s.vy] (by go_simp) (.int .i32 (mv s.y s.vy)) (M2.out _) ?_
  simp only [Act.put, List.setIfInBounds_toArray, List.set_cons_succ, List.set_cons_zero]
  refine Gs_nil 26 (fun d _ _ _ _ h => by cases d <;> exact h) (by kernel_rfl) rfl _ rfl rfl (some 34) rfl (by kernel_rfl) (by kernel_rfl) (HT 26 (by decide)) _ rfl ?_
  simp only [Act.put, List.setIfInBounds_toArray, List.set_cons_succ, List.set_cons_zero]
  refine Gs_field 27 (fun d _ _ _ _ h => by cases d <;> exact h) (by kernel_rfl) rfl _ _ _ rfl rfl (some 35) rfl (by kernel_rfl) (by kernel_rfl) (HT 27 (by decide)) _ _ rfl (fieldAt79_1 _ _) ?_
  simp only [Act.put, List.setIfInBounds_toArray, List.set_cons_succ, List.set_cons_zero]
  refine Gs_tail 28 (by kernel_rfl) HD (by kernel_rfl) rfl ?_
  replace H : Sb [g, p] w0' ({ w with drawn := w.drawn + 1 } : World) _ _ := H.call ((Below.refl _ w).drew)
  generalize ({ w with drawn := w.drawn + 1 } : World) = W at *
  simp only [List.drop_succ_cons, List.drop_zero]
  by_cases hl0 : s.left - 1 = 0
  · have hq : (s.left - 1 == 0) = true := by rw [hl0]; rfl
    have Hl := Lib.hid hl0
    clear hl0
    go_wp2_with (first | (refine wb_put H rfl 0 21 _ _ rfl _ _ rfl _ _ rfl (.int _ _) rfl 1 info21 rfl (Nat.le_of_ble_eq_true rfl) rfl _ rfl ?_; clear H; intro w H) | (refine wb_put H rfl 0 3 _ _ rfl _ _ rfl _ _ rfl (.int _ _) rfl 1 info3 rfl (Nat.le_of_ble_eq_true rfl) rfl _ rfl ?_; clear H; intro w H) | (refine wb_cell H rfl 0 3 _ rfl _ _ rfl _ _ rfl Try.isAgg3 (.int .i64 (s.left - 1)) rfl ?_))
    go_ret
    have e : flyF d S s = ⟨false, d, S⟩ := by unfold flyF; rw [if_pos (show (flown s).left = 0 from Hl.out)]
    refine ⟨by rw [e]; rfl, ?_⟩
    rw [e]
    exact H
  · have hq : (s.left - 1 == 0) = false := beq_eq_false_iff_ne.2 hl0
    go_wp2_with (first | (refine wb_put H rfl 0 21 _ _ rfl _ _ rfl _ _ rfl (.int _ _) rfl 1 info21 rfl (Nat.le_of_ble_eq_true rfl) rfl _ rfl ?_; clear H; intro w H) | (refine wb_put H rfl 0 3 _ _ rfl _ _ rfl _ _ rfl (.int _ _) rfl 1 info3 rfl (Nat.le_of_ble_eq_true rfl) rfl _ rfl ?_; clear H; intro w H) | (refine wb_cell H rfl 0 3 _ rfl _ _ rfl _ _ rfl Try.isAgg3 (.int .i64 (s.left - 1)) rfl ?_))
    replace H : Sb [g, p] _ w [(p, (shotL (flown s)).toArray, 75), (g, gameC fr d S sl, 33)] [] := H
    have Hl := Lib.hid hl0
    clear hq hl0 l0 l1
    go_loopw [45] (fun i W => ∃ k : Nat, k ≤ 8 ∧ i = .int .i64 k ∧ Hid (∀ j, j < k → passes (flown s) j (S.getD j zShp) = true) ∧ Hid (Sb [g, p] w0' W [(p, (shotL (flown s)).toArray, 75), (g, gameC fr d S sl, 33)] [])) (fun i _ => 8 - (intOf i).toNat)
    case atStart => exact ⟨0, Nat.zero_le _, rfl, Lib.hid (fun j hj => by omega), Lib.hid H⟩
    case round =>
      clear H
      obtain ⟨k, hk, rfl, HP, HB⟩ := hrel
      by_cases hlt : k < 8
      · obtain ⟨t, ht⟩ : ∃ t, S[k]? = some t := ⟨S[k]'(by rw [HS.out]; exact hlt), List.getElem?_eq_getElem _⟩
        have Ht := Lib.hid ht
        have hbg := HB.out.holds _ (List.mem_cons_of_mem _ (List.mem_cons_self ..))
        have hbp := HB.out.holds _ (List.mem_cons_self ..)
        have con : wr.cell? ⟨g, 2 + k * 7, none⟩ = some (.bool t.on) := (cell_of_row _ _ _ _ _ _ hbg).trans (gc_at0 k t ht)
        have cx : wr.cell? ⟨g, 2 + k * 7 + 1, none⟩ = some (.int .i32 t.x) := (cell_of_row _ _ _ _ _ _ hbg).trans (gc_at k 1 t _ ht rfl)
        have cy : wr.cell? ⟨g, 2 + k * 7 + 2, none⟩ = some (.int .i32 t.y) := (cell_of_row _ _ _ _ _ _ hbg).trans (gc_at k 2 t _ ht rfl)
        have so : wr.cell? ⟨p, 0, none⟩ = some (.int .i64 s.owner) := cell_of_row _ _ 0 _ _ _ hbp
        have sx : wr.cell? ⟨p, 1, none⟩ = some (.int .i32 (mv s.x s.vx)) := cell_of_row _ _ 1 _ _ _ hbp
        have sy : wr.cell? ⟨p, 2, none⟩ = some (.int .i32 (mv s.y s.vy)) := cell_of_row _ _ 2 _ _ _ hbp
        have hg : S.getD k zShp = t := by rw [List.getD_eq_getElem?_getD, ht]; rfl
        have Hg := Lib.hid hg
        clear hbg hbp ht hg
        obtain ⟨ow, how⟩ : ∃ ow : Nat, s.owner = ow := ⟨s.owner.toNat, by have := Hs.out.o0; omega⟩
        have how8 : ow < 8 := by have := Hs.out.o1; omega
        rw [how] at so
        have How := Lib.hid how
        clear how
        have HPn : passes (flown s) k t = true → Hid (∀ j, j < k + 1 → passes (flown s) j (S.getD j zShp) = true) := fun h => Lib.hid (fun j hj => by
          by_cases e : j = k
          · rw [e, Hg.out]; exact h
          · exact HP.out j (by omega))
        have Htk := Lib.hid (HO.out t (List.mem_of_getElem? Ht.out))
        by_cases hon : t.on = true
        · by_cases hko : k = ow
          · have HP' := HPn (by unfold passes; rw [show (flown s).owner = s.owner from rfl, How.out, hko]; simp)
            have hqk : ((k : Int) == (ow : Int)) = true := by rw [hko]; simp
            rw [hon] at con
            have Hon := Lib.hid hon
            clear hon hko HPn
            go_wp2_with fail
            go_quiet (fail)
            have HB' := Lib.hid (HB.out.call (below_drewN (Below.refl _ _) nq))
            clear HB con cx cy so sx sy
            go_wp2_with fail
            exact ⟨⟨k + 1, hlt, rfl, HP', HB'⟩, by simp only [intOf]; omega⟩
          · have hqk : ((k : Int) == (ow : Int)) = false := beq_eq_false_iff_ne.2 (by omega)
            have hok : 0 ≤ t.x ∧ t.x < 16777216 ∧ 0 ≤ t.y ∧ t.y < 16777216 := by
              have := Htk.out
              unfold Shp.ok OkShip at this
              rw [if_pos hon] at this
              omega
            obtain ⟨q, hq⟩ : ∃ q, hitsI (mv s.x s.vx) (mv s.y s.vy) t.x t.y = q := ⟨_, rfl⟩
            have Hq := Lib.hid hq
            have HH : Hid (∀ w, Calls Try.prog 62 #[.int .i32 (mv s.x s.vx), .int .i32 (mv s.y s.vy), .int .i32 t.x, .int .i32 t.y] w fun e w' => e = .returned (.bool q) ∧ w' = w) := Lib.hid (fun w => (hits_any (mv s.x s.vx) (mv s.y s.vy) t.x t.y w (mv_bd _ _) (mv_bd _ _) ⟨hok.1, hok.2.1⟩ ⟨hok.2.2.1, hok.2.2.2⟩).mono fun e w' h => ⟨by rw [← hq]; exact h.1, h.2.symm⟩)
            rw [hon] at con
            have Hon := Lib.hid hon
            have Hko := Lib.hid hko
            clear hq hon hko hok
            cases q
            · have HP' := HPn (by unfold passes; rw [show (flown s).x = mv s.x s.vx from rfl, show (flown s).y = mv s.y s.vy from rfl, Hq.out]; simp)
              clear HPn
              go_wp2_with fail
              go_quiet ((go_at_call_of 62 (Value.int .i32 (mv s.x s.vx)); exact Calls.quiet_of_same (HH.out _)))
              have HB' := Lib.hid (HB.out.call (below_drewN (Below.refl _ _) nq))
              clear HB con cx cy so sx sy
              go_wp2_with fail
              exact ⟨⟨k + 1, hlt, rfl, HP', HB'⟩, by simp only [intOf]; omega⟩
            · clear HPn
              go_wp2_with fail
              go_quiet ((go_at_call_of 62 (Value.int .i32 (mv s.x s.vx)); exact Calls.quiet_of_same (HH.out _)))
              have H := HB.out.call (below_drewN (Below.refl _ _) nq)
              generalize wr.drewN nq = w at *
              have hgt : passes (flown s) k t = false := by
                unfold passes
                rw [show (flown s).owner = s.owner from rfl, How.out, hqk, show (flown s).x = mv s.x s.vx from rfl, show (flown s).y = mv s.y s.vy from rfl, Hq.out, Hon.out]
                rfl
              have hfirst : firstHit (flown s) S = some k := by
                unfold firstHit
                rw [List.find?_range_eq_some]
                refine ⟨by rw [Hg.out, hgt]; rfl, List.mem_range.2 hlt, fun j hj => by rw [HP.out j hj]; rfl⟩
              have Hfirst := Lib.hid hfirst
              clear HB con cx cy so sx sy hgt hfirst hqk HH Hq
              have G1 := Lib.hid (gc_set (fr := fr) (d := d) (sl := sl) k 1 t ⟨t.on, px d, t.y, t.vx, t.vy, t.cool, t.score⟩ (.int .i32 (px d)) Ht.out (by omega) rfl)
              have G2 := Lib.hid (gc_set2 (fr := fr) (d := d) (sl := sl) k 2 t ⟨t.on, px d, t.y, t.vx, t.vy, t.cool, t.score⟩ ⟨t.on, px d, py d, t.vx, t.vy, t.cool, t.score⟩ (.int .i32 (py d)) Ht.out (by omega) rfl)
              have G4 := Lib.hid (gc_set2 (fr := fr) (d := next (next d)) (sl := sl) k 3 t ⟨t.on, px d, py d, t.vx, t.vy, t.cool, t.score⟩ ⟨t.on, px d, py d, 0, t.vy, t.cool, t.score⟩ (.int .i32 0) Ht.out (by omega) rfl)
              have G5 := Lib.hid (gc_set2 (fr := fr) (d := next (next d)) (sl := sl) k 4 t ⟨t.on, px d, py d, 0, t.vy, t.cool, t.score⟩ ⟨t.on, px d, py d, 0, 0, t.cool, t.score⟩ (.int .i32 0) Ht.out (by omega) rfl)
              have G6 := Lib.hid (gc_set2 (fr := fr) (d := next (next d)) (sl := sl) k 5 t ⟨t.on, px d, py d, 0, 0, t.cool, t.score⟩ (hurt t (px d) (py d)) (.int .i64 0) Ht.out (by omega) rfl)
              go_wp2_with (first | (refine wb_cell H rfl 1 27 _ rfl _ _ rfl _ _ rfl Try.isAgg27 (.int .u64 d) rfl ?_))
              refine (place_any d _).mono ?_; rintro e w' ⟨rfl, hb⟩
              replace H := H.call hb
              clear hb
              go_wp2_with (first | (refine wb_put H rfl 1 21 _ _ rfl _ (2 + k * 7 + 1) rfl _ _ rfl (.int .i32 (px d)) rfl 1 info21 rfl (by rw [gc_size (by first | exact HS.out | (simp only [List.length_set]; exact HS.out))]; omega) rfl _ G1.out ?_; clear H; intro w H) | (refine wb_put H rfl 1 21 _ _ rfl _ (2 + k * 7 + 2) rfl _ _ rfl (.int .i32 (py d)) rfl 1 info21 rfl (by rw [gc_size (by first | exact HS.out | (simp only [List.length_set]; exact HS.out))]; omega) rfl _ G2.out ?_; clear H; intro w H) | (refine wb_put H rfl 1 27 _ _ rfl _ 1 rfl _ _ rfl (.int .u64 (next (next d))) rfl 1 info22 rfl (by rw [gc_size (by first | exact HS.out | (simp only [List.length_set]; exact HS.out))]; omega) rfl _ (gc_setDice _) ?_; clear H; intro w H) | (refine wb_put H rfl 1 21 _ _ rfl _ (2 + k * 7 + 3) rfl _ _ rfl (.int .i32 0) rfl 1 info21 rfl (by rw [gc_size (by first | exact HS.out | (simp only [List.length_set]; exact HS.out))]; omega) rfl _ G4.out ?_; clear H; intro w H) | (refine wb_put H rfl 1 21 _ _ rfl _ (2 + k * 7 + 4) rfl _ _ rfl (.int .i32 0) rfl 1 info21 rfl (by rw [gc_size (by first | exact HS.out | (simp only [List.length_set]; exact HS.out))]; omega) rfl _ G5.out ?_; clear H; intro w H) | (refine wb_put H rfl 1 3 _ _ rfl _ (2 + k * 7 + 5) rfl _ _ rfl (.int .i64 0) rfl 1 info3 rfl (by rw [gc_size (by first | exact HS.out | (simp only [List.length_set]; exact HS.out))]; omega) rfl _ G6.out ?_; clear H; intro w H))
              replace H : Sb [g, p] w0' w [(p, (shotL (flown s)).toArray, 75), (g, gameC fr (next (next d)) (S.set k (hurt t (px d) (py d))) sl, 33)] [] := H
              clear G1 G2 G4 G5 G6
              have hbp := H.holds _ (List.mem_cons_self ..)
              have so : w.cell? ⟨p, 0, none⟩ = some (.int .i64 (ow : Int)) := (cell_of_row _ _ 0 _ _ _ hbp).trans (show some (Value.int .i64 s.owner) = _ by rw [How.out])
              have hu1 : (S.set k (hurt t (px d) (py d)))[ow]? = S[ow]? := List.getElem?_set_ne Hko.out
              obtain ⟨u, hu⟩ : ∃ u, S[ow]? = some u := ⟨S[ow]'(by rw [HS.out]; exact how8), List.getElem?_eq_getElem _⟩
              have Huk := Lib.hid (HO.out u (List.mem_of_getElem? hu))
              have Hu := Lib.hid (hu1.trans hu)
              have how8i : (ow : Int) < 8 := by omega
              have hFl : flyF d S s = ⟨false, next (next d), hitS S k ow (px d) (py d)⟩ := by
                unfold flyF
                rw [if_neg (show ¬ (flown s).left = 0 from Hl.out), Hfirst.out]
                show (⟨false, _, hitS S k s.owner.toNat _ _⟩ : FlyR) = _
                rw [How.out]; rfl
              have hHit : hitS S k ow (px d) (py d) = if u.on = true then (S.set k (hurt t (px d) (py d))).set ow (scored u) else S.set k (hurt t (px d) (py d)) := by
                unfold hitS
                have e1 : (S.set k (hurt t (px d) (py d))).getD ow zShp = u := by rw [List.getD_eq_getElem?_getD, Hu.out]; rfl
                simp only [Hg.out, e1]
              rw [hHit] at hFl
              have HFl := Lib.hid hFl
              clear hbp hu1 hu hFl hHit
              go_wp2_with fail
              go_quiet (fail)
              replace H := H.call (below_drewN (Below.refl _ _) nq)
              clear so
              generalize w.drewN nq = w at *
              by_cases huo : u.on = true
              · have hsc : 0 ≤ u.score ∧ u.score ≤ 1073741824 := by
                  have := Huk.out
                  unfold Shp.ok OkShip at this
                  rw [if_pos huo] at this
                  omega
                have hsc0 := hsc.1
                have hsc1 := hsc.2
                have Huo := Lib.hid huo
                have hv : (gameC fr (next (next d)) (S.set k (hurt t (px d) (py d))) sl)[2 + ow * 7]? = some (.bool true) := by rw [← huo]; exact gc_at0 ow u Hu.out
                have Hv := Lib.hid hv
                have Hw := Lib.hid (gc_at (fr := fr) (d := next (next d)) (sl := sl) ow 6 u (.int .i64 u.score) Hu.out rfl)
                clear huo hsc hv
                by_cases hmin : u.score + 1 ≤ 1073741824
                · have G7 := Lib.hid (gc_set (fr := fr) (d := next (next d)) (sl := sl) ow 6 u (scored u) (.int .i64 (u.score + 1)) Hu.out (by omega) (by unfold scored; rw [show min (u.score + 1) 1073741824 = u.score + 1 by omega]; rfl))
                  go_wp2_with (first | (refine wb_cell H rfl 1 4 _ rfl _ _ rfl _ _ rfl Try.isAgg4 (.bool true) Hv.out ?_) | (refine wb_cell H rfl 1 3 _ rfl _ (2 + ow * 7 + 6) rfl _ _ rfl Try.isAgg3 (.int .i64 u.score) Hw.out ?_) | (refine wb_put H rfl 1 3 _ _ rfl _ (2 + ow * 7 + 6) rfl _ _ rfl (.int .i64 (u.score + 1)) rfl 1 info3 rfl (by rw [gc_size (by first | exact HS.out | (simp only [List.length_set]; exact HS.out))]; omega) rfl _ G7.out ?_; clear H; intro w H))
                  go_ret
                  have e := HFl.out
                  rw [if_pos Huo.out] at e
                  refine ⟨by rw [e]; rfl, ?_⟩
                  rw [e]
                  exact H
                · have G7 := Lib.hid (gc_set (fr := fr) (d := next (next d)) (sl := sl) ow 6 u (scored u) (.int .i64 1073741824) Hu.out (by omega) (by unfold scored; rw [show min (u.score + 1) 1073741824 = 1073741824 by omega]; rfl))
                  have hmin2 : 1073741824 < u.score + 1 := by omega
                  clear hmin
                  go_wp2_with (first | (refine wb_cell H rfl 1 4 _ rfl _ _ rfl _ _ rfl Try.isAgg4 (.bool true) Hv.out ?_) | (refine wb_cell H rfl 1 3 _ rfl _ (2 + ow * 7 + 6) rfl _ _ rfl Try.isAgg3 (.int .i64 u.score) Hw.out ?_) | (refine wb_put H rfl 1 3 _ _ rfl _ (2 + ow * 7 + 6) rfl _ _ rfl (.int .i64 1073741824) rfl 1 info3 rfl (by rw [gc_size (by first | exact HS.out | (simp only [List.length_set]; exact HS.out))]; omega) rfl _ G7.out ?_; clear H; intro w H))
                  go_ret
                  have e := HFl.out
                  rw [if_pos Huo.out] at e
                  refine ⟨by rw [e]; rfl, ?_⟩
                  rw [e]
                  exact H
              · have huf : u.on = false := by simpa using huo
                have hv : (gameC fr (next (next d)) (S.set k (hurt t (px d) (py d))) sl)[2 + ow * 7]? = some (.bool false) := by rw [← huf]; exact gc_at0 ow u Hu.out
                have Hv := Lib.hid hv
                have Huo := Lib.hid huo
                clear huo huf hv
                go_wp2_with (refine wb_cell H rfl 1 4 _ rfl _ _ rfl _ _ rfl Try.isAgg4 (.bool false) Hv.out ?_)
                go_ret
                have e := HFl.out
                rw [if_neg Huo.out] at e
                refine ⟨by rw [e]; rfl, ?_⟩
                rw [e]
                exact H
        · have hon' : t.on = false := by simpa using hon
          have HP' := HPn (by unfold passes; rw [hon']; rfl)
          rw [hon'] at con
          clear hon hon' HPn
          go_wp2_with fail
          go_quiet (fail)
          have HB' := Lib.hid (HB.out.call (below_drewN (Below.refl _ _) nq))
          clear HB con cx cy so sx sy
          go_wp2_with fail
          exact ⟨⟨k + 1, hlt, rfl, HP', HB'⟩, by simp only [intOf]; omega⟩
      · obtain rfl : k = 8 := by omega
        go_wp2_with fail
        go_ret
        have e : flyF d S s = ⟨true, d, S⟩ := by
          unfold flyF
          rw [if_neg (show ¬ (flown s).left = 0 from Hl.out)]
          have : firstHit (flown s) S = none := by
            unfold firstHit
            rw [List.find?_eq_none]
            intro j hj
            rw [HP.out j (List.mem_range.1 hj)]
            simp
          rw [this]
        refine ⟨by rw [e]; rfl, ?_⟩
        rw [e]
        exact HB.out
end Go.Proofs.Ytdopfonebpklkaa.game
