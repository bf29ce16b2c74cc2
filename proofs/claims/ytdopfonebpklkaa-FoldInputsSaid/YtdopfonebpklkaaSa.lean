/- game.sail: a ship is pushed by its input, and shoots. -/
import Derived.Test.YtdopfonebpklkaaPu
import Derived.Test.YtdopfonebpklkaaRt
import Derived.Laws.BitsLemmas
import Derived.Deep.RegionWith
import Derived.BigQuiet
namespace Go.Proofs.Ytdopfonebpklkaa.game
open Go.ChangeShapes Go.WideShapes Go.ChangeAt Go.RowKit dice
set_option maxRecDepth 100000

theorem info58 : (Try.prog.info? 22).map (·.size) = some 1 := by kernel_rfl
theorem info60s : (Try.prog.info? 24).map (·.size) = some 3 := by kernel_rfl
theorem fieldAt24_0 (b o : Nat) (w : World) : (Instr.fieldAt 29 (.pointer (some ⟨b, o, none⟩)) 0).run Try.prog w = .ok (.pointer (some ⟨b, o + 0, none⟩)) w := by go_simp
theorem fieldAt24_1 (b o : Nat) (w : World) : (Instr.fieldAt 29 (.pointer (some ⟨b, o, none⟩)) 1).run Try.prog w = .ok (.pointer (some ⟨b, o + 1, none⟩)) w := by go_simp
theorem fieldAt24_2 (b o : Nat) (w : World) : (Instr.fieldAt 29 (.pointer (some ⟨b, o, none⟩)) 2).run Try.prog w = .ok (.pointer (some ⟨b, o + 2, none⟩)) w := by go_simp
theorem fieldAt24_3 (b o : Nat) (w : World) : (Instr.fieldAt 29 (.pointer (some ⟨b, o, none⟩)) 3).run Try.prog w = .ok (.pointer (some ⟨b, o + 3, none⟩)) w := by go_simp
theorem fieldAt24_4 (b o : Nat) (w : World) : (Instr.fieldAt 29 (.pointer (some ⟨b, o, none⟩)) 4).run Try.prog w = .ok (.pointer (some ⟨b, o + 4, none⟩)) w := by go_simp
theorem fieldAt24_5 (b o : Nat) (w : World) : (Instr.fieldAt 29 (.pointer (some ⟨b, o, none⟩)) 5).run Try.prog w = .ok (.pointer (some ⟨b, o + 5, none⟩)) w := by go_simp
theorem fieldAt24_6 (b o : Nat) (w : World) : (Instr.fieldAt 29 (.pointer (some ⟨b, o, none⟩)) 6).run Try.prog w = .ok (.pointer (some ⟨b, o + 6, none⟩)) w := by go_simp
theorem fieldAt60_0 (b o : Nat) (w : World) : (Instr.fieldAt 24 (.pointer (some ⟨b, o, none⟩)) 0).run Try.prog w = .ok (.pointer (some ⟨b, o + 0, none⟩)) w := by go_simp
theorem fieldAt60_1 (b o : Nat) (w : World) : (Instr.fieldAt 24 (.pointer (some ⟨b, o, none⟩)) 1).run Try.prog w = .ok (.pointer (some ⟨b, o + 1, none⟩)) w := by go_simp
theorem fieldAt60_2 (b o : Nat) (w : World) : (Instr.fieldAt 24 (.pointer (some ⟨b, o, none⟩)) 2).run Try.prog w = .ok (.pointer (some ⟨b, o + 2, none⟩)) w := by go_simp
theorem fieldAt28_0 (b o : Nat) (w : World) : (Instr.fieldAt 33 (.pointer (some ⟨b, o, none⟩)) 0).run Try.prog w = .ok (.pointer (some ⟨b, o + 0, none⟩)) w := by go_simp
theorem fieldAt28_1 (b o : Nat) (w : World) : (Instr.fieldAt 33 (.pointer (some ⟨b, o, none⟩)) 1).run Try.prog w = .ok (.pointer (some ⟨b, o + 1, none⟩)) w := by go_simp
theorem fieldAt28_2 (b o : Nat) (w : World) : (Instr.fieldAt 33 (.pointer (some ⟨b, o, none⟩)) 2).run Try.prog w = .ok (.pointer (some ⟨b, o + 2, none⟩)) w := by go_simp
theorem fieldAt28_3 (b o : Nat) (w : World) : (Instr.fieldAt 33 (.pointer (some ⟨b, o, none⟩)) 3).run Try.prog w = .ok (.pointer (some ⟨b, o + 58, none⟩)) w := by go_simp
theorem aim_all (x y b : Int) (w : World) :
    Calls Try.prog 61 #[.agg #[.int .i8 x, .int .i8 y, .int .u8 b]] w fun e w' => e = .returned (.tuple #[.int .i32 (aimX x y), .int .i32 (sideI y)]) ∧ Below w.heap.size w w' := by
  by_cases h : x = 0 ∧ y = 0
  · obtain ⟨rfl, rfl⟩ := h
    have HX := Lib.hid (side_any 0)
    go_enter Try.func61, Try.ntmps61
    go_wp2_with fail
    go_quiet ((go_at_call_of 74 (Value.int .i8 0); exact Calls.quiet_of_same (HX.out _)))
    go_wp2_with fail
    go_ret2
    exact ⟨rfl, by repeat (first | exact Below.refl _ _ | apply Below.drew | (refine bdN ?_ _) | (refine Below.alloc ?_ (by simp) _) | (refine Below.setCell ?_ (by simp) _))⟩
  · refine (aim_any x y b w (by omega)).mono fun e w' hh => ⟨?_, hh.2⟩
    rw [hh.1, show aimX x y = sideI x from if_neg h]
def inpC (x y b : Int) : Array Value := #[.int .i8 x, .int .i8 y, .int .u8 b]
def SailPost (Hs : List Nat) (g k : Nat) (fr d : Int) (S : List Shp) (t : Shp) (i : Inp) (L : List Sht) (w : World) (e : Ending) (w' : World) : Prop :=
  e = .returned (.tuple #[]) ∧ ∃ sl', Sb Hs w w' [(g, gameC fr d (S.set k (sailF k t i L).t) sl', 33)] [(sl', (sailF k t i L).out)]
set_option maxHeartbeats 8000000 in
theorem sail_any (Hs : List Nat) (g k : Nat) (fr d : Int) (S : List Shp) (t : Shp) (i : Inp) (ad : Option Addr) (c : Nat) (L : List Sht) (w0' : World) (hk : k < 8) (hS : S.length = 8) (ht : S[k]? = some t) (hon : t.on = true) (hok : t.ok) (hi : i.ok) (hL : L.length ≤ 32)
    (H : Sb Hs w0' w0' [(g, gameC fr d S (.slice ad L.length c), 33)] [(.slice ad L.length c, L)]) :
    Calls Try.prog 40 #[.pointer (some ⟨g, 0, none⟩), .int .i64 k, .agg #[.int .i8 i.x, .int .i8 i.y, .int .u8 i.b]] w0' (SailPost Hs g k fr d S t i L w0') := by
  obtain ⟨w, hw⟩ : ∃ w, w0' = w := ⟨_, rfl⟩
  have HW := Lib.hid hw
  replace H : Sb Hs w0' w [(g, gameC fr d S (.slice ad L.length c), 33)] [(.slice ad L.length c, L)] := by rw [hw] at H ⊢; exact H
  rw [show Calls Try.prog 40 #[.pointer (some ⟨g, 0, none⟩), .int .i64 k, .agg #[.int .i8 i.x, .int .i8 i.y, .int .u8 i.b]] w0' = Calls Try.prog 40 #[.pointer (some ⟨g, 0, none⟩), .int .i64 k, .agg #[.int .i8 i.x, .int .i8 i.y, .int .u8 i.b]] w by rw [hw]]
  clear hw
  have HS := Lib.hid hS
  have Ht := Lib.hid ht
  have Hok := Lib.hid hok
  have Hon := Lib.hid hon
  have Hi := Lib.hid hi
  have HL := Lib.hid hL
  have hb : 0 ≤ t.x ∧ t.x < 16777216 ∧ 0 ≤ t.y ∧ t.y < 16777216 ∧ -524288 ≤ t.vx ∧ t.vx ≤ 524288 ∧ -524288 ≤ t.vy ∧ t.vy ≤ 524288 ∧ 0 ≤ t.cool ∧ t.cool ≤ 10 := by
    unfold Shp.ok OkShip at hok
    rw [if_pos hon] at hok
    omega
  have M1 := Lib.hid (fun w => axis_any i.x w hi.x0 hi.x1)
  have M2 := Lib.hid (fun w => axis_any i.y w hi.y0 hi.y1)
  have tx : -128 ≤ tameI i.x ∧ tameI i.x ≤ 127 := by have := hi.x0; have := hi.x1; unfold tameI; omega
  have ty : -128 ≤ tameI i.y ∧ tameI i.y ≤ 127 := by have := hi.y0; have := hi.y1; unfold tameI; omega
  have M3 := Lib.hid (fun w => push_any t.vx (tameI i.x) w (by omega) (by omega) tx.1 tx.2)
  have M4 := Lib.hid (fun w => push_any t.vy (tameI i.y) w (by omega) (by omega) ty.1 ty.2)
  have p1 := pushI_bd t.vx (tameI i.x)
  have p2 := pushI_bd t.vy (tameI i.y)
  have M5 := Lib.hid (fun w => move_any t.x (pushI t.vx (tameI i.x)) w (by omega) (by omega) (by omega) (by omega))
  have M6 := Lib.hid (fun w => move_any t.y (pushI t.vy (tameI i.y)) w (by omega) (by omega) (by omega) (by omega))
  have c0 := hb.2.2.2.2.2.2.2.2.1
  have c1 := hb.2.2.2.2.2.2.2.2.2
  clear hS ht hok hon hi hL hb tx ty p1 p2
  go_enter Try.func40, Try.ntmps40
  go_wp2_with (refine wb_box H rfl 24 _ rfl (inpC i.x i.y i.b) rfl ?_; clear H; intro b5 w H)
  have e0 := (H.call ((Below.refl _ w).drew)).holds
  refine Gs_start (T := [((⟨b5, 0, none⟩ : Addr), Value.int .i8 i.x, 7), (⟨b5, 1, none⟩, .int .i8 i.y, 7)]) (n := 10) (by kernel_rfl) rfl ?_ ?_
  · intro t ht _
    simp at ht
    rcases ht with rfl | rfl
    · exact cell_of_row _ _ 0 _ _ _ (e0 _ (List.mem_cons_self ..))
    · exact cell_of_row _ _ 1 _ _ _ (e0 _ (List.mem_cons_self ..))
  clear e0
  replace H : Sb Hs w0' ({ w with drawn := w.drawn + 1 } : World) _ _ := H.call ((Below.refl _ w).drew)
  generalize ({ w with drawn := w.drawn + 1 } : World) = w at *
  refine Gs_field 0 (fun d _ _ _ _ h => by cases d <;> exact h) (by kernel_rfl) rfl _ _ _ rfl rfl (some 14) rfl (by kernel_rfl) (by kernel_rfl) (HTof rfl) _ _ rfl (fieldAt60_0 _ _) ?_
  simp only [Act.put, List.setIfInBounds_toArray, List.set_cons_succ, List.set_cons_zero]
  refine Gs_load 1 7 (fun d _ _ _ _ h => by cases d <;> exact h) (by kernel_rfl) rfl _ _ rfl rfl (some 15) rfl (by kernel_rfl) (by kernel_rfl) (HTof rfl) _ rfl Try.isAgg22 _ (List.Mem.head _) (by kernel_rfl) ?_
  simp only [Act.put, List.setIfInBounds_toArray, List.set_cons_succ, List.set_cons_zero]
  refine Gs_field 3 (fun d _ _ _ _ h => by cases d <;> exact h) (by kernel_rfl) rfl _ _ _ rfl rfl (some 17) rfl (by kernel_rfl) (by kernel_rfl) (HTof rfl) _ _ rfl (fieldAt60_1 _ _) ?_
  simp only [Act.put, List.setIfInBounds_toArray, List.set_cons_succ, List.set_cons_zero]
  refine Gs_load 4 7 (fun d _ _ _ _ h => by cases d <;> exact h) (by kernel_rfl) rfl _ _ rfl rfl (some 18) rfl (by kernel_rfl) (by kernel_rfl) (HTof rfl) _ rfl Try.isAgg22 _ (List.Mem.tail _ (List.Mem.head _)) (by kernel_rfl) ?_
  simp only [Act.put, List.setIfInBounds_toArray, List.set_cons_succ, List.set_cons_zero]
  refine Gs_call' 2 rfl rfl (some 16) rfl (by kernel_rfl) 58 #[.int .i8 i.x] (by go_simp) (.int .i8 (tameI i.x)) (M1.out _) ?_
  simp only [Act.put, List.setIfInBounds_toArray, List.set_cons_succ, List.set_cons_zero]
  refine Gs_field 6 (fun d _ _ _ _ h => by cases d <;> exact h) (by kernel_rfl) rfl _ _ _ rfl rfl (some 20) rfl (by kernel_rfl) (by kernel_rfl) (HTof rfl) _ _ rfl (fieldAt60_0 _ _) ?_
  simp only [Act.put, List.setIfInBounds_toArray, List.set_cons_succ, List.set_cons_zero]
  refine Gs_call' 5 rfl rfl (some 19) rfl (by kernel_rfl) 58 #[.int .i8 i.y] (by go_simp) (.int .i8 (tameI i.y)) (M2.out _) ?_
  simp only [Act.put, List.setIfInBounds_toArray, List.set_cons_succ, List.set_cons_zero]
  refine Gs_tail' 7 (by kernel_rfl) rfl (by kernel_rfl) rfl ?_
  simp only [List.drop_succ_cons, List.drop_zero]
  go_wp2_with (first | (refine wb_put H rfl 0 22 _ _ rfl _ (0) rfl _ _ rfl (.int .i8 (tameI i.x)) rfl 1 info58 rfl (Nat.le_of_ble_eq_true rfl) rfl _ rfl ?_; clear H; intro w H) | (refine wb_put H rfl 0 22 _ _ rfl _ (1) rfl _ _ rfl (.int .i8 (tameI i.y)) rfl 1 info58 rfl (Nat.le_of_ble_eq_true rfl) rfl _ rfl ?_; clear H; intro w H))
  replace H : Sb Hs w0' w [(b5, inpC (tameI i.x) (tameI i.y) i.b, 24), (g, gameC fr d S (.slice ad L.length c), 33)] [(.slice ad L.length c, L)] := H
  clear M1 M2
  have e0 := (H.call ((Below.refl _ w).drew)).holds
  refine Gs_start (T := [((⟨g, 2 + k * 7 + 3, none⟩ : Addr), Value.int .i32 t.vx, 18), ((⟨g, 2 + k * 7 + 4, none⟩ : Addr), .int .i32 t.vy, 18), (⟨b5, 0, none⟩, .int .i8 (tameI i.x), 18), (⟨b5, 1, none⟩, .int .i8 (tameI i.y), 15)]) (n := 22) (by kernel_rfl) rfl ?_ ?_
  · intro t ht _
    simp at ht
    rcases ht with rfl | rfl | rfl | rfl
    · exact (cell_of_row _ _ _ _ _ _ (e0 _ (List.mem_cons_of_mem _ (List.mem_cons_self ..)))).trans (gc_at k 3 _ _ Ht.out rfl)
    · exact (cell_of_row _ _ _ _ _ _ (e0 _ (List.mem_cons_of_mem _ (List.mem_cons_self ..)))).trans (gc_at k 4 _ _ Ht.out rfl)
    · exact cell_of_row _ _ 0 _ _ _ (e0 _ (List.mem_cons_self ..))
    · exact cell_of_row _ _ 1 _ _ _ (e0 _ (List.mem_cons_self ..))
  clear e0
  replace H : Sb Hs w0' ({ w with drawn := w.drawn + 1 } : World) _ _ := H.call ((Below.refl _ w).drew)
  generalize ({ w with drawn := w.drawn + 1 } : World) = w at *
  refine Gs_move 0 (fun d _ _ _ _ h => by cases d <;> exact h) (by kernel_rfl) rfl _ rfl rfl (some 22) rfl (by kernel_rfl) (by kernel_rfl) (HTof rfl) (.pointer _) rfl ?_
  simp only [Act.put, List.setIfInBounds_toArray, List.set_cons_succ, List.set_cons_zero]
  refine Gs_move 1 (fun d _ _ _ _ h => by cases d <;> exact h) (by kernel_rfl) rfl _ rfl rfl (some 23) rfl (by kernel_rfl) (by kernel_rfl) (HTof rfl) (.pointer _) rfl ?_
  simp only [Act.put, List.setIfInBounds_toArray, List.set_cons_succ, List.set_cons_zero]
  refine Gs_move 2 (fun d _ _ _ _ h => by cases d <;> exact h) (by kernel_rfl) rfl _ rfl rfl (some 24) rfl (by kernel_rfl) (by kernel_rfl) (HTof rfl) (.pointer _) rfl ?_
  simp only [Act.put, List.setIfInBounds_toArray, List.set_cons_succ, List.set_cons_zero]
  refine Gs_nil 3 (fun d _ _ _ _ h => by cases d <;> exact h) (by kernel_rfl) rfl _ rfl rfl (some 25) rfl (by kernel_rfl) (by kernel_rfl) (HTof rfl) _ rfl ?_
  simp only [Act.put, List.setIfInBounds_toArray, List.set_cons_succ, List.set_cons_zero]
  refine Gs_field 4 (fun d _ _ _ _ h => by cases d <;> exact h) (by kernel_rfl) rfl _ _ _ rfl rfl (some 26) rfl (by kernel_rfl) (by kernel_rfl) (HTof rfl) _ _ rfl (fieldAt24_3 _ _) ?_
  simp only [Act.put, List.setIfInBounds_toArray, List.set_cons_succ, List.set_cons_zero]
  refine Gs_load 5 18 (fun d _ _ _ _ h => by cases d <;> exact h) (by kernel_rfl) rfl _ _ rfl rfl (some 27) rfl (by kernel_rfl) (by kernel_rfl) (HTof rfl) _ rfl Try.isAgg21 _ (List.Mem.head _) (by kernel_rfl) ?_
  simp only [Act.put, List.setIfInBounds_toArray, List.set_cons_succ, List.set_cons_zero]
  refine Gs_field 6 (fun d _ _ _ _ h => by cases d <;> exact h) (by kernel_rfl) rfl _ _ _ rfl rfl (some 28) rfl (by kernel_rfl) (by kernel_rfl) (HTof rfl) _ _ rfl (fieldAt60_0 _ _) ?_
  simp only [Act.put, List.setIfInBounds_toArray, List.set_cons_succ, List.set_cons_zero]
  refine Gs_load 7 18 (fun d _ _ _ _ h => by cases d <;> exact h) (by kernel_rfl) rfl _ _ rfl rfl (some 29) rfl (by kernel_rfl) (by kernel_rfl) (HTof rfl) _ rfl Try.isAgg22 _ (List.Mem.tail _ (List.Mem.tail _ (List.Mem.head _))) (by kernel_rfl) ?_
  simp only [Act.put, List.setIfInBounds_toArray, List.set_cons_succ, List.set_cons_zero]
  refine Gs_move 9 (fun d _ _ _ _ h => by cases d <;> exact h) (by kernel_rfl) rfl _ rfl rfl (some 31) rfl (by kernel_rfl) (by kernel_rfl) (HTof rfl) (.pointer _) rfl ?_
  simp only [Act.put, List.setIfInBounds_toArray, List.set_cons_succ, List.set_cons_zero]
  refine Gs_nil 10 (fun d _ _ _ _ h => by cases d <;> exact h) (by kernel_rfl) rfl _ rfl rfl (some 32) rfl (by kernel_rfl) (by kernel_rfl) (HTof rfl) _ rfl ?_
  simp only [Act.put, List.setIfInBounds_toArray, List.set_cons_succ, List.set_cons_zero]
  refine Gs_field 11 (fun d _ _ _ _ h => by cases d <;> exact h) (by kernel_rfl) rfl _ _ _ rfl rfl (some 33) rfl (by kernel_rfl) (by kernel_rfl) (HTof rfl) _ _ rfl (fieldAt24_4 _ _) ?_
  simp only [Act.put, List.setIfInBounds_toArray, List.set_cons_succ, List.set_cons_zero]
  refine Gs_load 12 18 (fun d _ _ _ _ h => by cases d <;> exact h) (by kernel_rfl) rfl _ _ rfl rfl (some 34) rfl (by kernel_rfl) (by kernel_rfl) (HTof rfl) _ rfl Try.isAgg21 _ (List.Mem.tail _ (List.Mem.head _)) (by kernel_rfl) ?_
  simp only [Act.put, List.setIfInBounds_toArray, List.set_cons_succ, List.set_cons_zero]
  refine Gs_field 13 (fun d _ _ _ _ h => by cases d <;> exact h) (by kernel_rfl) rfl _ _ _ rfl rfl (some 35) rfl (by kernel_rfl) (by kernel_rfl) (HTof rfl) _ _ rfl (fieldAt60_1 _ _) ?_
  simp only [Act.put, List.setIfInBounds_toArray, List.set_cons_succ, List.set_cons_zero]
  refine Gs_load 14 15 (fun d _ _ _ _ h => by cases d <;> exact h) (by kernel_rfl) rfl _ _ rfl rfl (some 36) rfl (by kernel_rfl) (by kernel_rfl) (HTof rfl) _ rfl Try.isAgg22 _ (List.Mem.tail _ (List.Mem.tail _ (List.Mem.tail _ (List.Mem.head _)))) (by kernel_rfl) ?_
  simp only [Act.put, List.setIfInBounds_toArray, List.set_cons_succ, List.set_cons_zero]
  refine Gs_call' 8 rfl rfl (some 30) rfl (by kernel_rfl) 59 #[.int .i32 t.vx, .int .i8 (tameI i.x)] (by go_simp) (.int .i32 (pushI t.vx (tameI i.x))) (M3.out _) ?_
  simp only [Act.put, List.setIfInBounds_toArray, List.set_cons_succ, List.set_cons_zero]
  refine Gs_call' 15 rfl rfl (some 37) rfl (by kernel_rfl) 59 #[.int .i32 t.vy, .int .i8 (tameI i.y)] (by go_simp) (.int .i32 (pushI t.vy (tameI i.y))) (M4.out _) ?_
  simp only [Act.put, List.setIfInBounds_toArray, List.set_cons_succ, List.set_cons_zero]
  refine Gs_nil 16 (fun d _ _ _ _ h => by cases d <;> exact h) (by kernel_rfl) rfl _ rfl rfl (some 38) rfl (by kernel_rfl) (by kernel_rfl) (HTof rfl) _ rfl ?_
  simp only [Act.put, List.setIfInBounds_toArray, List.set_cons_succ, List.set_cons_zero]
  refine Gs_field 17 (fun d _ _ _ _ h => by cases d <;> exact h) (by kernel_rfl) rfl _ _ _ rfl rfl (some 39) rfl (by kernel_rfl) (by kernel_rfl) (HTof rfl) _ _ rfl (fieldAt24_3 _ _) ?_
  simp only [Act.put, List.setIfInBounds_toArray, List.set_cons_succ, List.set_cons_zero]
  refine Gs_tail' 18 (by kernel_rfl) rfl (by kernel_rfl) rfl ?_
  simp only [List.drop_succ_cons, List.drop_zero]
  generalize hvx : pushI t.vx (tameI i.x) = vx at *
  generalize hvy : pushI t.vy (tameI i.y) = vy at *
  have Hvx := Lib.hid hvx
  have Hvy := Lib.hid hvy
  clear hvx hvy
  have G1 := Lib.hid (gc_set (fr := fr) (d := d) (sl := .slice ad L.length c) k 3 t ⟨t.on, t.x, t.y, vx, t.vy, t.cool, t.score⟩ (.int .i32 vx) Ht.out (by omega) rfl)
  have G2 := Lib.hid (gc_set2 (fr := fr) (d := d) (sl := .slice ad L.length c) k 4 t ⟨t.on, t.x, t.y, vx, t.vy, t.cool, t.score⟩ ⟨t.on, t.x, t.y, vx, vy, t.cool, t.score⟩ (.int .i32 vy) Ht.out (by omega) rfl)
  go_wp2_with (first | (refine wb_put H rfl 1 21 _ _ rfl _ (2 + k * 7 + 3) rfl _ _ rfl (.int .i32 vx) rfl 1 info21 rfl (by rw [gc_size (by first | exact HS.out | (simp only [List.length_set]; exact HS.out))]; omega) rfl _ G1.out ?_; clear H; intro w H) | (refine wb_put H rfl 1 21 _ _ rfl _ (2 + k * 7 + 4) rfl _ _ rfl (.int .i32 vy) rfl 1 info21 rfl (by rw [gc_size (by first | exact HS.out | (simp only [List.length_set]; exact HS.out))]; omega) rfl _ G2.out ?_; clear H; intro w H))
  replace H : Sb Hs w0' w [(b5, inpC (tameI i.x) (tameI i.y) i.b, 24), (g, gameC fr d (S.set k ⟨t.on, t.x, t.y, vx, vy, t.cool, t.score⟩) (.slice ad L.length c), 33)] [(.slice ad L.length c, L)] := H
  clear M3 M4 G1 G2
  have Ht1 := Lib.hid (show (S.set k ⟨t.on, t.x, t.y, vx, vy, t.cool, t.score⟩)[k]? = some ⟨t.on, t.x, t.y, vx, vy, t.cool, t.score⟩ from List.getElem?_set_self (by rw [HS.out]; exact hk))
  have e0 := (H.call ((Below.refl _ w).drew)).holds
  refine Gs_start (T := [((⟨g, 2 + k * 7 + 1, none⟩ : Addr), Value.int .i32 t.x, 22), ((⟨g, 2 + k * 7 + 3, none⟩ : Addr), .int .i32 vx, 22), ((⟨g, 2 + k * 7 + 2, none⟩ : Addr), .int .i32 t.y, 22), ((⟨g, 2 + k * 7 + 4, none⟩ : Addr), .int .i32 vy, 22)]) (n := 26) (by kernel_rfl) rfl ?_ ?_
  · intro t ht _
    simp at ht
    rcases ht with rfl | rfl | rfl | rfl
    · exact (cell_of_row _ _ _ _ _ _ (e0 _ (List.mem_cons_of_mem _ (List.mem_cons_self ..)))).trans (gc_at k 1 _ _ Ht1.out rfl)
    · exact (cell_of_row _ _ _ _ _ _ (e0 _ (List.mem_cons_of_mem _ (List.mem_cons_self ..)))).trans (gc_at k 3 _ _ Ht1.out rfl)
    · exact (cell_of_row _ _ _ _ _ _ (e0 _ (List.mem_cons_of_mem _ (List.mem_cons_self ..)))).trans (gc_at k 2 _ _ Ht1.out rfl)
    · exact (cell_of_row _ _ _ _ _ _ (e0 _ (List.mem_cons_of_mem _ (List.mem_cons_self ..)))).trans (gc_at k 4 _ _ Ht1.out rfl)
  clear e0
  replace H : Sb Hs w0' ({ w with drawn := w.drawn + 1 } : World) _ _ := H.call ((Below.refl _ w).drew)
  generalize ({ w with drawn := w.drawn + 1 } : World) = w at *
  refine Gs_move 0 (fun d _ _ _ _ h => by cases d <;> exact h) (by kernel_rfl) rfl _ rfl rfl (some 42) rfl (by kernel_rfl) (by kernel_rfl) (HTof rfl) (.pointer _) rfl ?_
  simp only [Act.put, List.setIfInBounds_toArray, List.set_cons_succ, List.set_cons_zero]
  refine Gs_move 1 (fun d _ _ _ _ h => by cases d <;> exact h) (by kernel_rfl) rfl _ rfl rfl (some 43) rfl (by kernel_rfl) (by kernel_rfl) (HTof rfl) (.pointer _) rfl ?_
  simp only [Act.put, List.setIfInBounds_toArray, List.set_cons_succ, List.set_cons_zero]
  refine Gs_move 2 (fun d _ _ _ _ h => by cases d <;> exact h) (by kernel_rfl) rfl _ rfl rfl (some 44) rfl (by kernel_rfl) (by kernel_rfl) (HTof rfl) (.pointer _) rfl ?_
  simp only [Act.put, List.setIfInBounds_toArray, List.set_cons_succ, List.set_cons_zero]
  refine Gs_nil 3 (fun d _ _ _ _ h => by cases d <;> exact h) (by kernel_rfl) rfl _ rfl rfl (some 45) rfl (by kernel_rfl) (by kernel_rfl) (HTof rfl) _ rfl ?_
  simp only [Act.put, List.setIfInBounds_toArray, List.set_cons_succ, List.set_cons_zero]
  refine Gs_field 4 (fun d _ _ _ _ h => by cases d <;> exact h) (by kernel_rfl) rfl _ _ _ rfl rfl (some 46) rfl (by kernel_rfl) (by kernel_rfl) (HTof rfl) _ _ rfl (fieldAt24_1 _ _) ?_
  simp only [Act.put, List.setIfInBounds_toArray, List.set_cons_succ, List.set_cons_zero]
  refine Gs_load 5 22 (fun d _ _ _ _ h => by cases d <;> exact h) (by kernel_rfl) rfl _ _ rfl rfl (some 47) rfl (by kernel_rfl) (by kernel_rfl) (HTof rfl) _ rfl Try.isAgg21 _ (List.Mem.head _) (by kernel_rfl) ?_
  simp only [Act.put, List.setIfInBounds_toArray, List.set_cons_succ, List.set_cons_zero]
  refine Gs_move 6 (fun d _ _ _ _ h => by cases d <;> exact h) (by kernel_rfl) rfl _ rfl rfl (some 48) rfl (by kernel_rfl) (by kernel_rfl) (HTof rfl) (.pointer _) rfl ?_
  simp only [Act.put, List.setIfInBounds_toArray, List.set_cons_succ, List.set_cons_zero]
  refine Gs_nil 7 (fun d _ _ _ _ h => by cases d <;> exact h) (by kernel_rfl) rfl _ rfl rfl (some 49) rfl (by kernel_rfl) (by kernel_rfl) (HTof rfl) _ rfl ?_
  simp only [Act.put, List.setIfInBounds_toArray, List.set_cons_succ, List.set_cons_zero]
  refine Gs_field 8 (fun d _ _ _ _ h => by cases d <;> exact h) (by kernel_rfl) rfl _ _ _ rfl rfl (some 50) rfl (by kernel_rfl) (by kernel_rfl) (HTof rfl) _ _ rfl (fieldAt24_3 _ _) ?_
  simp only [Act.put, List.setIfInBounds_toArray, List.set_cons_succ, List.set_cons_zero]
  refine Gs_load 9 22 (fun d _ _ _ _ h => by cases d <;> exact h) (by kernel_rfl) rfl _ _ rfl rfl (some 51) rfl (by kernel_rfl) (by kernel_rfl) (HTof rfl) _ rfl Try.isAgg21 _ (List.Mem.tail _ (List.Mem.head _)) (by kernel_rfl) ?_
  simp only [Act.put, List.setIfInBounds_toArray, List.set_cons_succ, List.set_cons_zero]
  refine Gs_move 11 (fun d _ _ _ _ h => by cases d <;> exact h) (by kernel_rfl) rfl _ rfl rfl (some 53) rfl (by kernel_rfl) (by kernel_rfl) (HTof rfl) (.pointer _) rfl ?_
  simp only [Act.put, List.setIfInBounds_toArray, List.set_cons_succ, List.set_cons_zero]
  refine Gs_nil 12 (fun d _ _ _ _ h => by cases d <;> exact h) (by kernel_rfl) rfl _ rfl rfl (some 54) rfl (by kernel_rfl) (by kernel_rfl) (HTof rfl) _ rfl ?_
  simp only [Act.put, List.setIfInBounds_toArray, List.set_cons_succ, List.set_cons_zero]
  refine Gs_field 13 (fun d _ _ _ _ h => by cases d <;> exact h) (by kernel_rfl) rfl _ _ _ rfl rfl (some 55) rfl (by kernel_rfl) (by kernel_rfl) (HTof rfl) _ _ rfl (fieldAt24_2 _ _) ?_
  simp only [Act.put, List.setIfInBounds_toArray, List.set_cons_succ, List.set_cons_zero]
  refine Gs_load 14 22 (fun d _ _ _ _ h => by cases d <;> exact h) (by kernel_rfl) rfl _ _ rfl rfl (some 56) rfl (by kernel_rfl) (by kernel_rfl) (HTof rfl) _ rfl Try.isAgg21 _ (List.Mem.tail _ (List.Mem.tail _ (List.Mem.head _))) (by kernel_rfl) ?_
  simp only [Act.put, List.setIfInBounds_toArray, List.set_cons_succ, List.set_cons_zero]
  refine Gs_move 15 (fun d _ _ _ _ h => by cases d <;> exact h) (by kernel_rfl) rfl _ rfl rfl (some 57) rfl (by kernel_rfl) (by kernel_rfl) (HTof rfl) (.pointer _) rfl ?_
  simp only [Act.put, List.setIfInBounds_toArray, List.set_cons_succ, List.set_cons_zero]
  refine Gs_nil 16 (fun d _ _ _ _ h => by cases d <;> exact h) (by kernel_rfl) rfl _ rfl rfl (some 58) rfl (by kernel_rfl) (by kernel_rfl) (HTof rfl) _ rfl ?_
  simp only [Act.put, List.setIfInBounds_toArray, List.set_cons_succ, List.set_cons_zero]
  refine Gs_field 17 (fun d _ _ _ _ h => by cases d <;> exact h) (by kernel_rfl) rfl _ _ _ rfl rfl (some 59) rfl (by kernel_rfl) (by kernel_rfl) (HTof rfl) _ _ rfl (fieldAt24_4 _ _) ?_
  simp only [Act.put, List.setIfInBounds_toArray, List.set_cons_succ, List.set_cons_zero]
  refine Gs_load 18 22 (fun d _ _ _ _ h => by cases d <;> exact h) (by kernel_rfl) rfl _ _ rfl rfl (some 60) rfl (by kernel_rfl) (by kernel_rfl) (HTof rfl) _ rfl Try.isAgg21 _ (List.Mem.tail _ (List.Mem.tail _ (List.Mem.tail _ (List.Mem.head _)))) (by kernel_rfl) ?_
  simp only [Act.put, List.setIfInBounds_toArray, List.set_cons_succ, List.set_cons_zero]
  refine Gs_call' 10 rfl rfl (some 52) rfl (by kernel_rfl) 60 #[.int .i32 t.x, .int .i32 vx] (by go_simp) (.int .i32 (mv t.x vx)) (M5.out _) ?_
  simp only [Act.put, List.setIfInBounds_toArray, List.set_cons_succ, List.set_cons_zero]
  refine Gs_call' 19 rfl rfl (some 61) rfl (by kernel_rfl) 60 #[.int .i32 t.y, .int .i32 vy] (by go_simp) (.int .i32 (mv t.y vy)) (M6.out _) ?_
  simp only [Act.put, List.setIfInBounds_toArray, List.set_cons_succ, List.set_cons_zero]
  refine Gs_nil 20 (fun d _ _ _ _ h => by cases d <;> exact h) (by kernel_rfl) rfl _ rfl rfl (some 62) rfl (by kernel_rfl) (by kernel_rfl) (HTof rfl) _ rfl ?_
  simp only [Act.put, List.setIfInBounds_toArray, List.set_cons_succ, List.set_cons_zero]
  refine Gs_field 21 (fun d _ _ _ _ h => by cases d <;> exact h) (by kernel_rfl) rfl _ _ _ rfl rfl (some 63) rfl (by kernel_rfl) (by kernel_rfl) (HTof rfl) _ _ rfl (fieldAt24_1 _ _) ?_
  simp only [Act.put, List.setIfInBounds_toArray, List.set_cons_succ, List.set_cons_zero]
  refine Gs_tail' 22 (by kernel_rfl) rfl (by kernel_rfl) rfl ?_
  simp only [List.drop_succ_cons, List.drop_zero]
  generalize hx : mv t.x vx = x at *
  generalize hy : mv t.y vy = y at *
  have Hx := Lib.hid hx
  have Hy := Lib.hid hy
  clear hx hy
  have G1 := Lib.hid (gc_set2 (fr := fr) (d := d) (sl := .slice ad L.length c) k 1 t ⟨t.on, t.x, t.y, vx, vy, t.cool, t.score⟩ ⟨t.on, x, t.y, vx, vy, t.cool, t.score⟩ (.int .i32 x) Ht.out (by omega) rfl)
  have G2 := Lib.hid (gc_set2 (fr := fr) (d := d) (sl := .slice ad L.length c) k 2 t ⟨t.on, x, t.y, vx, vy, t.cool, t.score⟩ ⟨t.on, x, y, vx, vy, t.cool, t.score⟩ (.int .i32 y) Ht.out (by omega) rfl)
  have hk8 : k < S.length := by rw [HS.out]; exact hk
  have HC := Lib.hid (gc_at (fr := fr) (d := d) (S := S.set k ⟨t.on, x, y, vx, vy, t.cool, t.score⟩) (sl := .slice ad L.length c) k 5 ⟨t.on, x, y, vx, vy, t.cool, t.score⟩ (.int .i64 t.cool) (List.getElem?_set_self hk8) rfl)
  have Hs0 := Lib.hid (gc_shots (fr := fr) (d := d) (S := S.set k ⟨t.on, x, y, vx, vy, t.cool, t.score⟩) (sl := .slice ad L.length c) (by rw [List.length_set]; exact HS.out))
  have HPT : Hid (pushT t i = ⟨t.on, x, y, vx, vy, t.cool, t.score⟩) := Lib.hid (by unfold pushT; rw [Hvx.out, Hvy.out, Hx.out, Hy.out])
  clear M5 M6 Ht1 hk8
  have Hk := Lib.hid hk
  by_cases hc : 0 < t.cool
  · have G3 := Lib.hid (gc_set2 (fr := fr) (d := d) (sl := .slice ad L.length c) k 5 t ⟨t.on, x, y, vx, vy, t.cool, t.score⟩ ⟨t.on, x, y, vx, vy, t.cool - 1, t.score⟩ (.int .i64 (t.cool - 1)) Ht.out (by omega) rfl)
    go_wp2_with (first | (refine wb_put H rfl 1 21 _ _ rfl _ (2 + k * 7 + 1) rfl _ _ rfl (.int .i32 x) rfl 1 info21 rfl (by rw [gc_size (by first | exact HS.out | (simp only [List.length_set]; exact HS.out))]; omega) rfl _ G1.out ?_; clear H; intro w H) | (refine wb_put H rfl 1 21 _ _ rfl _ (2 + k * 7 + 2) rfl _ _ rfl (.int .i32 y) rfl 1 info21 rfl (by rw [gc_size (by first | exact HS.out | (simp only [List.length_set]; exact HS.out))]; omega) rfl _ G2.out ?_; clear H; intro w H) | (refine wb_cell H rfl 1 3 _ rfl _ (2 + k * 7 + 5) rfl _ _ rfl Try.isAgg3 (.int .i64 t.cool) HC.out ?_) | (refine wb_put H rfl 1 3 _ _ rfl _ (2 + k * 7 + 5) rfl _ _ rfl (.int .i64 (t.cool - 1)) rfl 1 info3 rfl (by rw [gc_size (by first | exact HS.out | (simp only [List.length_set]; exact HS.out))]; omega) rfl _ G3.out ?_; clear H; intro w H))
    go_end0
    have e : sailF k t i L = ⟨⟨t.on, x, y, vx, vy, t.cool - 1, t.score⟩, L⟩ := by unfold sailF; rw [if_pos hc, HPT.out]
    refine ⟨rfl, .slice ad L.length c, ?_⟩
    rw [e]
    exact H.tail
  · have hbit : bits .and .u8 i.b 1 = i.b % 2 := bits_mask .u8 8 (by decide) wraps_u8 1 (by decide) i.b (by have := Hi.out.b0; omega) (by have := Hi.out.b1; omega)
    by_cases hb : i.b % 2 = 1
    · have hq : (i.b % 2 == 1) = true := beq_iff_eq.2 hb
      have Hb := Lib.hid hb
      clear hb
      by_cases hl : L.length < 32
      · have e : sailF k t i L = ⟨⟨t.on, x, y, vx, vy, 10, t.score⟩, L ++ [⟨k, x, y, aimX (tameI i.x) (tameI i.y), sideI (tameI i.y), 24⟩]⟩ := by
          unfold sailF shoots
          rw [if_neg hc, if_pos (by rw [decide_eq_false hc, hq, decide_eq_true hl]; rfl), HPT.out]
          rfl
        have E := Lib.hid e
        clear e
        go_wp2_with (first | (refine wb_put H rfl 1 21 _ _ rfl _ (2 + k * 7 + 1) rfl _ _ rfl (.int .i32 x) rfl 1 info21 rfl (by rw [gc_size (by first | exact HS.out | (simp only [List.length_set]; exact HS.out))]; omega) rfl _ G1.out ?_; clear H; intro w H) | (refine wb_put H rfl 1 21 _ _ rfl _ (2 + k * 7 + 2) rfl _ _ rfl (.int .i32 y) rfl 1 info21 rfl (by rw [gc_size (by first | exact HS.out | (simp only [List.length_set]; exact HS.out))]; omega) rfl _ G2.out ?_; clear H; intro w H) | (refine wb_cell H rfl 1 3 _ rfl _ (2 + k * 7 + 5) rfl _ _ rfl Try.isAgg3 (.int .i64 t.cool) HC.out ?_) | (refine wb_cell H rfl 0 5 _ rfl _ (2) rfl _ _ rfl Try.isAgg5 (.int .u8 i.b) rfl ?_) | (refine wb_cell H rfl 1 31 _ rfl _ (58) rfl _ _ rfl Try.isAgg31 (.slice ad L.length c) Hs0.out ?_) | (refine wb_whole H rfl 0 24 _ rfl _ rfl (inpC (tameI i.x) (tameI i.y) i.b) rfl _ Try.underlying24 rfl 3 info60s rfl ?_))
        replace H : Sb Hs w0' w [(b5, inpC (tameI i.x) (tameI i.y) i.b, 24), (g, gameC fr d (S.set k ⟨t.on, x, y, vx, vy, t.cool, t.score⟩) (.slice ad L.length c), 33)] [(.slice ad L.length c, L)] := H
        refine (aim_all _ _ _ _).mono ?_; rintro e w' ⟨rfl, hb⟩
        replace H := H.call hb
        clear hb
        generalize hax : aimX (tameI i.x) (tameI i.y) = ax at *
        generalize hay : sideI (tameI i.y) = ay at *
        clear hax hay
        go_wp2_with fail
        replace H : Sb Hs w0' w' _ _ := H
        generalize w' = w at *
        have Ht1 := Lib.hid (show (S.set k ⟨t.on, x, y, vx, vy, t.cool, t.score⟩)[k]? = some ⟨t.on, x, y, vx, vy, t.cool, t.score⟩ from List.getElem?_set_self (by rw [HS.out]; exact hk))
        have e0 := (H.call ((Below.refl _ w).drew)).holds
        refine Gs_start (T := [((⟨g, 58, none⟩ : Addr), Value.slice ad L.length c, 18), (⟨g, 2 + k * 7 + 1, none⟩, .int .i32 x, 16), (⟨g, 2 + k * 7 + 2, none⟩, .int .i32 y, 16)]) (n := 22) (by kernel_rfl) rfl ?_ ?_
        · intro t ht _
          simp at ht
          rcases ht with rfl | rfl | rfl
          · exact (cell_of_row _ _ _ _ _ _ (e0 _ (List.mem_cons_of_mem _ (List.mem_cons_self ..)))).trans (Hs0.out)
          · exact (cell_of_row _ _ _ _ _ _ (e0 _ (List.mem_cons_of_mem _ (List.mem_cons_self ..)))).trans (gc_at k 1 _ _ Ht1.out rfl)
          · exact (cell_of_row _ _ _ _ _ _ (e0 _ (List.mem_cons_of_mem _ (List.mem_cons_self ..)))).trans (gc_at k 2 _ _ Ht1.out rfl)
        clear e0
        replace H : Sb Hs w0' ({ w with drawn := w.drawn + 1 } : World) _ _ := H.call ((Below.refl _ w).drew)
        generalize ({ w with drawn := w.drawn + 1 } : World) = w at *
        refine Gs_move 0 (fun d _ _ _ _ h => by cases d <;> exact h) (by kernel_rfl) rfl _ rfl rfl (some 97) rfl (by kernel_rfl) (by kernel_rfl) (HTof rfl) (.pointer _) rfl ?_
        simp only [Act.put, List.setIfInBounds_toArray, List.set_cons_succ, List.set_cons_zero]
        refine Gs_move 1 (fun d _ _ _ _ h => by cases d <;> exact h) (by kernel_rfl) rfl _ rfl rfl (some 98) rfl (by kernel_rfl) (by kernel_rfl) (HTof rfl) (.pointer _) rfl ?_
        simp only [Act.put, List.setIfInBounds_toArray, List.set_cons_succ, List.set_cons_zero]
        refine Gs_nil 2 (fun d _ _ _ _ h => by cases d <;> exact h) (by kernel_rfl) rfl _ rfl rfl (some 99) rfl (by kernel_rfl) (by kernel_rfl) (HTof rfl) _ rfl ?_
        simp only [Act.put, List.setIfInBounds_toArray, List.set_cons_succ, List.set_cons_zero]
        refine Gs_field 3 (fun d _ _ _ _ h => by cases d <;> exact h) (by kernel_rfl) rfl _ _ _ rfl rfl (some 100) rfl (by kernel_rfl) (by kernel_rfl) (HTof rfl) _ _ rfl (fieldAt28_3 _ _) ?_
        simp only [Act.put, List.setIfInBounds_toArray, List.set_cons_succ, List.set_cons_zero]
        refine Gs_load 4 18 (fun d _ _ _ _ h => by cases d <;> exact h) (by kernel_rfl) rfl _ _ rfl rfl (some 101) rfl (by kernel_rfl) (by kernel_rfl) (HTof rfl) _ rfl Try.isAgg31 _ (List.Mem.head _) (by kernel_rfl) ?_
        simp only [Act.put, List.setIfInBounds_toArray, List.set_cons_succ, List.set_cons_zero]
        refine Gs_move 5 (fun d _ _ _ _ h => by cases d <;> exact h) (by kernel_rfl) rfl _ rfl rfl (some 102) rfl (by kernel_rfl) (by kernel_rfl) (HTof rfl) (.int _ _) rfl ?_
        simp only [Act.put, List.setIfInBounds_toArray, List.set_cons_succ, List.set_cons_zero]
        refine Gs_move 6 (fun d _ _ _ _ h => by cases d <;> exact h) (by kernel_rfl) rfl _ rfl rfl (some 103) rfl (by kernel_rfl) (by kernel_rfl) (HTof rfl) (.pointer _) rfl ?_
        simp only [Act.put, List.setIfInBounds_toArray, List.set_cons_succ, List.set_cons_zero]
        refine Gs_nil 7 (fun d _ _ _ _ h => by cases d <;> exact h) (by kernel_rfl) rfl _ rfl rfl (some 104) rfl (by kernel_rfl) (by kernel_rfl) (HTof rfl) _ rfl ?_
        simp only [Act.put, List.setIfInBounds_toArray, List.set_cons_succ, List.set_cons_zero]
        refine Gs_field 8 (fun d _ _ _ _ h => by cases d <;> exact h) (by kernel_rfl) rfl _ _ _ rfl rfl (some 105) rfl (by kernel_rfl) (by kernel_rfl) (HTof rfl) _ _ rfl (fieldAt24_1 _ _) ?_
        simp only [Act.put, List.setIfInBounds_toArray, List.set_cons_succ, List.set_cons_zero]
        refine Gs_load 9 16 (fun d _ _ _ _ h => by cases d <;> exact h) (by kernel_rfl) rfl _ _ rfl rfl (some 106) rfl (by kernel_rfl) (by kernel_rfl) (HTof rfl) _ rfl Try.isAgg21 _ (List.Mem.tail _ (List.Mem.head _)) (by kernel_rfl) ?_
        simp only [Act.put, List.setIfInBounds_toArray, List.set_cons_succ, List.set_cons_zero]
        refine Gs_move 10 (fun d _ _ _ _ h => by cases d <;> exact h) (by kernel_rfl) rfl _ rfl rfl (some 107) rfl (by kernel_rfl) (by kernel_rfl) (HTof rfl) (.pointer _) rfl ?_
        simp only [Act.put, List.setIfInBounds_toArray, List.set_cons_succ, List.set_cons_zero]
        refine Gs_nil 11 (fun d _ _ _ _ h => by cases d <;> exact h) (by kernel_rfl) rfl _ rfl rfl (some 108) rfl (by kernel_rfl) (by kernel_rfl) (HTof rfl) _ rfl ?_
        simp only [Act.put, List.setIfInBounds_toArray, List.set_cons_succ, List.set_cons_zero]
        refine Gs_field 12 (fun d _ _ _ _ h => by cases d <;> exact h) (by kernel_rfl) rfl _ _ _ rfl rfl (some 109) rfl (by kernel_rfl) (by kernel_rfl) (HTof rfl) _ _ rfl (fieldAt24_2 _ _) ?_
        simp only [Act.put, List.setIfInBounds_toArray, List.set_cons_succ, List.set_cons_zero]
        refine Gs_load 13 16 (fun d _ _ _ _ h => by cases d <;> exact h) (by kernel_rfl) rfl _ _ rfl rfl (some 110) rfl (by kernel_rfl) (by kernel_rfl) (HTof rfl) _ rfl Try.isAgg21 _ (List.Mem.tail _ (List.Mem.tail _ (List.Mem.head _))) (by kernel_rfl) ?_
        simp only [Act.put, List.setIfInBounds_toArray, List.set_cons_succ, List.set_cons_zero]
        refine Gs_move 14 (fun d _ _ _ _ h => by cases d <;> exact h) (by kernel_rfl) rfl _ rfl rfl (some 111) rfl (by kernel_rfl) (by kernel_rfl) (HTof rfl) (.int _ _) rfl ?_
        simp only [Act.put, List.setIfInBounds_toArray, List.set_cons_succ, List.set_cons_zero]
        refine Gs_move 15 (fun d _ _ _ _ h => by cases d <;> exact h) (by kernel_rfl) rfl _ rfl rfl (some 112) rfl (by kernel_rfl) (by kernel_rfl) (HTof rfl) (.int _ _) rfl ?_
        simp only [Act.put, List.setIfInBounds_toArray, List.set_cons_succ, List.set_cons_zero]
        refine Gs_bin' 16 rfl rfl (some 113) rfl (by kernel_rfl) (.agg #[.int .i64 k, .int .i32 x, .int .i32 y, .int .i32 ax, .int .i32 ay, .int .i64 24]) (fun w => by go_simp) ?_
        simp only [Act.put, List.setIfInBounds_toArray, List.set_cons_succ, List.set_cons_zero]
        refine Gs_alloc 17 rfl rfl (some 114) rfl (by kernel_rfl) (.slice (some ⟨w.heap.size, 0, none⟩) 1 1) (.cells #[.int .i64 k, .int .i32 x, .int .i32 y, .int .i32 ax, .int .i32 ay, .int .i64 24] 75) (by go_simp) ?_
        simp only [Act.put, List.setIfInBounds_toArray, List.set_cons_succ, List.set_cons_zero]
        refine Gs_tail' 18 (by kernel_rfl) rfl (by kernel_rfl) rfl ?_
        simp only [List.drop_succ_cons, List.drop_zero]
        have HN := H.new #[.int .i64 k, .int .i32 x, .int .i32 y, .int .i32 ax, .int .i32 ay, .int .i64 24] 75
        have Hrow2 := Lib.hid (HN.rows _ (List.mem_cons_self ..))
        have Hnews : Hid (∀ j u, (shotL ⟨k, x, y, ax, ay, 24⟩)[j]? = some u → (w.alloc (.cells #[.int .i64 k, .int .i32 x, .int .i32 y, .int .i32 ax, .int .i32 ay, .int .i64 24] 75)).cell? ((⟨w.heap.size, 0, none⟩ : Addr).add j) = some u) := Lib.hid (fun j u hu => by
          have a1 : (⟨w.heap.size, 0, none⟩ : Addr).add j = ⟨w.heap.size, j, none⟩ := by unfold Addr.add; split <;> simp_all
          rw [a1, cell_new]
          show (shotL ⟨k, x, y, ax, ay, 24⟩).toArray[j]? = some u
          rw [List.getElem?_toArray]
          exact hu)
        have Hone : Hid (∀ u ∈ shotL ⟨k, x, y, ax, ay, 24⟩, u.oneCell' = true) := Lib.hid (fun u hu => cellsL_one [⟨k, x, y, ax, ay, 24⟩] u (by simpa [cellsL] using hu))
        have hmx : L.length + 1 ≤ maxLen := by have := HL.out; unfold maxLen; omega
        have hbt : (L.length + 1) * 32 ≤ 140737488355328 := by have := HL.out; omega
        have Hsz1 := Lib.hid (show (gameC fr d (S.set k ⟨t.on, x, y, vx, vy, t.cool, t.score⟩) (.slice ad L.length c)).size = 59 from gc_size (by rw [List.length_set]; exact HS.out))
        have HNh := Lib.hid HN
        have HS8 := Lib.hid (show (S.set k ⟨t.on, x, y, vx, vy, t.cool, t.score⟩).length = 8 by rw [List.length_set]; exact HS.out)
        obtain ⟨i0, hi, hz0, hz1, hz2⟩ := info_shot
        clear HN H
        go_wp2_with (first | (at_builtin; refine wpList_append_own_at _ rfl _ _ 31 rfl 0 75 i0 (.agg #[.int .i64 0, .int .i32 0, .int .i32 0, .int .i32 0, .int .i32 0, .int .i64 0]) 6 32 Try.underlying31 hi hz0 hz1 hz2 rfl (by decide) _ L.length (cellsL L) rfl Hrow2.out ⟨w.heap.size, 0, none⟩ 1 1 (shotL ⟨k, x, y, ax, ay, 24⟩) rfl rfl Hnews.out Hone.out hmx hbt (Nat.zero_le _) ?_; intro v' w9 hown' hgrow hnil' hblk; have hon9 := own_snoc hown'; have H9 := HNh.out.append 0 (.slice ad L.length c) v' L (L ++ [⟨k, x, y, ax, ay, 24⟩]) rfl hon9 hgrow hblk; obtain ⟨ad9, c9, hv9⟩ := own_form hon9; rw [show (L ++ [(⟨k, x, y, ax, ay, 24⟩ : Sht)]).length = L.length + 1 by simp] at hv9; subst hv9; clear hown' hgrow hnil' hblk hon9; have G3 := Lib.hid (gc_set2 (fr := fr) (d := d) (sl := .slice ad9 (L.length + 1) c9) k 5 t ⟨t.on, x, y, vx, vy, t.cool, t.score⟩ ⟨t.on, x, y, vx, vy, 10, t.score⟩ (.int .i64 10) Ht.out (by omega) rfl)) | (refine wb_put H9 rfl 2 31 _ _ rfl _ 58 rfl _ _ rfl (.slice ad9 (L.length + 1) c9) rfl 1 info26 rfl (by rw [Hsz1.out]; omega) rfl _ (gc_setShots HS8.out _) ?_; clear H9; intro w H9) | (refine wb_put H9 rfl 2 3 _ _ rfl _ (2 + k * 7 + 5) rfl _ _ rfl (.int .i64 10) rfl 1 info3 rfl (by rw [gc_size (by first | exact HS.out | (simp only [List.length_set]; exact HS.out))]; omega) rfl _ G3.out ?_; clear H9; intro w H9))
        go_end0
        refine ⟨rfl, .slice ad9 (L.length + 1) c9, ?_⟩
        rw [E.out]
        exact H9.tail.tail
      · have e : sailF k t i L = ⟨⟨t.on, x, y, vx, vy, t.cool, t.score⟩, L⟩ := by
          unfold sailF shoots
          rw [if_neg hc, if_neg (by rw [decide_eq_false hl]; simp), HPT.out]
        have E := Lib.hid e
        clear e
        go_wp2_with (first | (refine wb_put H rfl 1 21 _ _ rfl _ (2 + k * 7 + 1) rfl _ _ rfl (.int .i32 x) rfl 1 info21 rfl (by rw [gc_size (by first | exact HS.out | (simp only [List.length_set]; exact HS.out))]; omega) rfl _ G1.out ?_; clear H; intro w H) | (refine wb_put H rfl 1 21 _ _ rfl _ (2 + k * 7 + 2) rfl _ _ rfl (.int .i32 y) rfl 1 info21 rfl (by rw [gc_size (by first | exact HS.out | (simp only [List.length_set]; exact HS.out))]; omega) rfl _ G2.out ?_; clear H; intro w H) | (refine wb_cell H rfl 1 3 _ rfl _ (2 + k * 7 + 5) rfl _ _ rfl Try.isAgg3 (.int .i64 t.cool) HC.out ?_) | (refine wb_cell H rfl 0 5 _ rfl _ (2) rfl _ _ rfl Try.isAgg5 (.int .u8 i.b) rfl ?_) | (refine wb_cell H rfl 1 31 _ rfl _ (58) rfl _ _ rfl Try.isAgg31 (.slice ad L.length c) Hs0.out ?_))
        go_end0
        refine ⟨rfl, .slice ad L.length c, ?_⟩
        rw [E.out]
        exact H.tail
    · have hq : (i.b % 2 == 1) = false := beq_eq_false_iff_ne.2 hb
      have e : sailF k t i L = ⟨⟨t.on, x, y, vx, vy, t.cool, t.score⟩, L⟩ := by
        unfold sailF shoots
        rw [if_neg hc, if_neg (by rw [hq]; simp), HPT.out]
      have E := Lib.hid e
      clear e hb
      go_wp2_with (first | (refine wb_put H rfl 1 21 _ _ rfl _ (2 + k * 7 + 1) rfl _ _ rfl (.int .i32 x) rfl 1 info21 rfl (by rw [gc_size (by first | exact HS.out | (simp only [List.length_set]; exact HS.out))]; omega) rfl _ G1.out ?_; clear H; intro w H) | (refine wb_put H rfl 1 21 _ _ rfl _ (2 + k * 7 + 2) rfl _ _ rfl (.int .i32 y) rfl 1 info21 rfl (by rw [gc_size (by first | exact HS.out | (simp only [List.length_set]; exact HS.out))]; omega) rfl _ G2.out ?_; clear H; intro w H) | (refine wb_cell H rfl 1 3 _ rfl _ (2 + k * 7 + 5) rfl _ _ rfl Try.isAgg3 (.int .i64 t.cool) HC.out ?_) | (refine wb_cell H rfl 0 5 _ rfl _ (2) rfl _ _ rfl Try.isAgg5 (.int .u8 i.b) rfl ?_) | (refine wb_cell H rfl 1 31 _ rfl _ (58) rfl _ _ rfl Try.isAgg31 (.slice ad L.length c) Hs0.out ?_))
      go_end0
      refine ⟨rfl, .slice ad L.length c, ?_⟩
      rw [E.out]
      exact H.tail
end Go.Proofs.Ytdopfonebpklkaa.game
