/- The reference's Put: a state's bytes, as a text (printed by mkrp.py). -/
import Derived.Test.YtijnfeigoggaeaaKn
import Derived.Test.YtijnfeigoggaeaaRy
import Derived.Test.YtijnfeigoggaeaaPf
import Derived.Test.YtijnfeigoggaeaaRu
import Derived.Test.YtijnfeigoggaeaaRt
import Derived.Laws.Concat
namespace Go.Proofs.Ytijnfeigoggaeaa.game
open Go Go.ChangeShapes Go.WideShapes Go.ChangeAt Go.RowKit
set_option maxRecDepth 100000

theorem fK35_0 (b o : Nat) (w : World) : (Instr.fieldAt 35 (.pointer (some ⟨b, o, none⟩)) 0).run Try.prog w = .ok (.pointer (some ⟨b, o, none⟩)) w := by go_simp
theorem fK35_1 (b o : Nat) (w : World) : (Instr.fieldAt 35 (.pointer (some ⟨b, o, none⟩)) 1).run Try.prog w = .ok (.pointer (some ⟨b, o + 59, none⟩)) w := by go_simp
theorem fK28_0 (b o : Nat) (w : World) : (Instr.fieldAt 28 (.pointer (some ⟨b, o, none⟩)) 0).run Try.prog w = .ok (.pointer (some ⟨b, o, none⟩)) w := by go_simp
theorem fK28_1 (b o : Nat) (w : World) : (Instr.fieldAt 28 (.pointer (some ⟨b, o, none⟩)) 1).run Try.prog w = .ok (.pointer (some ⟨b, o + 1, none⟩)) w := by go_simp
theorem fK24_0 (b o : Nat) (w : World) : (Instr.fieldAt 24 (.pointer (some ⟨b, o, none⟩)) 0).run Try.prog w = .ok (.pointer (some ⟨b, o, none⟩)) w := by go_simp
theorem fK24_1 (b o : Nat) (w : World) : (Instr.fieldAt 24 (.pointer (some ⟨b, o, none⟩)) 1).run Try.prog w = .ok (.pointer (some ⟨b, o + 1, none⟩)) w := by go_simp
theorem fK24_2 (b o : Nat) (w : World) : (Instr.fieldAt 24 (.pointer (some ⟨b, o, none⟩)) 2).run Try.prog w = .ok (.pointer (some ⟨b, o + 2, none⟩)) w := by go_simp
theorem fK24_3 (b o : Nat) (w : World) : (Instr.fieldAt 24 (.pointer (some ⟨b, o, none⟩)) 3).run Try.prog w = .ok (.pointer (some ⟨b, o + 3, none⟩)) w := by go_simp
theorem fK24_4 (b o : Nat) (w : World) : (Instr.fieldAt 24 (.pointer (some ⟨b, o, none⟩)) 4).run Try.prog w = .ok (.pointer (some ⟨b, o + 4, none⟩)) w := by go_simp
theorem fK24_5 (b o : Nat) (w : World) : (Instr.fieldAt 24 (.pointer (some ⟨b, o, none⟩)) 5).run Try.prog w = .ok (.pointer (some ⟨b, o + 5, none⟩)) w := by go_simp
theorem fK24_6 (b o : Nat) (w : World) : (Instr.fieldAt 24 (.pointer (some ⟨b, o, none⟩)) 6).run Try.prog w = .ok (.pointer (some ⟨b, o + 6, none⟩)) w := by go_simp
theorem fK79_0 (b o : Nat) (w : World) : (Instr.fieldAt 79 (.pointer (some ⟨b, o, none⟩)) 0).run Try.prog w = .ok (.pointer (some ⟨b, o, none⟩)) w := by go_simp
theorem fK79_1 (b o : Nat) (w : World) : (Instr.fieldAt 79 (.pointer (some ⟨b, o, none⟩)) 1).run Try.prog w = .ok (.pointer (some ⟨b, o + 1, none⟩)) w := by go_simp
theorem fK79_2 (b o : Nat) (w : World) : (Instr.fieldAt 79 (.pointer (some ⟨b, o, none⟩)) 2).run Try.prog w = .ok (.pointer (some ⟨b, o + 2, none⟩)) w := by go_simp
theorem fK79_3 (b o : Nat) (w : World) : (Instr.fieldAt 79 (.pointer (some ⟨b, o, none⟩)) 3).run Try.prog w = .ok (.pointer (some ⟨b, o + 3, none⟩)) w := by go_simp
theorem fK79_4 (b o : Nat) (w : World) : (Instr.fieldAt 79 (.pointer (some ⟨b, o, none⟩)) 4).run Try.prog w = .ok (.pointer (some ⟨b, o + 4, none⟩)) w := by go_simp
theorem fK79_5 (b o : Nat) (w : World) : (Instr.fieldAt 79 (.pointer (some ⟨b, o, none⟩)) 5).run Try.prog w = .ok (.pointer (some ⟨b, o + 5, none⟩)) w := by go_simp
theorem fK33_0 (b o : Nat) (w : World) : (Instr.fieldAt 33 (.pointer (some ⟨b, o, none⟩)) 0).run Try.prog w = .ok (.pointer (some ⟨b, o, none⟩)) w := by go_simp
theorem fK33_1 (b o : Nat) (w : World) : (Instr.fieldAt 33 (.pointer (some ⟨b, o, none⟩)) 1).run Try.prog w = .ok (.pointer (some ⟨b, o + 1, none⟩)) w := by go_simp
theorem fK30_0 (b o : Nat) (w : World) : (Instr.fieldAt 30 (.pointer (some ⟨b, o, none⟩)) 0).run Try.prog w = .ok (.pointer (some ⟨b, o, none⟩)) w := by go_simp
theorem fK30_1 (b o : Nat) (w : World) : (Instr.fieldAt 30 (.pointer (some ⟨b, o, none⟩)) 1).run Try.prog w = .ok (.pointer (some ⟨b, o + 1, none⟩)) w := by go_simp
theorem strB_append (a b : List UInt8) : strB a ++ strB b = strB (a ++ b) := by
  apply ByteArray.ext
  simp [strB, ByteArray.data_append]
theorem ex_add {ev : Operand → Value} {o : Oper} (t t2 : TypeId) (x y : Operand) (ho : o.op = .binOp .add t x y t2) (a b : List UInt8) (hx : ev x = .string (strB a)) (hy : ev y = .string (strB b)) (ha : a.length ≤ 5000) (hb : b.length ≤ 5000) (w : World) :
    (execOp ev o).run Try.prog w = .ok (.value (.string (strB (a ++ b)))) w := by
  have h := run_string_add w (strB a) (strB b) (P := Try.prog) (by show ((a.length : Nat) : Int) ≤ _; omega) (by show ((b.length : Nat) : Int) ≤ _; omega)
  rw [strB_append] at h
  unfold execOp
  rw [ho]
  simp only [hx, hy]
  go_simp
theorem u64_n (n : Nat) (h : n < 18446744073709551616) : IntKind.u64.wrap (n : Int) = (n : Int) := by
  simp [IntKind.wrap, IntKind.bits, IntKind.signed]
  omega
theorem i64_pred (n : Nat) (h : n < 1000000) : IntKind.i64.wrap (n : Int) = (n : Int) := by
  simp [IntKind.wrap, IntKind.bits, IntKind.signed]
  omega
theorem ln_num (k n : Nat) : (numB k n).length ≤ k := by rw [length_numB]; exact Nat.le_refl _
theorem ln_add {a b : List UInt8} {m n : Nat} (ha : a.length ≤ m) (hb : b.length ≤ n) : (a ++ b).length ≤ m + n := by
  rw [List.length_append]
  exact Nat.add_le_add ha hb
theorem rnum_s (N kk : Int) (n k : Nat) (w0 : World) (hN : N = (n : Int)) (hkk : kk = (k : Int)) (hk : k ≤ 8) :
    Calls Try.prog 51 #[.int .u64 N, .int .i64 kk] w0 fun e w' => e = .returned (.string (strB (numB k n))) ∧ Below w0.heap.size w0 w' := by
  subst hN hkk
  exact rnumB n k w0 hk

section
variable {ops : Array Oper} {rest : List Oper} {op : Oper} {a : Act} {Q : Exit → Act → World → Prop} {w : World}
theorem wl_add (t t2 : TypeId) (x y : Operand) (ho : op.op = .binOp .add t x y t2) (hw : Region.wanted op (yielded ops a.tmps) = true) (A B : List UInt8) (hx : a.eval x = .string (strB A)) (hy : a.eval y = .string (strB B)) (hA : A.length ≤ 5000) (hB : B.length ≤ 5000)
    (h : wpList Try.prog ops Q rest (a.put op.dst (.string (strB (A ++ B)))) w) : wpList Try.prog ops Q (op :: rest) a w := by
  refine BigFrame.wpList_want hw fun _ hK => ?_
  unfold Oper.wp
  rw [ex_add t t2 x y ho A B hx hy hA hB w]
  exact hK _ _ h
end

set_option maxHeartbeats 8000000 in
theorem rput_any (s : Ste) (sl : Value) (w0 : World) (hg : s.g.wf) (t8 : s.T.length = 8) (hin : ShotsW w0 sl s.g.L) (hm : mayS s = true) :
    Calls Try.prog 18 #[.agg (stateC s sl)] w0 fun e w' => e = .returned (.string (strB (img s))) ∧ Below w0.heap.size w0 w' := by
  have hfit := mayS_fits hg t8 hm
  have hfit1 := hfit.ships
  have hfit2 := hfit.shots
  have hfit3 := hfit.seats
  obtain ⟨ad, c, rfl⟩ := hin.form
  have H := Sb.start w0
  have HI := Lib.hid hin
  have H8 := Lib.hid hg.s8
  have T8 := Lib.hid t8
  have HS := Lib.hid (fun j v h => sc_ships (s := s) (sl := .slice ad s.g.L.length c) j v h)
  have H0 := Lib.hid (sc_fr (s := s) (sl := .slice ad s.g.L.length c))
  have H1 := Lib.hid (sc_d (s := s) (sl := .slice ad s.g.L.length c))
  have H58 := Lib.hid (sc_shots (s := s) (sl := .slice ad s.g.L.length c) hg.s8)
  have H59 := Lib.hid (sc_ver (s := s) (sl := .slice ad s.g.L.length c) hg.s8)
  have HQ := Lib.hid (fun j v h => sc_seats (s := s) (sl := .slice ad s.g.L.length c) hg.s8 j v h)
  have hgok : s.g.ok := (Gme.may_ok hg.s8).1 (by unfold mayS at hm; simp only [Bool.and_eq_true] at hm; exact hm.1.1)
  have hLn := hgok.most
  have F1 := Lib.hid hfit1
  have F2 := Lib.hid hfit2
  have F3 := Lib.hid hfit3
  obtain ⟨f0, f1, d0, d1, v0, v1⟩ : 0 ≤ s.g.fr ∧ s.g.fr < 4294967296 ∧ 0 ≤ s.g.d ∧ s.g.d < 18446744073709551616 ∧ 0 ≤ s.ver ∧ s.ver < 4294967296 := ⟨hfit.f0, hfit.f1, hfit.d0, hfit.d1, hfit.v0, hfit.v1⟩
  clear hfit hg t8 hin hm hgok hfit1 hfit2 hfit3
  unfold img
  generalize stateC s (.slice ad s.g.L.length c) = cs at *
  obtain ⟨⟨fr, d, S, L⟩, ver, T⟩ := s
  dsimp only at *
  obtain ⟨fr, rfl⟩ := Int.eq_ofNat_of_zero_le f0
  obtain ⟨d, rfl⟩ := Int.eq_ofNat_of_zero_le d0
  obtain ⟨ver, rfl⟩ := Int.eq_ofNat_of_zero_le v0
  clear f0 d0 v0
  simp only [Int.toNat_natCast]
  go_enter Try.func18, Try.ntmps18
  go_wp2_with (refine wb_box H rfl 35 _ rfl cs rfl ?_; clear H; intro b1 w H)
  go_upto_region 1 with fail
  have e0 := (H.call ((Below.refl _ w).drew)).holds
  refine Gs_start (T := [((⟨b1, 0, none⟩ : Addr), Value.int .i64 (fr : Int), 10), ((⟨b1, 1, none⟩ : Addr), .int .u64 (d : Int), 10)]) (n := 11) (by kernel_rfl) rfl ?_ ?_
  · intro t ht _
    simp at ht
    rcases ht with rfl | rfl
    · exact (cell_of_row _ b1 0 _ 35 (0, 0) (e0 _ (List.mem_cons_self ..))).trans H0.out
    · exact (cell_of_row _ b1 1 _ 35 (0, 0) (e0 _ (List.mem_cons_self ..))).trans H1.out
  clear e0
  replace H : Sb [] w0 ({ w with drawn := w.drawn + 1 } : World) _ _ := H.call ((Below.refl _ w).drew)
  generalize ({ w with drawn := w.drawn + 1 } : World) = w1 at *
  refine Gs_field 0 (fun d _ _ _ _ h => by cases d <;> exact h) (by kernel_rfl) rfl _ _ _ rfl rfl (some 9) rfl (by kernel_rfl) (by kernel_rfl) (HTof rfl) _ _ rfl (fK35_0 _ _) ?_
  simp only [Act.put, List.setIfInBounds_toArray, List.set_cons_succ, List.set_cons_zero]
  refine Gs_field 1 (fun d _ _ _ _ h => by cases d <;> exact h) (by kernel_rfl) rfl _ _ _ rfl rfl (some 10) rfl (by kernel_rfl) (by kernel_rfl) (HTof rfl) _ _ rfl (fK28_0 _ _) ?_
  simp only [Act.put, List.setIfInBounds_toArray, List.set_cons_succ, List.set_cons_zero]
  refine Gs_load 2 10 (fun d _ _ _ _ h => by cases d <;> exact h) (by kernel_rfl) rfl _ _ rfl rfl (some 11) rfl (by kernel_rfl) (by kernel_rfl) (HTof rfl) _ rfl Try.isAgg3 _ (List.Mem.head _) (by kernel_rfl) ?_
  simp only [Act.put, List.setIfInBounds_toArray, List.set_cons_succ, List.set_cons_zero]
  refine Gs_bin 3 (fun d _ _ _ _ h => by cases d <;> exact h) (by kernel_rfl) rfl rfl (some 12) rfl (by kernel_rfl) (by kernel_rfl) (HTof rfl) (.int .u64 (fr)) (fun w => by go_simp; exact u64_n _ (by omega)) ?_
  simp only [Act.put, List.setIfInBounds_toArray, List.set_cons_succ, List.set_cons_zero]
  refine Gs_field 5 (fun d _ _ _ _ h => by cases d <;> exact h) (by kernel_rfl) rfl _ _ _ rfl rfl (some 14) rfl (by kernel_rfl) (by kernel_rfl) (HTof rfl) _ _ rfl (fK35_0 _ _) ?_
  simp only [Act.put, List.setIfInBounds_toArray, List.set_cons_succ, List.set_cons_zero]
  refine Gs_field 6 (fun d _ _ _ _ h => by cases d <;> exact h) (by kernel_rfl) rfl _ _ _ rfl rfl (some 15) rfl (by kernel_rfl) (by kernel_rfl) (HTof rfl) _ _ rfl (fK28_1 _ _) ?_
  simp only [Act.put, List.setIfInBounds_toArray, List.set_cons_succ, List.set_cons_zero]
  refine Gs_load 7 10 (fun d _ _ _ _ h => by cases d <;> exact h) (by kernel_rfl) rfl _ _ rfl rfl (some 16) rfl (by kernel_rfl) (by kernel_rfl) (HTof rfl) _ rfl Try.isAgg22 _ (List.Mem.tail _ (List.Mem.head _)) (by kernel_rfl) ?_
  simp only [Act.put, List.setIfInBounds_toArray, List.set_cons_succ, List.set_cons_zero]
  refine Gs_callB 4 rfl rfl (some 13) rfl (by kernel_rfl) 51 #[.int .u64 (fr), .int .i64 4] (by go_simp) (rnum_s _ _ (fr) 4 _ rfl rfl (by decide)) ?_
  rintro e w1 ⟨rfl, hb⟩
  refine ⟨_, rfl, hb, ?_⟩
  replace H := H.call hb
  clear hb
  simp only [Act.put, List.setIfInBounds_toArray, List.set_cons_succ, List.set_cons_zero]
  refine Gs_callB 8 rfl rfl (some 17) rfl (by kernel_rfl) 51 #[.int .u64 (d), .int .i64 8] (by go_simp) (rnum_s _ _ (d) 8 _ rfl rfl (by decide)) ?_
  rintro e w1 ⟨rfl, hb⟩
  refine ⟨_, rfl, hb, ?_⟩
  replace H := H.call hb
  clear hb
  simp only [Act.put, List.setIfInBounds_toArray, List.set_cons_succ, List.set_cons_zero]
  refine Gs_bin 9 (fun d _ _ _ _ h => by cases d <;> exact h) (by kernel_rfl) rfl rfl (some 18) rfl (by kernel_rfl) (by kernel_rfl) (HTof rfl) (.string (strB (numB 4 fr ++ numB 8 d))) (fun w => ex_add _ _ _ _ rfl (numB 4 fr) (numB 8 d) rfl rfl (Nat.le_trans (ln_num 4 fr) (Nat.le_of_ble_eq_true rfl)) (Nat.le_trans (ln_num 8 d) (Nat.le_of_ble_eq_true rfl)) w) ?_
  simp only [Act.put, List.setIfInBounds_toArray, List.set_cons_succ, List.set_cons_zero]
  refine Gs_tail' 10 (by kernel_rfl) rfl (by kernel_rfl) rfl ?_
  simp only [List.drop_succ_cons, List.drop_zero]
  have HP0 : Hid ((numB 4 fr ++ numB 8 d).length ≤ 12) := Lib.hid (ln_add (ln_num 4 fr) (ln_num 8 d))
  obtain ⟨P0, hP0⟩ : ∃ P0, numB 4 fr ++ numB 8 d = P0 := ⟨_, rfl⟩
  rw [hP0] at HP0 ⊢
  have HE0 := Lib.hid hP0
  have Hver : Hid (ver < 4294967296) := Lib.hid (by omega)
  have HLn : Hid (L.length ≤ 32) := Lib.hid hLn
  clear hP0 f1 d1 v1 hLn
  go_wp2_with fail
  have HB := Lib.hid H
  clear H
  go_loopw [3, 4] (fun x i W => ∃ (k : Nat) (bs : List UInt8), k ≤ 8 ∧ i = .int .i64 k ∧ x = .string (strB bs) ∧ Hid (Sb [] w0 W [(b1, cs, 35)] []) ∧ Hid (bs = P0 ++ (S.take k).flatMap shipB ∧ bs.length ≤ 12 + 22 * k)) (fun _ i _ => 8 - (intOf i).toNat)
  case atStart => exact ⟨0, P0, Nat.zero_le _, rfl, rfl, HB, Lib.hid ⟨by simp, by have := HP0.out; omega⟩⟩
  case round =>
    clear HB
    obtain ⟨k, bs, hk, rfl, rfl, HB, HA⟩ := hrel
    by_cases hlt : k < 8
    · obtain ⟨t, ht⟩ : ∃ t, S[k]? = some t := ⟨S[k]'(by rw [H8.out]; exact hlt), List.getElem?_eq_getElem _⟩
      have HX : Hid (∀ j v, (shipL t)[j]? = some v → cs[2 + k * 7 + j]? = some v) := Lib.hid (fun j v h => by rw [Nat.add_assoc]; exact HS.out _ v (shipsL_at S k j t v ht h))
      obtain ⟨c0, c1, s0, s1⟩ : 0 ≤ t.cool ∧ t.cool < 256 ∧ 0 ≤ t.score ∧ t.score < 4294967296 := have f := F1.out t (List.mem_of_getElem? ht); ⟨f.c0, f.c1, f.s0, f.s1⟩
      have Hsn : Hid ((S.take (k + 1)).flatMap shipB = (S.take k).flatMap shipB ++ shipB t) := Lib.hid (by
        obtain ⟨hk', e⟩ := List.getElem?_eq_some_iff.1 ht
        rw [List.take_succ_eq_append_getElem hk', e, List.flatMap_append]; simp)
      have H := HB.out
      have Ho : Hid (bs.length ≤ 190) := Lib.hid (by have := HA.out.2; omega)
      have HA2 := HA.out.2
      have Hlen := Lib.hid HA2
      clear HB ht HA2
      obtain ⟨o, x, y, vx, vy, cl, sc⟩ := t
      dsimp only at c0 c1 s0 s1
      obtain ⟨cl, rfl⟩ := Int.eq_ofNat_of_zero_le c0
      obtain ⟨sc, rfl⟩ := Int.eq_ofNat_of_zero_le s0
      have Hcl : Hid (cl < 256) := Lib.hid (by omega)
      have Hsc : Hid (sc < 4294967296) := Lib.hid (by omega)
      clear c0 s0 c1 s1
      cases o
      ·
        go_upto_region 4 with (first | (refine wl_add _ _ _ _ rfl rfl bs [0] rfl rfl (Nat.le_trans Ho.out (Nat.le_of_ble_eq_true rfl)) (Nat.le_of_ble_eq_true rfl) ?_) | (refine wb_part H rfl 0 24 _ rfl _ (2 + k * 7) rfl _ _ rfl _ Try.underlying24 rfl 7 info24 (shipL ⟨false, x, y, vx, vy, cl, sc⟩) HX.out rfl ?_) | (refine wb_alloc H rfl 24 rfl _ Try.zeroValue24 ?_; clear H; intro b4 w H) | (refine wb_put H rfl 0 24 _ _ rfl _ 0 rfl _ _ rfl (.agg #[.bool false, .int .i32 x, .int .i32 y, .int .i32 vx, .int .i32 vy, .int .i64 (cl : Int), .int .i64 (sc : Int)]) rfl 7 info24 rfl (Nat.le_of_ble_eq_true rfl) rfl #[.bool false, .int .i32 x, .int .i32 y, .int .i32 vx, .int .i32 vy, .int .i64 (cl : Int), .int .i64 (sc : Int)] rfl ?_; clear H; intro w H; replace H : Sb [] w0 w [(b4, #[.bool false, .int .i32 x, .int .i32 y, .int .i32 vx, .int .i32 vy, .int .i64 (cl : Int), .int .i64 (sc : Int)], 24), (b1, cs, 35)] [] := H) | (refine wb_cell H rfl 0 4 _ rfl _ 0 rfl _ _ rfl Try.isAgg4 (.bool false) rfl ?_))
        obtain ⟨bs2, hb2⟩ : ∃ bs2, bs ++ [0] = bs2 := ⟨_, rfl⟩
        rw [hb2]
        have Hb2 := Lib.hid hb2.symm
        clear hb2
        go_wp2_with fail
        refine ⟨?_, by simp [intOf]; omega⟩
        simp
        exact ⟨k + 1, hlt, rfl, bs2, rfl, Lib.hid H.tail, Lib.hid ⟨by rw [Hb2.out, HA.out.1, Hsn.out, List.append_assoc]; rfl, by rw [Hb2.out, List.length_append]; have := Hlen.out; simp; omega⟩⟩
      ·
        go_upto_region 8 with (first | (refine wl_add _ _ _ _ rfl rfl bs [0] rfl rfl (Nat.le_trans Ho.out (Nat.le_of_ble_eq_true rfl)) (Nat.le_of_ble_eq_true rfl) ?_) | (refine wb_part H rfl 0 24 _ rfl _ (2 + k * 7) rfl _ _ rfl _ Try.underlying24 rfl 7 info24 (shipL ⟨true, x, y, vx, vy, cl, sc⟩) HX.out rfl ?_) | (refine wb_alloc H rfl 24 rfl _ Try.zeroValue24 ?_; clear H; intro b4 w H) | (refine wb_put H rfl 0 24 _ _ rfl _ 0 rfl _ _ rfl (.agg #[.bool true, .int .i32 x, .int .i32 y, .int .i32 vx, .int .i32 vy, .int .i64 (cl : Int), .int .i64 (sc : Int)]) rfl 7 info24 rfl (Nat.le_of_ble_eq_true rfl) rfl #[.bool true, .int .i32 x, .int .i32 y, .int .i32 vx, .int .i32 vy, .int .i64 (cl : Int), .int .i64 (sc : Int)] rfl ?_; clear H; intro w H; replace H : Sb [] w0 w [(b4, #[.bool true, .int .i32 x, .int .i32 y, .int .i32 vx, .int .i32 vy, .int .i64 (cl : Int), .int .i64 (sc : Int)], 24), (b1, cs, 35)] [] := H) | (refine wb_cell H rfl 0 4 _ rfl _ 0 rfl _ _ rfl Try.isAgg4 (.bool true) rfl ?_))
        have e0 := (H.call ((Below.refl _ w).drew)).holds
        refine Gs_start (T := [((⟨b4, 1, none⟩ : Addr), Value.int .i32 x, 28), ((⟨b4, 2, none⟩ : Addr), .int .i32 y, 28), ((⟨b4, 3, none⟩ : Addr), .int .i32 vx, 28), ((⟨b4, 4, none⟩ : Addr), .int .i32 vy, 28), ((⟨b4, 5, none⟩ : Addr), .int .i64 (cl : Int), 28), ((⟨b4, 6, none⟩ : Addr), .int .i64 (sc : Int), 28)]) (n := 29) (by kernel_rfl) rfl ?_ ?_
        · intro t ht _
          simp at ht
          rcases ht with rfl | rfl | rfl | rfl | rfl | rfl
          · exact cell_of_row _ b4 1 _ 24 (0, 0) (e0 _ (List.mem_cons_self ..))
          · exact cell_of_row _ b4 2 _ 24 (0, 0) (e0 _ (List.mem_cons_self ..))
          · exact cell_of_row _ b4 3 _ 24 (0, 0) (e0 _ (List.mem_cons_self ..))
          · exact cell_of_row _ b4 4 _ 24 (0, 0) (e0 _ (List.mem_cons_self ..))
          · exact cell_of_row _ b4 5 _ 24 (0, 0) (e0 _ (List.mem_cons_self ..))
          · exact cell_of_row _ b4 6 _ 24 (0, 0) (e0 _ (List.mem_cons_self ..))
        clear e0
        replace H : Sb [] w0 ({ w with drawn := w.drawn + 1 } : World) _ _ := H.call ((Below.refl _ w).drew)
        generalize ({ w with drawn := w.drawn + 1 } : World) = w1 at *
        refine Gs_move 0 (fun d _ _ _ _ h => by cases d <;> exact h) (by kernel_rfl) rfl _ rfl rfl (some 33) rfl (by kernel_rfl) (by kernel_rfl) (HTof rfl) (.string (strB bs)) rfl ?_
        simp only [Act.put, List.setIfInBounds_toArray, List.set_cons_succ, List.set_cons_zero]
        refine Gs_bin 1 (fun d _ _ _ _ h => by cases d <;> exact h) (by kernel_rfl) rfl rfl (some 34) rfl (by kernel_rfl) (by kernel_rfl) (HTof rfl) (.string (strB (bs ++ [1]))) (fun w => ex_add _ _ _ _ rfl (bs) ([1]) rfl rfl (Nat.le_trans Ho.out (Nat.le_of_ble_eq_true rfl)) (Nat.le_trans (Nat.le_refl 1) (Nat.le_of_ble_eq_true rfl)) w) ?_
        simp only [Act.put, List.setIfInBounds_toArray, List.set_cons_succ, List.set_cons_zero]
        refine Gs_field 2 (fun d _ _ _ _ h => by cases d <;> exact h) (by kernel_rfl) rfl _ _ _ rfl rfl (some 35) rfl (by kernel_rfl) (by kernel_rfl) (HTof rfl) _ _ rfl (fK24_1 _ _) ?_
        simp only [Act.put, List.setIfInBounds_toArray, List.set_cons_succ, List.set_cons_zero]
        refine Gs_load 3 28 (fun d _ _ _ _ h => by cases d <;> exact h) (by kernel_rfl) rfl _ _ rfl rfl (some 36) rfl (by kernel_rfl) (by kernel_rfl) (HTof rfl) _ rfl Try.isAgg21 _ (List.Mem.head _) (by kernel_rfl) ?_
        simp only [Act.put, List.setIfInBounds_toArray, List.set_cons_succ, List.set_cons_zero]
        refine Gs_field 6 (fun d _ _ _ _ h => by cases d <;> exact h) (by kernel_rfl) rfl _ _ _ rfl rfl (some 39) rfl (by kernel_rfl) (by kernel_rfl) (HTof rfl) _ _ rfl (fK24_2 _ _) ?_
        simp only [Act.put, List.setIfInBounds_toArray, List.set_cons_succ, List.set_cons_zero]
        refine Gs_load 7 28 (fun d _ _ _ _ h => by cases d <;> exact h) (by kernel_rfl) rfl _ _ rfl rfl (some 40) rfl (by kernel_rfl) (by kernel_rfl) (HTof rfl) _ rfl Try.isAgg21 _ (List.Mem.tail _ (List.Mem.head _)) (by kernel_rfl) ?_
        simp only [Act.put, List.setIfInBounds_toArray, List.set_cons_succ, List.set_cons_zero]
        refine Gs_field 10 (fun d _ _ _ _ h => by cases d <;> exact h) (by kernel_rfl) rfl _ _ _ rfl rfl (some 43) rfl (by kernel_rfl) (by kernel_rfl) (HTof rfl) _ _ rfl (fK24_3 _ _) ?_
        simp only [Act.put, List.setIfInBounds_toArray, List.set_cons_succ, List.set_cons_zero]
        refine Gs_load 11 28 (fun d _ _ _ _ h => by cases d <;> exact h) (by kernel_rfl) rfl _ _ rfl rfl (some 44) rfl (by kernel_rfl) (by kernel_rfl) (HTof rfl) _ rfl Try.isAgg21 _ (List.Mem.tail _ (List.Mem.tail _ (List.Mem.head _))) (by kernel_rfl) ?_
        simp only [Act.put, List.setIfInBounds_toArray, List.set_cons_succ, List.set_cons_zero]
        refine Gs_field 14 (fun d _ _ _ _ h => by cases d <;> exact h) (by kernel_rfl) rfl _ _ _ rfl rfl (some 47) rfl (by kernel_rfl) (by kernel_rfl) (HTof rfl) _ _ rfl (fK24_4 _ _) ?_
        simp only [Act.put, List.setIfInBounds_toArray, List.set_cons_succ, List.set_cons_zero]
        refine Gs_load 15 28 (fun d _ _ _ _ h => by cases d <;> exact h) (by kernel_rfl) rfl _ _ rfl rfl (some 48) rfl (by kernel_rfl) (by kernel_rfl) (HTof rfl) _ rfl Try.isAgg21 _ (List.Mem.tail _ (List.Mem.tail _ (List.Mem.tail _ (List.Mem.head _)))) (by kernel_rfl) ?_
        simp only [Act.put, List.setIfInBounds_toArray, List.set_cons_succ, List.set_cons_zero]
        refine Gs_field 18 (fun d _ _ _ _ h => by cases d <;> exact h) (by kernel_rfl) rfl _ _ _ rfl rfl (some 51) rfl (by kernel_rfl) (by kernel_rfl) (HTof rfl) _ _ rfl (fK24_5 _ _) ?_
        simp only [Act.put, List.setIfInBounds_toArray, List.set_cons_succ, List.set_cons_zero]
        refine Gs_load 19 28 (fun d _ _ _ _ h => by cases d <;> exact h) (by kernel_rfl) rfl _ _ rfl rfl (some 52) rfl (by kernel_rfl) (by kernel_rfl) (HTof rfl) _ rfl Try.isAgg3 _ (List.Mem.tail _ (List.Mem.tail _ (List.Mem.tail _ (List.Mem.tail _ (List.Mem.head _))))) (by kernel_rfl) ?_
        simp only [Act.put, List.setIfInBounds_toArray, List.set_cons_succ, List.set_cons_zero]
        refine Gs_bin 20 (fun d _ _ _ _ h => by cases d <;> exact h) (by kernel_rfl) rfl rfl (some 53) rfl (by kernel_rfl) (by kernel_rfl) (HTof rfl) (.int .u64 (cl)) (fun w => by go_simp; exact u64_n _ (by have := Hcl.out; omega)) ?_
        simp only [Act.put, List.setIfInBounds_toArray, List.set_cons_succ, List.set_cons_zero]
        refine Gs_field 23 (fun d _ _ _ _ h => by cases d <;> exact h) (by kernel_rfl) rfl _ _ _ rfl rfl (some 56) rfl (by kernel_rfl) (by kernel_rfl) (HTof rfl) _ _ rfl (fK24_6 _ _) ?_
        simp only [Act.put, List.setIfInBounds_toArray, List.set_cons_succ, List.set_cons_zero]
        refine Gs_load 24 28 (fun d _ _ _ _ h => by cases d <;> exact h) (by kernel_rfl) rfl _ _ rfl rfl (some 57) rfl (by kernel_rfl) (by kernel_rfl) (HTof rfl) _ rfl Try.isAgg3 _ (List.Mem.tail _ (List.Mem.tail _ (List.Mem.tail _ (List.Mem.tail _ (List.Mem.tail _ (List.Mem.head _)))))) (by kernel_rfl) ?_
        simp only [Act.put, List.setIfInBounds_toArray, List.set_cons_succ, List.set_cons_zero]
        refine Gs_bin 25 (fun d _ _ _ _ h => by cases d <;> exact h) (by kernel_rfl) rfl rfl (some 58) rfl (by kernel_rfl) (by kernel_rfl) (HTof rfl) (.int .u64 (sc)) (fun w => by go_simp; exact u64_n _ (by have := Hsc.out; omega)) ?_
        simp only [Act.put, List.setIfInBounds_toArray, List.set_cons_succ, List.set_cons_zero]
        refine Gs_callB 4 rfl rfl (some 37) rfl (by kernel_rfl) 52 #[.int .i32 x] (by go_simp) (rfourB x _) ?_
        rintro e w1 ⟨rfl, hb⟩
        refine ⟨_, rfl, hb, ?_⟩
        replace H := H.call hb
        clear hb
        simp only [Act.put, List.setIfInBounds_toArray, List.set_cons_succ, List.set_cons_zero]
        refine Gs_bin 5 (fun d _ _ _ _ h => by cases d <;> exact h) (by kernel_rfl) rfl rfl (some 38) rfl (by kernel_rfl) (by kernel_rfl) (HTof rfl) (.string (strB ((bs ++ [1]) ++ numB 4 (lo32 x)))) (fun w => ex_add _ _ _ _ rfl ((bs ++ [1])) (numB 4 (lo32 x)) rfl rfl (Nat.le_trans (ln_add Ho.out (Nat.le_refl 1)) (Nat.le_of_ble_eq_true rfl)) (Nat.le_trans (ln_num 4 (lo32 x)) (Nat.le_of_ble_eq_true rfl)) w) ?_
        simp only [Act.put, List.setIfInBounds_toArray, List.set_cons_succ, List.set_cons_zero]
        refine Gs_callB 8 rfl rfl (some 41) rfl (by kernel_rfl) 52 #[.int .i32 y] (by go_simp) (rfourB y _) ?_
        rintro e w1 ⟨rfl, hb⟩
        refine ⟨_, rfl, hb, ?_⟩
        replace H := H.call hb
        clear hb
        simp only [Act.put, List.setIfInBounds_toArray, List.set_cons_succ, List.set_cons_zero]
        refine Gs_bin 9 (fun d _ _ _ _ h => by cases d <;> exact h) (by kernel_rfl) rfl rfl (some 42) rfl (by kernel_rfl) (by kernel_rfl) (HTof rfl) (.string (strB (((bs ++ [1]) ++ numB 4 (lo32 x)) ++ numB 4 (lo32 y)))) (fun w => ex_add _ _ _ _ rfl (((bs ++ [1]) ++ numB 4 (lo32 x))) (numB 4 (lo32 y)) rfl rfl (Nat.le_trans (ln_add (ln_add Ho.out (Nat.le_refl 1)) (ln_num 4 (lo32 x))) (Nat.le_of_ble_eq_true rfl)) (Nat.le_trans (ln_num 4 (lo32 y)) (Nat.le_of_ble_eq_true rfl)) w) ?_
        simp only [Act.put, List.setIfInBounds_toArray, List.set_cons_succ, List.set_cons_zero]
        refine Gs_callB 12 rfl rfl (some 45) rfl (by kernel_rfl) 52 #[.int .i32 vx] (by go_simp) (rfourB vx _) ?_
        rintro e w1 ⟨rfl, hb⟩
        refine ⟨_, rfl, hb, ?_⟩
        replace H := H.call hb
        clear hb
        simp only [Act.put, List.setIfInBounds_toArray, List.set_cons_succ, List.set_cons_zero]
        refine Gs_bin 13 (fun d _ _ _ _ h => by cases d <;> exact h) (by kernel_rfl) rfl rfl (some 46) rfl (by kernel_rfl) (by kernel_rfl) (HTof rfl) (.string (strB ((((bs ++ [1]) ++ numB 4 (lo32 x)) ++ numB 4 (lo32 y)) ++ numB 4 (lo32 vx)))) (fun w => ex_add _ _ _ _ rfl ((((bs ++ [1]) ++ numB 4 (lo32 x)) ++ numB 4 (lo32 y))) (numB 4 (lo32 vx)) rfl rfl (Nat.le_trans (ln_add (ln_add (ln_add Ho.out (Nat.le_refl 1)) (ln_num 4 (lo32 x))) (ln_num 4 (lo32 y))) (Nat.le_of_ble_eq_true rfl)) (Nat.le_trans (ln_num 4 (lo32 vx)) (Nat.le_of_ble_eq_true rfl)) w) ?_
        simp only [Act.put, List.setIfInBounds_toArray, List.set_cons_succ, List.set_cons_zero]
        refine Gs_callB 16 rfl rfl (some 49) rfl (by kernel_rfl) 52 #[.int .i32 vy] (by go_simp) (rfourB vy _) ?_
        rintro e w1 ⟨rfl, hb⟩
        refine ⟨_, rfl, hb, ?_⟩
        replace H := H.call hb
        clear hb
        simp only [Act.put, List.setIfInBounds_toArray, List.set_cons_succ, List.set_cons_zero]
        refine Gs_bin 17 (fun d _ _ _ _ h => by cases d <;> exact h) (by kernel_rfl) rfl rfl (some 50) rfl (by kernel_rfl) (by kernel_rfl) (HTof rfl) (.string (strB (((((bs ++ [1]) ++ numB 4 (lo32 x)) ++ numB 4 (lo32 y)) ++ numB 4 (lo32 vx)) ++ numB 4 (lo32 vy)))) (fun w => ex_add _ _ _ _ rfl (((((bs ++ [1]) ++ numB 4 (lo32 x)) ++ numB 4 (lo32 y)) ++ numB 4 (lo32 vx))) (numB 4 (lo32 vy)) rfl rfl (Nat.le_trans (ln_add (ln_add (ln_add (ln_add Ho.out (Nat.le_refl 1)) (ln_num 4 (lo32 x))) (ln_num 4 (lo32 y))) (ln_num 4 (lo32 vx))) (Nat.le_of_ble_eq_true rfl)) (Nat.le_trans (ln_num 4 (lo32 vy)) (Nat.le_of_ble_eq_true rfl)) w) ?_
        simp only [Act.put, List.setIfInBounds_toArray, List.set_cons_succ, List.set_cons_zero]
        refine Gs_callB 21 rfl rfl (some 54) rfl (by kernel_rfl) 51 #[.int .u64 (cl), .int .i64 1] (by go_simp) (rnum_s _ _ (cl) 1 _ rfl rfl (by decide)) ?_
        rintro e w1 ⟨rfl, hb⟩
        refine ⟨_, rfl, hb, ?_⟩
        replace H := H.call hb
        clear hb
        simp only [Act.put, List.setIfInBounds_toArray, List.set_cons_succ, List.set_cons_zero]
        refine Gs_bin 22 (fun d _ _ _ _ h => by cases d <;> exact h) (by kernel_rfl) rfl rfl (some 55) rfl (by kernel_rfl) (by kernel_rfl) (HTof rfl) (.string (strB ((((((bs ++ [1]) ++ numB 4 (lo32 x)) ++ numB 4 (lo32 y)) ++ numB 4 (lo32 vx)) ++ numB 4 (lo32 vy)) ++ numB 1 cl))) (fun w => ex_add _ _ _ _ rfl ((((((bs ++ [1]) ++ numB 4 (lo32 x)) ++ numB 4 (lo32 y)) ++ numB 4 (lo32 vx)) ++ numB 4 (lo32 vy))) (numB 1 cl) rfl rfl (Nat.le_trans (ln_add (ln_add (ln_add (ln_add (ln_add Ho.out (Nat.le_refl 1)) (ln_num 4 (lo32 x))) (ln_num 4 (lo32 y))) (ln_num 4 (lo32 vx))) (ln_num 4 (lo32 vy))) (Nat.le_of_ble_eq_true rfl)) (Nat.le_trans (ln_num 1 cl) (Nat.le_of_ble_eq_true rfl)) w) ?_
        simp only [Act.put, List.setIfInBounds_toArray, List.set_cons_succ, List.set_cons_zero]
        refine Gs_callB 26 rfl rfl (some 59) rfl (by kernel_rfl) 51 #[.int .u64 (sc), .int .i64 4] (by go_simp) (rnum_s _ _ (sc) 4 _ rfl rfl (by decide)) ?_
        rintro e w1 ⟨rfl, hb⟩
        refine ⟨_, rfl, hb, ?_⟩
        replace H := H.call hb
        clear hb
        simp only [Act.put, List.setIfInBounds_toArray, List.set_cons_succ, List.set_cons_zero]
        refine Gs_bin 27 (fun d _ _ _ _ h => by cases d <;> exact h) (by kernel_rfl) rfl rfl (some 60) rfl (by kernel_rfl) (by kernel_rfl) (HTof rfl) (.string (strB (((((((bs ++ [1]) ++ numB 4 (lo32 x)) ++ numB 4 (lo32 y)) ++ numB 4 (lo32 vx)) ++ numB 4 (lo32 vy)) ++ numB 1 cl) ++ numB 4 sc))) (fun w => ex_add _ _ _ _ rfl (((((((bs ++ [1]) ++ numB 4 (lo32 x)) ++ numB 4 (lo32 y)) ++ numB 4 (lo32 vx)) ++ numB 4 (lo32 vy)) ++ numB 1 cl)) (numB 4 sc) rfl rfl (Nat.le_trans (ln_add (ln_add (ln_add (ln_add (ln_add (ln_add Ho.out (Nat.le_refl 1)) (ln_num 4 (lo32 x))) (ln_num 4 (lo32 y))) (ln_num 4 (lo32 vx))) (ln_num 4 (lo32 vy))) (ln_num 1 cl)) (Nat.le_of_ble_eq_true rfl)) (Nat.le_trans (ln_num 4 sc) (Nat.le_of_ble_eq_true rfl)) w) ?_
        simp only [Act.put, List.setIfInBounds_toArray, List.set_cons_succ, List.set_cons_zero]
        refine Gs_tail' 28 (by kernel_rfl) rfl (by kernel_rfl) rfl ?_
        simp only [List.drop_succ_cons, List.drop_zero]
        have hE : (((((((bs ++ [1]) ++ numB 4 (lo32 x)) ++ numB 4 (lo32 y)) ++ numB 4 (lo32 vx)) ++ numB 4 (lo32 vy)) ++ numB 1 cl) ++ numB 4 sc) = bs ++ shipB ⟨true, x, y, vx, vy, cl, sc⟩ := by simp [shipB, numB]
        rw [hE]
        have hEl : (shipB ⟨true, x, y, vx, vy, (cl : Int), (sc : Int)⟩).length ≤ 22 := by simp [shipB, length_numB]
        have HEl := Lib.hid hEl
        obtain ⟨bs2, hb2⟩ : ∃ bs2, bs ++ shipB ⟨true, x, y, vx, vy, cl, sc⟩ = bs2 := ⟨_, rfl⟩
        rw [hb2]
        have Hb2 := Lib.hid hb2.symm
        clear hE hEl hb2
        go_wp2_with fail
        refine ⟨?_, by simp [intOf]; omega⟩
        simp
        exact ⟨k + 1, hlt, rfl, bs2, rfl, Lib.hid H.tail, Lib.hid ⟨by rw [Hb2.out, HA.out.1, Hsn.out, List.append_assoc], by rw [Hb2.out, List.length_append]; have := Hlen.out; have := HEl.out; omega⟩⟩
    · obtain rfl : k = 8 := by omega
      have hbs : bs = P0 ++ S.flatMap shipB := by rw [HA.out.1, List.take_of_length_le (by rw [H8.out]; decide)]
      have hln : bs.length ≤ 188 := by have := HA.out.2; omega
      have H := HB.out
      have Hbs := Lib.hid hbs
      have Hln := Lib.hid hln
      have hLn : (L.length : Int) ≤ 32 := by have := HLn.out; omega
      clear HB HA hbs hln
      go_wp2_with (refine wb_cell H rfl 0 26 _ rfl _ 58 rfl _ _ rfl Try.isAgg26 (.slice ad L.length c) H58.out ?_)
      refine (rnum_s _ _ L.length 1 _ rfl rfl (by decide)).mono ?_; rintro e w' ⟨rfl, hb⟩
      replace H : Sb [] w0 w' [(b1, cs, 35)] [] := H.call hb
      clear hb
      go_upto_region 10 with (refine wl_add _ _ _ _ rfl rfl bs (numB 1 L.length) rfl rfl (Nat.le_trans Hln.out (Nat.le_of_ble_eq_true rfl)) (Nat.le_trans (ln_num 1 _) (Nat.le_of_ble_eq_true rfl)) ?_)
      have hP2 : (bs ++ numB 1 L.length).length ≤ 189 := by rw [List.length_append, length_numB]; have := Hln.out; omega
      obtain ⟨P1, hP1⟩ : ∃ P1, bs ++ numB 1 L.length = P1 := ⟨_, rfl⟩
      rw [hP1] at hP2 ⊢
      have HP1 := Lib.hid hP1
      have HP2 := Lib.hid hP2
      have H' := Lib.hid H
      clear hP1 hP2 H hk hlt
      go_wp2_with fail
      go_loopw [3, 6] (fun x i W => ∃ (k : Nat) (bs : List UInt8), k ≤ L.length ∧ i = .int .i64 k ∧ x = .string (strB bs) ∧ Hid (Sb [] w0 W [(b1, cs, 35)] []) ∧ Hid (bs = P1 ++ (L.take k).flatMap shotB ∧ bs.length ≤ 189 + 18 * k)) (fun _ i _ => L.length - (intOf i).toNat)
      case atStart => exact ⟨0, P1, Nat.zero_le _, rfl, rfl, H', Lib.hid ⟨by simp, by have := HP2.out; omega⟩⟩
      case round =>
        clear H'
        obtain ⟨k, bs, hk, rfl, rfl, HB, HA⟩ := hrel
        by_cases hlt : k < L.length
        ·
          obtain ⟨t, ht⟩ : ∃ t, L[k]? = some t := ⟨L[k], List.getElem?_eq_getElem hlt⟩
          obtain ⟨gi, oi, had, hgi, hcs⟩ : ∃ gi oi, ad = some ⟨gi, oi, none⟩ ∧ gi < w0.heap.size ∧ ∀ j v, (cellsL L)[j]? = some v → w0.cell? ⟨gi, oi + j, none⟩ = some v := by
            rcases HI.out with ⟨e, _⟩ | ⟨gi, oi, c', e, hgi, hc⟩
            · rw [e] at hlt; exact absurd hlt (Nat.not_lt_zero _)
            · injection e with e1 e2 e3
              exact ⟨gi, oi, e1, hgi, hc⟩
          subst had
          have hA : ShotAt wr gi (oi + k * 6) t := shot_at (fun j v hv => (World.cell?_of_block (HB.out.fr gi hgi (by simp))).trans (hcs j v hv)) k t ht
          have Hsn : Hid ((L.take (k + 1)).flatMap shotB = (L.take k).flatMap shotB ++ shotB t) := Lib.hid (by
            obtain ⟨hk', e⟩ := List.getElem?_eq_some_iff.1 ht
            rw [List.take_succ_eq_append_getElem hk', e, List.flatMap_append]; simp)
          obtain ⟨c0, c1, s0, s1⟩ : 0 ≤ t.owner ∧ t.owner < 256 ∧ 0 ≤ t.left ∧ t.left < 256 := have f := F2.out t (List.mem_of_getElem? ht); ⟨f.c0, f.c1, f.s0, f.s1⟩
          have H := HB.out
          have Ho : Hid (bs.length ≤ 800) := Lib.hid (by have := HA.out.2; have := HLn.out; omega)
          have HA2 := HA.out.2
          have Hlen := Lib.hid HA2
          have hkn := HLn.out
          clear HB ht hcs HA2
          obtain ⟨o, x, y, vx, vy, lf⟩ := t
          obtain ⟨q0, q1, q2, q3, q4, q5⟩ := hA
          dsimp only at *
          obtain ⟨o, rfl⟩ := Int.eq_ofNat_of_zero_le c0
          obtain ⟨lf, rfl⟩ := Int.eq_ofNat_of_zero_le s0
          have Hcl : Hid (o < 256) := Lib.hid (by omega)
          have Hsc : Hid (lf < 256) := Lib.hid (by omega)
          clear c0 s0 c1 s1
          go_upto_region 14 with (first | (refine wb_cell H rfl 0 26 _ rfl _ 58 rfl _ _ rfl Try.isAgg26 (.slice (some ⟨gi, oi, none⟩) L.length c) H58.out ?_) | (refine wb_alloc H rfl 79 rfl _ Try.zeroValue79 ?_; clear H; intro b4 w H) | (refine wb_put H rfl 0 79 _ _ rfl _ 0 rfl _ _ rfl (.agg #[.int .i64 (o : Int), .int .i32 x, .int .i32 y, .int .i32 vx, .int .i32 vy, .int .i64 (lf : Int)]) rfl 6 info79s rfl (Nat.le_of_ble_eq_true rfl) rfl #[.int .i64 (o : Int), .int .i32 x, .int .i32 y, .int .i32 vx, .int .i32 vy, .int .i64 (lf : Int)] rfl ?_; clear H; intro w H; replace H : Sb [] w0 w [(b4, #[.int .i64 (o : Int), .int .i32 x, .int .i32 y, .int .i32 vx, .int .i32 vy, .int .i64 (lf : Int)], 79), (b1, cs, 35)] [] := H))
          clear q0 q1 q2 q3 q4 q5
          have e0 := (H.call ((Below.refl _ w).drew)).holds
          refine Gs_start (T := [((⟨b4, 0, none⟩ : Addr), Value.int .i64 (o : Int), 27), ((⟨b4, 1, none⟩ : Addr), .int .i32 x, 27), ((⟨b4, 2, none⟩ : Addr), .int .i32 y, 27), ((⟨b4, 3, none⟩ : Addr), .int .i32 vx, 27), ((⟨b4, 4, none⟩ : Addr), .int .i32 vy, 27), ((⟨b4, 5, none⟩ : Addr), .int .i64 (lf : Int), 27)]) (n := 28) (by kernel_rfl) rfl ?_ ?_
          · intro t ht _
            simp at ht
            rcases ht with rfl | rfl | rfl | rfl | rfl | rfl
            · exact cell_of_row _ b4 0 _ 79 (0, 0) (e0 _ (List.mem_cons_self ..))
            · exact cell_of_row _ b4 1 _ 79 (0, 0) (e0 _ (List.mem_cons_self ..))
            · exact cell_of_row _ b4 2 _ 79 (0, 0) (e0 _ (List.mem_cons_self ..))
            · exact cell_of_row _ b4 3 _ 79 (0, 0) (e0 _ (List.mem_cons_self ..))
            · exact cell_of_row _ b4 4 _ 79 (0, 0) (e0 _ (List.mem_cons_self ..))
            · exact cell_of_row _ b4 5 _ 79 (0, 0) (e0 _ (List.mem_cons_self ..))
          clear e0
          replace H : Sb [] w0 ({ w with drawn := w.drawn + 1 } : World) _ _ := H.call ((Below.refl _ w).drew)
          generalize ({ w with drawn := w.drawn + 1 } : World) = w1 at *
          refine Gs_move 0 (fun d _ _ _ _ h => by cases d <;> exact h) (by kernel_rfl) rfl _ rfl rfl (some 83) rfl (by kernel_rfl) (by kernel_rfl) (HTof rfl) (.string (strB bs)) rfl ?_
          simp only [Act.put, List.setIfInBounds_toArray, List.set_cons_succ, List.set_cons_zero]
          refine Gs_field 1 (fun d _ _ _ _ h => by cases d <;> exact h) (by kernel_rfl) rfl _ _ _ rfl rfl (some 84) rfl (by kernel_rfl) (by kernel_rfl) (HTof rfl) _ _ rfl (fK79_0 _ _) ?_
          simp only [Act.put, List.setIfInBounds_toArray, List.set_cons_succ, List.set_cons_zero]
          refine Gs_load 2 27 (fun d _ _ _ _ h => by cases d <;> exact h) (by kernel_rfl) rfl _ _ rfl rfl (some 85) rfl (by kernel_rfl) (by kernel_rfl) (HTof rfl) _ rfl Try.isAgg3 _ (List.Mem.head _) (by kernel_rfl) ?_
          simp only [Act.put, List.setIfInBounds_toArray, List.set_cons_succ, List.set_cons_zero]
          refine Gs_bin 3 (fun d _ _ _ _ h => by cases d <;> exact h) (by kernel_rfl) rfl rfl (some 86) rfl (by kernel_rfl) (by kernel_rfl) (HTof rfl) (.int .u64 (o)) (fun w => by go_simp; exact u64_n _ (by have := Hcl.out; omega)) ?_
          simp only [Act.put, List.setIfInBounds_toArray, List.set_cons_succ, List.set_cons_zero]
          refine Gs_field 6 (fun d _ _ _ _ h => by cases d <;> exact h) (by kernel_rfl) rfl _ _ _ rfl rfl (some 89) rfl (by kernel_rfl) (by kernel_rfl) (HTof rfl) _ _ rfl (fK79_1 _ _) ?_
          simp only [Act.put, List.setIfInBounds_toArray, List.set_cons_succ, List.set_cons_zero]
          refine Gs_load 7 27 (fun d _ _ _ _ h => by cases d <;> exact h) (by kernel_rfl) rfl _ _ rfl rfl (some 90) rfl (by kernel_rfl) (by kernel_rfl) (HTof rfl) _ rfl Try.isAgg21 _ (List.Mem.tail _ (List.Mem.head _)) (by kernel_rfl) ?_
          simp only [Act.put, List.setIfInBounds_toArray, List.set_cons_succ, List.set_cons_zero]
          refine Gs_field 10 (fun d _ _ _ _ h => by cases d <;> exact h) (by kernel_rfl) rfl _ _ _ rfl rfl (some 93) rfl (by kernel_rfl) (by kernel_rfl) (HTof rfl) _ _ rfl (fK79_2 _ _) ?_
          simp only [Act.put, List.setIfInBounds_toArray, List.set_cons_succ, List.set_cons_zero]
          refine Gs_load 11 27 (fun d _ _ _ _ h => by cases d <;> exact h) (by kernel_rfl) rfl _ _ rfl rfl (some 94) rfl (by kernel_rfl) (by kernel_rfl) (HTof rfl) _ rfl Try.isAgg21 _ (List.Mem.tail _ (List.Mem.tail _ (List.Mem.head _))) (by kernel_rfl) ?_
          simp only [Act.put, List.setIfInBounds_toArray, List.set_cons_succ, List.set_cons_zero]
          refine Gs_field 14 (fun d _ _ _ _ h => by cases d <;> exact h) (by kernel_rfl) rfl _ _ _ rfl rfl (some 97) rfl (by kernel_rfl) (by kernel_rfl) (HTof rfl) _ _ rfl (fK79_3 _ _) ?_
          simp only [Act.put, List.setIfInBounds_toArray, List.set_cons_succ, List.set_cons_zero]
          refine Gs_load 15 27 (fun d _ _ _ _ h => by cases d <;> exact h) (by kernel_rfl) rfl _ _ rfl rfl (some 98) rfl (by kernel_rfl) (by kernel_rfl) (HTof rfl) _ rfl Try.isAgg21 _ (List.Mem.tail _ (List.Mem.tail _ (List.Mem.tail _ (List.Mem.head _)))) (by kernel_rfl) ?_
          simp only [Act.put, List.setIfInBounds_toArray, List.set_cons_succ, List.set_cons_zero]
          refine Gs_field 18 (fun d _ _ _ _ h => by cases d <;> exact h) (by kernel_rfl) rfl _ _ _ rfl rfl (some 101) rfl (by kernel_rfl) (by kernel_rfl) (HTof rfl) _ _ rfl (fK79_4 _ _) ?_
          simp only [Act.put, List.setIfInBounds_toArray, List.set_cons_succ, List.set_cons_zero]
          refine Gs_load 19 27 (fun d _ _ _ _ h => by cases d <;> exact h) (by kernel_rfl) rfl _ _ rfl rfl (some 102) rfl (by kernel_rfl) (by kernel_rfl) (HTof rfl) _ rfl Try.isAgg21 _ (List.Mem.tail _ (List.Mem.tail _ (List.Mem.tail _ (List.Mem.tail _ (List.Mem.head _))))) (by kernel_rfl) ?_
          simp only [Act.put, List.setIfInBounds_toArray, List.set_cons_succ, List.set_cons_zero]
          refine Gs_field 22 (fun d _ _ _ _ h => by cases d <;> exact h) (by kernel_rfl) rfl _ _ _ rfl rfl (some 105) rfl (by kernel_rfl) (by kernel_rfl) (HTof rfl) _ _ rfl (fK79_5 _ _) ?_
          simp only [Act.put, List.setIfInBounds_toArray, List.set_cons_succ, List.set_cons_zero]
          refine Gs_load 23 27 (fun d _ _ _ _ h => by cases d <;> exact h) (by kernel_rfl) rfl _ _ rfl rfl (some 106) rfl (by kernel_rfl) (by kernel_rfl) (HTof rfl) _ rfl Try.isAgg3 _ (List.Mem.tail _ (List.Mem.tail _ (List.Mem.tail _ (List.Mem.tail _ (List.Mem.tail _ (List.Mem.head _)))))) (by kernel_rfl) ?_
          simp only [Act.put, List.setIfInBounds_toArray, List.set_cons_succ, List.set_cons_zero]
          refine Gs_bin 24 (fun d _ _ _ _ h => by cases d <;> exact h) (by kernel_rfl) rfl rfl (some 107) rfl (by kernel_rfl) (by kernel_rfl) (HTof rfl) (.int .u64 (lf)) (fun w => by go_simp; exact u64_n _ (by have := Hsc.out; omega)) ?_
          simp only [Act.put, List.setIfInBounds_toArray, List.set_cons_succ, List.set_cons_zero]
          refine Gs_callB 4 rfl rfl (some 87) rfl (by kernel_rfl) 51 #[.int .u64 (o), .int .i64 1] (by go_simp) (rnum_s _ _ (o) 1 _ rfl rfl (by decide)) ?_
          rintro e w1 ⟨rfl, hb⟩
          refine ⟨_, rfl, hb, ?_⟩
          replace H := H.call hb
          clear hb
          simp only [Act.put, List.setIfInBounds_toArray, List.set_cons_succ, List.set_cons_zero]
          refine Gs_bin 5 (fun d _ _ _ _ h => by cases d <;> exact h) (by kernel_rfl) rfl rfl (some 88) rfl (by kernel_rfl) (by kernel_rfl) (HTof rfl) (.string (strB (bs ++ numB 1 o))) (fun w => ex_add _ _ _ _ rfl (bs) (numB 1 o) rfl rfl (Nat.le_trans Ho.out (Nat.le_of_ble_eq_true rfl)) (Nat.le_trans (ln_num 1 o) (Nat.le_of_ble_eq_true rfl)) w) ?_
          simp only [Act.put, List.setIfInBounds_toArray, List.set_cons_succ, List.set_cons_zero]
          refine Gs_callB 8 rfl rfl (some 91) rfl (by kernel_rfl) 52 #[.int .i32 x] (by go_simp) (rfourB x _) ?_
          rintro e w1 ⟨rfl, hb⟩
          refine ⟨_, rfl, hb, ?_⟩
          replace H := H.call hb
          clear hb
          simp only [Act.put, List.setIfInBounds_toArray, List.set_cons_succ, List.set_cons_zero]
          refine Gs_bin 9 (fun d _ _ _ _ h => by cases d <;> exact h) (by kernel_rfl) rfl rfl (some 92) rfl (by kernel_rfl) (by kernel_rfl) (HTof rfl) (.string (strB ((bs ++ numB 1 o) ++ numB 4 (lo32 x)))) (fun w => ex_add _ _ _ _ rfl ((bs ++ numB 1 o)) (numB 4 (lo32 x)) rfl rfl (Nat.le_trans (ln_add Ho.out (ln_num 1 o)) (Nat.le_of_ble_eq_true rfl)) (Nat.le_trans (ln_num 4 (lo32 x)) (Nat.le_of_ble_eq_true rfl)) w) ?_
          simp only [Act.put, List.setIfInBounds_toArray, List.set_cons_succ, List.set_cons_zero]
          refine Gs_callB 12 rfl rfl (some 95) rfl (by kernel_rfl) 52 #[.int .i32 y] (by go_simp) (rfourB y _) ?_
          rintro e w1 ⟨rfl, hb⟩
          refine ⟨_, rfl, hb, ?_⟩
          replace H := H.call hb
          clear hb
          simp only [Act.put, List.setIfInBounds_toArray, List.set_cons_succ, List.set_cons_zero]
          refine Gs_bin 13 (fun d _ _ _ _ h => by cases d <;> exact h) (by kernel_rfl) rfl rfl (some 96) rfl (by kernel_rfl) (by kernel_rfl) (HTof rfl) (.string (strB (((bs ++ numB 1 o) ++ numB 4 (lo32 x)) ++ numB 4 (lo32 y)))) (fun w => ex_add _ _ _ _ rfl (((bs ++ numB 1 o) ++ numB 4 (lo32 x))) (numB 4 (lo32 y)) rfl rfl (Nat.le_trans (ln_add (ln_add Ho.out (ln_num 1 o)) (ln_num 4 (lo32 x))) (Nat.le_of_ble_eq_true rfl)) (Nat.le_trans (ln_num 4 (lo32 y)) (Nat.le_of_ble_eq_true rfl)) w) ?_
          simp only [Act.put, List.setIfInBounds_toArray, List.set_cons_succ, List.set_cons_zero]
          refine Gs_callB 16 rfl rfl (some 99) rfl (by kernel_rfl) 52 #[.int .i32 vx] (by go_simp) (rfourB vx _) ?_
          rintro e w1 ⟨rfl, hb⟩
          refine ⟨_, rfl, hb, ?_⟩
          replace H := H.call hb
          clear hb
          simp only [Act.put, List.setIfInBounds_toArray, List.set_cons_succ, List.set_cons_zero]
          refine Gs_bin 17 (fun d _ _ _ _ h => by cases d <;> exact h) (by kernel_rfl) rfl rfl (some 100) rfl (by kernel_rfl) (by kernel_rfl) (HTof rfl) (.string (strB ((((bs ++ numB 1 o) ++ numB 4 (lo32 x)) ++ numB 4 (lo32 y)) ++ numB 4 (lo32 vx)))) (fun w => ex_add _ _ _ _ rfl ((((bs ++ numB 1 o) ++ numB 4 (lo32 x)) ++ numB 4 (lo32 y))) (numB 4 (lo32 vx)) rfl rfl (Nat.le_trans (ln_add (ln_add (ln_add Ho.out (ln_num 1 o)) (ln_num 4 (lo32 x))) (ln_num 4 (lo32 y))) (Nat.le_of_ble_eq_true rfl)) (Nat.le_trans (ln_num 4 (lo32 vx)) (Nat.le_of_ble_eq_true rfl)) w) ?_
          simp only [Act.put, List.setIfInBounds_toArray, List.set_cons_succ, List.set_cons_zero]
          refine Gs_callB 20 rfl rfl (some 103) rfl (by kernel_rfl) 52 #[.int .i32 vy] (by go_simp) (rfourB vy _) ?_
          rintro e w1 ⟨rfl, hb⟩
          refine ⟨_, rfl, hb, ?_⟩
          replace H := H.call hb
          clear hb
          simp only [Act.put, List.setIfInBounds_toArray, List.set_cons_succ, List.set_cons_zero]
          refine Gs_bin 21 (fun d _ _ _ _ h => by cases d <;> exact h) (by kernel_rfl) rfl rfl (some 104) rfl (by kernel_rfl) (by kernel_rfl) (HTof rfl) (.string (strB (((((bs ++ numB 1 o) ++ numB 4 (lo32 x)) ++ numB 4 (lo32 y)) ++ numB 4 (lo32 vx)) ++ numB 4 (lo32 vy)))) (fun w => ex_add _ _ _ _ rfl (((((bs ++ numB 1 o) ++ numB 4 (lo32 x)) ++ numB 4 (lo32 y)) ++ numB 4 (lo32 vx))) (numB 4 (lo32 vy)) rfl rfl (Nat.le_trans (ln_add (ln_add (ln_add (ln_add Ho.out (ln_num 1 o)) (ln_num 4 (lo32 x))) (ln_num 4 (lo32 y))) (ln_num 4 (lo32 vx))) (Nat.le_of_ble_eq_true rfl)) (Nat.le_trans (ln_num 4 (lo32 vy)) (Nat.le_of_ble_eq_true rfl)) w) ?_
          simp only [Act.put, List.setIfInBounds_toArray, List.set_cons_succ, List.set_cons_zero]
          refine Gs_callB 25 rfl rfl (some 108) rfl (by kernel_rfl) 51 #[.int .u64 (lf), .int .i64 1] (by go_simp) (rnum_s _ _ (lf) 1 _ rfl rfl (by decide)) ?_
          rintro e w1 ⟨rfl, hb⟩
          refine ⟨_, rfl, hb, ?_⟩
          replace H := H.call hb
          clear hb
          simp only [Act.put, List.setIfInBounds_toArray, List.set_cons_succ, List.set_cons_zero]
          refine Gs_bin 26 (fun d _ _ _ _ h => by cases d <;> exact h) (by kernel_rfl) rfl rfl (some 109) rfl (by kernel_rfl) (by kernel_rfl) (HTof rfl) (.string (strB ((((((bs ++ numB 1 o) ++ numB 4 (lo32 x)) ++ numB 4 (lo32 y)) ++ numB 4 (lo32 vx)) ++ numB 4 (lo32 vy)) ++ numB 1 lf))) (fun w => ex_add _ _ _ _ rfl ((((((bs ++ numB 1 o) ++ numB 4 (lo32 x)) ++ numB 4 (lo32 y)) ++ numB 4 (lo32 vx)) ++ numB 4 (lo32 vy))) (numB 1 lf) rfl rfl (Nat.le_trans (ln_add (ln_add (ln_add (ln_add (ln_add Ho.out (ln_num 1 o)) (ln_num 4 (lo32 x))) (ln_num 4 (lo32 y))) (ln_num 4 (lo32 vx))) (ln_num 4 (lo32 vy))) (Nat.le_of_ble_eq_true rfl)) (Nat.le_trans (ln_num 1 lf) (Nat.le_of_ble_eq_true rfl)) w) ?_
          simp only [Act.put, List.setIfInBounds_toArray, List.set_cons_succ, List.set_cons_zero]
          refine Gs_tail' 27 (by kernel_rfl) rfl (by kernel_rfl) rfl ?_
          simp only [List.drop_succ_cons, List.drop_zero]
          have hE : ((((((bs ++ numB 1 o) ++ numB 4 (lo32 x)) ++ numB 4 (lo32 y)) ++ numB 4 (lo32 vx)) ++ numB 4 (lo32 vy)) ++ numB 1 lf) = bs ++ shotB ⟨o, x, y, vx, vy, lf⟩ := by simp [shotB]
          rw [hE]
          have hEl : (shotB ⟨(o : Int), x, y, vx, vy, (lf : Int)⟩).length ≤ 18 := by simp [shotB, length_numB]
          have HEl := Lib.hid hEl
          clear hE hEl
          go_wp2_with fail
          exact ⟨⟨k + 1, bs ++ shotB ⟨o, x, y, vx, vy, lf⟩, hlt, rfl, rfl, Lib.hid H.tail, Lib.hid ⟨by rw [HA.out.1, Hsn.out, List.append_assoc], by rw [List.length_append]; have := Hlen.out; have := HEl.out; omega⟩⟩, by simp only [intOf]; omega⟩
        · obtain rfl : k = L.length := by omega
          have hbs : bs = P1 ++ L.flatMap shotB := by rw [HA.out.1, List.take_length]
          have hln : bs.length ≤ 765 := by have := HA.out.2; have := HLn.out; omega
          have H := HB.out
          have Hbs2 := Lib.hid hbs
          have Hln2 := Lib.hid hln
          have hv1 := Hver.out
          clear HB HA hbs hln
          go_wp2_with (first | (refine wb_cell H rfl 0 26 _ rfl _ 58 rfl _ _ rfl Try.isAgg26 (.slice ad L.length c) H58.out ?_) | (refine wb_cell H rfl 0 3 _ rfl _ 59 rfl _ _ rfl Try.isAgg3 (.int .i64 ver) H59.out ?_))
          refine (rnum_s _ _ ver 4 _ (by first | rfl | exact u64_n _ (by omega)) rfl (by decide)).mono ?_; rintro e w' ⟨rfl, hb⟩
          replace H : Sb [] w0 w' [(b1, cs, 35)] [] := H.call hb
          clear hb
          go_upto_region 16 with (refine wl_add _ _ _ _ rfl rfl bs (numB 4 ver) rfl rfl (Nat.le_trans Hln2.out (Nat.le_of_ble_eq_true rfl)) (Nat.le_trans (ln_num 4 _) (Nat.le_of_ble_eq_true rfl)) ?_)
          have hP4 : (bs ++ numB 4 ver).length ≤ 769 := by rw [List.length_append, length_numB]; have := Hln2.out; omega
          obtain ⟨P3, hP3⟩ : ∃ P3, bs ++ numB 4 ver = P3 := ⟨_, rfl⟩
          rw [hP3] at hP4 ⊢
          have HP3 := Lib.hid hP3
          have HP4 := Lib.hid hP4
          have H' := Lib.hid H
          clear hP3 hP4 H hk hlt hLn hv1
          go_wp2_with fail
          go_loopw [3, 8] (fun x i W => ∃ (k : Nat) (bs : List UInt8), k ≤ 8 ∧ i = .int .i64 k ∧ x = .string (strB bs) ∧ Hid (Sb [] w0 W [(b1, cs, 35)] []) ∧ Hid (bs = P3 ++ (T.take k).flatMap seatB ∧ bs.length ≤ 769 + 3 * k)) (fun _ i _ => 8 - (intOf i).toNat)
          case atStart => exact ⟨0, P3, Nat.zero_le _, rfl, rfl, H', Lib.hid ⟨by simp, by have := HP4.out; omega⟩⟩
          case round =>
            clear H'
            obtain ⟨k, bs, hk, rfl, rfl, HB, HA⟩ := hrel
            by_cases hlt : k < 8
            · obtain ⟨t, ht⟩ : ∃ t, T[k]? = some t := ⟨T[k]'(by rw [T8.out]; exact hlt), List.getElem?_eq_getElem _⟩
              have HX : Hid (∀ j v, (seatL t)[j]? = some v → cs[60 + k * 2 + j]? = some v) := Lib.hid (fun j v h => by rw [Nat.add_assoc]; exact HQ.out _ v (seatsL_at T k j t v ht h))
              obtain ⟨p0, p1, g0, g1⟩ : -1 ≤ t.peer ∧ t.peer < 255 ∧ 0 ≤ t.gen ∧ t.gen < 65536 := have f := F3.out t (List.mem_of_getElem? ht); ⟨f.p0, f.p1, f.g0, f.g1⟩
              have Hsn : Hid ((T.take (k + 1)).flatMap seatB = (T.take k).flatMap seatB ++ seatB t) := Lib.hid (by
                obtain ⟨hk', e⟩ := List.getElem?_eq_some_iff.1 ht
                rw [List.take_succ_eq_append_getElem hk', e, List.flatMap_append]; simp)
              have H := HB.out
              have Ho : Hid (bs.length ≤ 800) := Lib.hid (by have := HA.out.2; omega)
              have HA2 := HA.out.2
              have Hlen := Lib.hid HA2
              clear HB ht HA2
              obtain ⟨p, g⟩ := t
              dsimp only at p0 p1 g0 g1
              obtain ⟨g, rfl⟩ := Int.eq_ofNat_of_zero_le g0
              obtain ⟨q, hq⟩ := Int.eq_ofNat_of_zero_le (show 0 ≤ p + 1 by omega)
              obtain rfl : p = (q : Int) - 1 := by omega
              have Hcl : Hid (q < 256) := Lib.hid (by omega)
              have Hsc : Hid (g < 65536) := Lib.hid (by omega)
              have Hk : Hid (k < 8) := Lib.hid hlt
              clear p0 p1 g0 g1 hq
              go_upto_region 19 with fail
              have e0 := (H.call ((Below.refl _ wr).drew)).holds
              refine Gs_start (T := [((⟨b1, 60 + k * 2, none⟩ : Addr), Value.int .i64 ((q : Int) - 1), 20), ((⟨b1, 60 + k * 2 + 1, none⟩ : Addr), .int .i64 (g : Int), 20)]) (n := 21) (by kernel_rfl) rfl ?_ ?_
              · intro t ht _
                simp at ht
                rcases ht with rfl | rfl
                · exact (cell_of_row _ b1 (60 + k * 2) _ 35 (0, 0) (e0 _ (List.mem_cons_self ..))).trans (HX.out 0 _ rfl)
                · exact (cell_of_row _ b1 (60 + k * 2 + 1) _ 35 (0, 0) (e0 _ (List.mem_cons_self ..))).trans (HX.out 1 _ rfl)
              clear e0
              replace H : Sb [] w0 ({ wr with drawn := wr.drawn + 1 } : World) _ _ := H.call ((Below.refl _ wr).drew)
              generalize ({ wr with drawn := wr.drawn + 1 } : World) = w1 at *
              refine Gs_move 0 (fun d _ _ _ _ h => by cases d <;> exact h) (by kernel_rfl) rfl _ rfl rfl (some 121) rfl (by kernel_rfl) (by kernel_rfl) (HTof rfl) (.string (strB bs)) rfl ?_
              simp only [Act.put, List.setIfInBounds_toArray, List.set_cons_succ, List.set_cons_zero]
              refine Gs_move 1 (fun d _ _ _ _ h => by cases d <;> exact h) (by kernel_rfl) rfl _ rfl rfl (some 122) rfl (by kernel_rfl) (by kernel_rfl) (HTof rfl) (.int _ _) rfl ?_
              simp only [Act.put, List.setIfInBounds_toArray, List.set_cons_succ, List.set_cons_zero]
              refine Gs_field 2 (fun d _ _ _ _ h => by cases d <;> exact h) (by kernel_rfl) rfl _ _ _ rfl rfl (some 123) rfl (by kernel_rfl) (by kernel_rfl) (HTof rfl) _ _ rfl (fK35_1 _ _) ?_
              simp only [Act.put, List.setIfInBounds_toArray, List.set_cons_succ, List.set_cons_zero]
              refine Gs_field 3 (fun d _ _ _ _ h => by cases d <;> exact h) (by kernel_rfl) rfl _ _ _ rfl rfl (some 124) rfl (by kernel_rfl) (by kernel_rfl) (HTof rfl) _ _ rfl (fK33_1 _ _) ?_
              simp only [Act.put, List.setIfInBounds_toArray, List.set_cons_succ, List.set_cons_zero]
              refine Gs_bin 4 (fun d _ _ _ _ h => by cases d <;> exact h) (by kernel_rfl) rfl rfl (some 125) rfl (by kernel_rfl) (by kernel_rfl) (HTof rfl) (.pointer (some ⟨b1, 60 + k * 2, none⟩)) (fun w => by go_simp) ?_
              simp only [Act.put, List.setIfInBounds_toArray, List.set_cons_succ, List.set_cons_zero]
              refine Gs_field 5 (fun d _ _ _ _ h => by cases d <;> exact h) (by kernel_rfl) rfl _ _ _ rfl rfl (some 126) rfl (by kernel_rfl) (by kernel_rfl) (HTof rfl) _ _ rfl (fK30_0 _ _) ?_
              simp only [Act.put, List.setIfInBounds_toArray, List.set_cons_succ, List.set_cons_zero]
              refine Gs_load 6 20 (fun d _ _ _ _ h => by cases d <;> exact h) (by kernel_rfl) rfl _ _ rfl rfl (some 127) rfl (by kernel_rfl) (by kernel_rfl) (HTof rfl) _ rfl Try.isAgg3 _ (List.Mem.head _) (by kernel_rfl) ?_
              simp only [Act.put, List.setIfInBounds_toArray, List.set_cons_succ, List.set_cons_zero]
              refine Gs_bin 7 (fun d _ _ _ _ h => by cases d <;> exact h) (by kernel_rfl) rfl rfl (some 128) rfl (by kernel_rfl) (by kernel_rfl) (HTof rfl) (.int .i64 (q : Int)) (fun w => by go_simp; exact i64_pred q (by have := Hcl.out; omega)) ?_
              simp only [Act.put, List.setIfInBounds_toArray, List.set_cons_succ, List.set_cons_zero]
              refine Gs_bin 8 (fun d _ _ _ _ h => by cases d <;> exact h) (by kernel_rfl) rfl rfl (some 129) rfl (by kernel_rfl) (by kernel_rfl) (HTof rfl) (.int .u64 (q)) (fun w => by go_simp; exact u64_n _ (by have := Hcl.out; omega)) ?_
              simp only [Act.put, List.setIfInBounds_toArray, List.set_cons_succ, List.set_cons_zero]
              refine Gs_move 11 (fun d _ _ _ _ h => by cases d <;> exact h) (by kernel_rfl) rfl _ rfl rfl (some 132) rfl (by kernel_rfl) (by kernel_rfl) (HTof rfl) (.int _ _) rfl ?_
              simp only [Act.put, List.setIfInBounds_toArray, List.set_cons_succ, List.set_cons_zero]
              refine Gs_field 12 (fun d _ _ _ _ h => by cases d <;> exact h) (by kernel_rfl) rfl _ _ _ rfl rfl (some 133) rfl (by kernel_rfl) (by kernel_rfl) (HTof rfl) _ _ rfl (fK35_1 _ _) ?_
              simp only [Act.put, List.setIfInBounds_toArray, List.set_cons_succ, List.set_cons_zero]
              refine Gs_field 13 (fun d _ _ _ _ h => by cases d <;> exact h) (by kernel_rfl) rfl _ _ _ rfl rfl (some 134) rfl (by kernel_rfl) (by kernel_rfl) (HTof rfl) _ _ rfl (fK33_1 _ _) ?_
              simp only [Act.put, List.setIfInBounds_toArray, List.set_cons_succ, List.set_cons_zero]
              refine Gs_bin 14 (fun d _ _ _ _ h => by cases d <;> exact h) (by kernel_rfl) rfl rfl (some 135) rfl (by kernel_rfl) (by kernel_rfl) (HTof rfl) (.pointer (some ⟨b1, 60 + k * 2, none⟩)) (fun w => by go_simp) ?_
              simp only [Act.put, List.setIfInBounds_toArray, List.set_cons_succ, List.set_cons_zero]
              refine Gs_field 15 (fun d _ _ _ _ h => by cases d <;> exact h) (by kernel_rfl) rfl _ _ _ rfl rfl (some 136) rfl (by kernel_rfl) (by kernel_rfl) (HTof rfl) _ _ rfl (fK30_1 _ _) ?_
              simp only [Act.put, List.setIfInBounds_toArray, List.set_cons_succ, List.set_cons_zero]
              refine Gs_load 16 20 (fun d _ _ _ _ h => by cases d <;> exact h) (by kernel_rfl) rfl _ _ rfl rfl (some 137) rfl (by kernel_rfl) (by kernel_rfl) (HTof rfl) _ rfl Try.isAgg3 _ (List.Mem.tail _ (List.Mem.head _)) (by kernel_rfl) ?_
              simp only [Act.put, List.setIfInBounds_toArray, List.set_cons_succ, List.set_cons_zero]
              refine Gs_bin 17 (fun d _ _ _ _ h => by cases d <;> exact h) (by kernel_rfl) rfl rfl (some 138) rfl (by kernel_rfl) (by kernel_rfl) (HTof rfl) (.int .u64 (g)) (fun w => by go_simp; exact u64_n _ (by have := Hsc.out; omega)) ?_
              simp only [Act.put, List.setIfInBounds_toArray, List.set_cons_succ, List.set_cons_zero]
              refine Gs_callB 9 rfl rfl (some 130) rfl (by kernel_rfl) 51 #[.int .u64 (q), .int .i64 1] (by go_simp) (rnum_s _ _ (q) 1 _ rfl rfl (by decide)) ?_
              rintro e w1 ⟨rfl, hb⟩
              refine ⟨_, rfl, hb, ?_⟩
              replace H := H.call hb
              clear hb
              simp only [Act.put, List.setIfInBounds_toArray, List.set_cons_succ, List.set_cons_zero]
              refine Gs_bin 10 (fun d _ _ _ _ h => by cases d <;> exact h) (by kernel_rfl) rfl rfl (some 131) rfl (by kernel_rfl) (by kernel_rfl) (HTof rfl) (.string (strB (bs ++ numB 1 q))) (fun w => ex_add _ _ _ _ rfl (bs) (numB 1 q) rfl rfl (Nat.le_trans Ho.out (Nat.le_of_ble_eq_true rfl)) (Nat.le_trans (ln_num 1 q) (Nat.le_of_ble_eq_true rfl)) w) ?_
              simp only [Act.put, List.setIfInBounds_toArray, List.set_cons_succ, List.set_cons_zero]
              refine Gs_callB 18 rfl rfl (some 139) rfl (by kernel_rfl) 51 #[.int .u64 (g), .int .i64 2] (by go_simp) (rnum_s _ _ (g) 2 _ rfl rfl (by decide)) ?_
              rintro e w1 ⟨rfl, hb⟩
              refine ⟨_, rfl, hb, ?_⟩
              replace H := H.call hb
              clear hb
              simp only [Act.put, List.setIfInBounds_toArray, List.set_cons_succ, List.set_cons_zero]
              refine Gs_bin 19 (fun d _ _ _ _ h => by cases d <;> exact h) (by kernel_rfl) rfl rfl (some 140) rfl (by kernel_rfl) (by kernel_rfl) (HTof rfl) (.string (strB ((bs ++ numB 1 q) ++ numB 2 g))) (fun w => ex_add _ _ _ _ rfl ((bs ++ numB 1 q)) (numB 2 g) rfl rfl (Nat.le_trans (ln_add Ho.out (ln_num 1 q)) (Nat.le_of_ble_eq_true rfl)) (Nat.le_trans (ln_num 2 g) (Nat.le_of_ble_eq_true rfl)) w) ?_
              simp only [Act.put, List.setIfInBounds_toArray, List.set_cons_succ, List.set_cons_zero]
              refine Gs_tail' 20 (by kernel_rfl) rfl (by kernel_rfl) rfl ?_
              simp only [List.drop_succ_cons, List.drop_zero]
              have hE : ((bs ++ numB 1 q) ++ numB 2 g) = bs ++ seatB ⟨(q : Int) - 1, g⟩ := by simp [seatB]
              rw [hE]
              have hEl : (seatB ⟨(q : Int) - 1, (g : Int)⟩).length ≤ 3 := by simp [seatB, length_numB]
              have HEl := Lib.hid hEl
              clear hE hEl
              go_wp2_with fail
              exact ⟨⟨k + 1, bs ++ seatB ⟨(q : Int) - 1, g⟩, hlt, rfl, rfl, Lib.hid H, Lib.hid ⟨by rw [HA.out.1, Hsn.out, List.append_assoc], by rw [List.length_append]; have := Hlen.out; have := HEl.out; omega⟩⟩, by simp only [intOf]; omega⟩
            · obtain rfl : k = 8 := by omega
              have H := HB.out
              have hfin : bs = numB 4 fr ++ (numB 8 d ++ (List.flatMap shipB S ++ (numB 1 L.length ++ (List.flatMap shotB L ++ (numB 4 ver ++ List.flatMap seatB T))))) := by
                rw [HA.out.1, List.take_of_length_le (by rw [T8.out]; decide), ← HP3.out, Hbs2.out, ← HP1.out, Hbs.out, ← HE0.out]
                simp
              have Hfin := Lib.hid hfin
              clear HB hfin
              go_wp2_with fail
              go_ret
              refine ⟨?_, H.below⟩
              rw [Hfin.out]
              first | rfl | simp
end Go.Proofs.Ytijnfeigoggaeaa.game
