/- told of layer 7: the program tells what the document says of a few. -/
import Derived.Test.YtijnfeigoggaeaaSf
import Derived.Test.YtijnfeigoggaeaaGy
namespace Go.Proofs.Ytijnfeigoggaeaa.game
open Go.ChangeShapes Go.WideShapes Go.ChangeAt Go.RowKit dice
set_option maxRecDepth 100000

theorem u64w_bd (x : Int) : 0 ≤ IntKind.u64.wrap x ∧ IntKind.u64.wrap x < 18446744073709551616 := by
  simp [IntKind.wrap, IntKind.bits, IntKind.signed]
  omega
theorem seed_bd : ∀ (l : List UInt8) (h : Int), 0 ≤ h → h < 18446744073709551616 → 0 ≤ seedFrom h l ∧ seedFrom h l < 18446744073709551616
  | [], h, h0, h1 => ⟨h0, h1⟩
  | c :: l, h, _, _ => by
    have := u64w_bd (bits .xor .u64 h (IntKind.u64.wrap (c.toNat : Int)) * 1099511628211)
    exact seed_bd l _ this.1 this.2
theorem zShp_wf' : zShp.wf := ⟨by decide, by decide, by decide, by decide, by decide, by decide⟩
theorem start_wf (D : Int) (h0 : 0 ≤ D) (h1 : D < 18446744073709551616) : (startS D).g.wf := by
  refine ⟨w64 (a := 0) (by decide) (by decide), wu64 h0 h1, rfl, fun t ht => ?_, fun t ht => by simp [startS] at ht⟩
  have : t = zShp := by simp [startS] at ht; exact ht
  rw [this]
  exact zShp_wf'
def oneOn (D : Int) : Ste := ⟨⟨0, D, ⟨true, 0, 0, 0, 0, 0, 0⟩ :: List.replicate 7 zShp, []⟩, 0, nobody⟩
theorem oneOn_wf (D : Int) (h0 : 0 ≤ D) (h1 : D < 18446744073709551616) : (oneOn D).g.wf := by
  refine ⟨w64 (a := 0) (by decide) (by decide), wu64 h0 h1, rfl, fun t ht => ?_, fun t ht => by simp [oneOn] at ht⟩
  have : t = ⟨true, 0, 0, 0, 0, 0, 0⟩ ∨ t = zShp := by simp [oneOn] at ht; exact ht
  rcases this with e | e <;> rw [e]
  · exact ⟨by decide, by decide, by decide, by decide, by decide, by decide⟩
  · exact zShp_wf'
theorem start_may (D : Int) : mayS (startS D) = true := by kernel_rfl
theorem oneOn_may (D : Int) : mayS (oneOn D) = false := by kernel_rfl
theorem start_len (D : Int) : (img (startS D)).length = 49 := by kernel_rfl
theorem getF_nil : getF [] = none := by kernel_rfl
theorem bs_nil (W : World) : Bs W (.slice none 0 0) [] := ⟨none, 0, rfl, Nat.le_refl _, Nat.zero_le _, .inl rfl⟩
theorem fieldAt35_0y (b o : Nat) (w : World) : (Instr.fieldAt 35 (.pointer (some ⟨b, o, none⟩)) 0).run Try.prog w = .ok (.pointer (some ⟨b, o, none⟩)) w := by go_simp
theorem fieldAt28_1y (b o : Nat) (w : World) : (Instr.fieldAt 28 (.pointer (some ⟨b, o, none⟩)) 1).run Try.prog w = .ok (.pointer (some ⟨b, o + 1, none⟩)) w := by go_simp
set_option maxHeartbeats 8000000 in
theorem toldI (w0 : World) : Calls Try.prog 15 #[] w0 fun e w' => e = .returned (.bool true) ∧ Below w0.heap.size w0 w' := by
  obtain ⟨D, hD⟩ : ∃ D, seed [97] = D := ⟨_, rfl⟩
  have hb := seed_bd [97] 14695981039346656037 (by decide) (by decide)
  rw [show seedFrom 14695981039346656037 [97] = D from hD] at hb
  have HW := Lib.hid (start_wf D hb.1 hb.2)
  have HW1 := Lib.hid (oneOn_wf D hb.1 hb.2)
  have HD := Lib.hid hD
  clear hb hD
  have H := Sb.start w0
  go_enter Try.func15, Try.ntmps15
  go_wp2_with fail
  refine (start_any ⟨#[97]⟩ _ (by decide) D HD.out).mono ?_; rintro e w' ⟨rfl, hb⟩
  replace H := H.call hb
  clear hb
  have Hz : Hid ((stateC (startS D) (.slice none 0 0)).size = 76) := Lib.hid (sc_size rfl rfl)
  have Hz1 : Hid ((stateC (oneOn D) (.slice none 0 0)).size = 76) := Lib.hid (sc_size rfl rfl)
  go_wp2_with (first | (refine wb_alloc H rfl 35 rfl _ Try.zeroValue35 ?_; clear H; intro b1 w H) | (refine wb_put H rfl 0 35 _ _ rfl _ 0 rfl _ _ rfl (.agg (stateC (startS D) (.slice none 0 0))) rfl 76 info35 Hz.out (Nat.le_of_ble_eq_true rfl) rfl (stateC (startS D) (.slice none 0 0)) rfl ?_; clear H; intro w H) | (refine wb_whole H rfl 0 35 _ rfl _ rfl (stateC (startS D) (.slice none 0 0)) rfl _ Try.underlying35 rfl 76 info35 Hz.out ?_))
  replace H : Sb [] w0 w [(b1, stateC (startS D) (.slice none 0 0), 35)] [] := H
  refine (put_ok (startS D) (.slice none 0 0) _ HW.out rfl (.inl ⟨rfl, none, 0, rfl⟩) (start_may D)).mono ?_; rintro e w' ⟨v, rfl, hr, hb⟩
  replace H := H.call hb
  have HR := Lib.hid (Bs.of_row hr)
  obtain ⟨ad, c, hv⟩ : ∃ ad c, v = .slice ad 49 c := by
    obtain ⟨ad, c, hv, _⟩ := HR.out
    exact ⟨ad, c, by rw [hv, start_len]⟩
  subst hv
  clear hb hr
  go_wp2_with fail
  refine (get_any _ _ _ HR.out).mono ?_
  rintro e w' ⟨hb, hG⟩
  rw [getF_img (mayS_fits HW.out rfl (start_may D)) (start_may D)] at hG
  obtain ⟨sl, rfl, hown, _⟩ := hG
  replace H := H.call hb
  obtain ⟨ad2, c2, rfl⟩ := own_form hown
  clear hb hown HR
  have Hz2 : Hid ((stateC (startS D) (.slice ad2 (startS D).g.L.length c2)).size = 76) := Lib.hid (sc_size rfl rfl)
  go_wp2_with (first | (refine wb_alloc H rfl 35 rfl _ Try.zeroValue35 ?_; clear H; intro b4 w H) | (refine wb_put H rfl 0 35 _ _ rfl _ 0 rfl _ _ rfl (.agg (stateC (startS D) (.slice ad2 (startS D).g.L.length c2))) rfl 76 info35 Hz2.out (Nat.le_of_ble_eq_true rfl) rfl (stateC (startS D) (.slice ad2 (startS D).g.L.length c2)) rfl ?_; clear H; intro w H))
  replace H : Sb [] w0 w [(b4, stateC (startS D) (.slice ad2 (startS D).g.L.length c2), 35), (b1, stateC (startS D) (.slice none 0 0), 35)] [] := H
  refine (get_any _ [] _ (bs_nil _)).mono ?_
  rintro e w' ⟨hb, hG⟩
  rw [getF_nil] at hG
  subst hG
  replace H := H.call hb
  clear hb
  go_wp2_with (first | (refine wb_alloc H rfl 35 rfl _ Try.zeroValue35 ?_; clear H; intro b6 w H) | (refine wb_put H rfl 0 35 _ _ rfl _ 0 rfl _ _ rfl (.agg zC) rfl 76 info35 zC_size (Nat.le_of_ble_eq_true rfl) zC_one zC rfl ?_; clear H; intro w H) | (refine wb_put H rfl 2 4 _ _ rfl _ 2 rfl _ _ rfl (.bool true) rfl 1 info4 rfl (by rw [Hz.out]; decide) rfl (stateC (oneOn D) (.slice none 0 0)) rfl ?_; clear H; intro w H) | (refine wb_whole H rfl 2 35 _ rfl _ rfl (stateC (oneOn D) (.slice none 0 0)) rfl _ Try.underlying35 rfl 76 info35 Hz1.out ?_))
  replace H : Sb [] w0 w [(b6, zC, 35), (b4, stateC (startS D) (.slice ad2 (startS D).g.L.length c2), 35), (b1, stateC (oneOn D) (.slice none 0 0), 35)] [] := H
  refine (put_no (oneOn D) (.slice none 0 0) _ HW1.out rfl (.inl ⟨rfl, none, 0, rfl⟩) (oneOn_may D)).mono ?_; rintro e w' ⟨rfl, hb⟩
  replace H := H.call hb
  clear hb
  go_wp2_with fail
  have e0 := (H.call ((Below.refl _ w').drew)).holds
  refine Gs_start (T := [((⟨b4, 1, none⟩ : Addr), Value.int .u64 D, 16)]) (n := 44) (by kernel_rfl) rfl ?_ ?_
  · intro t ht _
    simp at ht
    subst ht
    exact cell_of_row _ b4 1 _ 35 (0, 0) (e0 _ (List.mem_cons_of_mem _ (List.mem_cons_self ..)))
  clear e0
  replace H : Sb [] w0 ({ w' with drawn := w'.drawn + 1 } : World) _ _ := H.call ((Below.refl _ w').drew)
  generalize ({ w' with drawn := w'.drawn + 1 } : World) = w1 at *
  refine Gv_val 0 rfl (by kernel_rfl) (some 34) rfl rfl (.int .i64 0) (by go_simp) ?_
  simp only [Act.put, List.setIfInBounds_toArray, List.set_cons_succ, List.set_cons_zero]
  refine Gv_val 1 rfl (by kernel_rfl) (some 35) rfl rfl (.bool true) (by go_simp) ?_
  simp only [Act.put, List.setIfInBounds_toArray, List.set_cons_succ, List.set_cons_zero]
  refine Gv_val 2 rfl (by kernel_rfl) (some 36) rfl rfl (.bool true) (by go_simp) ?_
  simp only [Act.put, List.setIfInBounds_toArray, List.set_cons_succ, List.set_cons_zero]
  refine Gv_val 3 rfl (by kernel_rfl) (some 37) rfl rfl (.slice ad 49 c) (by go_simp) ?_
  simp only [Act.put, List.setIfInBounds_toArray, List.set_cons_succ, List.set_cons_zero]
  refine Gv_val 4 rfl (by kernel_rfl) (some 38) rfl rfl (.int .i64 49) (by go_simp) ?_
  simp only [Act.put, List.setIfInBounds_toArray, List.set_cons_succ, List.set_cons_zero]
  refine Gv_val 5 rfl (by kernel_rfl) (some 39) rfl rfl (.bool true) (by go_simp) ?_
  simp only [Act.put, List.setIfInBounds_toArray, List.set_cons_succ, List.set_cons_zero]
  refine Gv_val 6 rfl (by kernel_rfl) (some 40) rfl rfl (.bool true) (by go_simp) ?_
  simp only [Act.put, List.setIfInBounds_toArray, List.set_cons_succ, List.set_cons_zero]
  refine Gv_val 7 rfl (by kernel_rfl) (some 41) rfl rfl (.bool true) (by go_simp) ?_
  simp only [Act.put, List.setIfInBounds_toArray, List.set_cons_succ, List.set_cons_zero]
  refine Gv_val 8 rfl (by kernel_rfl) (some 42) rfl rfl (.int .i64 0) (by go_simp) ?_
  simp only [Act.put, List.setIfInBounds_toArray, List.set_cons_succ, List.set_cons_zero]
  refine Gv_val 9 rfl (by kernel_rfl) (some 43) rfl rfl (.bool true) (by go_simp) ?_
  simp only [Act.put, List.setIfInBounds_toArray, List.set_cons_succ, List.set_cons_zero]
  refine Gv_val 10 rfl (by kernel_rfl) (some 44) rfl rfl (.bool true) (by go_simp) ?_
  simp only [Act.put, List.setIfInBounds_toArray, List.set_cons_succ, List.set_cons_zero]
  refine Gv_val 11 rfl (by kernel_rfl) (some 45) rfl rfl (.bool true) (by go_simp) ?_
  simp only [Act.put, List.setIfInBounds_toArray, List.set_cons_succ, List.set_cons_zero]
  refine Gv_field 12 (fun d _ _ _ _ h => by cases d <;> exact h) (by kernel_rfl) rfl _ _ _ rfl rfl (some 46) rfl (by kernel_rfl) (by kernel_rfl) (HTof rfl) _ _ rfl (fieldAt35_0y _ _) ?_
  simp only [Act.put, List.setIfInBounds_toArray, List.set_cons_succ, List.set_cons_zero]
  refine Gv_field 13 (fun d _ _ _ _ h => by cases d <;> exact h) (by kernel_rfl) rfl _ _ _ rfl rfl (some 47) rfl (by kernel_rfl) (by kernel_rfl) (HTof rfl) _ _ rfl (fieldAt28_1y _ _) ?_
  simp only [Act.put, List.setIfInBounds_toArray, List.set_cons_succ, List.set_cons_zero]
  refine Gv_load 14 16 (fun d _ _ _ _ h => by cases d <;> exact h) (by kernel_rfl) rfl _ _ rfl rfl (some 48) rfl (by kernel_rfl) (by kernel_rfl) (HTof rfl) _ rfl Try.isAgg22 _ (List.Mem.head _) (by kernel_rfl) ?_
  simp only [Act.put, List.setIfInBounds_toArray, List.set_cons_succ, List.set_cons_zero]
  refine Gv_call 15 rfl (by kernel_rfl) (some 49) rfl rfl 23 #[.string ⟨#[97]⟩] (by go_simp) (.int .u64 D) (by have h := rseed_any ⟨#[97]⟩ w1 (by decide); rw [show seed (⟨#[97]⟩ : ByteArray).data.toList = D from HD.out] at h; exact h) ?_
  simp only [Act.put, List.setIfInBounds_toArray, List.set_cons_succ, List.set_cons_zero]
  refine Gs_tail' 16 (by kernel_rfl) rfl (by kernel_rfl) rfl ?_
  simp only [List.drop_succ_cons, List.drop_zero]
  have Hp3 : Hid ((stateC (startS D) (.slice ad2 (startS D).g.L.length c2))[66]? = some (.int .i64 (-1))) := Lib.hid rfl
  go_wp2_with (first | (refine wb_cell H rfl 1 3 _ rfl _ 66 rfl _ _ rfl Try.isAgg3 (.int .i64 (-1)) Hp3.out ?_) | (refine wb_whole H rfl 2 35 _ rfl _ rfl (stateC (oneOn D) (.slice none 0 0)) rfl _ Try.underlying35 rfl 76 info35 Hz1.out ?_))
  refine (of_no (oneOn D) (.slice none 0 0) _ HW1.out rfl (.inl ⟨rfl, none, 0, rfl⟩) (oneOn_may D)).mono ?_; rintro e w' ⟨rfl, hb⟩
  replace H := H.call hb
  clear hb
  go_wp2_with fail
  refine (sum_any _ [] _ (bs_nil _)).mono ?_; rintro e w2 ⟨rfl, rfl⟩
  rw [show seed [] = 14695981039346656037 from rfl]
  go_wp2_with fail
  go_ret
  exact ⟨rfl, H.below⟩
end Go.Proofs.Ytijnfeigoggaeaa.game
