/- FoldInputs: the walk (printed by mkyb.py). The frame of FoldInputs: what came in stays as it was. -/
import Derived.Test.YtdopfonebpklkaaFoldInputs2
import Derived.Test.YtdopfonebpklkaaRows
import Derived.WalkKit
import Derived.ProofKit
import Derived.OpenShut
import Derived.Below
import Derived.Carry
namespace Go.Proofs.Ytdopfonebpklkaa.game
open Go.ChangeShapes Go.WideShapes Go.ChangeAt Go.RowKit dice
set_option maxRecDepth 100000

theorem info24m : (Try.prog.info? 24).map (·.size) = some 3 := by kernel_rfl
theorem seedStep_wf (h : Int) (c : UInt8) : (Lit.int .u64 (seedStep h c)).wf = true := by
  unfold seedStep
  rw [IntKind.wrap_u64]
  exact wu64 (Int.emod_nonneg _ (by decide)) (Int.emod_lt_of_pos _ (by decide))
theorem seedFrom_wf : ∀ (l : List UInt8) (h : Int), (Lit.int .u64 h).wf = true → (Lit.int .u64 (seedFrom h l)).wf = true
  | [], _, hh => hh
  | c :: l, h, _ => seedFrom_wf l _ (seedStep_wf h c)
theorem seed_wf (l : List UInt8) : (Lit.int .u64 (seed l)).wf = true := seedFrom_wf l _ (by decide)
theorem slot_at (x : Int) : ∃ k : Nat, k < 8 ∧ Go.RowKit.wrap64 ((IntKind.u64.wrap x).tmod 8) = (k : Int) := by
  have h0 : 0 ≤ IntKind.u64.wrap x := by rw [IntKind.wrap_u64]; exact Int.emod_nonneg _ (by decide)
  rw [Int.tmod_eq_emod_of_nonneg h0]
  generalize IntKind.u64.wrap x = x at *
  exact ⟨(x % 8).toNat, by omega, by rw [IntWalk.wrap64_in _ (by omega)]; omega⟩
set_option maxHeartbeats 4000000 in
theorem inputsBig (s : ByteArray) (slot : Int) (i : Inp) (w0 : World) (hi : i.ok) (h : 20 < s.size ∨ i.z = true ∨ i.x = -128 ∨ i.y = -128) :
    Calls Try.prog 3 #[.string s, .int .i64 slot, .agg (inpL i).toArray] w0 fun e w' => e = .returned (.bool true) ∧ Below w0.heap.size w0 w' := by
  have H := Sb.start w0
  rcases Nat.lt_or_ge 20 s.size with h1 | h1
  · clear h
    go_enter Try.func3, Try.ntmps3
    go_wp2_with (first | (refine wb_box H rfl 24 _ rfl (inpL i).toArray rfl ?_; clear H; intro b5 w H))
    refine (told_any _).mono ?_; rintro e w5 ⟨rfl, hb⟩
    replace H := H.call hb
    clear hb
    go_wp2_with fail
    go_ret
    exact ⟨rfl, H.below⟩
  have q0 : decide ((20 : Int) < (s.size : Int)) = false := decide_eq_false (by omega)
  cases hz : i.z with
  | true =>
    clear h
    have Heq : Hid (∀ w, (Op.equalIn 10000 24 (.agg (inpL i).toArray) (.agg #[.int .i8 0, .int .i8 0, .int .u8 0])).run Try.prog w = .ok true w) := Lib.hid (fun w => by rw [← hz]; exact eq39 w i hi)
    go_enter Try.func3, Try.ntmps3
    go_wp2_with (first | (refine wb_box H rfl 24 _ rfl (inpL i).toArray rfl ?_; clear H; intro b5 w H) | (refine wb_whole H rfl 0 24 _ rfl _ rfl (inpL i).toArray rfl _ Try.underlying24 rfl 3 info24m rfl ?_; have heq := Heq.out) | (refine wl_build rfl 24 _ rfl #[.int .i8 0, .int .i8 0, .int .u8 0] (by kernel_rfl) ?_))
    refine (told_any _).mono ?_; rintro e w5 ⟨rfl, hb⟩
    replace H := H.call hb
    clear hb
    go_wp2_with fail
    go_ret
    exact ⟨rfl, H.below⟩
  | false =>
    have Heq : Hid (∀ w, (Op.equalIn 10000 24 (.agg (inpL i).toArray) (.agg #[.int .i8 0, .int .i8 0, .int .u8 0])).run Try.prog w = .ok false w) := Lib.hid (fun w => by rw [← hz]; exact eq39 w i hi)
    by_cases hx : i.x = -128
    · have qx : decide (i.x = -128) = true := decide_eq_true hx
      have qx2 : (i.x == -128) = true := by simp [hx]
      clear h hx
      go_enter Try.func3, Try.ntmps3
      go_wp2_with (first | (refine wb_box H rfl 24 _ rfl (inpL i).toArray rfl ?_; clear H; intro b5 w H) | (refine wb_whole H rfl 0 24 _ rfl _ rfl (inpL i).toArray rfl _ Try.underlying24 rfl 3 info24m rfl ?_; have heq := Heq.out) | (refine wl_build rfl 24 _ rfl #[.int .i8 0, .int .i8 0, .int .u8 0] (by kernel_rfl) ?_) | (refine wb_cell H rfl 0 22 _ rfl _ 0 rfl _ _ rfl Try.isAgg22 (.int .i8 i.x) rfl ?_) | (refine wb_cell H rfl 0 22 _ rfl _ 1 rfl _ _ rfl Try.isAgg22 (.int .i8 i.y) rfl ?_))
      refine (told_any _).mono ?_; rintro e w5 ⟨rfl, hb⟩
      replace H := H.call hb
      clear hb
      go_wp2_with fail
      go_ret
      exact ⟨rfl, H.below⟩
    · have hy : i.y = -128 := by
        rcases h with h | h | h | h
        · omega
        · rw [hz] at h; cases h
        · exact absurd h hx
        · exact h
      have qx : decide (i.x = -128) = false := decide_eq_false hx
      have qx2 : (i.x == -128) = false := by simp [hx]
      have qy : decide (i.y = -128) = true := decide_eq_true hy
      have qy2 : (i.y == -128) = true := by simp [hy]
      clear h hx hy
      go_enter Try.func3, Try.ntmps3
      go_wp2_with (first | (refine wb_box H rfl 24 _ rfl (inpL i).toArray rfl ?_; clear H; intro b5 w H) | (refine wb_whole H rfl 0 24 _ rfl _ rfl (inpL i).toArray rfl _ Try.underlying24 rfl 3 info24m rfl ?_; have heq := Heq.out) | (refine wl_build rfl 24 _ rfl #[.int .i8 0, .int .i8 0, .int .u8 0] (by kernel_rfl) ?_) | (refine wb_cell H rfl 0 22 _ rfl _ 0 rfl _ _ rfl Try.isAgg22 (.int .i8 i.x) rfl ?_) | (refine wb_cell H rfl 0 22 _ rfl _ 1 rfl _ _ rfl Try.isAgg22 (.int .i8 i.y) rfl ?_))
      refine (told_any _).mono ?_; rintro e w5 ⟨rfl, hb⟩
      replace H := H.call hb
      clear hb
      go_wp2_with fail
      go_ret
      exact ⟨rfl, H.below⟩
set_option maxHeartbeats 16000000 in
theorem inputsWalk (sd : ByteArray) (slot : Int) (i : Inp) (w0 : World) (hi : i.ok) (hs : sd.size ≤ 20) (hz : i.z = false) (hx : i.x ≠ -128) (hy : i.y ≠ -128) :
    Calls Try.prog 3 #[.string sd, .int .i64 slot, .agg (inpL i).toArray] w0 fun e w' => e = .returned (.bool true) ∧ Below w0.heap.size w0 w' := by
  obtain ⟨D, hd⟩ : ∃ D, seed sd.data.toList = D := ⟨_, rfl⟩
  have hsm : sd.size ≤ maxLen := by unfold maxLen; omega
  have HS := Lib.hid (fun w => Start_any sd w hsm D hd)
  have hD : (Lit.int .u64 D).wf = true := by rw [← hd]; exact seed_wf _
  have Heq : Hid (∀ w, (Op.equalIn 10000 24 (.agg (inpL i).toArray) (.agg #[.int .i8 0, .int .i8 0, .int .u8 0])).run Try.prog w = .ok false w) := Lib.hid (fun w => by rw [← hz]; exact eq39 w i hi)
  have hm : mayIn i = true := by
    have a := hi.x0
    have b := hi.y0
    unfold mayIn
    rw [decide_eq_true (show -127 ≤ i.x by omega), decide_eq_true (show -127 ≤ i.y by omega)]
    rfl
  obtain ⟨k, hk, hkv⟩ := slot_at slot
  have hS0 := startS_full D hD
  have hA0 := in_e0 (D := D) hk hz
  obtain ⟨t, hA1, htv, htT, htf, htm, cs, htc, hton⟩ := in_e1 (D := D) hk hm
  obtain ⟨u, hA2, huT, hum, cu, huc, huon⟩ := in_f1 hk htv htT htf htm
  have hA3 := in_f2 hk htv htT htm hz
  have htw := applyF_wf (s := startS D) hS0.g hS0.t8 hA1
  have huw := applyF_wf htw.1 htw.2 hA2
  have HA0 := Lib.hid hA0
  have HA1 := Lib.hid hA1
  have HA2 := Lib.hid hA2
  have HA3 := Lib.hid hA3
  have HS0 := Lib.hid hS0
  have Htw := Lib.hid htw
  have Huw := Lib.hid huw
  have HMay : Hid (mayS u = true) := Lib.hid hum.mayS
  have Hz0 := Lib.hid (fun sl => sc_size (s := startS D) (sl := sl) rfl rfl)
  have Hzt := Lib.hid (fun sl => sc_size (s := t) (sl := sl) htw.1.s8 htw.2)
  have Hzu := Lib.hid (fun sl => sc_size (s := u) (sl := sl) huw.1.s8 huw.2)
  have Hs0 : Hid (∀ sl, splice zC 0 (Value.cells (.agg (stateC (startS D) sl))).toList = stateC (startS D) sl) := Lib.hid (fun sl => splice_all _ _ (by rw [zC_size]; exact (Hz0.out sl).symm))
  have Hst : Hid (∀ sl, splice zC 0 (Value.cells (.agg (stateC t sl))).toList = stateC t sl) := Lib.hid (fun sl => splice_all _ _ (by rw [zC_size]; exact (Hzt.out sl).symm))
  have Hsu : Hid (∀ sl, splice zC 0 (Value.cells (.agg (stateC u sl))).toList = stateC u sl) := Lib.hid (fun sl => splice_all _ _ (by rw [zC_size]; exact (Hzu.out sl).symm))
  have hone0 : (Value.cells (.agg (stateC (startS D) (.slice none 0 0)))).toList.all (·.oneCell') = true := rfl
  have HO0 := Lib.hid hone0
  have HLn : ∀ (W : World) (R : List RowS), LieIn W R (.slice none 0 0) (startS D).g.L := fun W R => lie_nil W R
  have C1 := Lib.hid (fun sl => show (stateC t sl)[2 + k * 7]? = some (.bool true) by have := sc_ship (s := t) (sl := sl) k 0 cs (.bool cs.on) htc rfl; rwa [hton] at this)
  have C2 := Lib.hid (fun sl => show (stateC u sl)[2 + k * 7]? = some (.bool false) by have := sc_ship (s := u) (sl := sl) k 0 cu (.bool cu.on) huc rfl; rwa [huon] at this)
  have C3 := Lib.hid (fun sl j v hv => sc_seat (s := u) (sl := sl) huw.1.s8 k j _ v huT hv)
  have HEqS : Hid (∀ w, (Op.equalIn 10000 35 (.agg #[.int .i64 (-1), .int .i64 1]) (.agg #[.int .i64 (-1), .int .i64 1])).run Try.prog w = .ok true w) := Lib.hid (fun w => by have := eq30w w ⟨-1, 1⟩ ⟨-1, 1⟩ ⟨rfl, rfl⟩ ⟨rfl, rfl⟩; simpa using this)
  have HWA : Hid ((joinK k).wf) := Lib.hid ⟨rfl, w64' (by show (-9223372036854775808 : Int) ≤ (k : Int); omega) (by show (k : Int) ≤ 9223372036854775807; omega), rfl, rfl⟩
  have HWB : Hid ((leaveK k).wf) := Lib.hid ⟨rfl, w64' (by show (-9223372036854775808 : Int) ≤ (k : Int); omega) (by show (k : Int) ≤ 9223372036854775807; omega), rfl, rfl⟩
  have He0 : Hid ((⟨0, [], inAt k i⟩ : Ent).wf) := Lib.hid ⟨inAt_len _ _, inAt_ok hi, fun x hx => by simp at hx, by simp⟩
  have He1 : Hid ((⟨0, [joinK k], inAt k i⟩ : Ent).wf) := Lib.hid ⟨inAt_len _ _, inAt_ok hi, fun x hx => by simp at hx; subst hx; exact HWA.out, by simp⟩
  have Hf1 : Hid ((⟨1, [leaveK k], z8⟩ : Ent).wf) := Lib.hid ⟨rfl, z8_ok, fun x hx => by simp at hx; subst hx; exact HWB.out, by simp⟩
  have Hf2 : Hid ((⟨1, [leaveK k], inAt k i⟩ : Ent).wf) := Lib.hid ⟨inAt_len _ _, inAt_ok hi, fun x hx => by simp at hx; subst hx; exact HWB.out, by simp⟩
  have HP0 : Hid (splice (entC ⟨0, [], z8⟩ (.slice none 0 0)) (2 + k * 3) (inpL i) = entC ⟨0, [], inAt k i⟩ (.slice none 0 0)) := Lib.hid (en_put k i hk)
  have HP1 : Hid (∀ bl : Nat, splice (entC ⟨1, [leaveK k], z8⟩ (.slice (some ⟨bl, 0, none⟩) 1 1)) (2 + k * 3) (inpL i) = entC ⟨1, [leaveK k], inAt k i⟩ (.slice (some ⟨bl, 0, none⟩) 1 1)) := Lib.hid (fun bl => en_put k i hk)
  have HF0 : Hid (2 + k * 3 + 3 ≤ (entC ⟨0, [], z8⟩ (.slice none 0 0)).size) := Lib.hid (by rw [en_size (show z8.length = 8 from rfl)]; omega)
  have HF1 : Hid (∀ bl : Nat, 2 + k * 3 + 3 ≤ (entC ⟨1, [leaveK k], z8⟩ (.slice (some ⟨bl, 0, none⟩) 1 1)).size) := Lib.hid (fun bl => by rw [en_size (show z8.length = 8 from rfl)]; omega)
  have HeZ : Hid (splice zE 0 (Value.cells (.agg (entC ⟨0, [], z8⟩ (.slice none 0 0)))).toList = entC ⟨0, [], z8⟩ (.slice none 0 0)) := Lib.hid (splice_all _ _ rfl)
  have HeY : Hid (∀ bl : Nat, splice zE 0 (Value.cells (.agg (entC ⟨1, [leaveK k], z8⟩ (.slice (some ⟨bl, 0, none⟩) 1 1)))).toList = entC ⟨1, [leaveK k], z8⟩ (.slice (some ⟨bl, 0, none⟩) 1 1)) := Lib.hid (fun bl => splice_all _ _ rfl)
  have HF2 : Hid (1 + 1 ≤ (entC ⟨0, [], inAt k i⟩ (.slice none 0 0)).size) := Lib.hid (by rw [en_size (inAt_len _ _)]; decide)
  have qx : decide (i.x = -128) = false := decide_eq_false hx
  have qx2 : (i.x == -128) = false := by simp [hx]
  have qy : decide (i.y = -128) = false := decide_eq_false hy
  have qy2 : (i.y == -128) = false := by simp [hy]
  have hk8 : (k : Int) < 8 := by omega
  have q0 : decide ((20 : Int) < (sd.size : Int)) = false := decide_eq_false (by omega)
  have H := Sb.start w0
  clear hd hsm hD hS0 hA0 hA1 htv htT htf htm htc hton hA2 huT hum huc huon hA3 htw huw hm hi hz hx hy hone0
  have HLN := Lib.hid HLn
  clear HLn
  go_enter Try.func3, Try.ntmps3
  go_upto_region 3 with (first | (refine wb_box H rfl 24 _ rfl (inpL i).toArray rfl ?_; clear H; intro b5 w H) | (refine wb_whole H rfl 0 24 _ rfl _ rfl (inpL i).toArray rfl _ Try.underlying24 rfl 3 info24m rfl ?_; have heq := Heq.out) | (refine wl_build rfl 24 _ rfl #[.int .i8 0, .int .i8 0, .int .u8 0] (by kernel_rfl) ?_) | (refine wb_cell H rfl 0 22 _ rfl _ 0 rfl _ _ rfl Try.isAgg22 (.int .i8 i.x) rfl ?_) | (refine wb_cell H rfl 0 22 _ rfl _ 1 rfl _ _ rfl Try.isAgg22 (.int .i8 i.y) rfl ?_))
  try clear heq
  go_upto_region 4 with fail
  rw [hkv]
  clear hkv qx qx2 qy qy2
  generalize hS0 : startS D = S0 at *
  clear hS0
  go_wp2_with fail
  refine (HS.out _).mono ?_; rintro e w2 ⟨rfl, hb⟩
  replace H := H.call hb
  clear hb HS
  go_upto_region 5 with (first | (refine wb_alloc H rfl 40 rfl _ Try.zeroValue40 ?_; clear H; intro b8 w H) | (refine wb_put H rfl 0 40 _ _ rfl _ 0 rfl _ _ rfl (.agg (stateC S0 (.slice none 0 0))) rfl 76 info35 (Hz0.out (.slice none 0 0)) (Nat.le_of_ble_eq_true rfl) HO0.out _ (Hs0.out (.slice none 0 0)) ?_; clear H; intro w H))
  replace H : Sb [] w0 w [(b8, stateC S0 (.slice none 0 0), 40), (b5, (inpL i).toArray, 24)] [] := H
  go_upto_region 6 with (first | (refine wl_build rfl 45 _ rfl (entC ⟨0, [], z8⟩ (.slice none 0 0)) (by kernel_rfl) ?_) | (refine wb_alloc H rfl 45 rfl _ Try.zeroValue45 ?_; clear H; intro b9 w H) | (refine wb_put H rfl 0 45 _ _ rfl _ 0 rfl _ _ rfl (.agg (entC ⟨0, [], z8⟩ (.slice none 0 0))) rfl 26 info42 rfl (Nat.le_of_ble_eq_true rfl) rfl _ HeZ.out ?_; clear H; intro w H))
  replace H : Sb [] w0 w [(b9, entC ⟨0, [], z8⟩ (.slice none 0 0), 45), (b8, stateC S0 (.slice none 0 0), 40), (b5, (inpL i).toArray, 24)] [] := H
  go_upto_region 7 with (first | (refine wb_whole H rfl 2 24 _ rfl _ rfl (inpL i).toArray rfl _ Try.underlying24 rfl 3 info24m rfl ?_) | (refine wb_put H rfl 0 24 _ _ rfl _ (2 + k * 3) rfl _ _ rfl (.agg (inpL i).toArray) rfl 3 info24m rfl HF0.out rfl _ HP0.out ?_; clear H; intro w H))
  replace H : Sb [] w0 w [(b9, entC ⟨0, [], inAt k i⟩ (.slice none 0 0), 45), (b8, stateC S0 (.slice none 0 0), 40), (b5, (inpL i).toArray, 24)] [] := H
  go_wp2_with (first | (refine wb_whole H rfl 1 40 _ rfl _ rfl (stateC S0 (.slice none 0 0)) rfl _ Try.underlying40 rfl 76 info35 (Hz0.out (.slice none 0 0)) ?_) | (refine wb_whole H rfl 0 45 _ rfl _ rfl (entC ⟨0, [], inAt k i⟩ (.slice none 0 0)) rfl _ Try.underlying45 rfl 26 info42 (en_size (by first | rfl | exact inAt_len _ _)) ?_))
  refine (Apply_in S0 _ ⟨0, [], inAt k i⟩ _ w0 _ _ _ H (HLN.out _ _) HS0.out.g HS0.out.t8 He0.out (.inl ⟨rfl, _, _, rfl⟩)).mono ?_
  rw [HA0.out]
  rintro e w5 ⟨⟨sl1, R1, rfl, H1, hL, hR1⟩, -⟩
  clear H
  have H := H1
  clear H1
  have hL1 := Lib.hid (show LieIn w0 R1 sl1 S0.g.L from hL)
  clear hL
  have HO1 := Lib.hid (sc_oneI (s := S0) (hL1.out.shots H))
  clear hR1 hL1
  go_upto_region 8 with (first | (refine wb_alloc H rfl 40 rfl _ Try.zeroValue40 ?_; clear H; intro b10 w H) | (refine wb_put H rfl 0 40 _ _ rfl _ 0 rfl _ _ rfl (.agg (stateC S0 sl1)) rfl 76 info35 (Hz0.out sl1) (Nat.le_of_ble_eq_true rfl) HO1.out _ (Hs0.out sl1) ?_; clear H; intro w H))
  replace H : Sb [] w0 w [(b10, stateC S0 sl1, 40), (b9, entC ⟨0, [], inAt k i⟩ (.slice none 0 0), 45), (b8, stateC S0 (.slice none 0 0), 40), (b5, (inpL i).toArray, 24)] R1 := H
  go_upto_region 9 with (first | (refine wl_build rfl 49 _ rfl (evC (joinK k)) (by kernel_rfl) ?_) | (refine wb_mk1 H rfl 42 49 _ rfl Try.underlying42 (evC (joinK k)) rfl 4 info_ev rfl (by decide) (by decide) ?_; clear H; intro be w H) | (refine wb_put H rfl 2 42 _ _ rfl _ 1 rfl _ _ rfl (.slice (some ⟨be, 0, none⟩) 1 1) rfl 1 info36m rfl HF2.out rfl (entC ⟨0, [joinK k], inAt k i⟩ (.slice (some ⟨be, 0, none⟩) 1 1)) en_putEv ?_; clear H; intro w H))
  replace H : Sb [] w0 w [(be, evC (joinK k), 49), (b10, stateC S0 sl1, 40), (b9, entC ⟨0, [joinK k], inAt k i⟩ (.slice (some ⟨be, 0, none⟩) 1 1), 45), (b8, stateC S0 (.slice none 0 0), 40), (b5, (inpL i).toArray, 24)] R1 := H
  go_wp2_with (first | (refine wb_whole H rfl 3 40 _ rfl _ rfl (stateC S0 (.slice none 0 0)) rfl _ Try.underlying40 rfl 76 info35 (Hz0.out (.slice none 0 0)) ?_) | (refine wb_whole H rfl 2 45 _ rfl _ rfl (entC ⟨0, [joinK k], inAt k i⟩ (.slice (some ⟨be, 0, none⟩) 1 1)) rfl _ Try.underlying45 rfl 26 info42 (en_size (by first | rfl | exact inAt_len _ _)) ?_))
  refine (Apply_in S0 _ ⟨0, [joinK k], inAt k i⟩ _ w0 _ _ _ H (HLN.out _ _) HS0.out.g HS0.out.t8 He1.out (EvQ.ev (Q := [(be, evC (joinK k), 49)]) (.inr ⟨be, _, rfl, HWA.out, rfl, List.mem_cons_self ..⟩) H (fun p hp => by rw [List.mem_singleton] at hp; subst hp; exact (List.mem_cons_self ..)))).mono ?_
  rw [HA1.out]
  rintro e w5 ⟨⟨sl2, R2, rfl, H1, hL, hR2⟩, -⟩
  clear H
  have H := H1
  clear H1
  have hL2 := Lib.hid (show LieIn w0 R2 sl2 t.g.L from hL)
  clear hL
  have HO2 := Lib.hid (sc_oneI (s := t) (hL2.out.shots H))
  clear hR2
  go_upto_region 10 with (first | (refine wb_alloc H rfl 40 rfl _ Try.zeroValue40 ?_; clear H; intro b12 w H) | (refine wb_put H rfl 0 40 _ _ rfl _ 0 rfl _ _ rfl (.agg (stateC t sl2)) rfl 76 info35 (Hzt.out sl2) (Nat.le_of_ble_eq_true rfl) HO2.out _ (Hst.out sl2) ?_; clear H; intro w H))
  replace H : Sb [] w0 w [(b12, stateC t sl2, 40), (be, evC (joinK k), 49), (b10, stateC S0 sl1, 40), (b9, entC ⟨0, [joinK k], inAt k i⟩ (.slice (some ⟨be, 0, none⟩) 1 1), 45), (b8, stateC S0 (.slice none 0 0), 40), (b5, (inpL i).toArray, 24)] R2 := H
  go_upto_region 11 with (first | (refine wl_build rfl 49 _ rfl (evC (leaveK k)) (by kernel_rfl) ?_) | (refine wb_mk1 H rfl 42 49 _ rfl Try.underlying42 (evC (leaveK k)) rfl 4 info_ev rfl (by decide) (by decide) ?_; clear H; intro bl w H) | (refine wl_build rfl 45 _ rfl (entC ⟨1, [leaveK k], z8⟩ (.slice (some ⟨bl, 0, none⟩) 1 1)) (by kernel_rfl) ?_) | (refine wb_alloc H rfl 45 rfl _ Try.zeroValue45 ?_; clear H; intro b14 w H) | (refine wb_put H rfl 0 45 _ _ rfl _ 0 rfl _ _ rfl (.agg (entC ⟨1, [leaveK k], z8⟩ (.slice (some ⟨bl, 0, none⟩) 1 1))) rfl 26 info42 rfl (Nat.le_of_ble_eq_true rfl) rfl _ (HeY.out bl) ?_; clear H; intro w H))
  replace H : Sb [] w0 w [(b14, entC ⟨1, [leaveK k], z8⟩ (.slice (some ⟨bl, 0, none⟩) 1 1), 45), (bl, evC (leaveK k), 49), (b12, stateC t sl2, 40), (be, evC (joinK k), 49), (b10, stateC S0 sl1, 40), (b9, entC ⟨0, [joinK k], inAt k i⟩ (.slice (some ⟨be, 0, none⟩) 1 1), 45), (b8, stateC S0 (.slice none 0 0), 40), (b5, (inpL i).toArray, 24)] R2 := H
  go_wp2_with (first | (refine wb_whole H rfl 2 40 _ rfl _ rfl (stateC t sl2) rfl _ Try.underlying40 rfl 76 info35 (Hzt.out sl2) ?_) | (refine wb_whole H rfl 0 45 _ rfl _ rfl (entC ⟨1, [leaveK k], z8⟩ (.slice (some ⟨bl, 0, none⟩) 1 1)) rfl _ Try.underlying45 rfl 26 info42 (en_size (by first | rfl | exact inAt_len _ _)) ?_))
  refine (Apply_in t _ ⟨1, [leaveK k], z8⟩ _ w0 _ _ _ H hL2.out Htw.out.1 Htw.out.2 Hf1.out (EvQ.ev (Q := [(bl, evC (leaveK k), 49)]) (.inr ⟨bl, _, rfl, HWB.out, rfl, List.mem_cons_self ..⟩) H (fun p hp => by rw [List.mem_singleton] at hp; subst hp; exact (List.mem_cons_of_mem _ (List.mem_cons_self ..))))).mono ?_
  rw [HA2.out]
  rintro e w5 ⟨⟨sl3, R3, rfl, H1, hL, hR3⟩, -⟩
  clear H
  have H := H1
  clear H1
  have hL3 := Lib.hid (show LieIn w0 R3 sl3 u.g.L from hL)
  clear hL
  have HO3 := Lib.hid (sc_oneI (s := u) (hL3.out.shots H))
  have hL2b := Lib.hid (hL2.out.mono hR3)
  clear hR3 hL2
  go_upto_region 12 with (first | (refine wb_alloc H rfl 40 rfl _ Try.zeroValue40 ?_; clear H; intro b15 w H) | (refine wb_put H rfl 0 40 _ _ rfl _ 0 rfl _ _ rfl (.agg (stateC u sl3)) rfl 76 info35 (Hzu.out sl3) (Nat.le_of_ble_eq_true rfl) HO3.out _ (Hsu.out sl3) ?_; clear H; intro w H))
  replace H : Sb [] w0 w [(b15, stateC u sl3, 40), (b14, entC ⟨1, [leaveK k], z8⟩ (.slice (some ⟨bl, 0, none⟩) 1 1), 45), (bl, evC (leaveK k), 49), (b12, stateC t sl2, 40), (be, evC (joinK k), 49), (b10, stateC S0 sl1, 40), (b9, entC ⟨0, [joinK k], inAt k i⟩ (.slice (some ⟨be, 0, none⟩) 1 1), 45), (b8, stateC S0 (.slice none 0 0), 40), (b5, (inpL i).toArray, 24)] R3 := H
  go_upto_region 13 with (first | (refine wb_whole H rfl 8 24 _ rfl _ rfl (inpL i).toArray rfl _ Try.underlying24 rfl 3 info24m rfl ?_) | (refine wb_put H rfl 1 24 _ _ rfl _ (2 + k * 3) rfl _ _ rfl (.agg (inpL i).toArray) rfl 3 info24m rfl (HF1.out bl) rfl _ (HP1.out bl) ?_; clear H; intro w H))
  replace H : Sb [] w0 w [(b15, stateC u sl3, 40), (b14, entC ⟨1, [leaveK k], inAt k i⟩ (.slice (some ⟨bl, 0, none⟩) 1 1), 45), (bl, evC (leaveK k), 49), (b12, stateC t sl2, 40), (be, evC (joinK k), 49), (b10, stateC S0 sl1, 40), (b9, entC ⟨0, [joinK k], inAt k i⟩ (.slice (some ⟨be, 0, none⟩) 1 1), 45), (b8, stateC S0 (.slice none 0 0), 40), (b5, (inpL i).toArray, 24)] R3 := H
  go_wp2_with (first | (refine wb_whole H rfl 3 40 _ rfl _ rfl (stateC t sl2) rfl _ Try.underlying40 rfl 76 info35 (Hzt.out sl2) ?_) | (refine wb_whole H rfl 1 45 _ rfl _ rfl (entC ⟨1, [leaveK k], inAt k i⟩ (.slice (some ⟨bl, 0, none⟩) 1 1)) rfl _ Try.underlying45 rfl 26 info42 (en_size (by first | rfl | exact inAt_len _ _)) ?_))
  refine (Apply_in t _ ⟨1, [leaveK k], inAt k i⟩ _ w0 _ _ _ H hL2b.out Htw.out.1 Htw.out.2 Hf2.out (EvQ.ev (Q := [(bl, evC (leaveK k), 49)]) (.inr ⟨bl, _, rfl, HWB.out, rfl, List.mem_cons_self ..⟩) H (fun p hp => by rw [List.mem_singleton] at hp; subst hp; exact (List.mem_cons_of_mem _ (List.mem_cons_of_mem _ (List.mem_cons_self ..)))))).mono ?_
  rw [HA3.out]
  rintro e w5 ⟨⟨sl4, R4, rfl, H1, hL, hR4⟩, -⟩
  clear H
  have H := H1
  clear H1
  have hL4 := Lib.hid (show LieIn w0 R4 sl4 t.g.L from hL)
  clear hL
  have HO4 := Lib.hid (sc_oneI (s := t) (hL4.out.shots H))
  have hL3b := Lib.hid (hL3.out.mono hR4)
  clear hR4 hL3 hL2b
  go_upto_region 14 with (first | (refine wb_alloc H rfl 40 rfl _ Try.zeroValue40 ?_; clear H; intro b17 w H) | (refine wb_put H rfl 0 40 _ _ rfl _ 0 rfl _ _ rfl (.agg (stateC t sl4)) rfl 76 info35 (Hzt.out sl4) (Nat.le_of_ble_eq_true rfl) HO4.out _ (Hst.out sl4) ?_; clear H; intro w H))
  replace H : Sb [] w0 w [(b17, stateC t sl4, 40), (b15, stateC u sl3, 40), (b14, entC ⟨1, [leaveK k], inAt k i⟩ (.slice (some ⟨bl, 0, none⟩) 1 1), 45), (bl, evC (leaveK k), 49), (b12, stateC t sl2, 40), (be, evC (joinK k), 49), (b10, stateC S0 sl1, 40), (b9, entC ⟨0, [joinK k], inAt k i⟩ (.slice (some ⟨be, 0, none⟩) 1 1), 45), (b8, stateC S0 (.slice none 0 0), 40), (b5, (inpL i).toArray, 24)] R4 := H
  go_wp2_with fail
  refine (told_any _).mono ?_; rintro e w6 ⟨rfl, hb⟩
  replace H := H.call hb
  clear hb
  have heq := HEqS.out
  go_wp2_with (first | (refine wb_cell H rfl 4 4 _ rfl _ (2 + k * 7) rfl _ _ rfl Try.isAgg4 (.bool true) (C1.out sl2) ?_) | (refine wb_cell H rfl 1 4 _ rfl _ (2 + k * 7) rfl _ _ rfl Try.isAgg4 (.bool false) (C2.out sl3) ?_) | (refine wb_part H rfl 1 35 _ rfl _ (60 + k * 2) rfl _ _ rfl _ Try.underlying35 rfl 2 info30 [.int .i64 (-1), .int .i64 1] (fun j v hv => C3.out sl3 j v hv) rfl ?_) | (refine wl_build rfl 35 _ rfl #[.int .i64 (-1), .int .i64 1] (by kernel_rfl) ?_) | (refine wb_whole H rfl 1 40 _ rfl _ rfl (stateC u sl3) rfl _ Try.underlying40 rfl 76 info35 (Hzu.out sl3) ?_))
  refine (rmayS_b u sl3 _ Huw.out.1 Huw.out.2 (hL3b.out.shots H).w).mono ?_
  rw [HMay.out]
  rintro e w7 ⟨rfl, hb⟩
  replace H := H.call hb
  clear hb
  go_wp2_with fail
  go_ret
  exact ⟨rfl, H.below⟩
end Go.Proofs.Ytdopfonebpklkaa.game
namespace Go.Proofs.Ytdopfonebpklkaa.game
open Go.ChangeShapes Go.WideShapes Go.ChangeAt Go.RowKit

theorem own : ownKnob Try.prog.godebug = none := by kernel_rfl
theorem laidOut : laidOutB Try.prog = true := by kernel_rfl
/-- What came in reads as it did: below the first new block nothing has turned. -/
theorem trodAll_below {H : Type} {enc : TypeId × Value → H} {P : Program} (hl : laidOutB P = true) {W W' : World} (hb : Below W.heap.size W W') :
    ∀ {ts : List TypeId} {vs : List Value} {ds : List (DataW H)} {ps : List MemPlace}, (∀ t ∈ ts, P.readableRec t = true ∧ t < P.types.size) → DataW.TrodAll enc P W 0 (fun _ => true) true ts vs ds ps → (∀ x ∈ ps, x.block < W.heap.size) →
      DataW.TrodAll enc P W' 0 (fun b => decide (b < W.heap.size)) true ts vs ds ps
  | [], _, _, _, _, h, _ => by
    obtain ⟨rfl, rfl, rfl⟩ := trodAll_nil h
    exact trodAll_mk0
  | t :: ts, _, _, _, ht, h, hlt => by
    obtain ⟨v, vs1, d, ds1, a, b, rfl, rfl, rfl, h1, h2⟩ := trodAll_cons h
    have h0 := ht t (List.mem_cons_self ..)
    exact trodAll_cons_mk (Below.trod hl h0.1 h0.2 h1 hb (fun x hx => hlt x (List.mem_append_left _ hx)))
      (trodAll_below hl hb (fun t' h' => ht t' (List.mem_cons_of_mem _ h')) h2 (fun x hx => hlt x (List.mem_append_right _ hx)))
theorem post_below {H : Type} {enc : TypeId × Value → H} {P : Program} {f : Func} {s : ChangeSpec} {W W' : World} {args : Array Value} {v : Value} {ds gs : List (DataW H)} {before : List MemPlace}
    (hl : laidOutB P = true) (hts : ∀ t ∈ f.params.toList, P.readableRec t = true ∧ t < P.types.size) (hv : s.vars = [])
    (hW : DataW.Whole enc P f.params.toList s.vars false W args.toList ds gs before) (hb : Below W.heap.size W W')
    (hargs : (s.fn H (ds ++ gs)).args = ds) (hvars : (s.fn H (ds ++ gs)).vars = [])
    (hres : DataW.TrodAll enc P W' W.heap.size (fun _ => false) false f.resultTypes.toList (v.resultList f.resultTypes.size) (s.fn H (ds ++ gs)).results []) :
    s.post enc P f false true false false W args v W' := by
  have hW0 := hW
  obtain ⟨p, q, hA, hV, rfl, _, _⟩ := hW0
  rw [hv] at hV
  obtain ⟨rfl, rfl⟩ := trodVars_none hV
  refine ⟨ds, [], p ++ [], [], p, [], hW, hres, ?_, ?_, hb.frame _, fun h => by cases h⟩
  · rw [hargs]
    exact trodAll_below hl hb hts hA (fun x hx => hW.lt x (by simpa using hx))
  · rw [hvars, hv]
    exact hV
end Go.Proofs.Ytdopfonebpklkaa.game
