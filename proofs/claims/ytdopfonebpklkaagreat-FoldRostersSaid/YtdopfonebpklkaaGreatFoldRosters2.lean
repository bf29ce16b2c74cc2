/- FoldRosters: the walk (printed by mkxr.py). -/
import Derived.Test.YtdopfonebpklkaaGreatFoldRosters1
namespace Go.Proofs.YtdopfonebpklkaaGreat.game
open Go.ChangeShapes Go.WideShapes Go.ChangeAt Go.RowKit dice
set_option maxRecDepth 100000

theorem rostersBig (s : ByteArray) (n : Nat) (ad : Option Addr) (c : Nat) (w0 : World) (h : 20 < s.size ∨ 80 < n) :
    Calls Tryz.prog 7 #[.string s, .slice ad n c] w0 fun e w' => e = .returned (.bool true) ∧ Below w0.heap.size w0 w' := by
  rcases Nat.lt_or_ge 20 s.size with h1 | h1
  · clear h
    go_enter Tryz.func7, Tryz.ntmps7
    go_wp2_with fail
    refine (told_any _).mono ?_; rintro e w5 ⟨rfl, hb⟩
    go_wp2_with fail
    go_ret
    exact ⟨rfl, hb⟩
  · have h2 : 80 < n := by omega
    clear h
    go_enter Tryz.func7, Tryz.ntmps7
    go_wp2_with fail
    refine (told_any _).mono ?_; rintro e w5 ⟨rfl, hb⟩
    go_wp2_with fail
    go_ret
    exact ⟨rfl, hb⟩
/-- A roster behind events. -/
def evRs : Int → List Seat → List Evt → Option (Int × List Seat)
  | v, T, [] => some (v, T)
  | v, T, x :: l => (evR v T x).bind fun r => evRs r.1 r.2 l
theorem evsS_roster : ∀ (l : List Evt) {s t : Ste}, evsS s l = some t → evRs s.ver s.T l = some (t.ver, t.T)
  | [], s, t, h => by injection h with h; subst h; rfl
  | x :: l, s, t, h => by
    unfold evsS at h
    obtain ⟨u, hu, h⟩ := Option.bind_eq_some_iff.1 h
    unfold evS at hu
    obtain ⟨r, hr, hu⟩ := Option.bind_eq_some_iff.1 hu
    injection hu with hu
    subst hu
    unfold evRs
    rw [hr, Option.bind_some]
    exact evsS_roster l h
theorem applyF_roster {s t : Ste} {e : Ent} (h : applyF s e = some t) : evRs s.ver s.T e.evs = some (t.ver, t.T) := by
  unfold applyF at h
  split at h
  · obtain ⟨u, hu, h⟩ := Option.bind_eq_some_iff.1 h
    split at h
    · injection h with h
      subst h
      show evRs s.ver s.T e.evs = some (u.ver, u.T)
      exact evsS_roster _ hu
    · cases h
  · cases h
theorem runF_step {s st u : Ste} {log : List Ent} (h : runF s log = some st) {k : Nat} {e : Ent} (he : log[k]? = some e) (hu : runF s (log.take k) = some u) : ∃ t, applyF u e = some t ∧ runF s (log.take (k + 1)) = some t := by
  obtain ⟨hk, hek⟩ := List.getElem?_eq_some_iff.1 he
  have h1 := runF_append (log.take k) (log.drop k) s
  rw [List.take_append_drop, h, hu, Option.bind_some, drop_cons hk, hek] at h1
  have h2 : (applyF u e).bind (fun t => runF t (log.drop (k + 1))) = some st := h1.symm
  obtain ⟨t, ht, _⟩ := Option.bind_eq_some_iff.1 h2
  refine ⟨t, ht, ?_⟩
  rw [List.take_succ_eq_append_getElem hk, hek, runF_append, hu, Option.bind_some]
  show (applyF u e).bind _ = _
  rw [ht]
  rfl
set_option maxHeartbeats 16000000 in
theorem rostersWalk (sd : ByteArray) (L : List Trn) (ad : Option Addr) (c : Nat) (w0 : World) (hs : sd.size ≤ 20) (hn : L.length ≤ 80) (hT : ∀ t ∈ L, t.ok) (hin : TrnW w0 (.slice ad L.length c) L) :
    Calls Tryz.prog 7 #[.string sd, .slice ad L.length c] w0 fun e w' => e = .returned (.bool true) ∧ Below w0.heap.size w0 w' := by
  obtain ⟨D, hd⟩ : ∃ D, seed sd.data.toList = D := ⟨_, rfl⟩
  have hD : (Lit.int .u64 D).wf = true := by rw [← hd]; exact seed_wf _
  have hsm : sd.size ≤ maxLen := by unfold maxLen; omega
  have HM := Lib.hid (make_b sd L (.slice ad L.length c) w0 hsm D hd hD hT hin (by omega))
  have HS := Lib.hid (fun w => Start_any sd w hsm D hd)
  clear hsm hT hin hd
  go_enter Tryz.func7, Tryz.ntmps7
  go_wp2_with fail
  refine HM.out.mono ?_
  rintro e w1 ⟨hb1, ad7, c7, log, st, rfl, hc1, hc2, hlen, hwf, hrun, hlog⟩
  have Hb1 := Lib.hid hb1
  have H := Sb.start w1
  have hl1 : (log.length : Int) ≤ 80 := by omega
  have Hl1 := Lib.hid hl1
  have HD := Lib.hid hD
  have HRn := Lib.hid hrun
  have HWf := Lib.hid hwf
  have HL2 := Lib.hid (fun h => hlog.two (fun e he => (hwf e he).1.i8) h)
  clear hb1 HM hs hn hlen hc1 hc2 hrun hwf hlog hD hl1
  go_wp2_with fail
  refine (HS.out _).mono ?_; rintro e w2 ⟨rfl, hb⟩
  replace H := H.call hb
  clear hb HS
  have Hz0 := Lib.hid (sc_size (s := startS D) (sl := .slice none 0 0) rfl rfl)
  go_upto_region 5 with (first | (refine wb_alloc H rfl 35 rfl _ Tryz.zeroValue35 ?_; clear H; intro b6 w H) | (refine wb_put H rfl 0 35 _ _ rfl _ 0 rfl _ _ rfl (.agg (stateC (startS D) (.slice none 0 0))) rfl 76 info35 Hz0.out (Nat.le_of_ble_eq_true rfl) rfl (stateC (startS D) (.slice none 0 0)) rfl ?_; clear H; intro w H))
  replace H : Sb [] w1 w [(b6, stateC (startS D) (.slice none 0 0), 35)] [] := H
  go_upto_region 6 with fail
  have HB := Lib.hid H
  clear H
  go_loopw [7] (fun i W => ∃ (k : Nat) (st1 : Ste) (sl1 : Value) (R : List RowS), k ≤ log.length ∧ i = .int .i64 k ∧ Hid (Sb [] w1 W [(b6, stateC st1 sl1, 35)] R) ∧ Hid (LieIn w1 R sl1 st1.g.L) ∧ Hid (runF (startS D) (log.take k) = some st1)) (fun i _ => log.length - (intOf i).toNat)
  case atStart => exact ⟨0, startS D, .slice none 0 0, [], Nat.zero_le _, rfl, HB, Lib.hid (lie_nil _ _), Lib.hid rfl⟩
  case round =>
    clear HB
    obtain ⟨k, st1, sl1, R, hk, rfl, HB, HLi, HA⟩ := hrel
    have hl1 := Hl1.out
    by_cases hlt : k < log.length
    · obtain ⟨g, o, es, had, htwo⟩ := HL2.out (by omega)
      subst had
      have T2 := Lib.hid htwo
      obtain ⟨e, he⟩ : ∃ e, log[k]? = some e := ⟨log[k], List.getElem?_eq_getElem hlt⟩
      obtain ⟨s, hse⟩ : ∃ s, es[k]? = some s := ⟨es[k]'(by rw [htwo.len]; exact hlt), List.getElem?_eq_getElem _⟩
      have hev := htwo.ev k e s he hse
      have hrow := htwo.row k e s he hse
      obtain ⟨hstw, hstm, hstf⟩ := runF_full HD.out HA.out
      obtain ⟨t, hap, htk⟩ := runF_step HRn.out he HA.out
      obtain ⟨htw, htm, htf⟩ := runF_full HD.out htk
      have hew := HWf.out e (List.mem_of_getElem? he)
      have Hros := Lib.hid (applyF_roster hap)
      obtain ⟨adE, cE, rfl⟩ := hev.form
      have Hev := Lib.hid hev
      have Hrow := Lib.hid hrow
      have Hg := Lib.hid htwo.lt
      have Hap := Lib.hid hap
      have Htk := Lib.hid htk
      have Hst := Lib.hid hstw
      have Ht := Lib.hid htw
      have Htm := Lib.hid htm
      have Hew := Lib.hid hew.1
      have He1 := Lib.hid (show (e.evs.length : Int) ≤ 1 by have := hew.2; omega)
      have Hz1 := Lib.hid (sc_size (s := st1) (sl := sl1) hstw.g.s8 hstw.t8)
      have Hzt := Lib.hid (fun sl => sc_size (s := t) (sl := sl) htw.g.s8 htw.t8)
      have Hspt : Hid (∀ sl, splice zC 0 (Value.cells (.agg (stateC t sl))).toList = stateC t sl) := Lib.hid (fun sl => splice_all _ _ (by rw [zC_size]; exact (Hzt.out sl).symm))
      have Hsps : Hid (∀ sl, splice (stateC st1 sl1) 0 (Value.cells (.agg (stateC t sl))).toList = stateC t sl) := Lib.hid (fun sl => splice_all _ _ (by rw [Hz1.out]; exact (Hzt.out sl).symm))
      have Hfu : Hid (0 + 76 ≤ (stateC st1 sl1).size) := Lib.hid (by rw [Hz1.out]; decide)
      have HRs := Lib.hid (fun j v h => sc_roster (s := st1) (sl := sl1) hstw.g.s8 j v h)
      have Hrz1 := Lib.hid (rc_size (ver := st1.ver) hstw.t8)
      have Hsr : Hid (splice zR 0 (Value.cells (.agg (rosterC st1.ver st1.T))).toList = rosterC st1.ver st1.T) := Lib.hid (splice_all _ _ (by simp [Value.cells, Hrz1.out, zR]))
      have Hez := Lib.hid (en_size (e := e) (sl := .slice adE e.evs.length cE) hew.1.i8)
      have Ht81 := Lib.hid hstw.t8
      have H := HB.out
      have hlt' : (k : Int) < log.length := by omega
      clear HB he hse hev hrow hstw hstm hstf hap htk htw htm htf hew htwo T2
      go_upto_region 9 with (first | (refine wb_part H rfl 0 33 _ rfl _ 59 rfl _ _ rfl _ Tryz.underlying33 rfl 17 info33 (rosterC st1.ver st1.T).toList (fun j v h => HRs.out j v (by simpa using h)) (by rw [Array.length_toList]; exact Hrz1.out) ?_; rw [Array.toArray_toList]) | (refine wb_alloc H rfl 33 rfl _ Tryz.zeroValue33 ?_; clear H; intro b8 w H; replace H : Sb [] w1 w [(b8, zR, 33), (b6, stateC st1 sl1, 35)] R := H) | (refine wb_put H rfl 0 33 _ _ rfl _ 0 rfl _ _ rfl (.agg (rosterC st1.ver st1.T)) rfl 17 info33 Hrz1.out (Nat.le_of_ble_eq_true rfl) rc_one _ Hsr.out ?_; clear H; intro w H))
      replace H : Sb [] w1 w [(b8, rosterC st1.ver st1.T, 33), (b6, stateC st1 sl1, 35)] R := H
      clear hl1
      go_upto_region 10 with fail
      have HB := Lib.hid H
      clear H
      go_loopw [9] (fun i W => ∃ (j : Nat) (v1 : Int) (T1 : List Seat), j ≤ e.evs.length ∧ i = .int .i64 j ∧ Hid (T1.length = 8 ∧ evRs v1 T1 (e.evs.drop j) = some (t.ver, t.T)) ∧ Hid (Sb [] w1 W [(b8, rosterC v1 T1, 33), (b6, stateC st1 sl1, 35)] R)) (fun i _ => e.evs.length - (intOf i).toNat)
      case atStart => exact ⟨0, st1.ver, st1.T, Nat.zero_le _, rfl, Lib.hid ⟨Ht81.out, Hros.out⟩, HB⟩
      case round =>
        clear HB
        obtain ⟨j, v1, T1, hj, rfl, HT1, HB⟩ := hrel
        have H := HB.out
        clear HB
        have c0 : wr.cell? ⟨g, o + k * 26 + 1, none⟩ = some (.slice adE e.evs.length cE) := (World.cell?_of_block (a := ⟨g, o + k * 26 + 1, none⟩) (H.fr g Hg.out (by simp))).trans (Hrow.out 1 _ (by rw [Array.getElem?_toList]; rfl))
        have hl1 := Hl1.out
        have he1 := He1.out
        by_cases hlt2 : j < e.evs.length
        · obtain ⟨x, hx⟩ : ∃ x, e.evs[j]? = some x := ⟨e.evs[j], List.getElem?_eq_getElem hlt2⟩
          obtain ⟨g2, o2, hadE, hg2, hcs⟩ : ∃ g2 o2, adE = some ⟨g2, o2, none⟩ ∧ g2 < w1.heap.size ∧ ∀ m v, (evsL e.evs)[m]? = some v → w1.cell? ⟨g2, o2 + m, none⟩ = some v := by
            rcases Hev.out with ⟨h, _⟩ | ⟨g2, o2, c', h, hg, hc⟩
            · rw [h] at hlt2; exact absurd hlt2 (Nat.not_lt_zero _)
            · injection h with e1 e2 e3
              exact ⟨g2, o2, e1, hg, hc⟩
          subst hadE
          have HxR : Hid (w1.rangeAt g2 (o2 + j * 4) (evL x)) := Lib.hid (fun m v hv => by
            have := hcs _ _ (evsL_at e.evs j m x v hx hv)
            rwa [← Nat.add_assoc] at this)
          have Hg2 := Lib.hid hg2
          have hxw := Lib.hid (Hew.out.evs x (List.mem_of_getElem? hx))
          have hst : (evR v1 T1 x).bind (fun r => evRs r.1 r.2 (e.evs.drop (j + 1))) = some (t.ver, t.T) := by
            have := HT1.out.2
            obtain ⟨hj', hxj⟩ := List.getElem?_eq_some_iff.1 hx
            rw [drop_cons hj', hxj] at this
            exact this
          obtain ⟨⟨v2, T3⟩, hr, hst2⟩ := Option.bind_eq_some_iff.1 hst
          have HT2 := Lib.hid (show T3.length = 8 ∧ evRs v2 T3 (e.evs.drop (j + 1)) = some (t.ver, t.T) from ⟨(evR_may hr).2.2.trans HT1.out.1, hst2⟩)
          have Hr := Lib.hid hr
          have Hrzj := Lib.hid (rc_size (ver := v1) HT1.out.1)
          have Hrz2 := Lib.hid (rc_size (ver := v2) HT2.out.1)
          have HspR : Hid (splice zR 0 (Value.cells (.agg (rosterC v2 T3))).toList = rosterC v2 T3) := Lib.hid (splice_all _ _ (by simp [Value.cells, Hrz2.out, zR]))
          have HspJ : Hid (splice (rosterC v1 T1) 0 (Value.cells (.agg (rosterC v2 T3))).toList = rosterC v2 T3) := Lib.hid (splice_all _ _ (by rw [Hrzj.out]; exact Hrz2.out.symm))
          have HftJ : Hid (0 + 17 ≤ (rosterC v1 T1).size) := Lib.hid (by rw [Hrzj.out]; decide)
          have HC := Lib.hid (fun w => ros_apply v1 T1 x w HT1.out.1 hxw.out)
          clear hx hg2 hcs hst hr hst2
          have hlj : (j : Int) < e.evs.length := by omega
          go_upto_region 12 with fail
          clear c0
          go_cut [10, 11] (fun v e wx => ∃ b, v = .pointer (some ⟨b, 0, none⟩) ∧ e = .int .i64 0 ∧ Hid (Sb [] w1 wx [(b, rosterC v2 T3, 33), (b8, rosterC v1 T1, 33), (b6, stateC st1 sl1, 35)] R))
          case first =>
            refine Gt_start 14 [(g, o + k * 26, (entC e (.slice (some ⟨g2, o2, none⟩) e.evs.length cE)).toList), (g2, o2 + j * 4, evL x)] H (fun q hq => by simp only [List.mem_cons, List.not_mem_nil, or_false] at hq; rcases hq with rfl | rfl; exact fun m u hu => (World.cell?_of_block (a := ⟨g, o + k * 26 + m, none⟩) (H.fr g Hg.out (by simp))).trans (Hrow.out m u hu); exact fun m u hu => (World.cell?_of_block (a := ⟨g2, o2 + j * 4 + m, none⟩) (H.fr g2 Hg2.out (by simp))).trans (HxR.out m u hu)) (by kernel_rfl) rfl ?_
            clear H
            intro w H hbG
            clear hbG
            refine Gs_loadRow 0 14 (fun d _ _ _ _ h => by cases d <;> exact h) (by kernel_rfl) rfl _ _ rfl rfl (some 49) rfl (by kernel_rfl) (by kernel_rfl) (TF_ne (by decide)) b8 (0) rfl (rosterC v1 T1).toList (fun j v hv => TF_blk (i := 0) 0 j rfl (by rw [Nat.zero_add]; simpa using hv)) (by kernel_rfl) _ Tryz.underlying33 rfl (by rw [Array.length_toList, Hrzj.out]; exact info33) ?_
            rw [Array.toArray_toList]
            simp only [Act.put, List.setIfInBounds_toArray, List.set_cons_succ, List.set_cons_zero]
            refine Gv_move 1 (fun d _ _ _ _ h => by cases d <;> exact h) (by kernel_rfl) rfl _ rfl rfl (some 50) rfl (by kernel_rfl) (by kernel_rfl) (TF_ne (by decide)) (.slice _ _ _) rfl ?_
            simp only [Act.put, List.setIfInBounds_toArray, List.set_cons_succ, List.set_cons_zero]
            refine Gv_move 2 (fun d _ _ _ _ h => by cases d <;> exact h) (by kernel_rfl) rfl _ rfl rfl (some 51) rfl (by kernel_rfl) (by kernel_rfl) (TF_ne (by decide)) (.int _ _) rfl ?_
            simp only [Act.put, List.setIfInBounds_toArray, List.set_cons_succ, List.set_cons_zero]
            refine Gv_bin 3 (fun d _ _ _ _ h => by cases d <;> exact h) (by kernel_rfl) rfl rfl (some 52) rfl (by kernel_rfl) (by kernel_rfl) (TF_ne (by decide)) (.pointer (some ⟨g, o + k * 26, none⟩)) (fun w => by go_simp) ?_
            simp only [Act.put, List.setIfInBounds_toArray, List.set_cons_succ, List.set_cons_zero]
            refine Gv_bin 4 (fun d _ _ _ _ h => by cases d <;> exact h) (by kernel_rfl) rfl rfl (some 53) rfl (by kernel_rfl) (by kernel_rfl) (TF_ne (by decide)) (.pointer (some ⟨g, o + k * 26 + 1, none⟩)) (fun w => by go_simp) ?_
            simp only [Act.put, List.setIfInBounds_toArray, List.set_cons_succ, List.set_cons_zero]
            refine Gs_load 5 14 (fun d _ _ _ _ h => by cases d <;> exact h) (by kernel_rfl) rfl _ _ rfl rfl (some 54) rfl (by kernel_rfl) (by kernel_rfl) (TF_ne (by decide)) _ rfl Tryz.isAgg36 ((.slice (some ⟨g2, o2, none⟩) e.evs.length cE)) (TF_old (i := 0) 1 rfl (by rw [Array.getElem?_toList]; rfl)) (by kernel_rfl) ?_
            simp only [Act.put, List.setIfInBounds_toArray, List.set_cons_succ, List.set_cons_zero]
            refine Gv_move 6 (fun d _ _ _ _ h => by cases d <;> exact h) (by kernel_rfl) rfl _ rfl rfl (some 55) rfl (by kernel_rfl) (by kernel_rfl) (TF_ne (by decide)) (.int _ _) rfl ?_
            simp only [Act.put, List.setIfInBounds_toArray, List.set_cons_succ, List.set_cons_zero]
            refine Gv_bin 7 (fun d _ _ _ _ h => by cases d <;> exact h) (by kernel_rfl) rfl rfl (some 56) rfl (by kernel_rfl) (by kernel_rfl) (TF_ne (by decide)) (.pointer (some ⟨g2, o2 + j * 4, none⟩)) (fun w => by go_simp) ?_
            simp only [Act.put, List.setIfInBounds_toArray, List.set_cons_succ, List.set_cons_zero]
            refine Gs_loadRow 8 14 (fun d _ _ _ _ h => by cases d <;> exact h) (by kernel_rfl) rfl _ _ rfl rfl (some 57) rfl (by kernel_rfl) (by kernel_rfl) (TF_ne (by decide)) g2 (o2 + j * 4) rfl (evL x) (fun j v hv => TF_old (i := 1) j rfl hv) (by kernel_rfl) _ Tryz.underlying60 rfl info60e ?_
            simp only [Act.put, List.setIfInBounds_toArray, List.set_cons_succ, List.set_cons_zero]
            refine Gs_two 9 13 rfl rfl (some 58) rfl rfl rfl (some 10) rfl (by kernel_rfl) 29 #[.agg (rosterC v1 T1), .agg (evC x)] (by go_simp; first | rfl | done) (HC.out _) (.pointer (some ⟨w.heap.size, 0, none⟩)) (.cells zR 33) (by go_simp; first | rfl | done) ?_ ?_
            · rintro e5 w5 ⟨hq, hb⟩
              unfold RosOut at hq
              rw [Hr.out] at hq
              subst hq
              refine ⟨_, rfl, hb, ?_⟩
              replace H := H.call hb
              clear hb
              simp only [Act.put, List.setIfInBounds_toArray, List.set_cons_succ, List.set_cons_zero]
              refine Gv_move 10 (fun d _ _ _ _ h => by cases d <;> exact h) (by kernel_rfl) rfl _ rfl rfl (some 48) rfl (by kernel_rfl) (by kernel_rfl) (TF_ne (by decide)) (.tuple _) rfl ?_
              simp only [Act.put, List.setIfInBounds_toArray, List.set_cons_succ, List.set_cons_zero]
              refine Gv_bin 11 (fun d _ _ _ _ h => by cases d <;> exact h) (by kernel_rfl) rfl rfl (some 59) rfl (by kernel_rfl) (by kernel_rfl) (TF_ne (by decide)) (.agg (rosterC v2 T3)) (fun w => by go_simp) ?_
              simp only [Act.put, List.setIfInBounds_toArray, List.set_cons_succ, List.set_cons_zero]
              refine Gv_bin 12 (fun d _ _ _ _ h => by cases d <;> exact h) (by kernel_rfl) rfl rfl (some 60) rfl (by kernel_rfl) (by kernel_rfl) (TF_ne (by decide)) (.int .i64 0) (fun w => by go_simp) ?_
              simp only [Act.put, List.setIfInBounds_toArray, List.set_cons_succ, List.set_cons_zero]
              refine Gs_alloc 13 rfl rfl (some 10) rfl (by kernel_rfl) (.pointer (some ⟨w5.heap.size, 0, none⟩)) (.cells zR 33) (by go_simp; first | rfl | done) ?_
              replace H := H.new zR 33
              simp only [Act.put, List.setIfInBounds_toArray, List.set_cons_succ, List.set_cons_zero]
              refine Gs_tail 14 (by kernel_rfl) TF_eq (by kernel_rfl) rfl ?_
              simp only [List.drop_succ_cons, List.drop_zero]
              go_wp2_with (refine wb_put H rfl 0 33 _ _ rfl _ 0 rfl _ _ rfl (.agg (rosterC v2 T3)) rfl 17 info33 Hrz2.out (Nat.le_of_ble_eq_true rfl) rc_one _ HspR.out ?_; clear H; intro w9 H)
              go_meet
              exact ⟨_, rfl, rfl, Lib.hid H⟩
            · replace H := H.new zR 33
              simp only [Act.put, List.setIfInBounds_toArray, List.set_cons_succ, List.set_cons_zero]
              refine Gv_callB 9 rfl (by kernel_rfl) (some 58) rfl rfl 29 #[.agg (rosterC v1 T1), .agg (evC x)] (by go_simp; first | rfl | done) (HC.out _) ?_
              rintro e5 w5 ⟨hq, hb⟩
              unfold RosOut at hq
              rw [Hr.out] at hq
              subst hq
              refine ⟨_, rfl, hb, ?_⟩
              replace H := H.call hb
              clear hb
              simp only [Act.put, List.setIfInBounds_toArray, List.set_cons_succ, List.set_cons_zero]
              refine Gv_move 10 (fun d _ _ _ _ h => by cases d <;> exact h) (by kernel_rfl) rfl _ rfl rfl (some 48) rfl (by kernel_rfl) (by kernel_rfl) (TF_ne (by decide)) (.tuple _) rfl ?_
              simp only [Act.put, List.setIfInBounds_toArray, List.set_cons_succ, List.set_cons_zero]
              refine Gv_bin 11 (fun d _ _ _ _ h => by cases d <;> exact h) (by kernel_rfl) rfl rfl (some 59) rfl (by kernel_rfl) (by kernel_rfl) (TF_ne (by decide)) (.agg (rosterC v2 T3)) (fun w => by go_simp) ?_
              simp only [Act.put, List.setIfInBounds_toArray, List.set_cons_succ, List.set_cons_zero]
              refine Gv_bin 12 (fun d _ _ _ _ h => by cases d <;> exact h) (by kernel_rfl) rfl rfl (some 60) rfl (by kernel_rfl) (by kernel_rfl) (TF_ne (by decide)) (.int .i64 0) (fun w => by go_simp) ?_
              simp only [Act.put, List.setIfInBounds_toArray, List.set_cons_succ, List.set_cons_zero]
              refine Gs_tail 14 (by kernel_rfl) TF_eq (by kernel_rfl) rfl ?_
              simp only [List.drop_succ_cons, List.drop_zero]
              go_wp2_with (refine wb_put H rfl 0 33 _ _ rfl _ 0 rfl _ _ rfl (.agg (rosterC v2 T3)) rfl 17 info33 Hrz2.out (Nat.le_of_ble_eq_true rfl) rc_one _ HspR.out ?_; clear H; intro w9 H)
              go_meet
              exact ⟨_, rfl, rfl, Lib.hid H⟩
          case rest =>
            obtain ⟨b10, rfl, rfl, HB2⟩ := hcut
            have H := HB2.out
            clear HB2 HC
            go_wp2_with (first | (refine wb_whole H rfl 0 33 _ rfl _ rfl (rosterC v2 T3) rfl _ Tryz.underlying33 rfl 17 info33 Hrz2.out ?_) | (refine wb_put H rfl 1 33 _ _ rfl _ 0 rfl _ _ rfl (.agg (rosterC v2 T3)) rfl 17 info33 Hrz2.out HftJ.out rc_one _ HspJ.out ?_; clear H; intro w H))
            refine ⟨?_, by simp [intOf]; omega⟩
            simp
            exact ⟨j + 1, hlt2, rfl, v2, T3, HT2, Lib.hid H.tail⟩
        · obtain rfl : j = e.evs.length := by omega
          have hvT : v1 = t.ver ∧ T1 = t.T := by
            have := HT1.out.2
            rw [List.drop_length] at this
            injection this with this
            exact ⟨congrArg Prod.fst this, congrArg Prod.snd this⟩
          obtain ⟨rfl, rfl⟩ := hvT
          have hlt'' : (k : Int) < log.length := by omega
          clear HT1 hj hlt2
          go_upto_region 16 with fail
          clear c0 he1
          go_cut [12, 13] (fun v e wx => ∃ b sl2 R2, v = .pointer (some ⟨b, 0, none⟩) ∧ e = .int .i64 0 ∧ Hid (Sb [] w1 wx [(b, stateC t sl2, 35), (b8, rosterC t.ver t.T, 33), (b6, stateC st1 sl1, 35)] R2) ∧ Hid (LieIn w1 R2 sl2 t.g.L))
          case first =>
            refine Gt_start 10 [(g, o + k * 26, (entC e (.slice adE e.evs.length cE)).toList)] H (fun q hq => by rw [List.mem_singleton] at hq; subst hq; exact fun m u hu => (World.cell?_of_block (a := ⟨g, o + k * 26 + m, none⟩) (H.fr g Hg.out (by simp))).trans (Hrow.out m u hu)) (by kernel_rfl) rfl ?_
            clear H
            intro w H hbG
            clear hbG
            refine Gs_loadRow 0 10 (fun d _ _ _ _ h => by cases d <;> exact h) (by kernel_rfl) rfl _ _ rfl rfl (some 65) rfl (by kernel_rfl) (by kernel_rfl) (TF_ne (by decide)) b6 (0) rfl (stateC st1 sl1).toList (fun j v hv => TF_blk (i := 1) 0 j rfl (by rw [Nat.zero_add]; simpa using hv)) (by kernel_rfl) _ Tryz.underlying35 rfl (by rw [Array.length_toList, Hz1.out]; exact info35) ?_
            rw [Array.toArray_toList]
            simp only [Act.put, List.setIfInBounds_toArray, List.set_cons_succ, List.set_cons_zero]
            refine Gv_move 1 (fun d _ _ _ _ h => by cases d <;> exact h) (by kernel_rfl) rfl _ rfl rfl (some 66) rfl (by kernel_rfl) (by kernel_rfl) (TF_ne (by decide)) (.slice _ _ _) rfl ?_
            simp only [Act.put, List.setIfInBounds_toArray, List.set_cons_succ, List.set_cons_zero]
            refine Gv_move 2 (fun d _ _ _ _ h => by cases d <;> exact h) (by kernel_rfl) rfl _ rfl rfl (some 67) rfl (by kernel_rfl) (by kernel_rfl) (TF_ne (by decide)) (.int _ _) rfl ?_
            simp only [Act.put, List.setIfInBounds_toArray, List.set_cons_succ, List.set_cons_zero]
            refine Gv_bin 3 (fun d _ _ _ _ h => by cases d <;> exact h) (by kernel_rfl) rfl rfl (some 68) rfl (by kernel_rfl) (by kernel_rfl) (TF_ne (by decide)) (.pointer (some ⟨g, o + k * 26, none⟩)) (fun w => by go_simp) ?_
            simp only [Act.put, List.setIfInBounds_toArray, List.set_cons_succ, List.set_cons_zero]
            refine Gs_loadRow 4 10 (fun d _ _ _ _ h => by cases d <;> exact h) (by kernel_rfl) rfl _ _ rfl rfl (some 69) rfl (by kernel_rfl) (by kernel_rfl) (TF_ne (by decide)) g (o + k * 26) rfl (entC e (.slice adE e.evs.length cE)).toList (fun j v hv => TF_old (i := 0) j rfl hv) (by kernel_rfl) _ Tryz.underlying42 rfl (by rw [Array.length_toList, Hez.out]; exact info42) ?_
            rw [Array.toArray_toList]
            simp only [Act.put, List.setIfInBounds_toArray, List.set_cons_succ, List.set_cons_zero]
            refine Gs_two 5 9 rfl rfl (some 70) rfl rfl rfl (some 12) rfl (by kernel_rfl) 17 #[.agg (stateC st1 sl1), .agg (entC e (.slice adE e.evs.length cE))] (by go_simp; first | rfl | done) (Apply_in st1 sl1 e (.slice adE e.evs.length cE) w1 _ _ _ H HLi.out Hst.out.g Hst.out.t8 Hew.out (Hev.out.later H.below)) (.pointer (some ⟨w.heap.size, 0, none⟩)) (.cells zC 35) (by go_simp; first | rfl | done) ?_ ?_
            · rintro e5 w5 ⟨⟨sl2, R2, he5, H1, hL, hR2⟩, hb⟩
              rw [Hap.out] at he5 hL
              subst he5
              refine ⟨_, rfl, hb, ?_⟩
              clear H hb
              have H := H1
              clear H1
              have hL2 := Lib.hid (show LieIn w1 R2 sl2 t.g.L from hL)
              clear hL hR2
              have HO2 := Lib.hid (sc_oneI (s := t) (hL2.out.shots H))
              simp only [Act.put, List.setIfInBounds_toArray, List.set_cons_succ, List.set_cons_zero]
              refine Gv_move 6 (fun d _ _ _ _ h => by cases d <;> exact h) (by kernel_rfl) rfl _ rfl rfl (some 64) rfl (by kernel_rfl) (by kernel_rfl) (TF_ne (by decide)) (.tuple _) rfl ?_
              simp only [Act.put, List.setIfInBounds_toArray, List.set_cons_succ, List.set_cons_zero]
              refine Gv_bin 7 (fun d _ _ _ _ h => by cases d <;> exact h) (by kernel_rfl) rfl rfl (some 71) rfl (by kernel_rfl) (by kernel_rfl) (TF_ne (by decide)) (.agg (stateC t sl2)) (fun w => by go_simp) ?_
              simp only [Act.put, List.setIfInBounds_toArray, List.set_cons_succ, List.set_cons_zero]
              refine Gv_bin 8 (fun d _ _ _ _ h => by cases d <;> exact h) (by kernel_rfl) rfl rfl (some 72) rfl (by kernel_rfl) (by kernel_rfl) (TF_ne (by decide)) (.int .i64 0) (fun w => by go_simp) ?_
              simp only [Act.put, List.setIfInBounds_toArray, List.set_cons_succ, List.set_cons_zero]
              refine Gs_alloc 9 rfl rfl (some 12) rfl (by kernel_rfl) (.pointer (some ⟨w5.heap.size, 0, none⟩)) (.cells zC 35) (by go_simp; first | rfl | done) ?_
              replace H := H.new zC 35
              simp only [Act.put, List.setIfInBounds_toArray, List.set_cons_succ, List.set_cons_zero]
              refine Gs_tail 10 (by kernel_rfl) TF_eq (by kernel_rfl) rfl ?_
              simp only [List.drop_succ_cons, List.drop_zero]
              go_wp2_with (refine wb_put H rfl 0 35 _ _ rfl _ 0 rfl _ _ rfl (.agg (stateC t sl2)) rfl 76 info35 (Hzt.out sl2) (Nat.le_of_ble_eq_true rfl) HO2.out _ (Hspt.out sl2) ?_; clear H; intro w9 H)
              go_meet
              exact ⟨_, sl2, R2, rfl, rfl, Lib.hid H, hL2⟩
            · replace H := H.new zC 35
              simp only [Act.put, List.setIfInBounds_toArray, List.set_cons_succ, List.set_cons_zero]
              refine Gv_callB 5 rfl (by kernel_rfl) (some 70) rfl rfl 17 #[.agg (stateC st1 sl1), .agg (entC e (.slice adE e.evs.length cE))] (by go_simp; first | rfl | done) (Apply_in st1 sl1 e (.slice adE e.evs.length cE) w1 _ _ _ H HLi.out Hst.out.g Hst.out.t8 Hew.out (Hev.out.later H.below)) ?_
              rintro e5 w5 ⟨⟨sl2, R2, he5, H1, hL, hR2⟩, hb⟩
              rw [Hap.out] at he5 hL
              subst he5
              refine ⟨_, rfl, hb, ?_⟩
              clear H hb
              have H := H1
              clear H1
              have hL2 := Lib.hid (show LieIn w1 R2 sl2 t.g.L from hL)
              clear hL hR2
              have HO2 := Lib.hid (sc_oneI (s := t) (hL2.out.shots H))
              simp only [Act.put, List.setIfInBounds_toArray, List.set_cons_succ, List.set_cons_zero]
              refine Gv_move 6 (fun d _ _ _ _ h => by cases d <;> exact h) (by kernel_rfl) rfl _ rfl rfl (some 64) rfl (by kernel_rfl) (by kernel_rfl) (TF_ne (by decide)) (.tuple _) rfl ?_
              simp only [Act.put, List.setIfInBounds_toArray, List.set_cons_succ, List.set_cons_zero]
              refine Gv_bin 7 (fun d _ _ _ _ h => by cases d <;> exact h) (by kernel_rfl) rfl rfl (some 71) rfl (by kernel_rfl) (by kernel_rfl) (TF_ne (by decide)) (.agg (stateC t sl2)) (fun w => by go_simp) ?_
              simp only [Act.put, List.setIfInBounds_toArray, List.set_cons_succ, List.set_cons_zero]
              refine Gv_bin 8 (fun d _ _ _ _ h => by cases d <;> exact h) (by kernel_rfl) rfl rfl (some 72) rfl (by kernel_rfl) (by kernel_rfl) (TF_ne (by decide)) (.int .i64 0) (fun w => by go_simp) ?_
              simp only [Act.put, List.setIfInBounds_toArray, List.set_cons_succ, List.set_cons_zero]
              refine Gs_tail 10 (by kernel_rfl) TF_eq (by kernel_rfl) rfl ?_
              simp only [List.drop_succ_cons, List.drop_zero]
              go_wp2_with (refine wb_put H rfl 0 35 _ _ rfl _ 0 rfl _ _ rfl (.agg (stateC t sl2)) rfl 76 info35 (Hzt.out sl2) (Nat.le_of_ble_eq_true rfl) HO2.out _ (Hspt.out sl2) ?_; clear H; intro w9 H)
              go_meet
              exact ⟨_, sl2, R2, rfl, rfl, Lib.hid H, hL2⟩
          case rest =>
            obtain ⟨b12, sl2, R2, rfl, rfl, HB2, HL2b⟩ := hcut
            have H := HB2.out
            clear HB2
            have HRt := Lib.hid (fun j v h => sc_roster (s := t) (sl := sl2) Ht.out.g.s8 j v h)
            have Hrzt := Lib.hid (rc_size (ver := t.ver) Ht.out.t8)
            have HGm := Lib.hid (fun j v h => sc_game (s := t) (sl := sl2) j v h)
            have Hgz := Lib.hid (gc_size (fr := t.g.fr) (d := t.g.d) (sl := sl2) Ht.out.g.s8)
            have HEq : Hid (∀ w, (Op.equalIn 10000 33 (.agg (rosterC t.ver t.T)) (.agg (rosterC t.ver t.T))).run Tryz.prog w = .ok true w) := Lib.hid (fun w => by
              obtain ⟨r, h1, h2⟩ := eq33w w t.ver t.ver t.T t.T Ht.out.t8 Ht.out.t8 Ht.out.ver Ht.out.ver Ht.out.seats Ht.out.seats
              rw [h1, h2.2 ⟨rfl, rfl⟩])
            have HMay : Hid (mayS t = true) := Lib.hid Htm.out.mayS
            have heq := HEq.out
            go_wp2_with (first | (refine wb_part H rfl 0 33 _ rfl _ 59 rfl _ _ rfl _ Tryz.underlying33 rfl 17 info33 (rosterC t.ver t.T).toList (fun j v h => HRt.out j v (by simpa using h)) (by rw [Array.length_toList]; exact Hrzt.out) ?_; rw [Array.toArray_toList]) | (refine wb_whole H rfl 1 33 _ rfl _ rfl (rosterC t.ver t.T) rfl _ Tryz.underlying33 rfl 17 info33 Hrzt.out ?_) | (refine wb_whole H rfl 0 35 _ rfl _ rfl (stateC t sl2) rfl _ Tryz.underlying35 rfl 76 info35 (Hzt.out sl2) ?_))
            refine (fmay_b t sl2 _ Ht.out.g Ht.out.t8 (HL2b.out.shots H).w).mono ?_
            rw [HMay.out]
            rintro e5 w5 ⟨rfl, hb⟩
            replace H := H.call hb
            clear hb heq
            go_wp2_with (refine wb_partA H rfl 0 28 _ rfl _ 0 rfl _ _ rfl _ Tryz.underlying28 rfl 59 info28 (gameC t.g.fr t.g.d t.g.S sl2) (fun j v h => by rw [Nat.zero_add]; exact HGm.out j v h) Hgz.out ?_)
            refine (mayG t.g sl2 _ Htm.out.g (HL2b.out.shots H)).mono ?_
            rintro e6 w6 ⟨rfl, hb⟩
            replace H := H.call hb
            clear hb
            go_upto_region 20 with fail
            go_upto_region 21 with fail
            have HB := Lib.hid H
            clear H
            go_loopw [14, 15] (fun m i W => ∃ (k2 : Nat) (M : Int), k2 ≤ 8 ∧ i = .int .i64 k2 ∧ m = .int .i64 M ∧ Hid (M = mkM (seatF t.T) k2) ∧ Hid (Sb [] w1 W [(b12, stateC t sl2, 35), (b8, rosterC t.ver t.T, 33), (b6, stateC st1 sl1, 35)] R2)) (fun _ i _ => 8 - (intOf i).toNat)
            case atStart => exact ⟨0, 0, Nat.zero_le _, rfl, rfl, Lib.hid rfl, HB⟩
            case round =>
              clear HB
              obtain ⟨k2, M, hk2, rfl, rfl, HMk, HB⟩ := hrel
              have H := HB.out
              have HBk := HB
              clear HB
              by_cases hlt3 : k2 < 8
              · obtain ⟨x, hx⟩ : ∃ x, t.g.S[k2]? = some x := ⟨t.g.S[k2]'(by rw [Ht.out.g.s8]; exact hlt3), List.getElem?_eq_getElem _⟩
                obtain ⟨q, hq⟩ : ∃ q, t.T[k2]? = some q := ⟨t.T[k2]'(by rw [Ht.out.t8]; exact hlt3), List.getElem?_eq_getElem _⟩
                have hon := pairs_idx.1 Htm.out.p k2 x q hx hq
                have hC := sc_ship (s := t) (sl := sl2) k2 0 x (.bool x.on) hx rfl
                have hsf : seatF t.T k2 = x.on := by unfold seatF; rw [hq, hon]; rfl
                have hlt3' : (k2 : Int) < 8 := by omega
                cases ho : x.on with
                | true =>
                  rw [ho] at hC hsf
                  have HMk2 := Lib.hid (show bits .or .i64 M ((2 ^ k2 : Nat) : Int) = mkM (seatF t.T) (k2 + 1) by rw [HMk.out, mkM_yes hsf])
                  have HC2 := Lib.hid hC
                  clear hx hq hon hC hsf ho HMk hlt3 H
                  have H := HBk.out
                  clear HBk
                  rcases (show k2 = 0 ∨ k2 = 1 ∨ k2 = 2 ∨ k2 = 3 ∨ k2 = 4 ∨ k2 = 5 ∨ k2 = 6 ∨ k2 = 7 by omega) with rfl | rfl | rfl | rfl | rfl | rfl | rfl | rfl
                  · go_wp2_with (refine wb_cell H rfl 0 4 _ rfl _ 2 rfl _ _ rfl Tryz.isAgg4 (.bool true) HC2.out ?_)
                    exact ⟨⟨1, _, by decide, rfl, rfl, HMk2, Lib.hid H⟩, by simp only [intOf]; decide⟩
                  · go_wp2_with (refine wb_cell H rfl 0 4 _ rfl _ 9 rfl _ _ rfl Tryz.isAgg4 (.bool true) HC2.out ?_)
                    exact ⟨⟨2, _, by decide, rfl, rfl, HMk2, Lib.hid H⟩, by simp only [intOf]; decide⟩
                  · go_wp2_with (refine wb_cell H rfl 0 4 _ rfl _ 16 rfl _ _ rfl Tryz.isAgg4 (.bool true) HC2.out ?_)
                    exact ⟨⟨3, _, by decide, rfl, rfl, HMk2, Lib.hid H⟩, by simp only [intOf]; decide⟩
                  · go_wp2_with (refine wb_cell H rfl 0 4 _ rfl _ 23 rfl _ _ rfl Tryz.isAgg4 (.bool true) HC2.out ?_)
                    exact ⟨⟨4, _, by decide, rfl, rfl, HMk2, Lib.hid H⟩, by simp only [intOf]; decide⟩
                  · go_wp2_with (refine wb_cell H rfl 0 4 _ rfl _ 30 rfl _ _ rfl Tryz.isAgg4 (.bool true) HC2.out ?_)
                    exact ⟨⟨5, _, by decide, rfl, rfl, HMk2, Lib.hid H⟩, by simp only [intOf]; decide⟩
                  · go_wp2_with (refine wb_cell H rfl 0 4 _ rfl _ 37 rfl _ _ rfl Tryz.isAgg4 (.bool true) HC2.out ?_)
                    exact ⟨⟨6, _, by decide, rfl, rfl, HMk2, Lib.hid H⟩, by simp only [intOf]; decide⟩
                  · go_wp2_with (refine wb_cell H rfl 0 4 _ rfl _ 44 rfl _ _ rfl Tryz.isAgg4 (.bool true) HC2.out ?_)
                    exact ⟨⟨7, _, by decide, rfl, rfl, HMk2, Lib.hid H⟩, by simp only [intOf]; decide⟩
                  · go_wp2_with (refine wb_cell H rfl 0 4 _ rfl _ 51 rfl _ _ rfl Tryz.isAgg4 (.bool true) HC2.out ?_)
                    exact ⟨⟨8, _, by decide, rfl, rfl, HMk2, Lib.hid H⟩, by simp only [intOf]; decide⟩
                | false =>
                  rw [ho] at hC hsf
                  have HMk2 := Lib.hid (show M = mkM (seatF t.T) (k2 + 1) by rw [HMk.out, mkM_no hsf])
                  have HC2 := Lib.hid hC
                  clear hx hq hon hC hsf ho HMk
                  go_wp2_with (refine wb_cell H rfl 0 4 _ rfl _ (2 + k2 * 7) rfl _ _ rfl Tryz.isAgg4 (.bool false) HC2.out ?_)
                  exact ⟨⟨k2 + 1, M, hlt3, rfl, rfl, HMk2, HBk⟩, by simp only [intOf]; omega⟩
              · obtain rfl : k2 = 8 := by omega
                have hM := HMk.out
                subst hM
                clear HBk hlt3 HMk
                go_wp2_with (refine wb_whole H rfl 1 33 _ rfl _ rfl (rosterC t.ver t.T) rfl _ Tryz.underlying33 rfl 17 info33 Hrzt.out ?_)
                refine (mask_b t.ver t.T _ Ht.out.t8 Htm.out.r).mono ?_
                rintro e7 w7 ⟨rfl, hb⟩
                replace H := H.call hb
                clear hb
                have HOt := Lib.hid (sc_oneI (s := t) (HL2b.out.shots H))
                go_wp2_with (first | (refine wb_whole H rfl 0 35 _ rfl _ rfl (stateC t sl2) rfl _ Tryz.underlying35 rfl 76 info35 (Hzt.out sl2) ?_) | (refine wb_put H rfl 2 35 _ _ rfl _ 0 rfl _ _ rfl (.agg (stateC t sl2)) rfl 76 info35 (Hzt.out sl2) Hfu.out HOt.out _ (Hsps.out sl2) ?_; clear H; intro w H))
                replace H : Sb [] w1 w [(b12, stateC t sl2, 35), (b8, rosterC t.ver t.T, 33), (b6, stateC t sl2, 35)] R2 := H
                exact ⟨⟨k + 1, t, sl2, R2, hlt, rfl, Lib.hid H.tail.tail, HL2b, Htk⟩, by simp only [intOf]; omega⟩
    · obtain rfl : k = log.length := by omega
      have H := HB.out
      clear HB hlt
      go_wp2_with fail
      refine (told_any _).mono ?_; rintro e w6 ⟨rfl, hb⟩
      replace H := H.call hb
      clear hb
      go_wp2_with fail
      go_ret
      exact ⟨rfl, Hb1.out.trans (H.below.mono Hb1.out.size)⟩
end Go.Proofs.YtdopfonebpklkaaGreat.game
