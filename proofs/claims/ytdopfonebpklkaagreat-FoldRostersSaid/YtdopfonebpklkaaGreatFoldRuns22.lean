/- The document's answer: Run, Start (printed by mkxg.py). Memory in a walk: a row of entries of the call's own, and slices of one. -/
import Derived.Test.YtdopfonebpklkaaGreatFoldRuns21
import Derived.Test.YtdopfonebpklkaaGreatFoldRuns10
import Derived.Test.YtdopfonebpklkaaGreatFoldRuns03
import Derived.Test.YtdopfonebpklkaaGreatFoldRuns15
import Derived.Test.YtdopfonebpklkaaGreatFoldRuns18
import Derived.Great.BuildSlice
import Derived.Great.FillDense
namespace Go.Proofs.YtdopfonebpklkaaGreat.game
open Go.ChangeShapes Go.WideShapes Go.ChangeAt Go.RowKit dice
set_option maxRecDepth 100000

set_option maxHeartbeats 16000000 in
theorem rrun_some (s : Ste) (sl : Value) (l : List Ent) (v : Value) (w0 : World) (hg : s.g.wf) (t8 : s.T.length = 8) (hin : ShotsIn w0 sl s.g.L) (hl : ∀ e ∈ l, e.wf) (hlog : LogW w0 v l) (hn : l.length ≤ 1000) (hpos : 0 < l.length) :
    Calls Tryz.prog 26 #[.agg (stateC s sl), v] w0 (ApOut (runF s l) s sl w0) := by
  have H := Sb.start w0
  have HI := Lib.hid hin
  have HL := Lib.hid hl
  have Hz := Lib.hid (sc_size (s := s) (sl := sl) hg.s8 t8)
  have HO := Lib.hid (sc_oneI (s := s) hin)
  have Hsp : Hid (splice zC 0 (Value.cells (.agg (stateC s sl))).toList = stateC s sl) := Lib.hid (splice_all _ _ (by rw [zC_size]; exact Hz.out.symm))
  have HgT := Lib.hid (show s.g.wf ∧ s.T.length = 8 from ⟨hg, t8⟩)
  have HZ2 := Lib.hid (fun t (h : runF s l = some t) sl => sc_size (s := t) (sl := sl) (runF_wf l hg t8 h).1.s8 (runF_wf l hg t8 h).2)
  obtain ⟨es, h1, h2, h3⟩ := hlog
  obtain ⟨g, o, c, rfl, hgl, hrg⟩ : ∃ g o c, v = .slice (some ⟨g, o, none⟩) l.length c ∧ g < w0.heap.size ∧ ∀ (k : Nat) (e : Ent) (s : Value), l[k]? = some e → es[k]? = some s → w0.rangeAt g (o + k * 26) (entC e s).toList := by
    rcases h3 with ⟨rfl, _⟩ | h3
    · simp at hpos
    · exact h3
  have Hes := Lib.hid h1
  have HEv := Lib.hid h2
  have Hgl := Lib.hid hgl
  have Hrg := Lib.hid hrg
  have Hpos := Lib.hid hpos
  have hn' : (l.length : Int) ≤ 1000 := by omega
  have Hn := Lib.hid hn'
  obtain ⟨r, hr⟩ : ∃ r, runF s l = r := ⟨_, rfl⟩
  have hfin : ∀ b, runF s l = b → b = r := fun b h => h.symm.trans hr
  have Fin := Lib.hid hfin
  rw [hr]
  clear h1 h2 h3 hgl hrg hg t8 hin hl hn hpos hn' hfin hr
  go_enter Tryz.func26, Tryz.ntmps26
  go_upto_region 1 with (first | (refine wb_box H rfl 35 _ rfl (stateC s sl) rfl ?_; clear H; intro b2 w H) | (refine wb_alloc H rfl 35 rfl _ Tryz.zeroValue35 ?_; clear H; intro b4 w H))
  go_upto_region 2 with (first | (refine wb_alloc H rfl 35 rfl _ Tryz.zeroValue35 ?_; clear H; intro b6 w H) | (refine wb_whole H rfl 1 35 _ rfl _ rfl (stateC s sl) rfl _ Tryz.underlying35 rfl 76 info35 Hz.out ?_) | (refine wb_put H rfl 0 35 _ _ rfl _ 0 rfl _ _ rfl (.agg (stateC s sl)) rfl 76 info35 Hz.out (Nat.le_of_ble_eq_true rfl) HO.out _ Hsp.out ?_; clear H; intro w H))
  replace H : Sb [] w0 w [(b6, stateC s sl, 35), (b4, zC, 35), (b2, stateC s sl, 35)] [] := H
  go_upto_region 3 with fail
  have HB := Lib.hid H
  clear H
  go_loopw [7] (fun i W => ∃ (k : Nat) (s1 : Ste) (sl1 : Value) (R : List RowS), k ≤ l.length ∧ i = .int .i64 k ∧ Hid (Sb [] w0 W [(b6, stateC s1 sl1, 35), (b4, zC, 35), (b2, stateC s sl, 35)] R) ∧ Hid (Lie w0 R sl1 s1.g.L ∧ (0 < k → R = [(sl1, s1.g.L)])) ∧ Hid ((s1.g.wf ∧ s1.T.length = 8) ∧ runF s l = runF s1 (l.drop k))) (fun i _ => l.length - (intOf i).toNat)
  case atStart => exact ⟨0, s, sl, [], Nat.zero_le _, rfl, HB, Lib.hid ⟨.inl ⟨rfl, HI.out⟩, fun h => absurd h (by omega)⟩, Lib.hid ⟨HgT.out, rfl⟩⟩
  case round =>
    clear HB
    obtain ⟨k, s1, sl1, R, hk, rfl, HB, HLi, HA⟩ := hrel
    have hn' := Hn.out
    by_cases hlt : k < l.length
    · obtain ⟨e, he⟩ : ∃ e, l[k]? = some e := ⟨l[k], List.getElem?_eq_getElem hlt⟩
      obtain ⟨es1, hes1⟩ : ∃ x, es[k]? = some x := ⟨es[k]'(by rw [Hes.out]; exact hlt), List.getElem?_eq_getElem _⟩
      have hst : runF s l = (applyF s1 e).bind fun t => runF t (l.drop (k + 1)) := by
        rw [HA.out.2]
        obtain ⟨hk', e'⟩ := List.getElem?_eq_some_iff.1 he
        rw [List.drop_eq_getElem_cons hk', e']
        rfl
      have Hst := Lib.hid hst
      have hew := HL.out e (List.mem_of_getElem? he)
      have Hew := Lib.hid hew
      have Hev1 := Lib.hid (HEv.out k e es1 he hes1)
      have Hrow := Lib.hid (Hrg.out k e es1 he hes1)
      have Hez := Lib.hid (en_size (e := e) (sl := es1) hew.i8)
      have HLs := Lib.hid (fun w l (H : Sb [] w0 w l R) => HLi.out.1.shots H)
      have Hwf := Lib.hid HA.out.1
      have Hz1 := Lib.hid (sc_size (s := s1) (sl := sl1) HA.out.1.1.s8 HA.out.1.2)
      have Hsp1 : Hid (splice zC 0 (Value.cells (.agg (stateC s1 sl1))).toList = stateC s1 sl1) := Lib.hid (splice_all _ _ (by rw [zC_size]; exact Hz1.out.symm))
      have H := HB.out
      have HO1 := Lib.hid (sc_oneI (s := s1) (HLs.out _ _ H))
      clear HB HA he hes1 hst hew HLi
      have hlt' : (k : Int) < l.length := by omega
      go_upto_region 5 with fail
      cases hap : applyF s1 e with
      | none =>
        have Hap := Lib.hid hap
        have hno : runF s l = none := by rw [Hst.out, hap]; rfl
        obtain rfl := Fin.out none hno
        clear hap hno
        go_cut [8, 9] (fun v e wx => ∃ b, v = .pointer (some ⟨b, 0, none⟩) ∧ e = .int .i64 1 ∧ Hid (Sb [] w0 wx [(b, stateC s1 sl1, 35), (b6, stateC s1 sl1, 35), (b4, zC, 35), (b2, stateC s sl, 35)] R))
        case first =>
          refine Gt_start 10 [(g, o + k * 26, (entC e es1).toList)] H (fun q hq => by rw [List.mem_singleton] at hq; subst hq; exact fun j u hu => (World.cell?_of_block (a := ⟨g, o + k * 26 + j, none⟩) (H.fr g Hgl.out (by simp))).trans (Hrow.out j u hu)) (by kernel_rfl) rfl ?_
          clear H
          intro w H hbG
          clear hbG
          refine Gs_loadRow 0 10 (fun d _ _ _ _ h => by cases d <;> exact h) (by kernel_rfl) rfl _ _ rfl rfl (some 18) rfl (by kernel_rfl) (by kernel_rfl) (TF_ne (by decide)) b6 (0) rfl (stateC s1 sl1).toList (fun j v hv => TF_blk (i := 0) 0 j rfl (by rw [Nat.zero_add]; simpa using hv)) (by kernel_rfl) _ Tryz.underlying35 rfl (by rw [Array.length_toList, Hz1.out]; exact info35) ?_
          rw [Array.toArray_toList]
          simp only [Act.put, List.setIfInBounds_toArray, List.set_cons_succ, List.set_cons_zero]
          refine Gv_move 1 (fun d _ _ _ _ h => by cases d <;> exact h) (by kernel_rfl) rfl _ rfl rfl (some 19) rfl (by kernel_rfl) (by kernel_rfl) (TF_ne (by decide)) (.slice _ _ _) rfl ?_
          simp only [Act.put, List.setIfInBounds_toArray, List.set_cons_succ, List.set_cons_zero]
          refine Gv_move 2 (fun d _ _ _ _ h => by cases d <;> exact h) (by kernel_rfl) rfl _ rfl rfl (some 20) rfl (by kernel_rfl) (by kernel_rfl) (TF_ne (by decide)) (.int _ _) rfl ?_
          simp only [Act.put, List.setIfInBounds_toArray, List.set_cons_succ, List.set_cons_zero]
          refine Gv_bin 3 (fun d _ _ _ _ h => by cases d <;> exact h) (by kernel_rfl) rfl rfl (some 21) rfl (by kernel_rfl) (by kernel_rfl) (TF_ne (by decide)) (.pointer (some ⟨g, o + k * 26, none⟩)) (fun w => by go_simp) ?_
          simp only [Act.put, List.setIfInBounds_toArray, List.set_cons_succ, List.set_cons_zero]
          refine Gs_loadRow 4 10 (fun d _ _ _ _ h => by cases d <;> exact h) (by kernel_rfl) rfl _ _ rfl rfl (some 22) rfl (by kernel_rfl) (by kernel_rfl) (TF_ne (by decide)) g (o + k * 26) rfl (entC e es1).toList (fun j v hv => TF_old (i := 0) j rfl hv) (by kernel_rfl) _ Tryz.underlying42 rfl (by rw [Array.length_toList, Hez.out]; exact info42) ?_
          rw [Array.toArray_toList]
          simp only [Act.put, List.setIfInBounds_toArray, List.set_cons_succ, List.set_cons_zero]
          refine Gs_two 5 9 rfl rfl (some 23) rfl rfl rfl (some 8) rfl (by kernel_rfl) 18 #[.agg (stateC s1 sl1), .agg (entC e es1)] (by go_simp) (rapply_b s1 sl1 e es1 _ Hwf.out.1 Hwf.out.2 (HLs.out _ _ H) Hew.out.i8 Hew.out.ins Hew.out.evs (Hev1.out.later H.below) Hew.out.few) (.pointer (some ⟨w.heap.size, 0, none⟩)) (.cells zC 35) (by go_simp; first | rfl | done) ?_ ?_
          · rintro e1 w5 ⟨hb, ho⟩
            rw [Hap.out] at ho
            subst ho
            refine ⟨_, rfl, hb, ?_⟩
            replace H := H.call hb
            clear hb
            simp only [Act.put, List.setIfInBounds_toArray, List.set_cons_succ, List.set_cons_zero]
            refine Gv_move 6 (fun d _ _ _ _ h => by cases d <;> exact h) (by kernel_rfl) rfl _ rfl rfl (some 17) rfl (by kernel_rfl) (by kernel_rfl) (TF_ne (by decide)) (.tuple _) rfl ?_
            simp only [Act.put, List.setIfInBounds_toArray, List.set_cons_succ, List.set_cons_zero]
            refine Gv_bin 7 (fun d _ _ _ _ h => by cases d <;> exact h) (by kernel_rfl) rfl rfl (some 24) rfl (by kernel_rfl) (by kernel_rfl) (TF_ne (by decide)) (.agg (stateC s1 sl1)) (fun w => by go_simp) ?_
            simp only [Act.put, List.setIfInBounds_toArray, List.set_cons_succ, List.set_cons_zero]
            refine Gv_bin 8 (fun d _ _ _ _ h => by cases d <;> exact h) (by kernel_rfl) rfl rfl (some 25) rfl (by kernel_rfl) (by kernel_rfl) (TF_ne (by decide)) (.int .i64 1) (fun w => by go_simp) ?_
            simp only [Act.put, List.setIfInBounds_toArray, List.set_cons_succ, List.set_cons_zero]
            refine Gs_alloc 9 rfl rfl (some 8) rfl (by kernel_rfl) (.pointer (some ⟨w5.heap.size, 0, none⟩)) (.cells zC 35) (by go_simp; first | rfl | done) ?_
            replace H := H.new zC 35
            simp only [Act.put, List.setIfInBounds_toArray, List.set_cons_succ, List.set_cons_zero]
            refine Gs_tail 10 (by kernel_rfl) TF_eq (by kernel_rfl) rfl ?_
            simp only [List.drop_succ_cons, List.drop_zero]
            go_wp2_with (refine wb_put H rfl 0 35 _ _ rfl _ 0 rfl _ _ rfl (.agg (stateC s1 sl1)) rfl 76 info35 Hz1.out (Nat.le_of_ble_eq_true rfl) HO1.out _ Hsp1.out ?_; clear H; intro w9 H)
            go_meet
            exact ⟨_, rfl, rfl, Lib.hid H⟩
          · replace H := H.new zC 35
            simp only [Act.put, List.setIfInBounds_toArray, List.set_cons_succ, List.set_cons_zero]
            refine Gv_callB 5 rfl (by kernel_rfl) (some 23) rfl rfl 18 #[.agg (stateC s1 sl1), .agg (entC e es1)] (by go_simp) (rapply_b s1 sl1 e es1 _ Hwf.out.1 Hwf.out.2 (HLs.out _ _ H) Hew.out.i8 Hew.out.ins Hew.out.evs (Hev1.out.later H.below) Hew.out.few) ?_
            rintro e1 w5 ⟨hb, ho⟩
            rw [Hap.out] at ho
            subst ho
            refine ⟨_, rfl, hb, ?_⟩
            replace H := H.call hb
            clear hb
            simp only [Act.put, List.setIfInBounds_toArray, List.set_cons_succ, List.set_cons_zero]
            refine Gv_move 6 (fun d _ _ _ _ h => by cases d <;> exact h) (by kernel_rfl) rfl _ rfl rfl (some 17) rfl (by kernel_rfl) (by kernel_rfl) (TF_ne (by decide)) (.tuple _) rfl ?_
            simp only [Act.put, List.setIfInBounds_toArray, List.set_cons_succ, List.set_cons_zero]
            refine Gv_bin 7 (fun d _ _ _ _ h => by cases d <;> exact h) (by kernel_rfl) rfl rfl (some 24) rfl (by kernel_rfl) (by kernel_rfl) (TF_ne (by decide)) (.agg (stateC s1 sl1)) (fun w => by go_simp) ?_
            simp only [Act.put, List.setIfInBounds_toArray, List.set_cons_succ, List.set_cons_zero]
            refine Gv_bin 8 (fun d _ _ _ _ h => by cases d <;> exact h) (by kernel_rfl) rfl rfl (some 25) rfl (by kernel_rfl) (by kernel_rfl) (TF_ne (by decide)) (.int .i64 1) (fun w => by go_simp) ?_
            simp only [Act.put, List.setIfInBounds_toArray, List.set_cons_succ, List.set_cons_zero]
            refine Gs_tail 10 (by kernel_rfl) TF_eq (by kernel_rfl) rfl ?_
            simp only [List.drop_succ_cons, List.drop_zero]
            go_wp2_with (refine wb_put H rfl 0 35 _ _ rfl _ 0 rfl _ _ rfl (.agg (stateC s1 sl1)) rfl 76 info35 Hz1.out (Nat.le_of_ble_eq_true rfl) HO1.out _ Hsp1.out ?_; clear H; intro w9 H)
            go_meet
            exact ⟨_, rfl, rfl, Lib.hid H⟩
        case rest =>
          obtain ⟨b8, rfl, rfl, HB2⟩ := hcut
          have H := HB2.out
          clear HB2
          go_wp2_with (first | (refine wb_whole H rfl 3 35 _ rfl _ rfl (stateC s sl) rfl _ Tryz.underlying35 rfl 76 info35 Hz.out ?_) | (refine wb_put H rfl 2 35 _ _ rfl _ 0 rfl _ _ rfl (.agg (stateC s sl)) rfl 76 info35 Hz.out (Nat.le_of_ble_eq_true rfl) HO.out _ Hsp.out ?_; clear H; intro w H))
          exact bodyPost_ret (v := .tuple #[.agg (stateC s sl), .int .i64 1]) (res35t rfl rfl rfl (H.holds _ (List.mem_cons_of_mem _ (List.mem_cons_of_mem _ (List.mem_cons_self ..)))) Hz.out) rfl ⟨H.below, rfl⟩
      | some t =>
        have Hap := Lib.hid hap
        have HA2 : Hid ((t.g.wf ∧ t.T.length = 8) ∧ runF s l = runF t (l.drop (k + 1))) := Lib.hid ⟨applyF_wf Hwf.out.1 Hwf.out.2 hap, by rw [Hst.out, hap]; rfl⟩
        have Hzt := Lib.hid (fun sl' => sc_size (s := t) (sl := sl') HA2.out.1.1.s8 HA2.out.1.2)
        have Hspt : Hid (∀ sl', splice zC 0 (Value.cells (.agg (stateC t sl'))).toList = stateC t sl') := Lib.hid (fun sl' => splice_all _ _ (by rw [zC_size]; exact (Hzt.out sl').symm))
        have Hspu : Hid (∀ sl', splice (stateC s1 sl1) 0 (Value.cells (.agg (stateC t sl'))).toList = stateC t sl') := Lib.hid (fun sl' => splice_all _ _ (by rw [Hz1.out]; exact (Hzt.out sl').symm))
        have Hfu : Hid (0 + 76 ≤ (stateC s1 sl1).size) := Lib.hid (by rw [Hz1.out]; decide)
        clear hap
        go_cut [8, 9] (fun v e wx => ∃ b sl', v = .pointer (some ⟨b, 0, none⟩) ∧ e = .int .i64 0 ∧ Hid (Sb [] w0 wx [(b, stateC t sl', 35), (b6, stateC s1 sl1, 35), (b4, zC, 35), (b2, stateC s sl, 35)] [(sl', t.g.L)]))
        case first =>
          refine Gt_start 10 [(g, o + k * 26, (entC e es1).toList)] H (fun q hq => by rw [List.mem_singleton] at hq; subst hq; exact fun j u hu => (World.cell?_of_block (a := ⟨g, o + k * 26 + j, none⟩) (H.fr g Hgl.out (by simp))).trans (Hrow.out j u hu)) (by kernel_rfl) rfl ?_
          clear H
          intro w H hbG
          clear hbG
          refine Gs_loadRow 0 10 (fun d _ _ _ _ h => by cases d <;> exact h) (by kernel_rfl) rfl _ _ rfl rfl (some 18) rfl (by kernel_rfl) (by kernel_rfl) (TF_ne (by decide)) b6 (0) rfl (stateC s1 sl1).toList (fun j v hv => TF_blk (i := 0) 0 j rfl (by rw [Nat.zero_add]; simpa using hv)) (by kernel_rfl) _ Tryz.underlying35 rfl (by rw [Array.length_toList, Hz1.out]; exact info35) ?_
          rw [Array.toArray_toList]
          simp only [Act.put, List.setIfInBounds_toArray, List.set_cons_succ, List.set_cons_zero]
          refine Gv_move 1 (fun d _ _ _ _ h => by cases d <;> exact h) (by kernel_rfl) rfl _ rfl rfl (some 19) rfl (by kernel_rfl) (by kernel_rfl) (TF_ne (by decide)) (.slice _ _ _) rfl ?_
          simp only [Act.put, List.setIfInBounds_toArray, List.set_cons_succ, List.set_cons_zero]
          refine Gv_move 2 (fun d _ _ _ _ h => by cases d <;> exact h) (by kernel_rfl) rfl _ rfl rfl (some 20) rfl (by kernel_rfl) (by kernel_rfl) (TF_ne (by decide)) (.int _ _) rfl ?_
          simp only [Act.put, List.setIfInBounds_toArray, List.set_cons_succ, List.set_cons_zero]
          refine Gv_bin 3 (fun d _ _ _ _ h => by cases d <;> exact h) (by kernel_rfl) rfl rfl (some 21) rfl (by kernel_rfl) (by kernel_rfl) (TF_ne (by decide)) (.pointer (some ⟨g, o + k * 26, none⟩)) (fun w => by go_simp) ?_
          simp only [Act.put, List.setIfInBounds_toArray, List.set_cons_succ, List.set_cons_zero]
          refine Gs_loadRow 4 10 (fun d _ _ _ _ h => by cases d <;> exact h) (by kernel_rfl) rfl _ _ rfl rfl (some 22) rfl (by kernel_rfl) (by kernel_rfl) (TF_ne (by decide)) g (o + k * 26) rfl (entC e es1).toList (fun j v hv => TF_old (i := 0) j rfl hv) (by kernel_rfl) _ Tryz.underlying42 rfl (by rw [Array.length_toList, Hez.out]; exact info42) ?_
          rw [Array.toArray_toList]
          simp only [Act.put, List.setIfInBounds_toArray, List.set_cons_succ, List.set_cons_zero]
          refine Gs_two 5 9 rfl rfl (some 23) rfl rfl rfl (some 8) rfl (by kernel_rfl) 18 #[.agg (stateC s1 sl1), .agg (entC e es1)] (by go_simp) (rapply_b s1 sl1 e es1 _ Hwf.out.1 Hwf.out.2 (HLs.out _ _ H) Hew.out.i8 Hew.out.ins Hew.out.evs (Hev1.out.later H.below) Hew.out.few) (.pointer (some ⟨w.heap.size, 0, none⟩)) (.cells zC 35) (by go_simp; first | rfl | done) ?_ ?_
          · rintro e1 w5 ⟨hb, ho⟩
            rw [Hap.out] at ho
            obtain ⟨sl', rfl, hown, hnew⟩ := ho
            refine ⟨_, rfl, hb, ?_⟩
            have H1 := (H.addRow sl' _ hown hb hnew).onlyRow
            have HOt := Lib.hid (sc_oneI (s := t) hown.shotsIn)
            clear H hb hown hnew
            have H := H1
            clear H1
            simp only [Act.put, List.setIfInBounds_toArray, List.set_cons_succ, List.set_cons_zero]
            refine Gv_move 6 (fun d _ _ _ _ h => by cases d <;> exact h) (by kernel_rfl) rfl _ rfl rfl (some 17) rfl (by kernel_rfl) (by kernel_rfl) (TF_ne (by decide)) (.tuple _) rfl ?_
            simp only [Act.put, List.setIfInBounds_toArray, List.set_cons_succ, List.set_cons_zero]
            refine Gv_bin 7 (fun d _ _ _ _ h => by cases d <;> exact h) (by kernel_rfl) rfl rfl (some 24) rfl (by kernel_rfl) (by kernel_rfl) (TF_ne (by decide)) (.agg (stateC t sl')) (fun w => by go_simp) ?_
            simp only [Act.put, List.setIfInBounds_toArray, List.set_cons_succ, List.set_cons_zero]
            refine Gv_bin 8 (fun d _ _ _ _ h => by cases d <;> exact h) (by kernel_rfl) rfl rfl (some 25) rfl (by kernel_rfl) (by kernel_rfl) (TF_ne (by decide)) (.int .i64 0) (fun w => by go_simp) ?_
            simp only [Act.put, List.setIfInBounds_toArray, List.set_cons_succ, List.set_cons_zero]
            refine Gs_alloc 9 rfl rfl (some 8) rfl (by kernel_rfl) (.pointer (some ⟨w5.heap.size, 0, none⟩)) (.cells zC 35) (by go_simp; first | rfl | done) ?_
            replace H := H.new zC 35
            simp only [Act.put, List.setIfInBounds_toArray, List.set_cons_succ, List.set_cons_zero]
            refine Gs_tail 10 (by kernel_rfl) TF_eq (by kernel_rfl) rfl ?_
            simp only [List.drop_succ_cons, List.drop_zero]
            go_wp2_with (refine wb_put H rfl 0 35 _ _ rfl _ 0 rfl _ _ rfl (.agg (stateC t sl')) rfl 76 info35 (Hzt.out sl') (Nat.le_of_ble_eq_true rfl) HOt.out _ (Hspt.out sl') ?_; clear H; intro w9 H)
            go_meet
            exact ⟨_, sl', rfl, rfl, Lib.hid H⟩
          · replace H := H.new zC 35
            simp only [Act.put, List.setIfInBounds_toArray, List.set_cons_succ, List.set_cons_zero]
            refine Gv_callB 5 rfl (by kernel_rfl) (some 23) rfl rfl 18 #[.agg (stateC s1 sl1), .agg (entC e es1)] (by go_simp) (rapply_b s1 sl1 e es1 _ Hwf.out.1 Hwf.out.2 (HLs.out _ _ H) Hew.out.i8 Hew.out.ins Hew.out.evs (Hev1.out.later H.below) Hew.out.few) ?_
            rintro e1 w5 ⟨hb, ho⟩
            rw [Hap.out] at ho
            obtain ⟨sl', rfl, hown, hnew⟩ := ho
            refine ⟨_, rfl, hb, ?_⟩
            have H1 := (H.addRow sl' _ hown hb hnew).onlyRow
            have HOt := Lib.hid (sc_oneI (s := t) hown.shotsIn)
            clear H hb hown hnew
            have H := H1
            clear H1
            simp only [Act.put, List.setIfInBounds_toArray, List.set_cons_succ, List.set_cons_zero]
            refine Gv_move 6 (fun d _ _ _ _ h => by cases d <;> exact h) (by kernel_rfl) rfl _ rfl rfl (some 17) rfl (by kernel_rfl) (by kernel_rfl) (TF_ne (by decide)) (.tuple _) rfl ?_
            simp only [Act.put, List.setIfInBounds_toArray, List.set_cons_succ, List.set_cons_zero]
            refine Gv_bin 7 (fun d _ _ _ _ h => by cases d <;> exact h) (by kernel_rfl) rfl rfl (some 24) rfl (by kernel_rfl) (by kernel_rfl) (TF_ne (by decide)) (.agg (stateC t sl')) (fun w => by go_simp) ?_
            simp only [Act.put, List.setIfInBounds_toArray, List.set_cons_succ, List.set_cons_zero]
            refine Gv_bin 8 (fun d _ _ _ _ h => by cases d <;> exact h) (by kernel_rfl) rfl rfl (some 25) rfl (by kernel_rfl) (by kernel_rfl) (TF_ne (by decide)) (.int .i64 0) (fun w => by go_simp) ?_
            simp only [Act.put, List.setIfInBounds_toArray, List.set_cons_succ, List.set_cons_zero]
            refine Gs_tail 10 (by kernel_rfl) TF_eq (by kernel_rfl) rfl ?_
            simp only [List.drop_succ_cons, List.drop_zero]
            go_wp2_with (refine wb_put H rfl 0 35 _ _ rfl _ 0 rfl _ _ rfl (.agg (stateC t sl')) rfl 76 info35 (Hzt.out sl') (Nat.le_of_ble_eq_true rfl) HOt.out _ (Hspt.out sl') ?_; clear H; intro w9 H)
            go_meet
            exact ⟨_, sl', rfl, rfl, Lib.hid H⟩
        case rest =>
          obtain ⟨b8, sl', rfl, rfl, HB2⟩ := hcut
          have H := HB2.out
          clear HB2
          have HOt := Lib.hid (sc_oneI (s := t) (Own.shotsIn (H.rows _ (List.mem_cons_self ..))))
          go_wp2_with (first | (refine wb_whole H rfl 0 35 _ rfl _ rfl (stateC t sl') rfl _ Tryz.underlying35 rfl 76 info35 (Hzt.out sl') ?_) | (refine wb_put H rfl 1 35 _ _ rfl _ 0 rfl _ _ rfl (.agg (stateC t sl')) rfl 76 info35 (Hzt.out sl') Hfu.out HOt.out _ (Hspu.out sl') ?_; clear H; intro w H))
          refine ⟨?_, by simp [intOf]; omega⟩
          simp
          exact ⟨k + 1, hlt, rfl, t, sl', [(sl', t.g.L)], Lib.hid H.tail, Lib.hid ⟨.inr rfl, fun _ => rfl⟩, HA2⟩
    · obtain rfl : k = l.length := by omega
      have hap : runF s l = some s1 := by rw [HA.out.2, List.drop_length]; rfl
      have hR := HLi.out.2 Hpos.out
      subst hR
      have Hz1 := Lib.hid (sc_size (s := s1) (sl := sl1) HA.out.1.1.s8 HA.out.1.2)
      have Hsp1 : Hid (splice zC 0 (Value.cells (.agg (stateC s1 sl1))).toList = stateC s1 sl1) := Lib.hid (splice_all _ _ (by rw [zC_size]; exact Hz1.out.symm))
      have H := HB.out
      have HO1 := Lib.hid (sc_oneI (s := s1) (Own.shotsIn (H.rows _ (List.mem_cons_self ..))))
      obtain rfl := Fin.out _ hap
      clear HB HA HLi hap
      go_wp2_with (first | (refine wb_whole H rfl 0 35 _ rfl _ rfl (stateC s1 sl1) rfl _ Tryz.underlying35 rfl 76 info35 Hz1.out ?_) | (refine wb_put H rfl 1 35 _ _ rfl _ 0 rfl _ _ rfl (.agg (stateC s1 sl1)) rfl 76 info35 Hz1.out (Nat.le_of_ble_eq_true rfl) HO1.out _ Hsp1.out ?_; clear H; intro w H))
      exact bodyPost_ret (v := .tuple #[.agg (stateC s1 sl1), .int .i64 0]) (res35t rfl rfl rfl (H.holds _ (List.mem_cons_of_mem _ (List.mem_cons_self ..))) Hz1.out) rfl ⟨H.below, sl1, rfl, H.rows _ (List.mem_cons_self ..), fun q hq => (H.rge _ (List.mem_cons_self ..) q hq).resolve_right (by simp)⟩
set_option maxHeartbeats 4000000 in
theorem rrun_none (s : Ste) (sl : Value) (ad : Option Addr) (c : Nat) (w0 : World) (hg : s.g.wf) (t8 : s.T.length = 8) (hin : ShotsIn w0 sl s.g.L) :
    Calls Tryz.prog 26 #[.agg (stateC s sl), .slice ad 0 c] w0 fun e w' => e = .returned (.tuple #[.agg (stateC s sl), .int .i64 0]) ∧ Below w0.heap.size w0 w' := by
  have H := Sb.start w0
  have Hz := Lib.hid (sc_size (s := s) (sl := sl) hg.s8 t8)
  have HO := Lib.hid (sc_oneI (s := s) hin)
  have Hsp : Hid (splice zC 0 (Value.cells (.agg (stateC s sl))).toList = stateC s sl) := Lib.hid (splice_all _ _ (by rw [zC_size]; exact Hz.out.symm))
  clear hg t8 hin
  go_enter Tryz.func26, Tryz.ntmps26
  go_upto_region 1 with (first | (refine wb_box H rfl 35 _ rfl (stateC s sl) rfl ?_; clear H; intro b2 w H) | (refine wb_alloc H rfl 35 rfl _ Tryz.zeroValue35 ?_; clear H; intro b4 w H))
  go_upto_region 2 with (first | (refine wb_alloc H rfl 35 rfl _ Tryz.zeroValue35 ?_; clear H; intro b6 w H) | (refine wb_whole H rfl 1 35 _ rfl _ rfl (stateC s sl) rfl _ Tryz.underlying35 rfl 76 info35 Hz.out ?_) | (refine wb_put H rfl 0 35 _ _ rfl _ 0 rfl _ _ rfl (.agg (stateC s sl)) rfl 76 info35 Hz.out (Nat.le_of_ble_eq_true rfl) HO.out _ Hsp.out ?_; clear H; intro w H))
  replace H : Sb [] w0 w [(b6, stateC s sl, 35), (b4, zC, 35), (b2, stateC s sl, 35)] [] := H
  go_wp2_with fail
  refine wp_loop_rounds 1 ?_
  rw [rounds_succ]
  go_wp2_with (first | (refine wb_whole H rfl 0 35 _ rfl _ rfl (stateC s sl) rfl _ Tryz.underlying35 rfl 76 info35 Hz.out ?_) | (refine wb_put H rfl 1 35 _ _ rfl _ 0 rfl _ _ rfl (.agg (stateC s sl)) rfl 76 info35 Hz.out (Nat.le_of_ble_eq_true rfl) HO.out _ Hsp.out ?_; clear H; intro w H))
  exact bodyPost_ret (v := .tuple #[.agg (stateC s sl), .int .i64 0]) (res35t rfl rfl rfl (H.holds _ (List.mem_cons_of_mem _ (List.mem_cons_self ..))) Hz.out) rfl ⟨rfl, H.below⟩
set_option maxHeartbeats 2000000 in
theorem rroster_any (w0 : World) : Calls Tryz.prog 69 #[] w0 fun e w' => e = .returned (.agg (rosterC 0 nobody)) ∧ Below w0.heap.size w0 w' := by
  have H := Sb.start w0
  go_enter Tryz.func69, Tryz.ntmps69
  go_wp2_with (first | (refine wb_alloc H rfl 33 rfl _ Tryz.zeroValue33 ?_; clear H; intro b w H))
  rename_i b0 w9 _ _
  have HB : Hid (Sb [] w0 w [(b, rosterC 0 (List.replicate 8 ⟨0, 0⟩), 33), (b0, rosterC 0 (List.replicate 8 ⟨0, 0⟩), 33)] []) := Lib.hid H
  clear H
  go_loopw [2] (fun i W => ∃ k : Nat, k ≤ 8 ∧ i = .int .i64 k ∧ Hid (Sb [] w0 W [(b, rosterC 0 (List.replicate k ⟨-1, 0⟩ ++ List.replicate (8 - k) ⟨0, 0⟩), 33), (b0, rosterC 0 (List.replicate 8 ⟨0, 0⟩), 33)] [])) (fun i _ => 8 - (intOf i).toNat)
  case atStart => exact ⟨0, Nat.zero_le _, rfl, HB⟩
  case round =>
    clear HB
    obtain ⟨k, hk, rfl, HB⟩ := hrel
    by_cases hlt : k < 8
    · have H := HB.out
      rw [rep_cons k hlt (⟨0, 0⟩ : Seat)] at H
      have G1 := Lib.hid (rc_putPeer 0 (List.replicate k ⟨-1, 0⟩) (List.replicate (8 - (k + 1)) ⟨0, 0⟩) ⟨0, 0⟩ (-1) k (by simp))
      have hft : 1 + k * 2 + 1 ≤ (rosterC 0 (List.replicate k ⟨-1, 0⟩ ++ ⟨0, 0⟩ :: List.replicate (8 - (k + 1)) ⟨0, 0⟩)).size := by rw [rc_size (by simp; omega)]; omega
      have e1 : List.replicate k (⟨-1, 0⟩ : Seat) ++ ⟨-1, 0⟩ :: List.replicate (8 - (k + 1)) ⟨0, 0⟩ = List.replicate (k + 1) ⟨-1, 0⟩ ++ List.replicate (8 - (k + 1)) ⟨0, 0⟩ := by
        rw [List.replicate_succ', List.append_assoc]; rfl
      have E1 := Lib.hid e1
      clear HB e1
      go_wp2_with (refine wb_put H rfl 0 3 _ _ rfl _ (1 + k * 2) rfl _ _ rfl (.int .i64 (-1)) rfl 1 info3 rfl hft rfl _ G1.out ?_; clear H; intro w H)
      dsimp only [List.set_cons_zero] at H
      rw [E1.out] at H
      exact ⟨⟨k + 1, hlt, rfl, Lib.hid H⟩, by simp only [intOf]; omega⟩
    · obtain rfl : k = 8 := by omega
      have H : Sb [] w0 wr [(b, rosterC 0 nobody, 33), (b0, rosterC 0 (List.replicate 8 ⟨0, 0⟩), 33)] [] := HB.out
      have Hz : Hid ((rosterC 0 nobody).size = 17) := Lib.hid (rc_size rfl)
      have Hspl : Hid (splice (rosterC 0 (List.replicate 8 ⟨0, 0⟩)) 0 (Value.cells (.agg (rosterC 0 nobody))).toList = rosterC 0 nobody) := Lib.hid (splice_all _ _ rfl)
      have HONE : Hid ((Value.cells (.agg (rosterC 0 nobody))).toList.all (·.oneCell') = true) := Lib.hid (by decide +kernel)
      clear HB
      go_wp2_with (first | (refine wb_whole H rfl 0 33 _ rfl _ rfl (rosterC 0 nobody) rfl _ Tryz.underlying33 rfl 17 info33 Hz.out ?_) | (refine wb_put H rfl 1 33 _ _ rfl _ 0 rfl _ _ rfl (.agg (rosterC 0 nobody)) rfl 17 info33 Hz.out (Nat.le_of_ble_eq_true rfl) HONE.out _ Hspl.out ?_; clear H; intro w H))
      refine bodyPost_ret (v := .agg (rosterC 0 nobody)) ?_ rfl ⟨rfl, H.below⟩
      exact res33 rfl rfl (H.holds _ (List.mem_cons_of_mem _ (List.mem_cons_self ..))) Hz.out
theorem rstart_any (s : ByteArray) (w0 : World) (hs : s.size ≤ maxLen) (D : Int) (hd : seed s.data.toList = D) :
    Calls Tryz.prog 27 #[.string s] w0 fun e w' => e = .returned (.agg (stateC (startS D) (.slice none 0 0))) ∧ Below w0.heap.size w0 w' := by
  have HN := Lib.hid (fun w => rnew_zS s w hs D hd)
  have H := Sb.start w0
  clear hd
  go_enter Tryz.func27, Tryz.ntmps27
  go_wp2_with (first | (refine wb_alloc H rfl 35 rfl _ Tryz.zeroValue35 ?_; clear H; intro b2 w H))
  refine (HN.out _).mono ?_; rintro e w' ⟨rfl, hb⟩
  replace H := H.call hb
  clear hb
  go_wp2_with fail
  refine (rroster_any _).mono ?_; rintro e w' ⟨rfl, hb⟩
  replace H := H.call hb
  clear hb
  have Hz : Hid ((stateC (startS D) (.slice none 0 0)).size = 76) := Lib.hid (sc_size rfl rfl)
  go_wp2_with (first | (refine wl_build rfl 35 _ rfl (stateC (startS D) (.slice none 0 0)) (by kernel_rfl) ?_) | (refine wb_put H rfl 0 35 _ _ rfl _ 0 rfl _ _ rfl (.agg (stateC (startS D) (.slice none 0 0))) rfl 76 info35 Hz.out (Nat.le_of_ble_eq_true rfl) rfl (stateC (startS D) (.slice none 0 0)) rfl ?_; clear H; intro w H))
  refine bodyPost_ret (v := .agg (stateC (startS D) (.slice none 0 0))) ?_ rfl ⟨rfl, H.below⟩
  exact res35 rfl rfl (H.holds _ (List.mem_cons_self ..)) Hz.out
end Go.Proofs.YtdopfonebpklkaaGreat.game
namespace Go.Proofs.YtdopfonebpklkaaGreat.game
open Go.ChangeShapes Go.WideShapes Go.ChangeAt Go.RowKit dice
set_option maxRecDepth 100000
variable {Hs : List Nat} {W0 w w' : World} {l : List Blk} {R : List RowS}
/-- Fewer blocks are known. -/
theorem Sb.sublist (h : Sb Hs W0 w l R) {l' : List Blk} (hs : l'.Sublist l) : Sb Hs W0 w l' R :=
  ⟨h.os, h.tape, h.output, h.size, h.fr, fun p hp => h.holds p (hs.subset hp), fun p hp => h.ge p (hs.subset hp), h.nd.sublist (hs.map _), h.rows, h.rge, fun r hr p hp => h.apart r hr p (hs.subset hp), h.rnd⟩
theorem Sb.perm (h : Sb Hs W0 w l R) {l' : List Blk} (hs : l'.Perm l) : Sb Hs W0 w l' R :=
  ⟨h.os, h.tape, h.output, h.size, h.fr, fun p hp => h.holds p (hs.subset hp), fun p hp => h.ge p (hs.subset hp), (hs.map _).nodup_iff.2 h.nd, h.rows, h.rge, fun r hr p hp => h.apart r hr p (hs.subset hp), h.rnd⟩
/-- A row of cells of the call's own, its block among l. -/
def RowIn (e : TypeId) (size : Nat) (l : List Blk) (v : Value) (n : Nat) (xs : List Value) : Prop :=
  xs.length = n * size ∧ ((v = .slice none 0 0 ∧ n = 0) ∨ ∃ g cap cur, v = .slice (some ⟨g, 0, none⟩) n cap ∧ (g, cur, e) ∈ l ∧ n ≤ cap ∧ cap ≤ maxLen ∧ cur.size = cap * size ∧ cur.toList.take (n * size) = xs)
theorem RowIn.mono {e : TypeId} {size n : Nat} {l l' : List Blk} {v : Value} {xs : List Value} (h : RowIn e size l v n xs) (hs : ∀ p ∈ l, p ∈ l') : RowIn e size l' v n xs := by
  refine ⟨h.1, ?_⟩
  rcases h.2 with a | ⟨g, cap, cur, rfl, hm, r⟩
  · exact .inl a
  · exact .inr ⟨g, cap, cur, rfl, hs _ hm, r⟩
theorem RowIn.own {e : TypeId} {size n : Nat} {v : Value} {xs : List Value} {Q : List Blk} (h : RowIn e size Q v n xs) (H : Sb Hs W0 w l R) (hs : ∀ p ∈ Q, p ∈ l) : w.ownsRow 0 e size v n xs := by
  refine ⟨h.1, ?_⟩
  rcases h.2 with a | ⟨g, cap, cur, rfl, hm, r⟩
  · exact .inl a
  · exact .inr ⟨g, cap, cur, rfl, Nat.zero_le _, H.holds _ (hs _ hm), r⟩
/-- What an append to such a row leaves. -/
theorem Sb.appendRow {F Q : List Blk} {e : TypeId} {size n : Nat} {v v' : Value} {xs ys : List Value} (H : Sb Hs W0 w (F ++ Q) R) (hrow : RowIn e size Q v n xs) (ho : w'.ownsRow 0 e size v' (n + 1) ys) (hg : w.grownBy w' v.ownBlock) (hb : v'.ownBlock = v.ownBlock ∨ v'.ownBlock = some w.heap.size) :
    ∃ Q', Sb Hs W0 w' (F ++ Q') R ∧ RowIn e size Q' v' (n + 1) ys ∧ ∀ p ∈ Q, v.ownBlock ≠ some p.1 → p ∈ Q' := by
  obtain ⟨g', cap', cur', rfl, _, hgg, hnc, hcm, hcs, htake⟩ : ∃ g cap cur, v' = .slice (some ⟨g, 0, none⟩) (n + 1) cap ∧ 0 ≤ g ∧ w'.heap[g]? = some (.cells cur e (0, 0)) ∧ n + 1 ≤ cap ∧ cap ≤ maxLen ∧ cur.size = cap * size ∧ cur.toList.take ((n + 1) * size) = ys := by
    rcases ho.2 with ⟨_, h0⟩ | h
    · omega
    · exact h
  have hg' : v.ownBlock = some g' ∨ g' = w.heap.size := by
    rcases hb with h | h
    · exact .inl h.symm
    · exact .inr (Option.some.inj h)
  have hvm : ∀ g, v.ownBlock = some g → ∃ p ∈ Q, p.1 = g := fun g hv => by
    rcases hrow.2 with ⟨rfl, _⟩ | ⟨g2, cap, cur, rfl, hm, _⟩
    · simp [Value.ownBlock] at hv
    · simp [Value.ownBlock] at hv
      exact ⟨_, hm, hv⟩
  have hFne : ∀ p ∈ F, v.ownBlock ≠ some p.1 := fun p hp hv => by
    obtain ⟨q, hq, e⟩ := hvm _ hv
    have := H.nd
    rw [List.map_append, List.nodup_append] at this
    exact this.2.2 _ (List.mem_map_of_mem hp) _ (List.mem_map_of_mem hq) e.symm
  have keep : ∀ k, k < w.heap.size → v.ownBlock ≠ some k → w'.heap[k]? = w.heap[k]? := fun k hk hn => hg.block k hk (fun e => hn e.symm)
  have hsub : (F ++ Q.filter fun p => decide (v.ownBlock ≠ some p.1)).Sublist (F ++ Q) := List.Sublist.append_left List.filter_sublist F
  have hQ0 : ∀ p ∈ F ++ Q.filter fun p => decide (v.ownBlock ≠ some p.1), v.ownBlock ≠ some p.1 := fun p hp => by
    rcases List.mem_append.1 hp with h | h
    · exact hFne p h
    · simpa using (List.mem_filter.1 h).2
  have hnew : ∀ p ∈ F ++ Q.filter fun p => decide (v.ownBlock ≠ some p.1), p.1 ≠ g' := fun p hp e2 => by
    rcases hg' with h | h
    · exact hQ0 p hp (by rw [h, e2])
    · have := H.lt p (hsub.subset hp)
      omega
  have hgege : W0.heap.size ≤ g' ∨ g' ∈ Hs := by
    rcases hg' with h | h
    · obtain ⟨q, hq, e⟩ := hvm _ h
      rw [← e]
      exact H.ge q (List.mem_append_right _ hq)
    · exact .inl (by rw [h]; exact H.size)
  refine ⟨(g', cur', e) :: Q.filter fun p => decide (v.ownBlock ≠ some p.1), ?_, ⟨ho.1, .inr ⟨g', cap', cur', rfl, List.mem_cons_self .., hnc, hcm, hcs, htake⟩⟩, fun p hp hn => List.mem_cons_of_mem _ (List.mem_filter.2 ⟨hp, by simpa using hn⟩)⟩
  have hm : ∀ p ∈ F ++ (g', cur', e) :: Q.filter fun p => decide (v.ownBlock ≠ some p.1), p = (g', cur', e) ∨ p ∈ F ++ Q.filter fun p => decide (v.ownBlock ≠ some p.1) := fun p hp => by
    rcases List.mem_append.1 hp with h | h
    · exact .inr (List.mem_append_left _ h)
    · rcases List.mem_cons.1 h with h | h
      · exact .inl h
      · exact .inr (List.mem_append_right _ h)
  refine ⟨hg.os.trans H.os, hg.tape.trans H.tape, hg.output.trans H.output, Nat.le_trans H.size hg.size, fun k hk hh => ?_, fun p hp => ?_, fun p hp => ?_, ?_, fun r hr => ?_, H.rge, fun r hr p hp => ?_, H.rnd⟩
  · rw [keep k (Nat.lt_of_lt_of_le hk H.size) (fun hv => by
      obtain ⟨q, hq, e⟩ := hvm _ hv
      rcases H.ge q (List.mem_append_right _ hq) with a | a
      · omega
      · rw [e] at a; exact hh a)]
    exact H.fr k hk hh
  · rcases hm p hp with rfl | h
    · exact hgg
    · rw [keep p.1 (H.lt p (hsub.subset h)) (hQ0 p h)]
      exact H.holds p (hsub.subset h)
  · rcases hm p hp with rfl | h
    · exact hgege
    · exact H.ge p (hsub.subset h)
  · have h1 : ((F ++ Q.filter fun p => decide (v.ownBlock ≠ some p.1)).map (·.1)).Nodup := H.nd.sublist (hsub.map _)
    have h2 : (F ++ (g', cur', e) :: Q.filter fun p => decide (v.ownBlock ≠ some p.1)).Perm ((g', cur', e) :: (F ++ Q.filter fun p => decide (v.ownBlock ≠ some p.1))) := List.perm_middle
    rw [(h2.map _).nodup_iff, List.map_cons, List.nodup_cons]
    refine ⟨fun hmm => ?_, h1⟩
    obtain ⟨p, hp, e2⟩ := List.mem_map.1 hmm
    exact hnew p hp e2
  · refine own_same (H.rows r hr) (fun k hk => keep k (H.rlt r hr k hk) (fun hv => ?_))
    obtain ⟨q, hq, e⟩ := hvm _ hv
    exact H.apart r hr q (List.mem_append_right _ hq) (by rw [e]; exact hk)
  · rcases hm p hp with rfl | h
    · intro hk
      rcases hg' with h | h
      · obtain ⟨q, hq, e⟩ := hvm _ h
        exact H.apart r hr q (List.mem_append_right _ hq) (by rw [e]; exact hk)
      · have := H.rlt r hr _ hk
        dsimp only at this
        omega
    · exact H.apart r hr p (hsub.subset h)
section
variable {ops : Array Oper} {rest : List Oper} {op : Oper} {a : Act} {Q : Exit → Act → World → Prop}
/-- A slice literal of one struct. -/
theorem wb_mk1 (H : Sb Hs W0 w l R) (hg : op.guard = none) (t e : TypeId) (x : Operand) (ho : op.op = .buildSlice t 1 #[(0, x)]) (hu : Tryz.prog.underlying t = some (.slice e)) (c : Array Value) (hx : a.eval x = .agg c) (n : Nat)
    (hi : ∃ i z, Tryz.prog.info? e = some i ∧ i.zero = some z ∧ i.size = n) (hn : c.size = n) (hp : 0 < n) (hs : n ≤ 1000)
    (h : ∀ b w', Sb Hs W0 w' ((b, c, e) :: l) R → wpList Tryz.prog ops Q rest (a.put op.dst (.slice (some ⟨b, 0, none⟩) 1 1)) w') : wpList Tryz.prog ops Q (op :: rest) a w := by
  obtain ⟨i, z, h1, h2, h3⟩ := hi
  refine wpList_buildSlice hg t e 1 #[(0, x)] ho c i z hu h1 h2 (by rw [h3]; omega) (by rw [h3]; omega) ?_ (h _ _ (H.new c e))
  have := Go.Great.fill_whole (s := i.size) (by omega) [.agg c] ((Array.range (1 * i.size)).map (z.cells[· % z.cells.size]!)) (fun v hv => by rw [List.mem_singleton] at hv; subst hv; rw [h3]; exact hn) (by simp)
  simpa [hx, Value.cells] using this
end
/-- An entry's events, in a block of their own or none. -/
def EvQ (Q : List Blk) (s : Value) (evs : List Evt) : Prop := (evs = [] ∧ s = .slice none 0 0) ∨ ∃ g x, evs = [x] ∧ x.wf ∧ s = .slice (some ⟨g, 0, none⟩) 1 1 ∧ (g, evC x, 60) ∈ Q
theorem EvQ.mono {l l' : List Blk} {s : Value} {evs : List Evt} (h : EvQ l s evs) (hs : ∀ p ∈ l, p ∈ l') : EvQ l' s evs := by
  rcases h with h | ⟨g, x, h1, h2, h3, h4⟩
  · exact .inl h
  · exact .inr ⟨g, x, h1, h2, h3, hs _ h4⟩
theorem EvQ.ev {s : Value} {evs : List Evt} {Q : List Blk} (h : EvQ Q s evs) (H : Sb Hs W0 w l R) (hs : ∀ p ∈ Q, p ∈ l) : EvW w s evs := by
  rcases h with ⟨rfl, rfl⟩ | ⟨g, x, rfl, _, rfl, h⟩
  · exact .inl ⟨rfl, _, _, rfl⟩
  · refine .inr ⟨g, 0, 1, rfl, H.lt _ (hs _ h), fun j v hv => ?_⟩
    rw [Nat.zero_add, cell_of_row w g j _ 60 (0, 0) (H.holds _ (hs _ h))]
    unfold evC
    rw [List.getElem?_toArray]
    simpa [evsL, evL] using hv
theorem EvQ.wf {s : Value} {evs : List Evt} {Q : List Blk} (h : EvQ Q s evs) : ∀ x ∈ evs, x.wf := fun y hy => by
  rcases h with ⟨rfl, _⟩ | ⟨g, x, rfl, hx, _⟩
  · simp at hy
  · rw [List.mem_singleton] at hy
    subst hy
    exact hx
theorem EvQ.len {s : Value} {evs : List Evt} {Q : List Blk} (h : EvQ Q s evs) : evs.length ≤ 1 := by
  rcases h with ⟨rfl, _⟩ | ⟨g, x, rfl, _⟩ <;> simp
def entsL (log : List Ent) (es : List Value) : List Value := (log.zip es).flatMap fun p => (entC p.1 p.2).toList
/-- A log of the call's own. -/
structure LogQ (Q : List Blk) (v : Value) (log : List Ent) (es : List Value) : Prop where
  len : es.length = log.length
  ev : ∀ (k : Nat) (e : Ent) (s : Value), log[k]? = some e → es[k]? = some s → EvQ Q s e.evs
  i8 : ∀ e ∈ log, e.ins.length = 8
  ins : ∀ e ∈ log, ∀ i ∈ e.ins, i.ok
  row : RowIn 42 26 Q v log.length (entsL log es)
theorem entsL_len : ∀ (log : List Ent) (es : List Value), es.length = log.length → (∀ e ∈ log, e.ins.length = 8) → (entsL log es).length = log.length * 26
  | [], _, _, _ => by simp [entsL]
  | e :: log, [], h, _ => by simp at h
  | e :: log, s :: es, h, h8 => by
    have ih := entsL_len log es (by simpa using h) (fun e he => h8 e (List.mem_cons_of_mem _ he))
    unfold entsL at *
    rw [List.zip_cons_cons, List.flatMap_cons, List.length_append, ih, Array.length_toList, en_size (h8 e (List.mem_cons_self ..)), List.length_cons]
    omega
theorem entsL_at : ∀ (log : List Ent) (es : List Value) (k j : Nat) (e : Ent) (s v : Value), (∀ e ∈ log, e.ins.length = 8) → log[k]? = some e → es[k]? = some s → (entC e s).toList[j]? = some v → (entsL log es)[k * 26 + j]? = some v
  | [], _, k, _, _, _, _, _, h, _, _ => by simp at h
  | e' :: log, [], k, _, _, _, _, _, _, h, _ => by simp at h
  | e' :: log, s' :: es, 0, j, e, s, v, h8, he, hs, hv => by
    simp at he hs
    subst he hs
    have := (List.getElem?_eq_some_iff.1 hv).1
    unfold entsL
    rw [List.zip_cons_cons, List.flatMap_cons, Nat.zero_mul, Nat.zero_add, List.getElem?_append_left this]
    exact hv
  | e' :: log, s' :: es, k + 1, j, e, s, v, h8, he, hs, hv => by
    have ih := entsL_at log es k j e s v (fun e he => h8 e (List.mem_cons_of_mem _ he)) (by simpa using he) (by simpa using hs) hv
    unfold entsL at *
    have h26 : (entC e' s').toList.length = 26 := by rw [Array.length_toList, en_size (h8 e' (List.mem_cons_self ..))]
    rw [List.zip_cons_cons, List.flatMap_cons, List.getElem?_append_right (by rw [h26]; omega), h26, show (k + 1) * 26 + j - 26 = k * 26 + j by omega]
    exact ih
theorem LogQ.logW {Q : List Blk} {v : Value} {log : List Ent} {es : List Value} (h : LogQ Q v log es) (H : Sb Hs W0 w l R) (hs : ∀ p ∈ Q, p ∈ l) : LogW w v log := by
  refine ⟨es, h.len, fun k e s he hs' => (h.ev k e s he hs').ev H hs, ?_⟩
  have ho := h.row.own H hs
  rcases h.row.2 with ⟨rfl, h0⟩ | ⟨g, cap, cur, rfl, hm, _⟩
  · exact .inl ⟨List.eq_nil_of_length_eq_zero h0, _, _, rfl⟩
  · refine .inr ⟨g, 0, cap, rfl, H.lt _ (hs _ hm), fun k e s he hs' j u hu => ?_⟩
    have := ho.cells (g := g) rfl _ u (entsL_at log es k j e s u h.i8 he hs' hu)
    rw [add_n] at this
    rw [show 0 + k * 26 + j = 0 + (k * 26 + j) by omega]
    exact this
theorem LogQ.wf {Q : List Blk} {v : Value} {log : List Ent} {es : List Value} (h : LogQ Q v log es) : ∀ e ∈ log, e.wf ∧ e.evs.length ≤ 1 := fun e he => by
  obtain ⟨k, hk⟩ := List.mem_iff_getElem?.1 he
  have hl := (List.getElem?_eq_some_iff.1 hk).1
  have hE := h.ev k e (es[k]'(by rw [h.len]; exact hl)) hk (List.getElem?_eq_getElem _)
  have := hE.len
  exact ⟨⟨h.i8 e he, h.ins e he, hE.wf, by omega⟩, this⟩
theorem LogQ.snoc {Q Q' : List Blk} {v v' : Value} {log : List Ent} {es : List Value} {e : Ent} {s : Value} (h : LogQ Q v log es) (hE : EvQ Q s e.evs) (h8 : e.ins.length = 8) (hI : ∀ i ∈ e.ins, i.ok) (hr : RowIn 42 26 Q' v' (log.length + 1) (entsL log es ++ (entC e s).toList)) (hQ : ∀ p ∈ Q, v.ownBlock ≠ some p.1 → p ∈ Q') (hno : ∀ g cur, (g, cur, (60 : TypeId)) ∈ Q → v.ownBlock ≠ some g) : LogQ Q' v' (log ++ [e]) (es ++ [s]) := by
  have hev : ∀ s evs, EvQ Q s evs → EvQ Q' s evs := fun s evs hh => by
    rcases hh with hh | ⟨g, x, h1, h2, h3, h4⟩
    · exact .inl hh
    · exact .inr ⟨g, x, h1, h2, h3, hQ _ h4 (hno _ _ h4)⟩
  have hz : entsL (log ++ [e]) (es ++ [s]) = entsL log es ++ (entC e s).toList := by
    unfold entsL
    rw [List.zip_append h.len.symm, List.flatMap_append]
    simp
  refine ⟨by simp [h.len], fun k e' s' he hs => ?_, fun e' he => ?_, fun e' he => ?_, by rw [hz, List.length_append]; exact hr⟩
  · by_cases hk : k < log.length
    · rw [List.getElem?_append_left hk] at he
      rw [List.getElem?_append_left (by rw [h.len]; exact hk)] at hs
      exact hev _ _ (h.ev k e' s' he hs)
    · rw [List.getElem?_append_right (by omega)] at he
      rw [List.getElem?_append_right (by rw [h.len]; omega), h.len] at hs
      by_cases e0 : k - log.length = 0
      · rw [e0] at he hs
        simp at he hs
        subst he hs
        exact hev _ _ hE
      · rw [List.getElem?_eq_none (by simp; omega)] at he
        cases he
  · rcases List.mem_append.1 he with h' | h'
    · exact h.i8 e' h'
    · rw [List.mem_singleton] at h'; subst h'; exact h8
  · rcases List.mem_append.1 he with h' | h'
    · exact h.ins e' h'
    · rw [List.mem_singleton] at h'; subst h'; exact hI
/-- An entry's row is no event's. -/
theorem RowIn.no60 {Q : List Blk} {v : Value} {n : Nat} {xs : List Value} (h : RowIn 42 26 Q v n xs) (H : Sb Hs W0 w l R) (hs : ∀ p ∈ Q, p ∈ l) : ∀ g cur, (g, cur, (60 : TypeId)) ∈ Q → v.ownBlock ≠ some g := fun g cur hm hv => by
  rcases h.2 with ⟨rfl, _⟩ | ⟨g2, cap, cur2, rfl, hm2, _⟩
  · simp [Value.ownBlock] at hv
  · simp [Value.ownBlock] at hv
    subst hv
    have h1 := H.holds _ (hs _ hm)
    have h2 := H.holds _ (hs _ hm2)
    dsimp only at h1 h2
    rw [h1] at h2
    injection h2 with h2
    injection h2 with _ h2
    exact absurd h2 (by decide)
theorem ins_set : ∀ (I : List Inp) (k : Nat) (i : Inp), k < I.length → ((I.flatMap inpL).take (k * 3) ++ inpL i ++ (I.flatMap inpL).drop (k * 3 + 3)) = (I.set k i).flatMap inpL
  | [], k, i, h => by simp at h
  | a :: I, 0, i, _ => by
    rw [List.flatMap_cons, List.set_cons_zero, List.flatMap_cons]
    simp [inpL]
  | a :: I, k + 1, i, h => by
    have ih := ins_set I k i (by simpa using h)
    have h3 : (inpL a).length = 3 := rfl
    rw [List.flatMap_cons, List.set_cons_succ, List.flatMap_cons, ← ih]
    rw [List.take_append, List.drop_append, h3, List.take_of_length_le (by rw [h3]; omega), List.drop_of_length_le (by rw [h3]; omega), show (k + 1) * 3 - 3 = k * 3 by omega, show (k + 1) * 3 + 3 - 3 = k * 3 + 3 by omega]
    simp
/-- An input set in an entry. -/
theorem en_put {fr : Int} {evs : List Evt} {I : List Inp} {s : Value} (k : Nat) (i : Inp) (hk : k < I.length) : splice (entC ⟨fr, evs, I⟩ s) (2 + k * 3) (inpL i) = entC ⟨fr, evs, I.set k i⟩ s := by
  have := ins_set I k i hk
  unfold splice entC
  simp only [inpL, List.length_cons, List.length_nil] at this ⊢
  rw [show 2 + k * 3 + (0 + 1 + 1 + 1) = (k * 3 + 3) + 1 + 1 by omega, show 2 + k * 3 = k * 3 + 1 + 1 by omega]
  simp only [List.take_succ_cons, List.drop_succ_cons, List.cons_append]
  rw [this]
theorem en_putEv {fr : Int} {evs evs' : List Evt} {I : List Inp} {s s' : Value} : splice (entC ⟨fr, evs, I⟩ s) 1 [s'] = entC ⟨fr, evs', I⟩ s' := by
  unfold splice entC
  simp
end Go.Proofs.YtdopfonebpklkaaGreat.game
