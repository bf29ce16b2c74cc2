/- The document's answer: Apply (printed by mkxf.py). A region that draws: facts of whole blocks and of old rows. -/
import Derived.Test.YtdopfonebpklkaaGreatFoldRuns20
import Derived.Test.YtdopfonebpklkaaGreatFoldRuns16
import Derived.Test.YtdopfonebpklkaaGreatFoldRuns18
import Derived.Test.YtdopfonebpklkaaGreatFoldRuns11
import Derived.Test.YtdopfonebpklkaaGreatFoldRuns03
namespace Go.Proofs.YtdopfonebpklkaaGreat.game
open Go.ChangeShapes Go.WideShapes Go.ChangeAt Go.RowKit dice
set_option maxRecDepth 100000

theorem gcOneI {W : World} {fr d : Int} {S : List Shp} {L : List Sht} {sl : Value} (h : ShotsIn W sl L) : (Value.cells (.agg (gameC fr d S sl))).toList.all (·.oneCell') = true := by
  obtain ⟨ad, c, e, _⟩ := h.form
  rw [e]
  exact gcv_one
set_option maxHeartbeats 16000000 in
theorem rapply_b (s : Ste) (sl : Value) (e : Ent) (esl : Value) (w0 : World) (hg : s.g.wf) (t8 : s.T.length = 8) (hin : ShotsIn w0 sl s.g.L) (h8 : e.ins.length = 8) (hI : ∀ i ∈ e.ins, i.ok) (hE : ∀ x ∈ e.evs, x.wf) (hev : EvW w0 esl e.evs) (hn : e.evs.length ≤ 1000) :
    Calls Tryz.prog 18 #[.agg (stateC s sl), .agg (entC e esl)] w0 (ApOut (applyF s e) s sl w0) := by
  have H := Sb.start w0
  have HM := Lib.hid (fun w h => rmayS_b s sl w hg t8 h)
  have HEM := Lib.hid (fun w h => rentMay_b e esl w h8 hI h hn)
  have HI := Lib.hid hin
  have HEv := Lib.hid hev
  have Hz := Lib.hid (sc_size (s := s) (sl := sl) hg.s8 t8)
  have HO := Lib.hid (sc_oneI (s := s) hin)
  have Hsp : Hid (splice zC 0 (Value.cells (.agg (stateC s sl))).toList = stateC s sl) := Lib.hid (splice_all _ _ (by rw [zC_size]; exact Hz.out.symm))
  have Hez := Lib.hid (en_size (sl := esl) h8)
  have Hfr := Lib.hid (en_fr (e := e) (sl := esl))
  have Hsl := Lib.hid (en_sl (e := e) (sl := esl))
  have Hins := Lib.hid (en_ins (e := e) (sl := esl))
  have Hsf := Lib.hid (sc_fr (s := s) (sl := sl))
  have HIo := Lib.hid hI
  have HEo := Lib.hid hE
  have H8 := Lib.hid h8
  have Hli := Lib.hid (show (e.ins.flatMap inpL).length = 24 by rw [length_ins, h8])
  have Hgs := Lib.hid hg.s8
  have Ht8 := Lib.hid t8
  obtain ⟨o, ho⟩ : ∃ o, applyF s e = o := ⟨_, rfl⟩
  rw [ho]
  have hfin : ∀ o', applyF s e = o' → o' = o := fun o' h => h.symm.trans ho
  have Fin := Lib.hid hfin
  clear hfin
  generalize hec : entC e esl = ec at *
  clear hec hE hI hev hin ho
  cases hm : mayS s with
  | false =>
    rw [hm] at HM
    have Hm := Lib.hid hm
    clear hm hg t8 h8 hn
    go_enter Tryz.func18, Tryz.ntmps18
    go_wp2_with (first | (refine wb_box H rfl 35 _ rfl (stateC s sl) rfl ?_; clear H; intro b2 w H) | (refine wb_box H rfl 42 _ rfl ec rfl ?_; clear H; intro b3 w H) | (refine wb_alloc H rfl 35 rfl _ Tryz.zeroValue35 ?_; clear H; intro b4 w H) | (refine wb_whole H rfl 2 35 _ rfl _ rfl (stateC s sl) rfl _ Tryz.underlying35 rfl 76 info35 Hz.out ?_))
    refine (HM.out _ ((HI.out.later H.below).w)).mono ?_; rintro e1 w' ⟨rfl, hb⟩
    replace H : Sb [] w0 w' [(b4, zC, 35), (b3, ec, 42), (b2, stateC s sl, 35)] [] := H.call hb
    clear hb HM
    obtain rfl := Fin.out none (by unfold applyF; rw [if_neg (by rw [Hm.out]; simp)])
    go_wp2_with (first | (refine wb_whole H rfl 2 35 _ rfl _ rfl (stateC s sl) rfl _ Tryz.underlying35 rfl 76 info35 Hz.out ?_) | (refine wb_put H rfl 0 35 _ _ rfl _ 0 rfl _ _ rfl (.agg (stateC s sl)) rfl 76 info35 Hz.out (Nat.le_of_ble_eq_true rfl) HO.out _ Hsp.out ?_; clear H; intro w H))
    exact bodyPost_ret (v := .tuple #[.agg (stateC s sl), .int .i64 1]) (res35t rfl rfl rfl (H.holds _ (List.mem_cons_self ..)) Hz.out) rfl ⟨H.below, rfl⟩
  | true =>
    rw [hm] at HM
    have hmay := (Ste.may_iff hg.s8 t8).1 hm
    cases he : entMay e with
    | false =>
      rw [he] at HEM
      have Hm := Lib.hid he
      clear hm hg t8 h8 he hmay hn
      go_enter Tryz.func18, Tryz.ntmps18
      go_wp2_with (first | (refine wb_box H rfl 35 _ rfl (stateC s sl) rfl ?_; clear H; intro b2 w H) | (refine wb_box H rfl 42 _ rfl ec rfl ?_; clear H; intro b3 w H) | (refine wb_alloc H rfl 35 rfl _ Tryz.zeroValue35 ?_; clear H; intro b4 w H) | (refine wb_whole H rfl 2 35 _ rfl _ rfl (stateC s sl) rfl _ Tryz.underlying35 rfl 76 info35 Hz.out ?_))
      refine (HM.out _ ((HI.out.later H.below).w)).mono ?_; rintro e1 w' ⟨rfl, hb⟩
      replace H : Sb [] w0 w' [(b4, zC, 35), (b3, ec, 42), (b2, stateC s sl, 35)] [] := H.call hb
      clear hb HM
      go_wp2_with (refine wb_whole H rfl 1 42 _ rfl _ rfl ec rfl _ Tryz.underlying42 rfl 26 info42 Hez.out ?_)
      refine (HEM.out _ (HEv.out.later H.below)).mono ?_; rintro e1 w' ⟨rfl, hb⟩
      replace H := H.call hb
      clear hb HEM
      obtain rfl := Fin.out none (by unfold applyF; rw [if_neg (by rw [Hm.out]; simp)])
      go_wp2_with (first | (refine wb_whole H rfl 2 35 _ rfl _ rfl (stateC s sl) rfl _ Tryz.underlying35 rfl 76 info35 Hz.out ?_) | (refine wb_put H rfl 0 35 _ _ rfl _ 0 rfl _ _ rfl (.agg (stateC s sl)) rfl 76 info35 Hz.out (Nat.le_of_ble_eq_true rfl) HO.out _ Hsp.out ?_; clear H; intro w H))
      exact bodyPost_ret (v := .tuple #[.agg (stateC s sl), .int .i64 1]) (res35t rfl rfl rfl (H.holds _ (List.mem_cons_self ..)) Hz.out) rfl ⟨H.below, rfl⟩
    | true =>
      rw [he] at HEM
      by_cases hf : e.fr = s.g.fr
      rotate_left
      · have q0 : (e.fr == s.g.fr) = false := beq_false_of_ne hf
        have q1 : decide (e.fr = s.g.fr) = false := decide_eq_false hf
        have Hm := Lib.hid hf
        clear hm hg t8 h8 he hmay hn hf
        go_enter Tryz.func18, Tryz.ntmps18
        go_wp2_with (first | (refine wb_box H rfl 35 _ rfl (stateC s sl) rfl ?_; clear H; intro b2 w H) | (refine wb_box H rfl 42 _ rfl ec rfl ?_; clear H; intro b3 w H) | (refine wb_alloc H rfl 35 rfl _ Tryz.zeroValue35 ?_; clear H; intro b4 w H) | (refine wb_whole H rfl 2 35 _ rfl _ rfl (stateC s sl) rfl _ Tryz.underlying35 rfl 76 info35 Hz.out ?_))
        refine (HM.out _ ((HI.out.later H.below).w)).mono ?_; rintro e1 w' ⟨rfl, hb⟩
        replace H : Sb [] w0 w' [(b4, zC, 35), (b3, ec, 42), (b2, stateC s sl, 35)] [] := H.call hb
        clear hb HM
        go_wp2_with (refine wb_whole H rfl 1 42 _ rfl _ rfl ec rfl _ Tryz.underlying42 rfl 26 info42 Hez.out ?_)
        refine (HEM.out _ (HEv.out.later H.below)).mono ?_; rintro e1 w' ⟨rfl, hb⟩
        replace H := H.call hb
        clear hb HEM
        have c0 : w'.cell? ⟨b3, 0, none⟩ = _ := (cell_of_row w' b3 0 _ 42 (0, 0) (H.holds _ (List.mem_cons_of_mem _ (List.mem_cons_self ..)))).trans Hfr.out
        have c1 : w'.cell? ⟨b2, 0, none⟩ = _ := (cell_of_row w' b2 0 _ 35 (0, 0) (H.holds _ (List.mem_cons_of_mem _ (List.mem_cons_of_mem _ (List.mem_cons_self ..))))).trans Hsf.out
        obtain rfl := Fin.out none (by unfold applyF; rw [if_neg (fun h => Hm.out h.2.2)])
        go_wp2_with (first | (refine wb_whole H rfl 2 35 _ rfl _ rfl (stateC s sl) rfl _ Tryz.underlying35 rfl 76 info35 Hz.out ?_) | (refine wb_put H rfl 0 35 _ _ rfl _ 0 rfl _ _ rfl (.agg (stateC s sl)) rfl 76 info35 Hz.out (Nat.le_of_ble_eq_true rfl) HO.out _ Hsp.out ?_; clear H; intro w H))
        exact bodyPost_ret (v := .tuple #[.agg (stateC s sl), .int .i64 1]) (res35t rfl rfl rfl (H.holds _ (List.mem_cons_self ..)) Hz.out) rfl ⟨H.below, rfl⟩
      have Hfm := Lib.hid (show s.g.fr < 1048576 by rw [← hf]; exact (entMay_parts he).2.1)
      have Hmay := Lib.hid hmay
      have Hbind : Hid (applyF s e = (evsS s e.evs).bind fun t => if insOk e.ins t.T = true then some ⟨stepG t.g e.ins, t.ver, t.T⟩ else none) := Lib.hid (by unfold applyF; rw [if_pos ⟨hm, he, hf⟩])
      obtain ⟨ad, c, hesl⟩ := HEv.out.form
      subst hesl
      obtain ⟨E, hEE⟩ : ∃ E, e.evs = E := ⟨_, rfl⟩
      obtain ⟨I, hII⟩ : ∃ I, e.ins = I := ⟨_, rfl⟩
      have Hn' : Hid ((E.length : Int) ≤ 1000) := Lib.hid (by rw [← hEE]; omega)
      rw [hEE] at HEv HEo Hsl HEM Hbind
      rw [hII] at HIo H8 Hli Hins Hbind
      have hfe : (e.fr == s.g.fr) = true := by rw [beq_iff_eq]; exact hf
      have hfd : decide (e.fr = s.g.fr) = true := decide_eq_true hf
      clear hm hg t8 h8 he hmay hEE hII hf hn
      go_enter Tryz.func18, Tryz.ntmps18
      go_wp2_with (first | (refine wb_box H rfl 35 _ rfl (stateC s sl) rfl ?_; clear H; intro b2 w H) | (refine wb_box H rfl 42 _ rfl ec rfl ?_; clear H; intro b3 w H) | (refine wb_alloc H rfl 35 rfl _ Tryz.zeroValue35 ?_; clear H; intro b4 w H) | (refine wb_whole H rfl 2 35 _ rfl _ rfl (stateC s sl) rfl _ Tryz.underlying35 rfl 76 info35 Hz.out ?_))
      refine (HM.out _ ((HI.out.later H.below).w)).mono ?_; rintro e1 w' ⟨rfl, hb⟩
      replace H : Sb [] w0 w' [(b4, zC, 35), (b3, ec, 42), (b2, stateC s sl, 35)] [] := H.call hb
      clear hb HM
      go_wp2_with (refine wb_whole H rfl 1 42 _ rfl _ rfl ec rfl _ Tryz.underlying42 rfl 26 info42 Hez.out ?_)
      refine (HEM.out _ (HEv.out.later H.below)).mono ?_; rintro e1 w' ⟨rfl, hb⟩
      replace H : Sb [] w0 w' [(b4, zC, 35), (b3, ec, 42), (b2, stateC s sl, 35)] [] := H.call hb
      clear hb HEM
      have c0 : w'.cell? ⟨b3, 0, none⟩ = _ := (cell_of_row w' b3 0 _ 42 (0, 0) (H.holds _ (List.mem_cons_of_mem _ (List.mem_cons_self ..)))).trans Hfr.out
      have c1 : w'.cell? ⟨b2, 0, none⟩ = _ := (cell_of_row w' b2 0 _ 35 (0, 0) (H.holds _ (List.mem_cons_of_mem _ (List.mem_cons_of_mem _ (List.mem_cons_self ..))))).trans Hsf.out
      go_upto_region 4 with (first | (refine wb_whole H rfl 2 35 _ rfl _ rfl (stateC s sl) rfl _ Tryz.underlying35 rfl 76 info35 Hz.out ?_) | (refine wb_alloc H rfl 35 rfl _ Tryz.zeroValue35 ?_; clear H; intro b5 w H; replace H : Sb [] w0 w [(b5, zC, 35), (b4, zC, 35), (b3, ec, 42), (b2, stateC s sl, 35)] [] := H) | (refine wb_put H rfl 0 35 _ _ rfl _ 0 rfl _ _ rfl (.agg (stateC s sl)) rfl 76 info35 Hz.out (Nat.le_of_ble_eq_true rfl) HO.out _ Hsp.out ?_; clear H; intro w H))
      replace H : Sb [] w0 w [(b5, stateC s sl, 35), (b4, zC, 35), (b3, ec, 42), (b2, stateC s sl, 35)] [] := H
      clear c0 c1 hfe hfd
      go_upto_region 5 with fail
      have HB := Lib.hid H
      clear H
      go_loopw [7] (fun i W => ∃ (k : Nat) (s1 : Ste) (sl1 : Value) (R : List RowS), k ≤ E.length ∧ i = .int .i64 k ∧ Hid (Sb [] w0 W [(b5, stateC s1 sl1, 35), (b4, zC, 35), (b3, ec, 42), (b2, stateC s sl, 35)] R) ∧ Hid (Lie w0 R sl1 s1.g.L) ∧ Hid (s1.may ∧ s1.g.fr = s.g.fr ∧ evsS s E = evsS s1 (E.drop k))) (fun i _ => E.length - (intOf i).toNat)
      case atStart => exact ⟨0, s, sl, [], Nat.zero_le _, rfl, HB, Lib.hid (.inl ⟨rfl, HI.out⟩), Lib.hid ⟨Hmay.out, rfl, rfl⟩⟩
      case round =>
        clear HB
        obtain ⟨k, s1, sl1, R, hk, rfl, HB, HL, HA⟩ := hrel
        have hn' := Hn'.out
        by_cases hlt : k < E.length
        · obtain ⟨x, hx⟩ : ∃ x, E[k]? = some x := ⟨E[k], List.getElem?_eq_getElem hlt⟩
          obtain ⟨g, o2, had, hg, hcs⟩ : ∃ g o2, ad = some ⟨g, o2, none⟩ ∧ g < w0.heap.size ∧ ∀ j v, (evsL E)[j]? = some v → w0.cell? ⟨g, o2 + j, none⟩ = some v := by
            rcases HEv.out with ⟨e, _⟩ | ⟨g, o2, c', e, hg, hc⟩
            · rw [e] at hlt; exact absurd hlt (Nat.not_lt_zero _)
            · injection e with e1 e2 e3
              exact ⟨g, o2, e1, hg, hc⟩
          subst had
          obtain ⟨c0, c1, c2, c3⟩ := ev_at (W := wr) (g := g) (o := o2) (fun j v hv => (World.cell?_of_block (a := ⟨g, o2 + j, none⟩) (HB.out.fr g hg (by simp))).trans (hcs j v hv)) k x hx
          have hst : evsS s E = (evS s1 x).bind fun t => evsS t (E.drop (k + 1)) := by
            rw [HA.out.2.2]
            obtain ⟨hk', e⟩ := List.getElem?_eq_some_iff.1 hx
            rw [List.drop_eq_getElem_cons hk', e]
            rfl
          have Hst := Lib.hid hst
          have Hm1 := Lib.hid HA.out.1
          have Hf1 := Lib.hid HA.out.2.1
          have Hxw := Lib.hid (HEo.out x (List.mem_of_getElem? hx))
          have hs1 := HA.out.1
          have HLs := Lib.hid (fun w l (H : Sb [] w0 w l R) => HL.out.shots H)
          have Hz1 := Lib.hid (sc_size (s := s1) (sl := sl1) hs1.g.s8 hs1.t8)
          have HRs := Lib.hid (fun j v h => sc_roster (s := s1) (sl := sl1) hs1.g.s8 j v h)
          have Hrz := Lib.hid (rc_size (ver := s1.ver) hs1.t8)
          have HV := Lib.hid (fun w => revent s1.ver s1.T x w hs1.t8 Hxw.out)
          have H := HB.out
          clear HB HA hx hcs hg hst
          go_upto_region 8 with (first | (refine wb_cell H rfl 2 36 _ rfl _ 1 rfl _ _ rfl Tryz.isAgg36 (.slice (some ⟨g, o2, none⟩) E.length c) Hsl.out ?_) | (refine wb_alloc H rfl 60 rfl _ Tryz.zeroValue60 ?_; clear H; intro b6 w H) | (refine wb_put H rfl 0 60 _ _ rfl _ 0 rfl _ _ rfl (.agg #[.int .i64 x.kind, .int .i64 x.slot, .int .i64 x.gen, .int .i64 x.peer]) rfl 4 info60e rfl (Nat.le_of_ble_eq_true rfl) rfl (evC x) rfl ?_; clear H; intro w H))
          replace H : Sb [] w0 w [(b6, evC x, 60), (b5, stateC s1 sl1, 35), (b4, zC, 35), (b3, ec, 42), (b2, stateC s sl, 35)] R := H
          clear c0 c1 c2 c3
          go_wp2_with (first | (refine wb_part H rfl 1 33 _ rfl _ 59 rfl _ _ rfl _ Tryz.underlying33 rfl 17 info33 (rosterC s1.ver s1.T).toList (fun j v h => HRs.out j v (by simpa using h)) (by rw [Array.length_toList]; exact Hrz.out) ?_; rw [Array.toArray_toList]) | (refine wb_whole H rfl 0 60 _ rfl _ rfl (evC x) rfl _ Tryz.underlying60 rfl 4 info60e rfl ?_))
          refine (HV.out _).mono ?_; rintro e1 w' ⟨hq, hb⟩
          unfold RosOut at hq
          replace H := H.call hb
          clear hb HV
          cases hr : evR s1.ver s1.T x with
          | none =>
            rw [hr] at hq
            subst hq
            have hap : applyF s e = none := by rw [Hbind.out, Hst.out]; unfold evS; rw [hr]; rfl
            obtain rfl := Fin.out none hap
            have HspR : Hid (splice zR 0 (Value.cells (.agg (rosterC s1.ver s1.T))).toList = rosterC s1.ver s1.T) := Lib.hid (splice_all _ _ (by simp [Value.cells, Hrz.out, zR]))
            clear hap hr hs1
            go_wp2_with (first | (refine wb_alloc H rfl 33 rfl _ Tryz.zeroValue33 ?_; clear H; intro b7 w H; replace H : Sb [] w0 w [(b7, zR, 33), (b6, evC x, 60), (b5, stateC s1 sl1, 35), (b4, zC, 35), (b3, ec, 42), (b2, stateC s sl, 35)] R := H) | (refine wb_put H rfl 0 33 _ _ rfl _ 0 rfl _ _ rfl (.agg (rosterC s1.ver s1.T)) rfl 17 info33 Hrz.out (Nat.le_of_ble_eq_true rfl) rc_one _ HspR.out ?_; clear H; intro w H) | (refine wb_whole H rfl 5 35 _ rfl _ rfl (stateC s sl) rfl _ Tryz.underlying35 rfl 76 info35 Hz.out ?_) | (refine wb_put H rfl 3 35 _ _ rfl _ 0 rfl _ _ rfl (.agg (stateC s sl)) rfl 76 info35 Hz.out (Nat.le_of_ble_eq_true rfl) HO.out _ Hsp.out ?_; clear H; intro w H))
            exact bodyPost_ret (v := .tuple #[.agg (stateC s sl), .int .i64 1]) (res35t rfl rfl rfl (H.holds _ (List.mem_cons_of_mem _ (List.mem_cons_of_mem _ (List.mem_cons_of_mem _ (List.mem_cons_self ..))))) Hz.out) rfl ⟨H.below, rfl⟩
          | some r =>
            obtain ⟨v', T'⟩ := r
            rw [hr] at hq
            obtain ⟨hmr, hmv, hmT⟩ := evR_may hr
            obtain ⟨hjunk4, hjunk5, kk, q, hkk, hkk8, hqq, hway⟩ := evR_some hr
            clear hjunk4 hjunk5
            have hevs : evS s1 x = some ⟨evG s1.g x, v', T'⟩ := by unfold evS; rw [hr]; rfl
            have hT8 : T'.length = 8 := hmT.trans hs1.t8
            obtain ⟨t, ht⟩ : ∃ t, s1.g.S[kk]? = some t := ⟨s1.g.S[kk]'(by rw [hs1.g.s8]; exact hkk8), List.getElem?_eq_getElem _⟩
            have hto := pairs_idx.1 hs1.p kk t q ht hqq
            have Hset : Hid (splice (stateC s1 sl1) 59 (rosterC v' T').toList = stateC ⟨s1.g, v', T'⟩ sl1) := Lib.hid (sc_setR (fr := s1.g.fr) (d := s1.g.d) (L := s1.g.L) (ver := s1.ver) (ver' := v') (T := s1.T) (T' := T') (sl := sl1) hs1.g.s8 (hs1.t8.trans hT8.symm))
            have Hft : Hid (59 + 17 ≤ (stateC s1 sl1).size) := Lib.hid (by rw [Hz1.out]; decide)
            have Hrz' := Lib.hid (rc_size (ver := v') hT8)
            have HspR : Hid (splice zR 0 (Value.cells (.agg (rosterC v' T'))).toList = rosterC v' T') := Lib.hid (splice_all _ _ (by simp [Value.cells, Hrz'.out, zR]))
            have HGm := Lib.hid (fun j v h => sc_game (s := ⟨s1.g, v', T'⟩) (sl := sl1) j v h)
            have Hgz := Lib.hid (gc_size (fr := s1.g.fr) (d := s1.g.d) (sl := sl1) hs1.g.s8)
            have HGo := Lib.hid (evG_ok x hs1.g)
            have HSetG := Lib.hid (fun sl' => sc_setG (fr := s1.g.fr) (d := s1.g.d) (fr' := (evG s1.g x).fr) (d' := (evG s1.g x).d) (L := s1.g.L) (L' := (evG s1.g x).L) (ver := v') (T := T') (sl := sl1) (sl' := sl') (hs1.g.s8.trans (evG_ok x hs1.g).s8.symm))
            have HGz := Lib.hid (fun sl' => gc_size (fr := (evG s1.g x).fr) (d := (evG s1.g x).d) (sl := sl') (evG_ok x hs1.g).s8)
            have HspG : Hid (∀ (Z : Array Value) sl0, Z.size = 59 → splice Z 0 (Value.cells (.agg (gameC s1.g.fr s1.g.d s1.g.S sl0))).toList = gameC s1.g.fr s1.g.d s1.g.S sl0) := Lib.hid (fun Z sl0 h => splice_all _ _ (by rw [h]; exact (gc_size hs1.g.s8).symm))
            have HspG2 : Hid (∀ sl0, splice (gameC s1.g.fr s1.g.d s1.g.S sl1) 0 (Value.cells (.agg (gameC (evG s1.g x).fr (evG s1.g x).d (evG s1.g x).S sl0))).toList = gameC (evG s1.g x).fr (evG s1.g x).d (evG s1.g x).S sl0) := Lib.hid (fun sl0 => splice_all _ _ (by rw [Hgz.out]; exact (HGz.out sl0).symm))
            have HgO := Lib.hid (gcOneI (fr := s1.g.fr) (d := s1.g.d) (S := s1.g.S) (HLs.out _ _ H))
            have Hz2 := Lib.hid (sc_size (s := ⟨s1.g, v', T'⟩) (sl := sl1) hs1.g.s8 hT8)
            have Hft0 : Hid (0 + 59 ≤ (stateC ⟨s1.g, v', T'⟩ sl1).size) := Lib.hid (by rw [Hz2.out]; decide)
            have Hft1 : Hid (0 + 59 ≤ (gameC s1.g.fr s1.g.d s1.g.S sl1).size) := Lib.hid (by rw [Hgz.out]; decide)
            obtain ⟨hte, hjunk1, htf, hjunk2, hjunk3⟩ := evS_may hs1 hevs
            clear hjunk1 hjunk2 hjunk3
            have HA2 : Hid ((⟨evG s1.g x, v', T'⟩ : Ste).may ∧ (evG s1.g x).fr = s.g.fr ∧ evsS s E = evsS ⟨evG s1.g x, v', T'⟩ (E.drop (k + 1))) := Lib.hid ⟨hte, htf.trans Hf1.out, by rw [Hst.out, hevs]; rfl⟩
            subst hq
            rcases hway with ⟨hkd, hq0, hrest⟩ | ⟨hkd, hq0, hrest⟩
            · have hton : t.on = false := by rw [hto]; simp; omega
              have heg : evG s1.g x = spawnG s1.g kk := by unfold evG; rw [if_neg (by omega)]; rw [hkk, Int.toNat_natCast]
              have HC : Hid (∀ w, ShotsIn w sl1 s1.g.L → Calls Tryz.prog 57 #[.agg (gameC s1.g.fr s1.g.d s1.g.S sl1), .int .i64 kk] w fun e w' => e = .returned (.tuple #[.agg (gameC (evG s1.g x).fr (evG s1.g x).d (evG s1.g x).S sl1), .int .i64 0]) ∧ Below w.heap.size w w') := Lib.hid (fun w h => by rw [heg]; exact rspawn_any s1.g kk t sl1 w hs1.g hkk8 ht hton h)
              have HL2 : Hid (Lie w0 R sl1 (evG s1.g x).L) := Lib.hid (by rw [heg]; exact HL.out)
              have Hkd := Lib.hid (show (evC x)[0]? = some (.int .i64 1) by rw [← hkd]; rfl)
              have Hsx := Lib.hid (show (evC x)[1]? = some (.int .i64 (kk : Int)) by rw [← hkk]; rfl)
              clear hrest hr hkk hkk8 hqq ht hto hton heg hT8 hkd hq0 hmr hmv hmT hevs hte htf hs1 HL
              have HgO2 : Hid (∀ w, ShotsIn w sl1 s1.g.L → (Value.cells (.agg (gameC (evG s1.g x).fr (evG s1.g x).d (evG s1.g x).S sl1))).toList.all (·.oneCell') = true) := Lib.hid (fun w h => gcOneI h)
              generalize evG s1.g x = G at *
              go_wp2_with (first | (refine wb_alloc H rfl 33 rfl _ Tryz.zeroValue33 ?_; clear H; intro b7 w H; replace H : Sb [] w0 w [(b7, zR, 33), (b6, evC x, 60), (b5, stateC s1 sl1, 35), (b4, zC, 35), (b3, ec, 42), (b2, stateC s sl, 35)] R := H) | (refine wb_put H rfl 0 33 _ _ rfl _ 0 rfl _ _ rfl (.agg (rosterC v' T')) rfl 17 info33 Hrz'.out (Nat.le_of_ble_eq_true rfl) rc_one _ HspR.out ?_; clear H; intro w H) | (refine wb_whole H rfl 0 33 _ rfl _ rfl (rosterC v' T') rfl _ Tryz.underlying33 rfl 17 info33 Hrz'.out ?_) | (refine wb_put H rfl 2 33 _ _ rfl _ 59 rfl _ _ rfl (.agg (rosterC v' T')) rfl 17 info33 Hrz'.out Hft.out rc_one _ Hset.out ?_; clear H; intro w H) | (refine wb_partA H rfl 2 28 _ rfl _ 0 rfl _ _ rfl _ Tryz.underlying28 rfl 59 info28 (gameC s1.g.fr s1.g.d s1.g.S sl1) (fun j v h => by rw [Nat.zero_add]; exact HGm.out j v h) Hgz.out ?_) | (refine wb_alloc H rfl 28 rfl _ Tryz.zeroValue28 ?_; clear H; intro b8 w H) | (refine wb_put H rfl 0 28 _ _ rfl _ 0 rfl _ _ rfl (.agg (gameC s1.g.fr s1.g.d s1.g.S sl1)) rfl 59 info28 Hgz.out (Nat.le_of_ble_eq_true rfl) HgO.out _ (HspG.out _ _ rfl) ?_; clear H; intro w H) | (refine wb_cell H rfl 2 3 _ rfl _ 0 rfl _ _ rfl Tryz.isAgg3 (.int .i64 1) Hkd.out ?_) | (refine wb_cell H rfl 2 3 _ rfl _ 1 rfl _ _ rfl Tryz.isAgg3 (.int .i64 kk) Hsx.out ?_) | (refine wb_whole H rfl 0 28 _ rfl _ rfl (gameC s1.g.fr s1.g.d s1.g.S sl1) rfl _ Tryz.underlying28 rfl 59 info28 Hgz.out ?_))
              replace H : Sb [] w0 w [(b8, gameC s1.g.fr s1.g.d s1.g.S sl1, 28), (b7, rosterC v' T', 33), (b6, evC x, 60), (b5, stateC ⟨s1.g, v', T'⟩ sl1, 35), (b4, zC, 35), (b3, ec, 42), (b2, stateC s sl, 35)] R := H
              have HgO3 := Lib.hid (HgO2.out _ (HLs.out _ _ H))
              refine (HC.out _ (HLs.out _ _ H)).mono ?_
              rintro e1 w3 ⟨rfl, hb⟩
              replace H := H.call hb
              clear hb HC
              go_wp2_with (first | (refine wb_put H rfl 0 28 _ _ rfl _ 0 rfl _ _ rfl (.agg (gameC G.fr G.d G.S sl1)) rfl 59 info28 (HGz.out sl1) Hft1.out HgO3.out _ (HspG2.out sl1) ?_; clear H; intro w H) | (refine wb_whole H rfl 0 28 _ rfl _ rfl (gameC G.fr G.d G.S sl1) rfl _ Tryz.underlying28 rfl 59 info28 (HGz.out sl1) ?_) | (refine wb_put H rfl 3 28 _ _ rfl _ 0 rfl _ _ rfl (.agg (gameC G.fr G.d G.S sl1)) rfl 59 info28 (HGz.out sl1) Hft0.out HgO3.out _ (HSetG.out sl1) ?_; clear H; intro w H))
              replace H : Sb [] w0 w [(b8, gameC G.fr G.d G.S sl1, 28), (b7, rosterC v' T', 33), (b6, evC x, 60), (b5, stateC ⟨G, v', T'⟩ sl1, 35), (b4, zC, 35), (b3, ec, 42), (b2, stateC s sl, 35)] R := H
              refine ⟨?_, by simp [intOf]; omega⟩
              simp
              exact ⟨k + 1, hlt, rfl, ⟨G, v', T'⟩, sl1, R, Lib.hid H.tail.tail.tail, HL2, HA2⟩
            · have hton : t.on = true := by rw [hto]; simp; omega
              have heg : evG s1.g x = removeG s1.g kk := by unfold evG; rw [if_pos hkd]; rw [hkk, Int.toNat_natCast]
              have HC := Lib.hid (fun w h => rremove_any s1.g kk t sl1 w hs1.g hkk8 ht hton h)
              rw [← heg] at HC
              have Hkd := Lib.hid (show (evC x)[0]? = some (.int .i64 2) by rw [← hkd]; rfl)
              have Hsx := Lib.hid (show (evC x)[1]? = some (.int .i64 (kk : Int)) by rw [← hkk]; rfl)
              clear hrest hr hkk hkk8 hqq ht hto hton heg hT8 hkd hq0 hmr hmv hmT hevs hte htf hs1 HL
              generalize evG s1.g x = G at *
              go_wp2_with (first | (refine wb_alloc H rfl 33 rfl _ Tryz.zeroValue33 ?_; clear H; intro b7 w H; replace H : Sb [] w0 w [(b7, zR, 33), (b6, evC x, 60), (b5, stateC s1 sl1, 35), (b4, zC, 35), (b3, ec, 42), (b2, stateC s sl, 35)] R := H) | (refine wb_put H rfl 0 33 _ _ rfl _ 0 rfl _ _ rfl (.agg (rosterC v' T')) rfl 17 info33 Hrz'.out (Nat.le_of_ble_eq_true rfl) rc_one _ HspR.out ?_; clear H; intro w H) | (refine wb_whole H rfl 0 33 _ rfl _ rfl (rosterC v' T') rfl _ Tryz.underlying33 rfl 17 info33 Hrz'.out ?_) | (refine wb_put H rfl 2 33 _ _ rfl _ 59 rfl _ _ rfl (.agg (rosterC v' T')) rfl 17 info33 Hrz'.out Hft.out rc_one _ Hset.out ?_; clear H; intro w H) | (refine wb_partA H rfl 2 28 _ rfl _ 0 rfl _ _ rfl _ Tryz.underlying28 rfl 59 info28 (gameC s1.g.fr s1.g.d s1.g.S sl1) (fun j v h => by rw [Nat.zero_add]; exact HGm.out j v h) Hgz.out ?_) | (refine wb_alloc H rfl 28 rfl _ Tryz.zeroValue28 ?_; clear H; intro b8 w H) | (refine wb_put H rfl 0 28 _ _ rfl _ 0 rfl _ _ rfl (.agg (gameC s1.g.fr s1.g.d s1.g.S sl1)) rfl 59 info28 Hgz.out (Nat.le_of_ble_eq_true rfl) HgO.out _ (HspG.out _ _ rfl) ?_; clear H; intro w H) | (refine wb_cell H rfl 2 3 _ rfl _ 0 rfl _ _ rfl Tryz.isAgg3 (.int .i64 2) Hkd.out ?_) | (refine wb_cell H rfl 2 3 _ rfl _ 1 rfl _ _ rfl Tryz.isAgg3 (.int .i64 kk) Hsx.out ?_) | (refine wb_whole H rfl 0 28 _ rfl _ rfl (gameC s1.g.fr s1.g.d s1.g.S sl1) rfl _ Tryz.underlying28 rfl 59 info28 Hgz.out ?_))
              replace H : Sb [] w0 w [(b8, gameC s1.g.fr s1.g.d s1.g.S sl1, 28), (b7, rosterC v' T', 33), (b6, evC x, 60), (b5, stateC ⟨s1.g, v', T'⟩ sl1, 35), (b4, zC, 35), (b3, ec, 42), (b2, stateC s sl, 35)] R := H
              refine (HC.out _ (HLs.out _ _ H)).mono ?_
              rintro e1 w3 ⟨⟨sl', rfl, hown, hnew⟩, hb⟩
              have HgO3 := Lib.hid (gcOneI (fr := G.fr) (d := G.d) (S := G.S) hown.shotsIn)
              have H1 := (H.addRow sl' _ hown hb hnew).onlyRow
              clear H hown hnew hb HC
              have H := H1
              clear H1
              go_wp2_with (first | (refine wb_put H rfl 0 28 _ _ rfl _ 0 rfl _ _ rfl (.agg (gameC G.fr G.d G.S sl')) rfl 59 info28 (HGz.out sl') Hft1.out HgO3.out _ (HspG2.out sl') ?_; clear H; intro w H) | (refine wb_whole H rfl 0 28 _ rfl _ rfl (gameC G.fr G.d G.S sl') rfl _ Tryz.underlying28 rfl 59 info28 (HGz.out sl') ?_) | (refine wb_put H rfl 3 28 _ _ rfl _ 0 rfl _ _ rfl (.agg (gameC G.fr G.d G.S sl')) rfl 59 info28 (HGz.out sl') Hft0.out HgO3.out _ (HSetG.out sl') ?_; clear H; intro w H))
              replace H : Sb [] w0 w [(b8, gameC G.fr G.d G.S sl', 28), (b7, rosterC v' T', 33), (b6, evC x, 60), (b5, stateC ⟨G, v', T'⟩ sl', 35), (b4, zC, 35), (b3, ec, 42), (b2, stateC s sl, 35)] [(sl', G.L)] := H
              refine ⟨?_, by simp [intOf]; omega⟩
              simp
              exact ⟨k + 1, hlt, rfl, ⟨G, v', T'⟩, sl', [(sl', G.L)], Lib.hid H.tail.tail.tail, Lib.hid (.inr rfl), HA2⟩
        · obtain rfl : k = E.length := by omega
          have hall : evsS s E = some s1 := by rw [HA.out.2.2, List.drop_length]; rfl
          have Hall := Lib.hid hall
          obtain ⟨s1m, s1f, _⟩ := HA.out
          have Hs1 := Lib.hid s1m
          have Hs1f := Lib.hid s1f
          have Hz1 := Lib.hid (sc_size (s := s1) (sl := sl1) s1m.g.s8 s1m.t8)
          have HQ := Lib.hid (fun k q h => sc_seat (s := s1) (sl := sl1) s1m.g.s8 k 0 q _ h rfl)
          have H := HB.out
          have Ht8' := Lib.hid s1m.t8
          clear HB HA hall hlt hk s1m s1f
          go_upto_region 19 with (refine wb_cell H rfl 2 36 _ rfl _ 1 rfl _ _ rfl Tryz.isAgg36 (.slice ad E.length c) Hsl.out ?_)
          clear hn'
          go_upto_region 20 with fail
          have HB := Lib.hid H
          clear H
          go_loopw [13] (fun i W => ∃ k : Nat, k ≤ 8 ∧ i = .int .i64 k ∧ Hid (Sb [] w0 W [(b5, stateC s1 sl1, 35), (b4, zC, 35), (b3, ec, 42), (b2, stateC s sl, 35)] R) ∧ Hid (InsTo I s1.T k)) (fun i _ => 8 - (intOf i).toNat)
          case atStart => exact ⟨0, Nat.zero_le _, rfl, HB, Lib.hid (fun j i q h => absurd h (by omega))⟩
          case round =>
            clear HB
            obtain ⟨k, hk, rfl, HB, HA⟩ := hrel
            by_cases hlt : k < 8
            · obtain ⟨i, hi⟩ : ∃ i, I[k]? = some i := ⟨I[k]'(by rw [H8.out]; exact hlt), List.getElem?_eq_getElem _⟩
              obtain ⟨q, hq⟩ : ∃ q, s1.T[k]? = some q := ⟨s1.T[k]'(by rw [Ht8'.out]; exact hlt), List.getElem?_eq_getElem _⟩
              have CX := Lib.hid (fun (j : Nat) (v : Value) (hv : (inpL i)[j]? = some v) => show ec[2 + k * 3 + j]? = some v by rw [Nat.add_assoc]; exact Hins.out _ v (ins_at hi hv))
              have Hi := Lib.hid hi
              have Hq := Lib.hid hq
              have Hqc := Lib.hid (HQ.out k q hq)
              have HEq := Lib.hid (fun w => eq39 w i (HIo.out i (List.mem_of_getElem? hi)))
              have H := HB.out
              have c1 : wr.cell? ⟨b5, 60 + k * 2, none⟩ = some (.int .i64 q.peer) := (cell_of_row wr b5 _ _ 35 (0, 0) (H.holds _ (List.mem_cons_self ..))).trans Hqc.out
              clear hi hq HB Hqc
              have hk8 : (k : Int) < 8 := by omega
              by_cases hp : 0 ≤ q.peer
              · have hA2 : InsTo I s1.T (k + 1) := fun j i' q' hj hi' hq' => by
                  by_cases e : j = k
                  · subst e
                    rw [Hq.out] at hq'
                    injection hq' with hq'
                    rw [← hq', decide_eq_true hp, Bool.or_true]
                  · exact HA.out j i' q' (by omega) hi' hq'
                have HA2 := Lib.hid hA2
                have qp : decide (q.peer < 0) = false := decide_eq_false (by omega)
                have HB := Lib.hid H
                clear hA2 HA H hp
                go_wp2_with fail
                refine ⟨?_, by simp [intOf]; omega⟩
                simp
                exact ⟨k + 1, hlt, rfl, HB, HA2⟩
              · have qp : decide (q.peer < 0) = true := decide_eq_true (by omega)
                cases hz : i.z with
                | true =>
                  have hA2 : InsTo I s1.T (k + 1) := fun j i' q' hj hi' hq' => by
                    by_cases e : j = k
                    · subst e
                      rw [Hi.out] at hi'
                      injection hi' with hi'
                      rw [← hi', hz]
                      rfl
                    · exact HA.out j i' q' (by omega) hi' hq'
                  have HA2 := Lib.hid hA2
                  have heq : ∀ w, (Op.equalIn 10000 39 (.agg (inpL i).toArray) (.agg #[.int .i8 0, .int .i8 0, .int .u8 0])).run Tryz.prog w = .ok true w := fun w => by rw [← hz]; exact HEq.out w
                  have Heq := Lib.hid heq
                  clear hA2 HA hz heq hp
                  have HB := Lib.hid H
                  go_wp2_with (first | (refine wb_part H rfl 2 39 _ rfl _ (2 + k * 3) rfl _ _ rfl _ Tryz.underlying39 rfl 3 info39x (inpL i) CX.out rfl ?_; have heq := Heq.out) | (refine wl_build rfl 39 _ rfl #[.int .i8 0, .int .i8 0, .int .u8 0] (by kernel_rfl) ?_))
                  refine ⟨?_, by simp [intOf]; omega⟩
                  simp
                  exact ⟨k + 1, hlt, rfl, HB, HA2⟩
                | false =>
                  have heq : ∀ w, (Op.equalIn 10000 39 (.agg (inpL i).toArray) (.agg #[.int .i8 0, .int .i8 0, .int .u8 0])).run Tryz.prog w = .ok false w := fun w => by rw [← hz]; exact HEq.out w
                  have Heq := Lib.hid heq
                  have hno : insOk I s1.T = false := insOk_no Hi.out Hq.out (by rw [hz, decide_eq_false hp]; rfl)
                  have hap : applyF s e = none := by rw [Hbind.out, Hall.out, Option.bind_some, hno]; rfl
                  obtain rfl := Fin.out none hap
                  clear HA hz heq hno hap hp
                  go_wp2_with (first | (refine wb_part H rfl 2 39 _ rfl _ (2 + k * 3) rfl _ _ rfl _ Tryz.underlying39 rfl 3 info39x (inpL i) CX.out rfl ?_; have heq := Heq.out) | (refine wl_build rfl 39 _ rfl #[.int .i8 0, .int .i8 0, .int .u8 0] (by kernel_rfl) ?_) | (refine wb_whole H rfl 3 35 _ rfl _ rfl (stateC s sl) rfl _ Tryz.underlying35 rfl 76 info35 Hz.out ?_) | (refine wb_put H rfl 1 35 _ _ rfl _ 0 rfl _ _ rfl (.agg (stateC s sl)) rfl 76 info35 Hz.out (Nat.le_of_ble_eq_true rfl) HO.out _ Hsp.out ?_; clear H; intro w H))
                  exact bodyPost_ret (v := .tuple #[.agg (stateC s sl), .int .i64 1]) (res35t rfl rfl rfl (H.holds _ (List.mem_cons_of_mem _ (List.mem_cons_self ..))) Hz.out) rfl ⟨H.below, rfl⟩
            · obtain rfl : k = 8 := by omega
              have hok : insOk I s1.T = true := (insOk_iff H8.out).2 HA.out
              have hap : applyF s e = some ⟨stepG s1.g I, s1.ver, s1.T⟩ := by rw [Hbind.out, Hall.out, Option.bind_some, if_pos hok]
              obtain rfl := Fin.out _ hap
              have H := HB.out
              have HC := Lib.hid (fun w h => rstep_any s1.g I sl1 w Hs1.out.g (by rw [Hs1f.out]; exact Hfm.out) H8.out HIo.out h)
              have HGm := Lib.hid (fun j v h => sc_game (s := s1) (sl := sl1) j v h)
              have Hgz := Lib.hid (gc_size (fr := s1.g.fr) (d := s1.g.d) (sl := sl1) Hs1.out.g.s8)
              have HGo := Lib.hid (stepG_ok I Hs1.out.g (by rw [Hs1f.out]; exact Hfm.out))
              have HSetG := Lib.hid (fun sl' => sc_setG (fr := s1.g.fr) (d := s1.g.d) (fr' := (stepG s1.g I).fr) (d' := (stepG s1.g I).d) (L := s1.g.L) (L' := (stepG s1.g I).L) (ver := s1.ver) (T := s1.T) (sl := sl1) (sl' := sl') (Hs1.out.g.s8.trans HGo.out.s8.symm))
              have HzE := Lib.hid (fun sl' => sc_size (s := ⟨stepG s1.g I, s1.ver, s1.T⟩) (sl := sl') HGo.out.s8 Ht8'.out)
              have HspE : Hid (∀ sl', splice zC 0 (Value.cells (.agg (stateC ⟨stepG s1.g I, s1.ver, s1.T⟩ sl'))).toList = stateC ⟨stepG s1.g I, s1.ver, s1.T⟩ sl') := Lib.hid (fun sl' => splice_all _ _ (by rw [zC_size]; exact (HzE.out sl').symm))
              have HGz := Lib.hid (fun sl' => gc_size (fr := (stepG s1.g I).fr) (d := (stepG s1.g I).d) (sl := sl') HGo.out.s8)
              have HspG : Hid (∀ (Z : Array Value) sl0, Z.size = 59 → splice Z 0 (Value.cells (.agg (gameC (stepG s1.g I).fr (stepG s1.g I).d (stepG s1.g I).S sl0))).toList = gameC (stepG s1.g I).fr (stepG s1.g I).d (stepG s1.g I).S sl0) := Lib.hid (fun Z sl0 h => splice_all _ _ (by rw [h]; exact (HGz.out sl0).symm))
              have Hft0 : Hid (0 + 59 ≤ (stateC s1 sl1).size) := Lib.hid (by rw [Hz1.out]; decide)
              clear HB HA hok hlt hk hap
              generalize stepG s1.g I = G at *
              go_wp2_with (first | (refine wb_partA H rfl 0 28 _ rfl _ 0 rfl _ _ rfl _ Tryz.underlying28 rfl 59 info28 (gameC s1.g.fr s1.g.d s1.g.S sl1) (fun j v h => by rw [Nat.zero_add]; exact HGm.out j v h) Hgz.out ?_) | (refine wb_part H rfl 2 40 _ rfl _ 2 rfl _ _ rfl _ Tryz.underlying40 rfl 24 info40 (I.flatMap inpL) Hins.out Hli.out ?_))
              refine (HC.out _ (HL.out.shots H)).mono ?_
              rintro e1 w3 ⟨⟨sl', rfl, hown, hnew⟩, hb⟩
              have H1 := (H.addRow sl' _ hown hb hnew).onlyRow
              have HOne := Lib.hid (sc_oneI (s := ⟨G, s1.ver, s1.T⟩) hown.shotsIn)
              have HOneG := Lib.hid (gcOneI (fr := G.fr) (d := G.d) (S := G.S) hown.shotsIn)
              clear H hown hnew hb HC
              have H := H1
              clear H1
              go_wp2_with (first | (refine wb_alloc H rfl 28 rfl _ Tryz.zeroValue28 ?_; clear H; intro b9 w H) | (refine wb_put H rfl 0 28 _ _ rfl _ 0 rfl _ _ rfl (.agg (gameC G.fr G.d G.S sl')) rfl 59 info28 (HGz.out sl') (Nat.le_of_ble_eq_true rfl) HOneG.out _ (HspG.out _ _ rfl) ?_; clear H; intro w H) | (refine wb_whole H rfl 0 28 _ rfl _ rfl (gameC G.fr G.d G.S sl') rfl _ Tryz.underlying28 rfl 59 info28 (HGz.out sl') ?_) | (refine wb_put H rfl 1 28 _ _ rfl _ 0 rfl _ _ rfl (.agg (gameC G.fr G.d G.S sl')) rfl 59 info28 (HGz.out sl') Hft0.out HOneG.out _ (HSetG.out sl') ?_; clear H; intro w H) | (refine wb_whole H rfl 1 35 _ rfl _ rfl (stateC ⟨G, s1.ver, s1.T⟩ sl') rfl _ Tryz.underlying35 rfl 76 info35 (HzE.out sl') ?_) | (refine wb_put H rfl 2 35 _ _ rfl _ 0 rfl _ _ rfl (.agg (stateC ⟨G, s1.ver, s1.T⟩ sl')) rfl 76 info35 (HzE.out sl') (Nat.le_of_ble_eq_true rfl) HOne.out _ (HspE.out sl') ?_; clear H; intro w H))
              exact bodyPost_ret (v := .tuple #[.agg (stateC ⟨G, s1.ver, s1.T⟩ sl'), .int .i64 0]) (res35t rfl rfl rfl (H.holds _ (List.mem_cons_of_mem _ (List.mem_cons_of_mem _ (List.mem_cons_self ..)))) (HzE.out sl')) rfl ⟨H.below, sl', rfl, H.rows _ (List.mem_cons_self ..), fun q hq => (H.rge _ (List.mem_cons_self ..) q hq).resolve_right (by simp)⟩
end Go.Proofs.YtdopfonebpklkaaGreat.game
namespace Go.Proofs.YtdopfonebpklkaaGreat.game
open Go Go.ChangeShapes Go.WideShapes Go.ChangeAt Go.RowKit

abbrev OldR := Nat × Nat × List Value
def TF (d : Nat) (l : List Blk) (O : List OldR) : Facts := (l.flatMap fun p => rowF p.1 0 p.2.1.toList d) ++ O.flatMap fun q => rowF q.1 q.2.1 q.2.2 d
theorem TF_eq {d : Nat} {l : List Blk} {O : List OldR} : ∀ t ∈ TF d l O, t.2.2 = d := fun t ht => by
  rcases List.mem_append.1 ht with h | h
  · obtain ⟨_, _, h⟩ := List.mem_flatMap.1 h
    exact rowF_d t h
  · obtain ⟨_, _, h⟩ := List.mem_flatMap.1 h
    exact rowF_d t h
theorem TF_ne {d k : Nat} {l : List Blk} {O : List OldR} (h : d ≠ k) : ∀ t ∈ TF d l O, t.2.2 ≠ k := fun t ht e => h ((TF_eq t ht).symm.trans e)
theorem TF_blk {d : Nat} {l : List Blk} {O : List OldR} {i g : Nat} {c : Array Value} {t : TypeId} (o j : Nat) {v : Value} (hl : l[i]? = some (g, c, t)) (hv : c[o + j]? = some v) : ((⟨g, o + j, none⟩ : Addr), v, d) ∈ TF d l O := by
  refine List.mem_append_left _ (List.mem_flatMap.2 ⟨_, List.mem_of_getElem? hl, ?_⟩)
  have := mem_rowF (b := g) (o := 0) (d := d) (vs := c.toList) (j := o + j) (v := v) (by rw [Array.getElem?_toList]; exact hv)
  rwa [Nat.zero_add] at this
theorem TF_cell {d : Nat} {l : List Blk} {O : List OldR} {i g : Nat} {c : Array Value} {t : TypeId} {o : Nat} {v : Value} (hl : l[i]? = some (g, c, t)) (hv : c[o]? = some v) : ((⟨g, o, none⟩ : Addr), v, d) ∈ TF d l O := TF_blk o 0 hl hv
theorem TF_old {d : Nat} {l : List Blk} {O : List OldR} {i g o : Nat} {vs : List Value} (j : Nat) {v : Value} (hq : O[i]? = some (g, o, vs)) (hv : vs[j]? = some v) : ((⟨g, o + j, none⟩ : Addr), v, d) ∈ TF d l O :=
  List.mem_append_right _ (List.mem_flatMap.2 ⟨_, List.mem_of_getElem? hq, mem_rowF hv⟩)
theorem TF_held {Hs : List Nat} {w0 w : World} {d : Nat} {l : List Blk} {R : List RowS} {O : List OldR} {listed : Array Bool} (H : Sb Hs w0 w l R) (hO : ∀ q ∈ O, w.rangeAt q.1 q.2.1 q.2.2) : Held (TF d l O) listed w := fun t ht _ => by
  rcases List.mem_append.1 ht with h | h
  · obtain ⟨p, hp, h⟩ := List.mem_flatMap.1 h
    refine rowF_holds (fun j v hv => ?_) t h
    rw [Nat.zero_add, cell_of_row w p.1 j _ _ (0, 0) (H.holds p hp)]
    simpa using hv
  · obtain ⟨q, hq, h⟩ := List.mem_flatMap.1 h
    exact rowF_holds (hO q hq) t h
section
variable {P : Program} {ops : Array Oper} {Q : Exit → Act → World → Prop}
variable {T : Facts} {fuel : Nat} {listed : Array Bool} {a : Act} {w : World}
theorem Gt_start {id : Nat} {W W0 : World} {n : Nat} {Hs : List Nat} {l : List Blk} {R : List RowS} (d : Nat) (O : List OldR) (H : Sb Hs W0 W l R) (hO : ∀ q ∈ O, W.rangeAt q.1 q.2.1 q.2.2) (hm : P.follows .mixedOrders = true) (hn : ops.size = n)
    (h : ∀ w, Sb Hs W0 w l R → Below W.heap.size W w → Gs P ops Q (TF d l O) n (Array.replicate n false) a w) : (Code.region id ops true).wp P Q a W := by
  have hb := (Below.refl W.heap.size W).drew
  have H1 := H.call hb
  exact Gs_start hm hn (TF_held H1 hO) (h _ H1 hb)
end
end Go.Proofs.YtdopfonebpklkaaGreat.game
