/- fold.face, Apply, Run. fold.Apply. A log where it lies; fold.Run's closure. fold.Run. roster.New, fold.Start. -/
import Derived.Test.YtdopfonebpklkaaGreatFoldRuns14
import Derived.Test.YtdopfonebpklkaaGreatFoldRuns13
namespace Go.Proofs.YtdopfonebpklkaaGreat.game
open Go.ChangeShapes Go.WideShapes Go.ChangeAt Go.RowKit dice
set_option maxRecDepth 100000

/-- What Apply and Run answer. -/
def ApOut (o : Option Ste) (s : Ste) (sl : Value) (W0 : World) (e : Ending) (w' : World) : Prop :=
  Below W0.heap.size W0 w' ∧ match o with
  | none => e = .returned (.tuple #[.agg (stateC s sl), .int .i64 1])
  | some t => ∃ sl', e = .returned (.tuple #[.agg (stateC t sl'), .int .i64 0]) ∧ Own w' 0 sl' t.g.L ∧ ∀ k, sl'.ownBlock = some k → W0.heap.size ≤ k
theorem res51 {tmps : Array Value} {w : World} {p q : Nat} {cs : Array Value} {u : Value} (h4 : tmps.getD 4 undef = .pointer (some ⟨p, 0, none⟩)) (h5 : tmps.getD 5 undef = .pointer (some ⟨q, 0, none⟩)) (hp : w.heap[p]? = some (.cells cs 35 (0, 0))) (hs : cs.size = 76) (hq : w.heap[q]? = some (.cells #[u] 3 (0, 0))) :
    (results Tryz.f51 tmps).run Tryz.prog w = .ok (.tuple #[.agg cs, u]) w := by
  rw [Array.getD_eq_getD_getElem?] at h4 h5
  simp only [results, Tryz.results51]
  simp [h4, h5, asAddr, lv35 w p cs hp hs, lv3 w q u hq]
theorem door_bad {s : Ste} {sl : Value} {W0 w : World} {p q r : Nat} {c4 : Array Value} {e0 : Value} {tmps : Array Value} (H : Sb [] W0 w [(r, #[e0], 3), (q, c4, 35), (p, stateC s sl, 35)] []) (hcs : (stateC s sl).size = 76) (h1 : (stateC s sl).toList.all (·.oneCell') = true) (h4 : c4.size = 76)
    (t4 : tmps.getD 4 undef = .pointer (some ⟨q, 0, none⟩)) (t5 : tmps.getD 5 undef = .pointer (some ⟨r, 0, none⟩)) :
    bodyPostD Tryz.prog Tryz.f51 (ApOut none s sl W0) (Exit.panic (failP 1)) { tmps := tmps, defers := [{ target := Target.fn (Fn.func 91) #[.pointer (some ⟨p, 0, none⟩), .pointer (some ⟨q, 0, none⟩), .pointer (some ⟨r, 0, none⟩)], args := #[] }] } w := by
  refine leaves_cons (f := 91) (args := #[.pointer (some ⟨p, 0, none⟩), .pointer (some ⟨q, 0, none⟩), .pointer (some ⟨r, 0, none⟩)]) (by simp) (by simp [go_sem]) ?_
  have hnd := H.nd
  simp at hnd
  have H0 : Sb [p, q, r] w w [(p, stateC s sl, 35), (q, c4, 35), (r, #[e0], 3)] [] := ⟨rfl, rfl, rfl, Nat.le_refl _, fun _ _ _ => rfl, fun x hx => by
    simp at hx
    rcases hx with rfl | rfl | rfl
    · exact H.holds _ (by simp)
    · exact H.holds _ (by simp)
    · exact H.holds _ (by simp), fun x hx => by simp at hx; rcases hx with rfl | rfl | rfl <;> exact .inr (by simp), by simp; omega, fun _ h => by simp at h, fun _ h => by simp at h, fun _ h => by simp at h, by simp⟩
  refine (catch_panicking p q r (stateC s sl) c4 e0 1 w hcs h4 h1 H0).mono ?_
  rintro e u' w'' ⟨rfl, rfl, hS⟩
  have hB : Below W0.heap.size W0 w'' := ⟨hS.os.trans H.os, hS.tape.trans H.tape, hS.output.trans H.output, Nat.le_trans H.size hS.size, fun k hk => (hS.fr k (Nat.lt_of_lt_of_le hk H.size) (fun h => by
    have a1 := (H.ge (r, #[e0], 3) (by simp)).resolve_right (by simp)
    have a2 := (H.ge (q, c4, 35) (by simp)).resolve_right (by simp)
    have a3 := (H.ge (p, stateC s sl, 35) (by simp)).resolve_right (by simp)
    simp at h
    dsimp only at a1 a2 a3
    omega)).trans (H.fr k hk (by simp))⟩
  exact ⟨.tuple #[.agg (stateC s sl), .int .i64 1], res51 t4 t5 (hS.holds _ (List.mem_cons_of_mem _ (List.mem_cons_self ..))) hcs (hS.holds _ (List.mem_cons_of_mem _ (List.mem_cons_of_mem _ (List.mem_cons_self ..)))), hB, rfl⟩
theorem door_ok {s t : Ste} {sl sl' : Value} {W0 w : World} {p q r : Nat} {cp : Array Value} {tmps : Array Value} (H : Sb [] W0 w [(r, #[.int .i64 0], 3), (q, stateC t sl', 35), (p, cp, 35)] [(sl', t.g.L)]) (hcs : (stateC t sl').size = 76)
    (t4 : tmps.getD 4 undef = .pointer (some ⟨q, 0, none⟩)) (t5 : tmps.getD 5 undef = .pointer (some ⟨r, 0, none⟩)) :
    bodyPostD Tryz.prog Tryz.f51 (ApOut (some t) s sl W0) Exit.ret { tmps := tmps, defers := [{ target := Target.fn (Fn.func 91) #[.pointer (some ⟨p, 0, none⟩), .pointer (some ⟨q, 0, none⟩), .pointer (some ⟨r, 0, none⟩)], args := #[] }] } w := by
  refine leaves_cons (f := 91) (args := #[.pointer (some ⟨p, 0, none⟩), .pointer (some ⟨q, 0, none⟩), .pointer (some ⟨r, 0, none⟩)]) (by simp) (by simp [go_sem]) ?_
  refine (catch_idle _ _ _ w).mono ?_
  rintro e u' w'' ⟨rfl, rfl, hb⟩
  have H2 := H.call hb
  exact ⟨.tuple #[.agg (stateC t sl'), .int .i64 0], res51 t4 t5 (H2.holds _ (List.mem_cons_of_mem _ (List.mem_cons_self ..))) hcs (H2.holds _ (List.mem_cons_self ..)), H2.below, sl', rfl, H2.rows _ (List.mem_cons_self ..), fun k hk => (H2.rge _ (List.mem_cons_self ..) k hk).resolve_right (by simp)⟩
set_option maxHeartbeats 4000000 in
theorem face52 (s : Ste) (sl : Value) (o : Option Ste) (qe : Nat) (w0 : World) (hsz : (stateC s sl).size = 76) (h1 : (stateC s sl).toList.all (·.oneCell') = true) (hso : ∀ t, o = some t → ∀ sl, (stateC t sl).size = 76)
    (hc : ∀ W, Below w0.heap.size w0 W → Calls Tryz.prog 52 #[.agg (stateC s sl), .pointer (some ⟨qe, 0, none⟩)] W (StOut o W)) :
    Calls Tryz.prog 51 #[.agg (stateC s sl), .func (.func 52) #[] #[.pointer (some ⟨qe, 0, none⟩)]] w0 (ApOut o s sl w0) := by
  have H := Sb.start w0
  have hmf : ∀ (fn : Fn) (first cap : Array Value) (w : World), (Instr.makeFunc fn first cap).run Tryz.prog w = .ok (.func fn first cap) w := fun _ _ _ _ => rfl
  have Hz := Lib.hid hsz
  have H1 := Lib.hid h1
  have HC := Lib.hid hc
  have HSo := Lib.hid hso
  clear hsz h1 hc hso
  go_enter_defers Tryz.func51, Tryz.ntmps51
  go_wp2_with (first | (refine wb_box H rfl 35 _ rfl (stateC s sl) rfl ?_; clear H; intro b2 w H) | (refine wb_alloc H rfl 35 rfl _ Tryz.zeroValue35 ?_; clear H; intro b4 w H) | (refine wb_alloc H rfl 3 rfl _ Tryz.zeroValue3 ?_; clear H; intro b5 w H) | (refine wb_whole H rfl 2 35 _ rfl _ rfl (stateC s sl) rfl _ Tryz.underlying35 rfl 76 info35 Hz.out ?_))
  replace H : Sb [] w0 w [(b5, #[.int .i64 0], 3), (b4, zC, 35), (b2, stateC s sl, 35)] [] := H
  refine (HC.out _ H.below).mono ?_
  rintro e w' ⟨hb, ho⟩
  cases o with
  | none =>
    subst ho
    exact door_bad (H.call hb) Hz.out H1.out zC_size rfl rfl
  | some t =>
    obtain ⟨sl', rfl, hown, hnew⟩ := ho
    have Hz2 := Lib.hid (HSo.out t rfl sl')
    have HOne := Lib.hid (sc_oneI (s := t) hown.shotsIn)
    have Hsp := Lib.hid (show splice zC 0 (Value.cells (.agg (stateC t sl'))).toList = stateC t sl' from splice_all _ _ (by rw [zC_size]; exact Hz2.out.symm))
    replace H := H.addRow sl' _ hown hb hnew
    clear hown hnew hb HC hmf
    go_wp2_with (first | (refine wb_put H rfl 1 35 _ _ rfl _ 0 rfl _ _ rfl (.agg (stateC t sl')) rfl 76 info35 Hz2.out (Nat.le_of_ble_eq_true rfl) HOne.out _ Hsp.out ?_; clear H; intro w H) | (refine wb_put H rfl 0 3 _ _ rfl _ 0 rfl _ _ rfl (.int .i64 0) rfl 1 info3 rfl (Nat.le_of_ble_eq_true rfl) rfl #[.int .i64 0] rfl ?_; clear H; intro w H))
    exact door_ok H Hz2.out rfl rfl
set_option maxHeartbeats 4000000 in
theorem face65 (s : Ste) (sl : Value) (o : Option Ste) (qe : Nat) (w0 : World) (hsz : (stateC s sl).size = 76) (h1 : (stateC s sl).toList.all (·.oneCell') = true) (hso : ∀ t, o = some t → ∀ sl, (stateC t sl).size = 76)
    (hc : ∀ W, Below w0.heap.size w0 W → Calls Tryz.prog 65 #[.agg (stateC s sl), .pointer (some ⟨qe, 0, none⟩)] W (StOut o W)) :
    Calls Tryz.prog 51 #[.agg (stateC s sl), .func (.func 65) #[] #[.pointer (some ⟨qe, 0, none⟩)]] w0 (ApOut o s sl w0) := by
  have H := Sb.start w0
  have hmf : ∀ (fn : Fn) (first cap : Array Value) (w : World), (Instr.makeFunc fn first cap).run Tryz.prog w = .ok (.func fn first cap) w := fun _ _ _ _ => rfl
  have Hz := Lib.hid hsz
  have H1 := Lib.hid h1
  have HC := Lib.hid hc
  have HSo := Lib.hid hso
  clear hsz h1 hc hso
  go_enter_defers Tryz.func51, Tryz.ntmps51
  go_wp2_with (first | (refine wb_box H rfl 35 _ rfl (stateC s sl) rfl ?_; clear H; intro b2 w H) | (refine wb_alloc H rfl 35 rfl _ Tryz.zeroValue35 ?_; clear H; intro b4 w H) | (refine wb_alloc H rfl 3 rfl _ Tryz.zeroValue3 ?_; clear H; intro b5 w H) | (refine wb_whole H rfl 2 35 _ rfl _ rfl (stateC s sl) rfl _ Tryz.underlying35 rfl 76 info35 Hz.out ?_))
  replace H : Sb [] w0 w [(b5, #[.int .i64 0], 3), (b4, zC, 35), (b2, stateC s sl, 35)] [] := H
  refine (HC.out _ H.below).mono ?_
  rintro e w' ⟨hb, ho⟩
  cases o with
  | none =>
    subst ho
    exact door_bad (H.call hb) Hz.out H1.out zC_size rfl rfl
  | some t =>
    obtain ⟨sl', rfl, hown, hnew⟩ := ho
    have Hz2 := Lib.hid (HSo.out t rfl sl')
    have HOne := Lib.hid (sc_oneI (s := t) hown.shotsIn)
    have Hsp := Lib.hid (show splice zC 0 (Value.cells (.agg (stateC t sl'))).toList = stateC t sl' from splice_all _ _ (by rw [zC_size]; exact Hz2.out.symm))
    replace H := H.addRow sl' _ hown hb hnew
    clear hown hnew hb HC hmf
    go_wp2_with (first | (refine wb_put H rfl 1 35 _ _ rfl _ 0 rfl _ _ rfl (.agg (stateC t sl')) rfl 76 info35 Hz2.out (Nat.le_of_ble_eq_true rfl) HOne.out _ Hsp.out ?_; clear H; intro w H) | (refine wb_put H rfl 0 3 _ _ rfl _ 0 rfl _ _ rfl (.int .i64 0) rfl 1 info3 rfl (Nat.le_of_ble_eq_true rfl) rfl #[.int .i64 0] rfl ?_; clear H; intro w H))
    exact door_ok H Hz2.out rfl rfl
end Go.Proofs.YtdopfonebpklkaaGreat.game
namespace Go.Proofs.YtdopfonebpklkaaGreat.game
open Go.ChangeShapes Go.WideShapes Go.ChangeAt Go.RowKit dice
set_option maxRecDepth 100000

/-- What an entry must be to be handed to Apply. -/
structure Ent.wf (e : Ent) : Prop where
  i8 : e.ins.length = 8
  ins : ∀ i ∈ e.ins, i.ok
  evs : ∀ x ∈ e.evs, x.wf
  few : e.evs.length ≤ 1000
theorem insOne (I : List Inp) : ∀ v ∈ I.flatMap inpL, v.oneCell' = true := by
  intro v hv
  obtain ⟨i, _, hm⟩ := List.mem_flatMap.1 hv
  simp [inpL] at hm
  rcases hm with rfl | rfl | rfl <;> rfl
theorem res35t {fn : Func} {p q : Tmp} {tmps : Array Value} {w : World} {b : Nat} {cs : Array Value} {v : Value} (h : fn.results = #[.cell p 35, .tmp q]) (ha : tmps.getD p undef = .pointer (some ⟨b, 0, none⟩)) (hq : tmps.getD q undef = v) (hb : w.heap[b]? = some (.cells cs 35 (0, 0))) (hs : cs.size = 76) :
    (results fn tmps).run Tryz.prog w = .ok (.tuple #[.agg cs, v]) w := by
  rw [Array.getD_eq_getD_getElem?] at ha hq
  simp only [results, h]
  simp [ha, hq, asAddr, lv35 w b cs hb hs]
/-- What comes out of an entry may be. -/
theorem applyF_may {s t : Ste} {e : Ent} (h8 : s.g.S.length = 8) (t8 : s.T.length = 8) (h : applyF s e = some t) : t.may ∧ t.g.fr = s.g.fr + 1 ∧ s.may := by
  unfold applyF at h
  split at h
  · rename_i hc
    have hs := (Ste.may_iff h8 t8).1 hc.1
    obtain ⟨u, hu, h⟩ := Option.bind_eq_some_iff.1 h
    obtain ⟨um, uf, _⟩ := evsS_may e.evs hs hu
    have hf : u.g.fr < 1048576 := by rw [uf, ← hc.2.2]; exact (entMay_parts hc.2.1).2.1
    split at h
    · injection h with h
      subst h
      have hg := stepG_ok e.ins um.g hf
      refine ⟨⟨hg, um.r, ?_, um.t8⟩, ?_, hs⟩
      · have hgr := stepG_grows e.ins um.g
        refine pairs_idx.2 fun i t q ht hq => ?_
        have hil : i < u.g.S.length := by
          have := (List.getElem?_eq_some_iff.1 ht).1
          rw [hgr.1] at this
          exact this
        obtain ⟨t', ht', ho, _⟩ := hgr.2 i _ (List.getElem?_eq_getElem hil)
        dsimp only at ht
        rw [ht] at ht'
        injection ht' with ht'
        subst ht'
        rw [ho]
        exact pairs_idx.1 um.p i _ q (List.getElem?_eq_getElem hil) hq
      · show (stepG u.g e.ins).fr = s.g.fr + 1
        unfold stepG
        dsimp only
        rw [uf]
    · cases h
  · cases h
set_option maxHeartbeats 4000000 in
theorem cl52 (s : Ste) (sl : Value) (e : Ent) (esl : Value) (qe : Nat) (w0 : World) (hg : s.g.wf) (t8 : s.T.length = 8) (hin : ShotsIn w0 sl s.g.L) (he : e.wf) (hev : EvW w0 esl e.evs) (hq : qe < w0.heap.size) (hr : w0.rangeAt qe 0 (entC e esl).toList) :
    Calls Tryz.prog 52 #[.agg (stateC s sl), .pointer (some ⟨qe, 0, none⟩)] w0 (StOut (applyF s e) w0) := by
  have H := Sb.start w0
  have HC := Lib.hid (fun w h h' => apply_b s sl e esl w hg t8 h he.i8 he.ins he.evs h' he.few)
  have HI := Lib.hid hin
  have HE := Lib.hid hev
  have Hz := Lib.hid (sc_size (s := s) (sl := sl) hg.s8 t8)
  have Hez := Lib.hid (en_size (sl := esl) he.i8)
  have Hq := Lib.hid hq
  have Hr := Lib.hid hr
  have HZ2 := Lib.hid (fun t (h : applyF s e = some t) => (applyF_may hg.s8 t8 h).1)
  clear hg t8 hin he hev hq hr
  go_enter Tryz.func52, Tryz.ntmps52
  go_wp2_with (first | (refine wb_box H rfl 35 _ rfl (stateC s sl) rfl ?_; clear H; intro b2 w H) | (refine wb_alloc H rfl 35 rfl _ Tryz.zeroValue35 ?_; clear H; intro b3 w H; replace H : Sb [] w0 w [(b3, zC, 35), (b2, stateC s sl, 35)] [] := H) | (refine wb_whole H rfl 1 35 _ rfl _ rfl (stateC s sl) rfl _ Tryz.underlying35 rfl 76 info35 Hz.out ?_) | (refine wb_oldRow H rfl 42 _ rfl qe 0 rfl (entC e esl).toList Hq.out Hr.out _ Tryz.underlying42 rfl (by rw [Array.length_toList, Hez.out]; exact info42) ?_; rw [Array.toArray_toList]))
  refine (HC.out _ (HI.out.later H.below) (HE.out.later H.below)).mono ?_
  rintro e1 w' ⟨hb, ho⟩
  cases hap : applyF s e with
  | none =>
    rw [hap] at ho
    subst ho
    exact ⟨rfl, (H.call hb).below, rfl⟩
  | some t =>
    rw [hap] at ho
    obtain ⟨sl', rfl, hown, hnew⟩ := ho
    have hm := HZ2.out t hap
    have Hz2 := Lib.hid (sc_size (s := t) (sl := sl') hm.g.s8 hm.t8)
    have HOne := Lib.hid (sc_oneI (s := t) hown.shotsIn)
    have Hsp := Lib.hid (show splice zC 0 (Value.cells (.agg (stateC t sl'))).toList = stateC t sl' from splice_all _ _ (by rw [zC_size]; exact Hz2.out.symm))
    replace H := H.addRow sl' _ hown hb hnew
    have Hap := Lib.hid hap
    clear hown hnew hb HC hm hap HZ2
    go_wp2_with (refine wb_put H rfl 0 35 _ _ rfl _ 0 rfl _ _ rfl (.agg (stateC t sl')) rfl 76 info35 Hz2.out (Nat.le_of_ble_eq_true rfl) HOne.out _ Hsp.out ?_; clear H; intro w H)
    refine bodyPost_ret (v := .agg (stateC t sl')) (res35 rfl rfl (H.holds _ (List.mem_cons_self ..)) Hz2.out) rfl ?_
    rw [Hap.out]
    exact ⟨H.below, sl', rfl, H.rows _ (List.mem_cons_self ..), fun q hq => (H.rge _ (List.mem_cons_self ..) q hq).resolve_right (by simp)⟩
set_option maxHeartbeats 4000000 in
/-- fold.Apply: a state behind an entry, or the same state and an error. -/
theorem Apply_b (s : Ste) (sl : Value) (e : Ent) (esl : Value) (w0 : World) (hg : s.g.wf) (t8 : s.T.length = 8) (hin : ShotsIn w0 sl s.g.L) (he : e.wf) (hev : EvW w0 esl e.evs) :
    Calls Tryz.prog 17 #[.agg (stateC s sl), .agg (entC e esl)] w0 (ApOut (applyF s e) s sl w0) := by
  have H := Sb.start w0
  have hmf : ∀ (fn : Fn) (first cap : Array Value) (w : World), (Instr.makeFunc fn first cap).run Tryz.prog w = .ok (.func fn first cap) w := fun _ _ _ _ => rfl
  have HI := Lib.hid hin
  have HE := Lib.hid hev
  have Hz := Lib.hid (sc_size (s := s) (sl := sl) hg.s8 t8)
  have H1 := Lib.hid (sc_oneI (s := s) hin)
  have HC := Lib.hid (fun (W : World) (qe : Nat) h h' h'' h''' => cl52 s sl e esl qe W hg t8 h he h' h'' h''')
  have HZ2 := Lib.hid (fun t (h : applyF s e = some t) sl => sc_size (s := t) (sl := sl) (applyF_may hg.s8 t8 h).1.g.s8 (applyF_may hg.s8 t8 h).1.t8)
  clear hg t8 hin he hev
  go_enter Tryz.func17, Tryz.ntmps17
  go_wp2_with (first | (refine wb_box H rfl 35 _ rfl (stateC s sl) rfl ?_; clear H; intro b2 w H) | (refine wb_box H rfl 42 _ rfl (entC e esl) rfl ?_; clear H; intro b3 w H) | (refine wb_alloc H rfl 35 rfl _ Tryz.zeroValue35 ?_; clear H; intro b4 w H) | (refine wb_whole H rfl 2 35 _ rfl _ rfl (stateC s sl) rfl _ Tryz.underlying35 rfl 76 info35 Hz.out ?_))
  replace H : Sb [] w0 w [(b4, zC, 35), (b3, entC e esl, 42), (b2, stateC s sl, 35)] [] := H
  refine (face52 s sl (applyF s e) b3 w Hz.out H1.out HZ2.out (fun W hb => HC.out W b3 (HI.out.later (H.below.trans (hb.mono H.size))) (HE.out.later (H.below.trans (hb.mono H.size))) ((H.call hb).lt _ (List.mem_cons_of_mem _ (List.mem_cons_self ..))) (fun j v hv => by
    rw [Nat.zero_add, cell_of_row W b3 j _ 42 (0, 0) ((H.call hb).holds _ (List.mem_cons_of_mem _ (List.mem_cons_self ..))), ← Array.getElem?_toList]
    exact hv))).mono ?_
  rintro e1 w' ⟨hb, ho⟩
  cases hap : applyF s e with
  | none =>
    rw [hap] at ho
    subst ho
    replace H := H.call hb
    have Hsp := Lib.hid (show splice zC 0 (Value.cells (.agg (stateC s sl))).toList = stateC s sl from splice_all _ _ (by rw [zC_size]; exact Hz.out.symm))
    have Hap := Lib.hid hap
    clear hb HC HZ2 hmf hap
    go_wp2_with (refine wb_put H rfl 0 35 _ _ rfl _ 0 rfl _ _ rfl (.agg (stateC s sl)) rfl 76 info35 Hz.out (Nat.le_of_ble_eq_true rfl) H1.out _ Hsp.out ?_; clear H; intro w H)
    exact bodyPost_ret (v := .tuple #[.agg (stateC s sl), .int .i64 1]) (res35t rfl rfl rfl (H.holds _ (List.mem_cons_self ..)) Hz.out) rfl (by rw [Hap.out]; exact ⟨H.below, rfl⟩)
  | some t =>
    rw [hap] at ho
    obtain ⟨sl', rfl, hown, hnew⟩ := ho
    have Hz2 := Lib.hid (HZ2.out t hap sl')
    have HOne := Lib.hid (sc_oneI (s := t) hown.shotsIn)
    have Hsp := Lib.hid (show splice zC 0 (Value.cells (.agg (stateC t sl'))).toList = stateC t sl' from splice_all _ _ (by rw [zC_size]; exact Hz2.out.symm))
    replace H := H.addRow sl' _ hown hb hnew
    have Hap := Lib.hid hap
    clear hown hnew hb HC hap HZ2 hmf
    go_wp2_with (refine wb_put H rfl 0 35 _ _ rfl _ 0 rfl _ _ rfl (.agg (stateC t sl')) rfl 76 info35 Hz2.out (Nat.le_of_ble_eq_true rfl) HOne.out _ Hsp.out ?_; clear H; intro w H)
    refine bodyPost_ret (v := .tuple #[.agg (stateC t sl'), .int .i64 0]) (res35t rfl rfl rfl (H.holds _ (List.mem_cons_self ..)) Hz2.out) rfl ?_
    rw [Hap.out]
    exact ⟨H.below, sl', rfl, H.rows _ (List.mem_cons_self ..), fun q hq => (H.rge _ (List.mem_cons_self ..) q hq).resolve_right (by simp)⟩
end Go.Proofs.YtdopfonebpklkaaGreat.game
namespace Go.Proofs.YtdopfonebpklkaaGreat.game
open Go.ChangeShapes Go.WideShapes Go.ChangeAt Go.RowKit dice
set_option maxRecDepth 100000

theorem wu64 {a : Int} (h0 : 0 ≤ a) (h1 : a < 18446744073709551616) : (Lit.int .u64 a).wf = true := by
  simp [Lit.wf, IntKind.min, IntKind.max, IntKind.signed, IntKind.bits]
  omega
theorem next_wf (d : Int) : (Lit.int .u64 (next d)).wf = true := by
  unfold next
  exact wu64 (Int.emod_nonneg _ (by decide)) (Int.emod_lt_of_pos _ (by decide))
theorem flyF_wf {d : Int} (S : List Shp) (s : Sht) (h : (Lit.int .u64 d).wf = true) : (Lit.int .u64 (flyF d S s).dice).wf = true := by
  unfold flyF
  split
  · exact h
  · split
    · exact h
    · exact next_wf _
theorem flyAll_wf : ∀ (L : List Sht) (d : Int) (S : List Shp), (Lit.int .u64 d).wf = true → (Lit.int .u64 (flyAll d S L).dice).wf = true
  | [], _, _, h => h
  | s :: L, _, S, h => flyAll_wf L _ _ (flyF_wf S s h)
theorem stepG_wf (g : Gme) (I : List Inp) (h : (Lit.int .u64 g.d).wf = true) : (Lit.int .u64 (stepG g I).d).wf = true := by
  unfold stepG
  exact flyAll_wf _ _ _ h
theorem evG_wf (g : Gme) (x : Evt) (h : (Lit.int .u64 g.d).wf = true) : (Lit.int .u64 (evG g x).d).wf = true := by
  unfold evG
  split
  · exact h
  · exact next_wf _
theorem evsS_wf : ∀ (l : List Evt) {s t : Ste}, (Lit.int .u64 s.g.d).wf = true → evsS s l = some t → (Lit.int .u64 t.g.d).wf = true
  | [], s, t, hs, h => by injection h with h; subst h; exact hs
  | x :: l, s, t, hs, h => by
    unfold evsS at h
    obtain ⟨u, hu, h⟩ := Option.bind_eq_some_iff.1 h
    unfold evS at hu
    obtain ⟨r, _, hu⟩ := Option.bind_eq_some_iff.1 hu
    injection hu with hu
    subst hu
    exact evsS_wf l (evG_wf _ x hs) h
theorem applyF_wf {s t : Ste} {e : Ent} (hg : s.g.wf) (t8 : s.T.length = 8) (h : applyF s e = some t) : t.g.wf ∧ t.T.length = 8 := by
  obtain ⟨hm, _, _⟩ := applyF_may hg.s8 t8 h
  refine ⟨hm.wf ?_, hm.t8⟩
  unfold applyF at h
  split at h
  · obtain ⟨u, hu, h⟩ := Option.bind_eq_some_iff.1 h
    split at h
    · injection h with h
      subst h
      exact stepG_wf _ _ (evsS_wf _ hg.d hu)
    · cases h
  · cases h
/-- Entries one behind the other, each with its events, wherever they lie. -/
def LogW (W : World) (v : Value) (l : List Ent) : Prop :=
  ∃ es : List Value, es.length = l.length ∧ (∀ (k : Nat) (e : Ent) (s : Value), l[k]? = some e → es[k]? = some s → EvW W s e.evs) ∧
    ((l = [] ∧ ∃ ad c, v = .slice ad 0 c) ∨ ∃ g o c, v = .slice (some ⟨g, o, none⟩) l.length c ∧ g < W.heap.size ∧ ∀ (k : Nat) (e : Ent) (s : Value), l[k]? = some e → es[k]? = some s → W.rangeAt g (o + k * 26) (entC e s).toList)
theorem LogW.later {W W' : World} {v : Value} {l : List Ent} (h : LogW W v l) (hb : Below W.heap.size W W') : LogW W' v l := by
  obtain ⟨es, h1, h2, h3⟩ := h
  refine ⟨es, h1, fun k e s a b => (h2 k e s a b).later hb, ?_⟩
  rcases h3 with h | ⟨g, o, c, h, hg, hr⟩
  · exact .inl h
  · exact .inr ⟨g, o, c, h, Nat.lt_of_lt_of_le hg hb.size, fun k e s a b j u hu => (hb.cell (p := ⟨g, o + k * 26 + j, none⟩) hg).trans (hr k e s a b j u hu)⟩
theorem LogW.form {W : World} {v : Value} {l : List Ent} (h : LogW W v l) : ∃ ad c, v = .slice ad l.length c := by
  obtain ⟨es, _, _, ⟨rfl, ad, c, rfl⟩ | ⟨g, o, c, rfl, _⟩⟩ := h
  · exact ⟨ad, c, rfl⟩
  · exact ⟨_, _, rfl⟩
theorem ent_one {W : World} {e : Ent} {s : Value} (h : EvW W s e.evs) : (Value.cells (.agg (entC e s))).toList.all (·.oneCell') = true := by
  rw [List.all_eq_true]
  intro v hv
  simp only [Value.cells, entC, List.mem_cons] at hv
  rcases hv with rfl | rfl | hv
  · rfl
  · obtain ⟨ad, c, rfl⟩ := h.form
    rfl
  · exact insOne e.ins v hv
def zE : Array Value := #[.int .i64 0, .slice none 0 0, .int .i8 0, .int .i8 0, .int .u8 0, .int .i8 0, .int .i8 0, .int .u8 0, .int .i8 0, .int .i8 0, .int .u8 0, .int .i8 0, .int .i8 0, .int .u8 0, .int .i8 0, .int .i8 0, .int .u8 0, .int .i8 0, .int .i8 0, .int .u8 0, .int .i8 0, .int .i8 0, .int .u8 0, .int .i8 0, .int .i8 0, .int .u8 0]
theorem zE_size : zE.size = 26 := rfl
set_option maxHeartbeats 8000000 in
theorem cl65 (s : Ste) (sl : Value) (l : List Ent) (v : Value) (qe : Nat) (w0 : World) (hg : s.g.wf) (t8 : s.T.length = 8) (hin : ShotsIn w0 sl s.g.L) (hl : ∀ e ∈ l, e.wf) (hlog : LogW w0 v l) (hn : l.length ≤ 1000) (hpos : 0 < l.length) (hq : qe < w0.heap.size) (hr : w0.cell? ⟨qe, 0, none⟩ = some v) :
    Calls Tryz.prog 65 #[.agg (stateC s sl), .pointer (some ⟨qe, 0, none⟩)] w0 (StOut (runF s l) w0) := by
  have H := Sb.start w0
  have HI := Lib.hid hin
  have HL := Lib.hid hl
  have Hq := Lib.hid hq
  have Hr := Lib.hid hr
  have Hz := Lib.hid (sc_size (s := s) (sl := sl) hg.s8 t8)
  have HgT := Lib.hid (show s.g.wf ∧ s.T.length = 8 from ⟨hg, t8⟩)
  obtain ⟨es, h1, h2, h3⟩ := hlog
  obtain ⟨g, o, c, rfl, hgl, hrg⟩ : ∃ g o c, v = .slice (some ⟨g, o, none⟩) l.length c ∧ g < w0.heap.size ∧ ∀ (k : Nat) (e : Ent) (s : Value), l[k]? = some e → es[k]? = some s → w0.rangeAt g (o + k * 26) (entC e s).toList := by
    rcases h3 with ⟨rfl, _⟩ | h3
    · simp at hpos
    · exact h3
  have Hes := Lib.hid h1
  have HEv := Lib.hid h2
  have Hgl := Lib.hid hgl
  have Hrg := Lib.hid hrg
  have Hpos := Lib.hid hpos
  have hn' : (l.length : Int) ≤ 1000 := by omega
  have Hn := Lib.hid hn'
  clear h1 h2 h3 hgl hrg hg t8 hin hl hn hpos hq hr hn'
  go_enter Tryz.func65, Tryz.ntmps65
  go_upto_region 1 with (first | (refine wb_box H rfl 35 _ rfl (stateC s sl) rfl ?_; clear H; intro b2 w H) | (refine wb_alloc H rfl 35 rfl _ Tryz.zeroValue35 ?_; clear H; intro b3 w H))
  replace H : Sb [] w0 w [(b3, zC, 35), (b2, stateC s sl, 35)] [] := H
  have hn' := Hn.out
  have c0 : w.cell? ⟨qe, 0, none⟩ = some (.slice (some ⟨g, o, none⟩) l.length c) := (World.cell?_of_block (a := ⟨qe, 0, none⟩) (H.fr qe Hq.out (by simp))).trans Hr.out
  go_wp2_with fail
  have HB := Lib.hid H
  clear H hn' c0
  go_loopw [8] (fun i W => ∃ (k : Nat) (s1 : Ste) (sl1 : Value) (R : List RowS), k ≤ l.length ∧ i = .int .i64 k ∧ Hid (Sb [] w0 W [(b3, zC, 35), (b2, stateC s1 sl1, 35)] R) ∧ Hid (Lie w0 R sl1 s1.g.L ∧ (0 < k → R = [(sl1, s1.g.L)])) ∧ Hid ((s1.g.wf ∧ s1.T.length = 8) ∧ runF s l = runF s1 (l.drop k))) (fun i _ => l.length - (intOf i).toNat)
  case atStart => exact ⟨0, s, sl, [], Nat.zero_le _, rfl, HB, Lib.hid ⟨.inl ⟨rfl, HI.out⟩, fun h => absurd h (by omega)⟩, Lib.hid ⟨HgT.out, rfl⟩⟩
  case round =>
    clear HB
    obtain ⟨k, s1, sl1, R, hk, rfl, HB, HLi, HA⟩ := hrel
    have hn' := Hn.out
    by_cases hlt : k < l.length
    · obtain ⟨e, he⟩ : ∃ e, l[k]? = some e := ⟨l[k], List.getElem?_eq_getElem hlt⟩
      obtain ⟨es1, hes1⟩ : ∃ x, es[k]? = some x := ⟨es[k]'(by rw [Hes.out]; exact hlt), List.getElem?_eq_getElem _⟩
      have hst : runF s l = (applyF s1 e).bind fun t => runF t (l.drop (k + 1)) := by
        rw [HA.out.2]
        obtain ⟨hk', e'⟩ := List.getElem?_eq_some_iff.1 he
        rw [List.drop_eq_getElem_cons hk', e']
        rfl
      have Hst := Lib.hid hst
      have hew := HL.out e (List.mem_of_getElem? he)
      have Hew := Lib.hid hew
      have Hev1 := Lib.hid (HEv.out k e es1 he hes1)
      have Hrow := Lib.hid (Hrg.out k e es1 he hes1)
      have Hez := Lib.hid (en_size (e := e) (sl := es1) hew.i8)
      have HeO := Lib.hid (ent_one (HEv.out k e es1 he hes1))
      have HeS : Hid (splice zE 0 (Value.cells (.agg (entC e es1))).toList = entC e es1) := Lib.hid (splice_all _ _ (by rw [zE_size]; exact Hez.out.symm))
      have HLs := Lib.hid (fun w l (H : Sb [] w0 w l R) => HLi.out.1.shots H)
      have Hwf := Lib.hid HA.out.1
      have Hz1 := Lib.hid (sc_size (s := s1) (sl := sl1) HA.out.1.1.s8 HA.out.1.2)
      have H := HB.out
      clear HB HA he hes1 hst hew HLi
      go_upto_region 4 with (first | (refine wb_oldRow H rfl 42 _ rfl g (o + k * 26) rfl (entC e es1).toList Hgl.out Hrow.out _ Tryz.underlying42 rfl (by rw [Array.length_toList, Hez.out]; exact info42) ?_; rw [Array.toArray_toList]) | (refine wb_alloc H rfl 42 rfl _ Tryz.zeroValue42 ?_; clear H; intro b5 w H; replace H : Sb [] w0 w [(b5, zE, 42), (b3, zC, 35), (b2, stateC s1 sl1, 35)] R := H) | (refine wb_put H rfl 0 42 _ _ rfl _ 0 rfl _ _ rfl (.agg (entC e es1)) rfl 26 info42 Hez.out (Nat.le_of_ble_eq_true rfl) HeO.out _ HeS.out ?_; clear H; intro w H))
      replace H : Sb [] w0 w [(b5, entC e es1, 42), (b3, zC, 35), (b2, stateC s1 sl1, 35)] R := H
      go_wp2_with (first | (refine wb_whole H rfl 2 35 _ rfl _ rfl (stateC s1 sl1) rfl _ Tryz.underlying35 rfl 76 info35 Hz1.out ?_) | (refine wb_whole H rfl 0 42 _ rfl _ rfl (entC e es1) rfl _ Tryz.underlying42 rfl 26 info42 Hez.out ?_))
      refine (apply_b s1 sl1 e es1 _ Hwf.out.1 Hwf.out.2 (HLs.out _ _ H) Hew.out.i8 Hew.out.ins Hew.out.evs (Hev1.out.later H.below) Hew.out.few).mono ?_
      rintro e1 w' ⟨hb, ho⟩
      cases hap : applyF s1 e with
      | none =>
        rw [hap] at ho
        subst ho
        have hno : runF s l = none := by rw [Hst.out, hap]; rfl
        refine ⟨rfl, ?_⟩
        rw [hno]
        exact ⟨(H.call hb).below, rfl⟩
      | some t =>
        rw [hap] at ho
        obtain ⟨sl2, rfl, hown, hnew⟩ := ho
        obtain ⟨tw, tt⟩ := applyF_wf Hwf.out.1 Hwf.out.2 hap
        have HA2 : Hid ((t.g.wf ∧ t.T.length = 8) ∧ runF s l = runF t (l.drop (k + 1))) := Lib.hid ⟨⟨tw, tt⟩, by rw [Hst.out, hap]; rfl⟩
        have H1 := (H.addRow sl2 _ hown hb hnew).onlyRow
        have HOne := Lib.hid (sc_oneI (s := t) hown.shotsIn)
        have Hz2 := Lib.hid (sc_size (s := t) (sl := sl2) tw.s8 tt)
        have Hsp2 : Hid (splice (stateC s1 sl1) 0 (Value.cells (.agg (stateC t sl2))).toList = stateC t sl2) := Lib.hid (splice_all _ _ (by rw [Hz1.out]; exact Hz2.out.symm))
        have Hft : Hid (0 + 76 ≤ (stateC s1 sl1).size) := Lib.hid (by rw [Hz1.out]; decide)
        clear H hown hnew hb tw tt hap Hst
        have H := H1
        clear H1
        go_wp2_with (refine wb_put H rfl 2 35 _ _ rfl _ 0 rfl _ _ rfl (.agg (stateC t sl2)) rfl 76 info35 Hz2.out Hft.out HOne.out _ Hsp2.out ?_; clear H; intro w H)
        replace H : Sb [] w0 w [(b5, entC e es1, 42), (b3, zC, 35), (b2, stateC t sl2, 35)] [(sl2, t.g.L)] := H
        refine ⟨?_, by simp [intOf]; omega⟩
        simp
        exact ⟨k + 1, hlt, rfl, t, sl2, [(sl2, t.g.L)], Lib.hid H.tail, Lib.hid ⟨.inr rfl, fun _ => rfl⟩, HA2⟩
    · obtain rfl : k = l.length := by omega
      have hall : runF s l = some s1 := by rw [HA.out.2, List.drop_length]; rfl
      have Hall := Lib.hid hall
      have hR := HLi.out.2 Hpos.out
      subst hR
      have H := HB.out
      have hsh := HLi.out.1.shots H
      have HOne := Lib.hid (sc_oneI (s := s1) hsh)
      have Hz2 := Lib.hid (sc_size (s := s1) (sl := sl1) HA.out.1.1.s8 HA.out.1.2)
      have Hsp := Lib.hid (show splice zC 0 (Value.cells (.agg (stateC s1 sl1))).toList = stateC s1 sl1 from splice_all _ _ (by rw [zC_size]; exact Hz2.out.symm))
      clear HB HA hall hlt hk hsh HLi
      go_wp2_with (first | (refine wb_whole H rfl 1 35 _ rfl _ rfl (stateC s1 sl1) rfl _ Tryz.underlying35 rfl 76 info35 Hz2.out ?_) | (refine wb_put H rfl 0 35 _ _ rfl _ 0 rfl _ _ rfl (.agg (stateC s1 sl1)) rfl 76 info35 Hz2.out (Nat.le_of_ble_eq_true rfl) HOne.out _ Hsp.out ?_; clear H; intro w H))
      refine bodyPost_ret (v := .agg (stateC s1 sl1)) (res35 rfl rfl (H.holds _ (List.mem_cons_self ..)) Hz2.out) rfl ?_
      rw [Hall.out]
      exact ⟨H.below, sl1, rfl, H.rows _ (List.mem_cons_self ..), fun q hq => (H.rge _ (List.mem_cons_self ..) q hq).resolve_right (by simp)⟩
end Go.Proofs.YtdopfonebpklkaaGreat.game
namespace Go.Proofs.YtdopfonebpklkaaGreat.game
open Go.ChangeShapes Go.WideShapes Go.ChangeAt Go.RowKit dice
set_option maxRecDepth 100000

theorem runF_wf : ∀ (l : List Ent) {s t : Ste}, s.g.wf → s.T.length = 8 → runF s l = some t → t.g.wf ∧ t.T.length = 8
  | [], s, t, hg, t8, h => by injection h with h; subst h; exact ⟨hg, t8⟩
  | e :: l, s, t, hg, t8, h => by
    unfold runF at h
    obtain ⟨u, hu, h⟩ := Option.bind_eq_some_iff.1 h
    obtain ⟨a, b⟩ := applyF_wf hg t8 hu
    exact runF_wf l a b h
theorem runF_fr : ∀ (l : List Ent) {s t : Ste}, s.g.wf → s.T.length = 8 → runF s l = some t → t.g.fr = s.g.fr + l.length ∧ (0 < l.length → t.may)
  | [], s, t, _, _, h => by injection h with h; subst h; exact ⟨by simp, fun h => by simp at h⟩
  | e :: l, s, t, hg, t8, h => by
    unfold runF at h
    obtain ⟨u, hu, h⟩ := Option.bind_eq_some_iff.1 h
    obtain ⟨a, b⟩ := applyF_wf hg t8 hu
    obtain ⟨um, uf, _⟩ := applyF_may hg.s8 t8 hu
    obtain ⟨hf, hm⟩ := runF_fr l a b h
    refine ⟨by rw [hf, uf]; simp; omega, fun _ => ?_⟩
    cases l with
    | nil => injection h with h; subst h; exact um
    | cons x l => exact hm (by simp)
theorem info52 : (Tryz.prog.info? 52).map (·.size) = some 1 := by kernel_rfl
set_option maxHeartbeats 4000000 in
theorem Run_some (s : Ste) (sl : Value) (l : List Ent) (v : Value) (w0 : World) (hg : s.g.wf) (t8 : s.T.length = 8) (hin : ShotsIn w0 sl s.g.L) (hl : ∀ e ∈ l, e.wf) (hlog : LogW w0 v l) (hn : l.length ≤ 1000) (hpos : 0 < l.length) :
    Calls Tryz.prog 24 #[.agg (stateC s sl), v] w0 (ApOut (runF s l) s sl w0) := by
  have H := Sb.start w0
  have hmf : ∀ (fn : Fn) (first cap : Array Value) (w : World), (Instr.makeFunc fn first cap).run Tryz.prog w = .ok (.func fn first cap) w := fun _ _ _ _ => rfl
  have HI := Lib.hid hin
  have HE := Lib.hid hlog
  have Hz := Lib.hid (sc_size (s := s) (sl := sl) hg.s8 t8)
  have H1 := Lib.hid (sc_oneI (s := s) hin)
  have HC := Lib.hid (fun (W : World) (qe : Nat) h h' h'' h''' => cl65 s sl l v qe W hg t8 h hl h' hn hpos h'' h''')
  have HZ2 := Lib.hid (fun t (h : runF s l = some t) sl => sc_size (s := t) (sl := sl) (runF_wf l hg t8 h).1.s8 (runF_wf l hg t8 h).2)
  obtain ⟨ad, c, rfl⟩ := hlog.form
  clear hg t8 hin hl hlog hn hpos
  go_enter Tryz.func24, Tryz.ntmps24
  go_wp2_with (first | (refine wb_box H rfl 35 _ rfl (stateC s sl) rfl ?_; clear H; intro b2 w H) | (refine wb_box H rfl 52 _ rfl #[.slice ad l.length c] rfl ?_; clear H; intro b3 w H) | (refine wb_alloc H rfl 35 rfl _ Tryz.zeroValue35 ?_; clear H; intro b4 w H) | (refine wb_whole H rfl 2 35 _ rfl _ rfl (stateC s sl) rfl _ Tryz.underlying35 rfl 76 info35 Hz.out ?_))
  replace H : Sb [] w0 w [(b4, zC, 35), (b3, #[.slice ad l.length c], 52), (b2, stateC s sl, 35)] [] := H
  refine (face65 s sl (runF s l) b3 w Hz.out H1.out HZ2.out (fun W hb => HC.out W b3 (HI.out.later (H.below.trans (hb.mono H.size))) (HE.out.later (H.below.trans (hb.mono H.size))) ((H.call hb).lt _ (List.mem_cons_of_mem _ (List.mem_cons_self ..))) (cell_of_row W b3 0 _ 52 (0, 0) ((H.call hb).holds _ (List.mem_cons_of_mem _ (List.mem_cons_self ..)))))).mono ?_
  rintro e1 w' ⟨hb, ho⟩
  cases hap : runF s l with
  | none =>
    rw [hap] at ho
    subst ho
    replace H := H.call hb
    have Hsp := Lib.hid (show splice zC 0 (Value.cells (.agg (stateC s sl))).toList = stateC s sl from splice_all _ _ (by rw [zC_size]; exact Hz.out.symm))
    have Hap := Lib.hid hap
    clear hb HC HZ2 hmf hap
    go_wp2_with (refine wb_put H rfl 0 35 _ _ rfl _ 0 rfl _ _ rfl (.agg (stateC s sl)) rfl 76 info35 Hz.out (Nat.le_of_ble_eq_true rfl) H1.out _ Hsp.out ?_; clear H; intro w H)
    exact bodyPost_ret (v := .tuple #[.agg (stateC s sl), .int .i64 1]) (res35t rfl rfl rfl (H.holds _ (List.mem_cons_self ..)) Hz.out) rfl (by rw [Hap.out]; exact ⟨H.below, rfl⟩)
  | some t =>
    rw [hap] at ho
    obtain ⟨sl', rfl, hown, hnew⟩ := ho
    have Hz2 := Lib.hid (HZ2.out t hap sl')
    have HOne := Lib.hid (sc_oneI (s := t) hown.shotsIn)
    have Hsp := Lib.hid (show splice zC 0 (Value.cells (.agg (stateC t sl'))).toList = stateC t sl' from splice_all _ _ (by rw [zC_size]; exact Hz2.out.symm))
    replace H := H.addRow sl' _ hown hb hnew
    have Hap := Lib.hid hap
    clear hown hnew hb HC hap HZ2 hmf
    go_wp2_with (refine wb_put H rfl 0 35 _ _ rfl _ 0 rfl _ _ rfl (.agg (stateC t sl')) rfl 76 info35 Hz2.out (Nat.le_of_ble_eq_true rfl) HOne.out _ Hsp.out ?_; clear H; intro w H)
    refine bodyPost_ret (v := .tuple #[.agg (stateC t sl'), .int .i64 0]) (res35t rfl rfl rfl (H.holds _ (List.mem_cons_self ..)) Hz2.out) rfl ?_
    rw [Hap.out]
    exact ⟨H.below, sl', rfl, H.rows _ (List.mem_cons_self ..), fun q hq => (H.rge _ (List.mem_cons_self ..) q hq).resolve_right (by simp)⟩
/-! No entry at all. -/
theorem door_idle {s : Ste} {sl : Value} {W0 w : World} {p q r : Nat} {cp : Array Value} {tmps : Array Value} (H : Sb [] W0 w [(r, #[.int .i64 0], 3), (q, stateC s sl, 35), (p, cp, 35)] []) (hcs : (stateC s sl).size = 76)
    (t4 : tmps.getD 4 undef = .pointer (some ⟨q, 0, none⟩)) (t5 : tmps.getD 5 undef = .pointer (some ⟨r, 0, none⟩)) :
    bodyPostD Tryz.prog Tryz.f51 (fun e w' => e = .returned (.tuple #[.agg (stateC s sl), .int .i64 0]) ∧ Below W0.heap.size W0 w') Exit.ret { tmps := tmps, defers := [{ target := Target.fn (Fn.func 91) #[.pointer (some ⟨p, 0, none⟩), .pointer (some ⟨q, 0, none⟩), .pointer (some ⟨r, 0, none⟩)], args := #[] }] } w := by
  refine leaves_cons (f := 91) (args := #[.pointer (some ⟨p, 0, none⟩), .pointer (some ⟨q, 0, none⟩), .pointer (some ⟨r, 0, none⟩)]) (by simp) (by simp [go_sem]) ?_
  refine (catch_idle _ _ _ w).mono ?_
  rintro e u' w'' ⟨rfl, rfl, hb⟩
  have H2 := H.call hb
  exact ⟨.tuple #[.agg (stateC s sl), .int .i64 0], res51 t4 t5 (H2.holds _ (List.mem_cons_of_mem _ (List.mem_cons_self ..))) hcs (H2.holds _ (List.mem_cons_self ..)), rfl, H2.below⟩
set_option maxHeartbeats 4000000 in
theorem Run_none (s : Ste) (sl : Value) (ad : Option Addr) (c : Nat) (w0 : World) (hg : s.g.wf) (t8 : s.T.length = 8) (hin : ShotsIn w0 sl s.g.L) :
    Calls Tryz.prog 24 #[.agg (stateC s sl), .slice ad 0 c] w0 fun e w' => e = .returned (.tuple #[.agg (stateC s sl), .int .i64 0]) ∧ Below w0.heap.size w0 w' := by
  have H := Sb.start w0
  have hmf : ∀ (fn : Fn) (first cap : Array Value) (w : World), (Instr.makeFunc fn first cap).run Tryz.prog w = .ok (.func fn first cap) w := fun _ _ _ _ => rfl
  have Hz := Lib.hid (sc_size (s := s) (sl := sl) hg.s8 t8)
  have H1 := Lib.hid (sc_oneI (s := s) hin)
  have Hsp := Lib.hid (show splice zC 0 (Value.cells (.agg (stateC s sl))).toList = stateC s sl from splice_all _ _ (by rw [zC_size, show (Value.cells (.agg (stateC s sl))) = stateC s sl from rfl, sc_size hg.s8 t8]))
  have HC : Hid (∀ (W : World) (qe : Nat), qe < W.heap.size → W.cell? ⟨qe, 0, none⟩ = some (.slice ad 0 c) → Calls Tryz.prog 65 #[.agg (stateC s sl), .pointer (some ⟨qe, 0, none⟩)] W fun e w' => e = .returned (.agg (stateC s sl)) ∧ Below W.heap.size W w') := Lib.hid (fun W qe hq hr => by
    have H := Sb.start W
    have Hq := Lib.hid hq
    have Hr := Lib.hid hr
    clear hg t8 hin hq hr
    go_enter Tryz.func65, Tryz.ntmps65
    go_upto_region 1 with (first | (refine wb_box H rfl 35 _ rfl (stateC s sl) rfl ?_; clear H; intro b2 w H) | (refine wb_alloc H rfl 35 rfl _ Tryz.zeroValue35 ?_; clear H; intro b3 w H))
    replace H : Sb [] W w [(b3, zC, 35), (b2, stateC s sl, 35)] [] := H
    have c0 : w.cell? ⟨qe, 0, none⟩ = some (.slice ad 0 c) := (World.cell?_of_block (a := ⟨qe, 0, none⟩) (H.fr qe Hq.out (by simp))).trans Hr.out
    go_wp2_with fail
    clear c0
    refine wp_loop_rounds 1 ?_
    rw [rounds_succ]
    go_wp2_with (first | (refine wb_whole H rfl 1 35 _ rfl _ rfl (stateC s sl) rfl _ Tryz.underlying35 rfl 76 info35 Hz.out ?_) | (refine wb_put H rfl 0 35 _ _ rfl _ 0 rfl _ _ rfl (.agg (stateC s sl)) rfl 76 info35 Hz.out (Nat.le_of_ble_eq_true rfl) H1.out _ Hsp.out ?_; clear H; intro w H))
    exact bodyPost_ret (v := .agg (stateC s sl)) (res35 rfl rfl (H.holds _ (List.mem_cons_self ..)) Hz.out) rfl ⟨rfl, H.below⟩)
  have HFc : Hid (∀ (W : World) (qe : Nat), qe < W.heap.size → W.cell? ⟨qe, 0, none⟩ = some (.slice ad 0 c) → Calls Tryz.prog 51 #[.agg (stateC s sl), .func (.func 65) #[] #[.pointer (some ⟨qe, 0, none⟩)]] W fun e w' => e = .returned (.tuple #[.agg (stateC s sl), .int .i64 0]) ∧ Below W.heap.size W w') := Lib.hid (fun W qe hq hr => by
    have H := Sb.start W
    have Hq := Lib.hid hq
    have Hr := Lib.hid hr
    clear hg t8 hin hq hr
    go_enter_defers Tryz.func51, Tryz.ntmps51
    go_wp2_with (first | (refine wb_box H rfl 35 _ rfl (stateC s sl) rfl ?_; clear H; intro b2 w H) | (refine wb_alloc H rfl 35 rfl _ Tryz.zeroValue35 ?_; clear H; intro b4 w H) | (refine wb_alloc H rfl 3 rfl _ Tryz.zeroValue3 ?_; clear H; intro b5 w H) | (refine wb_whole H rfl 2 35 _ rfl _ rfl (stateC s sl) rfl _ Tryz.underlying35 rfl 76 info35 Hz.out ?_))
    replace H : Sb [] W w [(b5, #[.int .i64 0], 3), (b4, zC, 35), (b2, stateC s sl, 35)] [] := H
    refine (HC.out w qe (Nat.lt_of_lt_of_le Hq.out H.size) ((World.cell?_of_block (a := ⟨qe, 0, none⟩) (H.fr qe Hq.out (by simp))).trans Hr.out)).mono ?_
    rintro e w' ⟨rfl, hb⟩
    replace H := H.call hb
    clear hb
    go_wp2_with (first | (refine wb_put H rfl 1 35 _ _ rfl _ 0 rfl _ _ rfl (.agg (stateC s sl)) rfl 76 info35 Hz.out (Nat.le_of_ble_eq_true rfl) H1.out _ Hsp.out ?_; clear H; intro w H) | (refine wb_put H rfl 0 3 _ _ rfl _ 0 rfl _ _ rfl (.int .i64 0) rfl 1 info3 rfl (Nat.le_of_ble_eq_true rfl) rfl #[.int .i64 0] rfl ?_; clear H; intro w H))
    exact door_idle H Hz.out rfl rfl)
  clear hg t8 hin HC
  go_enter Tryz.func24, Tryz.ntmps24
  go_wp2_with (first | (refine wb_box H rfl 35 _ rfl (stateC s sl) rfl ?_; clear H; intro b2 w H) | (refine wb_box H rfl 52 _ rfl #[.slice ad 0 c] rfl ?_; clear H; intro b3 w H) | (refine wb_alloc H rfl 35 rfl _ Tryz.zeroValue35 ?_; clear H; intro b4 w H) | (refine wb_whole H rfl 2 35 _ rfl _ rfl (stateC s sl) rfl _ Tryz.underlying35 rfl 76 info35 Hz.out ?_))
  replace H : Sb [] w0 w [(b4, zC, 35), (b3, #[.slice ad 0 c], 52), (b2, stateC s sl, 35)] [] := H
  refine (HFc.out w b3 (H.lt _ (List.mem_cons_of_mem _ (List.mem_cons_self ..))) (cell_of_row w b3 0 _ 52 (0, 0) (H.holds _ (List.mem_cons_of_mem _ (List.mem_cons_self ..))))).mono ?_
  rintro e1 w' ⟨rfl, hb⟩
  replace H := H.call hb
  clear hb HFc hmf
  go_wp2_with (refine wb_put H rfl 0 35 _ _ rfl _ 0 rfl _ _ rfl (.agg (stateC s sl)) rfl 76 info35 Hz.out (Nat.le_of_ble_eq_true rfl) H1.out _ Hsp.out ?_; clear H; intro w H)
  exact bodyPost_ret (v := .tuple #[.agg (stateC s sl), .int .i64 0]) (res35t rfl rfl rfl (H.holds _ (List.mem_cons_self ..)) Hz.out) rfl ⟨rfl, H.below⟩
end Go.Proofs.YtdopfonebpklkaaGreat.game
namespace Go.Proofs.YtdopfonebpklkaaGreat.game
open Go.ChangeShapes Go.WideShapes Go.ChangeAt Go.RowKit dice
set_option maxRecDepth 100000

set_option maxHeartbeats 2000000 in
theorem rosterNew_any (w0 : World) : Calls Tryz.prog 67 #[] w0 fun e w' => e = .returned (.agg (rosterC 0 nobody)) ∧ Below w0.heap.size w0 w' := by
  have H := Sb.start w0
  go_enter Tryz.func67, Tryz.ntmps67
  go_wp2_with (first | (refine wb_alloc H rfl 33 rfl _ Tryz.zeroValue33 ?_; clear H; intro b w H))
  rename_i b0 w9 _ _
  have HB : Hid (Sb [] w0 w [(b, rosterC 0 (List.replicate 8 ⟨0, 0⟩), 33), (b0, rosterC 0 (List.replicate 8 ⟨0, 0⟩), 33)] []) := Lib.hid H
  clear H
  go_loopw [3] (fun i W => ∃ k : Nat, k ≤ 8 ∧ i = .int .i64 k ∧ Hid (Sb [] w0 W [(b, rosterC 0 (List.replicate k ⟨-1, 0⟩ ++ List.replicate (8 - k) ⟨0, 0⟩), 33), (b0, rosterC 0 (List.replicate 8 ⟨0, 0⟩), 33)] [])) (fun i _ => 8 - (intOf i).toNat)
  case atStart => exact ⟨0, Nat.zero_le _, rfl, HB⟩
  case round =>
    clear HB
    obtain ⟨k, hk, rfl, HB⟩ := hrel
    by_cases hlt : k < 8
    · have H := HB.out
      rw [rep_cons k hlt (⟨0, 0⟩ : Seat)] at H
      have G1 := Lib.hid (rc_putPeer 0 (List.replicate k ⟨-1, 0⟩) (List.replicate (8 - (k + 1)) ⟨0, 0⟩) ⟨0, 0⟩ (-1) k (by simp))
      have hft : 1 + k * 2 + 1 ≤ (rosterC 0 (List.replicate k ⟨-1, 0⟩ ++ ⟨0, 0⟩ :: List.replicate (8 - (k + 1)) ⟨0, 0⟩)).size := by rw [rc_size (by simp; omega)]; omega
      have e1 : List.replicate k (⟨-1, 0⟩ : Seat) ++ ⟨-1, 0⟩ :: List.replicate (8 - (k + 1)) ⟨0, 0⟩ = List.replicate (k + 1) ⟨-1, 0⟩ ++ List.replicate (8 - (k + 1)) ⟨0, 0⟩ := by
        rw [List.replicate_succ', List.append_assoc]; rfl
      have E1 := Lib.hid e1
      clear HB e1
      go_wp2_with (refine wb_put H rfl 0 3 _ _ rfl _ (1 + k * 2) rfl _ _ rfl (.int .i64 (-1)) rfl 1 info3 rfl hft rfl _ G1.out ?_; clear H; intro w H)
      dsimp only [List.set_cons_zero] at H
      rw [E1.out] at H
      exact ⟨⟨k + 1, hlt, rfl, Lib.hid H⟩, by simp only [intOf]; omega⟩
    · obtain rfl : k = 8 := by omega
      have H : Sb [] w0 wr [(b, rosterC 0 nobody, 33), (b0, rosterC 0 (List.replicate 8 ⟨0, 0⟩), 33)] [] := HB.out
      have Hz : Hid ((rosterC 0 nobody).size = 17) := Lib.hid (rc_size rfl)
      have Hspl : Hid (splice (rosterC 0 (List.replicate 8 ⟨0, 0⟩)) 0 (Value.cells (.agg (rosterC 0 nobody))).toList = rosterC 0 nobody) := Lib.hid (splice_all _ _ rfl)
      have HONE : Hid ((Value.cells (.agg (rosterC 0 nobody))).toList.all (·.oneCell') = true) := Lib.hid (by decide +kernel)
      clear HB
      go_wp2_with (first | (refine wb_whole H rfl 0 33 _ rfl _ rfl (rosterC 0 nobody) rfl _ Tryz.underlying33 rfl 17 info33 Hz.out ?_) | (refine wb_put H rfl 1 33 _ _ rfl _ 0 rfl _ _ rfl (.agg (rosterC 0 nobody)) rfl 17 info33 Hz.out (Nat.le_of_ble_eq_true rfl) HONE.out _ Hspl.out ?_; clear H; intro w H))
      refine bodyPost_ret (v := .agg (rosterC 0 nobody)) ?_ rfl ⟨rfl, H.below⟩
      exact res33 rfl rfl (H.holds _ (List.mem_cons_of_mem _ (List.mem_cons_self ..))) Hz.out
theorem Start_any (s : ByteArray) (w0 : World) (hs : s.size ≤ maxLen) (D : Int) (hd : seed s.data.toList = D) :
    Calls Tryz.prog 25 #[.string s] w0 fun e w' => e = .returned (.agg (stateC (startS D) (.slice none 0 0))) ∧ Below w0.heap.size w0 w' := by
  have HN := Lib.hid (fun w => new_zS s w hs D hd)
  have H := Sb.start w0
  clear hd
  go_enter Tryz.func25, Tryz.ntmps25
  go_wp2_with (first | (refine wb_alloc H rfl 35 rfl _ Tryz.zeroValue35 ?_; clear H; intro b2 w H))
  refine (HN.out _).mono ?_; rintro e w' ⟨rfl, hb⟩
  replace H := H.call hb
  clear hb
  go_wp2_with fail
  refine (rosterNew_any _).mono ?_; rintro e w' ⟨rfl, hb⟩
  replace H := H.call hb
  clear hb
  have Hz : Hid ((stateC (startS D) (.slice none 0 0)).size = 76) := Lib.hid (sc_size rfl rfl)
  go_wp2_with (first | (refine wl_build rfl 35 _ rfl (stateC (startS D) (.slice none 0 0)) (by kernel_rfl) ?_) | (refine wb_put H rfl 0 35 _ _ rfl _ 0 rfl _ _ rfl (.agg (stateC (startS D) (.slice none 0 0))) rfl 76 info35 Hz.out (Nat.le_of_ble_eq_true rfl) rfl (stateC (startS D) (.slice none 0 0)) rfl ?_; clear H; intro w H))
  refine bodyPost_ret (v := .agg (stateC (startS D) (.slice none 0 0))) ?_ rfl ⟨rfl, H.below⟩
  exact res35 rfl rfl (H.holds _ (List.mem_cons_self ..)) Hz.out
end Go.Proofs.YtdopfonebpklkaaGreat.game
