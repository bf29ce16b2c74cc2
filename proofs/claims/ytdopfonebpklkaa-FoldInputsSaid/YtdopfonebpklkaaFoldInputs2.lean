/- fold.Run. roster.New, fold.Start. slices.Equal over shots; game.Same and fold.Same over any two states. The document's answer: which games may be, over any game, as a truth (printed by mkrw.py). The document's answer: which states may be, over any state, as a truth; Few. What the program tells of a few. An input of a slot: what entries make of a game's beginning (in plain Lean). -/
import Derived.Test.YtdopfonebpklkaaFoldInputs1
import Derived.Test.YtdopfonebpklkaaRj
import Derived.Test.YtdopfonebpklkaaRe
import Derived.Test.YtdopfonebpklkaaBm
import Derived.Test.YtdopfonebpklkaaRr
import Derived.Test.YtdopfonebpklkaaMc
import Derived.Great.BuildSlice
import Derived.Great.FillDense
namespace Go.Proofs.Ytdopfonebpklkaa.game
open Go.ChangeShapes Go.WideShapes Go.ChangeAt Go.RowKit dice
set_option maxRecDepth 100000

theorem runF_wf : ∀ (l : List Ent) {s t : Ste}, s.g.wf → s.T.length = 8 → runF s l = some t → t.g.wf ∧ t.T.length = 8
  | [], s, t, hg, t8, h => by injection h with h; subst h; exact ⟨hg, t8⟩
  | e :: l, s, t, hg, t8, h => by
    unfold runF at h
    obtain ⟨u, hu, h⟩ := Option.bind_eq_some_iff.1 h
    obtain ⟨a, b⟩ := applyF_wf hg t8 hu
    exact runF_wf l a b h
theorem runF_fr : ∀ (l : List Ent) {s t : Ste}, s.g.wf → s.T.length = 8 → runF s l = some t → t.g.fr = s.g.fr + l.length ∧ (0 < l.length → t.may)
  | [], s, t, _, _, h => by injection h with h; subst h; exact ⟨by simp, fun h => by simp at h⟩
  | e :: l, s, t, hg, t8, h => by
    unfold runF at h
    obtain ⟨u, hu, h⟩ := Option.bind_eq_some_iff.1 h
    obtain ⟨a, b⟩ := applyF_wf hg t8 hu
    obtain ⟨um, uf, _⟩ := applyF_may hg.s8 t8 hu
    obtain ⟨hf, hm⟩ := runF_fr l a b h
    refine ⟨by rw [hf, uf]; simp; omega, fun _ => ?_⟩
    cases l with
    | nil => injection h with h; subst h; exact um
    | cons x l => exact hm (by simp)
theorem info52 : (Try.prog.info? 53).map (·.size) = some 1 := by kernel_rfl
set_option maxHeartbeats 4000000 in
theorem Run_some (s : Ste) (sl : Value) (l : List Ent) (v : Value) (w0 : World) (hg : s.g.wf) (t8 : s.T.length = 8) (hin : ShotsIn w0 sl s.g.L) (hl : ∀ e ∈ l, e.wf) (hlog : LogW w0 v l) (hn : l.length ≤ 1000) (hpos : 0 < l.length) :
    Calls Try.prog 8 #[.agg (stateC s sl), v] w0 (ApOut (runF s l) s sl w0) := by
  have H := Sb.start w0
  have hmf : ∀ (fn : Fn) (first cap : Array Value) (w : World), (Instr.makeFunc fn first cap).run Try.prog w = .ok (.func fn first cap) w := fun _ _ _ _ => rfl
  have HI := Lib.hid hin
  have HE := Lib.hid hlog
  have Hz := Lib.hid (sc_size (s := s) (sl := sl) hg.s8 t8)
  have H1 := Lib.hid (sc_oneI (s := s) hin)
  have HC := Lib.hid (fun (W : World) (qe : Nat) h h' h'' h''' => cl65 s sl l v qe W hg t8 h hl h' hn hpos h'' h''')
  have HZ2 := Lib.hid (fun t (h : runF s l = some t) sl => sc_size (s := t) (sl := sl) (runF_wf l hg t8 h).1.s8 (runF_wf l hg t8 h).2)
  obtain ⟨ad, c, rfl⟩ := hlog.form
  clear hg t8 hin hl hlog hn hpos
  go_enter Try.func8, Try.ntmps8
  go_wp2_with (first | (refine wb_box H rfl 40 _ rfl (stateC s sl) rfl ?_; clear H; intro b2 w H) | (refine wb_box H rfl 53 _ rfl #[.slice ad l.length c] rfl ?_; clear H; intro b3 w H) | (refine wb_alloc H rfl 40 rfl _ Try.zeroValue40 ?_; clear H; intro b4 w H) | (refine wb_whole H rfl 2 40 _ rfl _ rfl (stateC s sl) rfl _ Try.underlying40 rfl 76 info35 Hz.out ?_))
  replace H : Sb [] w0 w [(b4, zC, 40), (b3, #[.slice ad l.length c], 53), (b2, stateC s sl, 40)] [] := H
  refine (face65 s sl (runF s l) b3 w Hz.out H1.out HZ2.out (fun W hb => HC.out W b3 (HI.out.later (H.below.trans (hb.mono H.size))) (HE.out.later (H.below.trans (hb.mono H.size))) ((H.call hb).lt _ (List.mem_cons_of_mem _ (List.mem_cons_self ..))) (cell_of_row W b3 0 _ 53 (0, 0) ((H.call hb).holds _ (List.mem_cons_of_mem _ (List.mem_cons_self ..)))))).mono ?_
  rintro e1 w' ⟨hb, ho⟩
  cases hap : runF s l with
  | none =>
    rw [hap] at ho
    subst ho
    replace H := H.call hb
    have Hsp := Lib.hid (show splice zC 0 (Value.cells (.agg (stateC s sl))).toList = stateC s sl from splice_all _ _ (by rw [zC_size]; exact Hz.out.symm))
    have Hap := Lib.hid hap
    clear hb HC HZ2 hmf hap
    go_wp2_with (refine wb_put H rfl 0 40 _ _ rfl _ 0 rfl _ _ rfl (.agg (stateC s sl)) rfl 76 info35 Hz.out (Nat.le_of_ble_eq_true rfl) H1.out _ Hsp.out ?_; clear H; intro w H)
    exact bodyPost_ret (v := .tuple #[.agg (stateC s sl), .int .i64 1]) (res35t rfl rfl rfl (H.holds _ (List.mem_cons_self ..)) Hz.out) rfl (by rw [Hap.out]; exact ⟨H.below, rfl⟩)
  | some t =>
    rw [hap] at ho
    obtain ⟨sl', rfl, hown, hnew⟩ := ho
    have Hz2 := Lib.hid (HZ2.out t hap sl')
    have HOne := Lib.hid (sc_oneI (s := t) hown.shotsIn)
    have Hsp := Lib.hid (show splice zC 0 (Value.cells (.agg (stateC t sl'))).toList = stateC t sl' from splice_all _ _ (by rw [zC_size]; exact Hz2.out.symm))
    replace H := H.addRow sl' _ hown hb hnew
    have Hap := Lib.hid hap
    clear hown hnew hb HC hap HZ2 hmf
    go_wp2_with (refine wb_put H rfl 0 40 _ _ rfl _ 0 rfl _ _ rfl (.agg (stateC t sl')) rfl 76 info35 Hz2.out (Nat.le_of_ble_eq_true rfl) HOne.out _ Hsp.out ?_; clear H; intro w H)
    refine bodyPost_ret (v := .tuple #[.agg (stateC t sl'), .int .i64 0]) (res35t rfl rfl rfl (H.holds _ (List.mem_cons_self ..)) Hz2.out) rfl ?_
    rw [Hap.out]
    exact ⟨H.below, sl', rfl, H.rows _ (List.mem_cons_self ..), fun q hq => (H.rge _ (List.mem_cons_self ..) q hq).resolve_right (by simp)⟩
/-! No entry at all. -/
theorem door_idle {s : Ste} {sl : Value} {W0 w : World} {p q r : Nat} {cp : Array Value} {tmps : Array Value} (H : Sb [] W0 w [(r, #[.int .i64 0], 3), (q, stateC s sl, 40), (p, cp, 40)] []) (hcs : (stateC s sl).size = 76)
    (t4 : tmps.getD 4 undef = .pointer (some ⟨q, 0, none⟩)) (t5 : tmps.getD 5 undef = .pointer (some ⟨r, 0, none⟩)) :
    bodyPostD Try.prog Try.f13 (fun e w' => e = .returned (.tuple #[.agg (stateC s sl), .int .i64 0]) ∧ Below W0.heap.size W0 w') Exit.ret { tmps := tmps, defers := [{ target := Target.fn (Fn.func 22) #[.pointer (some ⟨p, 0, none⟩), .pointer (some ⟨q, 0, none⟩), .pointer (some ⟨r, 0, none⟩)], args := #[] }] } w := by
  refine leaves_cons (f := 22) (args := #[.pointer (some ⟨p, 0, none⟩), .pointer (some ⟨q, 0, none⟩), .pointer (some ⟨r, 0, none⟩)]) (by simp) (by simp [go_sem]) ?_
  refine (catch_idle _ _ _ w).mono ?_
  rintro e u' w'' ⟨rfl, rfl, hb⟩
  have H2 := H.call hb
  exact ⟨.tuple #[.agg (stateC s sl), .int .i64 0], res51 t4 t5 (H2.holds _ (List.mem_cons_of_mem _ (List.mem_cons_self ..))) hcs (H2.holds _ (List.mem_cons_self ..)), rfl, H2.below⟩
set_option maxHeartbeats 4000000 in
theorem Run_none (s : Ste) (sl : Value) (ad : Option Addr) (c : Nat) (w0 : World) (hg : s.g.wf) (t8 : s.T.length = 8) (hin : ShotsIn w0 sl s.g.L) :
    Calls Try.prog 8 #[.agg (stateC s sl), .slice ad 0 c] w0 fun e w' => e = .returned (.tuple #[.agg (stateC s sl), .int .i64 0]) ∧ Below w0.heap.size w0 w' := by
  have H := Sb.start w0
  have hmf : ∀ (fn : Fn) (first cap : Array Value) (w : World), (Instr.makeFunc fn first cap).run Try.prog w = .ok (.func fn first cap) w := fun _ _ _ _ => rfl
  have Hz := Lib.hid (sc_size (s := s) (sl := sl) hg.s8 t8)
  have H1 := Lib.hid (sc_oneI (s := s) hin)
  have Hsp := Lib.hid (show splice zC 0 (Value.cells (.agg (stateC s sl))).toList = stateC s sl from splice_all _ _ (by rw [zC_size, show (Value.cells (.agg (stateC s sl))) = stateC s sl from rfl, sc_size hg.s8 t8]))
  have HC : Hid (∀ (W : World) (qe : Nat), qe < W.heap.size → W.cell? ⟨qe, 0, none⟩ = some (.slice ad 0 c) → Calls Try.prog 18 #[.agg (stateC s sl), .pointer (some ⟨qe, 0, none⟩)] W fun e w' => e = .returned (.agg (stateC s sl)) ∧ Below W.heap.size W w') := Lib.hid (fun W qe hq hr => by
    have H := Sb.start W
    have Hq := Lib.hid hq
    have Hr := Lib.hid hr
    clear hg t8 hin hq hr
    go_enter Try.func18, Try.ntmps18
    go_upto_region 1 with (first | (refine wb_box H rfl 40 _ rfl (stateC s sl) rfl ?_; clear H; intro b2 w H) | (refine wb_alloc H rfl 40 rfl _ Try.zeroValue40 ?_; clear H; intro b3 w H))
    replace H : Sb [] W w [(b3, zC, 40), (b2, stateC s sl, 40)] [] := H
    have c0 : w.cell? ⟨qe, 0, none⟩ = some (.slice ad 0 c) := (World.cell?_of_block (a := ⟨qe, 0, none⟩) (H.fr qe Hq.out (by simp))).trans Hr.out
    go_wp2_with fail
    clear c0
    refine wp_loop_rounds 1 ?_
    rw [rounds_succ]
    go_wp2_with (first | (refine wb_whole H rfl 1 40 _ rfl _ rfl (stateC s sl) rfl _ Try.underlying40 rfl 76 info35 Hz.out ?_) | (refine wb_put H rfl 0 40 _ _ rfl _ 0 rfl _ _ rfl (.agg (stateC s sl)) rfl 76 info35 Hz.out (Nat.le_of_ble_eq_true rfl) H1.out _ Hsp.out ?_; clear H; intro w H))
    exact bodyPost_ret (v := .agg (stateC s sl)) (res35 rfl rfl (H.holds _ (List.mem_cons_self ..)) Hz.out) rfl ⟨rfl, H.below⟩)
  have HFc : Hid (∀ (W : World) (qe : Nat), qe < W.heap.size → W.cell? ⟨qe, 0, none⟩ = some (.slice ad 0 c) → Calls Try.prog 13 #[.agg (stateC s sl), .func (.func 18) #[] #[.pointer (some ⟨qe, 0, none⟩)]] W fun e w' => e = .returned (.tuple #[.agg (stateC s sl), .int .i64 0]) ∧ Below W.heap.size W w') := Lib.hid (fun W qe hq hr => by
    have H := Sb.start W
    have Hq := Lib.hid hq
    have Hr := Lib.hid hr
    clear hg t8 hin hq hr
    go_enter_defers Try.func13, Try.ntmps13
    go_wp2_with (first | (refine wb_box H rfl 40 _ rfl (stateC s sl) rfl ?_; clear H; intro b2 w H) | (refine wb_alloc H rfl 40 rfl _ Try.zeroValue40 ?_; clear H; intro b4 w H) | (refine wb_alloc H rfl 3 rfl _ Try.zeroValue3 ?_; clear H; intro b5 w H) | (refine wb_whole H rfl 2 40 _ rfl _ rfl (stateC s sl) rfl _ Try.underlying40 rfl 76 info35 Hz.out ?_))
    replace H : Sb [] W w [(b5, #[.int .i64 0], 3), (b4, zC, 40), (b2, stateC s sl, 40)] [] := H
    refine (HC.out w qe (Nat.lt_of_lt_of_le Hq.out H.size) ((World.cell?_of_block (a := ⟨qe, 0, none⟩) (H.fr qe Hq.out (by simp))).trans Hr.out)).mono ?_
    rintro e w' ⟨rfl, hb⟩
    replace H := H.call hb
    clear hb
    go_wp2_with (first | (refine wb_put H rfl 1 40 _ _ rfl _ 0 rfl _ _ rfl (.agg (stateC s sl)) rfl 76 info35 Hz.out (Nat.le_of_ble_eq_true rfl) H1.out _ Hsp.out ?_; clear H; intro w H) | (refine wb_put H rfl 0 3 _ _ rfl _ 0 rfl _ _ rfl (.int .i64 0) rfl 1 info3 rfl (Nat.le_of_ble_eq_true rfl) rfl #[.int .i64 0] rfl ?_; clear H; intro w H))
    exact door_idle H Hz.out rfl rfl)
  clear hg t8 hin HC
  go_enter Try.func8, Try.ntmps8
  go_wp2_with (first | (refine wb_box H rfl 40 _ rfl (stateC s sl) rfl ?_; clear H; intro b2 w H) | (refine wb_box H rfl 53 _ rfl #[.slice ad 0 c] rfl ?_; clear H; intro b3 w H) | (refine wb_alloc H rfl 40 rfl _ Try.zeroValue40 ?_; clear H; intro b4 w H) | (refine wb_whole H rfl 2 40 _ rfl _ rfl (stateC s sl) rfl _ Try.underlying40 rfl 76 info35 Hz.out ?_))
  replace H : Sb [] w0 w [(b4, zC, 40), (b3, #[.slice ad 0 c], 53), (b2, stateC s sl, 40)] [] := H
  refine (HFc.out w b3 (H.lt _ (List.mem_cons_of_mem _ (List.mem_cons_self ..))) (cell_of_row w b3 0 _ 53 (0, 0) (H.holds _ (List.mem_cons_of_mem _ (List.mem_cons_self ..))))).mono ?_
  rintro e1 w' ⟨rfl, hb⟩
  replace H := H.call hb
  clear hb HFc hmf
  go_wp2_with (refine wb_put H rfl 0 40 _ _ rfl _ 0 rfl _ _ rfl (.agg (stateC s sl)) rfl 76 info35 Hz.out (Nat.le_of_ble_eq_true rfl) H1.out _ Hsp.out ?_; clear H; intro w H)
  exact bodyPost_ret (v := .tuple #[.agg (stateC s sl), .int .i64 0]) (res35t rfl rfl rfl (H.holds _ (List.mem_cons_self ..)) Hz.out) rfl ⟨rfl, H.below⟩
end Go.Proofs.Ytdopfonebpklkaa.game
namespace Go.Proofs.Ytdopfonebpklkaa.game
open Go.ChangeShapes Go.WideShapes Go.ChangeAt Go.RowKit dice
set_option maxRecDepth 100000

set_option maxHeartbeats 2000000 in
theorem rosterNew_any (w0 : World) : Calls Try.prog 12 #[] w0 fun e w' => e = .returned (.agg (rosterC 0 nobody)) ∧ Below w0.heap.size w0 w' := by
  have H := Sb.start w0
  go_enter Try.func12, Try.ntmps12
  go_wp2_with (first | (refine wb_alloc H rfl 38 rfl _ Try.zeroValue38 ?_; clear H; intro b w H))
  rename_i b0 w9 _ _
  have HB : Hid (Sb [] w0 w [(b, rosterC 0 (List.replicate 8 ⟨0, 0⟩), 38), (b0, rosterC 0 (List.replicate 8 ⟨0, 0⟩), 38)] []) := Lib.hid H
  clear H
  go_loopw [3] (fun i W => ∃ k : Nat, k ≤ 8 ∧ i = .int .i64 k ∧ Hid (Sb [] w0 W [(b, rosterC 0 (List.replicate k ⟨-1, 0⟩ ++ List.replicate (8 - k) ⟨0, 0⟩), 38), (b0, rosterC 0 (List.replicate 8 ⟨0, 0⟩), 38)] [])) (fun i _ => 8 - (intOf i).toNat)
  case atStart => exact ⟨0, Nat.zero_le _, rfl, HB⟩
  case round =>
    clear HB
    obtain ⟨k, hk, rfl, HB⟩ := hrel
    by_cases hlt : k < 8
    · have H := HB.out
      rw [rep_cons k hlt (⟨0, 0⟩ : Seat)] at H
      have G1 := Lib.hid (rc_putPeer 0 (List.replicate k ⟨-1, 0⟩) (List.replicate (8 - (k + 1)) ⟨0, 0⟩) ⟨0, 0⟩ (-1) k (by simp))
      have hft : 1 + k * 2 + 1 ≤ (rosterC 0 (List.replicate k ⟨-1, 0⟩ ++ ⟨0, 0⟩ :: List.replicate (8 - (k + 1)) ⟨0, 0⟩)).size := by rw [rc_size (by simp; omega)]; omega
      have e1 : List.replicate k (⟨-1, 0⟩ : Seat) ++ ⟨-1, 0⟩ :: List.replicate (8 - (k + 1)) ⟨0, 0⟩ = List.replicate (k + 1) ⟨-1, 0⟩ ++ List.replicate (8 - (k + 1)) ⟨0, 0⟩ := by
        rw [List.replicate_succ', List.append_assoc]; rfl
      have E1 := Lib.hid e1
      clear HB e1
      go_wp2_with (refine wb_put H rfl 0 3 _ _ rfl _ (1 + k * 2) rfl _ _ rfl (.int .i64 (-1)) rfl 1 info3 rfl hft rfl _ G1.out ?_; clear H; intro w H)
      dsimp only [List.set_cons_zero] at H
      rw [E1.out] at H
      exact ⟨⟨k + 1, hlt, rfl, Lib.hid H⟩, by simp only [intOf]; omega⟩
    · obtain rfl : k = 8 := by omega
      have H : Sb [] w0 wr [(b, rosterC 0 nobody, 38), (b0, rosterC 0 (List.replicate 8 ⟨0, 0⟩), 38)] [] := HB.out
      have Hz : Hid ((rosterC 0 nobody).size = 17) := Lib.hid (rc_size rfl)
      have Hspl : Hid (splice (rosterC 0 (List.replicate 8 ⟨0, 0⟩)) 0 (Value.cells (.agg (rosterC 0 nobody))).toList = rosterC 0 nobody) := Lib.hid (splice_all _ _ rfl)
      have HONE : Hid ((Value.cells (.agg (rosterC 0 nobody))).toList.all (·.oneCell') = true) := Lib.hid (by decide +kernel)
      clear HB
      go_wp2_with (first | (refine wb_whole H rfl 0 38 _ rfl _ rfl (rosterC 0 nobody) rfl _ Try.underlying38 rfl 17 info33 Hz.out ?_) | (refine wb_put H rfl 1 38 _ _ rfl _ 0 rfl _ _ rfl (.agg (rosterC 0 nobody)) rfl 17 info33 Hz.out (Nat.le_of_ble_eq_true rfl) HONE.out _ Hspl.out ?_; clear H; intro w H))
      refine bodyPost_ret (v := .agg (rosterC 0 nobody)) ?_ rfl ⟨rfl, H.below⟩
      exact res33 rfl rfl (H.holds _ (List.mem_cons_of_mem _ (List.mem_cons_self ..))) Hz.out
theorem Start_any (s : ByteArray) (w0 : World) (hs : s.size ≤ maxLen) (D : Int) (hd : seed s.data.toList = D) :
    Calls Try.prog 5 #[.string s] w0 fun e w' => e = .returned (.agg (stateC (startS D) (.slice none 0 0))) ∧ Below w0.heap.size w0 w' := by
  have HN := Lib.hid (fun w => new_zS s w hs D hd)
  have H := Sb.start w0
  clear hd
  go_enter Try.func5, Try.ntmps5
  go_wp2_with (first | (refine wb_alloc H rfl 40 rfl _ Try.zeroValue40 ?_; clear H; intro b2 w H))
  refine (HN.out _).mono ?_; rintro e w' ⟨rfl, hb⟩
  replace H := H.call hb
  clear hb
  go_wp2_with fail
  refine (rosterNew_any _).mono ?_; rintro e w' ⟨rfl, hb⟩
  replace H := H.call hb
  clear hb
  have Hz : Hid ((stateC (startS D) (.slice none 0 0)).size = 76) := Lib.hid (sc_size rfl rfl)
  go_wp2_with (first | (refine wl_build rfl 40 _ rfl (stateC (startS D) (.slice none 0 0)) (by kernel_rfl) ?_) | (refine wb_put H rfl 0 40 _ _ rfl _ 0 rfl _ _ rfl (.agg (stateC (startS D) (.slice none 0 0))) rfl 76 info35 Hz.out (Nat.le_of_ble_eq_true rfl) rfl (stateC (startS D) (.slice none 0 0)) rfl ?_; clear H; intro w H))
  refine bodyPost_ret (v := .agg (stateC (startS D) (.slice none 0 0))) ?_ rfl ⟨rfl, H.below⟩
  exact res35 rfl rfl (H.holds _ (List.mem_cons_self ..)) Hz.out
end Go.Proofs.Ytdopfonebpklkaa.game
namespace Go.Proofs.Ytdopfonebpklkaa.game
open Go.ChangeShapes Go.WideShapes Go.ChangeAt Go.RowKit dice
set_option maxRecDepth 100000

set_option maxHeartbeats 8000000 in
theorem equalShots (L L' : List Sht) (sl sl' : Value) (w0 : World) (hw : ∀ s ∈ L, s.wf) (hw' : ∀ s ∈ L', s.wf) (hin : ShotsW w0 sl L) (hin' : ShotsW w0 sl' L') (hm : L.length ≤ 1000) :
    Calls Try.prog 29 #[sl, sl'] w0 fun e w' => SameOut (L = L') e ∧ Below w0.heap.size w0 w' := by
  obtain ⟨ad1, c1, rfl⟩ := hin.form
  obtain ⟨ad2, c2, rfl⟩ := hin'.form
  have HE79 := Lib.hid (fun W s s' (h : s ∈ L) (h' : s' ∈ L') => eq79w W s s' (hw s h) (hw' s' h'))
  have HI1 := Lib.hid hin
  have HI2 := Lib.hid hin'
  have H := Sb.start w0
  clear hw hw' hin hin'
  obtain ⟨m, hmm⟩ : ∃ m : Prop, (L = L') = m := ⟨_, rfl⟩
  rw [hmm]
  have HM := Lib.hid (show m ↔ L = L' by rw [← hmm])
  clear hmm
  go_enter Try.func29, Try.ntmps29
  by_cases e4 : L.length = L'.length
  rotate_left
  · have q : decide ((L.length : Int) = (L'.length : Int)) = false := decide_eq_false (by omega)
    have q' : ¬ (L.length : Int) = (L'.length : Int) := by omega
    go_wp2_with fail
    go_ret
    exact ⟨sameNo (fun h => e4 (by rw [HM.out.1 h])) rfl, H.below⟩
  go_wp2_with fail
  have HB := Lib.hid H
  have E4 := Lib.hid e4
  clear H e4
  go_loopw [13] (fun i W => ∃ k : Nat, k ≤ L.length ∧ i = .int .i64 k ∧ Hid (Sb [] w0 W [] []) ∧ Hid (L.take k = L'.take k)) (fun i _ => L.length - (intOf i).toNat)
  case atStart => exact ⟨0, Nat.zero_le _, rfl, HB, Lib.hid rfl⟩
  case round =>
    clear HB
    obtain ⟨k, hk, rfl, HB, HA⟩ := hrel
    by_cases hlt : k < L.length
    · obtain ⟨g1, o1, had1, hg1, hc1⟩ : ∃ gi oi, ad1 = some ⟨gi, oi, none⟩ ∧ gi < w0.heap.size ∧ ∀ j v, (cellsL L)[j]? = some v → w0.cell? ⟨gi, oi + j, none⟩ = some v := by
        rcases HI1.out with ⟨e, _⟩ | ⟨gi, oi, c', e, hgi, hc⟩
        · rw [e] at hlt; exact absurd hlt (Nat.not_lt_zero _)
        · injection e with e1 e2 e3
          exact ⟨gi, oi, e1, hgi, hc⟩
      obtain ⟨g2, o2, had2, hg2, hc2⟩ : ∃ gi oi, ad2 = some ⟨gi, oi, none⟩ ∧ gi < w0.heap.size ∧ ∀ j v, (cellsL L')[j]? = some v → w0.cell? ⟨gi, oi + j, none⟩ = some v := by
        rcases HI2.out with ⟨e, _⟩ | ⟨gi, oi, c', e, hgi, hc⟩
        · have := E4.out
          rw [e] at this
          simp at this
          rw [this] at hlt
          exact absurd hlt (by simp)
        · injection e with e1 e2 e3
          exact ⟨gi, oi, e1, hgi, hc⟩
      subst had1
      subst had2
      have hlt' : (k : Int) < (L'.length : Int) := by have := E4.out; omega
      obtain ⟨s, hs⟩ : ∃ s, L[k]? = some s := ⟨L[k], List.getElem?_eq_getElem hlt⟩
      obtain ⟨s', hs'⟩ : ∃ s, L'[k]? = some s := ⟨L'[k]'(by rw [← E4.out]; exact hlt), List.getElem?_eq_getElem _⟩
      obtain ⟨p0, p1, p2, p3, p4, p5⟩ := shot_at (fun j v h => (World.cell?_of_block (a := ⟨g1, o1 + j, none⟩) (HB.out.fr g1 hg1 (by simp))).trans (hc1 j v h)) k s hs
      obtain ⟨r0, r1, r2, r3, r4, r5⟩ := shot_at (fun j v h => (World.cell?_of_block (a := ⟨g2, o2 + j, none⟩) (HB.out.fr g2 hg2 (by simp))).trans (hc2 j v h)) k s' hs'
      have HEk := Lib.hid (fun W => HE79.out W s s' (List.mem_of_getElem? hs) (List.mem_of_getElem? hs'))
      have Hs := Lib.hid hs
      have Hs' := Lib.hid hs'
      clear hs hs' hc1 hc2 hg1 hg2
      by_cases es : s = s'
      · have HT : Hid (L.take (k + 1) = L'.take (k + 1)) := Lib.hid (by
          obtain ⟨hk1, e1⟩ := List.getElem?_eq_some_iff.1 Hs.out
          obtain ⟨hk2, e2⟩ := List.getElem?_eq_some_iff.1 Hs'.out
          rw [List.take_succ_eq_append_getElem hk1, List.take_succ_eq_append_getElem hk2, HA.out, e1, e2, es])
        subst es
        have hq : ∀ W, (Op.equalIn 10000 75 (.agg #[.int .i64 s.owner, .int .i32 s.x, .int .i32 s.y, .int .i32 s.vx, .int .i32 s.vy, .int .i64 s.left]) (.agg #[.int .i64 s.owner, .int .i32 s.x, .int .i32 s.y, .int .i32 s.vx, .int .i32 s.vy, .int .i64 s.left])).run Try.prog W = .ok true W := fun W => by
          obtain ⟨r, hr, hi⟩ := HEk.out W
          rw [hi.2 rfl] at hr
          exact hr
        clear HEk
        go_wp2_with fail
        go_quiet (fail)
        have HB2 := Lib.hid (HB.out.call (below_drewN (Below.refl _ _) nq))
        clear p0 p1 p2 p3 p4 p5 r0 r1 r2 r3 r4 r5 HB hq
        go_wp2_with fail
        exact ⟨⟨k + 1, hlt, rfl, HB2, HT⟩, by simp only [intOf]; omega⟩
      · have hq : ∀ W, (Op.equalIn 10000 75 (.agg #[.int .i64 s.owner, .int .i32 s.x, .int .i32 s.y, .int .i32 s.vx, .int .i32 s.vy, .int .i64 s.left]) (.agg #[.int .i64 s'.owner, .int .i32 s'.x, .int .i32 s'.y, .int .i32 s'.vx, .int .i32 s'.vy, .int .i64 s'.left])).run Try.prog W = .ok false W := fun W => by
          obtain ⟨r, hr, hi⟩ := HEk.out W
          cases r with
          | true => exact absurd (hi.1 rfl) es
          | false => exact hr
        have HNe : Hid (L ≠ L') := Lib.hid (fun h => by
          have := Hs.out
          rw [h] at this
          exact es (Option.some.inj (this.symm.trans Hs'.out)))
        clear HEk
        go_wp2_with fail
        go_quiet (fail)
        have HB2 := Lib.hid (HB.out.call (below_drewN (Below.refl _ _) nq))
        clear p0 p1 p2 p3 p4 p5 r0 r1 r2 r3 r4 r5 HB hq
        go_wp2_with fail
        go_ret
        exact ⟨sameNo (fun h => HNe.out (HM.out.1 h)) rfl, HB2.out.below⟩
    · obtain rfl : k = L.length := by omega
      have hLL : L = L' := by
        have := HA.out
        rw [List.take_length, E4.out, List.take_length] at this
        exact this
      have hmt : m := HM.out.2 hLL
      have HMt := Lib.hid hmt
      have hn1 : ¬ L.length < L'.length := by have := E4.out; omega
      clear hLL hmt
      go_wp2_with fail
      go_ret
      exact ⟨sameYes HMt.out rfl, HB.out.below⟩

set_option maxHeartbeats 8000000 in
theorem gameSame (g g' : Gme) (sl sl' : Value) (w0 : World) (hg : g.wf) (hg' : g'.wf) (hin : ShotsW w0 sl g.L) (hin' : ShotsW w0 sl' g'.L) (hm : g.L.length ≤ 1000) :
    Calls Try.prog 19 #[.agg (gameC g.fr g.d g.S sl), .agg (gameC g'.fr g'.d g'.S sl')] w0 fun e w' => SameOut (g = g') e ∧ Below w0.heap.size w0 w' := by
  have HE := Lib.hid (fun W => eq25w W g.S g'.S hg.s8 hg'.s8 hg.ships hg'.ships)
  have HQ := Lib.hid (fun W h h' => equalShots g.L g'.L sl sl' W hg.shots hg'.shots h h' hm)
  have HI1 := Lib.hid hin
  have HI2 := Lib.hid hin'
  have Hl1 := Lib.hid (show (shipsL g.S).length = 56 by rw [length_shipsL, hg.s8])
  have Hl2 := Lib.hid (show (shipsL g'.S).length = 56 by rw [length_shipsL, hg'.s8])
  have Hs1 := Lib.hid (gc_shots (fr := g.fr) (d := g.d) (S := g.S) (sl := sl) hg.s8)
  have Hs2 := Lib.hid (gc_shots (fr := g'.fr) (d := g'.d) (S := g'.S) (sl := sl') hg'.s8)
  have Hp1 := Lib.hid (fun j v h => gc_shipsw (fr := g.fr) (d := g.d) (S := g.S) (sl := sl) j v h)
  have Hp2 := Lib.hid (fun j v h => gc_shipsw (fr := g'.fr) (d := g'.d) (S := g'.S) (sl := sl') j v h)
  have HF1 : Hid ((gameC g.fr g.d g.S sl)[0]? = some (.int .i64 g.fr)) := Lib.hid rfl
  have HF2 : Hid ((gameC g'.fr g'.d g'.S sl')[0]? = some (.int .i64 g'.fr)) := Lib.hid rfl
  have HD1 : Hid ((gameC g.fr g.d g.S sl)[1]? = some (.int .u64 g.d)) := Lib.hid rfl
  have HD2 : Hid ((gameC g'.fr g'.d g'.S sl')[1]? = some (.int .u64 g'.d)) := Lib.hid rfl
  have H := Sb.start w0
  clear hg hg' hin hin'
  obtain ⟨fr, d, S, L⟩ := g
  obtain ⟨fr', d', S', L'⟩ := g'
  dsimp only at *
  generalize gameC fr d S sl = A at *
  generalize gameC fr' d' S' sl' = B at *
  obtain ⟨m, hmm⟩ : ∃ m : Prop, ((⟨fr, d, S, L⟩ : Gme) = ⟨fr', d', S', L'⟩) = m := ⟨_, rfl⟩
  rw [hmm]
  have HM := Lib.hid (show m ↔ fr = fr' ∧ d = d' ∧ S = S' ∧ L = L' by rw [← hmm]; simp)
  clear hmm
  go_enter Try.func19, Try.ntmps19
  go_upto_region 1 with (first | (refine wb_box H rfl 33 _ rfl A rfl ?_; clear H; intro b2 w H) | (refine wb_box H rfl 33 _ rfl B rfl ?_; clear H; intro b3 w H))
  replace H : Sb [] w0 w [(b3, B, 33), (b2, A, 33)] [] := H
  have x0 : w.cell? ⟨b2, 0, none⟩ = some (.int .i64 fr) := (cell_of_row w b2 0 _ 33 (0, 0) (H.holds _ (List.mem_cons_of_mem _ (List.mem_cons_self ..)))).trans HF1.out
  have y0 : w.cell? ⟨b3, 0, none⟩ = some (.int .i64 fr') := (cell_of_row w b3 0 _ 33 (0, 0) (H.holds _ (List.mem_cons_self ..))).trans HF2.out
  by_cases e1 : fr = fr'
  rotate_left
  · have q : decide (fr = fr') = false := decide_eq_false e1
    go_wp2_with fail
    go_ret
    exact ⟨sameNo (fun h => e1 (HM.out.1 h).1) rfl, H.below⟩
  subst e1
  have x1 : w.cell? ⟨b2, 1, none⟩ = some (.int .u64 d) := (cell_of_row w b2 1 _ 33 (0, 0) (H.holds _ (List.mem_cons_of_mem _ (List.mem_cons_self ..)))).trans HD1.out
  have y1 : w.cell? ⟨b3, 1, none⟩ = some (.int .u64 d') := (cell_of_row w b3 1 _ 33 (0, 0) (H.holds _ (List.mem_cons_self ..))).trans HD2.out
  by_cases e2 : d = d'
  rotate_left
  · have q : decide (d = d') = false := decide_eq_false e2
    go_wp2_with fail
    go_ret
    exact ⟨sameNo (fun h => e2 (HM.out.1 h).2.1) rfl, H.below⟩
  subst e2
  have x2 : w.cell? ⟨b2, 58, none⟩ = some sl := (cell_of_row w b2 58 _ 33 (0, 0) (H.holds _ (List.mem_cons_of_mem _ (List.mem_cons_self ..)))).trans Hs1.out
  have y2 : w.cell? ⟨b3, 58, none⟩ = some sl' := (cell_of_row w b3 58 _ 33 (0, 0) (H.holds _ (List.mem_cons_self ..))).trans Hs2.out
  by_cases e3 : S = S'
  rotate_left
  · have he : ∀ W, (Op.equalIn 10000 30 (.agg (shipsL S).toArray) (.agg (shipsL S').toArray)).run Try.prog W = .ok false W := fun W => by
      obtain ⟨r, hr, hi⟩ := HE.out W
      cases r with
      | true => exact absurd (hi.1 rfl) e3
      | false => exact hr
    clear HE HQ
    generalize shipsL S = ss at *
    generalize shipsL S' = ss' at *
    go_wp2_with (first | (refine wb_partL 30 _ rfl H rfl 1 _ 2 rfl _ _ rfl _ Try.underlying30 rfl 56 info25 ss Hp1.out Hl1.out ?_) | (refine wb_partL 30 _ rfl H rfl 0 _ 2 rfl _ _ rfl _ Try.underlying30 rfl 56 info25 ss' Hp2.out Hl2.out ?_))
    go_ret
    exact ⟨sameNo (fun h => e3 (HM.out.1 h).2.2.1) rfl, H.below⟩
  subst e3
  have he : ∀ W, (Op.equalIn 10000 30 (.agg (shipsL S).toArray) (.agg (shipsL S).toArray)).run Try.prog W = .ok true W := fun W => by
    obtain ⟨r, hr, hi⟩ := HE.out W
    rw [hi.2 rfl] at hr
    exact hr
  clear HE
  generalize shipsL S = ss at *
  go_wp2_with (first | (refine wb_partL 30 _ rfl H rfl 1 _ 2 rfl _ _ rfl _ Try.underlying30 rfl 56 info25 ss Hp1.out Hl1.out ?_) | (refine wb_partL 30 _ rfl H rfl 0 _ 2 rfl _ _ rfl _ Try.underlying30 rfl 56 info25 ss Hp2.out Hl2.out ?_))
  refine (HQ.out _ (HI1.out.later H.below) (HI2.out.later H.below)).mono ?_
  rintro e w' ⟨⟨r, rfl, hi⟩, hb⟩
  replace H := H.call hb
  have Hi := Lib.hid hi
  clear hb hi
  cases r with
  | false =>
    go_wp2_with fail
    go_ret
    exact ⟨sameNo (fun h => by have := Hi.out.2 (HM.out.1 h).2.2.2; cases this) rfl, H.below⟩
  | true =>
    go_wp2_with fail
    go_ret
    exact ⟨sameYes (HM.out.2 ⟨trivial, trivial, trivial, Hi.out.1 trivial⟩) rfl, H.below⟩
section
variable {ops : Array Oper} {rest : List Oper} {op : Oper} {a : Act} {Q : Exit → Act → World → Prop} {w0 w : World} {Hs : List Nat} {l : List Blk} {R : List RowS}
/-- wb_partA, the operation's kind asked first. -/
theorem wb_partAL (ty : TypeId) (x : Operand) (ho : op.op = .load ty x) (H : Sb Hs w0 w l R) (hw : Region.wanted op (yielded ops a.tmps) = true) (i : Nat) (g o : Nat) (hx : a.eval x = .pointer (some ⟨g, o, none⟩)) (c : Array Value) (t : TypeId) (hl : l[i]? = some (g, c, t))
    (d : TypeDesc) (hu : Try.prog.underlying ty = some d) (hd : d.isRow = true) (n : Nat) (hi : (Try.prog.info? ty).map (·.size) = some n) (vs : Array Value) (hvs : ∀ j v, vs[j]? = some v → c[o + j]? = some v) (hn : vs.size = n)
    (h : wpList Try.prog ops Q rest (a.put op.dst (.agg vs)) w) : wpList Try.prog ops Q (op :: rest) a w :=
  wb_partA H hw i ty x ho g o hx c t hl d hu hd n hi vs hvs hn h
end
set_option maxHeartbeats 4000000 in
theorem foldSame (s u : Ste) (sl sl' : Value) (w0 : World) (hs : s.wf) (hu : u.wf) (hin : ShotsW w0 sl s.g.L) (hin' : ShotsW w0 sl' u.g.L) (hm : s.g.L.length ≤ 1000) :
    Calls Try.prog 9 #[.agg (stateC s sl), .agg (stateC u sl')] w0 fun e w' => SameOut (s = u) e ∧ Below w0.heap.size w0 w' := by
  have HSG := Lib.hid (fun w h h' => gameSame s.g u.g sl sl' w hs.g hu.g h h' hm)
  have HE := Lib.hid (fun W => eq33w W s.ver u.ver s.T u.T hs.t8 hu.t8 hs.ver hu.ver hs.seats hu.seats)
  have HI1 := Lib.hid hin
  have HI2 := Lib.hid hin'
  have HG1 := Lib.hid (fun j v h => sc_game (s := s) (sl := sl) j v h)
  have HG2 := Lib.hid (fun j v h => sc_game (s := u) (sl := sl') j v h)
  have HO1 := Lib.hid (fun j v h => sc_roster (s := s) (sl := sl) hs.g.s8 j v h)
  have HO2 := Lib.hid (fun j v h => sc_roster (s := u) (sl := sl') hu.g.s8 j v h)
  have Hgs1 := Lib.hid (gc_size (fr := s.g.fr) (d := s.g.d) (sl := sl) hs.g.s8)
  have Hgs2 := Lib.hid (gc_size (fr := u.g.fr) (d := u.g.d) (sl := sl') hu.g.s8)
  have Hrs1 := Lib.hid (rc_size (ver := s.ver) hs.t8)
  have Hrs2 := Lib.hid (rc_size (ver := u.ver) hu.t8)
  have H := Sb.start w0
  obtain ⟨m, hmm⟩ : ∃ m : Prop, (s = u) = m := ⟨_, rfl⟩
  rw [hmm]
  have HM := Lib.hid (show m ↔ s.g = u.g ∧ s.ver = u.ver ∧ s.T = u.T by rw [← hmm]; exact ste_eq)
  clear hmm hs hu hin hin' hm
  generalize stateC s sl = A at *
  generalize stateC u sl' = B at *
  go_enter Try.func9, Try.ntmps9
  by_cases e2 : s.ver = u.ver ∧ s.T = u.T
  · have he : ∀ W, (Op.equalIn 10000 38 (.agg (rosterC s.ver s.T)) (.agg (rosterC u.ver u.T))).run Try.prog W = .ok true W := fun W => by
      obtain ⟨r, hr, hi⟩ := HE.out W
      rw [hi.2 e2] at hr
      exact hr
    have E2 := Lib.hid e2
    clear HE e2
    generalize rosterC s.ver s.T = RA at *
    generalize rosterC u.ver u.T = RB at *
    go_wp2_with (first | (refine wb_box H rfl 40 _ rfl A rfl ?_; clear H; intro b2 w H) | (refine wb_box H rfl 40 _ rfl B rfl ?_; clear H; intro b3 w H) | (refine wb_partAL 38 _ rfl H rfl 1 _ 59 rfl _ _ rfl _ Try.underlying38 rfl 17 info33 RA HO1.out Hrs1.out ?_) | (refine wb_partAL 38 _ rfl H rfl 0 _ 59 rfl _ _ rfl _ Try.underlying38 rfl 17 info33 RB HO2.out Hrs2.out ?_) | (refine wb_partAL 33 _ rfl H rfl 1 _ 0 rfl _ _ rfl _ Try.underlying33 rfl 59 info28 (gameC s.g.fr s.g.d s.g.S sl) (fun j v h => by rw [Nat.zero_add]; exact HG1.out j v h) Hgs1.out ?_) | (refine wb_partAL 33 _ rfl H rfl 0 _ 0 rfl _ _ rfl _ Try.underlying33 rfl 59 info28 (gameC u.g.fr u.g.d u.g.S sl') (fun j v h => by rw [Nat.zero_add]; exact HG2.out j v h) Hgs2.out ?_))
    refine (HSG.out _ (HI1.out.later H.below) (HI2.out.later H.below)).mono ?_
    rintro e w' ⟨⟨r, rfl, hi⟩, hb⟩
    replace H := H.call hb
    have Hi := Lib.hid hi
    clear hb hi
    cases r with
    | false =>
      go_wp2_with fail
      go_ret
      exact ⟨sameNo (fun h => by have := Hi.out.2 (HM.out.1 h).1; cases this) rfl, H.below⟩
    | true =>
      go_wp2_with fail
      go_ret
      exact ⟨sameYes (HM.out.2 ⟨Hi.out.1 trivial, E2.out⟩) rfl, H.below⟩
  · have he : ∀ W, (Op.equalIn 10000 38 (.agg (rosterC s.ver s.T)) (.agg (rosterC u.ver u.T))).run Try.prog W = .ok false W := fun W => by
      obtain ⟨r, hr, hi⟩ := HE.out W
      cases r with
      | true => exact absurd (hi.1 rfl) e2
      | false => exact hr
    have HMf : Hid (¬ m) := Lib.hid (fun h => e2 (HM.out.1 h).2)
    clear HE e2 HM
    generalize rosterC s.ver s.T = RA at *
    generalize rosterC u.ver u.T = RB at *
    go_wp2_with (first | (refine wb_box H rfl 40 _ rfl A rfl ?_; clear H; intro b2 w H) | (refine wb_box H rfl 40 _ rfl B rfl ?_; clear H; intro b3 w H) | (refine wb_partAL 38 _ rfl H rfl 1 _ 59 rfl _ _ rfl _ Try.underlying38 rfl 17 info33 RA HO1.out Hrs1.out ?_) | (refine wb_partAL 38 _ rfl H rfl 0 _ 59 rfl _ _ rfl _ Try.underlying38 rfl 17 info33 RB HO2.out Hrs2.out ?_) | (refine wb_partAL 33 _ rfl H rfl 1 _ 0 rfl _ _ rfl _ Try.underlying33 rfl 59 info28 (gameC s.g.fr s.g.d s.g.S sl) (fun j v h => by rw [Nat.zero_add]; exact HG1.out j v h) Hgs1.out ?_) | (refine wb_partAL 33 _ rfl H rfl 0 _ 0 rfl _ _ rfl _ Try.underlying33 rfl 59 info28 (gameC u.g.fr u.g.d u.g.S sl') (fun j v h => by rw [Nat.zero_add]; exact HG2.out j v h) Hgs2.out ?_))
    go_ret
    exact ⟨sameNo HMf.out rfl, H.below⟩
end Go.Proofs.Ytdopfonebpklkaa.game
namespace Go.Proofs.Ytdopfonebpklkaa.game
open Go.ChangeShapes Go.WideShapes Go.ChangeAt Go.RowKit dice
set_option maxRecDepth 100000

theorem rin_b (a : Int) (w : World) : Calls Try.prog 27 #[.int .i32 a] w fun e w' => e = .returned (.bool (onB a)) ∧ w = w' := by
  by_cases h : 0 ≤ a
  · by_cases h' : a < 16777216
    · rw [show onB a = true by simp [onB, h, h']]; exact rin_any a w h h'
    · rw [show onB a = false by simp [onB, h']]
      have h' : 16777216 ≤ a := by omega
      go_enter Try.func27, Try.ntmps27
      go_wp2
      go_ret
      exact ⟨rfl, rfl⟩
  · rw [show onB a = false by simp [onB, h]]
    have h : a < 0 := by omega
    go_enter Try.func27, Try.ntmps27
    go_wp2
    go_ret
    exact ⟨rfl, rfl⟩
theorem rslow_b (a m : Int) (w : World) (hm : m = 524288 ∨ m = 393216) : Calls Try.prog 28 #[.int .i32 a, .int .i32 m] w fun e w' => e = .returned (.bool (sizeB a m)) ∧ w = w' := by
  by_cases h : -m ≤ a
  · by_cases h' : a ≤ m
    · rw [show sizeB a m = true by simp [sizeB, h, h']]
      exact rslow_any a m w hm h h'
    · rw [show sizeB a m = false by simp [sizeB, h']]
      have h' : m < a := by omega
      rcases hm with rfl | rfl <;>
      · go_enter Try.func28, Try.ntmps28
        go_wp2
        go_ret
        exact ⟨rfl, rfl⟩
  · rw [show sizeB a m = false by simp [sizeB, h]]
    have h : a < -m := by omega
    rcases hm with rfl | rfl <;>
    · go_enter Try.func28, Try.ntmps28
      go_wp2
      go_ret
      exact ⟨rfl, rfl⟩
theorem may_ship {fr d : Int} {S : List Shp} {L : List Sht} (h : S.all Shp.may = false) : Gme.may ⟨fr, d, S, L⟩ = false := by
  simp [Gme.may, h]
theorem may_shot {fr d : Int} {S : List Shp} {L : List Sht} (h : L.all Sht.may = false) : Gme.may ⟨fr, d, S, L⟩ = false := by
  simp [Gme.may, h]
theorem info79w : (Try.prog.info? 75).map (·.size) = some 6 := by kernel_rfl
set_option maxHeartbeats 8000000 in
theorem rmayG_b (g : Gme) (sl : Value) (w0' : World) (hg : g.wf) (hin : ShotsW w0' sl g.L) :
    Calls Try.prog 16 #[.agg (gameC g.fr g.d g.S sl)] w0' fun e w' => e = .returned (.bool g.may) ∧ Below w0'.heap.size w0' w' := by
  obtain ⟨ad, c, rfl⟩ := hin.form
  have HS := Lib.hid hg.s8
  have HO := Lib.hid hg.ships
  have HI := Lib.hid hin
  have H := Sb.start w0'
  clear hg hin
  obtain ⟨fr, d, S, L⟩ := g
  dsimp only at *
  have Hs58 := Lib.hid (gc_shots (fr := fr) (d := d) (S := S) (sl := .slice ad L.length c) HS.out)
  have H00 : Hid ((gameC fr d S (.slice ad L.length c))[0]? = some (.int .i64 fr)) := Lib.hid rfl
  have HAT := Lib.hid (fun k j t v ht hv => gc_at (fr := fr) (d := d) (S := S) (sl := .slice ad L.length c) k j t v ht hv)
  obtain ⟨m, hmay⟩ : ∃ m, Gme.may ⟨fr, d, S, L⟩ = m := ⟨_, rfl⟩
  rw [hmay]
  have HMay := Lib.hid hmay
  clear hmay
  generalize gameC fr d S (.slice ad L.length c) = cs at *
  by_cases hA : 0 ≤ fr ∧ fr ≤ 1048576 ∧ L.length ≤ 32
  rotate_left
  · have hf : m = false := by
      rw [← HMay.out]
      simp only [Gme.may]
      by_cases h1 : 0 ≤ fr
      · by_cases h2 : fr ≤ 1048576
        · have h3 : ¬ L.length ≤ 32 := fun h => hA ⟨h1, h2, h⟩
          simp [h3]
        · simp [h2]
      · simp [h1]
    subst hf
    by_cases h1 : 0 ≤ fr
    · by_cases h2 : fr ≤ 1048576
      · have q0 : decide (fr < 0) = false := decide_eq_false (by omega)
        have q1 : decide (1048576 < fr) = false := decide_eq_false (by omega)
        have q2 : decide (32 < (L.length : Int)) = true := decide_eq_true (by omega)
        go_enter Try.func16, Try.ntmps16
        go_wp2_with (first | (refine wb_box H rfl 33 _ rfl cs rfl ?_; clear H; intro b1 w H) | (refine wb_cell H rfl 0 3 _ rfl _ 0 rfl _ _ rfl Try.isAgg3 (.int .i64 fr) H00.out ?_) | (refine wb_cell H rfl 0 31 _ rfl _ 58 rfl _ _ rfl Try.isAgg31 (.slice ad L.length c) Hs58.out ?_))
        go_ret
        exact ⟨rfl, H.below⟩
      · have q0 : decide (fr < 0) = false := decide_eq_false (by omega)
        have q1 : decide (1048576 < fr) = true := decide_eq_true (by omega)
        go_enter Try.func16, Try.ntmps16
        go_wp2_with (first | (refine wb_box H rfl 33 _ rfl cs rfl ?_; clear H; intro b1 w H) | (refine wb_cell H rfl 0 3 _ rfl _ 0 rfl _ _ rfl Try.isAgg3 (.int .i64 fr) H00.out ?_) | (refine wb_cell H rfl 0 31 _ rfl _ 58 rfl _ _ rfl Try.isAgg31 (.slice ad L.length c) Hs58.out ?_))
        go_ret
        exact ⟨rfl, H.below⟩
    · have q0 : decide (fr < 0) = true := decide_eq_true (by omega)
      go_enter Try.func16, Try.ntmps16
      go_wp2_with (first | (refine wb_box H rfl 33 _ rfl cs rfl ?_; clear H; intro b1 w H) | (refine wb_cell H rfl 0 3 _ rfl _ 0 rfl _ _ rfl Try.isAgg3 (.int .i64 fr) H00.out ?_) | (refine wb_cell H rfl 0 31 _ rfl _ 58 rfl _ _ rfl Try.isAgg31 (.slice ad L.length c) Hs58.out ?_))
      go_ret
      exact ⟨rfl, H.below⟩
  obtain ⟨h1, h2, h3⟩ := hA
  have HFR := Lib.hid (And.intro h1 h2)
  have h3' : (L.length : Int) ≤ 32 := by omega
  have q0 : decide (fr < 0) = false := decide_eq_false (by omega)
  have q1 : decide (1048576 < fr) = false := decide_eq_false (by omega)
  have q2 : decide (32 < (L.length : Int)) = false := decide_eq_false (by omega)
  go_enter Try.func16, Try.ntmps16
  go_wp2_with (first | (refine wb_box H rfl 33 _ rfl cs rfl ?_; clear H; intro b1 w H) | (refine wb_cell H rfl 0 3 _ rfl _ 0 rfl _ _ rfl Try.isAgg3 (.int .i64 fr) H00.out ?_) | (refine wb_cell H rfl 0 31 _ rfl _ 58 rfl _ _ rfl Try.isAgg31 (.slice ad L.length c) Hs58.out ?_))
  have H' := Lib.hid H
  clear H h1 h2 q0 q1 q2
  go_loopw [3] (fun i W => ∃ k : Nat, k ≤ 8 ∧ i = .int .i64 k ∧ Hid (Sb [] w0' W [(b1, cs, 33)] []) ∧ Hid ((S.take k).all Shp.may = true)) (fun i _ => 8 - (intOf i).toNat)
  case atStart => exact ⟨0, Nat.zero_le _, rfl, H', Lib.hid rfl⟩
  case round =>
    clear H'
    obtain ⟨k, hk, rfl, HB, HA⟩ := hrel
    by_cases hlt : k < 8
    · obtain ⟨t, ht⟩ : ∃ t, S[k]? = some t := ⟨S[k]'(by rw [HS.out]; exact hlt), List.getElem?_eq_getElem _⟩
      have hwf := HO.out t (List.mem_of_getElem? ht)
      have CX := Lib.hid (fun (j : Nat) (v : Value) hv => HAT.out k j t v ht hv)
      have Ht := Lib.hid ht
      have HE := Lib.hid (fun W => eq24 W t hwf)
      have H := HB.out
      clear HB ht hwf
      obtain ⟨o, x, y, vx, vy, cl, sc⟩ := t
      have I1 := Lib.hid (fun w => rin_b x w)
      have I2 := Lib.hid (fun w => rin_b y w)
      have I3 := Lib.hid (fun w => rslow_b vx 524288 w (.inl rfl))
      have I4 := Lib.hid (fun w => rslow_b vy 524288 w (.inl rfl))
      cases o
      · have HE2 := HE.out
        simp only [shipL, zShp, and_true] at HE2
        by_cases hz : x = 0 ∧ y = 0 ∧ vx = 0 ∧ vy = 0 ∧ cl = 0 ∧ sc = 0
        · have HMt : Hid (Shp.may ⟨false, x, y, vx, vy, cl, sc⟩ = true) := Lib.hid (by simp [Shp.may, hz])
          obtain ⟨rfl, rfl, rfl, rfl, rfl, rfl⟩ := hz
          have HE3 : ∀ (W : World), (Op.equalIn 10000 29 (.agg #[.bool false, .int .i32 0, .int .i32 0, .int .i32 0, .int .i32 0, .int .i64 0, .int .i64 0]) (.agg #[.bool false, .int .i32 0, .int .i32 0, .int .i32 0, .int .i32 0, .int .i64 0, .int .i64 0])).run Try.prog W = .ok true W := fun W => by rw [HE2 W]; rfl
          clear HE2 HE
          go_wp2_with (first | (refine wb_part H rfl 0 29 _ rfl _ (2 + k * 7) rfl _ _ rfl _ Try.underlying29 rfl 7 info24 [.bool false, .int .i32 0, .int .i32 0, .int .i32 0, .int .i32 0, .int .i64 0, .int .i64 0] CX.out rfl ?_) | (refine wb_alloc H rfl 29 rfl _ Try.zeroValue29 ?_; clear H; intro b4 w H) | (refine wb_put H rfl 0 29 _ _ rfl _ 0 rfl _ _ rfl (.agg #[.bool false, .int .i32 0, .int .i32 0, .int .i32 0, .int .i32 0, .int .i64 0, .int .i64 0]) rfl 7 info24 rfl (Nat.le_of_ble_eq_true rfl) rfl #[.bool false, .int .i32 0, .int .i32 0, .int .i32 0, .int .i32 0, .int .i64 0, .int .i64 0] rfl ?_; clear H; intro w H) | (refine wb_cell H rfl 0 4 _ rfl _ 0 rfl _ _ rfl Try.isAgg4 (.bool false) rfl ?_) | (refine wb_whole H rfl 0 29 _ rfl _ rfl #[.bool false, .int .i32 0, .int .i32 0, .int .i32 0, .int .i32 0, .int .i64 0, .int .i64 0] rfl _ Try.underlying29 rfl 7 info24 rfl ?_) | (refine wb_cell H rfl 0 21 _ rfl _ 1 rfl _ _ rfl Try.isAgg21 (.int .i32 0) rfl ?_))
          refine (I1.out _).mono ?_; rintro e w' ⟨rfl, rfl⟩
          rw [show onB 0 = true from rfl]
          go_wp2_with (refine wb_cell H rfl 0 21 _ rfl _ 2 rfl _ _ rfl Try.isAgg21 (.int .i32 0) rfl ?_)
          refine (I2.out _).mono ?_; rintro e w' ⟨rfl, rfl⟩
          rw [show onB 0 = true from rfl]
          go_wp2_with (refine wb_cell H rfl 0 21 _ rfl _ 3 rfl _ _ rfl Try.isAgg21 (.int .i32 0) rfl ?_)
          refine (I3.out _).mono ?_; rintro e w' ⟨rfl, rfl⟩
          rw [show sizeB 0 524288 = true from rfl]
          go_wp2_with (refine wb_cell H rfl 0 21 _ rfl _ 4 rfl _ _ rfl Try.isAgg21 (.int .i32 0) rfl ?_)
          refine (I4.out _).mono ?_; rintro e w' ⟨rfl, rfl⟩
          rw [show sizeB 0 524288 = true from rfl]
          go_wp2_with (first | (refine wb_cell H rfl 0 3 _ rfl _ 5 rfl _ _ rfl Try.isAgg3 (.int .i64 0) rfl ?_) | (refine wb_cell H rfl 0 3 _ rfl _ 6 rfl _ _ rfl Try.isAgg3 (.int .i64 0) rfl ?_))
          have H2 : Sb [] w0' w [(b4, #[.bool false, .int .i32 0, .int .i32 0, .int .i32 0, .int .i32 0, .int .i64 0, .int .i64 0], 29), (b1, cs, 33)] [] := H
          exact ⟨⟨k + 1, hlt, rfl, Lib.hid H2.tail, Lib.hid (all_take HA.out Ht.out HMt.out)⟩, by simp only [intOf]; omega⟩
        · have HMt : Hid (Shp.may ⟨false, x, y, vx, vy, cl, sc⟩ = false) := Lib.hid (by simp only [Shp.may, Bool.false_eq_true, if_false, decide_eq_false_iff_not]; exact hz)
          have HE3 : ∀ (W : World), (Op.equalIn 10000 29 (.agg #[.bool false, .int .i32 x, .int .i32 y, .int .i32 vx, .int .i32 vy, .int .i64 cl, .int .i64 sc]) (.agg #[.bool false, .int .i32 0, .int .i32 0, .int .i32 0, .int .i32 0, .int .i64 0, .int .i64 0])).run Try.prog W = .ok false W := fun W => by rw [HE2 W, decide_eq_false hz]
          clear HE2 HE hz
          go_wp2_with (first | (refine wb_part H rfl 0 29 _ rfl _ (2 + k * 7) rfl _ _ rfl _ Try.underlying29 rfl 7 info24 [.bool false, .int .i32 x, .int .i32 y, .int .i32 vx, .int .i32 vy, .int .i64 cl, .int .i64 sc] CX.out rfl ?_) | (refine wb_alloc H rfl 29 rfl _ Try.zeroValue29 ?_; clear H; intro b4 w H) | (refine wb_put H rfl 0 29 _ _ rfl _ 0 rfl _ _ rfl (.agg #[.bool false, .int .i32 x, .int .i32 y, .int .i32 vx, .int .i32 vy, .int .i64 cl, .int .i64 sc]) rfl 7 info24 rfl (Nat.le_of_ble_eq_true rfl) rfl #[.bool false, .int .i32 x, .int .i32 y, .int .i32 vx, .int .i32 vy, .int .i64 cl, .int .i64 sc] rfl ?_; clear H; intro w H) | (refine wb_cell H rfl 0 4 _ rfl _ 0 rfl _ _ rfl Try.isAgg4 (.bool false) rfl ?_) | (refine wb_whole H rfl 0 29 _ rfl _ rfl #[.bool false, .int .i32 x, .int .i32 y, .int .i32 vx, .int .i32 vy, .int .i64 cl, .int .i64 sc] rfl _ Try.underlying29 rfl 7 info24 rfl ?_) | (refine wb_cell H rfl 0 21 _ rfl _ 1 rfl _ _ rfl Try.isAgg21 (.int .i32 x) rfl ?_))
          go_ret
          exact ⟨by rw [← HMay.out, may_ship (all_not Ht.out HMt.out)]; rfl, H.below⟩
      · clear HE
        go_wp2_with (first | (refine wb_part H rfl 0 29 _ rfl _ (2 + k * 7) rfl _ _ rfl _ Try.underlying29 rfl 7 info24 [.bool true, .int .i32 x, .int .i32 y, .int .i32 vx, .int .i32 vy, .int .i64 cl, .int .i64 sc] CX.out rfl ?_) | (refine wb_alloc H rfl 29 rfl _ Try.zeroValue29 ?_; clear H; intro b4 w H) | (refine wb_put H rfl 0 29 _ _ rfl _ 0 rfl _ _ rfl (.agg #[.bool true, .int .i32 x, .int .i32 y, .int .i32 vx, .int .i32 vy, .int .i64 cl, .int .i64 sc]) rfl 7 info24 rfl (Nat.le_of_ble_eq_true rfl) rfl #[.bool true, .int .i32 x, .int .i32 y, .int .i32 vx, .int .i32 vy, .int .i64 cl, .int .i64 sc] rfl ?_; clear H; intro w H) | (refine wb_cell H rfl 0 4 _ rfl _ 0 rfl _ _ rfl Try.isAgg4 (.bool true) rfl ?_) | (refine wb_whole H rfl 0 29 _ rfl _ rfl #[.bool true, .int .i32 x, .int .i32 y, .int .i32 vx, .int .i32 vy, .int .i64 cl, .int .i64 sc] rfl _ Try.underlying29 rfl 7 info24 rfl ?_) | (refine wb_cell H rfl 0 21 _ rfl _ 1 rfl _ _ rfl Try.isAgg21 (.int .i32 x) rfl ?_))
        refine (I1.out _).mono ?_; rintro e w' ⟨rfl, rfl⟩
        cases q1 : onB x
        · have HMt : Hid (Shp.may ⟨true, x, y, vx, vy, cl, sc⟩ = false) := Lib.hid (by simp [Shp.may, q1])
          go_wp2_with fail
          go_ret
          exact ⟨by rw [← HMay.out, may_ship (all_not Ht.out HMt.out)]; rfl, H.below⟩
        go_wp2_with (refine wb_cell H rfl 0 21 _ rfl _ 2 rfl _ _ rfl Try.isAgg21 (.int .i32 y) rfl ?_)
        refine (I2.out _).mono ?_; rintro e w' ⟨rfl, rfl⟩
        cases q2 : onB y
        · have HMt : Hid (Shp.may ⟨true, x, y, vx, vy, cl, sc⟩ = false) := Lib.hid (by simp [Shp.may, q1, q2])
          go_wp2_with fail
          go_ret
          exact ⟨by rw [← HMay.out, may_ship (all_not Ht.out HMt.out)]; rfl, H.below⟩
        go_wp2_with (refine wb_cell H rfl 0 21 _ rfl _ 3 rfl _ _ rfl Try.isAgg21 (.int .i32 vx) rfl ?_)
        refine (I3.out _).mono ?_; rintro e w' ⟨rfl, rfl⟩
        cases q3 : sizeB vx 524288
        · have HMt : Hid (Shp.may ⟨true, x, y, vx, vy, cl, sc⟩ = false) := Lib.hid (by simp [Shp.may, q1, q2, q3])
          go_wp2_with fail
          go_ret
          exact ⟨by rw [← HMay.out, may_ship (all_not Ht.out HMt.out)]; rfl, H.below⟩
        go_wp2_with (refine wb_cell H rfl 0 21 _ rfl _ 4 rfl _ _ rfl Try.isAgg21 (.int .i32 vy) rfl ?_)
        refine (I4.out _).mono ?_; rintro e w' ⟨rfl, rfl⟩
        cases q4 : sizeB vy 524288
        · have HMt : Hid (Shp.may ⟨true, x, y, vx, vy, cl, sc⟩ = false) := Lib.hid (by simp [Shp.may, q1, q2, q3, q4])
          go_wp2_with fail
          go_ret
          exact ⟨by rw [← HMay.out, may_ship (all_not Ht.out HMt.out)]; rfl, H.below⟩
        by_cases c0 : 0 ≤ cl
        rotate_left
        · have HMt : Hid (Shp.may ⟨true, x, y, vx, vy, cl, sc⟩ = false) := Lib.hid (by simp [Shp.may, c0])
          have c0' : decide (cl < 0) = true := decide_eq_true (by omega)
          go_wp2_with (first | (refine wb_cell H rfl 0 3 _ rfl _ 5 rfl _ _ rfl Try.isAgg3 (.int .i64 cl) rfl ?_) | (refine wb_cell H rfl 0 3 _ rfl _ 6 rfl _ _ rfl Try.isAgg3 (.int .i64 sc) rfl ?_))
          go_ret
          exact ⟨by rw [← HMay.out, may_ship (all_not Ht.out HMt.out)]; rfl, H.below⟩
        have c0' : decide (cl < 0) = false := decide_eq_false (by omega)
        by_cases c1 : cl ≤ 10
        rotate_left
        · have HMt : Hid (Shp.may ⟨true, x, y, vx, vy, cl, sc⟩ = false) := Lib.hid (by simp [Shp.may, c1])
          have c1' : decide (10 < cl) = true := decide_eq_true (by omega)
          go_wp2_with (first | (refine wb_cell H rfl 0 3 _ rfl _ 5 rfl _ _ rfl Try.isAgg3 (.int .i64 cl) rfl ?_) | (refine wb_cell H rfl 0 3 _ rfl _ 6 rfl _ _ rfl Try.isAgg3 (.int .i64 sc) rfl ?_))
          go_ret
          exact ⟨by rw [← HMay.out, may_ship (all_not Ht.out HMt.out)]; rfl, H.below⟩
        have c1' : decide (10 < cl) = false := decide_eq_false (by omega)
        by_cases c2 : 0 ≤ sc
        rotate_left
        · have HMt : Hid (Shp.may ⟨true, x, y, vx, vy, cl, sc⟩ = false) := Lib.hid (by simp [Shp.may, c2])
          have c2' : decide (sc < 0) = true := decide_eq_true (by omega)
          go_wp2_with (first | (refine wb_cell H rfl 0 3 _ rfl _ 5 rfl _ _ rfl Try.isAgg3 (.int .i64 cl) rfl ?_) | (refine wb_cell H rfl 0 3 _ rfl _ 6 rfl _ _ rfl Try.isAgg3 (.int .i64 sc) rfl ?_))
          go_ret
          exact ⟨by rw [← HMay.out, may_ship (all_not Ht.out HMt.out)]; rfl, H.below⟩
        have c2' : decide (sc < 0) = false := decide_eq_false (by omega)
        by_cases c3 : sc ≤ 1073741824
        rotate_left
        · have HMt : Hid (Shp.may ⟨true, x, y, vx, vy, cl, sc⟩ = false) := Lib.hid (by simp [Shp.may, c3])
          have c3' : decide (1073741824 < sc) = true := decide_eq_true (by omega)
          go_wp2_with (first | (refine wb_cell H rfl 0 3 _ rfl _ 5 rfl _ _ rfl Try.isAgg3 (.int .i64 cl) rfl ?_) | (refine wb_cell H rfl 0 3 _ rfl _ 6 rfl _ _ rfl Try.isAgg3 (.int .i64 sc) rfl ?_))
          go_ret
          exact ⟨by rw [← HMay.out, may_ship (all_not Ht.out HMt.out)]; rfl, H.below⟩
        have c3' : decide (1073741824 < sc) = false := decide_eq_false (by omega)
        have HMt : Hid (Shp.may ⟨true, x, y, vx, vy, cl, sc⟩ = true) := Lib.hid (by simp [Shp.may, q1, q2, q3, q4, c0, c1, c2, c3])
        go_wp2_with (first | (refine wb_cell H rfl 0 3 _ rfl _ 5 rfl _ _ rfl Try.isAgg3 (.int .i64 cl) rfl ?_) | (refine wb_cell H rfl 0 3 _ rfl _ 6 rfl _ _ rfl Try.isAgg3 (.int .i64 sc) rfl ?_))
        have H2 : Sb [] w0' w [(b4, #[.bool true, .int .i32 x, .int .i32 y, .int .i32 vx, .int .i32 vy, .int .i64 cl, .int .i64 sc], 29), (b1, cs, 33)] [] := H
        exact ⟨⟨k + 1, hlt, rfl, Lib.hid H2.tail, Lib.hid (all_take HA.out Ht.out HMt.out)⟩, by simp only [intOf]; omega⟩
    · obtain rfl : k = 8 := by omega
      rw [show ((8 : Nat) : Int) = 8 from rfl]
      have hS : S.all Shp.may = true := by have := HA.out; rw [← HS.out, List.take_length] at this; exact this
      have HSm := Lib.hid hS
      clear hS HA
      go_wp2_with fail
      go_loopw [5] (fun i W => ∃ k : Nat, k ≤ L.length ∧ i = .int .i64 k ∧ Hid (Sb [] w0' W [(b1, cs, 33)] []) ∧ Hid ((L.take k).all Sht.may = true)) (fun i _ => L.length - (intOf i).toNat)
      case atStart => exact ⟨0, Nat.zero_le _, rfl, HB, Lib.hid rfl⟩
      case round =>
        clear HB
        obtain ⟨k, hk, rfl, HB, HA⟩ := hrel
        by_cases hlt : k < L.length
        · obtain ⟨gi, oi, had, hgi, hcs⟩ : ∃ gi oi, ad = some ⟨gi, oi, none⟩ ∧ gi < w0'.heap.size ∧ ∀ j v, (cellsL L)[j]? = some v → w0'.cell? ⟨gi, oi + j, none⟩ = some v := by
            rcases HI.out with ⟨e, _⟩ | ⟨gi, oi, c', e, hgi, hc⟩
            · rw [e] at hlt; exact absurd hlt (Nat.not_lt_zero _)
            · injection e with e1 e2 e3
              exact ⟨gi, oi, e1, hgi, hc⟩
          subst had
          obtain ⟨s, hs⟩ : ∃ s, L[k]? = some s := ⟨L[k], List.getElem?_eq_getElem hlt⟩
          have hA : ShotAt wr gi (oi + k * 6) s := shot_at (fun j v hv => (World.cell?_of_block (HB.out.fr gi hgi (by simp))).trans (hcs j v hv)) k s hs
          have Hs := Lib.hid hs
          have H := HB.out
          clear HB hs hcs
          obtain ⟨o, x, y, vx, vy, lf⟩ := s
          obtain ⟨p0, p1, p2, p3, p4, p5⟩ := hA
          have I1 := Lib.hid (fun w => rin_b x w)
          have I2 := Lib.hid (fun w => rin_b y w)
          have I3 := Lib.hid (fun w => rslow_b vx 393216 w (.inr rfl))
          have I4 := Lib.hid (fun w => rslow_b vy 393216 w (.inr rfl))
          dsimp only at p0 p1 p2 p3 p4 p5
          by_cases c0 : 0 ≤ o
          rotate_left
          · have HMt : Hid (Sht.may ⟨o, x, y, vx, vy, lf⟩ = false) := Lib.hid (by simp only [Sht.may, decide_eq_false c0, Bool.false_and])
            have c0' : decide (o < 0) = true := decide_eq_true (by omega)
            go_wp2_with (first | (refine wb_cell H rfl 0 31 _ rfl _ 58 rfl _ _ rfl Try.isAgg31 (.slice (some ⟨gi, oi, none⟩) L.length c) Hs58.out ?_) | (refine wb_alloc H rfl 75 rfl _ Try.zeroValue75 ?_; clear H; intro b6 w H) | (refine wb_put H rfl 0 75 _ _ rfl _ 0 rfl _ _ rfl (.agg #[.int .i64 o, .int .i32 x, .int .i32 y, .int .i32 vx, .int .i32 vy, .int .i64 lf]) rfl 6 info79w rfl (Nat.le_of_ble_eq_true rfl) rfl #[.int .i64 o, .int .i32 x, .int .i32 y, .int .i32 vx, .int .i32 vy, .int .i64 lf] rfl ?_; clear H; intro w H) | (refine wb_cell H rfl 0 3 _ rfl _ 0 rfl _ _ rfl Try.isAgg3 (.int .i64 o) rfl ?_) | (refine wb_cell H rfl 0 21 _ rfl _ 1 rfl _ _ rfl Try.isAgg21 (.int .i32 x) rfl ?_))
            go_ret
            exact ⟨by rw [← HMay.out, may_shot (all_not Hs.out HMt.out)]; rfl, H.below⟩
          have c0' : decide (o < 0) = false := decide_eq_false (by omega)
          by_cases c1 : o < 8
          rotate_left
          · have HMt : Hid (Sht.may ⟨o, x, y, vx, vy, lf⟩ = false) := Lib.hid (by simp only [Sht.may, decide_eq_false c1, Bool.and_false, Bool.false_and])
            have c1' : decide (8 ≤ o) = true := decide_eq_true (by omega)
            go_wp2_with (first | (refine wb_cell H rfl 0 31 _ rfl _ 58 rfl _ _ rfl Try.isAgg31 (.slice (some ⟨gi, oi, none⟩) L.length c) Hs58.out ?_) | (refine wb_alloc H rfl 75 rfl _ Try.zeroValue75 ?_; clear H; intro b6 w H) | (refine wb_put H rfl 0 75 _ _ rfl _ 0 rfl _ _ rfl (.agg #[.int .i64 o, .int .i32 x, .int .i32 y, .int .i32 vx, .int .i32 vy, .int .i64 lf]) rfl 6 info79w rfl (Nat.le_of_ble_eq_true rfl) rfl #[.int .i64 o, .int .i32 x, .int .i32 y, .int .i32 vx, .int .i32 vy, .int .i64 lf] rfl ?_; clear H; intro w H) | (refine wb_cell H rfl 0 3 _ rfl _ 0 rfl _ _ rfl Try.isAgg3 (.int .i64 o) rfl ?_) | (refine wb_cell H rfl 0 21 _ rfl _ 1 rfl _ _ rfl Try.isAgg21 (.int .i32 x) rfl ?_))
            go_ret
            exact ⟨by rw [← HMay.out, may_shot (all_not Hs.out HMt.out)]; rfl, H.below⟩
          have c1' : decide (8 ≤ o) = false := decide_eq_false (by omega)
          go_wp2_with (first | (refine wb_cell H rfl 0 31 _ rfl _ 58 rfl _ _ rfl Try.isAgg31 (.slice (some ⟨gi, oi, none⟩) L.length c) Hs58.out ?_) | (refine wb_alloc H rfl 75 rfl _ Try.zeroValue75 ?_; clear H; intro b6 w H) | (refine wb_put H rfl 0 75 _ _ rfl _ 0 rfl _ _ rfl (.agg #[.int .i64 o, .int .i32 x, .int .i32 y, .int .i32 vx, .int .i32 vy, .int .i64 lf]) rfl 6 info79w rfl (Nat.le_of_ble_eq_true rfl) rfl #[.int .i64 o, .int .i32 x, .int .i32 y, .int .i32 vx, .int .i32 vy, .int .i64 lf] rfl ?_; clear H; intro w H) | (refine wb_cell H rfl 0 3 _ rfl _ 0 rfl _ _ rfl Try.isAgg3 (.int .i64 o) rfl ?_) | (refine wb_cell H rfl 0 21 _ rfl _ 1 rfl _ _ rfl Try.isAgg21 (.int .i32 x) rfl ?_))
          refine (I1.out _).mono ?_; rintro e w' ⟨rfl, rfl⟩
          cases q1 : onB x
          · have HMt : Hid (Sht.may ⟨o, x, y, vx, vy, lf⟩ = false) := Lib.hid (by simp only [Sht.may, q1, Bool.and_false, Bool.false_and])
            go_wp2_with fail
            go_ret
            exact ⟨by rw [← HMay.out, may_shot (all_not Hs.out HMt.out)]; rfl, H.below⟩
          go_wp2_with (refine wb_cell H rfl 0 21 _ rfl _ 2 rfl _ _ rfl Try.isAgg21 (.int .i32 y) rfl ?_)
          refine (I2.out _).mono ?_; rintro e w' ⟨rfl, rfl⟩
          cases q2 : onB y
          · have HMt : Hid (Sht.may ⟨o, x, y, vx, vy, lf⟩ = false) := Lib.hid (by simp only [Sht.may, q2, Bool.and_false, Bool.false_and])
            go_wp2_with fail
            go_ret
            exact ⟨by rw [← HMay.out, may_shot (all_not Hs.out HMt.out)]; rfl, H.below⟩
          go_wp2_with (refine wb_cell H rfl 0 21 _ rfl _ 3 rfl _ _ rfl Try.isAgg21 (.int .i32 vx) rfl ?_)
          refine (I3.out _).mono ?_; rintro e w' ⟨rfl, rfl⟩
          cases q3 : sizeB vx 393216
          · have HMt : Hid (Sht.may ⟨o, x, y, vx, vy, lf⟩ = false) := Lib.hid (by simp only [Sht.may, q3, Bool.and_false, Bool.false_and])
            go_wp2_with fail
            go_ret
            exact ⟨by rw [← HMay.out, may_shot (all_not Hs.out HMt.out)]; rfl, H.below⟩
          go_wp2_with (refine wb_cell H rfl 0 21 _ rfl _ 4 rfl _ _ rfl Try.isAgg21 (.int .i32 vy) rfl ?_)
          refine (I4.out _).mono ?_; rintro e w' ⟨rfl, rfl⟩
          cases q4 : sizeB vy 393216
          · have HMt : Hid (Sht.may ⟨o, x, y, vx, vy, lf⟩ = false) := Lib.hid (by simp only [Sht.may, q4, Bool.and_false, Bool.false_and])
            go_wp2_with fail
            go_ret
            exact ⟨by rw [← HMay.out, may_shot (all_not Hs.out HMt.out)]; rfl, H.below⟩
          by_cases c2 : 1 ≤ lf
          rotate_left
          · have HMt : Hid (Sht.may ⟨o, x, y, vx, vy, lf⟩ = false) := Lib.hid (by simp only [Sht.may, decide_eq_false c2, Bool.and_false, Bool.false_and])
            have c2' : decide (lf < 1) = true := decide_eq_true (by omega)
            go_wp2_with (refine wb_cell H rfl 0 3 _ rfl _ 5 rfl _ _ rfl Try.isAgg3 (.int .i64 lf) rfl ?_)
            go_ret
            exact ⟨by rw [← HMay.out, may_shot (all_not Hs.out HMt.out)]; rfl, H.below⟩
          have c2' : decide (lf < 1) = false := decide_eq_false (by omega)
          by_cases c3 : lf ≤ 24
          rotate_left
          · have HMt : Hid (Sht.may ⟨o, x, y, vx, vy, lf⟩ = false) := Lib.hid (by simp only [Sht.may, decide_eq_false c3, Bool.and_false])
            have c3' : decide (24 < lf) = true := decide_eq_true (by omega)
            go_wp2_with (refine wb_cell H rfl 0 3 _ rfl _ 5 rfl _ _ rfl Try.isAgg3 (.int .i64 lf) rfl ?_)
            go_ret
            exact ⟨by rw [← HMay.out, may_shot (all_not Hs.out HMt.out)]; rfl, H.below⟩
          have c3' : decide (24 < lf) = false := decide_eq_false (by omega)
          have HMt : Hid (Sht.may ⟨o, x, y, vx, vy, lf⟩ = true) := Lib.hid (by simp [Sht.may, q1, q2, q3, q4, c0, c1, c2, c3])
          go_wp2_with (refine wb_cell H rfl 0 3 _ rfl _ 5 rfl _ _ rfl Try.isAgg3 (.int .i64 lf) rfl ?_)
          have H2 : Sb [] w0' w [(b6, #[.int .i64 o, .int .i32 x, .int .i32 y, .int .i32 vx, .int .i32 vy, .int .i64 lf], 75), (b1, cs, 33)] [] := H
          exact ⟨⟨k + 1, hlt, rfl, Lib.hid H2.tail, Lib.hid (all_take HA.out Hs.out HMt.out)⟩, by simp only [intOf]; omega⟩
        · obtain rfl : k = L.length := by omega
          have hLm : L.all Sht.may = true := by have := HA.out; rw [List.take_length] at this; exact this
          have H := HB.out
          clear HB HA
          have HMt : Hid (m = true) := Lib.hid (by rw [← HMay.out]; simp only [Gme.may, HSm.out, hLm]; simp [h3]; exact HFR.out)
          clear hLm
          go_wp2_with (refine wb_cell H rfl 0 31 _ rfl _ 58 rfl _ _ rfl Try.isAgg31 (.slice ad L.length c) Hs58.out ?_)
          go_ret
          exact ⟨by rw [HMt.out]; rfl, H.below⟩
end Go.Proofs.Ytdopfonebpklkaa.game
namespace Go.Proofs.Ytdopfonebpklkaa.game
open Go.ChangeShapes Go.WideShapes Go.ChangeAt Go.RowKit dice
set_option maxRecDepth 100000

set_option maxHeartbeats 4000000 in
theorem rmayS_b (s : Ste) (sl : Value) (w0 : World) (hg : s.g.wf) (t8 : s.T.length = 8) (hin : ShotsW w0 sl s.g.L) :
    Calls Try.prog 7 #[.agg (stateC s sl)] w0 fun e w' => e = .returned (.bool (mayS s)) ∧ Below w0.heap.size w0 w' := by
  have H := Sb.start w0
  have H8 := Lib.hid hg.s8
  have T8 := Lib.hid t8
  have HM := Lib.hid (fun w h => rmayG_b s.g sl w hg h)
  have HR := Lib.hid (fun w => rmayR_b s.ver s.T w t8)
  have HI := Lib.hid hin
  have HG := Lib.hid (fun j v h => sc_game (s := s) (sl := sl) j v h)
  have HO := Lib.hid (fun j v h => sc_roster (s := s) (sl := sl) hg.s8 j v h)
  have HS := Lib.hid (fun k t h => sc_ship (s := s) (sl := sl) k 0 t _ h rfl)
  have HQ := Lib.hid (fun k q h => sc_seat (s := s) (sl := sl) hg.s8 k 0 q _ h rfl)
  have Hgs := Lib.hid (gc_size (fr := s.g.fr) (d := s.g.d) (sl := sl) hg.s8)
  have Hrs := Lib.hid (rc_size (ver := s.ver) t8)
  unfold mayS
  clear hg t8 hin
  generalize stateC s sl = cs at *
  obtain ⟨⟨fr, d, S, L⟩, ver, T⟩ := s
  dsimp only at *
  go_enter Try.func7, Try.ntmps7
  go_wp2_with (first | (refine wb_box H rfl 40 _ rfl cs rfl ?_; clear H; intro b1 w H) | (refine wb_partA H rfl 0 33 _ rfl _ 0 rfl _ _ rfl _ Try.underlying33 rfl 59 info28 (gameC fr d S sl) (fun j v h => by rw [Nat.zero_add]; exact HG.out j v h) Hgs.out ?_))
  refine (HM.out _ (HI.out.later H.below)).mono ?_; rintro e w' ⟨rfl, hb⟩
  replace H := H.call hb
  clear hb
  cases q1 : Gme.may ⟨fr, d, S, L⟩
  · go_wp2_with fail
    go_ret
    exact ⟨by rw [q1]; rfl, H.below⟩
  go_wp2_with (refine wb_partA H rfl 0 38 _ rfl _ 59 rfl _ _ rfl _ Try.underlying38 rfl 17 info33 (rosterC ver T) HO.out Hrs.out ?_)
  refine (HR.out _).mono ?_; rintro e w' ⟨rfl, hb⟩
  replace H := H.call hb
  clear hb
  cases q2 : mayR ver T
  · go_wp2_with fail
    go_ret
    exact ⟨by rw [q1, q2]; rfl, H.below⟩
  go_wp2_with fail
  have H' := Lib.hid H
  clear H HI HM HR
  go_loopw [3] (fun i W => ∃ k : Nat, k ≤ 8 ∧ i = .int .i64 k ∧ Hid (Sb [] w0 W [(b1, cs, 40)] []) ∧ Hid (((S.zip T).take k).all (fun p => p.1.on == decide (0 ≤ p.2.peer)) = true)) (fun i _ => 8 - (intOf i).toNat)
  case atStart => exact ⟨0, Nat.zero_le _, rfl, H', Lib.hid (by simp)⟩
  case round =>
    clear H'
    obtain ⟨k, hk, rfl, HB, HA⟩ := hrel
    by_cases hlt : k < 8
    · obtain ⟨t, ht⟩ : ∃ t, S[k]? = some t := ⟨S[k]'(by rw [H8.out]; exact hlt), List.getElem?_eq_getElem _⟩
      obtain ⟨q, hq⟩ : ∃ q, T[k]? = some q := ⟨T[k]'(by rw [T8.out]; exact hlt), List.getElem?_eq_getElem _⟩
      have HZ : Hid ((S.zip T)[k]? = some (t, q)) := Lib.hid (by rw [List.getElem?_zip_eq_some]; exact ⟨ht, hq⟩)
      have c4 : wr.cell? ⟨b1, 2 + k * 7, none⟩ = some (.bool t.on) := (cell_of_row wr b1 (2 + k * 7) _ 40 (0, 0) (HB.out.holds _ (List.mem_cons_self ..))).trans (HS.out k t ht)
      have c1 : wr.cell? ⟨b1, 60 + k * 2, none⟩ = some (.int .i64 q.peer) := (cell_of_row wr b1 (60 + k * 2) _ 40 (0, 0) (HB.out.holds _ (List.mem_cons_self ..))).trans (HQ.out k q hq)
      clear ht hq
      obtain ⟨o, x, y, vx, vy, cl, sc⟩ := t
      obtain ⟨p, g⟩ := q
      dsimp only at c4 c1
      go_wp2_with fail
      go_quiet (fail)
      have HB2 := Lib.hid (HB.out.call (below_drewN (Below.refl _ _) nq))
      clear c4 c1 HB
      generalize hz : (o == decide (0 ≤ p)) = z
      have Hz := Lib.hid hz
      clear hz
      cases z
      · go_wp2_with fail
        go_ret
        refine ⟨?_, HB2.out.below⟩
        have e : pairs S T = false := all_not (p := fun p : Shp × Seat => p.1.on == decide (0 ≤ p.2.peer)) HZ.out Hz.out
        rw [e, Bool.and_false]
        rfl
      · go_wp2_with fail
        exact ⟨⟨k + 1, hlt, rfl, HB2, Lib.hid (all_take HA.out HZ.out Hz.out)⟩, by simp only [intOf]; omega⟩
    · obtain rfl : k = 8 := by omega
      go_wp2_with fail
      go_ret
      refine ⟨?_, HB.out.below⟩
      have := HA.out
      rw [List.take_of_length_le (by rw [List.length_zip, H8.out, T8.out]; decide)] at this
      rw [q1, q2]
      exact congrArg _ (congrArg _ this.symm)
end Go.Proofs.Ytdopfonebpklkaa.game
namespace Go.Proofs.Ytdopfonebpklkaa.game
open Go.ChangeShapes Go.WideShapes Go.ChangeAt Go.RowKit dice
set_option maxRecDepth 100000

theorem add_n (g o j : Nat) : (⟨g, o, none⟩ : Addr).add j = ⟨g, o + j, none⟩ := by unfold Addr.add; split <;> simp_all
theorem ins_at {I : List Inp} {k j : Nat} {i : Inp} {v : Value} (hi : I[k]? = some i) (hv : (inpL i)[j]? = some v) : (I.flatMap inpL)[k * 3 + j]? = some v := by
  induction I generalizing k with
  | nil => simp at hi
  | cons a I ih =>
    cases k with
    | zero =>
      simp at hi
      subst hi
      have := (List.getElem?_eq_some_iff.1 hv).1
      rw [List.flatMap_cons, Nat.zero_mul, Nat.zero_add, List.getElem?_append_left this]
      exact hv
    | succ k =>
      rw [List.flatMap_cons, List.getElem?_append_right (by simp only [inpL, List.length_cons, List.length_nil]; omega)]
      simp only [inpL, List.length_cons, List.length_nil]
      rw [show (k + 1) * 3 + j - (0 + 1 + 1 + 1) = k * 3 + j by omega]
      exact ih (by simpa using hi)
section
variable {Hs : List Nat} {W0 w w' : World} {l : List Blk} {R : List RowS}
/-- Fewer blocks are known. -/
theorem Sb.sublist (h : Sb Hs W0 w l R) {l' : List Blk} (hs : l'.Sublist l) : Sb Hs W0 w l' R :=
  ⟨h.os, h.tape, h.output, h.size, h.fr, fun p hp => h.holds p (hs.subset hp), fun p hp => h.ge p (hs.subset hp), h.nd.sublist (hs.map _), h.rows, h.rge, fun r hr p hp => h.apart r hr p (hs.subset hp), h.rnd⟩
theorem Sb.perm (h : Sb Hs W0 w l R) {l' : List Blk} (hs : l'.Perm l) : Sb Hs W0 w l' R :=
  ⟨h.os, h.tape, h.output, h.size, h.fr, fun p hp => h.holds p (hs.subset hp), fun p hp => h.ge p (hs.subset hp), (hs.map _).nodup_iff.2 h.nd, h.rows, h.rge, fun r hr p hp => h.apart r hr p (hs.subset hp), h.rnd⟩
/-- A row of cells of the call's own, its block among l. -/
def RowIn (e : TypeId) (size : Nat) (l : List Blk) (v : Value) (n : Nat) (xs : List Value) : Prop :=
  xs.length = n * size ∧ ((v = .slice none 0 0 ∧ n = 0) ∨ ∃ g cap cur, v = .slice (some ⟨g, 0, none⟩) n cap ∧ (g, cur, e) ∈ l ∧ n ≤ cap ∧ cap ≤ maxLen ∧ cur.size = cap * size ∧ cur.toList.take (n * size) = xs)
theorem RowIn.mono {e : TypeId} {size n : Nat} {l l' : List Blk} {v : Value} {xs : List Value} (h : RowIn e size l v n xs) (hs : ∀ p ∈ l, p ∈ l') : RowIn e size l' v n xs := by
  refine ⟨h.1, ?_⟩
  rcases h.2 with a | ⟨g, cap, cur, rfl, hm, r⟩
  · exact .inl a
  · exact .inr ⟨g, cap, cur, rfl, hs _ hm, r⟩
theorem RowIn.own {e : TypeId} {size n : Nat} {v : Value} {xs : List Value} {Q : List Blk} (h : RowIn e size Q v n xs) (H : Sb Hs W0 w l R) (hs : ∀ p ∈ Q, p ∈ l) : w.ownsRow 0 e size v n xs := by
  refine ⟨h.1, ?_⟩
  rcases h.2 with a | ⟨g, cap, cur, rfl, hm, r⟩
  · exact .inl a
  · exact .inr ⟨g, cap, cur, rfl, Nat.zero_le _, H.holds _ (hs _ hm), r⟩
/-- What an append to such a row leaves. -/
theorem Sb.appendRow {F Q : List Blk} {e : TypeId} {size n : Nat} {v v' : Value} {xs ys : List Value} (H : Sb Hs W0 w (F ++ Q) R) (hrow : RowIn e size Q v n xs) (ho : w'.ownsRow 0 e size v' (n + 1) ys) (hg : w.grownBy w' v.ownBlock) (hb : v'.ownBlock = v.ownBlock ∨ v'.ownBlock = some w.heap.size) :
    ∃ Q', Sb Hs W0 w' (F ++ Q') R ∧ RowIn e size Q' v' (n + 1) ys ∧ ∀ p ∈ Q, v.ownBlock ≠ some p.1 → p ∈ Q' := by
  obtain ⟨g', cap', cur', rfl, _, hgg, hnc, hcm, hcs, htake⟩ : ∃ g cap cur, v' = .slice (some ⟨g, 0, none⟩) (n + 1) cap ∧ 0 ≤ g ∧ w'.heap[g]? = some (.cells cur e (0, 0)) ∧ n + 1 ≤ cap ∧ cap ≤ maxLen ∧ cur.size = cap * size ∧ cur.toList.take ((n + 1) * size) = ys := by
    rcases ho.2 with ⟨_, h0⟩ | h
    · omega
    · exact h
  have hg' : v.ownBlock = some g' ∨ g' = w.heap.size := by
    rcases hb with h | h
    · exact .inl h.symm
    · exact .inr (Option.some.inj h)
  have hvm : ∀ g, v.ownBlock = some g → ∃ p ∈ Q, p.1 = g := fun g hv => by
    rcases hrow.2 with ⟨rfl, _⟩ | ⟨g2, cap, cur, rfl, hm, _⟩
    · simp [Value.ownBlock] at hv
    · simp [Value.ownBlock] at hv
      exact ⟨_, hm, hv⟩
  have hFne : ∀ p ∈ F, v.ownBlock ≠ some p.1 := fun p hp hv => by
    obtain ⟨q, hq, e⟩ := hvm _ hv
    have := H.nd
    rw [List.map_append, List.nodup_append] at this
    exact this.2.2 _ (List.mem_map_of_mem hp) _ (List.mem_map_of_mem hq) e.symm
  have keep : ∀ k, k < w.heap.size → v.ownBlock ≠ some k → w'.heap[k]? = w.heap[k]? := fun k hk hn => hg.block k hk (fun e => hn e.symm)
  have hsub : (F ++ Q.filter fun p => decide (v.ownBlock ≠ some p.1)).Sublist (F ++ Q) := List.Sublist.append_left List.filter_sublist F
  have hQ0 : ∀ p ∈ F ++ Q.filter fun p => decide (v.ownBlock ≠ some p.1), v.ownBlock ≠ some p.1 := fun p hp => by
    rcases List.mem_append.1 hp with h | h
    · exact hFne p h
    · simpa using (List.mem_filter.1 h).2
  have hnew : ∀ p ∈ F ++ Q.filter fun p => decide (v.ownBlock ≠ some p.1), p.1 ≠ g' := fun p hp e2 => by
    rcases hg' with h | h
    · exact hQ0 p hp (by rw [h, e2])
    · have := H.lt p (hsub.subset hp)
      omega
  have hgege : W0.heap.size ≤ g' ∨ g' ∈ Hs := by
    rcases hg' with h | h
    · obtain ⟨q, hq, e⟩ := hvm _ h
      rw [← e]
      exact H.ge q (List.mem_append_right _ hq)
    · exact .inl (by rw [h]; exact H.size)
  refine ⟨(g', cur', e) :: Q.filter fun p => decide (v.ownBlock ≠ some p.1), ?_, ⟨ho.1, .inr ⟨g', cap', cur', rfl, List.mem_cons_self .., hnc, hcm, hcs, htake⟩⟩, fun p hp hn => List.mem_cons_of_mem _ (List.mem_filter.2 ⟨hp, by simpa using hn⟩)⟩
  have hm : ∀ p ∈ F ++ (g', cur', e) :: Q.filter fun p => decide (v.ownBlock ≠ some p.1), p = (g', cur', e) ∨ p ∈ F ++ Q.filter fun p => decide (v.ownBlock ≠ some p.1) := fun p hp => by
    rcases List.mem_append.1 hp with h | h
    · exact .inr (List.mem_append_left _ h)
    · rcases List.mem_cons.1 h with h | h
      · exact .inl h
      · exact .inr (List.mem_append_right _ h)
  refine ⟨hg.os.trans H.os, hg.tape.trans H.tape, hg.output.trans H.output, Nat.le_trans H.size hg.size, fun k hk hh => ?_, fun p hp => ?_, fun p hp => ?_, ?_, fun r hr => ?_, H.rge, fun r hr p hp => ?_, H.rnd⟩
  · rw [keep k (Nat.lt_of_lt_of_le hk H.size) (fun hv => by
      obtain ⟨q, hq, e⟩ := hvm _ hv
      rcases H.ge q (List.mem_append_right _ hq) with a | a
      · omega
      · rw [e] at a; exact hh a)]
    exact H.fr k hk hh
  · rcases hm p hp with rfl | h
    · exact hgg
    · rw [keep p.1 (H.lt p (hsub.subset h)) (hQ0 p h)]
      exact H.holds p (hsub.subset h)
  · rcases hm p hp with rfl | h
    · exact hgege
    · exact H.ge p (hsub.subset h)
  · have h1 : ((F ++ Q.filter fun p => decide (v.ownBlock ≠ some p.1)).map (·.1)).Nodup := H.nd.sublist (hsub.map _)
    have h2 : (F ++ (g', cur', e) :: Q.filter fun p => decide (v.ownBlock ≠ some p.1)).Perm ((g', cur', e) :: (F ++ Q.filter fun p => decide (v.ownBlock ≠ some p.1))) := List.perm_middle
    rw [(h2.map _).nodup_iff, List.map_cons, List.nodup_cons]
    refine ⟨fun hmm => ?_, h1⟩
    obtain ⟨p, hp, e2⟩ := List.mem_map.1 hmm
    exact hnew p hp e2
  · refine own_same (H.rows r hr) (fun k hk => keep k (H.rlt r hr k hk) (fun hv => ?_))
    obtain ⟨q, hq, e⟩ := hvm _ hv
    exact H.apart r hr q (List.mem_append_right _ hq) (by rw [e]; exact hk)
  · rcases hm p hp with rfl | h
    · intro hk
      rcases hg' with h | h
      · obtain ⟨q, hq, e⟩ := hvm _ h
        exact H.apart r hr q (List.mem_append_right _ hq) (by rw [e]; exact hk)
      · have := H.rlt r hr _ hk
        dsimp only at this
        omega
    · exact H.apart r hr p (hsub.subset h)
section
variable {ops : Array Oper} {rest : List Oper} {op : Oper} {a : Act} {Q : Exit → Act → World → Prop}
/-- A slice literal of one struct. -/
theorem wb_mk1 (H : Sb Hs W0 w l R) (hg : op.guard = none) (t e : TypeId) (x : Operand) (ho : op.op = .buildSlice t 1 #[(0, x)]) (hu : Try.prog.underlying t = some (.slice e)) (c : Array Value) (hx : a.eval x = .agg c) (n : Nat)
    (hi : ∃ i z, Try.prog.info? e = some i ∧ i.zero = some z ∧ i.size = n) (hn : c.size = n) (hp : 0 < n) (hs : n ≤ 1000)
    (h : ∀ b w', Sb Hs W0 w' ((b, c, e) :: l) R → wpList Try.prog ops Q rest (a.put op.dst (.slice (some ⟨b, 0, none⟩) 1 1)) w') : wpList Try.prog ops Q (op :: rest) a w := by
  obtain ⟨i, z, h1, h2, h3⟩ := hi
  refine wpList_buildSlice hg t e 1 #[(0, x)] ho c i z hu h1 h2 (by rw [h3]; omega) (by rw [h3]; omega) ?_ (h _ _ (H.new c e))
  have := Go.Great.fill_whole (s := i.size) (by omega) [.agg c] ((Array.range (1 * i.size)).map (z.cells[· % z.cells.size]!)) (fun v hv => by rw [List.mem_singleton] at hv; subst hv; rw [h3]; exact hn) (by simp)
  simpa [hx, Value.cells] using this
end
/-- An entry's events, in a block of their own or none. -/
def EvQ (Q : List Blk) (s : Value) (evs : List Evt) : Prop := (evs = [] ∧ s = .slice none 0 0) ∨ ∃ g x, evs = [x] ∧ x.wf ∧ s = .slice (some ⟨g, 0, none⟩) 1 1 ∧ (g, evC x, 49) ∈ Q
theorem EvQ.mono {l l' : List Blk} {s : Value} {evs : List Evt} (h : EvQ l s evs) (hs : ∀ p ∈ l, p ∈ l') : EvQ l' s evs := by
  rcases h with h | ⟨g, x, h1, h2, h3, h4⟩
  · exact .inl h
  · exact .inr ⟨g, x, h1, h2, h3, hs _ h4⟩
theorem EvQ.ev {s : Value} {evs : List Evt} {Q : List Blk} (h : EvQ Q s evs) (H : Sb Hs W0 w l R) (hs : ∀ p ∈ Q, p ∈ l) : EvW w s evs := by
  rcases h with ⟨rfl, rfl⟩ | ⟨g, x, rfl, _, rfl, h⟩
  · exact .inl ⟨rfl, _, _, rfl⟩
  · refine .inr ⟨g, 0, 1, rfl, H.lt _ (hs _ h), fun j v hv => ?_⟩
    rw [Nat.zero_add, cell_of_row w g j _ 49 (0, 0) (H.holds _ (hs _ h))]
    unfold evC
    rw [List.getElem?_toArray]
    simpa [evsL, evL] using hv
theorem EvQ.wf {s : Value} {evs : List Evt} {Q : List Blk} (h : EvQ Q s evs) : ∀ x ∈ evs, x.wf := fun y hy => by
  rcases h with ⟨rfl, _⟩ | ⟨g, x, rfl, hx, _⟩
  · simp at hy
  · rw [List.mem_singleton] at hy
    subst hy
    exact hx
theorem EvQ.len {s : Value} {evs : List Evt} {Q : List Blk} (h : EvQ Q s evs) : evs.length ≤ 1 := by
  rcases h with ⟨rfl, _⟩ | ⟨g, x, rfl, _⟩ <;> simp
def entsL (log : List Ent) (es : List Value) : List Value := (log.zip es).flatMap fun p => (entC p.1 p.2).toList
/-- A log of the call's own. -/
structure LogQ (Q : List Blk) (v : Value) (log : List Ent) (es : List Value) : Prop where
  len : es.length = log.length
  ev : ∀ (k : Nat) (e : Ent) (s : Value), log[k]? = some e → es[k]? = some s → EvQ Q s e.evs
  i8 : ∀ e ∈ log, e.ins.length = 8
  ins : ∀ e ∈ log, ∀ i ∈ e.ins, i.ok
  row : RowIn 45 26 Q v log.length (entsL log es)
theorem entsL_len : ∀ (log : List Ent) (es : List Value), es.length = log.length → (∀ e ∈ log, e.ins.length = 8) → (entsL log es).length = log.length * 26
  | [], _, _, _ => by simp [entsL]
  | e :: log, [], h, _ => by simp at h
  | e :: log, s :: es, h, h8 => by
    have ih := entsL_len log es (by simpa using h) (fun e he => h8 e (List.mem_cons_of_mem _ he))
    unfold entsL at *
    rw [List.zip_cons_cons, List.flatMap_cons, List.length_append, ih, Array.length_toList, en_size (h8 e (List.mem_cons_self ..)), List.length_cons]
    omega
theorem entsL_at : ∀ (log : List Ent) (es : List Value) (k j : Nat) (e : Ent) (s v : Value), (∀ e ∈ log, e.ins.length = 8) → log[k]? = some e → es[k]? = some s → (entC e s).toList[j]? = some v → (entsL log es)[k * 26 + j]? = some v
  | [], _, k, _, _, _, _, _, h, _, _ => by simp at h
  | e' :: log, [], k, _, _, _, _, _, _, h, _ => by simp at h
  | e' :: log, s' :: es, 0, j, e, s, v, h8, he, hs, hv => by
    simp at he hs
    subst he hs
    have := (List.getElem?_eq_some_iff.1 hv).1
    unfold entsL
    rw [List.zip_cons_cons, List.flatMap_cons, Nat.zero_mul, Nat.zero_add, List.getElem?_append_left this]
    exact hv
  | e' :: log, s' :: es, k + 1, j, e, s, v, h8, he, hs, hv => by
    have ih := entsL_at log es k j e s v (fun e he => h8 e (List.mem_cons_of_mem _ he)) (by simpa using he) (by simpa using hs) hv
    unfold entsL at *
    have h26 : (entC e' s').toList.length = 26 := by rw [Array.length_toList, en_size (h8 e' (List.mem_cons_self ..))]
    rw [List.zip_cons_cons, List.flatMap_cons, List.getElem?_append_right (by rw [h26]; omega), h26, show (k + 1) * 26 + j - 26 = k * 26 + j by omega]
    exact ih
theorem LogQ.logW {Q : List Blk} {v : Value} {log : List Ent} {es : List Value} (h : LogQ Q v log es) (H : Sb Hs W0 w l R) (hs : ∀ p ∈ Q, p ∈ l) : LogW w v log := by
  refine ⟨es, h.len, fun k e s he hs' => (h.ev k e s he hs').ev H hs, ?_⟩
  have ho := h.row.own H hs
  rcases h.row.2 with ⟨rfl, h0⟩ | ⟨g, cap, cur, rfl, hm, _⟩
  · exact .inl ⟨List.eq_nil_of_length_eq_zero h0, _, _, rfl⟩
  · refine .inr ⟨g, 0, cap, rfl, H.lt _ (hs _ hm), fun k e s he hs' j u hu => ?_⟩
    have := ho.cells (g := g) rfl _ u (entsL_at log es k j e s u h.i8 he hs' hu)
    rw [add_n] at this
    rw [show 0 + k * 26 + j = 0 + (k * 26 + j) by omega]
    exact this
theorem LogQ.wf {Q : List Blk} {v : Value} {log : List Ent} {es : List Value} (h : LogQ Q v log es) : ∀ e ∈ log, e.wf ∧ e.evs.length ≤ 1 := fun e he => by
  obtain ⟨k, hk⟩ := List.mem_iff_getElem?.1 he
  have hl := (List.getElem?_eq_some_iff.1 hk).1
  have hE := h.ev k e (es[k]'(by rw [h.len]; exact hl)) hk (List.getElem?_eq_getElem _)
  have := hE.len
  exact ⟨⟨h.i8 e he, h.ins e he, hE.wf, by omega⟩, this⟩
theorem LogQ.snoc {Q Q' : List Blk} {v v' : Value} {log : List Ent} {es : List Value} {e : Ent} {s : Value} (h : LogQ Q v log es) (hE : EvQ Q s e.evs) (h8 : e.ins.length = 8) (hI : ∀ i ∈ e.ins, i.ok) (hr : RowIn 45 26 Q' v' (log.length + 1) (entsL log es ++ (entC e s).toList)) (hQ : ∀ p ∈ Q, v.ownBlock ≠ some p.1 → p ∈ Q') (hno : ∀ g cur, (g, cur, (49 : TypeId)) ∈ Q → v.ownBlock ≠ some g) : LogQ Q' v' (log ++ [e]) (es ++ [s]) := by
  have hev : ∀ s evs, EvQ Q s evs → EvQ Q' s evs := fun s evs hh => by
    rcases hh with hh | ⟨g, x, h1, h2, h3, h4⟩
    · exact .inl hh
    · exact .inr ⟨g, x, h1, h2, h3, hQ _ h4 (hno _ _ h4)⟩
  have hz : entsL (log ++ [e]) (es ++ [s]) = entsL log es ++ (entC e s).toList := by
    unfold entsL
    rw [List.zip_append h.len.symm, List.flatMap_append]
    simp
  refine ⟨by simp [h.len], fun k e' s' he hs => ?_, fun e' he => ?_, fun e' he => ?_, by rw [hz, List.length_append]; exact hr⟩
  · by_cases hk : k < log.length
    · rw [List.getElem?_append_left hk] at he
      rw [List.getElem?_append_left (by rw [h.len]; exact hk)] at hs
      exact hev _ _ (h.ev k e' s' he hs)
    · rw [List.getElem?_append_right (by omega)] at he
      rw [List.getElem?_append_right (by rw [h.len]; omega), h.len] at hs
      by_cases e0 : k - log.length = 0
      · rw [e0] at he hs
        simp at he hs
        subst he hs
        exact hev _ _ hE
      · rw [List.getElem?_eq_none (by simp; omega)] at he
        cases he
  · rcases List.mem_append.1 he with h' | h'
    · exact h.i8 e' h'
    · rw [List.mem_singleton] at h'; subst h'; exact h8
  · rcases List.mem_append.1 he with h' | h'
    · exact h.ins e' h'
    · rw [List.mem_singleton] at h'; subst h'; exact hI
/-- An entry's row is no event's. -/
theorem RowIn.no60 {Q : List Blk} {v : Value} {n : Nat} {xs : List Value} (h : RowIn 45 26 Q v n xs) (H : Sb Hs W0 w l R) (hs : ∀ p ∈ Q, p ∈ l) : ∀ g cur, (g, cur, (49 : TypeId)) ∈ Q → v.ownBlock ≠ some g := fun g cur hm hv => by
  rcases h.2 with ⟨rfl, _⟩ | ⟨g2, cap, cur2, rfl, hm2, _⟩
  · simp [Value.ownBlock] at hv
  · simp [Value.ownBlock] at hv
    subst hv
    have h1 := H.holds _ (hs _ hm)
    have h2 := H.holds _ (hs _ hm2)
    dsimp only at h1 h2
    rw [h1] at h2
    injection h2 with h2
    injection h2 with _ h2
    exact absurd h2 (by decide)
theorem ins_set : ∀ (I : List Inp) (k : Nat) (i : Inp), k < I.length → ((I.flatMap inpL).take (k * 3) ++ inpL i ++ (I.flatMap inpL).drop (k * 3 + 3)) = (I.set k i).flatMap inpL
  | [], k, i, h => by simp at h
  | a :: I, 0, i, _ => by
    rw [List.flatMap_cons, List.set_cons_zero, List.flatMap_cons]
    simp [inpL]
  | a :: I, k + 1, i, h => by
    have ih := ins_set I k i (by simpa using h)
    have h3 : (inpL a).length = 3 := rfl
    rw [List.flatMap_cons, List.set_cons_succ, List.flatMap_cons, ← ih]
    rw [List.take_append, List.drop_append, h3, List.take_of_length_le (by rw [h3]; omega), List.drop_of_length_le (by rw [h3]; omega), show (k + 1) * 3 - 3 = k * 3 by omega, show (k + 1) * 3 + 3 - 3 = k * 3 + 3 by omega]
    simp
/-- An input set in an entry. -/
theorem en_put {fr : Int} {evs : List Evt} {I : List Inp} {s : Value} (k : Nat) (i : Inp) (hk : k < I.length) : splice (entC ⟨fr, evs, I⟩ s) (2 + k * 3) (inpL i) = entC ⟨fr, evs, I.set k i⟩ s := by
  have := ins_set I k i hk
  unfold splice entC
  simp only [inpL, List.length_cons, List.length_nil] at this ⊢
  rw [show 2 + k * 3 + (0 + 1 + 1 + 1) = (k * 3 + 3) + 1 + 1 by omega, show 2 + k * 3 = k * 3 + 1 + 1 by omega]
  simp only [List.take_succ_cons, List.drop_succ_cons, List.cons_append]
  rw [this]
theorem en_putEv {fr : Int} {evs evs' : List Evt} {I : List Inp} {s s' : Value} : splice (entC ⟨fr, evs, I⟩ s) 1 [s'] = entC ⟨fr, evs', I⟩ s' := by
  unfold splice entC
  simp
end

theorem info36m : (Try.prog.info? 42).map (·.size) = some 1 := by kernel_rfl
theorem info60z : (Try.prog.info? 49).map (fun i => (i.zero, i.size, i.bytes)) = some (some (.agg #[.int .i64 0, .int .i64 0, .int .i64 0, .int .i64 0]), 4, 32) := by kernel_rfl
theorem info42z : (Try.prog.info? 45).map (fun i => (i.zero, i.size, i.bytes)) = some (some (.agg zE), 26, 56) := by kernel_rfl
theorem info_ev : ∃ i z, Try.prog.info? 49 = some i ∧ i.zero = some z ∧ i.size = 4 := by
  have h := info60z
  cases hq : Try.prog.info? 49 with
  | none => rw [hq] at h; cases h
  | some i =>
    rw [hq] at h
    simp at h
    exact ⟨i, _, rfl, h.1, h.2.1⟩
theorem info_ent : ∃ i, Try.prog.info? 45 = some i ∧ i.zero = some (.agg zE) ∧ i.size = 26 ∧ i.bytes = 56 := by
  have h := info42z
  cases hq : Try.prog.info? 45 with
  | none => rw [hq] at h; cases h
  | some i =>
    rw [hq] at h
    simp at h
    exact ⟨i, rfl, h.1, h.2.1, h.2.2⟩
theorem startS_may (D : Int) : (startS D).may :=
  ⟨⟨show (0 : Int) ≤ 0 by decide, show (0 : Int) ≤ 1048576 by decide, rfl, fun t ht => by rw [List.eq_of_mem_replicate (show t ∈ List.replicate 8 zShp from ht)]; exact zShp_ok, fun s hs => by simp [startS] at hs, by simp [startS]⟩, by show mayR 0 nobody = true; decide +kernel, by show pairs (List.replicate 8 zShp) nobody = true; decide +kernel, rfl⟩
def z8 : List Inp := List.replicate 8 zInp
theorem z8_ok : ∀ i ∈ z8, i.ok := fun i hi => by rw [List.eq_of_mem_replicate (show i ∈ List.replicate 8 zInp from hi)]; exact zInp_ok
theorem LogQ.mono {Q Q' : List Blk} {v : Value} {log : List Ent} {es : List Value} (h : LogQ Q v log es) (hs : ∀ p ∈ Q, p ∈ Q') : LogQ Q' v log es :=
  ⟨h.len, fun k e s a b => (h.ev k e s a b).mono hs, h.i8, h.ins, h.row.mono hs⟩
theorem LogQ.cap {Q : List Blk} {ad : Option Addr} {c : Nat} {log : List Ent} {es : List Value} (h : LogQ Q (.slice ad log.length c) log es) : log.length ≤ c ∧ c ≤ maxLen := by
  rcases h.row.2 with ⟨e, h0⟩ | ⟨g, cap, cur, e, _, h1, h2, _⟩
  · injection e with e1 e2 e3
    subst e3
    exact ⟨by omega, Nat.zero_le _⟩
  · injection e with e1 e2 e3
    subst e3
    exact ⟨h1, h2⟩
theorem EvQ.form {Q : List Blk} {s : Value} {evs : List Evt} (h : EvQ Q s evs) : ∃ ad c, s = .slice ad evs.length c := by
  rcases h with ⟨rfl, rfl⟩ | ⟨g, x, rfl, _, rfl, _⟩ <;> exact ⟨_, _, rfl⟩
theorem wf_wrap64 (x : Int) : (Lit.int .i64 (Go.RowKit.wrap64 x)).wf = true := by
  unfold Go.RowKit.wrap64
  simp [Lit.wf, IntKind.min, IntKind.max, IntKind.signed, IntKind.bits]
  omega
theorem ofI_at {ver : Int} {T : List Seat} {p : Int} (h : 0 ≤ ofI ver T p) (h8 : T.length = 8) : ∃ n q, ofI ver T p = ((n : Nat) : Int) ∧ n < 8 ∧ T[n]? = some q := by
  unfold ofI at h ⊢
  split at h
  · rename_i hc
    rw [if_pos hc]
    unfold slotI at h ⊢
    cases hf : T.findIdx? (fun q => q.peer == p) with
    | none => rw [hf] at h; simp at h
    | some n =>
      have hl := (List.findIdx?_eq_some_iff_getElem.1 hf).1
      exact ⟨n, T[n], rfl, by omega, List.getElem?_eq_getElem hl⟩
  · omega
theorem w64' {a : Int} (h0 : -9223372036854775808 ≤ a) (h1 : a ≤ 9223372036854775807) : (Lit.int .i64 a).wf = true := by
  simp [Lit.wf, IntKind.min, IntKind.max, IntKind.signed, IntKind.bits]
  omega
theorem startS_wf (D : Int) (hD : (Lit.int .u64 D).wf = true) : (startS D).g.wf := Ste.may.wf (startS_may D) hD

/-- A state's shots: in the caller's memory, or in a row of the call's own. -/
def LieIn (W0 : World) (R : List RowS) (sl : Value) (L : List Sht) : Prop := ShotsIn W0 sl L ∨ (sl, L) ∈ R
theorem LieIn.shots {W0 w : World} {l : List Blk} {R : List RowS} {sl : Value} {L : List Sht} (h : LieIn W0 R sl L) (H : Sb [] W0 w l R) : ShotsIn w sl L := by
  rcases h with h | h
  · exact h.later H.below
  · exact (show Own w 0 sl L from H.rows _ h).shotsIn
theorem LieIn.mono {W0 : World} {R R' : List RowS} {sl : Value} {L : List Sht} (h : LieIn W0 R sl L) (hs : ∀ r ∈ R, r ∈ R') : LieIn W0 R' sl L := by
  rcases h with h | h
  · exact .inl h
  · exact .inr (hs _ h)
theorem lie_nil (W0 : World) (R : List RowS) : LieIn W0 R (.slice none 0 0) [] := .inl (.inl ⟨rfl, rfl⟩)
theorem Ste.may.full {s : Ste} (h : s.may) (hd : (Lit.int .u64 s.g.d).wf = true) : s.wf := by
  obtain ⟨v0, v1, ho⟩ := mayR_iff.1 h.r
  refine ⟨h.wf hd, w64' (by omega) (by omega), h.t8, fun q hq => ?_⟩
  have hs := ho.1 q hq
  have a1 := hs.1
  have a2 := hs.2.1
  have a3 := hs.2.2.1
  have a4 := hs.2.2.2.1
  exact ⟨w64' (by omega) (by omega), w64' (by omega) (by omega)⟩
theorem startS_full (D : Int) (hD : (Lit.int .u64 D).wf = true) : (startS D).wf := (startS_may D).full hD
/-- What Apply and Run leave: the state behind, or the old one and 1. -/
def SteIn (o : Option Ste) (s : Ste) (W0 : World) (l : List Blk) (R : List RowS) (e : Ending) (w' : World) : Prop :=
  ∃ sl' R', e = .returned (.tuple #[.agg (stateC (o.getD s) sl'), .int .i64 (if o.isSome = true then 0 else 1)]) ∧ Sb [] W0 w' l R' ∧ LieIn W0 R' sl' (o.getD s).g.L ∧ ∀ r ∈ R, r ∈ R'
theorem SteIn.of {o : Option Ste} {s : Ste} {sl : Value} {W0 w : World} {l : List Blk} {R : List RowS} (H : Sb [] W0 w l R) (hL : LieIn W0 R sl s.g.L) {e : Ending} {w' : World} (h : ApOut o s sl w e w') : SteIn o s W0 l R e w' := by
  obtain ⟨hb, ho⟩ := h
  cases o with
  | none => exact ⟨sl, R, ho, H.call hb, hL, fun r hr => hr⟩
  | some t =>
    obtain ⟨sl', rfl, hown, hnew⟩ := ho
    exact ⟨sl', (sl', t.g.L) :: R, rfl, H.addRow sl' _ hown hb hnew, .inr (List.mem_cons_self ..), fun r hr => List.mem_cons_of_mem _ hr⟩
theorem Apply_in (s : Ste) (sl : Value) (e : Ent) (esl : Value) (W0 w : World) (l : List Blk) (R : List RowS) (H : Sb [] W0 w l R) (hL : LieIn W0 R sl s.g.L) (hg : s.g.wf) (t8 : s.T.length = 8) (he : e.wf) (hev : EvW w esl e.evs) :
    Calls Try.prog 6 #[.agg (stateC s sl), .agg (entC e esl)] w fun e' w' => SteIn (applyF s e) s W0 l R e' w' ∧ Below w.heap.size w w' :=
  (Apply_b s sl e esl w hg t8 (hL.shots H) he hev).mono fun _ _ h => ⟨SteIn.of H hL h, h.1⟩
theorem Run_in (s : Ste) (sl : Value) (log : List Ent) (v : Value) (W0 w : World) (l : List Blk) (R : List RowS) (H : Sb [] W0 w l R) (hL : LieIn W0 R sl s.g.L) (hg : s.g.wf) (t8 : s.T.length = 8) (hl : ∀ e ∈ log, e.wf) (hlog : LogW w v log) (hn : log.length ≤ 1000) :
    Calls Try.prog 8 #[.agg (stateC s sl), v] w fun e w' => SteIn (runF s log) s W0 l R e w' ∧ Below w.heap.size w w' := by
  cases log with
  | nil =>
    obtain ⟨ad, c, rfl⟩ := hlog.form
    exact (Run_none s sl ad c w hg t8 (hL.shots H)).mono fun e w' h => ⟨⟨sl, R, h.1, H.call h.2, hL, fun r hr => hr⟩, h.2⟩
  | cons x log => exact (Run_some s sl (x :: log) v w hg t8 (hL.shots H) hl hlog hn (by simp)).mono fun _ _ h => ⟨SteIn.of H hL h, h.1⟩
section
variable {Hs : List Nat} {w0 w w' : World} {l : List Blk} {R : List RowS}
variable {ops : Array Oper} {rest : List Oper} {op : Oper} {a : Act} {Q : Exit → Act → World → Prop}
/-- A slice literal of two structs. -/
theorem wb_mk2 (H : Sb Hs w0 w l R) (hg : op.guard = none) (t e : TypeId) (x y : Operand) (ho : op.op = .buildSlice t 2 #[(0, x), (1, y)]) (hu : Try.prog.underlying t = some (.slice e)) (c d : Array Value) (hx : a.eval x = .agg c) (hy : a.eval y = .agg d) (n : Nat)
    (hi : ∃ i z, Try.prog.info? e = some i ∧ i.zero = some z ∧ i.size = n) (hn : c.size = n) (hm : d.size = n) (hp : 0 < n) (hs : n ≤ 1000)
    (h : ∀ b w', Sb Hs w0 w' ((b, (c.toList ++ d.toList).toArray, e) :: l) R → wpList Try.prog ops Q rest (a.put op.dst (.slice (some ⟨b, 0, none⟩) 2 2)) w') : wpList Try.prog ops Q (op :: rest) a w := by
  obtain ⟨i, z, h1, h2, h3⟩ := hi
  refine wpList_buildSlice hg t e 2 #[(0, x), (1, y)] ho (c.toList ++ d.toList).toArray i z hu h1 h2 (by rw [h3]; omega) (by rw [h3]; omega) ?_ (h _ _ (H.new _ e))
  have := Go.Great.fill_whole (s := i.size) (by omega) [.agg c, .agg d] ((Array.range (2 * i.size)).map (z.cells[· % z.cells.size]!)) (fun v hv => by simp at hv; rcases hv with rfl | rfl <;> simp [Value.cells, h3, hn, hm]) (by simp)
  simpa [hx, hy, Value.cells] using this
end
def DA : Int := seed [97]
def ea : Ent := ⟨0, [⟨1, 0, 1, 2⟩], z8⟩
def eb : Ent := ⟨0, [⟨1, 0, 1, 2⟩], z8.set 4 ⟨0, 0, 1⟩⟩
def ec0 : Ent := ⟨0, [], z8⟩
def ec1 : Ent := ⟨1, [], z8⟩
theorem ea_ev : ∀ x ∈ ea.evs, x.wf := fun x hx => by
  rw [List.mem_singleton.1 (show x ∈ [(⟨1, 0, 1, 2⟩ : Evt)] from hx)]
  exact ⟨rfl, rfl, rfl, rfl⟩
theorem ea_wf : ea.wf := ⟨rfl, z8_ok, ea_ev, by decide⟩
theorem eb_wf : eb.wf := ⟨rfl, fun i hi => by
  rcases List.mem_or_eq_of_mem_set (show i ∈ z8.set 4 ⟨0, 0, 1⟩ from hi) with h | rfl
  · exact z8_ok i h
  · exact ⟨by decide, by decide, by decide, by decide, by decide, by decide⟩, ea_ev, by decide⟩
theorem ec_wf : ∀ e ∈ [ec0, ec1], e.wf := fun e he => by
  simp at he
  rcases he with rfl | rfl
  · exact ⟨rfl, z8_ok, fun x hx => by simp [ec0] at hx, by decide⟩
  · exact ⟨rfl, z8_ok, fun x hx => by simp [ec1] at hx, by decide⟩
theorem told_1 : (applyF (startS DA) ea).any (fun t => decide (t.g.fr = 1) && (t.g.S[0]?).any (fun x : Shp => x.on) && (t.T[0]?).any (fun q : Seat => decide (q.peer = 2)) && (applyF t ea).isNone) = true := by decide +kernel
theorem told_2 : applyF (startS DA) eb = none := by
  have : (applyF (startS DA) eb).isNone = true := by decide +kernel
  simpa using this
theorem told_3 : (runF (startS DA) [ec0, ec1]).any (fun t => decide (t.g.fr = 2)) = true := by decide +kernel
theorem DA_wf : (Lit.int .u64 DA).wf = true := by decide +kernel
theorem info5m : (Try.prog.info? 5).map (·.size) = some 1 := by kernel_rfl
theorem two_log {w0 w : World} {bs : Nat} {l : List Blk} {R : List RowS} (H : Sb [] w0 w ((bs, ((entC ec0 (.slice none 0 0)).toList ++ (entC ec1 (.slice none 0 0)).toList).toArray, 45) :: l) R) : LogW w (.slice (some ⟨bs, 0, none⟩) 2 2) [ec0, ec1] := by
  refine ⟨[.slice none 0 0, .slice none 0 0], rfl, fun k e s he hs => ?_, .inr ⟨bs, 0, 2, rfl, H.lt _ (List.mem_cons_self ..), fun k e s he hs j u hu => ?_⟩⟩
  · match k, he, hs with
    | 0, he, hs => simp at he hs; subst he hs; exact .inl ⟨rfl, _, _, rfl⟩
    | 1, he, hs => simp at he hs; subst he hs; exact .inl ⟨rfl, _, _, rfl⟩
    | k + 2, he, hs => simp at he
  · rw [cell_of_row w bs _ _ 45 (0, 0) (H.holds _ (List.mem_cons_self ..)), List.getElem?_toArray]
    have hj := (List.getElem?_eq_some_iff.1 hu).1
    match k, he, hs with
    | 0, he, hs =>
      simp at he hs
      subst he hs
      have : (entC ec0 (.slice none 0 0)).toList.length = 26 := rfl
      rw [show 0 + 0 * 26 + j = j by omega, List.getElem?_append_left hj]
      exact hu
    | 1, he, hs =>
      simp at he hs
      subst he hs
      have h26 : (entC ec0 (.slice none 0 0)).toList.length = 26 := rfl
      rw [List.getElem?_append_right (by rw [h26]; omega), h26, show 0 + 1 * 26 + j - 26 = j by omega]
      exact hu
    | k + 2, he, hs => simp at he
set_option maxHeartbeats 16000000 in
theorem told_any (w0 : World) : Calls Try.prog 4 #[] w0 fun e w' => e = .returned (.bool true) ∧ Below w0.heap.size w0 w' := by
  have H := Sb.start w0
  obtain ⟨t1, h1, h2⟩ : ∃ t1, applyF (startS DA) ea = some t1 ∧ (decide (t1.g.fr = 1) && (t1.g.S[0]?).any (fun x : Shp => x.on) && (t1.T[0]?).any (fun q : Seat => decide (q.peer = 2)) && (applyF t1 ea).isNone) = true := by
    have := told_1
    cases h : applyF (startS DA) ea with
    | none => rw [h] at this; simp at this
    | some t => rw [h] at this; exact ⟨t, rfl, this⟩
  obtain ⟨t2, h3, h4⟩ : ∃ t2, runF (startS DA) [ec0, ec1] = some t2 ∧ t2.g.fr = 2 := by
    have := told_3
    cases h : runF (startS DA) [ec0, ec1] with
    | none => rw [h] at this; simp at this
    | some t => rw [h] at this; exact ⟨t, rfl, by simpa using this⟩
  simp only [Bool.and_eq_true, decide_eq_true_eq, Option.any_eq_true, Option.isNone_iff_eq_none] at h2
  obtain ⟨⟨⟨f1, x1, hx1, hon⟩, q1, hq1, hp1⟩, ha2⟩ := h2
  have hS0 := startS_full DA DA_wf
  have hT1 := applyF_wf hS0.g hS0.t8 h1
  have hM1 := (applyF_may hS0.g.s8 hS0.t8 h1).1
  have hT2 := runF_wf _ hS0.g hS0.t8 h3
  have HA1 := Lib.hid h1
  have HA2 := Lib.hid ha2
  have HA4 := Lib.hid h3
  have HS0 := Lib.hid hS0
  have HT1 := Lib.hid hT1
  have Hz0 := Lib.hid (sc_size (s := startS DA) (sl := .slice none 0 0) rfl rfl)
  have Hz1 := Lib.hid (fun sl => sc_size (s := t1) (sl := sl) hT1.1.s8 hT1.2)
  have Hz2 := Lib.hid (fun sl => sc_size (s := t2) (sl := sl) hT2.1.s8 hT2.2)
  have Hs0 : Hid (splice zC 0 (Value.cells (.agg (stateC (startS DA) (.slice none 0 0)))).toList = stateC (startS DA) (.slice none 0 0)) := Lib.hid (splice_all _ _ rfl)
  have Hs1 : Hid (∀ sl, splice zC 0 (Value.cells (.agg (stateC t1 sl))).toList = stateC t1 sl) := Lib.hid (fun sl => splice_all _ _ (by rw [zC_size]; exact (Hz1.out sl).symm))
  have Hs2 : Hid (∀ sl, splice zC 0 (Value.cells (.agg (stateC t2 sl))).toList = stateC t2 sl) := Lib.hid (fun sl => splice_all _ _ (by rw [zC_size]; exact (Hz2.out sl).symm))
  have C1 := Lib.hid (fun sl => show (stateC t1 sl)[0]? = some (.int .i64 1) by rw [← f1]; exact sc_fr)
  have C2 := Lib.hid (fun sl => show (stateC t1 sl)[2]? = some (.bool true) by have := sc_ship (s := t1) (sl := sl) 0 0 x1 (.bool x1.on) hx1 rfl; rwa [hon] at this)
  have C3 := Lib.hid (fun sl => show (stateC t1 sl)[60]? = some (.int .i64 2) by have := sc_seat (s := t1) (sl := sl) hT1.1.s8 0 0 q1 (.int .i64 q1.peer) hq1 rfl; rwa [hp1] at this)
  have C4 := Lib.hid (fun sl => show (stateC t2 sl)[0]? = some (.int .i64 2) by rw [← h4]; exact sc_fr)
  have HeA := Lib.hid (fun (b : Nat) => show splice zE 0 (Value.cells (.agg (entC ea (.slice (some ⟨b, 0, none⟩) 1 1)))).toList = entC ea (.slice (some ⟨b, 0, none⟩) 1 1) from splice_all _ _ rfl)
  have HeB : Hid (∀ b : Nat, splice (entC ea (.slice (some ⟨b, 0, none⟩) 1 1)) 16 [Value.int .u8 1] = entC eb (.slice (some ⟨b, 0, none⟩) 1 1)) := Lib.hid (fun b => rfl)
  have HeO := Lib.hid (fun (b : Nat) => show (Value.cells (.agg (entC ea (.slice (some ⟨b, 0, none⟩) 1 1)))).toList.all (·.oneCell') = true from rfl)
  have HMay : Hid (mayS (startS DA) = true) := Lib.hid (startS_may DA).mayS
  have Hent : Hid (∃ i z, Try.prog.info? 45 = some i ∧ i.zero = some z ∧ i.size = 26) := Lib.hid (by obtain ⟨ie, hi, hz0, hz1, hz2⟩ := info_ent; exact ⟨ie, _, hi, hz0, hz1⟩)
  clear h1 h3 h4 f1 hx1 hon hq1 hp1 ha2 hS0 hT1 hM1 hT2
  have HA3 := Lib.hid told_2
  have HLN : ∀ (W : World) (R : List RowS), LieIn W R (.slice none 0 0) (startS DA).g.L := fun W R => lie_nil W R
  have HLM : (startS DA).g.L.length ≤ 1000 := by decide
  have hone0 : (Value.cells (.agg (stateC (startS DA) (.slice none 0 0)))).toList.all (·.oneCell') = true := rfl
  have ONE := Lib.hid hone0
  clear hone0
  have HSt := Lib.hid (fun w => Start_any ⟨#[97]⟩ w (by decide) DA rfl)
  generalize hS : startS DA = S0 at *
  clear hS
  go_enter Try.func4, Try.ntmps4
  go_wp2_with fail
  refine (HSt.out _).mono ?_; rintro e w' ⟨rfl, hb⟩
  replace H := H.call hb
  clear hb HSt
  go_upto_region 2 with (first | (refine wb_alloc H rfl 40 rfl _ Try.zeroValue40 ?_; clear H; intro b1 w H) | (refine wb_put H rfl 0 40 _ _ rfl _ 0 rfl _ _ rfl (.agg (stateC S0 (.slice none 0 0))) rfl 76 info35 Hz0.out (Nat.le_of_ble_eq_true rfl) ONE.out _ Hs0.out ?_; clear H; intro w H))
  replace H : Sb [] w0 w [(b1, stateC S0 (.slice none 0 0), 40)] [] := H
  go_upto_region 3 with (first | (refine wl_build rfl 49 _ rfl (evC ⟨1, 0, 1, 2⟩) (by kernel_rfl) ?_) | (refine wb_mk1 H rfl 42 49 _ rfl Try.underlying42 (evC ⟨1, 0, 1, 2⟩) rfl 4 info_ev rfl (by decide) (by decide) ?_; clear H; intro be w H) | (refine wl_build rfl 45 _ rfl (entC ea (.slice (some ⟨be, 0, none⟩) 1 1)) (by kernel_rfl) ?_) | (refine wb_alloc H rfl 45 rfl _ Try.zeroValue45 ?_; clear H; intro b2 w H) | (refine wb_put H rfl 0 45 _ _ rfl _ 0 rfl _ _ rfl (.agg (entC ea (.slice (some ⟨be, 0, none⟩) 1 1))) rfl 26 info42 rfl (Nat.le_of_ble_eq_true rfl) (HeO.out be) _ (HeA.out be) ?_; clear H; intro w H))
  replace H : Sb [] w0 w [(b2, entC ea (.slice (some ⟨be, 0, none⟩) 1 1), 45), (be, evC ⟨1, 0, 1, 2⟩, 49), (b1, stateC S0 (.slice none 0 0), 40)] [] := H
  go_wp2_with (first | (refine wb_whole H rfl 2 40 _ rfl _ rfl (stateC S0 (.slice none 0 0)) rfl _ Try.underlying40 rfl 76 info35 Hz0.out ?_) | (refine wb_whole H rfl 0 45 _ rfl _ rfl (entC ea (.slice (some ⟨be, 0, none⟩) 1 1)) rfl _ Try.underlying45 rfl 26 info42 rfl ?_))
  refine (Apply_in S0 _ ea _ w0 _ _ _ H (HLN _ _) HS0.out.g HS0.out.t8 ea_wf (EvQ.ev (Q := [(be, evC ⟨1, 0, 1, 2⟩, 49)]) (.inr ⟨be, _, rfl, ⟨rfl, rfl, rfl, rfl⟩, rfl, List.mem_cons_self ..⟩) H (fun p hp => by rw [List.mem_singleton] at hp; subst hp; exact List.mem_cons_of_mem _ (List.mem_cons_self ..)))).mono ?_
  rw [HA1.out]
  rintro e w1 ⟨⟨sl1, R1, rfl, H1, hL1, -⟩, -⟩
  clear H
  have H := H1
  clear H1
  have hL1 := Lib.hid (show LieIn w0 R1 sl1 t1.g.L from hL1)
  have HO1 := Lib.hid (sc_oneI (s := t1) (hL1.out.shots H))
  go_upto_region 4 with (first | (refine wb_alloc H rfl 40 rfl _ Try.zeroValue40 ?_; clear H; intro b3 w H) | (refine wb_put H rfl 0 40 _ _ rfl _ 0 rfl _ _ rfl (.agg (stateC t1 sl1)) rfl 76 info35 (Hz1.out sl1) (Nat.le_of_ble_eq_true rfl) HO1.out _ (Hs1.out sl1) ?_; clear H; intro w H))
  replace H : Sb [] w0 w [(b3, stateC t1 sl1, 40), (b2, entC ea (.slice (some ⟨be, 0, none⟩) 1 1), 45), (be, evC ⟨1, 0, 1, 2⟩, 49), (b1, stateC S0 (.slice none 0 0), 40)] R1 := H
  go_wp2_with (first | (refine wb_whole H rfl 0 40 _ rfl _ rfl (stateC t1 sl1) rfl _ Try.underlying40 rfl 76 info35 (Hz1.out sl1) ?_) | (refine wb_whole H rfl 1 45 _ rfl _ rfl (entC ea (.slice (some ⟨be, 0, none⟩) 1 1)) rfl _ Try.underlying45 rfl 26 info42 rfl ?_))
  refine (Apply_in t1 _ ea _ w0 _ _ _ H hL1.out HT1.out.1 HT1.out.2 ea_wf (EvQ.ev (Q := [(be, evC ⟨1, 0, 1, 2⟩, 49)]) (.inr ⟨be, _, rfl, ⟨rfl, rfl, rfl, rfl⟩, rfl, List.mem_cons_self ..⟩) H (fun p hp => by rw [List.mem_singleton] at hp; subst hp; exact List.mem_cons_of_mem _ (List.mem_cons_of_mem _ (List.mem_cons_self ..))))).mono ?_
  rw [HA2.out]
  rintro e w2 ⟨⟨sl2, R2, rfl, H1, hL2, hR2⟩, -⟩
  clear H
  have H := H1
  clear H1
  have hL2 := Lib.hid (show LieIn w0 R2 sl2 t1.g.L from hL2)
  have hL3 := Lib.hid (hL1.out.mono hR2)
  have HO2 := Lib.hid (sc_oneI (s := t1) (hL2.out.shots H))
  clear hR2 hL1
  go_upto_region 5 with (first | (refine wb_alloc H rfl 40 rfl _ Try.zeroValue40 ?_; clear H; intro b5 w H) | (refine wb_put H rfl 0 40 _ _ rfl _ 0 rfl _ _ rfl (.agg (stateC t1 sl2)) rfl 76 info35 (Hz1.out sl2) (Nat.le_of_ble_eq_true rfl) HO2.out _ (Hs1.out sl2) ?_; clear H; intro w H))
  replace H : Sb [] w0 w [(b5, stateC t1 sl2, 40), (b3, stateC t1 sl1, 40), (b2, entC ea (.slice (some ⟨be, 0, none⟩) 1 1), 45), (be, evC ⟨1, 0, 1, 2⟩, 49), (b1, stateC S0 (.slice none 0 0), 40)] R2 := H
  go_upto_region 6 with (refine wb_put H rfl 2 5 _ _ rfl _ 16 rfl _ _ rfl (.int .u8 1) rfl 1 info5m rfl (Nat.le_of_ble_eq_true rfl) rfl _ (HeB.out be) ?_; clear H; intro w H)
  replace H : Sb [] w0 w [(b5, stateC t1 sl2, 40), (b3, stateC t1 sl1, 40), (b2, entC eb (.slice (some ⟨be, 0, none⟩) 1 1), 45), (be, evC ⟨1, 0, 1, 2⟩, 49), (b1, stateC S0 (.slice none 0 0), 40)] R2 := H
  go_wp2_with (first | (refine wb_whole H rfl 4 40 _ rfl _ rfl (stateC S0 (.slice none 0 0)) rfl _ Try.underlying40 rfl 76 info35 Hz0.out ?_) | (refine wb_whole H rfl 2 45 _ rfl _ rfl (entC eb (.slice (some ⟨be, 0, none⟩) 1 1)) rfl _ Try.underlying45 rfl 26 info42 rfl ?_))
  refine (Apply_in S0 _ eb _ w0 _ _ _ H (HLN _ _) HS0.out.g HS0.out.t8 eb_wf (EvQ.ev (Q := [(be, evC ⟨1, 0, 1, 2⟩, 49)]) (.inr ⟨be, _, rfl, ⟨rfl, rfl, rfl, rfl⟩, rfl, List.mem_cons_self ..⟩) H (fun p hp => by rw [List.mem_singleton] at hp; subst hp; exact List.mem_cons_of_mem _ (List.mem_cons_of_mem _ (List.mem_cons_of_mem _ (List.mem_cons_self ..)))))).mono ?_
  rw [HA3.out]
  rintro e w2 ⟨⟨sl3, R3, rfl, H1, hL4, hR3⟩, -⟩
  clear H
  have H := H1
  clear H1
  have hL4 := Lib.hid (show LieIn w0 R3 sl3 S0.g.L from hL4)
  have hL5 := Lib.hid (hL3.out.mono hR3)
  have HO3 := Lib.hid (sc_oneI (s := S0) (hL4.out.shots H))
  have Hz3 := Lib.hid (sc_size (s := S0) (sl := sl3) HS0.out.g.s8 HS0.out.t8)
  have Hs3 : Hid (splice zC 0 (Value.cells (.agg (stateC S0 sl3))).toList = stateC S0 sl3) := Lib.hid (splice_all _ _ (by rw [zC_size]; exact Hz3.out.symm))
  clear hR3 hL3
  go_upto_region 7 with (first | (refine wb_alloc H rfl 40 rfl _ Try.zeroValue40 ?_; clear H; intro b7 w H) | (refine wb_put H rfl 0 40 _ _ rfl _ 0 rfl _ _ rfl (.agg (stateC S0 sl3)) rfl 76 info35 Hz3.out (Nat.le_of_ble_eq_true rfl) HO3.out _ Hs3.out ?_; clear H; intro w H))
  replace H : Sb [] w0 w [(b7, stateC S0 sl3, 40), (b5, stateC t1 sl2, 40), (b3, stateC t1 sl1, 40), (b2, entC eb (.slice (some ⟨be, 0, none⟩) 1 1), 45), (be, evC ⟨1, 0, 1, 2⟩, 49), (b1, stateC S0 (.slice none 0 0), 40)] R3 := H
  go_wp2_with (first | (refine wb_whole H rfl 5 40 _ rfl _ rfl (stateC S0 (.slice none 0 0)) rfl _ Try.underlying40 rfl 76 info35 Hz0.out ?_) | (refine wl_build rfl 45 #[] rfl (entC ec0 (.slice none 0 0)) (by kernel_rfl) ?_) | (refine wl_build rfl 45 #[(0, .const (.int .i64 1))] rfl (entC ec1 (.slice none 0 0)) (by kernel_rfl) ?_) | (refine wb_mk2 H rfl 53 45 _ _ rfl Try.underlying53 (entC ec0 (.slice none 0 0)) (entC ec1 (.slice none 0 0)) rfl rfl 26 Hent.out rfl rfl (by decide) (by decide) ?_; clear H; intro bs w H))
  replace H : Sb [] w0 w [(bs, ((entC ec0 (.slice none 0 0)).toList ++ (entC ec1 (.slice none 0 0)).toList).toArray, 45), (b7, stateC S0 sl3, 40), (b5, stateC t1 sl2, 40), (b3, stateC t1 sl1, 40), (b2, entC eb (.slice (some ⟨be, 0, none⟩) 1 1), 45), (be, evC ⟨1, 0, 1, 2⟩, 49), (b1, stateC S0 (.slice none 0 0), 40)] R3 := H
  refine (Run_in S0 _ [ec0, ec1] _ w0 _ _ _ H (HLN _ _) HS0.out.g HS0.out.t8 ec_wf (two_log H) (by decide)).mono ?_
  rw [HA4.out]
  rintro e w2 ⟨⟨sl4, R4, rfl, H1, hL6, hR4⟩, -⟩
  clear H
  have H := H1
  clear H1
  have hL6 := Lib.hid (show LieIn w0 R4 sl4 t2.g.L from hL6)
  have hL7 := Lib.hid (hL4.out.mono hR4)
  have HO4 := Lib.hid (sc_oneI (s := t2) (hL6.out.shots H))
  clear hR4 hL4 hL5
  go_upto_region 8 with (first | (refine wb_alloc H rfl 40 rfl _ Try.zeroValue40 ?_; clear H; intro b9 w H) | (refine wb_put H rfl 0 40 _ _ rfl _ 0 rfl _ _ rfl (.agg (stateC t2 sl4)) rfl 76 info35 (Hz2.out sl4) (Nat.le_of_ble_eq_true rfl) HO4.out _ (Hs2.out sl4) ?_; clear H; intro w H))
  replace H : Sb [] w0 w [(b9, stateC t2 sl4, 40), (bs, ((entC ec0 (.slice none 0 0)).toList ++ (entC ec1 (.slice none 0 0)).toList).toArray, 45), (b7, stateC S0 sl3, 40), (b5, stateC t1 sl2, 40), (b3, stateC t1 sl1, 40), (b2, entC eb (.slice (some ⟨be, 0, none⟩) 1 1), 45), (be, evC ⟨1, 0, 1, 2⟩, 49), (b1, stateC S0 (.slice none 0 0), 40)] R4 := H
  go_wp2_with (first | (refine wb_cell H rfl 4 4 _ rfl _ 2 rfl _ _ rfl Try.isAgg4 (.bool true) (C2.out sl1) ?_) | (refine wb_cell H rfl 4 3 _ rfl _ 0 rfl _ _ rfl Try.isAgg3 (.int .i64 1) (C1.out sl1) ?_) | (refine wb_cell H rfl 4 3 _ rfl _ 60 rfl _ _ rfl Try.isAgg3 (.int .i64 2) (C3.out sl1) ?_) | (refine wb_whole H rfl 2 40 _ rfl _ rfl (stateC S0 sl3) rfl _ Try.underlying40 rfl 76 info35 Hz3.out ?_) | (refine wb_whole H rfl 7 40 _ rfl _ rfl (stateC S0 (.slice none 0 0)) rfl _ Try.underlying40 rfl 76 info35 Hz0.out ?_))
  refine (foldSame S0 S0 sl3 _ _ HS0.out HS0.out (hL7.out.shots H).w ((HLN _ _ : LieIn w0 R4 _ _).shots H).w HLM).mono ?_
  rintro e w5 ⟨⟨r, rfl, hi⟩, hb⟩
  obtain rfl : r = true := hi.2 rfl
  replace H := H.call hb
  clear hb hi
  go_wp2_with (first | (refine wb_cell H rfl 0 3 _ rfl _ 0 rfl _ _ rfl Try.isAgg3 (.int .i64 2) (C4.out sl4) ?_) | (refine wb_whole H rfl 7 40 _ rfl _ rfl (stateC S0 (.slice none 0 0)) rfl _ Try.underlying40 rfl 76 info35 Hz0.out ?_))
  refine (fmay_b S0 _ _ HS0.out.g HS0.out.t8 ((HLN _ _ : LieIn w0 R4 _ _).shots H).w).mono ?_
  rw [HMay.out]
  rintro e w6 ⟨rfl, hb⟩
  replace H := H.call hb
  clear hb
  go_wp2_with fail
  go_ret
  exact ⟨rfl, H.below⟩
end Go.Proofs.Ytdopfonebpklkaa.game
namespace Go.Proofs.Ytdopfonebpklkaa.game
open Go.ChangeShapes Go.WideShapes Go.ChangeAt Go.RowKit dice
set_option maxRecDepth 100000

def inAt (k : Nat) (i : Inp) : List Inp := z8.set k i
def joinK (k : Nat) : Evt := ⟨1, k, 1, 5⟩
def leaveK (k : Nat) : Evt := ⟨2, k, 1, 5⟩
theorem z8_len : z8.length = 8 := rfl
theorem inAt_len (k : Nat) (i : Inp) : (inAt k i).length = 8 := by unfold inAt; rw [List.length_set]; rfl
theorem inAt_ok {k : Nat} {i : Inp} (h : i.ok) : ∀ j ∈ inAt k i, j.ok := fun j hj => by
  rcases List.mem_or_eq_of_mem_set hj with h' | rfl
  · exact z8_ok j h'
  · exact h
theorem inAt_may {k : Nat} {i : Inp} (h : mayIn i = true) : (inAt k i).all mayIn = true := by
  rw [List.all_eq_true]
  intro j hj
  rcases List.mem_or_eq_of_mem_set hj with h' | rfl
  · rw [List.eq_of_mem_replicate (show j ∈ List.replicate 8 zInp from h')]; decide
  · exact h
theorem inAt_at {k : Nat} {i : Inp} (hk : k < 8) : (inAt k i)[k]? = some i := by
  unfold inAt
  rw [List.getElem?_set_self (by rw [z8_len]; exact hk)]
theorem nobody_at {k : Nat} (hk : k < 8) : nobody[k]? = some ⟨-1, 0⟩ := by
  unfold nobody
  rw [List.getElem?_replicate, if_pos hk]
theorem insOk_in {k : Nat} {i : Inp} {T : List Seat} {q : Seat} (hq : T[k]? = some q) (h0 : 0 ≤ q.peer) : insOk (inAt k i) T = true := by
  unfold insOk
  rw [List.all_eq_true]
  rintro ⟨j, r⟩ hm
  obtain ⟨n, hn⟩ := List.mem_iff_getElem?.1 hm
  rw [List.getElem?_zip_eq_some] at hn
  obtain ⟨h1, h2⟩ := hn
  by_cases e : n = k
  · subst e
    rw [hq] at h2
    injection h2 with h2
    subst h2
    simp [h0]
  · unfold inAt at h1
    rw [List.getElem?_set_ne (fun h => e h.symm)] at h1
    have := List.mem_of_getElem? h1
    rw [List.eq_of_mem_replicate (show j ∈ List.replicate 8 zInp from this)]
    rfl
theorem insOk_z {T : List Seat} : insOk z8 T = true := by
  unfold insOk
  rw [List.all_eq_true]
  rintro ⟨i, q⟩ hm
  have hi := (List.of_mem_zip hm).1
  rw [List.eq_of_mem_replicate (show i ∈ List.replicate 8 zInp from hi)]
  rfl
theorem in_e0 {D : Int} {k : Nat} {i : Inp} (hk : k < 8) (hz : i.z = false) : applyF (startS D) ⟨0, [], inAt k i⟩ = none := by
  unfold applyF
  split
  · show (if insOk (inAt k i) nobody = true then _ else none) = none
    rw [if_neg]
    rw [insOk_no (inAt_at hk) (nobody_at hk) (by rw [hz]; rfl)]
    simp
  · rfl
theorem evMay_one {x : Evt} (h : mayEv x = true) : evsMay none [x] = true := by simp [evsMay, h]
theorem in_e1 {D : Int} {k : Nat} {i : Inp} (hk : k < 8) (hm : mayIn i = true) : ∃ t, applyF (startS D) ⟨0, [joinK k], inAt k i⟩ = some t ∧ t.ver = 1 ∧ t.T = nobody.set k ⟨5, 1⟩ ∧ t.g.fr = 1 ∧ t.may ∧ ∃ c, t.g.S[k]? = some c ∧ c.on = true := by
  have hkn : k < nobody.length := hk
  have e1 : evR 0 nobody (joinK k) = some (1, nobody.set k ⟨5, 1⟩) := by
    unfold evR joinK
    rw [if_pos ⟨by decide +kernel, by decide, by dsimp only; omega, by dsimp only; omega⟩]
    dsimp only
    rw [Int.toNat_natCast, nobody_at hk, Option.bind_some, if_pos ⟨rfl, by decide, by decide, by decide, by decide, by decide, by decide⟩]
    rfl
  have hevs : evsS (startS D) [joinK k] = some ⟨evG (startS D).g (joinK k), 1, nobody.set k ⟨5, 1⟩⟩ := by
    unfold evsS evS
    rw [show evR (startS D).ver (startS D).T (joinK k) = _ from e1]
    rfl
  have hent : entMay ⟨0, [joinK k], inAt k i⟩ = true := by
    have b1 : mayEv (joinK k) = true := by
      unfold mayEv joinK
      simp
      omega
    unfold entMay
    dsimp only
    rw [evMay_one b1, inAt_may hm]
    rfl
  have hap : applyF (startS D) ⟨0, [joinK k], inAt k i⟩ = some ⟨stepG (evG (startS D).g (joinK k)) (inAt k i), 1, nobody.set k ⟨5, 1⟩⟩ := by
    unfold applyF
    rw [if_pos ⟨(startS_may D).mayS, hent, rfl⟩]
    dsimp only
    rw [hevs, Option.bind_some, if_pos (insOk_in (q := ⟨5, 1⟩) (by dsimp only; rw [List.getElem?_set_self hkn]) (by decide))]
  obtain ⟨hmy, hf, _⟩ := applyF_may (s := startS D) rfl rfl hap
  refine ⟨_, hap, rfl, rfl, by rw [hf]; rfl, hmy, ?_⟩
  obtain ⟨c, hc⟩ : ∃ c, (stepG (evG (startS D).g (joinK k)) (inAt k i)).S[k]? = some c := ⟨_, List.getElem?_eq_getElem (by rw [hmy.g.s8]; exact hk)⟩
  refine ⟨c, hc, ?_⟩
  rw [pairs_idx.1 hmy.p k c ⟨5, 1⟩ hc (by dsimp only; rw [List.getElem?_set_self hkn])]
  rfl
theorem leave_ev {t : Ste} {k : Nat} (hk : k < 8) (hv : t.ver = 1) (hT : t.T = nobody.set k ⟨5, 1⟩) (hm : t.may) : evsS t [leaveK k] = some ⟨evG t.g (leaveK k), 2, t.T.set k ⟨-1, 1⟩⟩ := by
  have hat : t.T[k]? = some ⟨5, 1⟩ := by rw [hT, List.getElem?_set_self (show k < nobody.length from hk)]
  have e1 : evR t.ver t.T (leaveK k) = some (2, t.T.set k ⟨-1, 1⟩) := by
    unfold evR leaveK
    rw [if_pos ⟨hm.r, by rw [hv]; decide, by dsimp only; omega, by dsimp only; omega⟩]
    dsimp only
    rw [Int.toNat_natCast, hat, Option.bind_some, if_neg (by intro h; exact absurd h.1 (by decide)), if_pos ⟨rfl, by decide, rfl, rfl⟩, hv]
    rfl
  unfold evsS evS
  rw [e1]
  rfl
theorem leave_may (k : Nat) (hk : k < 8) : evsMay none [leaveK k] = true := evMay_one (by
  unfold mayEv leaveK
  simp
  omega)
theorem in_f1 {t : Ste} {k : Nat} (hk : k < 8) (hv : t.ver = 1) (hT : t.T = nobody.set k ⟨5, 1⟩) (hf : t.g.fr = 1) (hm : t.may) : ∃ u, applyF t ⟨1, [leaveK k], z8⟩ = some u ∧ u.T[k]? = some ⟨-1, 1⟩ ∧ u.may ∧ ∃ c, u.g.S[k]? = some c ∧ c.on = false := by
  have hkT : k < t.T.length := by rw [hm.t8]; exact hk
  have hent : entMay ⟨1, [leaveK k], z8⟩ = true := by
    unfold entMay
    dsimp only
    rw [leave_may k hk]
    rfl
  have hap : applyF t ⟨1, [leaveK k], z8⟩ = some ⟨stepG (evG t.g (leaveK k)) z8, 2, t.T.set k ⟨-1, 1⟩⟩ := by
    unfold applyF
    rw [if_pos ⟨hm.mayS, hent, hf.symm⟩]
    dsimp only
    rw [leave_ev hk hv hT hm, Option.bind_some, if_pos insOk_z]
  obtain ⟨hmy, _, _⟩ := applyF_may hm.g.s8 hm.t8 hap
  have hq : (t.T.set k ⟨-1, 1⟩)[k]? = some ⟨-1, 1⟩ := by rw [List.getElem?_set_self hkT]
  refine ⟨_, hap, hq, hmy, ?_⟩
  obtain ⟨c, hc⟩ : ∃ c, (stepG (evG t.g (leaveK k)) z8).S[k]? = some c := ⟨_, List.getElem?_eq_getElem (by rw [hmy.g.s8]; exact hk)⟩
  refine ⟨c, hc, ?_⟩
  rw [pairs_idx.1 hmy.p k c _ hc hq]
  rfl
theorem in_f2 {t : Ste} {k : Nat} {i : Inp} (hk : k < 8) (hv : t.ver = 1) (hT : t.T = nobody.set k ⟨5, 1⟩) (hm : t.may) (hz : i.z = false) : applyF t ⟨1, [leaveK k], inAt k i⟩ = none := by
  have hkT : k < t.T.length := by rw [hm.t8]; exact hk
  unfold applyF
  split
  · dsimp only
    rw [leave_ev hk hv hT hm, Option.bind_some, if_neg]
    rw [insOk_no (inAt_at hk) (show (t.T.set k ⟨-1, 1⟩)[k]? = some ⟨-1, 1⟩ by rw [List.getElem?_set_self hkT]) (by rw [hz]; rfl)]
    simp
  · rfl
end Go.Proofs.Ytdopfonebpklkaa.game
