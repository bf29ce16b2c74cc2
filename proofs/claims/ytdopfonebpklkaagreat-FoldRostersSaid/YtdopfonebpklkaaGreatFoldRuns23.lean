/- Make: a log that may be (printed by mkxi.py). -/
import Derived.Test.YtdopfonebpklkaaGreatFoldRuns22
namespace Go.Proofs.YtdopfonebpklkaaGreat.game
open Go.ChangeShapes Go.WideShapes Go.ChangeAt Go.RowKit dice
set_option maxRecDepth 100000

structure Trn where
  peer : Int
  ins : List Inp
structure Trn.ok (t : Trn) : Prop where
  i8 : t.ins.length = 8
  ins : ∀ i ∈ t.ins, i.ok
  peer : (Lit.int .i64 t.peer).wf = true
def trnL (t : Trn) : List Value := .int .i64 t.peer :: t.ins.flatMap inpL
def TrnW (W : World) (v : Value) (L : List Trn) : Prop :=
  (L = [] ∧ ∃ ad c, v = .slice ad 0 c) ∨ ∃ g o c, v = .slice (some ⟨g, o, none⟩) L.length c ∧ g < W.heap.size ∧ ∀ (k : Nat) (t : Trn), L[k]? = some t → W.rangeAt g (o + k * 25) (trnL t)
theorem TrnW.later {W W' : World} {v : Value} {L : List Trn} (h : TrnW W v L) (hb : Below W.heap.size W W') : TrnW W' v L := by
  rcases h with h | ⟨g, o, c, h1, h2, h3⟩
  · exact .inl h
  · exact .inr ⟨g, o, c, h1, Nat.lt_of_lt_of_le h2 hb.size, fun k t a j u hu => (hb.cell (p := ⟨g, o + k * 25 + j, none⟩) h2).trans (h3 k t a j u hu)⟩
theorem TrnW.form {W : World} {v : Value} {L : List Trn} (h : TrnW W v L) : ∃ ad c, v = .slice ad L.length c := by
  rcases h with ⟨rfl, ad, c, rfl⟩ | ⟨g, o, c, rfl, _⟩
  · exact ⟨ad, c, rfl⟩
  · exact ⟨_, _, rfl⟩
/-- What Make answers: a log that may be, at most so long. -/
def MakeOut (D : Int) (n : Nat) (W0 : World) (e : Ending) (w' : World) : Prop :=
  Below W0.heap.size W0 w' ∧ ∃ (ad : Option Addr) (c : Nat) (log : List Ent) (st : Ste), e = .returned (.slice ad log.length c) ∧ log.length ≤ c ∧ c ≤ maxLen ∧ log.length ≤ n ∧ (∀ e ∈ log, e.wf ∧ e.evs.length ≤ 1) ∧ runF (startS D) log = some st ∧ LogW w' (.slice ad log.length c) log
theorem info36m : (Tryz.prog.info? 36).map (·.size) = some 1 := by kernel_rfl
theorem info60z : (Tryz.prog.info? 60).map (fun i => (i.zero, i.size, i.bytes)) = some (some (.agg #[.int .i64 0, .int .i64 0, .int .i64 0, .int .i64 0]), 4, 32) := by kernel_rfl
theorem info42z : (Tryz.prog.info? 42).map (fun i => (i.zero, i.size, i.bytes)) = some (some (.agg zE), 26, 56) := by kernel_rfl
theorem info_ev : ∃ i z, Tryz.prog.info? 60 = some i ∧ i.zero = some z ∧ i.size = 4 := by
  have h := info60z
  cases hq : Tryz.prog.info? 60 with
  | none => rw [hq] at h; cases h
  | some i =>
    rw [hq] at h
    simp at h
    exact ⟨i, _, rfl, h.1, h.2.1⟩
theorem info_ent : ∃ i, Tryz.prog.info? 42 = some i ∧ i.zero = some (.agg zE) ∧ i.size = 26 ∧ i.bytes = 56 := by
  have h := info42z
  cases hq : Tryz.prog.info? 42 with
  | none => rw [hq] at h; cases h
  | some i =>
    rw [hq] at h
    simp at h
    exact ⟨i, rfl, h.1, h.2.1, h.2.2⟩
theorem startS_may (D : Int) : (startS D).may :=
  ⟨⟨show (0 : Int) ≤ 0 by decide, show (0 : Int) ≤ 1048576 by decide, rfl, fun t ht => by rw [List.eq_of_mem_replicate (show t ∈ List.replicate 8 zShp from ht)]; exact zShp_ok, fun s hs => by simp [startS] at hs, by simp [startS]⟩, by show mayR 0 nobody = true; decide +kernel, by show pairs (List.replicate 8 zShp) nobody = true; decide +kernel, rfl⟩
def z8 : List Inp := List.replicate 8 zInp
theorem z8_ok : ∀ i ∈ z8, i.ok := fun i hi => by rw [List.eq_of_mem_replicate (show i ∈ List.replicate 8 zInp from hi)]; exact zInp_ok
theorem LogQ.mono {Q Q' : List Blk} {v : Value} {log : List Ent} {es : List Value} (h : LogQ Q v log es) (hs : ∀ p ∈ Q, p ∈ Q') : LogQ Q' v log es :=
  ⟨h.len, fun k e s a b => (h.ev k e s a b).mono hs, h.i8, h.ins, h.row.mono hs⟩
theorem LogQ.cap {Q : List Blk} {ad : Option Addr} {c : Nat} {log : List Ent} {es : List Value} (h : LogQ Q (.slice ad log.length c) log es) : log.length ≤ c ∧ c ≤ maxLen := by
  rcases h.row.2 with ⟨e, h0⟩ | ⟨g, cap, cur, e, _, h1, h2, _⟩
  · injection e with e1 e2 e3
    subst e3
    exact ⟨by omega, Nat.zero_le _⟩
  · injection e with e1 e2 e3
    subst e3
    exact ⟨h1, h2⟩
theorem EvQ.form {Q : List Blk} {s : Value} {evs : List Evt} (h : EvQ Q s evs) : ∃ ad c, s = .slice ad evs.length c := by
  rcases h with ⟨rfl, rfl⟩ | ⟨g, x, rfl, _, rfl, _⟩ <;> exact ⟨_, _, rfl⟩
theorem wf_wrap64 (x : Int) : (Lit.int .i64 (Go.RowKit.wrap64 x)).wf = true := by
  unfold Go.RowKit.wrap64
  simp [Lit.wf, IntKind.min, IntKind.max, IntKind.signed, IntKind.bits]
  omega
theorem ofI_at {ver : Int} {T : List Seat} {p : Int} (h : 0 ≤ ofI ver T p) (h8 : T.length = 8) : ∃ n q, ofI ver T p = ((n : Nat) : Int) ∧ n < 8 ∧ T[n]? = some q := by
  unfold ofI at h ⊢
  split at h
  · rename_i hc
    rw [if_pos hc]
    unfold slotI at h ⊢
    cases hf : T.findIdx? (fun q => q.peer == p) with
    | none => rw [hf] at h; simp at h
    | some n =>
      have hl := (List.findIdx?_eq_some_iff_getElem.1 hf).1
      exact ⟨n, T[n], rfl, by omega, List.getElem?_eq_getElem hl⟩
  · omega
theorem w64' {a : Int} (h0 : -9223372036854775808 ≤ a) (h1 : a ≤ 9223372036854775807) : (Lit.int .i64 a).wf = true := by
  simp [Lit.wf, IntKind.min, IntKind.max, IntKind.signed, IntKind.bits]
  omega
theorem startS_wf (D : Int) (hD : (Lit.int .u64 D).wf = true) : (startS D).g.wf := Ste.may.wf (startS_may D) hD
set_option maxHeartbeats 16000000 in
theorem make_b (sd : ByteArray) (L : List Trn) (v : Value) (w0 : World) (hs : sd.size ≤ maxLen) (D : Int) (hd : seed sd.data.toList = D) (hD : (Lit.int .u64 D).wf = true) (hT : ∀ t ∈ L, t.ok) (hin : TrnW w0 v L) (hn : L.length ≤ 1000) :
    Calls Tryz.prog 23 #[.string sd, v] w0 (MakeOut D L.length w0) := by
  have H := Sb.start w0
  have HS := Lib.hid (fun w => rstart_any sd w hs D hd)
  have HT := Lib.hid hT
  have HI := Lib.hid hin
  have Hn' : Hid ((L.length : Int) ≤ 1000) := Lib.hid (by omega)
  have Hst := Lib.hid (startS_may D)
  have HstW := Lib.hid hD
  obtain ⟨ad, c, rfl⟩ := hin.form
  clear hs hd hT hin hn hD
  go_enter Tryz.func23, Tryz.ntmps23
  go_wp2_with fail
  refine (HS.out _).mono ?_; rintro e w' ⟨rfl, hb⟩
  replace H := H.call hb
  clear hb HS
  have Hz0 := Lib.hid (sc_size (s := startS D) (sl := .slice none 0 0) rfl rfl)
  go_upto_region 3 with (first | (refine wb_alloc H rfl 35 rfl _ Tryz.zeroValue35 ?_; clear H; intro b5 w H) | (refine wb_put H rfl 0 35 _ _ rfl _ 0 rfl _ _ rfl (.agg (stateC (startS D) (.slice none 0 0))) rfl 76 info35 Hz0.out (Nat.le_of_ble_eq_true rfl) rfl (stateC (startS D) (.slice none 0 0)) rfl ?_; clear H; intro w H))
  replace H : Sb [] w0 w [(b5, stateC (startS D) (.slice none 0 0), 35)] [] := H
  go_upto_region 4 with fail
  have HB := Lib.hid H
  clear H
  go_loopw [6, 7] (fun l6 i W => ∃ (k : Nat) (st : Ste) (sl : Value) (R : List RowS) (Q : List Blk) (log : List Ent) (es : List Value) (adv : Option Addr) (cv : Nat), l6 = .slice adv log.length cv ∧ k ≤ L.length ∧ i = .int .i64 k ∧ Hid (LogQ Q (.slice adv log.length cv) log es) ∧ Hid (log.length ≤ k) ∧ Hid (Sb [] w0 W ((b5, stateC st sl, 35) :: Q) R) ∧ Hid (Lie w0 R sl st.g.L) ∧ Hid (runF (startS D) log = some st ∧ st.may)) (fun _ i _ => L.length - (intOf i).toNat)
  case atStart => exact ⟨0, startS D, .slice none 0 0, [], [], [], [], none, 0, rfl, Nat.zero_le _, rfl, Lib.hid ⟨rfl, fun k e s h => by simp at h, fun e h => by simp at h, fun e h => by simp at h, rfl, .inl ⟨rfl, rfl⟩⟩, Lib.hid (Nat.le_refl _), HB, Lib.hid (.inl ⟨rfl, .inl ⟨rfl, rfl⟩⟩), Lib.hid ⟨rfl, Hst.out⟩⟩
  case round =>
    clear HB
    obtain ⟨k, st, sl, R, Q, log, es, adv, cv, rfl, hk, rfl, HLo, Hlk, HB, HLi, HA⟩ := hrel
    have hn' := Hn'.out
    by_cases hlt : k < L.length
    · obtain ⟨t, ht⟩ : ∃ t, L[k]? = some t := ⟨L[k], List.getElem?_eq_getElem hlt⟩
      have Hto := Lib.hid (HT.out t (List.mem_of_getElem? ht))
      obtain ⟨g, o, had, hg, hcs⟩ : ∃ g o, ad = some ⟨g, o, none⟩ ∧ g < w0.heap.size ∧ w0.rangeAt g (o + k * 25) (trnL t) := by
        rcases HI.out with ⟨e, _⟩ | ⟨g, o, c', e, hg, hc⟩
        · rw [e] at hlt; exact absurd hlt (Nat.not_lt_zero _)
        · injection e with e1 e2 e3
          exact ⟨g, o, e1, hg, hc k t ht⟩
      subst had
      have Hcs := Lib.hid hcs
      have Hg := Lib.hid hg
      have H := HB.out
      have Hz := Lib.hid (sc_size (s := st) (sl := sl) HA.out.2.g.s8 HA.out.2.t8)
      have HRs := Lib.hid (fun j v h => sc_roster (s := st) (sl := sl) HA.out.2.g.s8 j v h)
      have Hrz := Lib.hid (rc_size (ver := st.ver) HA.out.2.t8)
      have Ht8 := Lib.hid HA.out.2.t8
      have HspE : Hid (splice zE 0 (Value.cells (.agg (entC ⟨k, [], z8⟩ (.slice none 0 0)))).toList = entC ⟨k, [], z8⟩ (.slice none 0 0)) := Lib.hid (splice_all _ _ rfl)
      have HspR : Hid (splice zR 0 (Value.cells (.agg (rosterC st.ver st.T))).toList = rosterC st.ver st.T) := Lib.hid (splice_all _ _ (by simp [Value.cells, Hrz.out, zR]))
      clear HB hcs hg ht
      go_upto_region 8 with (first | (refine wl_build rfl 42 _ rfl (entC ⟨k, [], z8⟩ (.slice none 0 0)) (by kernel_rfl) ?_) | (refine wb_alloc H rfl 42 rfl _ Tryz.zeroValue42 ?_; clear H; intro b8 w H; replace H : Sb [] w0 w ((b8, zE, 42) :: (b5, stateC st sl, 35) :: Q) R := H) | (refine wb_put H rfl 0 42 _ _ rfl _ 0 rfl _ _ rfl (.agg (entC ⟨k, [], z8⟩ (.slice none 0 0))) rfl 26 info42 rfl (Nat.le_of_ble_eq_true rfl) rfl _ HspE.out ?_; clear H; intro w H; replace H : Sb [] w0 w ((b8, entC ⟨k, [], z8⟩ (.slice none 0 0), 42) :: (b5, stateC st sl, 35) :: Q) R := H) | (refine wb_part H rfl 1 33 _ rfl _ 59 rfl _ _ rfl _ Tryz.underlying33 rfl 17 info33 (rosterC st.ver st.T).toList (fun j v h => HRs.out j v (by simpa using h)) (by rw [Array.length_toList]; exact Hrz.out) ?_; rw [Array.toArray_toList]) | (refine wb_alloc H rfl 33 rfl _ Tryz.zeroValue33 ?_; clear H; intro b9 w H; replace H : Sb [] w0 w ((b9, zR, 33) :: (b8, entC ⟨k, [], z8⟩ (.slice none 0 0), 42) :: (b5, stateC st sl, 35) :: Q) R := H) | (refine wb_put H rfl 0 33 _ _ rfl _ 0 rfl _ _ rfl (.agg (rosterC st.ver st.T)) rfl 17 info33 Hrz.out (Nat.le_of_ble_eq_true rfl) rc_one _ HspR.out ?_; clear H; intro w H))
      replace H : Sb [] w0 w ((b9, rosterC st.ver st.T, 33) :: (b8, entC ⟨k, [], z8⟩ (.slice none 0 0), 42) :: (b5, stateC st sl, 35) :: Q) R := H
      have c0 : w.cell? ⟨g, o + k * 25, none⟩ = some (.int .i64 t.peer) := (World.cell?_of_block (a := ⟨g, o + k * 25, none⟩) (H.fr g Hg.out (by simp))).trans (Hcs.out 0 _ rfl)
      go_upto_region 9 with fail
      have Hpw := Lib.hid (wf_wrap64 ((IntKind.u64.wrap t.peer).tmod 40))
      generalize wrap64 ((IntKind.u64.wrap t.peer).tmod 40) = p at *
      have HStw : Hid st.g.wf := Lib.hid (runF_wf log (startS_wf D HstW.out) rfl HA.out.1).1
      try clear c0
      go_upto_if 38 with fail
      go_cut [11] (fun v wx => ∃ (es1 : Value) (evs : List Evt) (Q1 : List Blk), Hid (EvQ Q1 es1 evs) ∧ Hid (∀ p ∈ Q, p ∈ Q1) ∧ Hid (Sb [] w0 wx ((b9, rosterC st.ver st.T, 33) :: (b8, entC ⟨k, evs, z8⟩ es1, 42) :: (b5, stateC st sl, 35) :: Q1) R))
      case first =>
        by_cases hp12 : p < 12
        · have q12 : decide (p < 12) = true := decide_eq_true hp12
          go_upto_region 10 with fail
          refine Gt_start 6 [] H (fun q hq => by simp at hq) (by kernel_rfl) rfl ?_
          clear H
          intro w H hbG
          clear hbG
          refine Gs_loadRow 0 6 (fun d _ _ _ _ h => by cases d <;> exact h) (by kernel_rfl) rfl _ _ rfl rfl (some 39) rfl (by kernel_rfl) (by kernel_rfl) (TF_ne (by decide)) b9 (0) rfl (rosterC st.ver st.T).toList (fun j v hv => TF_blk (i := 0) 0 j rfl (by rw [Nat.zero_add]; simpa using hv)) (by kernel_rfl) _ Tryz.underlying33 rfl (by rw [Array.length_toList, Hrz.out]; exact info33) ?_
          rw [Array.toArray_toList]
          simp only [Act.put, List.setIfInBounds_toArray, List.set_cons_succ, List.set_cons_zero]
          refine Gv_move 1 (fun d _ _ _ _ h => by cases d <;> exact h) (by kernel_rfl) rfl _ rfl rfl (some 40) rfl (by kernel_rfl) (by kernel_rfl) (TF_ne (by decide)) (.int _ _) rfl ?_
          simp only [Act.put, List.setIfInBounds_toArray, List.set_cons_succ, List.set_cons_zero]
          refine Gs_loadRow 3 6 (fun d _ _ _ _ h => by cases d <;> exact h) (by kernel_rfl) rfl _ _ rfl rfl (some 42) rfl (by kernel_rfl) (by kernel_rfl) (TF_ne (by decide)) b9 (0) rfl (rosterC st.ver st.T).toList (fun j v hv => TF_blk (i := 0) 0 j rfl (by rw [Nat.zero_add]; simpa using hv)) (by kernel_rfl) _ Tryz.underlying33 rfl (by rw [Array.length_toList, Hrz.out]; exact info33) ?_
          rw [Array.toArray_toList]
          simp only [Act.put, List.setIfInBounds_toArray, List.set_cons_succ, List.set_cons_zero]
          refine Gv_callB 2 rfl (by kernel_rfl) (some 41) rfl rfl 28 #[.agg (rosterC st.ver st.T), .int .i64 p] (by go_simp; first | rfl | done) (rslot_b st.ver st.T p _ Ht8.out) ?_
          rintro e w5 ⟨rfl, hb⟩
          refine ⟨_, rfl, hb, ?_⟩
          replace H := H.call hb
          clear hb
          simp only [Act.put, List.setIfInBounds_toArray, List.set_cons_succ, List.set_cons_zero]
          refine Gv_callB 4 rfl (by kernel_rfl) (some 43) rfl rfl 64 #[.agg (rosterC st.ver st.T)] (by go_simp; first | rfl | done) (rfree_b st.ver st.T _ Ht8.out) ?_
          rintro e w6 ⟨⟨f, hf0, hf8, rfl⟩, hb⟩
          refine ⟨_, rfl, hb, ?_⟩
          replace H := H.call hb
          clear hb
          simp only [Act.put, List.setIfInBounds_toArray, List.set_cons_succ, List.set_cons_zero]
          refine Gv_val 5 rfl (by kernel_rfl) (some 11) rfl rfl (.int .i64 (ofI st.ver st.T p)) (by go_simp) ?_
          simp only [Act.put, List.setIfInBounds_toArray, List.set_cons_succ, List.set_cons_zero]
          refine Gs_tail 6 (by kernel_rfl) TF_eq (by kernel_rfl) rfl ?_
          simp only [List.drop_succ_cons, List.drop_zero]
          by_cases hs : 0 ≤ ofI st.ver st.T p
          · obtain ⟨n, q, hon, hn8, hq⟩ := ofI_at hs Ht8.out
            have hqo := (mayR_iff.1 HA.out.2.r).2.2.1 q (List.mem_of_getElem? hq)
            have hgw : (Lit.int .i64 q.gen).wf = true := w64' (by have := hqo.2.2.1; omega) (by have := hqo.2.2.2.1; omega)
            rw [hon]
            clear hs hon
            have hn8' : (n : Int) < 8 := by omega
            have qs : decide (0 ≤ (n : Int)) = true := decide_eq_true (by omega)
            have c1 : w6.cell? ⟨b9, 1 + n * 2 + 1, none⟩ = some (.int .i64 q.gen) := (cell_of_row _ b9 _ _ 33 (0, 0) (H.holds _ (List.mem_cons_self ..))).trans (rc_seat n 1 q _ hq rfl)
            clear hqo hq hf0 hf8
            go_wp2_with (first | (refine wl_build rfl 60 _ rfl (evC ⟨2, n, q.gen, p⟩) (by kernel_rfl) ?_) | (refine wb_mk1 H rfl 36 60 _ rfl Tryz.underlying36 (evC ⟨2, n, q.gen, p⟩) rfl 4 info_ev rfl (by decide) (by decide) ?_; clear H; intro be w H; replace H : Sb [] w0 w ((be, evC ⟨2, n, q.gen, p⟩, 60) :: (b9, rosterC st.ver st.T, 33) :: (b8, entC ⟨k, [], z8⟩ (.slice none 0 0), 42) :: (b5, stateC st sl, 35) :: Q) R := H) | (refine wb_put H rfl 2 36 _ _ rfl _ 1 rfl _ _ rfl (.slice (some ⟨be, 0, none⟩) 1 1) rfl 1 info36m rfl (Nat.le_of_ble_eq_true rfl) rfl (entC ⟨k, [⟨2, n, q.gen, p⟩], z8⟩ (.slice (some ⟨be, 0, none⟩) 1 1)) en_putEv ?_; clear H; intro w H))
            replace H : Sb [] w0 w ((be, evC ⟨2, n, q.gen, p⟩, 60) :: (b9, rosterC st.ver st.T, 33) :: (b8, entC ⟨k, [⟨2, n, q.gen, p⟩], z8⟩ (.slice (some ⟨be, 0, none⟩) 1 1), 42) :: (b5, stateC st sl, 35) :: Q) R := H
            go_meet
            exact ⟨_, [⟨2, n, q.gen, p⟩], (be, evC ⟨2, n, q.gen, p⟩, 60) :: Q, Lib.hid (.inr ⟨be, _, rfl, ⟨rfl, w64' (by dsimp only; omega) (by dsimp only; omega), hgw, Hpw.out⟩, rfl, List.mem_cons_self ..⟩), Lib.hid (fun p hp => List.mem_cons_of_mem _ hp), Lib.hid (H.perm (List.perm_middle (l₁ := [(b9, rosterC st.ver st.T, 33), (b8, entC ⟨k, [⟨2, n, q.gen, p⟩], z8⟩ (.slice (some ⟨be, 0, none⟩) 1 1), 42), (b5, stateC st sl, 35)])))⟩
          · have qs : decide (0 ≤ ofI st.ver st.T p) = false := decide_eq_false hs
            by_cases hf : 0 ≤ f
            · obtain ⟨n, rfl⟩ : ∃ n : Nat, f = n := ⟨f.toNat, by omega⟩
              obtain ⟨q, hq⟩ : ∃ q, st.T[n]? = some q := ⟨st.T[n]'(by rw [Ht8.out]; omega), List.getElem?_eq_getElem _⟩
              have hqo := (mayR_iff.1 HA.out.2.r).2.2.1 q (List.mem_of_getElem? hq)
              have hg0 := hqo.2.2.1
              have hg1 := hqo.2.2.2.1
              have hgw : (Lit.int .i64 (q.gen + 1)).wf = true := w64' (by omega) (by omega)
              have hww : Go.RowKit.wrap64 (q.gen + 1) = q.gen + 1 := IntWalk.wrap64_in _ (by omega)
              have qf : decide (0 ≤ (n : Int)) = true := decide_eq_true (by omega)
              have c1 : w6.cell? ⟨b9, 1 + n * 2 + 1, none⟩ = some (.int .i64 q.gen) := (cell_of_row _ b9 _ _ 33 (0, 0) (H.holds _ (List.mem_cons_self ..))).trans (rc_seat n 1 q _ hq rfl)
              clear hqo hq hf0
              go_wp2_with (first | (refine wl_build rfl 60 _ rfl (evC ⟨1, n, q.gen + 1, p⟩) (by kernel_rfl) ?_) | (refine wb_mk1 H rfl 36 60 _ rfl Tryz.underlying36 (evC ⟨1, n, q.gen + 1, p⟩) rfl 4 info_ev rfl (by decide) (by decide) ?_; clear H; intro be w H; replace H : Sb [] w0 w ((be, evC ⟨1, n, q.gen + 1, p⟩, 60) :: (b9, rosterC st.ver st.T, 33) :: (b8, entC ⟨k, [], z8⟩ (.slice none 0 0), 42) :: (b5, stateC st sl, 35) :: Q) R := H) | (refine wb_put H rfl 2 36 _ _ rfl _ 1 rfl _ _ rfl (.slice (some ⟨be, 0, none⟩) 1 1) rfl 1 info36m rfl (Nat.le_of_ble_eq_true rfl) rfl (entC ⟨k, [⟨1, n, q.gen + 1, p⟩], z8⟩ (.slice (some ⟨be, 0, none⟩) 1 1)) en_putEv ?_; clear H; intro w H))
              replace H : Sb [] w0 w ((be, evC ⟨1, n, q.gen + 1, p⟩, 60) :: (b9, rosterC st.ver st.T, 33) :: (b8, entC ⟨k, [⟨1, n, q.gen + 1, p⟩], z8⟩ (.slice (some ⟨be, 0, none⟩) 1 1), 42) :: (b5, stateC st sl, 35) :: Q) R := H
              go_meet
              exact ⟨_, [⟨1, n, q.gen + 1, p⟩], (be, evC ⟨1, n, q.gen + 1, p⟩, 60) :: Q, Lib.hid (.inr ⟨be, _, rfl, ⟨rfl, w64' (by dsimp only; omega) (by dsimp only; omega), hgw, Hpw.out⟩, rfl, List.mem_cons_self ..⟩), Lib.hid (fun p hp => List.mem_cons_of_mem _ hp), Lib.hid (H.perm (List.perm_middle (l₁ := [(b9, rosterC st.ver st.T, 33), (b8, entC ⟨k, [⟨1, n, q.gen + 1, p⟩], z8⟩ (.slice (some ⟨be, 0, none⟩) 1 1), 42), (b5, stateC st sl, 35)])))⟩
            · have qf : decide (0 ≤ f) = false := decide_eq_false hf
              go_wp2_with fail
              go_meet
              exact ⟨.slice none 0 0, [], Q, Lib.hid (.inl ⟨rfl, rfl⟩), Lib.hid (fun p hp => hp), Lib.hid H⟩
        · have q12 : decide (p < 12) = false := decide_eq_false hp12
          go_wp2_with fail
          go_meet
          exact ⟨.slice none 0 0, [], Q, Lib.hid (.inl ⟨rfl, rfl⟩), Lib.hid (fun p hp => hp), Lib.hid H⟩
      case rest =>
        obtain ⟨es1, evs, Q1, HE, HQ, HB2⟩ := hcut
        have H := HB2.out
        clear HB2
        obtain ⟨adE, cE, hes⟩ := HE.out.form
        subst hes
        have Hev1 := Lib.hid HE.out.len
        have hev1 : (evs.length : Int) ≤ 1 := by have := Hev1.out; omega
        have Hev1' := Lib.hid hev1
        clear hev1
        go_upto_region 16 with fail
        have HB := Lib.hid H
        clear H
        go_loopw [13] (fun i W => ∃ (j : Nat) (v1 : Int) (T1 : List Seat), j ≤ evs.length ∧ i = .int .i64 j ∧ Hid (T1.length = 8) ∧ Hid (Sb [] w0 W ((b9, rosterC v1 T1, 33) :: (b8, entC ⟨k, evs, z8⟩ (.slice adE evs.length cE), 42) :: (b5, stateC st sl, 35) :: Q1) R)) (fun i _ => evs.length - (intOf i).toNat)
        case atStart => exact ⟨0, st.ver, st.T, Nat.zero_le _, rfl, Ht8, HB⟩
        case round =>
          clear HB
          obtain ⟨j, v1, T1, hj, rfl, HT1, HB⟩ := hrel
          have Hrz1 := Lib.hid (rc_size (ver := v1) HT1.out)
          by_cases hlt2 : j < evs.length
          · obtain ⟨g2, x, he, hxw, hs, hm⟩ : ∃ g2 x, evs = [x] ∧ x.wf ∧ Value.slice adE evs.length cE = .slice (some ⟨g2, 0, none⟩) 1 1 ∧ (g2, evC x, 60) ∈ Q1 := by
              rcases HE.out with ⟨e, _⟩ | h
              · rw [e] at hlt2; exact absurd hlt2 (Nat.not_lt_zero _)
              · exact h
            subst he
            injection hs with hs1 hs2 hs3
            subst hs1 hs3
            obtain rfl : j = 0 := by simp at hlt2; exact hlt2
            have H : Sb [] w0 wr ((b9, rosterC v1 T1, 33) :: (b8, entC ⟨k, [x], z8⟩ (.slice (some ⟨g2, 0, none⟩) 1 1), 42) :: (b5, stateC st sl, 35) :: Q1) R := HB.out
            clear HB hj
            go_upto_region 18 with (refine wb_cell H rfl 1 36 _ rfl _ 1 rfl _ _ rfl Tryz.isAgg36 (.slice (some ⟨g2, 0, none⟩) 1 1) rfl ?_)
            refine Gt_start 10 [(g2, 0, evL x)] H (fun q hq => by rw [List.mem_singleton] at hq; subst hq; exact fun j u hu => by rw [Nat.zero_add, cell_of_row _ g2 j _ 60 (0, 0) (H.holds _ (List.mem_cons_of_mem _ (List.mem_cons_of_mem _ (List.mem_cons_of_mem _ hm))))]; unfold evC; rw [List.getElem?_toArray]; exact hu) (by kernel_rfl) rfl ?_
            clear H
            intro w H hbG
            clear hbG
            refine Gs_loadRow 0 10 (fun d _ _ _ _ h => by cases d <;> exact h) (by kernel_rfl) rfl _ _ rfl rfl (some 77) rfl (by kernel_rfl) (by kernel_rfl) (TF_ne (by decide)) b9 (0) rfl (rosterC v1 T1).toList (fun j v hv => TF_blk (i := 0) 0 j rfl (by rw [Nat.zero_add]; simpa using hv)) (by kernel_rfl) _ Tryz.underlying33 rfl (by rw [Array.length_toList, Hrz1.out]; exact info33) ?_
            rw [Array.toArray_toList]
            simp only [Act.put, List.setIfInBounds_toArray, List.set_cons_succ, List.set_cons_zero]
            refine Gv_bin 1 (fun d _ _ _ _ h => by cases d <;> exact h) (by kernel_rfl) rfl rfl (some 78) rfl (by kernel_rfl) (by kernel_rfl) (TF_ne (by decide)) (.pointer (some ⟨b8, 1, none⟩)) (fun w => by go_simp) ?_
            simp only [Act.put, List.setIfInBounds_toArray, List.set_cons_succ, List.set_cons_zero]
            refine Gs_load 2 10 (fun d _ _ _ _ h => by cases d <;> exact h) (by kernel_rfl) rfl _ _ rfl rfl (some 79) rfl (by kernel_rfl) (by kernel_rfl) (TF_ne (by decide)) _ rfl Tryz.isAgg36 (_) (TF_cell (i := 1) rfl (show (entC ⟨k, [x], z8⟩ (.slice (some ⟨g2, 0, none⟩) 1 1))[1]? = some (.slice (some ⟨g2, 0, none⟩) 1 1) from rfl)) (by kernel_rfl) ?_
            simp only [Act.put, List.setIfInBounds_toArray, List.set_cons_succ, List.set_cons_zero]
            refine Gv_move 3 (fun d _ _ _ _ h => by cases d <;> exact h) (by kernel_rfl) rfl _ rfl rfl (some 80) rfl (by kernel_rfl) (by kernel_rfl) (TF_ne (by decide)) (.int _ _) rfl ?_
            simp only [Act.put, List.setIfInBounds_toArray, List.set_cons_succ, List.set_cons_zero]
            refine Gv_bin 4 (fun d _ _ _ _ h => by cases d <;> exact h) (by kernel_rfl) rfl rfl (some 81) rfl (by kernel_rfl) (by kernel_rfl) (TF_ne (by decide)) (.pointer (some ⟨g2, 0, none⟩)) (fun w => by go_simp) ?_
            simp only [Act.put, List.setIfInBounds_toArray, List.set_cons_succ, List.set_cons_zero]
            refine Gs_loadRow 5 10 (fun d _ _ _ _ h => by cases d <;> exact h) (by kernel_rfl) rfl _ _ rfl rfl (some 82) rfl (by kernel_rfl) (by kernel_rfl) (TF_ne (by decide)) g2 (0) rfl (evL x) (fun j v hv => TF_old (i := 0) j rfl hv) (by kernel_rfl) _ Tryz.underlying60 rfl info60e ?_
            simp only [Act.put, List.setIfInBounds_toArray, List.set_cons_succ, List.set_cons_zero]
            refine Gv_callB 6 rfl (by kernel_rfl) (some 83) rfl rfl 55 #[.agg (rosterC v1 T1), .agg (evC x)] (by go_simp; first | rfl | done) (revent v1 T1 x _ HT1.out hxw) ?_
            rintro e w5 ⟨he, hb⟩
            unfold RosOut at he
            subst he
            refine ⟨_, rfl, hb, ?_⟩
            replace H := H.call hb
            clear hb
            obtain ⟨r, hr⟩ : ∃ r, (evR v1 T1 x).getD (v1, T1) = r := ⟨_, rfl⟩
            have hr8 : r.2.length = 8 := by
              rw [← hr]
              cases hv : evR v1 T1 x with
              | none => exact HT1.out
              | some y => exact (evR_may hv).2.2.trans HT1.out
            rw [hr]
            simp only [Act.put, List.setIfInBounds_toArray, List.set_cons_succ, List.set_cons_zero]
            refine Gv_move 7 (fun d _ _ _ _ h => by cases d <;> exact h) (by kernel_rfl) rfl _ rfl rfl (some 76) rfl (by kernel_rfl) (by kernel_rfl) (TF_ne (by decide)) (.tuple _) rfl ?_
            simp only [Act.put, List.setIfInBounds_toArray, List.set_cons_succ, List.set_cons_zero]
            refine Gv_bin 8 (fun d _ _ _ _ h => by cases d <;> exact h) (by kernel_rfl) rfl rfl (some 84) rfl (by kernel_rfl) (by kernel_rfl) (TF_ne (by decide)) (.agg (rosterC r.1 r.2)) (fun w => by go_simp) ?_
            simp only [Act.put, List.setIfInBounds_toArray, List.set_cons_succ, List.set_cons_zero]
            refine Gv_bin 9 (fun d _ _ _ _ h => by cases d <;> exact h) (by kernel_rfl) rfl rfl (some 85) rfl (by kernel_rfl) (by kernel_rfl) (TF_ne (by decide)) (.int .i64 (if (evR v1 T1 x).isSome = true then 0 else 1)) (fun w => by go_simp) ?_
            simp only [Act.put, List.setIfInBounds_toArray, List.set_cons_succ, List.set_cons_zero]
            refine Gs_tail 10 (by kernel_rfl) TF_eq (by kernel_rfl) rfl ?_
            simp only [List.drop_succ_cons, List.drop_zero]
            clear hr hxw
            obtain ⟨v2, T2⟩ := r
            dsimp only at *
            have Hrz2 := Lib.hid (rc_size (ver := v2) hr8)
            have Hsp2 : Hid (splice (rosterC v1 T1) 0 (Value.cells (.agg (rosterC v2 T2))).toList = rosterC v2 T2) := Lib.hid (splice_all _ _ (by rw [Hrz1.out]; exact Hrz2.out.symm))
            have Hft2 : Hid (0 + 17 ≤ (rosterC v1 T1).size) := Lib.hid (by rw [Hrz1.out]; decide)
            go_wp2_with (refine wb_put H rfl 0 33 _ _ rfl _ 0 rfl _ _ rfl (.agg (rosterC v2 T2)) rfl 17 info33 Hrz2.out Hft2.out rc_one _ Hsp2.out ?_; clear H; intro w H)
            refine ⟨?_, by simp [intOf]⟩
            simp
            exact ⟨1, Nat.le_refl _, rfl, v2, T2, Lib.hid hr8, Lib.hid H⟩
          · obtain rfl : j = evs.length := by omega
            have H := HB.out
            have hev1 := Hev1'.out
            clear HB hj
            go_upto_region 20 with (refine wb_cell H rfl 1 36 _ rfl _ 1 rfl _ _ rfl Tryz.isAgg36 (.slice adE evs.length cE) rfl ?_)
            clear hev1
            have HB := Lib.hid H
            clear H
            go_loopw [14] (fun i W => ∃ (j : Nat) (I : List Inp), j ≤ 8 ∧ i = .int .i64 j ∧ Hid (I.length = 8 ∧ ∀ i ∈ I, i.ok) ∧ Hid (Sb [] w0 W ((b9, rosterC v1 T1, 33) :: (b8, entC ⟨k, evs, I⟩ (.slice adE evs.length cE), 42) :: (b5, stateC st sl, 35) :: Q1) R)) (fun i _ => 8 - (intOf i).toNat)
            case atStart => exact ⟨0, z8, Nat.zero_le _, rfl, Lib.hid ⟨rfl, z8_ok⟩, HB⟩
            case round =>
              clear HB
              obtain ⟨j, I, hj, rfl, HIn, HB⟩ := hrel
              by_cases hlt3 : j < 8
              · obtain ⟨q, hq⟩ : ∃ q, T1[j]? = some q := ⟨T1[j]'(by rw [HT1.out]; exact hlt3), List.getElem?_eq_getElem _⟩
                obtain ⟨i0, hi0⟩ : ∃ i, t.ins[j]? = some i := ⟨t.ins[j]'(by rw [Hto.out.i8]; exact hlt3), List.getElem?_eq_getElem _⟩
                have Hi0 := Lib.hid (Hto.out.ins i0 (List.mem_of_getElem? hi0))
                have H := HB.out
                have c1 : wr.cell? ⟨b9, 1 + j * 2, none⟩ = some (.int .i64 q.peer) := (cell_of_row _ b9 _ _ 33 (0, 0) (H.holds _ (List.mem_cons_self ..))).trans (rc_seat j 0 q _ hq rfl)
                have hd : ∀ m v, (inpL i0)[m]? = some v → wr.cell? ⟨g, o + k * 25 + 1 + j * 3 + m, none⟩ = some v := fun m v hv => (World.cell?_of_block (a := ⟨g, o + k * 25 + 1 + j * 3 + m, none⟩) (H.fr g Hg.out (by simp))).trans (by
                  have := Hcs.out (1 + (j * 3 + m)) v (by unfold trnL; rw [Nat.add_comm 1, List.getElem?_cons_succ]; exact ins_at hi0 hv)
                  rwa [show o + k * 25 + (1 + (j * 3 + m)) = o + k * 25 + 1 + j * 3 + m by omega] at this)
                have d0 : wr.cell? ⟨g, o + k * 25 + 1 + j * 3, none⟩ = some (.int .i8 i0.x) := hd 0 _ rfl
                have d1 : wr.cell? ⟨g, o + k * 25 + 1 + j * 3 + 1, none⟩ = some (.int .i8 i0.y) := hd 1 _ rfl
                have d2 : wr.cell? ⟨g, o + k * 25 + 1 + j * 3 + 2, none⟩ = some (.int .u8 i0.b) := hd 2 _ rfl
                have hj8 : (j : Int) < 8 := by omega
                have hlt' : (k : Int) < L.length := by omega
                have hn' := Hn'.out
                clear hd hq hi0
                by_cases hp : 0 ≤ q.peer
                rotate_left
                · have qp : decide (0 ≤ q.peer) = false := decide_eq_false hp
                  have HB := Lib.hid H
                  clear H hp
                  go_wp2_with fail
                  exact ⟨⟨j + 1, I, hlt3, rfl, HIn, HB⟩, by simp only [intOf]; omega⟩
                have qp : decide (0 ≤ q.peer) = true := decide_eq_true hp
                by_cases hx : i0.x = -128
                · have qx : decide (i0.x = -128) = true := decide_eq_true hx
                  have qx2 : (i0.x != -128) = false := by simp [hx]
                  have HB := Lib.hid H
                  clear H hp hx
                  go_wp2_with fail
                  exact ⟨⟨j + 1, I, hlt3, rfl, HIn, HB⟩, by simp only [intOf]; omega⟩
                have qx : decide (i0.x = -128) = false := decide_eq_false hx
                have qx2 : (i0.x != -128) = true := by simp [hx]
                by_cases hy : i0.y = -128
                · have qy : decide (i0.y = -128) = true := decide_eq_true hy
                  have qy2 : (i0.y != -128) = false := by simp [hy]
                  have HB := Lib.hid H
                  clear H hp hx hy
                  go_wp2_with fail
                  exact ⟨⟨j + 1, I, hlt3, rfl, HIn, HB⟩, by simp only [intOf]; omega⟩
                have qy : decide (i0.y = -128) = false := decide_eq_false hy
                have qy2 : (i0.y != -128) = true := by simp [hy]
                have Hput := Lib.hid (en_put (fr := (k : Int)) (evs := evs) (s := .slice adE evs.length cE) j i0 (by rw [HIn.out.1]; exact hlt3))
                have Hft : Hid (2 + j * 3 + 3 ≤ (entC ⟨k, evs, I⟩ (.slice adE evs.length cE)).size) := Lib.hid (by rw [en_size HIn.out.1]; omega)
                clear hp hx hy
                go_wp2_with (refine wb_put H rfl 1 39 _ _ rfl _ (2 + j * 3) rfl _ _ rfl (.agg (inpL i0).toArray) rfl 3 info39x rfl Hft.out rfl _ Hput.out ?_; clear H; intro w H)
                exact ⟨⟨j + 1, I.set j i0, hlt3, rfl, Lib.hid ⟨by rw [List.length_set]; exact HIn.out.1, fun i hi => by rcases List.mem_or_eq_of_mem_set hi with h | rfl; exact HIn.out.2 i h; exact Hi0.out⟩, Lib.hid H⟩, by simp only [intOf]; omega⟩
              · obtain rfl : j = 8 := by omega
                have H := HB.out
                clear HB hj hlt3
                have Hez := Lib.hid (en_size (e := ⟨k, evs, I⟩) (sl := .slice adE evs.length cE) HIn.out.1)
                have HC := Lib.hid (fun w h h' => rapply_b st sl ⟨k, evs, I⟩ (.slice adE evs.length cE) w HStw.out Ht8.out h HIn.out.1 HIn.out.2 HE.out.wf h' (by have := Hev1.out; dsimp only; omega))
                go_wp2_with (first | (refine wb_whole H rfl 2 35 _ rfl _ rfl (stateC st sl) rfl _ Tryz.underlying35 rfl 76 info35 Hz.out ?_) | (refine wb_whole H rfl 1 42 _ rfl _ rfl (entC ⟨k, evs, I⟩ (.slice adE evs.length cE)) rfl _ Tryz.underlying42 rfl 26 info42 Hez.out ?_))
                refine (HC.out _ (HLi.out.shots H) (HE.out.ev H (fun p hp => List.mem_cons_of_mem _ (List.mem_cons_of_mem _ (List.mem_cons_of_mem _ hp))))).mono ?_
                rintro e1 w5 ⟨hb, ho⟩
                cases hap : applyF st ⟨k, evs, I⟩ with
                | none =>
                  rw [hap] at ho
                  subst ho
                  replace H := H.call hb
                  clear hb HC hap
                  have HO := Lib.hid (sc_oneI (s := st) (HLi.out.shots H))
                  have Hsp : Hid (splice zC 0 (Value.cells (.agg (stateC st sl))).toList = stateC st sl) := Lib.hid (splice_all _ _ (by rw [zC_size]; exact Hz.out.symm))
                  go_wp2_with (first | (refine wb_alloc H rfl 35 rfl _ Tryz.zeroValue35 ?_; clear H; intro b15 w H) | (refine wb_put H rfl 0 35 _ _ rfl _ 0 rfl _ _ rfl (.agg (stateC st sl)) rfl 76 info35 Hz.out (Nat.le_of_ble_eq_true rfl) HO.out _ Hsp.out ?_; clear H; intro w H))
                  go_ret
                  exact ⟨H.below, adv, cv, log, st, rfl, HLo.out.cap.1, HLo.out.cap.2, Nat.le_trans Hlk.out hk, HLo.out.wf, HA.out.1, (HLo.out.mono HQ.out).logW H (fun p hp => List.mem_cons_of_mem _ (List.mem_cons_of_mem _ (List.mem_cons_of_mem _ (List.mem_cons_of_mem _ hp))))⟩
                | some t' =>
                  rw [hap] at ho
                  obtain ⟨sl', rfl, hown, hnew⟩ := ho
                  have hwf := applyF_wf HStw.out Ht8.out hap
                  have hmy := (applyF_may HStw.out.s8 Ht8.out hap).1
                  have hrun : runF (startS D) (log ++ [⟨k, evs, I⟩]) = some t' := by rw [runF_append, HA.out.1]; show (applyF st _).bind _ = _; rw [hap]; rfl
                  have HA2 := Lib.hid (show runF (startS D) (log ++ [⟨k, evs, I⟩]) = some t' ∧ t'.may from ⟨hrun, hmy⟩)
                  have Hzt := Lib.hid (sc_size (s := t') (sl := sl') hwf.1.s8 hwf.2)
                  have HOt := Lib.hid (sc_oneI (s := t') hown.shotsIn)
                  have Hsp : Hid (splice zC 0 (Value.cells (.agg (stateC t' sl'))).toList = stateC t' sl') := Lib.hid (splice_all _ _ (by rw [zC_size]; exact Hzt.out.symm))
                  have Hsu : Hid (splice (stateC st sl) 0 (Value.cells (.agg (stateC t' sl'))).toList = stateC t' sl') := Lib.hid (splice_all _ _ (by rw [Hz.out]; exact Hzt.out.symm))
                  have Hfu : Hid (0 + 76 ≤ (stateC st sl).size) := Lib.hid (by rw [Hz.out]; decide)
                  have H1 := (H.addRow sl' _ hown hb hnew).onlyRow
                  clear H hown hnew hb HC hap hwf hmy hrun
                  have H := H1
                  clear H1
                  obtain ⟨ie, hi, hz0, hz1, hz2⟩ := info_ent
                  have Hent : Hid (∃ i z, Tryz.prog.info? 42 = some i ∧ i.zero = some z ∧ i.size = 26) := Lib.hid ⟨ie, _, hi, hz0, hz1⟩
                  have HLo1 := Lib.hid (HLo.out.mono HQ.out)
                  have hmx : log.length + 1 ≤ maxLen := by have := Hlk.out; unfold maxLen; omega
                  have hbt : (log.length + 1) * 56 ≤ 140737488355328 := by have := Hlk.out; omega
                  have Hone : Hid (∀ u ∈ (entC ⟨k, evs, I⟩ (.slice adE evs.length cE)).toList, u.oneCell' = true) := Lib.hid (fun u hu => by
                    have := insOne I
                    simp only [entC, List.mem_cons] at hu
                    rcases hu with rfl | rfl | hu
                    · rfl
                    · rfl
                    · exact this u hu)
                  go_wp2_with (first | (refine wb_alloc H rfl 35 rfl _ Tryz.zeroValue35 ?_; clear H; intro b15 w H; replace H : Sb [] w0 w ((b15, zC, 35) :: ((b9, rosterC v1 T1, 33) :: (b8, entC ⟨k, evs, I⟩ (.slice adE evs.length cE), 42) :: (b5, stateC st sl, 35) :: Q1)) [(sl', t'.g.L)] := H) | (refine wb_put H rfl 0 35 _ _ rfl _ 0 rfl _ _ rfl (.agg (stateC t' sl')) rfl 76 info35 Hzt.out (Nat.le_of_ble_eq_true rfl) HOt.out _ Hsp.out ?_; clear H; intro w H) | (refine wb_whole H rfl 0 35 _ rfl _ rfl (stateC t' sl') rfl _ Tryz.underlying35 rfl 76 info35 Hzt.out ?_) | (refine wb_put H rfl 3 35 _ _ rfl _ 0 rfl _ _ rfl (.agg (stateC t' sl')) rfl 76 info35 Hzt.out Hfu.out HOt.out _ Hsu.out ?_; clear H; intro w H; replace H : Sb [] w0 w ((b15, stateC t' sl', 35) :: (b9, rosterC v1 T1, 33) :: (b8, entC ⟨k, evs, I⟩ (.slice adE evs.length cE), 42) :: (b5, stateC t' sl', 35) :: Q1) [(sl', t'.g.L)] := H) | (refine wb_whole H rfl 2 42 _ rfl _ rfl (entC ⟨k, evs, I⟩ (.slice adE evs.length cE)) rfl _ Tryz.underlying42 rfl 26 info42 Hez.out ?_) | (refine wb_mk1 H rfl 52 42 _ rfl Tryz.underlying52 (entC ⟨k, evs, I⟩ (.slice adE evs.length cE)) rfl 26 Hent.out Hez.out (by decide) (by decide) ?_; clear H; intro bs w H) | (at_builtin; refine wpList_append_own_at _ rfl _ _ 52 rfl 0 42 ie (.agg zE) 26 56 Tryz.underlying52 hi hz0 hz1 hz2 rfl (by decide) (.slice adv log.length cv) log.length (entsL log es) rfl (HLo1.out.row.own H (fun p hp => List.mem_cons_of_mem _ (List.mem_cons_of_mem _ (List.mem_cons_of_mem _ (List.mem_cons_of_mem _ (List.mem_cons_of_mem _ hp)))))) ⟨bs, 0, none⟩ 1 1 (entC ⟨k, evs, I⟩ (.slice adE evs.length cE)).toList rfl (by rw [Array.length_toList, Hez.out]) (fun j u hu => by rw [add_n, Nat.zero_add, cell_of_row _ bs j _ 42 (0, 0) (H.holds _ (List.mem_cons_self ..))]; simpa using hu) Hone.out hmx hbt (Nat.zero_le _) ?_; intro v' w9 hown' hgrow hnil' hblk; have hno := HLo1.out.row.no60 H (fun p hp => List.mem_cons_of_mem _ (List.mem_cons_of_mem _ (List.mem_cons_of_mem _ (List.mem_cons_of_mem _ (List.mem_cons_of_mem _ hp))))); obtain ⟨Q2, H2, hrow2, hkeep⟩ := Sb.appendRow (F := [(bs, entC ⟨k, evs, I⟩ (.slice adE evs.length cE), 42), (b15, stateC t' sl', 35), (b9, rosterC v1 T1, 33), (b8, entC ⟨k, evs, I⟩ (.slice adE evs.length cE), 42), (b5, stateC t' sl', 35)]) H HLo1.out.row hown' hgrow hblk; have HLo2 := Lib.hid (HLo1.out.snoc (e := ⟨k, evs, I⟩) HE.out HIn.out.1 HIn.out.2 hrow2 hkeep hno); obtain ⟨ad2, c2, hv2⟩ : ∃ ad2 c2, v' = .slice ad2 (log.length + 1) c2 := (by rcases hown'.2 with ⟨_, h0⟩ | ⟨g', cap', _, h', _⟩; omega; exact ⟨_, _, h'⟩); subst hv2; clear H hown' hgrow hnil' hblk hno hrow2 hkeep; have H := H2; clear H2))
                  refine ⟨⟨k + 1, t', sl', _, Q2, log ++ [⟨k, evs, I⟩], es ++ [.slice adE evs.length cE], ad2, c2, by simp, hlt, rfl, Lib.hid (by rw [List.length_append]; exact HLo2.out), Lib.hid (by have := Hlk.out; simp; omega), Lib.hid (Sb.tail (Sb.tail (Sb.tail (Sb.tail H)))), Lib.hid (.inr rfl), HA2⟩, by simp only [intOf]; omega⟩
    · obtain rfl : k = L.length := by omega
      have H := HB.out
      clear HB hlt
      go_wp2_with fail
      go_ret
      exact ⟨H.below, adv, cv, log, st, rfl, HLo.out.cap.1, HLo.out.cap.2, Hlk.out, HLo.out.wf, HA.out.1, HLo.out.logW H (fun p hp => List.mem_cons_of_mem _ hp)⟩
end Go.Proofs.YtdopfonebpklkaaGreat.game
