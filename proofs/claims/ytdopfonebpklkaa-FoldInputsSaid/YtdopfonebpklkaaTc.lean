/- roster.Apply. -/
import Derived.Test.YtdopfonebpklkaaTb
import Derived.Test.YtdopfonebpklkaaGq
import Derived.Test.YtdopfonebpklkaaRj
namespace Go.Proofs.Ytdopfonebpklkaa.game
open Go.ChangeShapes Go.WideShapes Go.ChangeAt Go.RowKit dice
set_option maxRecDepth 100000

def evL (x : Evt) : List Value := [.int .i64 x.kind, .int .i64 x.slot, .int .i64 x.gen, .int .i64 x.peer]
def evC (x : Evt) : Array Value := #[.int .i64 x.kind, .int .i64 x.slot, .int .i64 x.gen, .int .i64 x.peer]
structure Evt.wf (x : Evt) : Prop where
  kind : (Lit.int .i64 x.kind).wf = true
  slot : (Lit.int .i64 x.slot).wf = true
  gen : (Lit.int .i64 x.gen).wf = true
  peer : (Lit.int .i64 x.peer).wf = true
theorem takeF_some {ver : Int} {T : List Seat} {k p : Int} {r : Int × List Seat} (h : takeF ver T k p = some r) : ∃ (n : Nat) (q : Seat), k = (n : Int) ∧ n < 8 ∧ T[n]? = some q ∧ mayR ver T = true ∧ ver < 1073741824 ∧ q.peer < 0 ∧ 0 ≤ p ∧ p < 12 ∧ T.any (fun q => q.peer == p) = false ∧ q.gen < 60000 ∧ r = (ver + 1, T.set n ⟨p, q.gen + 1⟩) := by
  unfold takeF at h
  split at h
  · rename_i hc
    obtain ⟨q, hq, h⟩ := Option.bind_eq_some_iff.1 h
    split at h
    · rename_i h1
      injection h with h
      exact ⟨k.toNat, q, by omega, by omega, hq, hc.1, hc.2.1, h1.1, h1.2.1, h1.2.2.1, h1.2.2.2.1, h1.2.2.2.2, h.symm⟩
    · cases h
  · cases h
theorem evR_join_none {ver : Int} {T : List Seat} {x : Evt} (hk : x.kind = 1) (h : takeF ver T x.slot x.peer = none) : evR ver T x = none := by
  unfold evR
  unfold takeF at h
  split at h
  · rename_i hc
    rw [if_pos hc]
    cases hq : T[x.slot.toNat]? with
    | none => rfl
    | some q =>
      rw [hq, Option.bind_some] at h
      rw [Option.bind_some]
      split at h
      · cases h
      · rename_i h1
        rw [if_neg (fun h => h1 ⟨h.2.1, h.2.2.1, h.2.2.2.1, h.2.2.2.2.1, h.2.2.2.2.2.1⟩), if_neg (by omega)]
  · rename_i hc
    rw [if_neg hc]
theorem evR_join {ver : Int} {T : List Seat} {x : Evt} {n : Nat} {q : Seat} (hk : x.kind = 1) (hn : x.slot = (n : Int)) (hn8 : n < 8) (hq : T[n]? = some q) (hm : mayR ver T = true) (hv : ver < 1073741824) (h1 : q.peer < 0) (h2 : 0 ≤ x.peer) (h3 : x.peer < 12) (h4 : T.any (fun q => q.peer == x.peer) = false) (h5 : q.gen < 60000) :
    evR ver T x = if q.gen + 1 = x.gen then some (ver + 1, T.set n ⟨x.peer, x.gen⟩) else none := by
  unfold evR
  rw [if_pos ⟨hm, hv, by omega, by omega⟩, hn, Int.toNat_natCast, hq, Option.bind_some]
  by_cases hg : q.gen + 1 = x.gen
  · rw [if_pos ⟨hk, h1, h2, h3, h4, h5, hg⟩, if_pos hg]
  · rw [if_neg (fun h => hg h.2.2.2.2.2.2), if_neg (by omega), if_neg hg]
theorem evR_leave_none {ver : Int} {T : List Seat} {x : Evt} (hk : x.kind = 2) (h : hasSeat ver T x.slot true = false) (h8 : T.length = 8) : evR ver T x = none := by
  unfold evR
  split
  · rename_i hc
    have hk8 : x.slot.toNat < T.length := by omega
    rw [List.getElem?_eq_getElem hk8, Option.bind_some, if_neg (by omega), if_neg]
    rintro ⟨_, hp, _⟩
    unfold hasSeat at h
    rw [decide_eq_true hc, List.getElem?_eq_getElem hk8, Bool.true_and] at h
    simp at h
    omega
  · rfl
theorem evR_leave {ver : Int} {T : List Seat} {x : Evt} {n : Nat} {q : Seat} (hk : x.kind = 2) (hn : x.slot = (n : Int)) (hn8 : n < 8) (hq : T[n]? = some q) (hm : mayR ver T = true) (hv : ver < 1073741824) (h1 : 0 ≤ q.peer) :
    evR ver T x = if q = ⟨x.peer, x.gen⟩ then some (ver + 1, T.set n ⟨-1, q.gen⟩) else none := by
  unfold evR
  rw [if_pos ⟨hm, hv, by omega, by omega⟩, hn, Int.toNat_natCast, hq, Option.bind_some, if_neg (by omega)]
  obtain ⟨p, g⟩ := q
  dsimp only at *
  by_cases hg : p = x.peer ∧ g = x.gen
  · rw [if_pos ⟨hk, h1, hg.1, hg.2⟩, if_pos (by rw [hg.1, hg.2])]
  · rw [if_neg (fun h => hg h.2.2), if_neg (fun h => hg (by injection h with a b; exact ⟨a, b⟩))]
theorem evR_other {ver : Int} {T : List Seat} {x : Evt} (h1 : x.kind ≠ 1) (h2 : x.kind ≠ 2) : evR ver T x = none := by
  unfold evR
  split
  · cases T[x.slot.toNat]? with
    | none => rfl
    | some q => rw [Option.bind_some, if_neg (fun h => h1 h.1), if_neg (fun h => h2 h.1)]
  · rfl
theorem w64 {a : Int} (h0 : -9223372036854775808 ≤ a) (h1 : a ≤ 9223372036854775807) : (Lit.int .i64 a).wf = true := by
  simp [Lit.wf, IntKind.min, IntKind.max, IntKind.signed, IntKind.bits]
  omega
theorem seat_ext {q : Seat} {p g : Int} : q = ⟨p, g⟩ ↔ q.peer = p ∧ q.gen = g := by
  constructor
  · rintro rfl; exact ⟨rfl, rfl⟩
  · rintro ⟨rfl, rfl⟩; rfl
theorem formed30w (q : Seat) : (Value.agg (seatL q).toArray).formed Try.prog 35 = true := by
  unfold Value.formed
  rw [Try.underlying35]
  simp [co30, seatL]
theorem litsQ_inj {a b : Seat} (h : litsQ a = litsQ b) : a = b := by
  obtain ⟨p, g⟩ := a
  obtain ⟨p', g'⟩ := b
  simp [litsQ] at h
  rw [h.1, h.2]
theorem eq30w (W : World) (q r : Seat) (h : (Lit.int .i64 q.peer).wf = true ∧ (Lit.int .i64 q.gen).wf = true) (h' : (Lit.int .i64 r.peer).wf = true ∧ (Lit.int .i64 r.gen).wf = true) :
    (Op.equalIn 10000 35 (.agg #[.int .i64 q.peer, .int .i64 q.gen]) (.agg #[.int .i64 r.peer, .int .i64 r.gen])).run Try.prog W = .ok (decide (q = r)) W := by
  obtain ⟨x, h1, hr⟩ := run_equalIn_deep (P := Try.prog) 9990 10 35 (by kernel_rfl) W 10 10 (.agg (seatL q).toArray) (.agg (seatL r).toArray) (litsQ q) (litsQ r) (formed30w q) (formed30w r) (kl30w 8 q h) (kl30w 8 r h')
  have : x = decide (q = r) := by
    rw [Bool.eq_iff_iff, hr, decide_eq_true_eq]
    exact ⟨litsQ_inj, fun e => by rw [e]⟩
  rw [← this]
  exact h1
theorem fR33_1 (b : Nat) (w : World) : (Instr.fieldAt 38 (.pointer (some ⟨b, 0, none⟩)) 1).run Try.prog w = .ok (.pointer (some ⟨b, 1, none⟩)) w := by go_simp
theorem fR60 (b j : Nat) (hj : j < 4) (w : World) : (Instr.fieldAt 49 (.pointer (some ⟨b, 0, none⟩)) j).run Try.prog w = .ok (.pointer (some ⟨b, j, none⟩)) w := by
  match j, hj with
  | 0, _ => go_simp
  | 1, _ => go_simp
  | 2, _ => go_simp
  | 3, _ => go_simp
set_option maxHeartbeats 4000000 in
theorem ros_apply (ver : Int) (T : List Seat) (x : Evt) (w0 : World) (h8 : T.length = 8) (hx : x.wf) :
    Calls Try.prog 36 #[.agg (rosterC ver T), .agg (evC x)] w0 fun e w' => RosOut ver T (evR ver T x) e ∧ Below w0.heap.size w0 w' := by
  have H := Sb.start w0
  have Hz := Lib.hid (rc_size (ver := ver) h8)
  have HO := Lib.hid (rc_one (ver := ver) (T := T))
  have Hsp : Hid (splice zR 0 (Value.cells (.agg (rosterC ver T))).toList = rosterC ver T) := Lib.hid (splice_all _ _ (by simp [Value.cells, rc_size h8, zR]))
  have HT := Lib.hid (fun w => take_b ver T x.slot x.peer w h8)
  by_cases hk1 : x.kind = 1
  · cases ht : takeF ver T x.slot x.peer with
    | none =>
      have HN := Lib.hid (evR_join_none hk1 ht)
      rw [ht] at HT
      clear h8 ht
      obtain ⟨kd, sl, gn, pr⟩ := x
      dsimp only at *
      subst hk1
      unfold evC
      dsimp only
      go_enter Try.func36, Try.ntmps36
      go_upto_region 1 with (first | (refine wb_box H rfl 38 _ rfl (rosterC ver T) rfl ?_; clear H; intro b2 w H) | (refine wb_box H rfl 49 _ rfl #[.int .i64 1, .int .i64 sl, .int .i64 gn, .int .i64 pr] rfl ?_; clear H; intro b3 w H) | (refine wb_alloc H rfl 38 rfl _ Try.zeroValue38 ?_; clear H; intro b4 w H))
      replace H : Sb [] w0 w [(b4, zR, 38), (b3, #[.int .i64 1, .int .i64 sl, .int .i64 gn, .int .i64 pr], 49), (b2, rosterC ver T, 38)] [] := H
      go_wp2_with (first | (refine wb_cell H rfl 1 3 _ rfl _ 0 rfl _ _ rfl Try.isAgg3 (.int .i64 1) rfl ?_) | (refine wb_cell H rfl 1 3 _ rfl _ 1 rfl _ _ rfl Try.isAgg3 (.int .i64 sl) rfl ?_) | (refine wb_cell H rfl 1 3 _ rfl _ 2 rfl _ _ rfl Try.isAgg3 (.int .i64 gn) rfl ?_) | (refine wb_cell H rfl 1 3 _ rfl _ 3 rfl _ _ rfl Try.isAgg3 (.int .i64 pr) rfl ?_) | (refine wb_whole H rfl 2 38 _ rfl _ rfl (rosterC ver T) rfl _ Try.underlying38 rfl 17 info33 Hz.out ?_))
      refine (HT.out _).mono ?_; rintro e w' ⟨he, hb⟩
      unfold RosOut at he
      subst he
      replace H := H.call hb
      clear hb HT
      go_upto_region 4 with (first | (refine wb_alloc H rfl 38 rfl _ Try.zeroValue38 ?_; clear H; intro b6 w H; replace H : Sb [] w0 w [(b6, zR, 38), (b4, zR, 38), (b3, #[.int .i64 1, .int .i64 sl, .int .i64 gn, .int .i64 pr], 49), (b2, rosterC ver T, 38)] [] := H) | (refine wb_put H rfl 0 38 _ _ rfl _ 0 rfl _ _ rfl (.agg (rosterC ver T)) rfl 17 info33 Hz.out (Nat.le_of_ble_eq_true rfl) HO.out _ Hsp.out ?_; clear H; intro w H))
      replace H : Sb [] w0 w [(b6, rosterC ver T, 38), (b4, zR, 38), (b3, #[.int .i64 1, .int .i64 sl, .int .i64 gn, .int .i64 pr], 49), (b2, rosterC ver T, 38)] [] := H
      have HD := H.call ((Below.refl _ w).drew)
      replace HD := Lib.hid HD
      clear H
      go_region
      have H := HD.out
      clear HD 
      go_wp2_with (first | (refine wb_whole H rfl 3 38 _ rfl _ rfl (rosterC ver T) rfl _ Try.underlying38 rfl 17 info33 Hz.out ?_) | (refine wb_put H rfl 1 38 _ _ rfl _ 0 rfl _ _ rfl (.agg (rosterC ver T)) rfl 17 info33 Hz.out (Nat.le_of_ble_eq_true rfl) HO.out _ Hsp.out ?_; clear H; intro w H))
      refine bodyPost_ret (v := .tuple #[.agg (rosterC ver T), .int .i64 1]) (res33t rfl rfl rfl (H.holds _ (List.mem_cons_of_mem _ (List.mem_cons_self ..))) Hz.out) rfl ⟨?_, H.below⟩
      unfold RosOut
      rw [HN.out]
      rfl
    | some r =>
      obtain ⟨n, q, hn, hn8, hq, hm, hv, h1, h2, h3, h4, h5, hr⟩ := takeF_some ht
      have HN := Lib.hid (evR_join hk1 hn hn8 hq hm hv h1 h2 h3 h4 h5)
      rw [ht, hr] at HT
      rw [hn] at HT
      have HqT : Hid ((T.set n ⟨x.peer, q.gen + 1⟩)[n]? = some ⟨x.peer, q.gen + 1⟩) := Lib.hid (by rw [List.getElem?_set_self (by rw [h8]; exact hn8)])
      have Hqg := Lib.hid (rc_seat (ver := ver + 1) n 1 _ _ HqT.out rfl)
      have Hz2 := Lib.hid (rc_size (ver := ver + 1) (T := T.set n ⟨x.peer, q.gen + 1⟩) (by rw [List.length_set]; exact h8))
      have HO2 := Lib.hid (rc_one (ver := ver + 1) (T := T.set n ⟨x.peer, q.gen + 1⟩))
      have Hsp2 : Hid (splice zR 0 (Value.cells (.agg (rosterC (ver + 1) (T.set n ⟨x.peer, q.gen + 1⟩)))).toList = rosterC (ver + 1) (T.set n ⟨x.peer, q.gen + 1⟩)) := Lib.hid (splice_all _ _ (by simp [Value.cells, Hz2.out, zR]))
      have hn8' : (n : Int) < 8 := by omega
      clear h8 ht hr hq hm hv h1 h2 h3 h4 h5 HqT r
      obtain ⟨kd, sl, gn, pr⟩ := x
      dsimp only at *
      subst hk1 hn
      unfold evC
      dsimp only
      go_enter Try.func36, Try.ntmps36
      go_upto_region 1 with (first | (refine wb_box H rfl 38 _ rfl (rosterC ver T) rfl ?_; clear H; intro b2 w H) | (refine wb_box H rfl 49 _ rfl #[.int .i64 1, .int .i64 (n : Int), .int .i64 gn, .int .i64 pr] rfl ?_; clear H; intro b3 w H) | (refine wb_alloc H rfl 38 rfl _ Try.zeroValue38 ?_; clear H; intro b4 w H))
      replace H : Sb [] w0 w [(b4, zR, 38), (b3, #[.int .i64 1, .int .i64 (n : Int), .int .i64 gn, .int .i64 pr], 49), (b2, rosterC ver T, 38)] [] := H
      go_wp2_with (first | (refine wb_cell H rfl 1 3 _ rfl _ 0 rfl _ _ rfl Try.isAgg3 (.int .i64 1) rfl ?_) | (refine wb_cell H rfl 1 3 _ rfl _ 1 rfl _ _ rfl Try.isAgg3 (.int .i64 (n : Int)) rfl ?_) | (refine wb_cell H rfl 1 3 _ rfl _ 2 rfl _ _ rfl Try.isAgg3 (.int .i64 gn) rfl ?_) | (refine wb_cell H rfl 1 3 _ rfl _ 3 rfl _ _ rfl Try.isAgg3 (.int .i64 pr) rfl ?_) | (refine wb_whole H rfl 2 38 _ rfl _ rfl (rosterC ver T) rfl _ Try.underlying38 rfl 17 info33 Hz.out ?_))
      refine (HT.out _).mono ?_; rintro e w' ⟨he, hb⟩
      unfold RosOut at he
      subst he
      replace H := H.call hb
      clear hb HT
      go_upto_region 4 with (first | (refine wb_alloc H rfl 38 rfl _ Try.zeroValue38 ?_; clear H; intro b6 w H; replace H : Sb [] w0 w [(b6, zR, 38), (b4, zR, 38), (b3, #[.int .i64 1, .int .i64 (n : Int), .int .i64 gn, .int .i64 pr], 49), (b2, rosterC ver T, 38)] [] := H) | (refine wb_put H rfl 0 38 _ _ rfl _ 0 rfl _ _ rfl (.agg (rosterC (ver + 1) (T.set n ⟨pr, q.gen + 1⟩))) rfl 17 info33 Hz2.out (Nat.le_of_ble_eq_true rfl) HO2.out _ Hsp2.out ?_; clear H; intro w H))
      replace H : Sb [] w0 w [(b6, rosterC (ver + 1) (T.set n ⟨pr, q.gen + 1⟩), 38), (b4, zR, 38), (b3, #[.int .i64 1, .int .i64 (n : Int), .int .i64 gn, .int .i64 pr], 49), (b2, rosterC ver T, 38)] [] := H
      have HD := H.call ((Below.refl _ w).drew)
      have d0 : w.drew.cell? ⟨b3, 1, none⟩ = some (.int .i64 (n : Int)) := (cell_of_row _ b3 (1) _ 49 (0, 0) (HD.holds _ (List.mem_cons_of_mem _ (List.mem_cons_of_mem _ (List.mem_cons_self ..))))).trans rfl
      have d1 : w.drew.cell? ⟨b3, 2, none⟩ = some (.int .i64 gn) := (cell_of_row _ b3 (2) _ 49 (0, 0) (HD.holds _ (List.mem_cons_of_mem _ (List.mem_cons_of_mem _ (List.mem_cons_self ..))))).trans rfl
      have d2 : w.drew.cell? ⟨b6, 1 + n * 2 + 1, none⟩ = some (.int .i64 (q.gen + 1)) := (cell_of_row _ b6 (1 + n * 2 + 1) _ 38 (0, 0) (HD.holds _ (List.mem_cons_self ..))).trans Hqg.out
      replace HD := Lib.hid HD
      clear H
      go_region
      have H := HD.out
      clear HD d0 d1 d2
      by_cases hg : q.gen + 1 = gn
      · subst hg
        go_wp2_with (first | (refine wb_whole H rfl 0 38 _ rfl _ rfl (rosterC (ver + 1) (T.set n ⟨pr, q.gen + 1⟩)) rfl _ Try.underlying38 rfl 17 info33 Hz2.out ?_) | (refine wb_put H rfl 1 38 _ _ rfl _ 0 rfl _ _ rfl (.agg (rosterC (ver + 1) (T.set n ⟨pr, q.gen + 1⟩))) rfl 17 info33 Hz2.out (Nat.le_of_ble_eq_true rfl) HO2.out _ Hsp2.out ?_; clear H; intro w H))
        refine bodyPost_ret (v := .tuple #[.agg (rosterC (ver + 1) (T.set n ⟨pr, q.gen + 1⟩)), .int .i64 0]) (res33t rfl rfl rfl (H.holds _ (List.mem_cons_of_mem _ (List.mem_cons_self ..))) Hz2.out) rfl ⟨?_, H.below⟩
        unfold RosOut
        rw [HN.out, if_pos trivial]
        rfl
      · have q0 : decide (q.gen + 1 = gn) = false := decide_eq_false hg
        go_wp2_with (first | (refine wb_whole H rfl 3 38 _ rfl _ rfl (rosterC ver T) rfl _ Try.underlying38 rfl 17 info33 Hz.out ?_) | (refine wb_put H rfl 1 38 _ _ rfl _ 0 rfl _ _ rfl (.agg (rosterC ver T)) rfl 17 info33 Hz.out (Nat.le_of_ble_eq_true rfl) HO.out _ Hsp.out ?_; clear H; intro w H))
        refine bodyPost_ret (v := .tuple #[.agg (rosterC ver T), .int .i64 1]) (res33t rfl rfl rfl (H.holds _ (List.mem_cons_of_mem _ (List.mem_cons_self ..))) Hz.out) rfl ⟨?_, H.below⟩
        unfold RosOut
        rw [HN.out, if_neg hg]
        rfl
  by_cases hk2 : x.kind = 2
  · have HS := Lib.hid (fun w => seat_b ver T x.slot true w h8)
    have HGv := Lib.hid (fun w => give_b ver T x.slot w h8)
    clear HT hk1
    cases hs : hasSeat ver T x.slot true with
    | false =>
      have HN := Lib.hid (evR_leave_none hk2 hs h8)
      rw [hs] at HS
      clear h8 hs HGv
      obtain ⟨kd, sl, gn, pr⟩ := x
      dsimp only at *
      subst hk2
      unfold evC
      dsimp only
      go_enter Try.func36, Try.ntmps36
      go_upto_region 1 with (first | (refine wb_box H rfl 38 _ rfl (rosterC ver T) rfl ?_; clear H; intro b2 w H) | (refine wb_box H rfl 49 _ rfl #[.int .i64 2, .int .i64 sl, .int .i64 gn, .int .i64 pr] rfl ?_; clear H; intro b3 w H) | (refine wb_alloc H rfl 38 rfl _ Try.zeroValue38 ?_; clear H; intro b4 w H))
      replace H : Sb [] w0 w [(b4, zR, 38), (b3, #[.int .i64 2, .int .i64 sl, .int .i64 gn, .int .i64 pr], 49), (b2, rosterC ver T, 38)] [] := H
      go_upto_region 8 with (first | (refine wb_cell H rfl 1 3 _ rfl _ 0 rfl _ _ rfl Try.isAgg3 (.int .i64 2) rfl ?_) | (refine wb_cell H rfl 1 3 _ rfl _ 1 rfl _ _ rfl Try.isAgg3 (.int .i64 sl) rfl ?_) | (refine wb_cell H rfl 1 3 _ rfl _ 2 rfl _ _ rfl Try.isAgg3 (.int .i64 gn) rfl ?_) | (refine wb_cell H rfl 1 3 _ rfl _ 3 rfl _ _ rfl Try.isAgg3 (.int .i64 pr) rfl ?_))
      have HD := H.call ((Below.refl _ w).drew)
      have hr0 : ({ w with drawn := w.drawn + 1 } : World).rangeAt b2 0 (rosterC ver T).toList := fun j v hv => by rw [Nat.zero_add]; exact (cell_of_row _ b2 j _ 38 (0, 0) (HD.holds _ (List.mem_cons_of_mem _ (List.mem_cons_of_mem _ (List.mem_cons_self ..))))).trans (by rw [← Array.getElem?_toList]; exact hv)
      have c1 : ({ w with drawn := w.drawn + 1 } : World).cell? ⟨b3, 1, none⟩ = some (.int .i64 sl) := cell_of_row _ b3 1 _ 49 (0, 0) (HD.holds _ (List.mem_cons_of_mem _ (List.mem_cons_self ..)))
      have c2 : ({ w with drawn := w.drawn + 1 } : World).cell? ⟨b3, 2, none⟩ = some (.int .i64 gn) := cell_of_row _ b3 2 _ 49 (0, 0) (HD.holds _ (List.mem_cons_of_mem _ (List.mem_cons_self ..)))
      have c3 : ({ w with drawn := w.drawn + 1 } : World).cell? ⟨b3, 3, none⟩ = some (.int .i64 pr) := cell_of_row _ b3 3 _ 49 (0, 0) (HD.holds _ (List.mem_cons_of_mem _ (List.mem_cons_self ..)))
      obtain ⟨L, hL⟩ : ∃ L, rowF b2 0 (rosterC ver T).toList 17 ++ ([((⟨b3, 1, none⟩ : Addr), Value.int .i64 sl, 17)]) = L := ⟨_, rfl⟩
      have HTd : Hid (∀ t ∈ L, t.2.2 = 17) := Lib.hid (fun t ht => by
        rw [← hL] at ht
        simp only [List.mem_append] at ht
        rcases ht with h | h
        · have := rowF_d t h; omega
        · rw [List.mem_singleton] at h; subst h; simp)
      have HTk : ∀ k, 17 ≠ k → ∀ t ∈ L, t.2.2 ≠ k := fun k h17 t ht => by have := HTd.out t ht; omega
      have HM0 : ∀ j v, ((rosterC ver T).toList)[j]? = some v → ((⟨b2, 0 + j, none⟩ : Addr), v, 17) ∈ L := fun j v hv => by rw [← hL]; simp only [List.mem_append]; exact .inl ( mem_rowF hv )
      have HM1 : ((⟨b3, 1, none⟩ : Addr), Value.int .i64 sl, 17) ∈ L := by rw [← hL]; simp only [List.mem_append]; exact .inr (( List.mem_cons_self .. ))
      refine Gs_start (T := L) (n := 18) (by kernel_rfl) rfl ?_ ?_
      · intro t ht _
        rw [← hL] at ht
        simp only [List.mem_append] at ht
        rcases ht with h | h
        · exact rowF_holds hr0 t h
        · rw [List.mem_singleton] at h; subst h; exact c1
      clear hr0 c1 c2 c3 hL
      replace H : Sb [] w0 ({ w with drawn := w.drawn + 1 } : World) _ _ := HD
      clear HD
      generalize ({ w with drawn := w.drawn + 1 } : World) = w1 at *
      refine Gv_loadRowC 0 17 [5, 3] (fun d _ _ _ _ h => by cases d <;> exact h) (by kernel_rfl) rfl _ _ rfl rfl (some 38) rfl (by kernel_rfl) (by kernel_rfl) (HTk 0 (by decide)) b2 0 rfl (rosterC ver T).toList HM0 (by kernel_rfl) _ Try.underlying38 rfl (by rw [Array.length_toList, Hz.out]; exact info33) ?_
      rw [Array.toArray_toList]
      simp only [Act.put, List.setIfInBounds_toArray, List.set_cons_succ, List.set_cons_zero]
      refine Gv_field 1 (fun d _ _ _ _ h => by cases d <;> exact h) (by kernel_rfl) rfl _ _ _ rfl rfl (some 39) rfl (by kernel_rfl) (by kernel_rfl) (HTk 1 (by decide)) _ _ rfl (fR60 b3 1 (by decide)) ?_
      simp only [Act.put, List.setIfInBounds_toArray, List.set_cons_succ, List.set_cons_zero]
      refine Gv_loadC 2 17 [5, 3] (fun d _ _ _ _ h => by cases d <;> exact h) (by kernel_rfl) rfl _ _ rfl rfl (some 40) rfl (by kernel_rfl) (by kernel_rfl) (HTk 2 (by decide)) _ rfl Try.isAgg3 _ HM1 (by kernel_rfl) ?_
      simp only [Act.put, List.setIfInBounds_toArray, List.set_cons_succ, List.set_cons_zero]
      refine Gv_callB 3 rfl (by kernel_rfl) (some 41) rfl rfl 52 #[.agg (rosterC ver T), .int .i64 sl, .bool true] (by go_simp) (HS.out _) ?_
      rintro e w2 ⟨rfl, hb⟩
      refine ⟨_, rfl, hb, ?_⟩
      replace H := H.call hb
      clear hb
      simp only [Act.put, List.setIfInBounds_toArray, List.set_cons_succ, List.set_cons_zero]
      refine Gv_val 4 rfl (by kernel_rfl) (some 42) rfl rfl (.bool true) (by go_simp) ?_
      simp only [Act.put, List.setIfInBounds_toArray, List.set_cons_succ, List.set_cons_zero]
      refine Gv_val 5 rfl (by kernel_rfl) (some 43) rfl rfl (.bool true) (by go_simp) ?_
      simp only [Act.put, List.setIfInBounds_toArray, List.set_cons_succ, List.set_cons_zero]
      refine Gv_skip 6 (fun d _ _ _ _ h => by cases d <;> exact h) (by kernel_rfl) rfl rfl (some 44) rfl (by kernel_rfl) (by kernel_rfl) (HTk 6 (by decide)) ?_
      simp only [Act.put, List.setIfInBounds_toArray, List.set_cons_succ, List.set_cons_zero]
      refine Gv_skip 7 (fun d _ _ _ _ h => by cases d <;> exact h) (by kernel_rfl) rfl rfl (some 45) rfl (by kernel_rfl) (by kernel_rfl) (HTk 7 (by decide)) ?_
      simp only [Act.put, List.setIfInBounds_toArray, List.set_cons_succ, List.set_cons_zero]
      refine Gv_skip 8 (fun d _ _ _ _ h => by cases d <;> exact h) (by kernel_rfl) rfl rfl (some 46) rfl (by kernel_rfl) (by kernel_rfl) (HTk 8 (by decide)) ?_
      simp only [Act.put, List.setIfInBounds_toArray, List.set_cons_succ, List.set_cons_zero]
      refine Gv_skip 9 (fun d _ _ _ _ h => by cases d <;> exact h) (by kernel_rfl) rfl rfl (some 47) rfl (by kernel_rfl) (by kernel_rfl) (HTk 9 (by decide)) ?_
      simp only [Act.put, List.setIfInBounds_toArray, List.set_cons_succ, List.set_cons_zero]
      refine Gv_skip 10 (fun d _ _ _ _ h => by cases d <;> exact h) (by kernel_rfl) rfl rfl (some 48) rfl (by kernel_rfl) (by kernel_rfl) (HTk 10 (by decide)) ?_
      simp only [Act.put, List.setIfInBounds_toArray, List.set_cons_succ, List.set_cons_zero]
      refine Gv_skip 11 (fun d _ _ _ _ h => by cases d <;> exact h) (by kernel_rfl) rfl rfl (some 49) rfl (by kernel_rfl) (by kernel_rfl) (HTk 11 (by decide)) ?_
      simp only [Act.put, List.setIfInBounds_toArray, List.set_cons_succ, List.set_cons_zero]
      refine Gv_skip 12 (fun d _ _ _ _ h => by cases d <;> exact h) (by kernel_rfl) rfl rfl (some 50) rfl (by kernel_rfl) (by kernel_rfl) (HTk 12 (by decide)) ?_
      simp only [Act.put, List.setIfInBounds_toArray, List.set_cons_succ, List.set_cons_zero]
      refine Gv_skip 13 (fun d _ _ _ _ h => by cases d <;> exact h) (by kernel_rfl) rfl rfl (some 51) rfl (by kernel_rfl) (by kernel_rfl) (HTk 13 (by decide)) ?_
      simp only [Act.put, List.setIfInBounds_toArray, List.set_cons_succ, List.set_cons_zero]
      refine Gv_skip 14 (fun d _ _ _ _ h => by cases d <;> exact h) (by kernel_rfl) rfl rfl (some 52) rfl (by kernel_rfl) (by kernel_rfl) (HTk 14 (by decide)) ?_
      simp only [Act.put, List.setIfInBounds_toArray, List.set_cons_succ, List.set_cons_zero]
      refine Gv_skip 15 (fun d _ _ _ _ h => by cases d <;> exact h) (by kernel_rfl) rfl rfl (some 53) rfl (by kernel_rfl) (by kernel_rfl) (HTk 15 (by decide)) ?_
      simp only [Act.put, List.setIfInBounds_toArray, List.set_cons_succ, List.set_cons_zero]
      refine Gv_skip 16 (fun d _ _ _ _ h => by cases d <;> exact h) (by kernel_rfl) rfl rfl (some 54) rfl (by kernel_rfl) (by kernel_rfl) (HTk 16 (by decide)) ?_
      simp only [Act.put, List.setIfInBounds_toArray, List.set_cons_succ, List.set_cons_zero]
      refine Gs_end 17 (by kernel_rfl) (fun t ht => by rcases HTd.out t ht with h <;> rw [h] <;> rfl) (by kernel_rfl) rfl ?_
      simp only [List.drop_succ_cons, List.drop_zero]
      clear HTk HTd HM0 HM1
      go_wp2_with (first | (refine wb_whole H rfl 2 38 _ rfl _ rfl (rosterC ver T) rfl _ Try.underlying38 rfl 17 info33 Hz.out ?_) | (refine wb_put H rfl 0 38 _ _ rfl _ 0 rfl _ _ rfl (.agg (rosterC ver T)) rfl 17 info33 Hz.out (Nat.le_of_ble_eq_true rfl) HO.out _ Hsp.out ?_; clear H; intro w H))
      refine bodyPost_ret (v := .tuple #[.agg (rosterC ver T), .int .i64 1]) (res33t rfl rfl rfl (H.holds _ (List.mem_cons_self ..)) Hz.out) rfl ⟨?_, H.below⟩
      unfold RosOut
      rw [HN.out]
      rfl
    | true =>
      obtain ⟨n, q, hn, hn8, hq, hm, hv, hp⟩ := hasSeat_some hs
      have hp0 : 0 ≤ q.peer := by simpa using hp
      have HN := Lib.hid (evR_leave hk2 hn hn8 hq hm hv hp0)
      have HGo := Lib.hid (giveF_at hm hv hn8 hq hp0)
      have hqo := (mayR_iff.1 hm).2.2.1 q (List.mem_of_getElem? hq)
      have HEq := Lib.hid (fun w => eq30w w q ⟨x.peer, x.gen⟩ ⟨w64 (by have := hqo.1; omega) (by have := hqo.2.1; omega), w64 (by have := hqo.2.2.1; omega) (by have := hqo.2.2.2.1; omega)⟩ ⟨hx.peer, hx.gen⟩)
      have Hqs := Lib.hid (show ∀ j v, ([Value.int .i64 q.peer, .int .i64 q.gen] : List Value)[j]? = some v → (rosterC ver T)[1 + n * 2 + j]? = some v from fun j v hv => rc_seat n j q v hq hv)
      have Hz2 := Lib.hid (rc_size (ver := ver + 1) (T := T.set n ⟨-1, q.gen⟩) (by rw [List.length_set]; exact h8))
      have HO2 := Lib.hid (rc_one (ver := ver + 1) (T := T.set n ⟨-1, q.gen⟩))
      have Hsp2 : Hid (splice zR 0 (Value.cells (.agg (rosterC (ver + 1) (T.set n ⟨-1, q.gen⟩)))).toList = rosterC (ver + 1) (T.set n ⟨-1, q.gen⟩)) := Lib.hid (splice_all _ _ (by simp [Value.cells, Hz2.out, zR]))
      have hn8' : (n : Int) < 8 := by omega
      rw [hs] at HS
      rw [hn] at HS HGv
      rw [HGo.out] at HGv
      clear h8 hs hq hm hv hp hp0 hqo HGo
      obtain ⟨kd, sl, gn, pr⟩ := x
      dsimp only at *
      subst hk2 hn
      unfold evC
      dsimp only
      go_enter Try.func36, Try.ntmps36
      go_upto_region 1 with (first | (refine wb_box H rfl 38 _ rfl (rosterC ver T) rfl ?_; clear H; intro b2 w H) | (refine wb_box H rfl 49 _ rfl #[.int .i64 2, .int .i64 (n : Int), .int .i64 gn, .int .i64 pr] rfl ?_; clear H; intro b3 w H) | (refine wb_alloc H rfl 38 rfl _ Try.zeroValue38 ?_; clear H; intro b4 w H))
      replace H : Sb [] w0 w [(b4, zR, 38), (b3, #[.int .i64 2, .int .i64 (n : Int), .int .i64 gn, .int .i64 pr], 49), (b2, rosterC ver T, 38)] [] := H
      go_upto_region 8 with (first | (refine wb_cell H rfl 1 3 _ rfl _ 0 rfl _ _ rfl Try.isAgg3 (.int .i64 2) rfl ?_) | (refine wb_cell H rfl 1 3 _ rfl _ 1 rfl _ _ rfl Try.isAgg3 (.int .i64 (n : Int)) rfl ?_) | (refine wb_cell H rfl 1 3 _ rfl _ 2 rfl _ _ rfl Try.isAgg3 (.int .i64 gn) rfl ?_) | (refine wb_cell H rfl 1 3 _ rfl _ 3 rfl _ _ rfl Try.isAgg3 (.int .i64 pr) rfl ?_))
      have HD := H.call ((Below.refl _ w).drew)
      have hr0 : ({ w with drawn := w.drawn + 1 } : World).rangeAt b2 0 (rosterC ver T).toList := fun j v hv => by rw [Nat.zero_add]; exact (cell_of_row _ b2 j _ 38 (0, 0) (HD.holds _ (List.mem_cons_of_mem _ (List.mem_cons_of_mem _ (List.mem_cons_self ..))))).trans (by rw [← Array.getElem?_toList]; exact hv)
      have c1 : ({ w with drawn := w.drawn + 1 } : World).cell? ⟨b3, 1, none⟩ = some (.int .i64 (n : Int)) := cell_of_row _ b3 1 _ 49 (0, 0) (HD.holds _ (List.mem_cons_of_mem _ (List.mem_cons_self ..)))
      have c2 : ({ w with drawn := w.drawn + 1 } : World).cell? ⟨b3, 2, none⟩ = some (.int .i64 gn) := cell_of_row _ b3 2 _ 49 (0, 0) (HD.holds _ (List.mem_cons_of_mem _ (List.mem_cons_self ..)))
      have c3 : ({ w with drawn := w.drawn + 1 } : World).cell? ⟨b3, 3, none⟩ = some (.int .i64 pr) := cell_of_row _ b3 3 _ 49 (0, 0) (HD.holds _ (List.mem_cons_of_mem _ (List.mem_cons_self ..)))
      have hr1 : ({ w with drawn := w.drawn + 1 } : World).rangeAt b2 (1 + n * 2) [.int .i64 q.peer, .int .i64 q.gen] := fun j v hv => (cell_of_row _ b2 _ _ 38 (0, 0) (HD.holds _ (List.mem_cons_of_mem _ (List.mem_cons_of_mem _ (List.mem_cons_self ..))))).trans (Hqs.out j v hv)
      obtain ⟨L, hL⟩ : ∃ L, rowF b2 0 (rosterC ver T).toList 17 ++ ([((⟨b3, 1, none⟩ : Addr), Value.int .i64 (n : Int), 17)] ++ ([((⟨b3, 3, none⟩ : Addr), Value.int .i64 pr, 17)] ++ ([((⟨b3, 2, none⟩ : Addr), Value.int .i64 gn, 17)] ++ (rowF b2 (1 + n * 2) [.int .i64 q.peer, .int .i64 q.gen] 17)))) = L := ⟨_, rfl⟩
      have HTd : Hid (∀ t ∈ L, t.2.2 = 17) := Lib.hid (fun t ht => by
        rw [← hL] at ht
        simp only [List.mem_append] at ht
        rcases ht with h | h | h | h | h
        · have := rowF_d t h; omega
        · rw [List.mem_singleton] at h; subst h; simp
        · rw [List.mem_singleton] at h; subst h; simp
        · rw [List.mem_singleton] at h; subst h; simp
        · have := rowF_d t h; omega)
      have HTk : ∀ k, 17 ≠ k → ∀ t ∈ L, t.2.2 ≠ k := fun k h17 t ht => by have := HTd.out t ht; omega
      have HM0 : ∀ j v, ((rosterC ver T).toList)[j]? = some v → ((⟨b2, 0 + j, none⟩ : Addr), v, 17) ∈ L := fun j v hv => by rw [← hL]; simp only [List.mem_append]; exact .inl ( mem_rowF hv )
      have HM1 : ((⟨b3, 1, none⟩ : Addr), Value.int .i64 (n : Int), 17) ∈ L := by rw [← hL]; simp only [List.mem_append]; exact .inr (.inl ( List.mem_cons_self .. ))
      have HM2 : ((⟨b3, 3, none⟩ : Addr), Value.int .i64 pr, 17) ∈ L := by rw [← hL]; simp only [List.mem_append]; exact .inr (.inr (.inl ( List.mem_cons_self .. )))
      have HM3 : ((⟨b3, 2, none⟩ : Addr), Value.int .i64 gn, 17) ∈ L := by rw [← hL]; simp only [List.mem_append]; exact .inr (.inr (.inr (.inl ( List.mem_cons_self .. ))))
      have HM4 : ∀ j v, ([Value.int .i64 q.peer, .int .i64 q.gen] : List Value)[j]? = some v → ((⟨b2, 1 + n * 2 + j, none⟩ : Addr), v, 17) ∈ L := fun j v hv => by rw [← hL]; simp only [List.mem_append]; exact .inr (.inr (.inr (.inr (( mem_rowF hv )))))
      refine Gs_start (T := L) (n := 18) (by kernel_rfl) rfl ?_ ?_
      · intro t ht _
        rw [← hL] at ht
        simp only [List.mem_append] at ht
        rcases ht with h | h | h | h | h
        · exact rowF_holds hr0 t h
        · rw [List.mem_singleton] at h; subst h; exact c1
        · rw [List.mem_singleton] at h; subst h; exact c3
        · rw [List.mem_singleton] at h; subst h; exact c2
        · exact rowF_holds hr1 t h
      clear hr0 c1 c2 c3 hr1 hL
      replace H : Sb [] w0 ({ w with drawn := w.drawn + 1 } : World) _ _ := HD
      clear HD
      generalize ({ w with drawn := w.drawn + 1 } : World) = w1 at *
      refine Gv_loadRowC 0 17 [5, 3] (fun d _ _ _ _ h => by cases d <;> exact h) (by kernel_rfl) rfl _ _ rfl rfl (some 38) rfl (by kernel_rfl) (by kernel_rfl) (HTk 0 (by decide)) b2 0 rfl (rosterC ver T).toList HM0 (by kernel_rfl) _ Try.underlying38 rfl (by rw [Array.length_toList, Hz.out]; exact info33) ?_
      rw [Array.toArray_toList]
      simp only [Act.put, List.setIfInBounds_toArray, List.set_cons_succ, List.set_cons_zero]
      refine Gv_field 1 (fun d _ _ _ _ h => by cases d <;> exact h) (by kernel_rfl) rfl _ _ _ rfl rfl (some 39) rfl (by kernel_rfl) (by kernel_rfl) (HTk 1 (by decide)) _ _ rfl (fR60 b3 1 (by decide)) ?_
      simp only [Act.put, List.setIfInBounds_toArray, List.set_cons_succ, List.set_cons_zero]
      refine Gv_loadC 2 17 [5, 3] (fun d _ _ _ _ h => by cases d <;> exact h) (by kernel_rfl) rfl _ _ rfl rfl (some 40) rfl (by kernel_rfl) (by kernel_rfl) (HTk 2 (by decide)) _ rfl Try.isAgg3 _ HM1 (by kernel_rfl) ?_
      simp only [Act.put, List.setIfInBounds_toArray, List.set_cons_succ, List.set_cons_zero]
      refine Gv_callB 3 rfl (by kernel_rfl) (some 41) rfl rfl 52 #[.agg (rosterC ver T), .int .i64 (n : Int), .bool true] (by go_simp) (HS.out _) ?_
      rintro e w2 ⟨rfl, hb⟩
      refine ⟨_, rfl, hb, ?_⟩
      replace H := H.call hb
      clear hb
      simp only [Act.put, List.setIfInBounds_toArray, List.set_cons_succ, List.set_cons_zero]
      refine Gv_val 4 rfl (by kernel_rfl) (some 42) rfl rfl (.bool false) (by go_simp) ?_
      simp only [Act.put, List.setIfInBounds_toArray, List.set_cons_succ, List.set_cons_zero]
      refine Gv_val 5 rfl (by kernel_rfl) (some 43) rfl rfl (.bool false) (by go_simp) ?_
      simp only [Act.put, List.setIfInBounds_toArray, List.set_cons_succ, List.set_cons_zero]
      refine Gv_field 6 (fun d _ _ _ _ h => by cases d <;> exact h) (by kernel_rfl) rfl _ _ _ rfl rfl (some 44) rfl (by kernel_rfl) (by kernel_rfl) (HTk 6 (by decide)) _ _ rfl (fR60 b3 1 (by decide)) ?_
      simp only [Act.put, List.setIfInBounds_toArray, List.set_cons_succ, List.set_cons_zero]
      refine Gv_loadC 7 17 [16, 10, 9] (fun d _ _ _ _ h => by cases d <;> exact h) (by kernel_rfl) rfl _ _ rfl rfl (some 45) rfl (by kernel_rfl) (by kernel_rfl) (HTk 7 (by decide)) _ rfl Try.isAgg3 _ HM1 (by kernel_rfl) ?_
      simp only [Act.put, List.setIfInBounds_toArray, List.set_cons_succ, List.set_cons_zero]
      refine Gv_field 8 (fun d _ _ _ _ h => by cases d <;> exact h) (by kernel_rfl) rfl _ _ _ rfl rfl (some 46) rfl (by kernel_rfl) (by kernel_rfl) (HTk 8 (by decide)) _ _ rfl (fR33_1 b2) ?_
      simp only [Act.put, List.setIfInBounds_toArray, List.set_cons_succ, List.set_cons_zero]
      refine Gv_bin 9 (fun d _ _ _ _ h => by cases d <;> exact h) (by kernel_rfl) rfl rfl (some 47) rfl (by kernel_rfl) (by kernel_rfl) (HTk 9 (by decide)) (.pointer (some ⟨b2, 1 + n * 2, none⟩)) (fun w => by go_simp) ?_
      simp only [Act.put, List.setIfInBounds_toArray, List.set_cons_succ, List.set_cons_zero]
      refine Gv_loadRowC 10 17 [16] (fun d _ _ _ _ h => by cases d <;> exact h) (by kernel_rfl) rfl _ _ rfl rfl (some 48) rfl (by kernel_rfl) (by kernel_rfl) (HTk 10 (by decide)) b2 (1 + n * 2) rfl [.int .i64 q.peer, .int .i64 q.gen] HM4 (by kernel_rfl) _ Try.underlying35 rfl (by exact info30) ?_
      simp only [Act.put, List.setIfInBounds_toArray, List.set_cons_succ, List.set_cons_zero]
      refine Gv_field 11 (fun d _ _ _ _ h => by cases d <;> exact h) (by kernel_rfl) rfl _ _ _ rfl rfl (some 49) rfl (by kernel_rfl) (by kernel_rfl) (HTk 11 (by decide)) _ _ rfl (fR60 b3 3 (by decide)) ?_
      simp only [Act.put, List.setIfInBounds_toArray, List.set_cons_succ, List.set_cons_zero]
      refine Gv_loadC 12 17 [16, 15] (fun d _ _ _ _ h => by cases d <;> exact h) (by kernel_rfl) rfl _ _ rfl rfl (some 50) rfl (by kernel_rfl) (by kernel_rfl) (HTk 12 (by decide)) _ rfl Try.isAgg3 _ HM2 (by kernel_rfl) ?_
      simp only [Act.put, List.setIfInBounds_toArray, List.set_cons_succ, List.set_cons_zero]
      refine Gv_field 13 (fun d _ _ _ _ h => by cases d <;> exact h) (by kernel_rfl) rfl _ _ _ rfl rfl (some 51) rfl (by kernel_rfl) (by kernel_rfl) (HTk 13 (by decide)) _ _ rfl (fR60 b3 2 (by decide)) ?_
      simp only [Act.put, List.setIfInBounds_toArray, List.set_cons_succ, List.set_cons_zero]
      refine Gv_loadC 14 17 [16, 15] (fun d _ _ _ _ h => by cases d <;> exact h) (by kernel_rfl) rfl _ _ rfl rfl (some 52) rfl (by kernel_rfl) (by kernel_rfl) (HTk 14 (by decide)) _ rfl Try.isAgg3 _ HM3 (by kernel_rfl) ?_
      simp only [Act.put, List.setIfInBounds_toArray, List.set_cons_succ, List.set_cons_zero]
      refine Gv_bin 15 (fun d _ _ _ _ h => by cases d <;> exact h) (by kernel_rfl) rfl rfl (some 53) rfl (by kernel_rfl) (by kernel_rfl) (HTk 15 (by decide)) (.agg #[.int .i64 pr, .int .i64 gn]) (fun w => by go_simp) ?_
      simp only [Act.put, List.setIfInBounds_toArray, List.set_cons_succ, List.set_cons_zero]
      refine Gv_bin 16 (fun d _ _ _ _ h => by cases d <;> exact h) (by kernel_rfl) rfl rfl (some 54) rfl (by kernel_rfl) (by kernel_rfl) (HTk 16 (by decide)) (.bool (!decide (q = ⟨pr, gn⟩))) (fun w => by have he := HEq.out w; go_simp; by_cases h1 : q.peer = pr <;> by_cases h2 : q.gen = gn <;> simp_all [seat_ext]) ?_
      simp only [Act.put, List.setIfInBounds_toArray, List.set_cons_succ, List.set_cons_zero]
      refine Gs_end 17 (by kernel_rfl) (fun t ht => by rcases HTd.out t ht with h <;> rw [h] <;> rfl) (by kernel_rfl) rfl ?_
      simp only [List.drop_succ_cons, List.drop_zero]
      clear HTk HTd HM0 HM1 HM2 HM3 HM4
      by_cases hq : q = ⟨pr, gn⟩
      · subst hq
        rw [decide_eq_true rfl]
        dsimp only at HGv HN Hz2 HO2 Hsp2
        go_wp2_with (first | (refine wb_cell H rfl 1 3 _ rfl _ 0 rfl _ _ rfl Try.isAgg3 (.int .i64 2) rfl ?_) | (refine wb_cell H rfl 1 3 _ rfl _ 1 rfl _ _ rfl Try.isAgg3 (.int .i64 (n : Int)) rfl ?_) | (refine wb_cell H rfl 1 3 _ rfl _ 2 rfl _ _ rfl Try.isAgg3 (.int .i64 gn) rfl ?_) | (refine wb_cell H rfl 1 3 _ rfl _ 3 rfl _ _ rfl Try.isAgg3 (.int .i64 pr) rfl ?_) | (refine wb_whole H rfl 2 38 _ rfl _ rfl (rosterC ver T) rfl _ Try.underlying38 rfl 17 info33 Hz.out ?_))
        refine (HGv.out _).mono ?_; rintro e w3 ⟨he, hb⟩
        unfold RosOut at he
        subst he
        replace H := H.call hb
        clear hb
        go_wp2_with (refine wb_put H rfl 0 38 _ _ rfl _ 0 rfl _ _ rfl (.agg (rosterC (ver + 1) (T.set n ⟨-1, gn⟩))) rfl 17 info33 Hz2.out (Nat.le_of_ble_eq_true rfl) HO2.out _ Hsp2.out ?_; clear H; intro w H)
        refine bodyPost_ret (v := .tuple #[.agg (rosterC (ver + 1) (T.set n ⟨-1, gn⟩)), .int .i64 0]) (res33t rfl rfl rfl (H.holds _ (List.mem_cons_self ..)) Hz2.out) rfl ⟨?_, H.below⟩
        unfold RosOut
        rw [HN.out, if_pos (by first | rfl | trivial)]
        rfl
      · rw [decide_eq_false hq]
        go_wp2_with (first | (refine wb_whole H rfl 2 38 _ rfl _ rfl (rosterC ver T) rfl _ Try.underlying38 rfl 17 info33 Hz.out ?_) | (refine wb_put H rfl 0 38 _ _ rfl _ 0 rfl _ _ rfl (.agg (rosterC ver T)) rfl 17 info33 Hz.out (Nat.le_of_ble_eq_true rfl) HO.out _ Hsp.out ?_; clear H; intro w H))
        refine bodyPost_ret (v := .tuple #[.agg (rosterC ver T), .int .i64 1]) (res33t rfl rfl rfl (H.holds _ (List.mem_cons_self ..)) Hz.out) rfl ⟨?_, H.below⟩
        unfold RosOut
        rw [HN.out, if_neg hq]
        rfl
  · have HN := Lib.hid (evR_other (ver := ver) (T := T) hk1 hk2)
    clear HT h8
    obtain ⟨kd, sl, gn, pr⟩ := x
    dsimp only at *
    have q1 : decide (kd = 1) = false := decide_eq_false hk1
    have q2 : decide (kd = 2) = false := decide_eq_false hk2
    unfold evC
    dsimp only
    go_enter Try.func36, Try.ntmps36
    go_upto_region 1 with (first | (refine wb_box H rfl 38 _ rfl (rosterC ver T) rfl ?_; clear H; intro b2 w H) | (refine wb_box H rfl 49 _ rfl #[.int .i64 kd, .int .i64 sl, .int .i64 gn, .int .i64 pr] rfl ?_; clear H; intro b3 w H) | (refine wb_alloc H rfl 38 rfl _ Try.zeroValue38 ?_; clear H; intro b4 w H))
    replace H : Sb [] w0 w [(b4, zR, 38), (b3, #[.int .i64 kd, .int .i64 sl, .int .i64 gn, .int .i64 pr], 49), (b2, rosterC ver T, 38)] [] := H
    go_wp2_with (first | (refine wb_cell H rfl 1 3 _ rfl _ 0 rfl _ _ rfl Try.isAgg3 (.int .i64 kd) rfl ?_) | (refine wb_cell H rfl 1 3 _ rfl _ 1 rfl _ _ rfl Try.isAgg3 (.int .i64 sl) rfl ?_) | (refine wb_cell H rfl 1 3 _ rfl _ 2 rfl _ _ rfl Try.isAgg3 (.int .i64 gn) rfl ?_) | (refine wb_cell H rfl 1 3 _ rfl _ 3 rfl _ _ rfl Try.isAgg3 (.int .i64 pr) rfl ?_) | (refine wb_whole H rfl 2 38 _ rfl _ rfl (rosterC ver T) rfl _ Try.underlying38 rfl 17 info33 Hz.out ?_) | (refine wb_put H rfl 0 38 _ _ rfl _ 0 rfl _ _ rfl (.agg (rosterC ver T)) rfl 17 info33 Hz.out (Nat.le_of_ble_eq_true rfl) HO.out _ Hsp.out ?_; clear H; intro w H))
    refine bodyPost_ret (v := .tuple #[.agg (rosterC ver T), .int .i64 1]) (res33t rfl rfl rfl (H.holds _ (List.mem_cons_self ..)) Hz.out) rfl ⟨?_, H.below⟩
    unfold RosOut
    rw [HN.out]
    rfl
end Go.Proofs.Ytdopfonebpklkaa.game
