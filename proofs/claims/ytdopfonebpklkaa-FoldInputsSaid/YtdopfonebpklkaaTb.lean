/- package roster: Take, Give, Apply. -/
import Derived.Test.YtdopfonebpklkaaTa
namespace Go.Proofs.Ytdopfonebpklkaa.game
open Go.ChangeShapes Go.WideShapes Go.ChangeAt Go.RowKit dice
set_option maxRecDepth 100000

theorem take_set {α : Type} {S : List α} {k : Nat} {t : α} (t' : α) (h : S[k]? = some t) : S = S.take k ++ t :: S.drop (k + 1) ∧ S.set k t' = S.take k ++ t' :: S.drop (k + 1) := by
  obtain ⟨hk, e⟩ := List.getElem?_eq_some_iff.1 h
  constructor
  · rw [← e, ← List.drop_eq_getElem_cons hk, List.take_append_drop]
  · rw [List.set_eq_take_append_cons_drop, if_pos hk]
def zR : Array Value := #[.int .i64 0, .int .i64 0, .int .i64 0, .int .i64 0, .int .i64 0, .int .i64 0, .int .i64 0, .int .i64 0, .int .i64 0, .int .i64 0, .int .i64 0, .int .i64 0, .int .i64 0, .int .i64 0, .int .i64 0, .int .i64 0, .int .i64 0]
theorem lv33 (W : World) (b : Nat) (cs : Array Value) (h : W.heap[b]? = some (.cells cs 38 (0, 0))) (hs : cs.size = 17) : (loadVar 38 ⟨b, 0, none⟩).run Try.prog W = .ok (.agg cs) W :=
  run_loadVar_row W b 38 38 cs (0, 0) _ h Try.underlying38 rfl (by rw [hs]; exact info33)
theorem res33t {fn : Func} {p q : Tmp} {tmps : Array Value} {w : World} {b : Nat} {cs : Array Value} {v : Value} (h : fn.results = #[.cell p 38, .tmp q]) (ha : tmps.getD p undef = .pointer (some ⟨b, 0, none⟩)) (hq : tmps.getD q undef = v) (hb : w.heap[b]? = some (.cells cs 38 (0, 0))) (hs : cs.size = 17) :
    (results fn tmps).run Try.prog w = .ok (.tuple #[.agg cs, v]) w := by
  rw [Array.getD_eq_getD_getElem?] at ha hq
  simp only [results, h]
  simp [ha, hq, asAddr, lv33 w b cs hb hs]
theorem rc_ver {ver : Int} {T : List Seat} (v : Int) : splice (rosterC ver T) 0 [.int .i64 v] = rosterC v T := by
  simp [rosterC, splice]
theorem rc_set {ver : Int} {T : List Seat} {k : Nat} {q : Seat} (p g : Int) (h : T[k]? = some q) : splice (rosterC ver T) (1 + k * 2) [.int .i64 p, .int .i64 g] = rosterC ver (T.set k ⟨p, g⟩) := by
  obtain ⟨h1, h2⟩ := take_set ⟨p, g⟩ h
  have hk := (List.getElem?_eq_some_iff.1 h).1
  rw [h2]
  conv => lhs; rw [h1]
  have e : ∀ z : Seat, rosterC ver (T.take k ++ z :: T.drop (k + 1)) = ((Value.int .i64 ver :: seatsL (T.take k)) ++ ([Value.int .i64 z.peer, .int .i64 z.gen] ++ seatsL (T.drop (k + 1)))).toArray := fun z => by
    simp [rosterC, seatsL_append, seatsL_cons, seatL]
  rw [e q, e ⟨p, g⟩]
  exact splice_mid _ _ _ _ _ (by simp [length_seatsL]; omega) rfl
theorem rc_peer {ver : Int} {T : List Seat} {k : Nat} {q : Seat} (p : Int) (h : T[k]? = some q) : splice (rosterC ver T) (1 + k * 2) [.int .i64 p] = rosterC ver (T.set k ⟨p, q.gen⟩) := by
  obtain ⟨h1, h2⟩ := take_set ⟨p, q.gen⟩ h
  have hk := (List.getElem?_eq_some_iff.1 h).1
  rw [h2]
  conv => lhs; rw [h1]
  exact rc_putPeer ver (T.take k) (T.drop (k + 1)) q p k (by rw [List.length_take]; omega)
theorem rc_one {ver : Int} {T : List Seat} : (Value.cells (.agg (rosterC ver T))).toList.all (·.oneCell') = true := by
  rw [List.all_eq_true]
  intro v hv
  simp [Value.cells, rosterC, seatsL] at hv
  rcases hv with rfl | ⟨q, _, hm⟩
  · rfl
  · simp [seatL] at hm
    rcases hm with rfl | rfl <;> rfl
/-- What a roster's change answers. -/
def RosOut (ver : Int) (T : List Seat) (o : Option (Int × List Seat)) (e : Ending) : Prop :=
  e = .returned (.tuple #[.agg (rosterC (o.getD (ver, T)).1 (o.getD (ver, T)).2), .int .i64 (if o.isSome then 0 else 1)])
def takeF (ver : Int) (T : List Seat) (k p : Int) : Option (Int × List Seat) :=
  if mayR ver T = true ∧ ver < 1073741824 ∧ 0 ≤ k ∧ k < 8 then
    (T[k.toNat]?).bind fun q => if q.peer < 0 ∧ 0 ≤ p ∧ p < 12 ∧ T.any (fun q => q.peer == p) = false ∧ q.gen < 60000 then some (ver + 1, T.set k.toNat ⟨p, q.gen + 1⟩) else none
  else none
def giveF (ver : Int) (T : List Seat) (k : Int) : Option (Int × List Seat) :=
  if mayR ver T = true ∧ ver < 1073741824 ∧ 0 ≤ k ∧ k < 8 then
    (T[k.toNat]?).bind fun q => if 0 ≤ q.peer then some (ver + 1, T.set k.toNat ⟨-1, q.gen⟩) else none
  else none
theorem hasSeat_some {ver : Int} {T : List Seat} {k : Int} {had : Bool} (h : hasSeat ver T k had = true) : ∃ (n : Nat) (q : Seat), k = (n : Int) ∧ n < 8 ∧ T[n]? = some q ∧ mayR ver T = true ∧ ver < 1073741824 ∧ decide (0 ≤ q.peer) = had := by
  unfold hasSeat at h
  rw [Bool.and_eq_true, decide_eq_true_eq] at h
  obtain ⟨⟨h1, h2, h3, h4⟩, h5⟩ := h
  refine ⟨k.toNat, ?_⟩
  cases hq : T[k.toNat]? with
  | none => rw [hq] at h5; cases h5
  | some q => rw [hq] at h5; exact ⟨q, by omega, by omega, rfl, h1, h2, by simpa using h5⟩
theorem takeF_no {ver : Int} {T : List Seat} {k p : Int} (h : hasSeat ver T k false = false) (h8 : T.length = 8) : takeF ver T k p = none := by
  unfold takeF
  split
  · rename_i hc
    have hk : k.toNat < T.length := by omega
    rw [List.getElem?_eq_getElem hk, Option.bind_some, if_neg]
    rintro ⟨hp, _⟩
    unfold hasSeat at h
    rw [decide_eq_true hc, List.getElem?_eq_getElem hk, Bool.true_and] at h
    simp at h
    omega
  · rfl
theorem takeF_at {ver : Int} {T : List Seat} {n : Nat} {p : Int} {q : Seat} (hm : mayR ver T = true) (hv : ver < 1073741824) (hn : n < 8) (hq : T[n]? = some q) : takeF ver T n p = if q.peer < 0 ∧ 0 ≤ p ∧ p < 12 ∧ T.any (fun q => q.peer == p) = false ∧ q.gen < 60000 then some (ver + 1, T.set n ⟨p, q.gen + 1⟩) else none := by
  unfold takeF
  rw [if_pos ⟨hm, hv, by omega, by omega⟩, Int.toNat_natCast, hq]
  rfl
set_option maxHeartbeats 4000000 in
theorem take_b (ver : Int) (T : List Seat) (k p : Int) (w0 : World) (h8 : T.length = 8) :
    Calls Try.prog 51 #[.agg (rosterC ver T), .int .i64 k, .int .i64 p] w0 fun e w' => RosOut ver T (takeF ver T k p) e ∧ Below w0.heap.size w0 w' := by
  have H := Sb.start w0
  have H8 := Lib.hid h8
  have HS := Lib.hid (fun w => seat_b ver T k false w h8)
  have Hz := Lib.hid (rc_size (ver := ver) h8)
  have HO := Lib.hid (rc_one (ver := ver) (T := T))
  have Hsp : Hid (splice zR 0 (Value.cells (.agg (rosterC ver T))).toList = rosterC ver T) := Lib.hid (splice_all _ _ (by simp [Value.cells, rc_size h8, zR]))
  cases hs : hasSeat ver T k false with
  | false =>
    rw [hs] at HS
    have Ht := Lib.hid (takeF_no (p := p) hs h8)
    clear h8 hs
    go_enter Try.func51, Try.ntmps51
    go_wp2_with (first | (refine wb_box H rfl 38 _ rfl (rosterC ver T) rfl ?_; clear H; intro b3 w H) | (refine wb_alloc H rfl 38 rfl _ Try.zeroValue38 ?_; clear H; intro b6 w H; replace H : Sb [] w0 w [(b6, zR, 38), (b3, rosterC ver T, 38)] [] := H) | (refine wb_whole H rfl 1 38 _ rfl _ rfl (rosterC ver T) rfl _ Try.underlying38 rfl 17 info33 Hz.out ?_))
    refine (HS.out _).mono ?_; rintro e w' ⟨rfl, hb⟩
    replace H := H.call hb
    clear hb
    go_wp2_with (first | (refine wb_whole H rfl 1 38 _ rfl _ rfl (rosterC ver T) rfl _ Try.underlying38 rfl 17 info33 Hz.out ?_) | (refine wb_put H rfl 0 38 _ _ rfl _ 0 rfl _ _ rfl (.agg (rosterC ver T)) rfl 17 info33 Hz.out (Nat.le_of_ble_eq_true rfl) HO.out _ Hsp.out ?_; clear H; intro w H))
    refine bodyPost_ret (v := .tuple #[.agg (rosterC ver T), .int .i64 1]) (res33t rfl rfl rfl (H.holds _ (List.mem_cons_self ..)) Hz.out) rfl ⟨?_, H.below⟩
    unfold RosOut
    rw [Ht.out]
    rfl
  | true =>
    rw [hs] at HS
    obtain ⟨n, q, rfl, hn8, hq, hm, hv, hp⟩ := hasSeat_some hs
    have hq0 : q.peer < 0 := by simpa using hp
    have HT := Lib.hid (takeF_at (p := p) hm hv hn8 hq)
    have HOf := Lib.hid (fun w => of_b ver T p w h8)
    have Hpg := Lib.hid (rc_seat (ver := ver) n 1 q _ hq rfl)
    have Hset := Lib.hid (rc_set (ver := ver) p (q.gen + 1) hq)
    have Hz2 := Lib.hid (rc_size (ver := ver) (T := T.set n ⟨p, q.gen + 1⟩) (by rw [List.length_set]; exact h8))
    have hof : ofI ver T p = if 0 ≤ p then slotI T p else -1 := by unfold ofI; rw [hm]; simp
    rw [hof] at HOf
    have Hg0 := Lib.hid (show 0 ≤ q.gen ∧ q.gen ≤ 60000 from by have := (mayR_iff.1 hm).2.2.1 q (List.mem_of_getElem? hq); exact ⟨this.2.2.1, this.2.2.2.1⟩)
    have Hv := Lib.hid (show 0 ≤ ver ∧ ver < 1073741824 from ⟨(mayR_iff.1 hm).1, hv⟩)
    clear h8 hs hq hm hp hof
    go_enter Try.func51, Try.ntmps51
    go_wp2_with (first | (refine wb_box H rfl 38 _ rfl (rosterC ver T) rfl ?_; clear H; intro b3 w H) | (refine wb_alloc H rfl 38 rfl _ Try.zeroValue38 ?_; clear H; intro b6 w H; replace H : Sb [] w0 w [(b6, zR, 38), (b3, rosterC ver T, 38)] [] := H) | (refine wb_whole H rfl 1 38 _ rfl _ rfl (rosterC ver T) rfl _ Try.underlying38 rfl 17 info33 Hz.out ?_))
    refine (HS.out _).mono ?_; rintro e w' ⟨rfl, hb⟩
    replace H := H.call hb
    clear hb HS
    have c1 : w'.cell? ⟨b3, 1 + n * 2 + 1, none⟩ = some (.int .i64 q.gen) := (cell_of_row w' b3 _ _ 38 (0, 0) (H.holds _ (List.mem_cons_of_mem _ (List.mem_cons_self ..)))).trans Hpg.out
    by_cases h0 : 0 ≤ p
    rotate_left
    · have q0 : decide (p < 0) = true := decide_eq_true (by omega)
      go_upto_region 2 with fail
      go_wp2_with (first | (refine wb_whole H rfl 1 38 _ rfl _ rfl (rosterC ver T) rfl _ Try.underlying38 rfl 17 info33 Hz.out ?_) | (refine wb_put H rfl 0 38 _ _ rfl _ 0 rfl _ _ rfl (.agg (rosterC ver T)) rfl 17 info33 Hz.out (Nat.le_of_ble_eq_true rfl) HO.out _ Hsp.out ?_; clear H; intro w H))
      refine bodyPost_ret (v := .tuple #[.agg (rosterC ver T), .int .i64 1]) (res33t rfl rfl rfl (H.holds _ (List.mem_cons_self ..)) Hz.out) rfl ⟨?_, H.below⟩
      unfold RosOut
      rw [HT.out, if_neg (by omega)]
      rfl
    have q0 : decide (p < 0) = false := decide_eq_false (by omega)
    rw [if_pos h0] at HOf
    by_cases h1 : p < 12
    rotate_left
    · have q1 : decide (12 ≤ p) = true := decide_eq_true (by omega)
      go_upto_region 2 with fail
      go_wp2_with (first | (refine wb_whole H rfl 1 38 _ rfl _ rfl (rosterC ver T) rfl _ Try.underlying38 rfl 17 info33 Hz.out ?_) | (refine wb_put H rfl 0 38 _ _ rfl _ 0 rfl _ _ rfl (.agg (rosterC ver T)) rfl 17 info33 Hz.out (Nat.le_of_ble_eq_true rfl) HO.out _ Hsp.out ?_; clear H; intro w H))
      refine bodyPost_ret (v := .tuple #[.agg (rosterC ver T), .int .i64 1]) (res33t rfl rfl rfl (H.holds _ (List.mem_cons_self ..)) Hz.out) rfl ⟨?_, H.below⟩
      unfold RosOut
      rw [HT.out, if_neg (by omega)]
      rfl
    have q1 : decide (12 ≤ p) = false := decide_eq_false (by omega)
    clear c1
    go_wp2_with (refine wb_whole H rfl 1 38 _ rfl _ rfl (rosterC ver T) rfl _ Try.underlying38 rfl 17 info33 Hz.out ?_)
    refine (HOf.out _).mono ?_; rintro e w' ⟨rfl, hb⟩
    replace H := H.call hb
    have c1 : w'.cell? ⟨b3, 1 + n * 2 + 1, none⟩ = some (.int .i64 q.gen) := (cell_of_row w' b3 _ _ 38 (0, 0) (H.holds _ (List.mem_cons_of_mem _ (List.mem_cons_self ..)))).trans Hpg.out
    clear hb HOf
    have hsl := slotI_neg T p
    have Hsl := Lib.hid hsl
    clear hsl
    by_cases h2 : slotI T p < 0
    rotate_left
    · have q2 : decide (0 ≤ slotI T p) = true := decide_eq_true (by omega)
      go_upto_region 2 with fail
      go_wp2_with (first | (refine wb_whole H rfl 1 38 _ rfl _ rfl (rosterC ver T) rfl _ Try.underlying38 rfl 17 info33 Hz.out ?_) | (refine wb_put H rfl 0 38 _ _ rfl _ 0 rfl _ _ rfl (.agg (rosterC ver T)) rfl 17 info33 Hz.out (Nat.le_of_ble_eq_true rfl) HO.out _ Hsp.out ?_; clear H; intro w H))
      refine bodyPost_ret (v := .tuple #[.agg (rosterC ver T), .int .i64 1]) (res33t rfl rfl rfl (H.holds _ (List.mem_cons_self ..)) Hz.out) rfl ⟨?_, H.below⟩
      unfold RosOut
      rw [HT.out, if_neg (by intro h; have := Hsl.out.2 h.2.2.2.1; omega)]
      rfl
    have q2 : decide (0 ≤ slotI T p) = false := decide_eq_false (by omega)
    have hn8' : (n : Int) < 8 := by omega
    by_cases h3 : q.gen < 60000
    rotate_left
    · have q3 : decide (60000 ≤ q.gen) = true := decide_eq_true (by omega)
      go_upto_region 2 with fail
      go_wp2_with (first | (refine wb_whole H rfl 1 38 _ rfl _ rfl (rosterC ver T) rfl _ Try.underlying38 rfl 17 info33 Hz.out ?_) | (refine wb_put H rfl 0 38 _ _ rfl _ 0 rfl _ _ rfl (.agg (rosterC ver T)) rfl 17 info33 Hz.out (Nat.le_of_ble_eq_true rfl) HO.out _ Hsp.out ?_; clear H; intro w H))
      refine bodyPost_ret (v := .tuple #[.agg (rosterC ver T), .int .i64 1]) (res33t rfl rfl rfl (H.holds _ (List.mem_cons_self ..)) Hz.out) rfl ⟨?_, H.below⟩
      unfold RosOut
      rw [HT.out, if_neg (by omega)]
      rfl
    have q3 : decide (60000 ≤ q.gen) = false := decide_eq_false (by omega)
    have Hyes := Lib.hid (show q.peer < 0 ∧ 0 ≤ p ∧ p < 12 ∧ T.any (fun q => q.peer == p) = false ∧ q.gen < 60000 from ⟨hq0, h0, h1, Hsl.out.1 h2, h3⟩)
    have Hh3 := Lib.hid h3
    clear h0 h1 h2 h3 hq0
    go_upto_region 3 with fail
    have g0 := Hg0.out
    have g3 := Hh3.out
    have hft : 1 + n * 2 + 2 ≤ (rosterC ver T).size := by rw [Hz.out]; omega
    go_upto_region 4 with (first | (refine wl_build rfl 35 _ rfl #[.int .i64 p, .int .i64 (q.gen + 1)] (by kernel_rfl) ?_) | (refine wb_put H rfl 1 35 _ _ rfl _ (1 + n * 2) rfl _ _ rfl (.agg #[.int .i64 p, .int .i64 (q.gen + 1)]) rfl 2 info30 rfl hft rfl _ Hset.out ?_; clear H; intro w H))
    replace H : Sb [] w0 w [(b6, zR, 38), (b3, rosterC ver (T.set n ⟨p, q.gen + 1⟩), 38)] [] := H
    obtain ⟨v0, v1⟩ := Hv.out
    have hft0 : 0 + 1 ≤ (rosterC ver (T.set n ⟨p, q.gen + 1⟩)).size := by rw [Hz2.out]; omega
    have Hz3 : Hid ((rosterC (ver + 1) (T.set n ⟨p, q.gen + 1⟩)).size = 17) := Lib.hid (by have := Hz2.out; simpa [rosterC] using this)
    have Hsp2 : Hid (splice zR 0 (Value.cells (.agg (rosterC (ver + 1) (T.set n ⟨p, q.gen + 1⟩)))).toList = rosterC (ver + 1) (T.set n ⟨p, q.gen + 1⟩)) := Lib.hid (splice_all _ _ (by simp [Value.cells, Hz3.out, zR]))
    have HO2 := Lib.hid (rc_one (ver := ver + 1) (T := T.set n ⟨p, q.gen + 1⟩))
    go_wp2_with (first | (refine wb_cell H rfl 1 3 _ rfl _ 0 rfl _ _ rfl Try.isAgg3 (.int .i64 ver) rfl ?_) | (refine wb_put H rfl 1 3 _ _ rfl _ 0 rfl _ _ rfl (.int .i64 (ver + 1)) rfl 1 info3 rfl hft0 rfl _ (rc_ver _) ?_; clear H; intro w H) | (refine wb_whole H rfl 1 38 _ rfl _ rfl (rosterC (ver + 1) (T.set n ⟨p, q.gen + 1⟩)) rfl _ Try.underlying38 rfl 17 info33 Hz3.out ?_) | (refine wb_put H rfl 0 38 _ _ rfl _ 0 rfl _ _ rfl (.agg (rosterC (ver + 1) (T.set n ⟨p, q.gen + 1⟩))) rfl 17 info33 Hz3.out (Nat.le_of_ble_eq_true rfl) HO2.out _ Hsp2.out ?_; clear H; intro w H))
    refine bodyPost_ret (v := .tuple #[.agg (rosterC (ver + 1) (T.set n ⟨p, q.gen + 1⟩)), .int .i64 0]) (res33t rfl rfl rfl (H.holds _ (List.mem_cons_self ..)) Hz3.out) rfl ⟨?_, H.below⟩
    unfold RosOut
    rw [HT.out, if_pos Hyes.out]
    rfl
theorem giveF_no {ver : Int} {T : List Seat} {k : Int} (h : hasSeat ver T k true = false) (h8 : T.length = 8) : giveF ver T k = none := by
  unfold giveF
  split
  · rename_i hc
    have hk : k.toNat < T.length := by omega
    rw [List.getElem?_eq_getElem hk, Option.bind_some, if_neg]
    intro hp
    unfold hasSeat at h
    rw [decide_eq_true hc, List.getElem?_eq_getElem hk, Bool.true_and] at h
    simp at h
    omega
  · rfl
theorem giveF_at {ver : Int} {T : List Seat} {n : Nat} {q : Seat} (hm : mayR ver T = true) (hv : ver < 1073741824) (hn : n < 8) (hq : T[n]? = some q) (hp : 0 ≤ q.peer) : giveF ver T n = some (ver + 1, T.set n ⟨-1, q.gen⟩) := by
  unfold giveF
  rw [if_pos ⟨hm, hv, by omega, by omega⟩, Int.toNat_natCast, hq, Option.bind_some, if_pos hp]
set_option maxHeartbeats 4000000 in
theorem give_b (ver : Int) (T : List Seat) (k : Int) (w0 : World) (h8 : T.length = 8) :
    Calls Try.prog 53 #[.agg (rosterC ver T), .int .i64 k] w0 fun e w' => RosOut ver T (giveF ver T k) e ∧ Below w0.heap.size w0 w' := by
  have H := Sb.start w0
  have H8 := Lib.hid h8
  have HS := Lib.hid (fun w => seat_b ver T k true w h8)
  have Hz := Lib.hid (rc_size (ver := ver) h8)
  have HO := Lib.hid (rc_one (ver := ver) (T := T))
  have Hsp : Hid (splice zR 0 (Value.cells (.agg (rosterC ver T))).toList = rosterC ver T) := Lib.hid (splice_all _ _ (by simp [Value.cells, rc_size h8, zR]))
  cases hs : hasSeat ver T k true with
  | false =>
    rw [hs] at HS
    have Ht := Lib.hid (giveF_no hs h8)
    clear h8 hs
    go_enter Try.func53, Try.ntmps53
    go_wp2_with (first | (refine wb_box H rfl 38 _ rfl (rosterC ver T) rfl ?_; clear H; intro b3 w H) | (refine wb_alloc H rfl 38 rfl _ Try.zeroValue38 ?_; clear H; intro b6 w H; replace H : Sb [] w0 w [(b6, zR, 38), (b3, rosterC ver T, 38)] [] := H) | (refine wb_whole H rfl 1 38 _ rfl _ rfl (rosterC ver T) rfl _ Try.underlying38 rfl 17 info33 Hz.out ?_))
    refine (HS.out _).mono ?_; rintro e w' ⟨rfl, hb⟩
    replace H := H.call hb
    clear hb
    go_wp2_with (first | (refine wb_whole H rfl 1 38 _ rfl _ rfl (rosterC ver T) rfl _ Try.underlying38 rfl 17 info33 Hz.out ?_) | (refine wb_put H rfl 0 38 _ _ rfl _ 0 rfl _ _ rfl (.agg (rosterC ver T)) rfl 17 info33 Hz.out (Nat.le_of_ble_eq_true rfl) HO.out _ Hsp.out ?_; clear H; intro w H))
    refine bodyPost_ret (v := .tuple #[.agg (rosterC ver T), .int .i64 1]) (res33t rfl rfl rfl (H.holds _ (List.mem_cons_self ..)) Hz.out) rfl ⟨?_, H.below⟩
    unfold RosOut
    rw [Ht.out]
    rfl
  | true =>
    rw [hs] at HS
    obtain ⟨n, q, rfl, hn8, hq, hm, hv, hp⟩ := hasSeat_some hs
    have hq0 : 0 ≤ q.peer := by simpa using hp
    have HT := Lib.hid (giveF_at hm hv hn8 hq hq0)
    have Hset := Lib.hid (rc_peer (ver := ver) (-1) hq)
    have Hz2 := Lib.hid (rc_size (ver := ver) (T := T.set n ⟨-1, q.gen⟩) (by rw [List.length_set]; exact h8))
    have Hv := Lib.hid (show 0 ≤ ver ∧ ver < 1073741824 from ⟨(mayR_iff.1 hm).1, hv⟩)
    have Hz3 : Hid ((rosterC (ver + 1) (T.set n ⟨-1, q.gen⟩)).size = 17) := Lib.hid (by have := Hz2.out; simpa [rosterC] using this)
    have Hsp2 : Hid (splice zR 0 (Value.cells (.agg (rosterC (ver + 1) (T.set n ⟨-1, q.gen⟩)))).toList = rosterC (ver + 1) (T.set n ⟨-1, q.gen⟩)) := Lib.hid (splice_all _ _ (by simp [Value.cells, Hz3.out, zR]))
    have HO2 := Lib.hid (rc_one (ver := ver + 1) (T := T.set n ⟨-1, q.gen⟩))
    have hn8' : (n : Int) < 8 := by omega
    clear h8 hs hq hm hp hq0 hv
    go_enter Try.func53, Try.ntmps53
    go_wp2_with (first | (refine wb_box H rfl 38 _ rfl (rosterC ver T) rfl ?_; clear H; intro b3 w H) | (refine wb_alloc H rfl 38 rfl _ Try.zeroValue38 ?_; clear H; intro b6 w H; replace H : Sb [] w0 w [(b6, zR, 38), (b3, rosterC ver T, 38)] [] := H) | (refine wb_whole H rfl 1 38 _ rfl _ rfl (rosterC ver T) rfl _ Try.underlying38 rfl 17 info33 Hz.out ?_))
    refine (HS.out _).mono ?_; rintro e w' ⟨rfl, hb⟩
    replace H := H.call hb
    clear hb HS
    have hft : 1 + n * 2 + 1 ≤ (rosterC ver T).size := by rw [Hz.out]; omega
    go_upto_region 4 with (refine wb_put H rfl 1 3 _ _ rfl _ (1 + n * 2) rfl _ _ rfl (.int .i64 (-1)) rfl 1 info3 rfl hft rfl _ Hset.out ?_; clear H; intro w H)
    replace H : Sb [] w0 w [(b6, zR, 38), (b3, rosterC ver (T.set n ⟨-1, q.gen⟩), 38)] [] := H
    obtain ⟨v0, v1⟩ := Hv.out
    have hft0 : 0 + 1 ≤ (rosterC ver (T.set n ⟨-1, q.gen⟩)).size := by rw [Hz2.out]; omega
    go_wp2_with (first | (refine wb_cell H rfl 1 3 _ rfl _ 0 rfl _ _ rfl Try.isAgg3 (.int .i64 ver) rfl ?_) | (refine wb_put H rfl 1 3 _ _ rfl _ 0 rfl _ _ rfl (.int .i64 (ver + 1)) rfl 1 info3 rfl hft0 rfl _ (rc_ver _) ?_; clear H; intro w H) | (refine wb_whole H rfl 1 38 _ rfl _ rfl (rosterC (ver + 1) (T.set n ⟨-1, q.gen⟩)) rfl _ Try.underlying38 rfl 17 info33 Hz3.out ?_) | (refine wb_put H rfl 0 38 _ _ rfl _ 0 rfl _ _ rfl (.agg (rosterC (ver + 1) (T.set n ⟨-1, q.gen⟩))) rfl 17 info33 Hz3.out (Nat.le_of_ble_eq_true rfl) HO2.out _ Hsp2.out ?_; clear H; intro w H))
    refine bodyPost_ret (v := .tuple #[.agg (rosterC (ver + 1) (T.set n ⟨-1, q.gen⟩)), .int .i64 0]) (res33t rfl rfl rfl (H.holds _ (List.mem_cons_self ..)) Hz3.out) rfl ⟨?_, H.below⟩
    unfold RosOut
    rw [HT.out]
    rfl
end Go.Proofs.Ytdopfonebpklkaa.game
