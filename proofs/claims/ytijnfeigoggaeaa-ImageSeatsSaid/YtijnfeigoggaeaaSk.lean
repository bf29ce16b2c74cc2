/- ImageSeats' walk: ships and seats go together. -/
import Derived.Test.YtijnfeigoggaeaaRy
import Derived.Test.YtijnfeigoggaeaaTi
import Derived.Test.YtijnfeigoggaeaaOs
namespace Go.Proofs.Ytijnfeigoggaeaa.game
open Go.ChangeShapes Go.WideShapes Go.ChangeAt Go.RowKit dice
set_option maxRecDepth 100000

theorem take_set_drop {α : Type} {S : List α} {k : Nat} {t : α} (t' : α) (h : S[k]? = some t) : S = S.take k ++ t :: S.drop (k + 1) ∧ S.set k t' = S.take k ++ t' :: S.drop (k + 1) := by
  obtain ⟨hk, e⟩ := List.getElem?_eq_some_iff.1 h
  constructor
  · rw [← e, ← List.drop_eq_getElem_cons hk, List.take_append_drop]
  · rw [List.set_eq_take_append_cons_drop, if_pos hk]
section
variable {fr d ver : Int} {S : List Shp} {L : List Sht} {T : List Seat} {sl : Value}
theorem sc_setShip {k : Nat} {t : Shp} (t' : Shp) (h : S[k]? = some t) : splice (stateC ⟨⟨fr, d, S, L⟩, ver, T⟩ sl) (2 + k * 7) (shipL t') = stateC ⟨⟨fr, d, S.set k t', L⟩, ver, T⟩ sl := by
  obtain ⟨h1, h2⟩ := take_set_drop t' h
  have hk := (List.getElem?_eq_some_iff.1 h).1
  rw [h2]
  conv => lhs; rw [h1]
  exact sc_putShip (S.take k) (S.drop (k + 1)) t t' k (by rw [List.length_take]; omega)
theorem sc_setOn {k : Nat} {t : Shp} (o : Bool) (h : S[k]? = some t) : splice (stateC ⟨⟨fr, d, S, L⟩, ver, T⟩ sl) (2 + k * 7) [.bool o] = stateC ⟨⟨fr, d, S.set k { t with on := o }, L⟩, ver, T⟩ sl := by
  obtain ⟨h1, h2⟩ := take_set_drop { t with on := o } h
  have hk := (List.getElem?_eq_some_iff.1 h).1
  rw [h2]
  conv => lhs; rw [h1]
  have e : ∀ o : Bool, stateC ⟨⟨fr, d, S.take k ++ { t with on := o } :: S.drop (k + 1), L⟩, ver, T⟩ sl = ((Value.int .i64 fr :: Value.int .u64 d :: shipsL (S.take k)) ++ ([Value.bool o] ++ (.int .i32 t.x :: .int .i32 t.y :: .int .i32 t.vx :: .int .i32 t.vy :: .int .i64 t.cool :: .int .i64 t.score :: (shipsL (S.drop (k + 1)) ++ (sl :: .int .i64 ver :: seatsL T))))).toArray := fun o => by
    simp [stateC, stateL, shipsL_append, shipsL_cons, shipL]
  have e0 := e t.on
  rw [show ({ t with on := t.on } : Shp) = t from rfl] at e0
  rw [e0, e o]
  exact splice_mid _ _ _ _ _ (by simp [length_shipsL]; omega) rfl
end
/-- A ship turned on or off: such a state may not be. -/
theorem flip_may {s : Ste} {k : Nat} {t t' : Shp} (h : mayS s = true) (hg : s.g.wf) (t8 : s.T.length = 8) (ht : s.g.S[k]? = some t) (hne : t'.on ≠ t.on) : mayS ⟨⟨s.g.fr, s.g.d, s.g.S.set k t', s.g.L⟩, s.ver, s.T⟩ = false := by
  have hk : k < 8 := by rw [← hg.s8]; exact (List.getElem?_eq_some_iff.1 ht).1
  obtain ⟨q, hq⟩ : ∃ q, s.T[k]? = some q := ⟨s.T[k]'(by rw [t8]; exact hk), List.getElem?_eq_getElem _⟩
  have hp : pairs s.g.S s.T = true := by
    unfold mayS at h
    simp only [Bool.and_eq_true] at h
    exact h.2
  have h1 : (t.on == decide (0 ≤ q.peer)) = true := by
    have hz : (s.g.S.zip s.T)[k]? = some (t, q) := by rw [List.getElem?_zip_eq_some]; exact ⟨ht, hq⟩
    exact List.all_eq_true.1 hp (t, q) (List.mem_of_getElem? hz)
  have h2 : pairs (s.g.S.set k t') s.T = false := by
    have hz : ((s.g.S.set k t').zip s.T)[k]? = some (t', q) := by
      rw [List.getElem?_zip_eq_some]
      exact ⟨by rw [List.getElem?_set_self (by rw [hg.s8]; exact hk)], hq⟩
    refine all_not (p := fun p : Shp × Seat => p.1.on == decide (0 ≤ p.2.peer)) hz ?_
    rw [beq_iff_eq] at h1
    rw [beq_eq_false_iff_ne, ← h1]
    exact hne
  unfold mayS
  dsimp only
  rw [h2, Bool.and_false]
theorem set_wf {g : Gme} {k : Nat} {t' : Shp} (hg : g.wf) (ht : t'.wf) : (⟨g.fr, g.d, g.S.set k t', g.L⟩ : Gme).wf :=
  ⟨hg.fr, hg.d, by dsimp only; rw [List.length_set]; exact hg.s8, fun t hm => by
    rcases List.mem_or_eq_of_mem_set hm with a | a
    · exact hg.ships t a
    · rw [a]; exact ht, hg.shots⟩
set_option maxHeartbeats 8000000 in
theorem seatsWalk (s : Ste) (sl : Value) (a1 : Int) (w0 : World) (hs : s.wf) (hin : ShotsW w0 sl s.g.L) :
    Calls Try.prog 6 #[.agg (stateC s sl), .int .i64 a1] w0 fun e w' => e = .returned (.bool true) ∧ Below w0.heap.size w0 w' := by
  have H := Sb.start w0
  have hg := hs.g
  have t8 := hs.t8
  have Hz := Lib.hid (sc_size (sl := sl) hg.s8 t8)
  have HG := Lib.hid (fun j v h => sc_game (s := s) (sl := sl) j v h)
  have Hgs := Lib.hid (gc_size (fr := s.g.fr) (d := s.g.d) (sl := sl) hg.s8)
  have HC := Lib.hid (fun k t h => sc_ship (s := s) (sl := sl) k 0 t _ h rfl)
  have HI := Lib.hid hin
  have HT := Lib.hid toldI
  have HM := Lib.hid (fun w h => rmayS_b s sl w hg t8 h)
  have HF : Hid (∀ w, Calls Try.prog 14 #[.agg (gameC s.g.fr s.g.d s.g.S sl)] w fun e w' => e = .returned (.bool (decide (s.g.L.length ≤ 60))) ∧ Below w.heap.size w w') := Lib.hid (fun w => by
    obtain ⟨ad, c, e⟩ := hin.form
    rw [e]
    exact few_b _ _ _ _ _ _ _ hg.s8)
  by_cases hfew : s.g.L.length ≤ 60
  rotate_left
  · rw [decide_eq_false hfew] at HF
    clear hs hg t8 hin hfew HC HM
    generalize stateC s sl = cs at *
    go_enter Try.func6, Try.ntmps6
    go_wp2_with (first | (refine wb_box H rfl 35 _ rfl cs rfl ?_; clear H; intro b1 w H) | (refine wb_partA H rfl 0 28 _ rfl _ 0 rfl _ _ rfl _ Try.underlying28 rfl 59 info28 (gameC s.g.fr s.g.d s.g.S sl) (fun j v h => by rw [Nat.zero_add]; exact HG.out j v h) Hgs.out ?_))
    refine (HF.out _).mono ?_; rintro e w' ⟨rfl, hb⟩
    replace H := H.call hb
    clear hb
    go_wp2_with fail
    refine (HT.out _).mono ?_; rintro e w' ⟨rfl, hb⟩
    replace H := H.call hb
    clear hb
    go_wp2_with fail
    go_ret
    exact ⟨rfl, H.below⟩
  rw [decide_eq_true hfew] at HF
  cases hm : mayS s with
  | false =>
    rw [hm] at HM
    clear hs hg t8 hin hfew HC hm
    generalize stateC s sl = cs at *
    go_enter Try.func6, Try.ntmps6
    go_wp2_with (first | (refine wb_box H rfl 35 _ rfl cs rfl ?_; clear H; intro b1 w H) | (refine wb_partA H rfl 0 28 _ rfl _ 0 rfl _ _ rfl _ Try.underlying28 rfl 59 info28 (gameC s.g.fr s.g.d s.g.S sl) (fun j v h => by rw [Nat.zero_add]; exact HG.out j v h) Hgs.out ?_))
    refine (HF.out _).mono ?_; rintro e w' ⟨rfl, hb⟩
    replace H := H.call hb
    clear hb
    go_wp2_with (refine wb_whole H rfl 0 35 _ rfl _ rfl cs rfl _ Try.underlying35 rfl 76 info35 Hz.out ?_)
    refine (HM.out _ (HI.out.later H.below)).mono ?_; rintro e w' ⟨rfl, hb⟩
    replace H := H.call hb
    clear hb
    go_wp2_with fail
    refine (HT.out _).mono ?_; rintro e w' ⟨rfl, hb⟩
    replace H := H.call hb
    clear hb
    go_wp2_with fail
    go_ret
    exact ⟨rfl, H.below⟩
  | true =>
    rw [hm] at HM
    have HP := Lib.hid (fun w h => put_ok s sl w hg t8 h hm)
    have HOF := Lib.hid (fun w h => of_ok s sl w hg t8 h hm)
    have HSm : Hid (∀ k t t', s.g.S[k]? = some t → t'.wf → t'.on ≠ t.on → (∀ w, ShotsW w sl s.g.L → Calls Try.prog 16 #[.agg (stateC ⟨⟨s.g.fr, s.g.d, s.g.S.set k t', s.g.L⟩, s.ver, s.T⟩ sl)] w fun e w' => e = .returned (.tuple #[.slice none 0 0, .int .i64 1]) ∧ Below w.heap.size w w') ∧ (∀ w, ShotsW w sl s.g.L → Calls Try.prog 24 #[.agg (stateC ⟨⟨s.g.fr, s.g.d, s.g.S.set k t', s.g.L⟩, s.ver, s.T⟩ sl)] w fun e w' => e = .returned (.int .u64 0) ∧ Below w.heap.size w w')) := Lib.hid (fun k t t' ht hw hne =>
      ⟨fun w h => put_no ⟨⟨s.g.fr, s.g.d, s.g.S.set k t', s.g.L⟩, s.ver, s.T⟩ sl w (set_wf hg hw) t8 h (flip_may hm hg t8 ht hne), fun w h => of_no ⟨⟨s.g.fr, s.g.d, s.g.S.set k t', s.g.L⟩, s.ver, s.T⟩ sl w (set_wf hg hw) t8 h (flip_may hm hg t8 ht hne)⟩)
    have H8 := Lib.hid hg.s8
    have HW := Lib.hid hg.ships
    have T8 := Lib.hid t8
    have HONE := Lib.hid (show (Value.cells (.agg (stateC s sl))).toList.all (·.oneCell') = true by
      have hso : sl.oneCell' = true := by obtain ⟨ad, c, e⟩ := hin.form; rw [e]; rfl
      rw [List.all_eq_true]
      intro v hv
      simp [Value.cells, stateC, stateL, shipsL, seatsL] at hv
      rcases hv with rfl | rfl | ⟨t, _, hm⟩ | rfl | rfl | ⟨q, _, hm⟩
      · rfl
      · rfl
      · simp [shipL] at hm
        rcases hm with rfl | rfl | rfl | rfl | rfl | rfl | rfl <;> rfl
      · exact hso
      · rfl
      · simp [seatL] at hm
        rcases hm with rfl | rfl <;> rfl)
    clear hs hg t8 hin hfew hm
    go_enter Try.func6, Try.ntmps6
    go_wp2_with (first | (refine wb_box H rfl 35 _ rfl (stateC s sl) rfl ?_; clear H; intro b1 w H) | (refine wb_partA H rfl 0 28 _ rfl _ 0 rfl _ _ rfl _ Try.underlying28 rfl 59 info28 (gameC s.g.fr s.g.d s.g.S sl) (fun j v h => by rw [Nat.zero_add]; exact HG.out j v h) Hgs.out ?_))
    refine (HF.out _).mono ?_; rintro e w' ⟨rfl, hb⟩
    replace H := H.call hb
    clear hb
    go_wp2_with (refine wb_whole H rfl 0 35 _ rfl _ rfl (stateC s sl) rfl _ Try.underlying35 rfl 76 info35 Hz.out ?_)
    refine (HM.out _ (HI.out.later H.below)).mono ?_; rintro e w' ⟨rfl, hb⟩
    replace H := H.call hb
    clear hb
    go_upto_region 4 with fail
    obtain ⟨kn, hkn, hk8⟩ : ∃ kn : Nat, wrap64 ((IntKind.u64.wrap a1).tmod 8) = kn ∧ kn < 8 := by
      have h0 := (u64w_bd a1).1
      have h1 : (IntKind.u64.wrap a1).tmod 8 = (IntKind.u64.wrap a1) % 8 := Int.tmod_eq_emod_of_nonneg h0
      generalize IntKind.u64.wrap a1 = z at *
      refine ⟨(z % 8).toNat, ?_, by omega⟩
      rw [h1]
      unfold wrap64
      omega
    rw [hkn]
    have hk8' : (kn : Int) < 8 := by omega
    clear hkn HM HF
    obtain ⟨⟨fr, d, S, L⟩, ver, T⟩ := s
    dsimp only at *
    obtain ⟨t, ht⟩ : ∃ t, S[kn]? = some t := ⟨S[kn]'(by rw [H8.out]; exact hk8), List.getElem?_eq_getElem _⟩
    have Hc : Hid ((stateC ⟨⟨fr, d, S, L⟩, ver, T⟩ sl)[2 + kn * 7]? = some (.bool t.on)) := Lib.hid (HC.out kn t ht)
    have Hspl : Hid (splice zC 0 (Value.cells (.agg (stateC ⟨⟨fr, d, S, L⟩, ver, T⟩ sl))).toList = stateC ⟨⟨fr, d, S, L⟩, ver, T⟩ sl) := Lib.hid (splice_all _ _ (by rw [zC_size]; exact Hz.out.symm))
    have hwt := HW.out t (List.mem_of_getElem? ht)
    go_upto_region 5 with (first | (refine wb_whole H rfl 0 35 _ rfl _ rfl (stateC ⟨⟨fr, d, S, L⟩, ver, T⟩ sl) rfl _ Try.underlying35 rfl 76 info35 Hz.out ?_) | (refine wb_alloc H rfl 35 rfl _ Try.zeroValue35 ?_; clear H; intro b6 w H; replace H : Sb [] w0 w [(b6, zC, 35), (b1, stateC ⟨⟨fr, d, S, L⟩, ver, T⟩ sl, 35)] [] := H) | (refine wb_put H rfl 0 35 _ _ rfl _ 0 rfl _ _ rfl (.agg (stateC ⟨⟨fr, d, S, L⟩, ver, T⟩ sl)) rfl 76 info35 Hz.out (Nat.le_of_ble_eq_true rfl) HONE.out _ Hspl.out ?_; clear H; intro w H))
    replace H : Sb [] w0 w [(b6, stateC ⟨⟨fr, d, S, L⟩, ver, T⟩ sl, 35), (b1, stateC ⟨⟨fr, d, S, L⟩, ver, T⟩ sl, 35)] [] := H
    clear hk8
    obtain ⟨o, x, y, vx, vy, cl, sc⟩ := t
    dsimp only at Hc
    cases o with
    | true =>
      have HS2 := Lib.hid (HSm.out kn _ zShp ht zShp_wf (by simp [zShp]))
      have G1 := Lib.hid (sc_setShip (fr := fr) (d := d) (ver := ver) (L := L) (T := T) (sl := sl) zShp ht)
      have hft : 2 + kn * 7 + 7 ≤ (stateC ⟨⟨fr, d, S, L⟩, ver, T⟩ sl).size := by rw [Hz.out]; omega
      have Hz2 := Lib.hid (st_size (fr := fr) (d := d) (ver := ver) (L := L) (sl := sl) (show (S.set kn zShp).length = 8 by rw [List.length_set]; exact H8.out) T8.out)
      clear ht HSm
      go_wp2_with (first | (refine wb_cell H rfl 0 4 _ rfl _ (2 + kn * 7) rfl _ _ rfl Try.isAgg4 (.bool true) Hc.out ?_) | (refine wb_put H rfl 0 24 _ _ rfl _ (2 + kn * 7) rfl _ _ rfl (.agg #[.bool false, .int .i32 0, .int .i32 0, .int .i32 0, .int .i32 0, .int .i64 0, .int .i64 0]) rfl 7 info24 rfl hft rfl _ G1.out ?_; clear H; intro w H) | (refine wb_whole H rfl 1 35 _ rfl _ rfl (stateC ⟨⟨fr, d, S, L⟩, ver, T⟩ sl) rfl _ Try.underlying35 rfl 76 info35 Hz.out ?_))
      replace H : Sb [] w0 w [(b6, stateC ⟨⟨fr, d, S.set kn zShp, L⟩, ver, T⟩ sl, 35), (b1, stateC ⟨⟨fr, d, S, L⟩, ver, T⟩ sl, 35)] [] := H
      refine (HP.out _ (HI.out.later H.below)).mono ?_; rintro e w' ⟨v, rfl, hr, hb⟩
      replace H := H.call hb
      have HB0 := Lib.hid (Bs.of_row hr)
      clear hb hr
      go_wp2_with (refine wb_whole H rfl 0 35 _ rfl _ rfl (stateC ⟨⟨fr, d, S.set kn zShp, L⟩, ver, T⟩ sl) rfl _ Try.underlying35 rfl 76 info35 Hz2.out ?_)
      refine (HS2.out.1 _ (HI.out.later H.below)).mono ?_; rintro e w' ⟨rfl, hb⟩
      replace H := H.call hb
      have HB1 := Lib.hid (HB0.out.later hb)
      clear hb HB0
      go_wp2_with fail
      refine (HT.out _).mono ?_; rintro e w' ⟨rfl, hb⟩
      replace H := H.call hb
      have HB2 := Lib.hid (HB1.out.later hb)
      clear hb HB1
      go_wp2_with (refine wb_whole H rfl 0 35 _ rfl _ rfl (stateC ⟨⟨fr, d, S.set kn zShp, L⟩, ver, T⟩ sl) rfl _ Try.underlying35 rfl 76 info35 Hz2.out ?_)
      refine (HS2.out.2 _ (HI.out.later H.below)).mono ?_; rintro e w' ⟨rfl, hb⟩
      replace H := H.call hb
      have HB3 := Lib.hid (HB2.out.later hb)
      clear hb HB2
      go_wp2_with (refine wb_whole H rfl 1 35 _ rfl _ rfl (stateC ⟨⟨fr, d, S, L⟩, ver, T⟩ sl) rfl _ Try.underlying35 rfl 76 info35 Hz.out ?_)
      refine (HOF.out _ (HI.out.later H.below)).mono ?_; rintro e w' ⟨rfl, hb⟩
      replace H := H.call hb
      have HB4 := Lib.hid (HB3.out.later hb)
      clear hb HB3
      go_wp2_with fail
      refine (sum_any v _ _ HB4.out).mono ?_; rintro e w2 ⟨rfl, rfl⟩
      go_wp2_with fail
      go_ret
      exact ⟨by simp, H.below⟩
    | false =>
      have HS2 := Lib.hid (HSm.out kn _ ⟨true, x, y, vx, vy, cl, sc⟩ ht ⟨hwt.x, hwt.y, hwt.vx, hwt.vy, hwt.cool, hwt.score⟩ (by simp))
      have G1 := Lib.hid (sc_setOn (fr := fr) (d := d) (ver := ver) (L := L) (T := T) (sl := sl) true ht)
      have hft : 2 + kn * 7 + 1 ≤ (stateC ⟨⟨fr, d, S, L⟩, ver, T⟩ sl).size := by rw [Hz.out]; omega
      have Hz2 := Lib.hid (st_size (fr := fr) (d := d) (ver := ver) (L := L) (sl := sl) (show (S.set kn ⟨true, x, y, vx, vy, cl, sc⟩).length = 8 by rw [List.length_set]; exact H8.out) T8.out)
      clear ht HSm
      go_wp2_with (first | (refine wb_cell H rfl 0 4 _ rfl _ (2 + kn * 7) rfl _ _ rfl Try.isAgg4 (.bool false) Hc.out ?_) | (refine wb_put H rfl 0 4 _ _ rfl _ (2 + kn * 7) rfl _ _ rfl (.bool true) rfl 1 info4 rfl hft rfl _ G1.out ?_; clear H; intro w H) | (refine wb_whole H rfl 1 35 _ rfl _ rfl (stateC ⟨⟨fr, d, S, L⟩, ver, T⟩ sl) rfl _ Try.underlying35 rfl 76 info35 Hz.out ?_))
      replace H : Sb [] w0 w [(b6, stateC ⟨⟨fr, d, S.set kn ⟨true, x, y, vx, vy, cl, sc⟩, L⟩, ver, T⟩ sl, 35), (b1, stateC ⟨⟨fr, d, S, L⟩, ver, T⟩ sl, 35)] [] := H
      refine (HP.out _ (HI.out.later H.below)).mono ?_; rintro e w' ⟨v, rfl, hr, hb⟩
      replace H := H.call hb
      have HB0 := Lib.hid (Bs.of_row hr)
      clear hb hr
      go_wp2_with (refine wb_whole H rfl 0 35 _ rfl _ rfl (stateC ⟨⟨fr, d, S.set kn ⟨true, x, y, vx, vy, cl, sc⟩, L⟩, ver, T⟩ sl) rfl _ Try.underlying35 rfl 76 info35 Hz2.out ?_)
      refine (HS2.out.1 _ (HI.out.later H.below)).mono ?_; rintro e w' ⟨rfl, hb⟩
      replace H := H.call hb
      have HB1 := Lib.hid (HB0.out.later hb)
      clear hb HB0
      go_wp2_with fail
      refine (HT.out _).mono ?_; rintro e w' ⟨rfl, hb⟩
      replace H := H.call hb
      have HB2 := Lib.hid (HB1.out.later hb)
      clear hb HB1
      go_wp2_with (refine wb_whole H rfl 0 35 _ rfl _ rfl (stateC ⟨⟨fr, d, S.set kn ⟨true, x, y, vx, vy, cl, sc⟩, L⟩, ver, T⟩ sl) rfl _ Try.underlying35 rfl 76 info35 Hz2.out ?_)
      refine (HS2.out.2 _ (HI.out.later H.below)).mono ?_; rintro e w' ⟨rfl, hb⟩
      replace H := H.call hb
      have HB3 := Lib.hid (HB2.out.later hb)
      clear hb HB2
      go_wp2_with (refine wb_whole H rfl 1 35 _ rfl _ rfl (stateC ⟨⟨fr, d, S, L⟩, ver, T⟩ sl) rfl _ Try.underlying35 rfl 76 info35 Hz.out ?_)
      refine (HOF.out _ (HI.out.later H.below)).mono ?_; rintro e w' ⟨rfl, hb⟩
      replace H := H.call hb
      have HB4 := Lib.hid (HB3.out.later hb)
      clear hb HB3
      go_wp2_with fail
      refine (sum_any v _ _ HB4.out).mono ?_; rintro e w2 ⟨rfl, rfl⟩
      go_wp2_with fail
      go_ret
      exact ⟨by simp, H.below⟩
end Go.Proofs.Ytijnfeigoggaeaa.game
