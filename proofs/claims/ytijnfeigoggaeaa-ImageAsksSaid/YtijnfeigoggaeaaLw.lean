/- ImageLong's walk: an image's length. -/
import Derived.Test.YtijnfeigoggaeaaTi
import Derived.Test.YtijnfeigoggaeaaOs
namespace Go.Proofs.Ytijnfeigoggaeaa.game
open Go.ChangeShapes Go.WideShapes Go.ChangeAt Go.RowKit dice
set_option maxRecDepth 100000

def onN (S : List Shp) : Nat := (S.filter fun t => t.on).length
theorem shipB_len (t : Shp) : (shipB t).length = if t.on = true then 22 else 1 := by
  unfold shipB
  split <;> simp [length_numB]
theorem ships_len : ∀ S : List Shp, (S.flatMap shipB).length = S.length + 21 * onN S
  | [] => rfl
  | t :: S => by
    rw [List.flatMap_cons, List.length_append, ships_len S, shipB_len, onN, onN, List.filter_cons]
    split <;> simp <;> omega
theorem shots_len : ∀ L : List Sht, (L.flatMap shotB).length = 18 * L.length
  | [] => rfl
  | t :: S => by
    rw [List.flatMap_cons, List.length_append, shots_len S]
    simp [shotB, length_numB]
    omega
theorem seats_len : ∀ L : List Seat, (L.flatMap seatB).length = 3 * L.length
  | [] => rfl
  | t :: S => by
    rw [List.flatMap_cons, List.length_append, seats_len S]
    simp [seatB, length_numB]
    omega
theorem img_len (s : Ste) (h8 : s.g.S.length = 8) (t8 : s.T.length = 8) : (img s).length = 49 + 18 * s.g.L.length + 21 * onN s.g.S := by
  unfold img
  simp only [List.length_append, length_numB, ships_len, shots_len, seats_len, h8, t8]
  omega
theorem onN_le (S : List Shp) : onN S ≤ S.length := List.length_filter_le ..
theorem onN_snoc {S : List Shp} {k : Nat} {t : Shp} (h : S[k]? = some t) : onN (S.take (k + 1)) = onN (S.take k) + if t.on = true then 1 else 0 := by
  obtain ⟨hk, e⟩ := List.getElem?_eq_some_iff.1 h
  rw [List.take_succ_eq_append_getElem hk, e, onN, onN, List.filter_append, List.length_append, List.filter_cons]
  split <;> simp
set_option maxHeartbeats 4000000 in
theorem longWalk (s : Ste) (sl : Value) (w0 : World) (hg : s.g.wf) (t8 : s.T.length = 8) (hin : ShotsW w0 sl s.g.L) :
    Calls Try.prog 5 #[.agg (stateC s sl)] w0 fun e w' => e = .returned (.bool true) ∧ Below w0.heap.size w0 w' := by
  have H := Sb.start w0
  have Hz := Lib.hid (sc_size (sl := sl) hg.s8 t8)
  have H8 := Lib.hid hg.s8
  have H58 := Lib.hid (sc_shots (s := s) (sl := sl) hg.s8)
  have HC := Lib.hid (fun k t h => sc_ship (s := s) (sl := sl) k 0 t _ h rfl)
  have HI := Lib.hid hin
  obtain ⟨ad, c, hsl⟩ := hin.form
  have HT := Lib.hid toldI
  cases hm : mayS s with
  | false =>
    have HP := Lib.hid (fun w h => put_no s sl w hg t8 h hm)
    clear hg t8 hin hm hsl HC H58
    generalize stateC s sl = cs at *
    go_enter Try.func5, Try.ntmps5
    go_wp2_with (first | (refine wb_box H rfl 35 _ rfl cs rfl ?_; clear H; intro b1 w H) | (refine wb_whole H rfl 0 35 _ rfl _ rfl cs rfl _ Try.underlying35 rfl 76 info35 Hz.out ?_))
    refine (HP.out _ (HI.out.later H.below)).mono ?_; rintro e w' ⟨rfl, hb⟩
    replace H := H.call hb
    clear hb
    go_wp2_with fail
    refine (HT.out _).mono ?_; rintro e w' ⟨rfl, hb⟩
    replace H := H.call hb
    clear hb
    go_wp2_with fail
    go_ret
    exact ⟨rfl, H.below⟩
  | true =>
    have HP := Lib.hid (fun w h => put_ok s sl w hg t8 h hm)
    have hlen := img_len s hg.s8 t8
    have hmost : s.g.L.length ≤ 32 := ((Gme.may_ok hg.s8).1 (by unfold mayS at hm; simp only [Bool.and_eq_true] at hm; exact hm.1.1)).most
    have hon : onN s.g.S ≤ 8 := by rw [← hg.s8]; exact onN_le _
    rw [hsl] at HP H58 HI
    rw [hsl] at HC Hz ⊢
    clear hg t8 hin hm hsl
    generalize stateC s (.slice ad s.g.L.length c) = cs at *
    generalize img s = im at *
    have HL := Lib.hid hlen
    clear hlen
    obtain ⟨⟨fr, d, S, L⟩, ver, T⟩ := s
    dsimp only at *
    go_enter Try.func5, Try.ntmps5
    go_wp2_with (first | (refine wb_box H rfl 35 _ rfl cs rfl ?_; clear H; intro b1 w H) | (refine wb_whole H rfl 0 35 _ rfl _ rfl cs rfl _ Try.underlying35 rfl 76 info35 Hz.out ?_))
    refine (HP.out _ (HI.out.later H.below)).mono ?_; rintro e w' ⟨v, rfl, hr, hb⟩
    replace H := H.call hb
    obtain ⟨av, cv, rfl⟩ := row_form hr
    clear hb hr HP HI
    have hL' : (L.length : Int) ≤ 32 := by omega
    have Hon := Lib.hid hon
    clear hon hmost
    go_wp2_with (refine wb_cell H rfl 0 26 _ rfl _ 58 rfl _ _ rfl Try.isAgg26 (.slice ad L.length c) H58.out ?_)
    have HB := Lib.hid H
    clear H
    go_loopw [5, 6] (fun n i W => ∃ k : Nat, k ≤ 8 ∧ i = .int .i64 k ∧ n = .int .i64 (49 + 18 * (L.length : Int) + 21 * ((onN (S.take k) : Nat) : Int)) ∧ W = w') (fun _ i _ => 8 - (intOf i).toNat)
    case atStart => exact ⟨0, Nat.zero_le _, rfl, by simp [onN], rfl⟩
    case round =>
      obtain ⟨k, hk, rfl, rfl, rfl⟩ := hrel
      by_cases hlt : k < 8
      · obtain ⟨t, ht⟩ : ∃ t, S[k]? = some t := ⟨S[k]'(by rw [H8.out]; exact hlt), List.getElem?_eq_getElem _⟩
        have Hc := Lib.hid (HC.out k t ht)
        have Hsn := Lib.hid (onN_snoc ht)
        have hle : onN (S.take k) ≤ 8 := Nat.le_trans (onN_le _) (by rw [List.length_take]; omega)
        have hle' : ((onN (S.take k) : Nat) : Int) ≤ 8 := by omega
        have H := HB.out
        clear ht hle
        generalize onN (S.take k) = q at *
        cases ho : t.on
        · rw [ho] at Hc Hsn
          go_wp2_with (refine wb_cell H rfl 0 4 _ rfl _ (2 + k * 7) rfl _ _ rfl Try.isAgg4 (.bool false) Hc.out ?_)
          exact ⟨⟨k + 1, hlt, rfl, by rw [Hsn.out]; simp, by first | trivial | rfl⟩, by simp only [intOf]; omega⟩
        · rw [ho] at Hc Hsn
          go_wp2_with (refine wb_cell H rfl 0 4 _ rfl _ (2 + k * 7) rfl _ _ rfl Try.isAgg4 (.bool true) Hc.out ?_)
          refine ⟨⟨k + 1, hlt, rfl, ?_, by first | trivial | rfl⟩, by simp only [intOf]; omega⟩
          rw [Hsn.out]
          refine congrArg _ ?_
          simp
          omega
      · obtain rfl : k = 8 := by omega
        have h8 : onN (S.take 8) = onN S := by rw [List.take_of_length_le (by rw [H8.out]; decide)]
        have hq := Hon.out
        have hq' : ((onN S : Nat) : Int) ≤ 8 := by omega
        rw [h8]
        have hlen := HL.out
        generalize onN S = q at *
        clear Hon h8 HC HL
        have H := HB.out
        clear HB
        go_wp2_with fail
        refine (HT.out _).mono ?_; rintro e w' ⟨rfl, hb⟩
        replace H := H.call hb
        clear hb
        have hlen' : (im.length : Int) = 49 + 18 * (L.length : Int) + 21 * (q : Int) := by omega
        go_wp2_with fail
        go_ret
        refine ⟨?_, H.below⟩
        show Ending.returned (.bool (decide _)) = _
        rw [decide_eq_true (by omega)]
end Go.Proofs.Ytijnfeigoggaeaa.game
