/- The document's answer: which states may be, over any state, as a truth; Few. -/
import Derived.Test.YtijnfeigoggaeaaRw
import Derived.Test.YtijnfeigoggaeaaRr
namespace Go.Proofs.Ytijnfeigoggaeaa.game
open Go.ChangeShapes Go.WideShapes Go.ChangeAt Go.RowKit dice
set_option maxRecDepth 100000

theorem few_b (fr d : Int) (S : List Shp) (ad : Option Addr) (n c : Nat) (w0 : World) (h8 : S.length = 8) :
    Calls Try.prog 14 #[.agg (gameC fr d S (.slice ad n c))] w0 fun e w' => e = .returned (.bool (decide (n ≤ 60))) ∧ Below w0.heap.size w0 w' := by
  have H := Sb.start w0
  have Hs := Lib.hid (gc_shots (fr := fr) (d := d) (sl := .slice ad n c) h8)
  clear h8
  generalize gameC fr d S (.slice ad n c) = cs at *
  by_cases h : n ≤ 60
  · rw [decide_eq_true h]
    have q : decide ((n : Int) ≤ 60) = true := decide_eq_true (by omega)
    go_enter Try.func14, Try.ntmps14
    go_wp2_with (first | (refine wb_box H rfl 28 _ rfl cs rfl ?_; clear H; intro b1 w H) | (refine wb_cell H rfl 0 26 _ rfl _ 58 rfl _ _ rfl Try.isAgg26 (.slice ad n c) Hs.out ?_))
    go_ret
    exact ⟨rfl, H.below⟩
  · rw [decide_eq_false h]
    have q : decide ((n : Int) ≤ 60) = false := decide_eq_false (by omega)
    go_enter Try.func14, Try.ntmps14
    go_wp2_with (first | (refine wb_box H rfl 28 _ rfl cs rfl ?_; clear H; intro b1 w H) | (refine wb_cell H rfl 0 26 _ rfl _ 58 rfl _ _ rfl Try.isAgg26 (.slice ad n c) Hs.out ?_))
    go_ret
    exact ⟨rfl, H.below⟩
set_option maxHeartbeats 4000000 in
theorem rmayS_b (s : Ste) (sl : Value) (w0 : World) (hg : s.g.wf) (t8 : s.T.length = 8) (hin : ShotsW w0 sl s.g.L) :
    Calls Try.prog 17 #[.agg (stateC s sl)] w0 fun e w' => e = .returned (.bool (mayS s)) ∧ Below w0.heap.size w0 w' := by
  have H := Sb.start w0
  have H8 := Lib.hid hg.s8
  have T8 := Lib.hid t8
  have HM := Lib.hid (fun w h => rmayG_b s.g sl w hg h)
  have HR := Lib.hid (fun w => rmayR_b s.ver s.T w t8)
  have HI := Lib.hid hin
  have HG := Lib.hid (fun j v h => sc_game (s := s) (sl := sl) j v h)
  have HO := Lib.hid (fun j v h => sc_roster (s := s) (sl := sl) hg.s8 j v h)
  have HS := Lib.hid (fun k t h => sc_ship (s := s) (sl := sl) k 0 t _ h rfl)
  have HQ := Lib.hid (fun k q h => sc_seat (s := s) (sl := sl) hg.s8 k 0 q _ h rfl)
  have Hgs := Lib.hid (gc_size (fr := s.g.fr) (d := s.g.d) (sl := sl) hg.s8)
  have Hrs := Lib.hid (rc_size (ver := s.ver) t8)
  unfold mayS
  clear hg t8 hin
  generalize stateC s sl = cs at *
  obtain ⟨⟨fr, d, S, L⟩, ver, T⟩ := s
  dsimp only at *
  go_enter Try.func17, Try.ntmps17
  go_wp2_with (first | (refine wb_box H rfl 35 _ rfl cs rfl ?_; clear H; intro b1 w H) | (refine wb_partA H rfl 0 28 _ rfl _ 0 rfl _ _ rfl _ Try.underlying28 rfl 59 info28 (gameC fr d S sl) (fun j v h => by rw [Nat.zero_add]; exact HG.out j v h) Hgs.out ?_))
  refine (HM.out _ (HI.out.later H.below)).mono ?_; rintro e w' ⟨rfl, hb⟩
  replace H := H.call hb
  clear hb
  cases q1 : Gme.may ⟨fr, d, S, L⟩
  · go_wp2_with fail
    go_ret
    exact ⟨by rw [q1]; rfl, H.below⟩
  go_wp2_with (refine wb_partA H rfl 0 33 _ rfl _ 59 rfl _ _ rfl _ Try.underlying33 rfl 17 info33 (rosterC ver T) HO.out Hrs.out ?_)
  refine (HR.out _).mono ?_; rintro e w' ⟨rfl, hb⟩
  replace H := H.call hb
  clear hb
  cases q2 : mayR ver T
  · go_wp2_with fail
    go_ret
    exact ⟨by rw [q1, q2]; rfl, H.below⟩
  go_wp2_with fail
  have H' := Lib.hid H
  clear H HI HM HR
  go_loopw [3] (fun i W => ∃ k : Nat, k ≤ 8 ∧ i = .int .i64 k ∧ Hid (Sb [] w0 W [(b1, cs, 35)] []) ∧ Hid (((S.zip T).take k).all (fun p => p.1.on == decide (0 ≤ p.2.peer)) = true)) (fun i _ => 8 - (intOf i).toNat)
  case atStart => exact ⟨0, Nat.zero_le _, rfl, H', Lib.hid (by simp)⟩
  case round =>
    clear H'
    obtain ⟨k, hk, rfl, HB, HA⟩ := hrel
    by_cases hlt : k < 8
    · obtain ⟨t, ht⟩ : ∃ t, S[k]? = some t := ⟨S[k]'(by rw [H8.out]; exact hlt), List.getElem?_eq_getElem _⟩
      obtain ⟨q, hq⟩ : ∃ q, T[k]? = some q := ⟨T[k]'(by rw [T8.out]; exact hlt), List.getElem?_eq_getElem _⟩
      have HZ : Hid ((S.zip T)[k]? = some (t, q)) := Lib.hid (by rw [List.getElem?_zip_eq_some]; exact ⟨ht, hq⟩)
      have c4 : wr.cell? ⟨b1, 2 + k * 7, none⟩ = some (.bool t.on) := (cell_of_row wr b1 (2 + k * 7) _ 35 (0, 0) (HB.out.holds _ (List.mem_cons_self ..))).trans (HS.out k t ht)
      have c1 : wr.cell? ⟨b1, 60 + k * 2, none⟩ = some (.int .i64 q.peer) := (cell_of_row wr b1 (60 + k * 2) _ 35 (0, 0) (HB.out.holds _ (List.mem_cons_self ..))).trans (HQ.out k q hq)
      clear ht hq
      obtain ⟨o, x, y, vx, vy, cl, sc⟩ := t
      obtain ⟨p, g⟩ := q
      dsimp only at c4 c1
      go_wp2_with fail
      go_quiet (fail)
      have HB2 := Lib.hid (HB.out.call (below_drewN (Below.refl _ _) nq))
      clear c4 c1 HB
      generalize hz : (o == decide (0 ≤ p)) = z
      have Hz := Lib.hid hz
      clear hz
      cases z
      · go_wp2_with fail
        go_ret
        refine ⟨?_, HB2.out.below⟩
        have e : pairs S T = false := all_not (p := fun p : Shp × Seat => p.1.on == decide (0 ≤ p.2.peer)) HZ.out Hz.out
        rw [e, Bool.and_false]
        rfl
      · go_wp2_with fail
        exact ⟨⟨k + 1, hlt, rfl, HB2, Lib.hid (all_take HA.out HZ.out Hz.out)⟩, by simp only [intOf]; omega⟩
    · obtain rfl : k = 8 := by omega
      go_wp2_with fail
      go_ret
      refine ⟨?_, HB.out.below⟩
      have := HA.out
      rw [List.take_of_length_le (by rw [List.length_zip, H8.out, T8.out]; decide)] at this
      rw [q1, q2]
      exact congrArg _ (congrArg _ this.symm)
end Go.Proofs.Ytijnfeigoggaeaa.game
