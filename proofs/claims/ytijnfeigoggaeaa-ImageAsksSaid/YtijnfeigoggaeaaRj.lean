/- The document's answer: Same, over any two states. -/
import Derived.Test.YtijnfeigoggaeaaRp
namespace Go.Proofs.Ytijnfeigoggaeaa.game
open Go.ChangeShapes Go.WideShapes Go.ChangeAt Go.RowKit dice
set_option maxRecDepth 100000

theorem ste_eq {s u : Ste} : s = u ↔ s.g = u.g ∧ s.ver = u.ver ∧ s.T = u.T := by
  constructor
  · rintro rfl; exact ⟨rfl, rfl, rfl⟩
  · obtain ⟨a, b, c⟩ := s
    obtain ⟨a', b', c'⟩ := u
    rintro ⟨h1, h2, h3⟩
    dsimp only at h1 h2 h3
    rw [h1, h2, h3]
set_option maxHeartbeats 4000000 in
theorem rsameS (s u : Ste) (sl sl' : Value) (w0 : World) (hs : s.wf) (hu : u.wf) (hin : ShotsW w0 sl s.g.L) (hin' : ShotsW w0 sl' u.g.L) (hm : s.g.L.length ≤ 1000) (hm' : u.g.L.length ≤ 1000) :
    Calls Try.prog 21 #[.agg (stateC s sl), .agg (stateC u sl')] w0 fun e w' => SameOut (s = u) e ∧ Below w0.heap.size w0 w' := by
  have HSG := Lib.hid (fun w h h' => rsameG s.g u.g sl sl' w hs.g hu.g h h' hm hm')
  have HE := Lib.hid (fun W => eq33w W s.ver u.ver s.T u.T hs.t8 hu.t8 hs.ver hu.ver hs.seats hu.seats)
  have HI1 := Lib.hid hin
  have HI2 := Lib.hid hin'
  have HG1 := Lib.hid (fun j v h => sc_game (s := s) (sl := sl) j v h)
  have HG2 := Lib.hid (fun j v h => sc_game (s := u) (sl := sl') j v h)
  have HO1 := Lib.hid (fun j v h => sc_roster (s := s) (sl := sl) hs.g.s8 j v h)
  have HO2 := Lib.hid (fun j v h => sc_roster (s := u) (sl := sl') hu.g.s8 j v h)
  have Hgs1 := Lib.hid (gc_size (fr := s.g.fr) (d := s.g.d) (sl := sl) hs.g.s8)
  have Hgs2 := Lib.hid (gc_size (fr := u.g.fr) (d := u.g.d) (sl := sl') hu.g.s8)
  have Hrs1 := Lib.hid (rc_size (ver := s.ver) hs.t8)
  have Hrs2 := Lib.hid (rc_size (ver := u.ver) hu.t8)
  have H := Sb.start w0
  obtain ⟨m, hmm⟩ : ∃ m : Prop, (s = u) = m := ⟨_, rfl⟩
  rw [hmm]
  have HM := Lib.hid (show m ↔ s.g = u.g ∧ s.ver = u.ver ∧ s.T = u.T by rw [← hmm]; exact ste_eq)
  clear hmm hs hu hin hin' hm hm'
  generalize stateC s sl = A at *
  generalize stateC u sl' = B at *
  go_enter Try.func21, Try.ntmps21
  go_wp2_with (first | (refine wb_box H rfl 35 _ rfl A rfl ?_; clear H; intro b2 w H) | (refine wb_box H rfl 35 _ rfl B rfl ?_; clear H; intro b3 w H) | (refine wb_partA H rfl 1 28 _ rfl _ 0 rfl _ _ rfl _ Try.underlying28 rfl 59 info28 (gameC s.g.fr s.g.d s.g.S sl) (fun j v h => by rw [Nat.zero_add]; exact HG1.out j v h) Hgs1.out ?_) | (refine wb_partA H rfl 0 28 _ rfl _ 0 rfl _ _ rfl _ Try.underlying28 rfl 59 info28 (gameC u.g.fr u.g.d u.g.S sl') (fun j v h => by rw [Nat.zero_add]; exact HG2.out j v h) Hgs2.out ?_))
  refine (HSG.out _ (HI1.out.later H.below) (HI2.out.later H.below)).mono ?_
  rintro e w' ⟨⟨r, rfl, hi⟩, hb⟩
  replace H := H.call hb
  have Hi := Lib.hid hi
  clear hb hi
  cases r with
  | false =>
    go_wp2_with fail
    go_ret
    exact ⟨sameNo (fun h => by have := Hi.out.2 (HM.out.1 h).1; cases this) rfl, H.below⟩
  | true =>
    have hG := Hi.out.1 rfl
    by_cases e2 : s.ver = u.ver ∧ s.T = u.T
    · have he : ∀ W, (Op.equalIn 10000 33 (.agg (rosterC s.ver s.T)) (.agg (rosterC u.ver u.T))).run Try.prog W = .ok true W := fun W => by
        obtain ⟨r, hr, hi⟩ := HE.out W
        rw [hi.2 e2] at hr
        exact hr
      have HMt : Hid m := Lib.hid (HM.out.2 ⟨hG, e2⟩)
      clear HE e2 hG HM Hi
      generalize rosterC s.ver s.T = RA at *
      generalize rosterC u.ver u.T = RB at *
      go_wp2_with (first | (refine wb_partA H rfl 1 33 _ rfl _ 59 rfl _ _ rfl _ Try.underlying33 rfl 17 info33 RA HO1.out Hrs1.out ?_) | (refine wb_partA H rfl 0 33 _ rfl _ 59 rfl _ _ rfl _ Try.underlying33 rfl 17 info33 RB HO2.out Hrs2.out ?_))
      go_ret
      exact ⟨sameYes HMt.out rfl, H.below⟩
    · have he : ∀ W, (Op.equalIn 10000 33 (.agg (rosterC s.ver s.T)) (.agg (rosterC u.ver u.T))).run Try.prog W = .ok false W := fun W => by
        obtain ⟨r, hr, hi⟩ := HE.out W
        cases r with
        | true => exact absurd (hi.1 rfl) e2
        | false => exact hr
      have HMf : Hid (¬ m) := Lib.hid (fun h => e2 (HM.out.1 h).2)
      clear HE e2 hG HM Hi
      generalize rosterC s.ver s.T = RA at *
      generalize rosterC u.ver u.T = RB at *
      go_wp2_with (first | (refine wb_partA H rfl 1 33 _ rfl _ 59 rfl _ _ rfl _ Try.underlying33 rfl 17 info33 RA HO1.out Hrs1.out ?_) | (refine wb_partA H rfl 0 33 _ rfl _ 59 rfl _ _ rfl _ Try.underlying33 rfl 17 info33 RB HO2.out Hrs2.out ?_))
      go_ret
      exact ⟨sameNo HMf.out rfl, H.below⟩
end Go.Proofs.Ytijnfeigoggaeaa.game
