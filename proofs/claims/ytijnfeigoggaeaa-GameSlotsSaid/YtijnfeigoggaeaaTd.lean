/- told of layer 6: the program tells what the document says of a few. -/
import Derived.Test.YtijnfeigoggaeaaSt
namespace Go.Proofs.Ytijnfeigoggaeaa.game
open Go.ChangeShapes Go.WideShapes Go.ChangeAt Go.RowKit dice
set_option maxRecDepth 100000

theorem new_gq (s : ByteArray) (w : World) (hs : s.size ≤ maxLen) (d : Int) (hd : seed s.data.toList = d) :
    Calls Try.prog 27 #[.string s] w fun e w' => e = .returned (.agg (gq 0 d false 0 0)) ∧ Below w.heap.size w w' := by
  subst hd
  exact new_any s w hs
theorem okPlaced (d : Int) : OkShip true (px d) (py d) 0 0 0 0 := by
  have hx := px_bd d
  have hy := py_bd d
  unfold OkShip
  rw [if_pos rfl]
  omega
set_option maxHeartbeats 4000000 in
theorem told_any (w : World) : Calls Try.prog 26 #[] w fun e w' => e = .returned (.bool true) ∧ Below w.heap.size w w' := by
  have hz : OkShip false 0 0 0 0 0 0 := by unfold OkShip; simp
  obtain ⟨D, hD⟩ : ∃ D, seed [97] = D := ⟨_, rfl⟩
  have HD := Lib.hid hD
  have HZ := Lib.hid hz
  have HP := Lib.hid (okPlaced D)
  clear hD hz
  have H := St.start w
  go_enter Try.func26, Try.ntmps26
  go_wp2_with fail
  refine (new_gq ⟨#[97]⟩ _ (by decide) D HD.out).mono ?_; rintro e w' ⟨rfl, hb⟩
  replace H := H.call hb
  clear hb
  go_wp2_with (first | (refine wl_alloc H rfl 28 rfl _ Try.zeroValue28 ?_; clear H; intro b w H) | (refine wl_put H rfl 0 28 _ _ rfl _ _ rfl _ _ rfl (.agg _) rfl 59 info28 rfl rfl rfl ?_; clear H; intro w H) | (refine wl_whole H rfl 0 28 _ rfl _ rfl _ rfl _ Try.underlying28 rfl 59 info28 rfl ?_))
  refine (step_ok 0 D _ _ (by omega) (by omega)).mono ?_; rintro e w' ⟨rfl, hb⟩
  replace H := H.call hb
  clear hb
  replace H : St _ _ [(_, gq 0 D false 0 0, 28)] := H
  go_wp2_with (first | (refine wl_alloc H rfl 28 rfl _ Try.zeroValue28 ?_; clear H; intro b w H) | (refine wl_put H rfl 0 28 _ _ rfl _ _ rfl _ _ rfl (.agg _) rfl 59 info28 rfl rfl rfl ?_; clear H; intro w H) | (refine wl_whole H rfl 1 28 _ rfl _ rfl _ rfl _ Try.underlying28 rfl 59 info28 rfl ?_))
  refine (spawn_ok 0 D _ (by omega) (by omega)).mono ?_; rintro e w' ⟨rfl, hb⟩
  replace H := H.call hb
  clear hb
  replace H : St _ _ [(_, gq (0 + 1) D false 0 0, 28), (_, gq 0 D false 0 0, 28)] := H
  go_wp2_with (first | (refine wl_alloc H rfl 28 rfl _ Try.zeroValue28 ?_; clear H; intro b w H) | (refine wl_put H rfl 0 28 _ _ rfl _ _ rfl _ _ rfl (.agg _) rfl 59 info28 rfl rfl rfl ?_; clear H; intro w H) | (refine wl_whole H rfl 0 28 _ rfl _ rfl _ rfl _ Try.underlying28 rfl 59 info28 rfl ?_))
  refine (spawn_bad 0 _ _ _ _ HP.out (by omega) (by omega)).mono ?_; rintro e w' ⟨rfl, hb⟩
  replace H := H.call hb
  clear hb
  replace H : St _ _ [(_, gq 0 (next (next D)) true (px D) (py D), 28), (_, gq (0 + 1) D false 0 0, 28), (_, gq 0 D false 0 0, 28)] := H
  go_wp2_with (first | (refine wl_alloc H rfl 28 rfl _ Try.zeroValue28 ?_; clear H; intro b w H) | (refine wl_put H rfl 0 28 _ _ rfl _ _ rfl _ _ rfl (.agg _) rfl 59 info28 rfl rfl rfl ?_; clear H; intro w H) | (refine wl_whole H rfl 1 28 _ rfl _ rfl _ rfl _ Try.underlying28 rfl 59 info28 rfl ?_))
  refine (remove_ok 0 _ _ _ _ HP.out (by omega) (by omega)).mono ?_; rintro e w' ⟨rfl, hb⟩
  replace H := H.call hb
  clear hb
  replace H : St _ _ [(_, gq 0 (next (next D)) true (px D) (py D), 28), (_, gq 0 (next (next D)) true (px D) (py D), 28), (_, gq (0 + 1) D false 0 0, 28), (_, gq 0 D false 0 0, 28)] := H
  go_wp2_with (first | (refine wl_alloc H rfl 28 rfl _ Try.zeroValue28 ?_; clear H; intro b w H) | (refine wl_put H rfl 0 28 _ _ rfl _ _ rfl _ _ rfl (.agg _) rfl 59 info28 rfl rfl rfl ?_; clear H; intro w H) | (refine wl_whole H rfl 4 28 _ rfl _ rfl _ rfl _ Try.underlying28 rfl 59 info28 rfl ?_))
  refine (remove_bad 0 D _ (by omega) (by omega)).mono ?_; rintro e w' ⟨rfl, hb⟩
  replace H := H.call hb
  clear hb
  replace H : St _ _ [(_, gq 0 (next (next D)) false 0 0, 28), (_, gq 0 (next (next D)) true (px D) (py D), 28), (_, gq 0 (next (next D)) true (px D) (py D), 28), (_, gq (0 + 1) D false 0 0, 28), (_, gq 0 D false 0 0, 28)] := H
  go_wp2_with (first | (refine wl_alloc H rfl 28 rfl _ Try.zeroValue28 ?_; clear H; intro b w H) | (refine wl_put H rfl 0 28 _ _ rfl _ _ rfl _ _ rfl (.agg _) rfl 59 info28 rfl rfl rfl ?_; clear H; intro w H) | (refine wl_cell H rfl 4 3 _ rfl _ _ rfl _ _ rfl Try.isAgg3 (.int _ _) rfl ?_) | (refine wl_cell H rfl 1 4 _ rfl _ _ rfl _ _ rfl Try.isAgg4 (.bool _) rfl ?_) | (refine wl_cell H rfl 3 4 _ rfl _ _ rfl _ _ rfl Try.isAgg4 (.bool _) rfl ?_) | (refine wl_whole H rfl 5 28 _ rfl _ rfl _ rfl _ Try.underlying28 rfl 59 info28 rfl ?_))
  refine (may_any _ 0 D _ (gq_gm 0 D false 0 0 HZ.out) (by omega) (by omega)).mono ?_; rintro e w' ⟨rfl, hb⟩
  replace H := H.call hb
  clear hb
  go_wp2_with (refine wl_whole H rfl 5 28 _ rfl _ rfl _ rfl _ Try.underlying28 rfl 59 info28 rfl ?_)
  refine (same_refl 0 D _).mono ?_; rintro e w' ⟨rfl, hb⟩
  replace H := H.call hb
  clear hb
  go_wp2_with (first | (refine wl_whole H rfl 5 28 _ rfl _ rfl _ rfl _ Try.underlying28 rfl 59 info28 rfl ?_) | (refine wl_whole H rfl 4 28 _ rfl _ rfl _ rfl _ Try.underlying28 rfl 59 info28 rfl ?_))
  refine (same_frame _ _ 0 1 _ rfl rfl rfl).mono ?_; rintro e w' ⟨rfl, hb⟩
  replace H := H.call hb
  clear hb
  go_wp2_with fail
  refine (may_neg _ (-1) _ rfl (by omega)).mono ?_; rintro e w' ⟨rfl, hb⟩
  replace H := H.call hb
  clear hb
  go_wp2_with fail
  go_ret
  exact ⟨rfl, H.below⟩
end Go.Proofs.Ytijnfeigoggaeaa.game
