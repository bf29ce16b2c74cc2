/- game.Step over games without ships and shots. -/
import Derived.Test.YtdopfonebpklkaaSp
namespace Go.Proofs.Ytdopfonebpklkaa.game
open Go.ChangeShapes Go.WideShapes Go.ChangeAt Go.RowKit dice
set_option maxRecDepth 100000

theorem gz_off (fr d : Int) (k : Nat) (hk : k < 8) : (gq fr d false 0 0)[2 + k * 7]? = some (.bool false) := by
  match k, hk with
  | 0, _ | 1, _ | 2, _ | 3, _ | 4, _ | 5, _ | 6, _ | 7, _ => rfl
theorem step_end (d : Int) (ins : Array Value) (w : World) :
    Calls Try.prog 26 #[.agg (gq 1048576 d false 0 0), .agg ins] w fun e w' => e = .returned (.tuple #[.agg (gq 1048576 d false 0 0), .int .i64 7]) ∧ Below w.heap.size w w' := by
  obtain ⟨fr, hfr⟩ : ∃ fr : Int, 1048576 = fr := ⟨_, rfl⟩
  rw [hfr]
  have hz : OkShip false 0 0 0 0 0 0 := by unfold OkShip; simp
  have HM := Lib.hid (fun w => may_any _ fr d w (gq_gm fr d false 0 0 hz) (by omega) (by omega))
  have hq : (fr == 1048576) = true := by rw [← hfr]; rfl
  clear hz hfr
  have H := St.start w
  go_enter Try.func26, Try.ntmps26
  go_wp2_with (first | (refine wl_box H rfl 33 _ rfl (gq fr d false 0 0) rfl ?_; clear H; intro b w H) | (refine wl_box H rfl 43 _ rfl ins rfl ?_; clear H; intro b w H) | (refine wl_alloc H rfl 33 rfl _ Try.zeroValue33 ?_; clear H; intro b w H) | (refine wl_whole H rfl 2 33 _ rfl _ rfl _ rfl _ Try.underlying33 rfl 59 info28 rfl ?_))
  refine (HM.out _).mono ?_; rintro e w' ⟨rfl, hb⟩
  replace H := H.call hb
  clear hb
  go_wp2_with (first | (refine wl_cell H rfl 2 3 _ rfl _ _ rfl _ _ rfl Try.isAgg3 (.int _ _) rfl ?_) | (refine wl_whole H rfl 2 33 _ rfl _ rfl _ rfl _ Try.underlying33 rfl 59 info28 rfl ?_) | (refine wl_put H rfl 0 33 _ _ rfl _ _ rfl _ _ rfl (.agg _) rfl 59 info28 rfl rfl rfl ?_; clear H; intro w H))
  refine bodyPost_ret (v := .tuple #[.agg (gq fr d false 0 0), .int .i64 7]) ?_ rfl ⟨rfl, H.below⟩
  exact res2 rfl rfl rfl (H.holds _ (List.mem_cons_self ..)) rfl
theorem step_ok (fr d : Int) (ins : Array Value) (w : World) (h0 : 0 ≤ fr) (h1 : fr < 1048576) :
    Calls Try.prog 26 #[.agg (gq fr d false 0 0), .agg ins] w fun e w' => e = .returned (.tuple #[.agg (gq (fr + 1) d false 0 0), .int .i64 0]) ∧ Below w.heap.size w w' := by
  have hz : OkShip false 0 0 0 0 0 0 := by unfold OkShip; simp
  have HM := Lib.hid (fun w => may_any _ fr d w (gq_gm fr d false 0 0 hz) h0 (by omega))
  have hq : (fr == 1048576) = false := beq_eq_false_iff_ne.2 (by omega)
  have HO := Lib.hid (gz_off fr d)
  clear hz
  have H := St.start w
  go_enter Try.func26, Try.ntmps26
  go_wp2_with (first | (refine wl_box H rfl 33 _ rfl (gq fr d false 0 0) rfl ?_; clear H; intro b w H) | (refine wl_box H rfl 43 _ rfl ins rfl ?_; clear H; intro b w H) | (refine wl_alloc H rfl 33 rfl _ Try.zeroValue33 ?_; clear H; intro b w H) | (refine wl_whole H rfl 2 33 _ rfl _ rfl _ rfl _ Try.underlying33 rfl 59 info28 rfl ?_))
  refine (HM.out _).mono ?_; rintro e w' ⟨rfl, hb⟩
  replace H := H.call hb
  clear hb
  go_wp2_with (first | (refine wl_cell H rfl 2 3 _ rfl _ _ rfl _ _ rfl Try.isAgg3 (.int _ _) rfl ?_) | (refine wl_whole H rfl 2 33 _ rfl _ rfl _ rfl _ Try.underlying33 rfl 59 info28 rfl ?_) | (refine wl_alloc H rfl 33 rfl _ Try.zeroValue33 ?_; clear H; intro b w H) | (refine wl_put H rfl 0 33 _ _ rfl _ _ rfl _ _ rfl (.agg _) rfl 59 info28 rfl rfl rfl ?_; clear H; intro w H) | (refine wl_cell H rfl 3 31 _ rfl _ _ rfl _ _ rfl Try.isAgg31 (.slice _ _ _) rfl ?_))
  refine (clone_nil _).mono ?_; rintro e w' ⟨rfl, rfl⟩
  go_wp2_with (first | (refine wl_put H rfl 0 31 _ _ rfl _ _ rfl _ _ rfl (.slice _ _ _) rfl 1 info26 rfl rfl rfl ?_; clear H; intro w H))
  replace H : St _ w [(b, gq fr d false 0 0, 33), (_, _, _), (_, ins, 43), (_, gq fr d false 0 0, 33)] := H
  go_loopw [26] (fun i W => ∃ k : Nat, k ≤ 8 ∧ i = .int .i64 k ∧ W = w) (fun i _ => 8 - (intOf i).toNat)
  case atStart => exact ⟨0, Nat.zero_le _, rfl, rfl⟩
  case round =>
    obtain ⟨k, hk, rfl, rfl⟩ := hrel
    by_cases hlt : k < 8
    · go_wp2_with (first | (refine wl_cell H rfl 0 4 _ rfl _ _ rfl _ _ rfl Try.isAgg4 (.bool false) (HO.out k hlt) ?_))
      exact ⟨⟨k + 1, hlt, rfl, by first | rfl | trivial⟩, by simp only [intOf]; omega⟩
    · obtain rfl : k = 8 := by omega
      go_wp2_with (first | (refine wl_cell H rfl 0 31 _ rfl _ _ rfl _ _ rfl Try.isAgg31 (.slice _ _ _) rfl ?_) | (refine wl_put H rfl 0 31 _ _ rfl _ _ rfl _ _ rfl (.slice _ _ _) rfl 1 info26 rfl rfl rfl ?_; clear H; intro w H))
      replace H : St _ w [(b, gq fr d false 0 0, 33), (_, _, _), (_, ins, 43), (_, gq fr d false 0 0, 33)] := H
      go_loopw [45] (fun i W => i = .int .i64 0 ∧ W = w) (fun _ _ => 0)
      case atStart => exact ⟨rfl, rfl⟩
      case round =>
        obtain ⟨rfl, rfl⟩ := hrel
        go_wp2_with (first | (refine wl_cell H rfl 0 3 _ rfl _ _ rfl _ _ rfl Try.isAgg3 (.int _ _) rfl ?_) | (refine wl_put H rfl 0 3 _ _ rfl _ _ rfl _ _ rfl (.int _ _) rfl 1 info3 rfl rfl rfl ?_; clear H; intro w H) | (refine wl_whole H rfl 0 33 _ rfl _ rfl _ rfl _ Try.underlying33 rfl 59 info28 rfl ?_) | (refine wl_put H rfl 1 33 _ _ rfl _ _ rfl _ _ rfl (.agg _) rfl 59 info28 rfl rfl rfl ?_; clear H; intro w H))
        refine bodyPost_ret (v := .tuple #[.agg (gq (fr + 1) d false 0 0), .int .i64 0]) ?_ rfl ⟨rfl, H.below⟩
        exact res2 rfl rfl rfl (H.holds _ (List.mem_cons_of_mem _ (List.mem_cons_self ..))) rfl
end Go.Proofs.Ytdopfonebpklkaa.game
