/- 'GameEnd': the last frame is the last one: the walk of the law. -/
import Derived.Test.YtijnfeigoggaeaaTd
namespace Go.Proofs.Ytijnfeigoggaeaa.game
open Go.ChangeShapes Go.WideShapes Go.ChangeAt Go.RowKit dice
set_option maxRecDepth 100000

theorem info61 : (Try.prog.info? 61).map (·.size) = some 24 := by kernel_rfl
theorem mod4 (n : Int) : ∃ k : Nat, wrap64 ((IntKind.u64.wrap n).tmod 4) = (k : Int) ∧ k < 4 := by
  have h := IntKind.wrap_u64 n
  have h0 : 0 ≤ IntKind.u64.wrap n := by rw [h]; omega
  refine ⟨((IntKind.u64.wrap n).tmod 4).toNat, ?_, ?_⟩
  · rw [Int.tmod_eq_emod_of_nonneg h0]; unfold wrap64; omega
  · rw [Int.tmod_eq_emod_of_nonneg h0]; omega
set_option maxHeartbeats 4000000 in
theorem endWalk (ins : Array Value) (n : Int) (w : World) (hi : ins.size = 24) :
    Calls Try.prog 10 #[.agg ins, .int .i64 n] w fun e w' => e = .returned (.bool true) ∧ Below w.heap.size w w' := by
  obtain ⟨d, hd⟩ : ∃ d, seed [101] = d := ⟨_, rfl⟩
  have HD := Lib.hid hd
  have Hi := Lib.hid hi
  obtain ⟨k, hk, hk4⟩ := mod4 n
  clear hd hi
  have H := St.start w
  go_enter Try.func10, Try.ntmps10
  go_wp2_with (first | (refine wl_box H rfl 61 _ rfl ins rfl ?_; clear H; intro b w H))
  refine (new_gq ⟨#[101]⟩ _ (by decide) d HD.out).mono ?_; rintro e w' ⟨rfl, hb⟩
  replace H := H.call hb
  clear hb
  go_wp2_with (first | (refine wl_alloc H rfl 28 rfl _ Try.zeroValue28 ?_; clear H; intro b w H) | (refine wl_put H rfl 0 28 _ _ rfl _ _ rfl _ _ rfl (.agg _) rfl 59 info28 rfl rfl rfl ?_; clear H; intro w H) | (refine wl_put H rfl 0 3 _ _ rfl _ _ rfl _ _ rfl (.int _ _) rfl 1 info3 rfl rfl rfl ?_; clear H; intro w H) | (refine wl_whole H rfl 0 28 _ rfl _ rfl _ rfl _ Try.underlying28 rfl 59 info28 rfl ?_) | (refine wl_whole H rfl 1 61 _ rfl _ rfl ins rfl _ Try.underlying61 rfl 24 info61 Hi.out ?_))
  have hm0 : 0 ≤ 1048576 - (k : Int) := by omega
  have hm1 : 1048576 - (k : Int) ≤ 1048576 := by omega
  clear hk hk4
  generalize 1048576 - (k : Int) = fr at *
  replace H : St _ _ [(_, gq fr d false 0 0, 28), (_, ins, 61)] := H
  by_cases hf : fr = 1048576
  · subst hf
    refine (step_end d ins _).mono ?_; rintro e w' ⟨rfl, hb⟩
    replace H := H.call hb
    clear hb
    go_wp2_with (first | (refine wl_alloc H rfl 28 rfl _ Try.zeroValue28 ?_; clear H; intro b w H) | (refine wl_put H rfl 0 28 _ _ rfl _ _ rfl _ _ rfl (.agg _) rfl 59 info28 rfl rfl rfl ?_; clear H; intro w H) | (refine wl_cell H rfl 1 3 _ rfl _ _ rfl _ _ rfl Try.isAgg3 (.int _ _) rfl ?_))
    replace H : St _ _ [(_, gq 1048576 d false 0 0, 28), (_, gq 1048576 d false 0 0, 28), (_, ins, 61)] := H
    refine (told_any _).mono ?_; rintro e w' ⟨rfl, hb⟩
    replace H := H.call hb
    clear hb
    go_wp2_with (first | (refine wl_whole H rfl 0 28 _ rfl _ rfl _ rfl _ Try.underlying28 rfl 59 info28 rfl ?_) | (refine wl_whole H rfl 1 28 _ rfl _ rfl _ rfl _ Try.underlying28 rfl 59 info28 rfl ?_))
    refine (same_refl 1048576 d _).mono ?_; rintro e w' ⟨rfl, hb⟩
    replace H := H.call hb
    clear hb
    go_wp2_with fail
    go_ret
    exact ⟨rfl, H.below⟩
  · have hq : (fr == 1048576) = false := beq_eq_false_iff_ne.2 hf
    refine (step_ok fr d ins _ hm0 (by omega)).mono ?_; rintro e w' ⟨rfl, hb⟩
    replace H := H.call hb
    clear hb
    go_wp2_with (first | (refine wl_alloc H rfl 28 rfl _ Try.zeroValue28 ?_; clear H; intro b w H) | (refine wl_put H rfl 0 28 _ _ rfl _ _ rfl _ _ rfl (.agg _) rfl 59 info28 rfl rfl rfl ?_; clear H; intro w H) | (refine wl_cell H rfl 1 3 _ rfl _ _ rfl _ _ rfl Try.isAgg3 (.int _ _) rfl ?_))
    replace H : St _ _ [(_, gq (fr + 1) d false 0 0, 28), (_, gq fr d false 0 0, 28), (_, ins, 61)] := H
    refine (told_any _).mono ?_; rintro e w' ⟨rfl, hb⟩
    replace H := H.call hb
    clear hb
    have hlt : fr < 1048576 := by omega
    go_wp2_with (first | (refine wl_cell H rfl 0 3 _ rfl _ _ rfl _ _ rfl Try.isAgg3 (.int _ _) rfl ?_) | (refine wl_cell H rfl 1 3 _ rfl _ _ rfl _ _ rfl Try.isAgg3 (.int _ _) rfl ?_))
    go_ret
    exact ⟨rfl, H.below⟩
end Go.Proofs.Ytijnfeigoggaeaa.game
