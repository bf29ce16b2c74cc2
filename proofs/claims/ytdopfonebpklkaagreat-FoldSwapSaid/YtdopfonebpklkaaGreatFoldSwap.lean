/- 'FoldSwap': one leaves and another one joins in one frame: both are done, who leaves first: for every input the law returns true. No condition. -/
import Derived.Test.YtdopfonebpklkaaGreatFoldSwap1
import Derived.Test.YtdopfonebpklkaaGreatFoldRuns24
import Derived.Test.YtdopfonebpklkaaGreatFoldRuns25
namespace Go.Proofs.YtdopfonebpklkaaGreat.foldSwap
open Go.ChangeShapes Go.WideShapes Go.ChangeAt Go.RowKit game
open Go.ChangeMaps (open_string shut_string)

set_option maxRecDepth 100000 in
theorem lifted (os : Os) (started : os.Started) (H : Type) (enc : TypeId × Value → H) :
    ReturnsInHanded {} Tryz.checked os 6 .any (Rows.foldSwapSpec.pre6 enc Tryz.prog Tryz.f6 Rows.foldSwapRow.domain false) (Rows.foldSwapSpec.post enc Tryz.prog Tryz.f6 false true false false) := by
  refine returnsInHanded_of_change (C := Tryz.checked) own started (by kernel_rfl) Tryz.func6
    (ChangeSpec.witness6 (enc := enc) (C := Tryz.checked) false ⟨#[], #[.string ⟨#[]⟩, .slice none 0 0, .int .i64 0], []⟩ 8 (by kernel_rfl) (by kernel_rfl) (by kernel_rfl) (by kernel_rfl)) ?_
  intro W base args ds gs before hval0 hW hcnd _
  have hval : ∀ (j : Nat) t v, Tryz.f6.params[j]? = some t → args[j]? = some v → Value.okWide Tryz.prog W .any base t v := hval0
  have hW' := hW
  obtain ⟨p, q, hA0, hV, rfl, hfz, hnd⟩ := hW
  have hA : DataW.TrodAll enc Tryz.prog W 0 (fun _ => true) true Tryz.f6.params.toList args.toList ds p := hA0
  rw [Tryz.params6] at hA hval
  obtain ⟨v0, vs0, d0, ds0, p0, q0, hargs, rfl, rfl, h0, r0⟩ := trodAll_cons hA
  obtain ⟨v1, vs1, d1, ds1, p1, q1, rfl, rfl, rfl, h1, r1⟩ := trodAll_cons r0
  obtain ⟨v2, vs2, d2, ds2, p2, q2, rfl, rfl, rfl, h2, r2⟩ := trodAll_cons r1
  obtain ⟨rfl, rfl, rfl⟩ := trodAll_nil r2
  obtain rfl : args = #[v0, v1, v2] := by cases args; simp_all
  obtain ⟨rfl, rfl⟩ := trodVars_none hV
  obtain ⟨a0, rfl, rfl, rfl, w0⟩ := open_string Tryz.underlying9 (hval 0 9 v0 rfl rfl) h0
  obtain ⟨ad1, n1, c1, rfl⟩ := okWide_slice Tryz.underlying51 (hval 1 51 v1 rfl rfl)
  obtain ⟨hm1, L1, rfl, hT1, hin1⟩ := open_turns h1
  obtain ⟨a2, rfl, rfl, rfl, w2⟩ := open_int Tryz.underlying3 (hval 2 3 v2 rfl rfl) h2
  clear hA0 hval0
  have main : Calls Tryz.prog 6 #[.string a0, .slice ad1 L1.length c1, .int .i64 a2] W fun e w' => e = .returned (.bool true) ∧ Below W.heap.size W w' := by
    by_cases h : 20 < a0.size ∨ 30 < L1.length
    · exact swapBig a0 a2 L1.length ad1 c1 W h
    · exact swapWalk a0 a2 L1 ad1 c1 W (by omega) (by omega) hT1 hin1
  refine main.mono fun e W' ⟨he, hb⟩ => ?_
  subst he
  exact ⟨_, rfl, post_below laidOut (by rw [Tryz.params6]; intro t ht; simp at ht; rcases ht with rfl | rfl | rfl <;> exact ⟨by kernel_rfl, by decide +kernel⟩) rfl hW' hb rfl rfl (trodAll_cons_mk (shut_bool Tryz.underlying4 _) trodAll_mk0)⟩

theorem over : Rows.foldSwapRow.holds Tryz.pinned (OpenSpec.ofChange Rows.foldSwapSpec) :=
  OpenClaim.holds_of_wide 6 Tryz.f6 rfl rfl rfl rfl rfl rfl rfl ⟨rfl, rfl, rfl, rfl, rfl⟩ rfl rfl rfl rfl rfl (by kernel_rfl) Tryz.func6 (by kernel_rfl)
    (of_decide_eq_true (by kernel_rfl)) (by unfold Func.isWrapper; first | (rw [if_pos (by decide +kernel)]; kernel_rfl) | (rw [if_neg (by decide +kernel)]; exact ⟨rfl, rfl⟩))
    (fun os started H enc _ => lifted os started H enc)

theorem proved : Rows.FoldSwapSaid :=
  over
end Go.Proofs.YtdopfonebpklkaaGreat.foldSwap
