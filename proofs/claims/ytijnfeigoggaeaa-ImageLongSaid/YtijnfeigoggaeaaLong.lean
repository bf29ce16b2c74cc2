/- 'ImageLong': an image is never longer than 793 bytes, nor shorter than 49; each ship and each shot has its bytes: for every input the law returns true. No condition. -/
import Derived.Test.YtijnfeigoggaeaaLw
import Derived.Test.YtijnfeigoggaeaaFr
namespace Go.Proofs.Ytijnfeigoggaeaa.imageLong
open Go.ChangeShapes Go.WideShapes Go.ChangeAt Go.RowKit game

set_option maxRecDepth 100000 in
theorem lifted (os : Os) (started : os.Started) (H : Type) (enc : TypeId × Value → H) :
    ReturnsInHanded {} Try.checked os 5 .any (Rows.imageLongSpec.pre6 enc Try.prog Try.f5 Rows.imageLongRow.domain false) (Rows.imageLongSpec.post enc Try.prog Try.f5 false true false false) := by
  refine returnsInHanded_of_change (C := Try.checked) own started (by kernel_rfl) Try.func5
    (ChangeSpec.witness6 (enc := enc) (C := Try.checked) false ⟨#[], #[.agg zC], []⟩ 8 (by kernel_rfl) (by kernel_rfl) (by kernel_rfl) (by kernel_rfl)) ?_
  intro W base args ds gs before hval0 hW hcnd _
  have hval : ∀ (j : Nat) t v, Try.f5.params[j]? = some t → args[j]? = some v → Value.okWide Try.prog W .any base t v := hval0
  have hW' := hW
  obtain ⟨p, q, hA0, hV, rfl, hfz, hnd⟩ := hW
  have hA : DataW.TrodAll enc Try.prog W 0 (fun _ => true) true Try.f5.params.toList args.toList ds p := hA0
  rw [Try.params5] at hA hval
  obtain ⟨v0, vs0, d0, ds0, p0, q0, hargs, rfl, rfl, h0, r0⟩ := trodAll_cons hA
  obtain ⟨rfl, rfl, rfl⟩ := trodAll_nil r0
  obtain rfl : args = #[v0] := by cases args; simp_all
  obtain ⟨rfl, rfl⟩ := trodVars_none hV
  obtain ⟨cs, rfl, _⟩ := okWide_struct Try.underlying35 (hval 0 35 v0 rfl rfl)
  obtain ⟨s, sl, rfl, hwf, hmx, hin⟩ := open_state h0
  clear hA0 hval0
  have main : Calls Try.prog 5 #[.agg (stateC s sl)] W fun e w' => e = .returned (.bool true) ∧ Below W.heap.size W w' := longWalk s sl W hwf.g hwf.t8 hin
  refine main.mono fun e W' ⟨he, hb⟩ => ?_
  subst he
  exact ⟨_, rfl, post_below laidOut (by rw [Try.params5]; intro t ht; simp at ht; rcases ht with rfl; exact ⟨by kernel_rfl, by decide +kernel⟩) rfl hW' hb rfl rfl (trodAll_cons_mk (shut_bool Try.underlying4 _) trodAll_mk0)⟩

theorem over : Rows.imageLongRow.holds Try.pinned (OpenSpec.ofChange Rows.imageLongSpec) :=
  OpenClaim.holds_of_wide 5 Try.f5 rfl rfl rfl rfl rfl rfl rfl ⟨rfl, rfl, rfl, rfl, rfl⟩ rfl rfl rfl rfl rfl (by kernel_rfl) Try.func5 (by kernel_rfl)
    (of_decide_eq_true (by kernel_rfl)) (by unfold Func.isWrapper; first | (rw [if_pos (by decide +kernel)]; kernel_rfl) | (rw [if_neg (by decide +kernel)]; exact ⟨rfl, rfl⟩))
    (fun os started H enc _ => lifted os started H enc)

theorem proved : Rows.ImageLongSaid :=
  over
end Go.Proofs.Ytijnfeigoggaeaa.imageLong
