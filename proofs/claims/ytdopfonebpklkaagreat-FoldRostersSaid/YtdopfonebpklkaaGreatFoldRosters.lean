/- 'FoldRosters': ships are on the field just where somebody has the slot; the roster goes on by events alone: for every input the law returns true. No condition. -/
import Derived.Test.YtdopfonebpklkaaGreatFoldRosters2
import Derived.Test.YtdopfonebpklkaaGreatFoldRuns24
import Derived.Test.YtdopfonebpklkaaGreatFoldRuns25
namespace Go.Proofs.YtdopfonebpklkaaGreat.foldRosters
open Go.ChangeShapes Go.WideShapes Go.ChangeAt Go.RowKit game
open Go.ChangeMaps (open_string shut_string)

set_option maxRecDepth 100000 in
theorem lifted (os : Os) (started : os.Started) (H : Type) (enc : TypeId × Value → H) :
    ReturnsInHanded {} Tryz.checked os 7 .any (Rows.foldRostersSpec.pre6 enc Tryz.prog Tryz.f7 Rows.foldRostersRow.domain false) (Rows.foldRostersSpec.post enc Tryz.prog Tryz.f7 false true false false) := by
  refine returnsInHanded_of_change (C := Tryz.checked) own started (by kernel_rfl) Tryz.func7
    (ChangeSpec.witness6 (enc := enc) (C := Tryz.checked) false ⟨#[], #[.string ⟨#[]⟩, .slice none 0 0], []⟩ 8 (by kernel_rfl) (by kernel_rfl) (by kernel_rfl) (by kernel_rfl)) ?_
  intro W base args ds gs before hval0 hW hcnd _
  have hval : ∀ (j : Nat) t v, Tryz.f7.params[j]? = some t → args[j]? = some v → Value.okWide Tryz.prog W .any base t v := hval0
  have hW' := hW
  obtain ⟨p, q, hA0, hV, rfl, hfz, hnd⟩ := hW
  have hA : DataW.TrodAll enc Tryz.prog W 0 (fun _ => true) true Tryz.f7.params.toList args.toList ds p := hA0
  rw [Tryz.params7] at hA hval
  obtain ⟨v0, vs0, d0, ds0, p0, q0, hargs, rfl, rfl, h0, r0⟩ := trodAll_cons hA
  obtain ⟨v1, vs1, d1, ds1, p1, q1, rfl, rfl, rfl, h1, r1⟩ := trodAll_cons r0
  obtain ⟨rfl, rfl, rfl⟩ := trodAll_nil r1
  obtain rfl : args = #[v0, v1] := by cases args; simp_all
  obtain ⟨rfl, rfl⟩ := trodVars_none hV
  obtain ⟨a0, rfl, rfl, rfl, w0⟩ := open_string Tryz.underlying9 (hval 0 9 v0 rfl rfl) h0
  obtain ⟨ad1, n1, c1, rfl⟩ := okWide_slice Tryz.underlying51 (hval 1 51 v1 rfl rfl)
  obtain ⟨hm1, L1, rfl, hT1, hin1⟩ := open_turns h1
  clear hA0 hval0
  have main : Calls Tryz.prog 7 #[.string a0, .slice ad1 L1.length c1] W fun e w' => e = .returned (.bool true) ∧ Below W.heap.size W w' := by
    by_cases h : 20 < a0.size ∨ 80 < L1.length
    · exact rostersBig a0 L1.length ad1 c1 W h
    · exact rostersWalk a0 L1 ad1 c1 W (by omega) (by omega) hT1 hin1
  refine main.mono fun e W' ⟨he, hb⟩ => ?_
  subst he
  exact ⟨_, rfl, post_below laidOut (by rw [Tryz.params7]; intro t ht; simp at ht; rcases ht with rfl | rfl <;> exact ⟨by kernel_rfl, by decide +kernel⟩) rfl hW' hb rfl rfl (trodAll_cons_mk (shut_bool Tryz.underlying4 _) trodAll_mk0)⟩

theorem over : Rows.foldRostersRow.holds Tryz.pinned (OpenSpec.ofChange Rows.foldRostersSpec) :=
  OpenClaim.holds_of_wide 7 Tryz.f7 rfl rfl rfl rfl rfl rfl rfl ⟨rfl, rfl, rfl, rfl, rfl⟩ rfl rfl rfl rfl rfl (by kernel_rfl) Tryz.func7 (by kernel_rfl)
    (of_decide_eq_true (by kernel_rfl)) (by unfold Func.isWrapper; first | (rw [if_pos (by decide +kernel)]; kernel_rfl) | (rw [if_neg (by decide +kernel)]; exact ⟨rfl, rfl⟩))
    (fun os started H enc _ => lifted os started H enc)

theorem proved : Rows.FoldRostersSaid :=
  over
end Go.Proofs.YtdopfonebpklkaaGreat.foldRosters
