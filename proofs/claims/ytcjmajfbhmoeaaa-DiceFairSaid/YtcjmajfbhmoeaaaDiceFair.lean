/- DiceFair: for any dice and any power up to 2 to the 20th: the pick is the upper bits, and a pick of twice as many halves to it. No condition. -/
import Derived.Test.YtcjmajfbhmoeaaaRows
import Derived.WalkKit
import Derived.ProofKit
import Derived.OpenShut
import Derived.Test.YtcjmajfbhmoeaaaDiceF
namespace Go.Proofs.Ytcjmajfbhmoeaaa.diceFair
open Go.Proofs.Ytcjmajfbhmoeaaa.dice
open Go.ChangeShapes Go.WideShapes Go.ChangeAt Go.RowKit
set_option linter.unusedVariables false      -- a walk need not use every 'w<i>' (that an integer argument fits its kind)

theorem own : ownKnob Try.prog.godebug = none := by kernel_rfl

theorem rem_twenty (n : Int) : 0 ≤ (IntKind.u64.wrap n).tmod 20 ∧ (IntKind.u64.wrap n).tmod 20 ≤ 19 := by
  rw [IntKind.wrap_u64, Int.tmod_eq_emod_of_nonneg (by omega)]; omega
theorem walk (a0 : Int) (a1 : Int) (w0 : (Lit.int .u64 a0).wf = true) (w1 : (Lit.int .i64 a1).wf = true) (w : World) :
    Calls Try.prog 9 #[.int .u64 a0, .int .i64 a1] w fun e w' => e = .returned (.bool true) ∧ Grown w w' := by
  have h := rem_twenty a1
  by_cases h0 : (IntKind.u64.wrap a1).tmod 20 = 0
  · exact fair0 a0 a1 w h0
  by_cases h1 : (IntKind.u64.wrap a1).tmod 20 = 1
  · exact fair1 a0 a1 w h1
  by_cases h2 : (IntKind.u64.wrap a1).tmod 20 = 2
  · exact fair2 a0 a1 w h2
  by_cases h3 : (IntKind.u64.wrap a1).tmod 20 = 3
  · exact fair3 a0 a1 w h3
  by_cases h4 : (IntKind.u64.wrap a1).tmod 20 = 4
  · exact fair4 a0 a1 w h4
  by_cases h5 : (IntKind.u64.wrap a1).tmod 20 = 5
  · exact fair5 a0 a1 w h5
  by_cases h6 : (IntKind.u64.wrap a1).tmod 20 = 6
  · exact fair6 a0 a1 w h6
  by_cases h7 : (IntKind.u64.wrap a1).tmod 20 = 7
  · exact fair7 a0 a1 w h7
  by_cases h8 : (IntKind.u64.wrap a1).tmod 20 = 8
  · exact fair8 a0 a1 w h8
  by_cases h9 : (IntKind.u64.wrap a1).tmod 20 = 9
  · exact fair9 a0 a1 w h9
  by_cases h10 : (IntKind.u64.wrap a1).tmod 20 = 10
  · exact fair10 a0 a1 w h10
  by_cases h11 : (IntKind.u64.wrap a1).tmod 20 = 11
  · exact fair11 a0 a1 w h11
  by_cases h12 : (IntKind.u64.wrap a1).tmod 20 = 12
  · exact fair12 a0 a1 w h12
  by_cases h13 : (IntKind.u64.wrap a1).tmod 20 = 13
  · exact fair13 a0 a1 w h13
  by_cases h14 : (IntKind.u64.wrap a1).tmod 20 = 14
  · exact fair14 a0 a1 w h14
  by_cases h15 : (IntKind.u64.wrap a1).tmod 20 = 15
  · exact fair15 a0 a1 w h15
  by_cases h16 : (IntKind.u64.wrap a1).tmod 20 = 16
  · exact fair16 a0 a1 w h16
  by_cases h17 : (IntKind.u64.wrap a1).tmod 20 = 17
  · exact fair17 a0 a1 w h17
  by_cases h18 : (IntKind.u64.wrap a1).tmod 20 = 18
  · exact fair18 a0 a1 w h18
  by_cases h19 : (IntKind.u64.wrap a1).tmod 20 = 19
  · exact fair19 a0 a1 w h19
  exfalso; omega

/-! ### THE ROW's STEP: WRITTEN OUT: LEAVE IT -/
set_option maxRecDepth 100000 in
theorem lifted (os : Os) (started : os.Started) (H : Type) (enc : TypeId × Value → H) :
    ReturnsInHanded {} Try.checked os 9 .any (Rows.diceFairSpec.pre6 enc Try.prog Try.f9 Rows.diceFairRow.domain false) (Rows.diceFairSpec.post enc Try.prog Try.f9 false true false false) := by
  refine returnsInHanded_of_change (C := Try.checked) own started (by kernel_rfl) Try.func9
    (ChangeSpec.witness6 (enc := enc) (C := Try.checked) false ⟨#[], #[.int .u64 0, .int .i64 0], []⟩ 8 (by kernel_rfl) (by kernel_rfl) (by kernel_rfl) (by kernel_rfl)) ?_
  intro W base args ds gs before hval0 hW hcnd _
  have hval : ∀ (j : Nat) t v, Try.f9.params[j]? = some t → args[j]? = some v → Value.okWide Try.prog W .any base t v := hval0
  have hW' := hW
  obtain ⟨p, q, hA0, hV, rfl, hfz, hnd⟩ := hW
  have hA : DataW.TrodAll enc Try.prog W 0 (fun _ => true) true Try.f9.params.toList args.toList ds p := hA0
  rw [Try.params9] at hA hval
  obtain ⟨v0, vs0, d0, ds0, p0, q0, hargs, rfl, rfl, h0, r0⟩ := trodAll_cons hA
  obtain ⟨v1, vs1, d1, ds1, p1, q1, rfl, rfl, rfl, h1, r1⟩ := trodAll_cons r0
  obtain ⟨rfl, rfl, rfl⟩ := trodAll_nil r1
  obtain rfl : args = #[v0, v1] := by cases args; simp_all
  obtain ⟨rfl, rfl⟩ := trodVars_none hV
  obtain ⟨a0, rfl, rfl, rfl, w0⟩ := open_int Try.underlying22 (hval 0 22 v0 rfl rfl) h0
  obtain ⟨a1, rfl, rfl, rfl, w1⟩ := open_int Try.underlying3 (hval 1 3 v1 rfl rfl) h1
  clear hA0 hval0
  simp only [List.append_nil] at hW'
  refine (walk a0 a1 w0 w1 W).mono fun e W' ⟨he, hg⟩ => ?_
  subst he
  exact ⟨_, rfl, post_of_same (pa := []) (pv := []) hW' (fun _ _ _ => (trodAll_cons_mk (shut_bool Try.underlying4 _) trodAll_mk0)) (fun sp _ => (trodAll_cons_mk (shut_int Try.underlying22 w0) (trodAll_cons_mk (shut_int Try.underlying3 w1) trodAll_mk0))) (fun _ _ => rfl) rfl
    (hg.frame _) hg.2.1 (ok_one (by kernel_rfl) rfl (okWide_bool_mk Try.underlying4 _))⟩

theorem over : Rows.diceFairRow.holds Try.pinned (OpenSpec.ofChange Rows.diceFairSpec) :=
  OpenClaim.holds_of_wide 9 Try.f9 rfl rfl rfl rfl rfl rfl rfl ⟨rfl, rfl, rfl, rfl, rfl⟩ rfl rfl rfl rfl rfl (by kernel_rfl) Try.func9 (by kernel_rfl)
    (of_decide_eq_true (by kernel_rfl)) (by unfold Func.isWrapper; first | (rw [if_pos (by decide +kernel)]; kernel_rfl) | (rw [if_neg (by decide +kernel)]; exact ⟨rfl, rfl⟩))
    (fun os started H enc _ => lifted os started H enc)

/-- ████ THE STATEMENT ████ -/
theorem proved : Rows.DiceFairSaid :=
  over
#print axioms proved
end Go.Proofs.Ytcjmajfbhmoeaaa.diceFair
