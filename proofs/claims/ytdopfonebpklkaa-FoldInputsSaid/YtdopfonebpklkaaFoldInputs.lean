/- 'FoldInputs': an input of a slot that nobody has is no entry; of one who leaves, neither; of one who joins, it is: for every input the law returns true. No condition. -/
import Derived.Test.YtdopfonebpklkaaFoldInputs3
import Derived.OpenShut
import Derived.Deep.Slices
import Derived.Deep.Fields
import Derived.ChangeSame
namespace Go.Proofs.Ytdopfonebpklkaa.foldInputs
open Go.ChangeShapes Go.WideShapes Go.ChangeAt Go.RowKit Go.Deep game
open Go.ChangeMaps (open_string shut_string)

set_option maxRecDepth 100000
theorem co24i : Try.prog.cellsOf 24 = 3 := by kernel_rfl
theorem open_in {H : Type} {enc : TypeId × Value → H} {W : World} {d : DataW H} {ps : List MemPlace} {cs : Array Value} (h : DataW.Trod enc Try.prog W 0 (fun _ => true) true 24 (.agg cs) d ps) : ∃ t : Inp, cs = (inpL t).toArray ∧ t.ok := by
  obtain ⟨fuel, hf⟩ := h
  have hf' : DataW.trod enc Try.prog W 0 (fun _ => true) true fuel 24 cs.toList = some (d, ps) := hf
  obtain ⟨xs, n, _, _, hlen, hxl, hfs⟩ := DataW.trod_struct Try.underlying24 hf'
  rw [co24i] at hlen
  obtain ⟨l⟩ := cs
  match l, hlen with
  | [c0, c1, c2], _ =>
    have e0 := hfs 0 _ rfl
    have e1 := hfs 1 _ rfl
    have e2 := hfs 2 _ rfl
    have g : ∀ i, i < 3 → ∃ y, xs[i]? = some y := fun i hi => ⟨xs[i]'(by rw [hxl]; exact hi), List.getElem?_eq_getElem _⟩
    obtain ⟨y0, g0⟩ := g 0 (by decide)
    obtain ⟨y1, g1⟩ := g 1 (by decide)
    obtain ⟨y2, g2⟩ := g 2 (by decide)
    rw [g0] at e0
    rw [g1] at e1
    rw [g2] at e2
    have f0 : DataW.trod enc Try.prog W 0 (fun _ => true) true n 22 [c0] = some y0 := e0
    have f1 : DataW.trod enc Try.prog W 0 (fun _ => true) true n 22 [c1] = some y1 := e1
    have f2 : DataW.trod enc Try.prog W 0 (fun _ => true) true n 5 [c2] = some y2 := e2
    obtain ⟨a0, h0, _, w0⟩ := DataW.trod_int Try.underlying22 f0
    obtain ⟨a1, h1, _, w1⟩ := DataW.trod_int Try.underlying22 f1
    obtain ⟨a2, h2, _, w2⟩ := DataW.trod_int Try.underlying5 f2
    refine ⟨⟨a0, a1, a2⟩, ?_, ⟨(i8_bd w0).1, (i8_bd w0).2, (i8_bd w1).1, (i8_bd w1).2, (u8_bd w2).1, (u8_bd w2).2⟩⟩
    simp only [List.cons.injEq, and_true] at h0 h1 h2
    rw [h0, h1, h2]
    rfl
set_option maxRecDepth 100000 in
theorem lifted (os : Os) (started : os.Started) (H : Type) (enc : TypeId × Value → H) :
    ReturnsInHanded {} Try.checked os 3 .any (Rows.foldInputsSpec.pre6 enc Try.prog Try.f3 Rows.foldInputsRow.domain false) (Rows.foldInputsSpec.post enc Try.prog Try.f3 false true false false) := by
  refine returnsInHanded_of_change (C := Try.checked) own started (by kernel_rfl) Try.func3
    (ChangeSpec.witness6 (enc := enc) (C := Try.checked) false ⟨#[], #[.string ⟨#[]⟩, .int .i64 0, .agg #[.int .i8 0, .int .i8 0, .int .u8 0]], []⟩ 8 (by kernel_rfl) (by kernel_rfl) (by kernel_rfl) (by kernel_rfl)) ?_
  intro W base args ds gs before hval0 hW hcnd _
  have hval : ∀ (j : Nat) t v, Try.f3.params[j]? = some t → args[j]? = some v → Value.okWide Try.prog W .any base t v := hval0
  have hW' := hW
  obtain ⟨p, q, hA0, hV, rfl, hfz, hnd⟩ := hW
  have hA : DataW.TrodAll enc Try.prog W 0 (fun _ => true) true Try.f3.params.toList args.toList ds p := hA0
  rw [Try.params3] at hA hval
  obtain ⟨v0, vs0, d0, ds0, p0, q0, hargs, rfl, rfl, h0, r0⟩ := trodAll_cons hA
  obtain ⟨v1, vs1, d1, ds1, p1, q1, rfl, rfl, rfl, h1, r1⟩ := trodAll_cons r0
  obtain ⟨v2, vs2, d2, ds2, p2, q2, rfl, rfl, rfl, h2, r2⟩ := trodAll_cons r1
  obtain ⟨rfl, rfl, rfl⟩ := trodAll_nil r2
  obtain rfl : args = #[v0, v1, v2] := by cases args; simp_all
  obtain ⟨rfl, rfl⟩ := trodVars_none hV
  obtain ⟨a0, rfl, rfl, rfl, w0⟩ := open_string Try.underlying9 (hval 0 9 v0 rfl rfl) h0
  obtain ⟨a1, rfl, rfl, rfl, w1⟩ := open_int Try.underlying3 (hval 1 3 v1 rfl rfl) h1
  obtain ⟨cs, rfl, _⟩ := okWide_struct Try.underlying24 (hval 2 24 v2 rfl rfl)
  obtain ⟨i, rfl, hi⟩ := open_in h2
  clear hA0 hval0
  have main : Calls Try.prog 3 #[.string a0, .int .i64 a1, .agg (inpL i).toArray] W fun e w' => e = .returned (.bool true) ∧ Below W.heap.size W w' := by
    by_cases h : 20 < a0.size ∨ i.z = true ∨ i.x = -128 ∨ i.y = -128
    · exact inputsBig a0 a1 i W hi h
    · have hz : i.z = false := by
        cases hq : i.z with
        | true => exact absurd (.inr (.inl hq)) h
        | false => rfl
      exact inputsWalk a0 a1 i W hi (by omega) hz (fun hx => h (.inr (.inr (.inl hx)))) (fun hy => h (.inr (.inr (.inr hy))))
  refine main.mono fun e W' ⟨he, hb⟩ => ?_
  subst he
  exact ⟨_, rfl, post_below laidOut (by rw [Try.params3]; intro t ht; simp at ht; rcases ht with rfl | rfl | rfl <;> exact ⟨by kernel_rfl, by decide +kernel⟩) rfl hW' hb rfl rfl (trodAll_cons_mk (shut_bool Try.underlying4 _) trodAll_mk0)⟩

theorem over : Rows.foldInputsRow.holds Try.pinned (OpenSpec.ofChange Rows.foldInputsSpec) :=
  OpenClaim.holds_of_wide 3 Try.f3 rfl rfl rfl rfl rfl rfl rfl ⟨rfl, rfl, rfl, rfl, rfl⟩ rfl rfl rfl rfl rfl (by kernel_rfl) Try.func3 (by kernel_rfl)
    (of_decide_eq_true (by kernel_rfl)) (by unfold Func.isWrapper; first | (rw [if_pos (by decide +kernel)]; kernel_rfl) | (rw [if_neg (by decide +kernel)]; exact ⟨rfl, rfl⟩))
    (fun os started H enc _ => lifted os started H enc)

theorem proved : Rows.FoldInputsSaid :=
  over
end Go.Proofs.Ytdopfonebpklkaa.foldInputs
