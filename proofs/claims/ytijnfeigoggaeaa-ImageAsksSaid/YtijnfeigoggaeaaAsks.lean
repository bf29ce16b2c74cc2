/- 'ImageAsks': the image of any state, what any bytes are read as, and their sum, is what the document says: for every input the law returns true. No condition. -/
import Derived.Test.YtijnfeigoggaeaaKa
import Derived.Test.YtijnfeigoggaeaaFr
import Derived.SliceStrings
namespace Go.Proofs.Ytijnfeigoggaeaa.imageAsks
open Go.ChangeShapes Go.WideShapes Go.ChangeAt Go.RowKit game

theorem cells5 : Try.prog.cellsOf 5 = 1 := by kernel_rfl
theorem open_bs {H : Type} {enc : TypeId × Value → H} {W : World} {a0 : Option Addr} {len cap : Nat} {d : DataW H} {ps : List MemPlace} (h : DataW.Trod enc Try.prog W 0 (fun _ => true) true 36 (.slice a0 len cap) d ps) : ∃ b, Bs W (.slice a0 len cap) b := by
  obtain ⟨fuel, hf⟩ := h
  rcases open_ints Try.underlying36 Try.underlying5 cells5 hf with ⟨hcs, hx⟩ | ⟨a, len', cap', zs, hcs, _, hl, hm, hz, hx, hcell, hw⟩
  · simp [Value.cells] at hcs
    obtain ⟨rfl, rfl, rfl⟩ := hcs
    exact ⟨[], none, 0, rfl, Nat.le_refl _, Nat.zero_le _, .inl rfl⟩
  · simp [Value.cells] at hcs
    obtain ⟨rfl, rfl, rfl⟩ := hcs
    simp only [if_true] at hz
    by_cases h0 : len = 0
    · subst h0
      exact ⟨[], some a, cap, rfl, hl, hm, .inl rfl⟩
    obtain ⟨b, o, spot⟩ := a
    have h00 := hcell 0 (by omega)
    have hspot : spot = none := by simpa [Addr.add] using World.cell?_spot h00
    subst hspot
    have a1 : ∀ i, (⟨b, o, none⟩ : Addr).add i = ⟨b, o + i, none⟩ := fun i => by unfold Addr.add; split <;> simp_all
    have hblk := World.block_lt_of_cell? W _ h00
    rw [a1] at hblk
    have hll : ((zs.take len).map fun z => UInt8.ofNat z.toNat).length = len := by simp; omega
    refine ⟨(zs.take len).map fun z => UInt8.ofNat z.toNat, some ⟨b, o, none⟩, cap, by rw [hll], by rw [hll]; exact hl, hm, .inr ⟨b, o, rfl, hblk, fun j u hu => ?_⟩⟩
    have hj : j < len := by
      have := (List.getElem?_eq_some_iff.1 hu).1
      simp [vb] at this; omega
    rw [← a1, hcell j (by omega), ← hu]
    have hjz : j < zs.length := by omega
    have hz := hw zs[j] (List.getElem_mem hjz)
    have hb : 0 ≤ zs[j] ∧ zs[j] < 256 := by
      simp [Lit.wf, IntKind.min, IntKind.max, IntKind.signed, IntKind.bits] at hz
      omega
    unfold vb
    rw [List.getElem?_map, List.getElem?_map, List.getElem?_take, if_pos hj, List.getElem?_eq_getElem hjz]
    simp only [Option.map_some]
    congr 2
    rw [List.getD_eq_getElem?_getD, List.getElem?_eq_getElem hjz]
    simp only [Option.getD_some]
    rw [UInt8.toNat_ofNat_of_lt' (by omega : zs[j].toNat < 256)]
    omega

set_option maxRecDepth 100000 in
theorem lifted (os : Os) (started : os.Started) (H : Type) (enc : TypeId × Value → H) :
    ReturnsInHanded {} Try.checked os 3 .any (Rows.imageAsksSpec.pre6 enc Try.prog Try.f3 Rows.imageAsksRow.domain false) (Rows.imageAsksSpec.post enc Try.prog Try.f3 false true false false) := by
  refine returnsInHanded_of_change (C := Try.checked) own started (by kernel_rfl) Try.func3
    (ChangeSpec.witness6 (enc := enc) (C := Try.checked) false ⟨#[], #[.agg zC, .slice none 0 0], []⟩ 8 (by kernel_rfl) (by kernel_rfl) (by kernel_rfl) (by kernel_rfl)) ?_
  intro W base args ds gs before hval0 hW hcnd _
  have hval : ∀ (j : Nat) t v, Try.f3.params[j]? = some t → args[j]? = some v → Value.okWide Try.prog W .any base t v := hval0
  have hW' := hW
  obtain ⟨p, q, hA0, hV, rfl, hfz, hnd⟩ := hW
  have hA : DataW.TrodAll enc Try.prog W 0 (fun _ => true) true Try.f3.params.toList args.toList ds p := hA0
  rw [Try.params3] at hA hval
  obtain ⟨v0, vs0, d0, ds0, p0, q0, hargs, rfl, rfl, h0, r0⟩ := trodAll_cons hA
  obtain ⟨v1, vs1, d1, ds1, p1, q1, rfl, rfl, rfl, h1, r1⟩ := trodAll_cons r0
  obtain ⟨rfl, rfl, rfl⟩ := trodAll_nil r1
  obtain rfl : args = #[v0, v1] := by cases args; simp_all
  obtain ⟨rfl, rfl⟩ := trodVars_none hV
  obtain ⟨cs, rfl, _⟩ := okWide_struct Try.underlying35 (hval 0 35 v0 rfl rfl)
  obtain ⟨ad, n, c, rfl⟩ := okWide_slice Try.underlying36 (hval 1 36 v1 rfl rfl)
  obtain ⟨s, sl, rfl, hwf, hmx, hin⟩ := open_state h0
  obtain ⟨b, hb⟩ := open_bs h1
  clear hA0 hval0
  have main : Calls Try.prog 3 #[.agg (stateC s sl), .slice ad n c] W fun e w' => e = .returned (.bool true) ∧ Below W.heap.size W w' := asksWalk s sl _ b W hwf hin hb
  refine main.mono fun e W' ⟨he, hb⟩ => ?_
  subst he
  exact ⟨_, rfl, post_below laidOut (by rw [Try.params3]; intro t ht; simp at ht; rcases ht with rfl | rfl <;> exact ⟨by kernel_rfl, by decide +kernel⟩) rfl hW' hb rfl rfl (trodAll_cons_mk (shut_bool Try.underlying4 _) trodAll_mk0)⟩

theorem over : Rows.imageAsksRow.holds Try.pinned (OpenSpec.ofChange Rows.imageAsksSpec) :=
  OpenClaim.holds_of_wide 3 Try.f3 rfl rfl rfl rfl rfl rfl rfl ⟨rfl, rfl, rfl, rfl, rfl⟩ rfl rfl rfl rfl rfl (by kernel_rfl) Try.func3 (by kernel_rfl)
    (of_decide_eq_true (by kernel_rfl)) (by unfold Func.isWrapper; first | (rw [if_pos (by decide +kernel)]; kernel_rfl) | (rw [if_neg (by decide +kernel)]; exact ⟨rfl, rfl⟩))
    (fun os started H enc _ => lifted os started H enc)

theorem proved : Rows.ImageAsksSaid :=
  over
end Go.Proofs.Ytijnfeigoggaeaa.imageAsks
