/- What came in as []byte or []int, as the walks of layer 18 want it. -/
import Derived.Test.YtkoplojnfijllaaDoorFm
import Derived.SliceStrings
namespace Go.Proofs.YtkoplojnfijllaaDoor.chunk
open Go.ChangeShapes Go.WideShapes Go.ChangeAt Go.RowKit

theorem open_row {H : Type} {enc : TypeId × Value → H} {W : World} {t e : TypeId} {k : IntKind} (ht : Tryd.prog.underlying t = some (.slice e)) (he : Tryd.prog.underlying e = some (.int k)) (hc : Tryd.prog.cellsOf e = 1) {a0 : Option Addr} {len cap : Nat} {d : DataW H} {ps : List MemPlace}
    (h : DataW.Trod enc Tryd.prog W 0 (fun _ => true) true t (.slice a0 len cap) d ps) :
    len ≤ maxLen ∧ (0 < len → ∃ (b o : Nat) (zs : List Int), a0 = some ⟨b, o, none⟩ ∧ b < W.heap.size ∧ len ≤ zs.length ∧ (∀ i, i < len → W.cell? ⟨b, o + i, none⟩ = some (.int k (zs.getD i 0))) ∧ ∀ n ∈ zs, (Lit.int k n).wf = true) := by
  obtain ⟨fuel, hf⟩ := h
  rcases open_ints ht he hc hf with ⟨hcs, hx⟩ | ⟨a, len', cap', zs, hcs, _, hl, hm, hz, hx, hcell, hw⟩
  · simp [Value.cells] at hcs
    obtain ⟨rfl, rfl, rfl⟩ := hcs
    exact ⟨Nat.zero_le _, fun h => absurd h (by omega)⟩
  · simp [Value.cells] at hcs
    obtain ⟨rfl, rfl, rfl⟩ := hcs
    simp only [if_true] at hz
    refine ⟨by omega, fun h0 => ?_⟩
    obtain ⟨b, o, spot⟩ := a
    have h00 := hcell 0 (by omega)
    have hspot : spot = none := by simpa [Addr.add] using World.cell?_spot h00
    subst hspot
    have a1 : ∀ i, (⟨b, o, none⟩ : Addr).add i = ⟨b, o + i, none⟩ := fun i => by unfold Addr.add; split <;> simp_all
    refine ⟨b, o, zs, rfl, ?_, by omega, fun i hi => ?_, hw⟩
    · have := World.block_lt_of_cell? W _ h00
      rw [a1] at this; exact this
    · rw [← a1]; exact hcell i (by omega)
theorem open_bytes {H : Type} {enc : TypeId × Value → H} {W : World} {a0 : Option Addr} {len cap : Nat} {d : DataW H} {ps : List MemPlace} (h : DataW.Trod enc Tryd.prog W 0 (fun _ => true) true 22 (.slice a0 len cap) d ps) :
    len ≤ maxLen ∧ (0 < len → ∃ (b o : Nat) (l : List UInt8), a0 = some ⟨b, o, none⟩ ∧ l.length = len ∧ BsAt W b o l) := by
  obtain ⟨h1, h2⟩ := open_row Tryd.underlying22 Tryd.underlying5 cells5 h
  refine ⟨h1, fun h0 => ?_⟩
  obtain ⟨b, o, zs, ha, _, hl, hcell, hw⟩ := h2 h0
  refine ⟨b, o, (zs.take len).map fun z => UInt8.ofNat z.toNat, ha, by simp; omega, ⟨fun j u hu => ?_⟩⟩
  have hj : j < len := by
    have := (List.getElem?_eq_some_iff.1 hu).1
    simp [bytesOf] at this; omega
  have a1 : (⟨b, o, none⟩ : Addr).add j = ⟨b, o + j, none⟩ := by unfold Addr.add; split <;> simp_all
  rw [a1, hcell j hj, ← hu]
  have hjz : j < zs.length := by omega
  have hz := hw zs[j] (List.getElem_mem hjz)
  have hb : 0 ≤ zs[j] ∧ zs[j] < 256 := by
    simp [Lit.wf, IntKind.min, IntKind.max, IntKind.signed, IntKind.bits] at hz
    omega
  unfold bytesOf
  rw [List.getElem?_map, List.getElem?_map, List.getElem?_take, if_pos hj, List.getElem?_eq_getElem hjz]
  simp only [Option.map_some]
  congr 2
  rw [List.getD_eq_getElem?_getD, List.getElem?_eq_getElem hjz]
  simp only [Option.getD_some]
  rw [UInt8.toNat_ofNat_of_lt' (by omega : zs[j].toNat < 256)]
  omega
end Go.Proofs.YtkoplojnfijllaaDoor.chunk
