/- slices.Equal over bytes. -/
import Derived.Test.YtijnfeigoggaeaaRn
namespace Go.Proofs.Ytijnfeigoggaeaa.game
open Go.ChangeShapes Go.WideShapes Go.ChangeAt Go.RowKit dice
set_option maxRecDepth 100000

theorem Bs.later {W W' : World} {v : Value} {b : List UInt8} (h : Bs W v b) (hb : Below W.heap.size W W') : Bs W' v b := by
  obtain ⟨ad, c, rfl, h1, h2, h3⟩ := h
  refine ⟨ad, c, rfl, h1, h2, ?_⟩
  rcases h3 with rfl | ⟨g, o, rfl, hg, hc⟩
  · exact .inl rfl
  · exact .inr ⟨g, o, rfl, Nat.lt_of_lt_of_le hg hb.size, fun j u hu => (hb.cell (p := ⟨g, o + j, none⟩) hg).trans (hc j u hu)⟩
theorem Bs.of_row {W : World} {base : Nat} {v : Value} {b : List UInt8} (h : W.ownsRow base 5 1 v b.length (vb b)) : Bs W v b := by
  rcases h.2 with ⟨rfl, hn⟩ | ⟨g, cap, cur, rfl, hb, hg, h1, h2, h3, h4⟩
  · exact ⟨none, 0, by rw [hn], by omega, Nat.zero_le _, .inl (List.length_eq_zero_iff.1 hn)⟩
  · refine ⟨some ⟨g, 0, none⟩, cap, rfl, h1, h2, .inr ⟨g, 0, rfl, (Array.getElem?_eq_some_iff.1 hg).1, fun j u hu => ?_⟩⟩
    rw [Nat.zero_add, cell_of_row W g j cur 5 (0, 0) hg]
    rw [← h4, List.getElem?_take] at hu
    split at hu
    · simpa using hu
    · cases hu
theorem take_snoc_eq {b1 b2 : List UInt8} {k : Nat} {x : UInt8} (h1 : b1[k]? = some x) (h2 : b2[k]? = some x) (h : b1.take k = b2.take k) : b1.take (k + 1) = b2.take (k + 1) := by
  obtain ⟨hk1, e1⟩ := List.getElem?_eq_some_iff.1 h1
  obtain ⟨hk2, e2⟩ := List.getElem?_eq_some_iff.1 h2
  rw [List.take_succ_eq_append_getElem hk1, List.take_succ_eq_append_getElem hk2, h, e1, e2]
set_option maxHeartbeats 4000000 in
theorem equalB (v1 v2 : Value) (b1 b2 : List UInt8) (w : World) (h1 : Bs w v1 b1) (h2 : Bs w v2 b2) :
    Calls Try.prog 56 #[v1, v2] w fun e w' => e = .returned (.bool (b1 == b2)) ∧ Below w.heap.size w w' := by
  obtain ⟨ad1, c1, rfl, _, hm1, hc1⟩ := h1
  obtain ⟨ad2, c2, rfl, _, hm2, hc2⟩ := h2
  by_cases hlen : b1.length = b2.length
  · have Hc1 := Lib.hid hc1
    have Hc2 := Lib.hid hc2
    have hb1 : b1.length ≤ 9223372036854775807 := by unfold maxLen at hm1; omega
    have Hb1 := Lib.hid hb1
    clear hc1 hc2 hm1 hm2 hb1
    rw [← hlen]
    have Hlen := Lib.hid hlen
    clear hlen
    go_enter Try.func56, Try.ntmps56
    go_wp2_with fail
    go_loopw [13] (fun i W => ∃ k : Nat, k ≤ b1.length ∧ i = .int .i64 k ∧ Hid (Below w.heap.size w W) ∧ Hid (b1.take k = b2.take k)) (fun i _ => b1.length - (intOf i).toNat)
    case atStart => exact ⟨0, Nat.zero_le _, rfl, Lib.hid (Below.refl _ _), Lib.hid rfl⟩
    case round =>
      obtain ⟨k, hk, rfl, HG, HA⟩ := hrel
      have hb1 := Hb1.out
      by_cases hlt : k < b1.length
      · obtain ⟨x, hx⟩ : ∃ x, b1[k]? = some x := ⟨b1[k], List.getElem?_eq_getElem hlt⟩
        obtain ⟨y, hy⟩ : ∃ y, b2[k]? = some y := ⟨b2[k]'(by rw [← Hlen.out]; exact hlt), List.getElem?_eq_getElem _⟩
        obtain ⟨g1, o1, rfl, hg1, hcc1⟩ : ∃ g o, ad1 = some ⟨g, o, none⟩ ∧ g < w.heap.size ∧ ∀ j u, (vb b1)[j]? = some u → w.cell? ⟨g, o + j, none⟩ = some u := by
          rcases Hc1.out with rfl | h
          · simp at hlt
          · exact h
        obtain ⟨g2, o2, rfl, hg2, hcc2⟩ : ∃ g o, ad2 = some ⟨g, o, none⟩ ∧ g < w.heap.size ∧ ∀ j u, (vb b2)[j]? = some u → w.cell? ⟨g, o + j, none⟩ = some u := by
          rcases Hc2.out with rfl | h
          · simp at hy
          · exact h
        have e1 : wr.cell? ⟨g1, o1 + k, none⟩ = some (.int .u8 (x.toNat : Int)) := (HG.out.cell (p := ⟨g1, o1 + k, none⟩) hg1).trans (hcc1 k _ (by simp [vb, hx]))
        have e2 : wr.cell? ⟨g2, o2 + k, none⟩ = some (.int .u8 (y.toNat : Int)) := (HG.out.cell (p := ⟨g2, o2 + k, none⟩) hg2).trans (hcc2 k _ (by simp [vb, hy]))
        have Hx := Lib.hid hx
        have Hy := Lib.hid hy
        clear hx hy hcc1 hcc2 hg1 hg2 Hc1 Hc2
        go_wp2_with fail
        go_quiet (fail)
        have HG2 := Lib.hid (HG.out.trans (below_drewN (Below.refl wr.heap.size wr) nq |>.mono HG.out.size))
        clear e1 e2
        by_cases hxy : x = y
        · subst hxy
          go_wp2_with fail
          exact ⟨⟨k + 1, hlt, rfl, HG2, Lib.hid (take_snoc_eq Hx.out Hy.out HA.out)⟩, by simp only [intOf]; omega⟩
        · have hne : ¬ (x.toNat : Int) = (y.toNat : Int) := fun h => hxy (UInt8.toNat_inj.1 (by omega))
          go_wp2_with fail
          go_ret
          refine ⟨?_, HG2.out⟩
          have hf : (b1 == b2) = false := by
            rw [beq_eq_false_iff_ne]
            intro e
            rw [e] at Hx
            exact hxy (Option.some.inj (Hx.out.symm.trans Hy.out))
          rw [hf]
          rfl
      · obtain rfl : k = b1.length := by omega
        go_wp2_with fail
        go_ret
        refine ⟨?_, HG.out⟩
        have : b1 = b2 := by
          have := HA.out
          rw [List.take_length, Hlen.out, List.take_length] at this
          exact this
        rw [this]
        simp
  · have hb : (b1 == b2) = false := by
      rw [beq_eq_false_iff_ne]
      intro e
      exact hlen (by rw [e])
    rw [hb]
    clear hc1 hc2 hm1 hm2 hb
    have hlen' : ¬ (b1.length : Int) = (b2.length : Int) := by omega
    go_enter Try.func56, Try.ntmps56
    go_wp2_with fail
    go_ret
    exact ⟨rfl, Below.refl _ _⟩
end Go.Proofs.Ytijnfeigoggaeaa.game
