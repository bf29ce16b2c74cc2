/- 'ChunkSizes': the walk of the law. -/
import Derived.Test.YtkoplojnfijllaaDoorTo
import Derived.Outline
namespace Go.Proofs.YtkoplojnfijllaaDoor.chunk
open Go.ChangeShapes Go.WideShapes Go.ChangeAt Go.RowKit

theorem draw_k (a : Int) : ∃ k : Nat, wrap64 ((IntKind.u64.wrap a).tmod 5001) = (k : Int) ∧ k ≤ 5000 := by
  have h : 0 ≤ wrap64 ((IntKind.u64.wrap a).tmod 5001) ∧ wrap64 ((IntKind.u64.wrap a).tmod 5001) ≤ 5000 := by
    rw [IntKind.wrap_u64, Int.tmod_eq_emod_of_nonneg (by omega)]; unfold wrap64; omega
  exact ⟨(wrap64 ((IntKind.u64.wrap a).tmod 5001)).toNat, by omega, by omega⟩
theorem quo_pieces (k : Nat) : ((k : Int) + 64 - 1) / 64 = (pieces k : Nat) := by unfold pieces; omega

theorem pieces_lt (k j : Nat) (h : j < pieces k) : 64 * j < k := by unfold pieces at h; omega

set_option maxHeartbeats 2000000 in
theorem sizesWalk (a : Int) (w : World) (hT : Tab w) (h0 : 0 < w.heap.size) : Calls Tryd.prog 5 #[.int .i64 a] w fun e w' => e = .returned (.bool true) ∧ Below w.heap.size w w' := by
  obtain ⟨k, hk, hk5⟩ := draw_k a
  have hmk := mk22 k (by omega)
  have HT := Lib.hid hT
  clear hT
  go_enter Tryd.func5, Tryd.ntmps5
  go_wp2_with fail
  rw [hk]
  have hB1 : Below w.heap.size w (w.alloc (.cells (zb k) 5)) := (Below.refl _ w).alloc (Nat.le_refl _) _
  have hb1 := zb_bytes k w
  clear hmk hk
  generalize w.alloc (.cells (zb k) 5) = w1 at *
  have HB1 := Lib.hid hB1
  have Hb1 := Lib.hid hb1
  clear hB1 hb1
  by_cases hk0 : k = 0
  · subst hk0
    refine (split_none _ 0 0 w1 (.inl rfl) (by omega)).mono ?_; rintro e w' ⟨rfl, rfl⟩
    go_wp2_with fail
    refine (told_any _ (HT.out.below HB1.out h0) (Nat.lt_of_lt_of_le h0 HB1.out.size)).mono ?_; rintro e w2 ⟨rfl, hbel⟩
    have HB2 := Lib.hid (HB1.out.trans (hbel.mono HB1.out.size))
    clear hbel
    go_wp2_with fail
    go_ret
    exact ⟨rfl, HB2.out⟩
  · have hl : (List.replicate k (0 : UInt8)).length = k := by simp
    have hs := split_some w.heap.size 0 k (List.replicate k 0) w1 Hb1.out (by rw [hl]; omega) (by rw [hl]; omega)
    have hz : ((k : Int) == 0) = false := beq_eq_false_iff_ne.2 (by omega)
    rw [hl] at hs
    refine hs.mono ?_; rintro e w2 ⟨g, cap, b, rfl, hg, hb, hrow, hdat, hbel⟩
    have hE := (Env.of hrow hdat).rows
    rw [hl] at hE ⊢
    have HE := Lib.hid hE
    have HB2 := Lib.hid (HB1.out.trans (hbel.mono HB1.out.size))
    have hp := pieces_bd k (by omega)
    have hp2 : pieces k ≤ 100 := by unfold pieces; omega
    clear hs hE hrow hdat hbel hk0
    go_wp2_with fail
    go_loop [6, 7] (fun z i => ∃ j : Nat, j ≤ pieces k ∧ i = .int .i64 j ∧ z = .int .i64 (k - 64 * j : Nat)) (fun _ i => pieces k - (intOf i).toNat)
    case atStart => exact ⟨0, Nat.zero_le _, rfl, rfl⟩
    case round =>
      obtain ⟨j, hj, rfl, rfl⟩ := hrel
      by_cases hlt : j < pieces k
      · have hc := HE.out j hlt
        unfold winV at hc
        have hw : ((wlen k j : Nat) : Int) = if ((k - 64 * j : Nat) : Int) < 64 then ((k - 64 * j : Nat) : Int) else 64 := by unfold wlen; split <;> split <;> omega
        have hn : (k - 64 * (j + 1) : Nat) = (k - 64 * j) - wlen k j := by unfold wlen; split <;> omega
        have hle : wlen k j ≤ k - 64 * j := by unfold wlen; split <;> omega
        have hq := pieces_lt k j hlt
        rcases Int.lt_or_le ((k - 64 * j : Nat) : Int) 64 with h6 | h6
        · rw [if_pos h6] at hw
          go_wp2_with fail
          exact ⟨⟨j + 1, hlt, rfl, congrArg _ (by rw [hn]; omega)⟩, by simp only [intOf]; omega⟩
        · rw [if_neg (by omega)] at hw
          go_wp2_with fail
          exact ⟨⟨j + 1, hlt, rfl, congrArg _ (by rw [hn]; omega)⟩, by simp only [intOf]; omega⟩
      · obtain rfl : j = pieces k := by omega
        have hz0 : k - 64 * pieces k = 0 := by unfold pieces; omega
        have hqp := quo_pieces k
        rw [hz0]
        go_wp2_with fail
        refine (told_any _ (HT.out.below HB2.out ‹_›) (Nat.lt_of_lt_of_le ‹_› HB2.out.size)).mono ?_; rintro e w3 ⟨rfl, hbel⟩
        have HB3 := Lib.hid (HB2.out.trans (hbel.mono HB2.out.size))
        clear hbel
        go_wp2_with fail
        go_ret
        exact ⟨rfl, HB3.out⟩
end Go.Proofs.YtkoplojnfijllaaDoor.chunk
