/- slices.Clone over shots. -/
import Derived.Test.YtdopfonebpklkaaSh
import Derived.Test.YtdopfonebpklkaaSp
import Derived.OwnWalk
namespace Go.Proofs.Ytdopfonebpklkaa.game
open Go.ChangeShapes Go.WideShapes Go.ChangeAt Go.RowKit dice
set_option maxRecDepth 100000

theorem info79 : (Try.prog.info? 75).map (fun i => (i.zero, i.size, i.bytes)) = some (some (.agg #[.int .i64 0, .int .i32 0, .int .i32 0, .int .i32 0, .int .i32 0, .int .i64 0]), 6, 32) := by kernel_rfl
theorem info_shot : ∃ i, Try.prog.info? 75 = some i ∧ i.zero = some (.agg #[.int .i64 0, .int .i32 0, .int .i32 0, .int .i32 0, .int .i32 0, .int .i64 0]) ∧ i.size = 6 ∧ i.bytes = 32 := by
  have h := info79
  cases hq : Try.prog.info? 75 with
  | none => rw [hq] at h; cases h
  | some i =>
    rw [hq] at h
    simp at h
    exact ⟨i, rfl, h.1, h.2.1, h.2.2⟩
theorem eq_some (w : World) (a : Addr) (n c : Nat) : (binOp .eql 31 (.slice (some a) n c) (.slice none 0 0)).run Try.prog w = .ok (.bool false) w := by
  have h := run_equal_slice_nil (P := Try.prog) w 31 75 (some a) n c Try.underlying31
  simp only [binOp]
  simp [h]
theorem cellsL_one (L : List Sht) : ∀ u ∈ cellsL L, u.oneCell' = true := by
  intro u hu
  unfold cellsL at hu
  obtain ⟨s, _, hs⟩ := List.mem_flatMap.1 hu
  simp [shotL] at hs
  rcases hs with rfl | rfl | rfl | rfl | rfl | rfl <;> rfl
/-- Shots in a row of a call's own. -/
def Own (w : World) (base : Nat) (sl : Value) (L : List Sht) : Prop := w.ownsRow base 75 6 sl L.length (cellsL L)
theorem Own.shotsIn {w : World} {base : Nat} {sl : Value} {L : List Sht} (h : Own w base sl L) : ShotsIn w sl L := by
  have h0 := h
  obtain ⟨_, ⟨rfl, hn⟩ | ⟨g, cap, cur, rfl, hb, hg, r⟩⟩ := h
  · exact .inl ⟨List.length_eq_zero_iff.1 hn, rfl⟩
  · refine .inr ⟨g, 0, cap, rfl, (Array.getElem?_eq_some_iff.1 hg).1, fun j v hv => ?_⟩
    have := World.ownsRow.cells h0 (g := g) rfl j v hv
    have a1 : (⟨g, 0, none⟩ : Addr).add j = ⟨g, 0 + j, none⟩ := by unfold Addr.add; split <;> simp_all
    rw [a1] at this; exact this
def ClonePost (w : World) (L : List Sht) (e : Ending) (w' : World) : Prop := (∃ sl, e = .returned sl ∧ Own w' w.heap.size sl L) ∧ Below w.heap.size w w'
theorem clone_any (sl : Value) (L : List Sht) (w : World) (h : ShotsIn w sl L) (hn : L.length ≤ 1000) : Calls Try.prog 39 #[sl] w (ClonePost w L) := by
  rcases h with ⟨rfl, rfl⟩ | ⟨g, o, c, rfl, hg, hc⟩
  · refine (clone_nil w).mono ?_
    rintro e w' ⟨rfl, rfl⟩
    exact ⟨⟨_, rfl, World.ownsRow_nil _ _ _ _⟩, Below.refl _ _⟩
  · have he := eq_some w ⟨g, o, none⟩ L.length c
    obtain ⟨i0, hi, hz0, hz1, hz2⟩ := info_shot
    have hown := World.ownsRow_made (base := w.heap.size) (e := 75) (size := 6) w #[] 0 (Nat.le_refl _) (Nat.zero_le _) rfl
    have hm : 0 + L.length ≤ maxLen := by unfold maxLen; omega
    have hbt : (0 + L.length) * 32 ≤ 140737488355328 := by omega
    have hnn : ∀ j u, (cellsL L)[j]? = some u → (w.alloc (.cells #[] 75)).cell? ((⟨g, o, none⟩ : Addr).add j) = some u := fun j u hu => by
      have a1 : (⟨g, o, none⟩ : Addr).add j = ⟨g, o + j, none⟩ := by unfold Addr.add; split <;> simp_all
      rw [a1]
      exact ((Below.alloc (Below.refl _ w) (Nat.le_refl _) (.cells #[] 75)).cell (p := ⟨g, o + j, none⟩) hg).trans (hc j u hu)
    have Hown := Lib.hid hown
    have Hnn := Lib.hid hnn
    clear hown hnn hc
    go_enter Try.func39, Try.ntmps39
    go_wp2_with (at_builtin; refine wpList_append_own _ rfl _ _ 31 rfl w.heap.size 75 i0 (.agg #[.int .i64 0, .int .i32 0, .int .i32 0, .int .i32 0, .int .i32 0, .int .i64 0]) 6 32 Try.underlying31 hi hz0 hz1 hz2 rfl (by decide) _ _ _ rfl Hown.out ⟨g, o, none⟩ L.length c (cellsL L) rfl (length_cellsL L) Hnn.out (cellsL_one L) hm hbt (by simp) ?_; intro v' w6 hown' hgrow hnil'; have HO := Lib.hid hown'; have HG := Lib.hid hgrow; clear hown' hgrow hnil')
    go_ret
    refine ⟨⟨_, rfl, ?_⟩, ((Below.refl _ w).alloc (Nat.le_refl _) _).grown HG.out (by simp) (fun k hk => by cases hk; exact Nat.le_refl _)⟩
    have := HO.out
    rw [Nat.zero_add, List.nil_append] at this
    exact this
end Go.Proofs.Ytdopfonebpklkaa.game
