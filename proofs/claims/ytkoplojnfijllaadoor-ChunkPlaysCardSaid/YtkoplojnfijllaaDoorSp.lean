/- chunk.Split: slices.Chunk's iterator, slices.AppendSeq and slices.Collect over it: contracts for the laws of layer 18. -/
import Derived.RangeFuncNested
import Derived.RangeFuncBound
import Derived.RangeFuncCalls
import Derived.RangeFuncLeaves
import Derived.RangeFuncBox
import Derived.Shelf.Abstract
import Derived.Shelf.RegionOpen
import Derived.WalkKit
import Derived.OwnWalkIn
import Derived.TacticsInMore
import Derived.LoopNIn
import Derived.LoopIn
import Derived.Maps.AppendAt
import Derived.Test.YtkoplojnfijllaaDoorBy
import Derived.Outline
namespace Go.Proofs.YtkoplojnfijllaaDoor.chunk
open Go.RowKit Go.Shelf

attribute [local go_sem] Oper.semAt_some

/-- The j-th piece of L bytes that lie in block b. -/
def wlen (L j : Nat) : Nat := if L - 64 * j < 64 then L - 64 * j else 64
def winV (b L j : Nat) : Value := .slice (some ⟨b, 64 * j, none⟩) (wlen L j) (wlen L j)
def pieces (L : Nat) : Nat := (L + 63) / 64
theorem range_succ (k : Nat) : List.range (k + 1) = List.range k ++ [k] := List.range_succ

set_option maxRecDepth 100000 in
set_option maxHeartbeats 2000000 in
theorem chunk1_in (n : Nat) (hn : 1 ≤ n) (l Bs Bn n₀ b L cap : Nat) (hL : L ≤ 5000000) (hLc : L ≤ cap) (hBs : Bs < n₀) (hBn : Bn < n₀) (J Jx : List Nat → World → Prop) (hJd : ∀ pre W q, J pre W → J pre (W.drewN q))
    (hY : ∀ pre x W, J pre W → pre.length < pieces L → YieldAt Fence.wide (n - 1) Tryd.prog l #[winV b L x] W fun e W' =>
      (e = .returned (.bool true) ∧ J (pre ++ [x]) W' ∧ Below n₀ W W') ∨ (e = .returned (.bool false) ∧ Jx (pre ++ [x]) W'))
    (W : World) (hcs : W.cell? ⟨Bs, 0, none⟩ = some (.slice (some ⟨b, 0, none⟩) L cap)) (hcn : W.cell? ⟨Bn, 0, none⟩ = some (.int .i64 64)) (h0 : J [] W) :
    CallsIn Fence.wide n Tryd.prog 30 #[.func (.yield l) #[] #[], .pointer (some ⟨Bs, 0, none⟩), .pointer (some ⟨Bn, 0, none⟩)] W fun e W' => (∃ v, e = .returned v) ∧
      ((∃ ys, ys = List.range (pieces L) ∧ J ys W') ∨ (∃ pre, (∃ k, k ≤ pieces L ∧ pre = List.range k) ∧ Jx pre W')) := by
  refine callsIn_of_wp Tryd.func30 rfl trivial ?_ rfl
  simp only [Tryd.ntmps30, List.size_toArray, List.length_cons, List.length_nil, Nat.reduceAdd, Nat.reduceSub, Array.replicate_succ, Array.replicate_zero, List.push_toArray, List.append_toArray, List.nil_append, List.cons_append]
  gi_wp2
  gi_loopw [4, 5] (fun i _ wr => ∃ k : Nat, k ≤ pieces L ∧ i = .int .i64 (64 * k : Nat) ∧ J (List.range k) wr ∧ Below n₀ W wr)
    (fun i _ _ => 64 * pieces L - (intOf i).toNat)
  case atStart => exact ⟨0, Nat.zero_le _, rfl, h0, Below.refl _ _⟩
  case round =>
    obtain ⟨k, hk, rfl, hJs, hnx⟩ := hrel
    have hcs' := (hnx.cell (p := ⟨Bs, 0, none⟩) hBs).trans hcs
    have hcn' := (hnx.cell (p := ⟨Bn, 0, none⟩) hBn).trans hcn
    by_cases hlt : 64 * k < L
    · have hpc : k < pieces L := by unfold pieces; omega
      have hYk := fun q => hY _ k (wr.drewN q) (hJd _ _ q hJs) (by rw [List.length_range]; exact hpc)
      have HY := Lib.hid hYk
      have HJd := Lib.hid hJd
      have HYY := Lib.hid hY
      clear hYk hY hJd
      obtain ⟨p, hp⟩ : ∃ p, 64 * k = p := ⟨_, rfl⟩
      have Hp := Lib.hid hp
      have hv : winV b L k = .slice (some ⟨b, p, none⟩) (wlen L k) (wlen L k) := by unfold winV; rw [hp]
      rw [hp] at hlt ⊢
      clear hp
      have hmeas : p < 64 * pieces L := by have := Hp.out; omega
      by_cases hw : L - p < 64
      · have hlen : wlen L k = L - p := by unfold wlen; rw [Hp.out, if_pos hw]
        rw [hlen] at hv
        have hw' : ((L - p : Nat) : Int) < 64 := by omega
        have Hv := Lib.hid hv
        clear hlen hw hv
        gi_wp2
        gi_quiet (fail)
        obtain ⟨fn, tmps, assign, body, hy, hR⟩ := HY.out nq
        rw [Hv.out] at hy
        have HR := Lib.hid hR
        clear hR
        gi_wp2
        refine HR.out.mono ?_
        rintro e W3 (⟨rfl, hJ3, hk3⟩ | ⟨rfl, hJx3⟩)
        · have hcn3 := (hk3.cell (p := ⟨Bn, 0, none⟩) hBn).trans hcn'
          gi_wp2
          go_roundw
          case rel => exact ⟨k + 1, by omega, by have := Hp.out; rw [show 64 * (k + 1) = p + 64 by omega]; rfl, by rw [range_succ]; exact hJ3, hnx.trans ((below_drewN (Below.refl _ _) _).trans hk3)⟩
          case measure => simp [intOf]; omega
        · gi_wp2
          refine bodyPost_ret (results_none rfl _ _ _) rfl ?_
          exact ⟨⟨_, rfl⟩, .inr ⟨_, ⟨k + 1, by omega, (range_succ _).symm⟩, hJx3⟩⟩
      · have hlen : wlen L k = 64 := by unfold wlen; rw [Hp.out, if_neg hw]
        rw [hlen] at hv
        have hw' : ¬ ((L - p : Nat) : Int) < 64 := by omega
        have hw2 : p + 64 ≤ L := by omega
        have Hv := Lib.hid hv
        clear hlen hw hv
        gi_wp2
        gi_quiet (fail)
        obtain ⟨fn, tmps, assign, body, hy, hR⟩ := HY.out nq
        rw [Hv.out] at hy
        have HR := Lib.hid hR
        clear hR
        gi_wp2
        refine HR.out.mono ?_
        rintro e W3 (⟨rfl, hJ3, hk3⟩ | ⟨rfl, hJx3⟩)
        · have hcn3 := (hk3.cell (p := ⟨Bn, 0, none⟩) hBn).trans hcn'
          gi_wp2
          go_roundw
          case rel => exact ⟨k + 1, by omega, by have := Hp.out; rw [show 64 * (k + 1) = p + 64 by omega]; rfl, by rw [range_succ]; exact hJ3, hnx.trans ((below_drewN (Below.refl _ _) _).trans hk3)⟩
          case measure => simp [intOf]; omega
        · gi_wp2
          refine bodyPost_ret (results_none rfl _ _ _) rfl ?_
          exact ⟨⟨_, rfl⟩, .inr ⟨_, ⟨k + 1, by omega, (range_succ _).symm⟩, hJx3⟩⟩
    · obtain rfl : k = pieces L := by unfold pieces at hk ⊢; omega
      have hlt' : ¬ ((64 * pieces L : Nat) : Int) < (L : Int) := by omega
      gi_wp2
      go_end0
      exact ⟨⟨_, rfl⟩, .inl hJs⟩

theorem chunk_stops (n : Nat) (hn : 1 ≤ n) (Bs Bn n₀ b L cap : Nat) (hL : L ≤ 5000000) (hLc : L ≤ cap) (hBs : Bs < n₀) (hBn : Bn < n₀) (w : World) (hn₀ : n₀ ≤ w.heap.size)
    (hcs : w.cell? ⟨Bs, 0, none⟩ = some (.slice (some ⟨b, 0, none⟩) L cap)) (hcn : w.cell? ⟨Bn, 0, none⟩ = some (.int .i64 64)) :
    SeqStopsK Fence.wide n Tryd.prog 30 #[.pointer (some ⟨Bs, 0, none⟩), .pointer (some ⟨Bn, 0, none⟩)] (fun x : Nat => #[winV b L x]) (Below n₀) (fun ys => ys = List.range (pieces L)) (fun pre => ∃ k, k ≤ pieces L ∧ pre = List.range k) (pieces L) w := fun l J Jx W hW hJ _ hY h0 =>
  chunk1_in n hn l Bs Bn n₀ b L cap hL hLc hBs hBn J Jx (fun pre W' q h => hJ pre W' (W'.drewN q) none h ⟨rfl, rfl, rfl, Nat.le_refl _, fun _ _ _ => rfl⟩ (fun _ e => by cases e)) hY W
    ((hW.cell (p := ⟨Bs, 0, none⟩) (Nat.lt_of_lt_of_le hBs hn₀)).trans hcs) ((hW.cell (p := ⟨Bn, 0, none⟩) (Nat.lt_of_lt_of_le hBn hn₀)).trans hcn) h0

theorem winV_one (b L x : Nat) : (winV b L x).oneCell' = true := rfl

set_option maxRecDepth 100000 in
set_option maxHeartbeats 2000000 in
theorem appendSeq_in (n : Nat) (hn : 2 ≤ n) (Bs Bn b L cap : Nat) (hL : L ≤ 5000000) (hLc : L ≤ cap) (w : World) (hBs : Bs < w.heap.size) (hBn : Bn < w.heap.size)
    (hcs : w.cell? ⟨Bs, 0, none⟩ = some (.slice (some ⟨b, 0, none⟩) L cap)) (hcn : w.cell? ⟨Bn, 0, none⟩ = some (.int .i64 64)) :
    CallsIn Fence.wide n Tryd.prog 29 #[.slice none 0 0, .func (.func 30) #[] #[.pointer (some ⟨Bs, 0, none⟩), .pointer (some ⟨Bn, 0, none⟩)]] w fun e W' => ∃ v, e = .returned v ∧ W'.ownsRow w.heap.size 22 1 v (pieces L) ((List.range (pieces L)).map (winV b L)) ∧ Below w.heap.size w W' := by
  have h1 : 1 ≤ n := by omega
  obtain ⟨i0, hi, hz0, hz1, hz2⟩ := info_parts info22
  refine callsIn_of_wp_marks Tryd.func29 rfl trivial ?_ rfl
  simp only [Tryd.ntmps29, List.size_toArray, List.length_cons, List.length_nil, Nat.reduceAdd, Nat.reduceSub, Array.replicate_succ, Array.replicate_zero, List.push_toArray, List.append_toArray, List.nil_append, List.cons_append]
  gi_wp2
  have bO := Boxed.new w 26 (.slice none 0 0)
  have hB0 : Below w.heap.size w (w.alloc (.cells #[.slice none 0 0] 26)) := (Below.refl _ w).alloc (Nat.le_refl _) _
  have hpc : pieces L ≤ 100000 := by unfold pieces; omega
  refine wpIn_rangeFunc_ownG rfl h1 (gf := 30) (lb := #[.pointer (some ⟨Bs, 0, none⟩), .pointer (some ⟨Bn, 0, none⟩)]) rfl trivial (enters_of Tryd.func30 (by kernel_rfl) rfl)
    (chunk_stops (n - 1) (by omega) Bs Bn w.heap.size b L cap hL hLc hBs hBn _ (by simp) ((hB0.cell (p := ⟨Bs, 0, none⟩) hBs).trans hcs) ((hB0.cell (p := ⟨Bn, 0, none⟩) hBn).trans hcn)) belowK_t (belowK_b (by simp)) (Below.refl _ _) (fun _ => rfl)
    (fun pre W => (∃ v, Boxed W w.heap.size 26 v ∧ W.ownsRow w.heap.size 22 1 v pre.length (pre.map (winV b L)) ∧ (v = .slice none 0 0 ↔ pre = [])) ∧ Below w.heap.size w W)
    (fun _ _ _ => False)
    (OwnFrom.and (Own.from (holdsRow_own w.heap.size w.heap.size 26 22 1 (fun pre => pre.length) (fun pre => pre.map (winV b L)) (fun pre v => v = .slice none 0 0 ↔ pre = [])) _) (ownFrom_below (Nat.le_refl _) (by simp)))
    (fun _ _ _ _ _ hs _ _ => hs)
    ⟨⟨_, bO, World.ownsRow_nil _ _ _ _, by simp⟩, hB0⟩
    (fun x => { tmps := #[.slice none 0 0, .func (.func 30) #[] #[.pointer (some ⟨Bs, 0, none⟩), .pointer (some ⟨Bn, 0, none⟩)], .pointer (some ⟨w.heap.size, 0, none⟩), undef, .slice none 0 0, winV b L x, .func (.func 30) #[] #[.pointer (some ⟨Bs, 0, none⟩), .pointer (some ⟨Bn, 0, none⟩)], winV b L x, undef, undef, undef, undef, undef], defers := [] }) ?assign ?body ?done ?stop
  case assign =>
    intro l x W K hK
    gi_wp2
    exact hK
  case body =>
    rintro l pre x W ⟨⟨v, hv, hrow, hnil⟩, hB⟩ hlt
    have hc := hv.cell
    simp only [winV]
    gi_wp2_with (gi_at_builtin; refine wpListIn_append_own _ rfl _ _ 26 rfl w.heap.size 22 i0 (.slice none 0 0) 1 24 Tryd.underlying26 hi hz0 hz1 hz2 rfl (by decide) _ _ _ rfl (hrow.alloc _) ⟨W.heap.size, 0, none⟩ 1 1 [.slice (some ⟨b, 64 * x, none⟩) (wlen L x) (wlen L x)] rfl rfl (cell_one_new _ _ _) (by simp [Value.oneCell']) (by unfold maxLen; omega) (by omega) (by have := hB.size; simp; omega) ?_; intro v' w1 hown' hgrow _; obtain ⟨g', cap', rfl⟩ := ownsRow_succ hown'; obtain ⟨hv1, hv2, hr2, hk2, hb2⟩ := hv.appended (by decide) hrow hB.size (Nat.le_refl _) hown' hgrow; have hc1 := hv1.cell; have hf1 := hv1.frozen)
    exact ⟨hk2.from _, hb2, ⟨_, hv2, by simpa [winV] using hr2, by simp⟩, hB.trans hb2⟩
  case done =>
    rintro D ys W hD rfl ⟨⟨v, hv, hrow, hnil⟩, hB⟩ hK
    have hc := hv.cell
    gi_wp2
    refine ⟨by simp, .inl ⟨_, _, rfl, run_takeDeferred hK, ?_⟩⟩
    rw [List.length_range] at hrow
    exact ⟨_, results_tmp rfl _ _ _, v, rfl, ownsRow_putObj hrow _ hK rfl, hB.trans (belowK_b (w := w) (Nat.le_refl _) W D _ _ (by simp at hD; omega) hK rfl rfl)⟩
  case stop =>
    rintro D c pre W _ _ h _
    exact h.elim
end Go.Proofs.YtkoplojnfijllaaDoor.chunk
