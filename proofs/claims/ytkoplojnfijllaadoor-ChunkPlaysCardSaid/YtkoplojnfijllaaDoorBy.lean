/- slices.Grow and slices.Concat as Bytes uses them, and (*chunk.Gather).Bytes: contracts for the laws of layer 18. -/
import Derived.Test.YtkoplojnfijllaaDoorGt
import Derived.Lib.AppendZerosOnto
import Derived.Laws.IdiomStrings
import Derived.Outline
namespace Go.Proofs.YtkoplojnfijllaaDoor.chunk
open Go.ChangeShapes Go.WideShapes Go.ChangeAt Go.RowKit

def Grew (w : World) (e : Ending) (w' : World) : Prop :=
  ∃ cap, e = .returned (.slice (some ⟨w.heap.size, 0, none⟩) 0 cap) ∧ w'.ownsRow w.heap.size 5 1 (.slice (some ⟨w.heap.size, 0, none⟩) 0 cap) 0 [] ∧ Below w.heap.size w w'
theorem next_cap (k : Nat) (h0 : 0 < k) : Builtin.nextslicecap k 0 = k := by
  unfold Builtin.nextslicecap; rw [if_pos (by omega)]
theorem bytes5 : Tryd.t5.bytes = 1 := by kernel_rfl

theorem grow_any (k : Nat) (w : World) (h0 : 0 < k) (h : k ≤ 10000000) :
    Calls Tryd.prog 31 #[.slice none 0 0, .int .i64 k] w (Grew w) := by
  have h1 : ¬ (k : Int) < 0 := by omega
  have h2 : 0 < (k : Int) := by omega
  have hb := bytes5
  have hn := next_cap k h0
  go_enter Tryd.func31, Tryd.ntmps31
  go_wp2_with fail
  go_ret
  have g1 := grownCap_ge w k 0 5
  have g2 := grownCap_le_maxLen w k 0 5 (by unfold maxLen; omega)
  refine ⟨grownCap w k 0 5, rfl, ?_, ((Below.refl _ w).alloc (Nat.le_refl _) _).drew⟩
  refine World.ownsRow_made (base := w.heap.size) (e := 5) (size := 1) w _ _ (Nat.le_refl _) g2 ?_
  simp only [Array.size_append, size_zeroCells, List.size_toArray, List.length_cons, List.length_nil]
  change k * 1 + (grownCap w k 0 5 - k) * 1 = _
  omega

/-- A row of slices of bytes. -/
structure RowsAt (w : World) (A : Nat) (ls : List (List UInt8)) : Prop where
  row : ∀ i (h : i < ls.length), ∃ b o c, w.cell? ⟨A, i, none⟩ = some (.slice (some ⟨b, o, none⟩) (ls[i]).length c) ∧ BsAt w b o ls[i]
def total (ls : List (List UInt8)) : Nat := ls.flatten.length
theorem total_snoc (ls : List (List UInt8)) (i : Nat) (h : i < ls.length) : total (ls.take (i + 1)) = total (ls.take i) + (ls[i]).length := by
  unfold total; rw [List.take_succ_eq_append_getElem h, List.flatten_append, List.length_append]; simp only [List.flatten_cons, List.flatten_nil, List.append_nil]
theorem total_le (ls : List (List UInt8)) (i : Nat) : total (ls.take i) ≤ total ls := by
  unfold total
  have h : ls.flatten.length = (ls.take i).flatten.length + (ls.drop i).flatten.length := by rw [← List.length_append, ← List.flatten_append, List.take_append_drop]
  omega
theorem bytes_snoc (ls : List (List UInt8)) (i : Nat) (h : i < ls.length) : bytesOf (ls.take (i + 1)).flatten = bytesOf (ls.take i).flatten ++ bytesOf ls[i] := by
  rw [List.take_succ_eq_append_getElem h, List.flatten_append]; simp [bytesOf]
theorem BsAt.later {w w' : World} {b o : Nat} {l : List UInt8} (h : BsAt w b o l) (hb : Below w.heap.size w w') : BsAt w' b o l :=
  ⟨fun j u hu => cell_later hb (h.cell j u hu)⟩

def Joined (ls : List (List UInt8)) (w : World) (e : Ending) (w' : World) : Prop :=
  ∃ g cap, e = .returned (.slice (some ⟨g, 0, none⟩) (total ls) cap) ∧ w'.ownsRow w.heap.size 5 1 (.slice (some ⟨g, 0, none⟩) (total ls) cap) (total ls) (bytesOf ls.flatten) ∧ Below w.heap.size w w'

set_option maxHeartbeats 1000000 in
theorem concat_any (A : Nat) (ls : List (List UInt8)) (w : World) (hR : RowsAt w A ls) (h0 : 0 < total ls) (h : total ls ≤ 5000000) (hn : ls.length ≤ 65535) (cap : Nat) :
    Calls Tryd.prog 27 #[.slice (some ⟨A, 0, none⟩) ls.length cap] w (Joined ls w) := by
  obtain ⟨i0, hi, hz0, hz1, hz2⟩ := info_parts info5
  have HR := Lib.hid hR
  clear hR
  go_enter Tryd.func27, Tryd.ntmps27
  go_wp2_with fail
  go_loop [3, 5, 11] (fun z _ i => ∃ k : Nat, k ≤ ls.length ∧ i = .int .i64 k ∧ z = .int .i64 (total (ls.take k))) (fun _ _ i => ls.length - (intOf i).toNat)
  case atStart => exact ⟨0, Nat.zero_le _, rfl, rfl⟩
  case round =>
    obtain ⟨k, hk, rfl, rfl⟩ := hrel
    by_cases hlt : k < ls.length
    · obtain ⟨b, o, c, hc, hb⟩ := HR.out.row k hlt
      have hs := total_snoc ls k hlt
      have hl1 := total_le ls (k + 1)
      have hl0 := total_le ls k
      have Hs := Lib.hid hs
      have hbound : total (ls.take k) + (ls[k]).length ≤ 5000000 := by omega
      clear hs hb
      go_wp2_with fail
      go_round
      case rel => exact ⟨k + 1, by omega, by go_num, by rw [Hs.out]; go_num⟩
      case measure => simp [intOf]; omega
    · obtain rfl : k = ls.length := by omega
      have ht : total (ls.take ls.length) = total ls := by rw [List.take_length]
      rw [ht]
      clear ht
      go_wp2_with fail
      refine (grow_any _ _ h0 (by omega)).mono ?_; rintro e w1 ⟨c1, rfl, hown, hbel⟩
      go_wp2_with fail
      have Hown := Lib.hid hown
      have Hbel := Lib.hid hbel
      clear hown hbel
      go_loopw [6, 8, 27] (fun v _ i wr => ∃ k g c : Nat, k ≤ ls.length ∧ i = .int .i64 k ∧ v = .slice (some ⟨g, 0, none⟩) (total (ls.take k)) c ∧ Hid (wr.ownsRow w.heap.size 5 1 (.slice (some ⟨g, 0, none⟩) (total (ls.take k)) c) (total (ls.take k)) (bytesOf (ls.take k).flatten)) ∧ Hid (Below w.heap.size w wr)) (fun _ _ i _ => ls.length - (intOf i).toNat)
      case atStart => exact ⟨0, w.heap.size, c1, Nat.zero_le _, rfl, rfl, Hown, Hbel⟩
      case round =>
        obtain ⟨k, g, c2, hk, rfl, rfl, hO, hB⟩ := hrel
        by_cases hlt : k < ls.length
        · obtain ⟨b, o, c, hc, hb⟩ := HR.out.row k hlt
          have hc' := cell_later hB.out hc
          have hb' := hb.later hB.out
          have hs := total_snoc ls k hlt
          have hl1 := total_le ls (k + 1)
          have hm1 : total (ls.take k) + (ls[k]).length ≤ maxLen := by unfold maxLen; omega
          have hm2 : (total (ls.take k) + (ls[k]).length) * 1 ≤ 140737488355328 := by omega
          have Hs := Lib.hid hs
          clear hs hb hc
          go_wp2_with (at_builtin; refine wpList_append_own _ rfl _ _ 22 rfl w.heap.size 5 i0 (.int .u8 0) 1 1 Tryd.underlying22 hi hz0 hz1 hz2 rfl (by decide) _ _ _ rfl hO.out ⟨b, o, none⟩ (ls[k]).length c (bytesOf ls[k]) rfl (by rw [length_bytes]; omega) hb'.cell (bytes_one _) hm1 hm2 hB.out.size ?_; intro v' w1 hown' hgrow hnil')
          have hv : v' ≠ .slice none 0 0 := fun h => by have := hnil'.1 h; cases this.1
          obtain ⟨g', cap', rfl⟩ := ownsRow_some hown' hv
          have hB' : Below w.heap.size w w1 := hB.out.grown hgrow hB.out.size (fun j hj => (hO.out.lt j hj).1)
          rw [← Hs.out, ← bytes_snoc ls k hlt] at hown'
          rw [← Hs.out]
          have Hown' := Lib.hid hown'
          clear hown' hgrow hnil' hv
          go_wp2_with fail
          go_roundw
          case rel => exact ⟨k + 1, g', cap', by omega, by go_num, rfl, Hown', hB'⟩
          case measure => simp [intOf]; omega
        · obtain rfl : k = ls.length := by omega
          go_wp2_with fail
          go_ret
          refine ⟨g, c2, ?_, ?_, hB.out⟩
          · rw [List.take_length]; rfl
          · have h := hO.out
            rw [List.take_length] at h
            exact h

theorem ownsRow_drewN {w : World} {base e size n : Nat} {v : Value} {xs : List Value} (h : w.ownsRow base e size v n xs) (q : Nat) : (w.drewN q).ownsRow base e size v n xs :=
  h.kept (row := none) ⟨rfl, rfl, rfl, Nat.le_refl _, fun _ _ _ => rfl⟩ (by cases v.ownBlock <;> simp)
def strOf (l : List UInt8) : ByteArray := ⟨l.toArray⟩
theorem strOf_list (l : List UInt8) : (strOf l).data.toList = l := rfl
theorem strOf_size (l : List UInt8) : (strOf l).size = l.length := rfl
theorem conv_bytes (g n cap : Nat) (l : List UInt8) (W : World) (hn : n = l.length) (hO : ∀ j u, (bytesOf l)[j]? = some u → W.cell? ((⟨g, 0, none⟩ : Addr).add j) = some u) (q : Nat) :
    (convert 22 9 (.slice (some ⟨g, 0, none⟩) n cap)).run Tryd.prog (W.drewN q) = .ok (.string (strOf l)) (W.drewN q) := by
  subst hn
  refine run_convert_bytes_back (P := Tryd.prog) (W.drewN q) 22 9 5 ⟨g, 0, none⟩ cap l Tryd.underlying22 Tryd.underlying5 Tryd.underlying9 (fun j hj => ?_)
  have := hO j (.int .u8 (l[j].toNat : Int)) (by simp [bytesOf, List.getElem?_eq_getElem hj])
  simpa using this

theorem bytes_part (G C A : Nat) (s : Ga) (w : World) (hL : Lies w G C A s) (h : (s.n : Int) ≠ s.of) :
    Calls Tryd.prog 18 #[.pointer (some ⟨G, 0, none⟩)] w fun e w' => e = .returned (.tuple #[.slice none 0 0, .int .i64 3]) ∧ Below w.heap.size w w' := by
  have hf := full_any G C A s w hL
  rw [show ((s.n : Int) == s.of) = false from beq_eq_false_iff_ne.2 h] at hf
  have HF := Lib.hid hf
  clear hf hL
  go_enter Tryd.func18, Tryd.ntmps18
  go_wp2_with (go_at_call 20; refine HF.out.mono ?_; rintro e w' ⟨rfl, q, rfl⟩)
  go_ret2
  exact ⟨rfl, below_drewN (Below.refl _ _) _⟩
theorem bytes_nil (w : World) :
    Calls Tryd.prog 18 #[.pointer none] w fun e w' => e = .returned (.tuple #[.slice none 0 0, .int .i64 3]) ∧ Below w.heap.size w w' := by
  go_enter Tryd.func18, Tryd.ntmps18
  go_wp2_with (go_at_call 20; refine (full_nil _).mono ?_; rintro e w' ⟨rfl, q, rfl⟩)
  go_ret2
  exact ⟨rfl, below_drewN (Below.refl _ _) _⟩

/-- All pieces one behind the other, if their sum is right. -/
def Whole (s : Ga) (ls : List (List UInt8)) (w : World) (e : Ending) (w' : World) : Prop :=
  Below w.heap.size w w' ∧ if seed ls.flatten = s.sum then ∃ g cap, e = .returned (.tuple #[.slice (some ⟨g, 0, none⟩) (total ls) cap, .int .i64 0]) ∧ w'.ownsRow w.heap.size 5 1 (.slice (some ⟨g, 0, none⟩) (total ls) cap) (total ls) (bytesOf ls.flatten) else e = .returned (.tuple #[.slice none 0 0, .int .i64 9])

set_option maxHeartbeats 1000000 in
theorem bytes_full (G C A : Nat) (s : Ga) (w : World) (hL : Lies w G C A s) (hn : s.n = s.of) (ls : List (List UInt8)) (hls : ls.length = s.of) (hR : RowsAt w A ls) (h0 : 0 < total ls) (h : total ls ≤ 5000000) (ho : s.of ≤ 65535) :
    Calls Tryd.prog 18 #[.pointer (some ⟨G, 0, none⟩)] w (Whole s ls w) := by
  have hf := full_any G C A s w hL
  rw [show ((s.n : Int) == s.of) = true from beq_iff_eq.2 (by rw [hn])] at hf
  have HF := Lib.hid hf
  have h3 := hL.c3
  have h1 := hL.c1
  rw [← hls] at h3
  have HR := Lib.hid hR
  have hls' : ls.length ≤ 65535 := by omega
  clear hf hL hn hls hR
  go_enter Tryd.func18, Tryd.ntmps18
  go_wp2_with (go_at_call 20; refine HF.out.mono ?_; rintro e w' ⟨rfl, q, rfl⟩)
  have HRq : Hid (RowsAt (w.drewN q) A ls) := ⟨fun i hi => by
    obtain ⟨b, o, c, hc, hb⟩ := HR.out.row i hi
    exact ⟨b, o, c, by simpa using hc, ⟨fun j u hu => by simpa using hb.cell j u hu⟩⟩⟩
  refine (concat_any A ls _ HRq.out h0 h hls' _).mono ?_; rintro e w1 ⟨g, cap, rfl, hown, hbel⟩
  have hcell := hown.cells (g := g) rfl
  have hconv := conv_bytes g (total ls) cap ls.flatten w1 rfl hcell
  have hB : Below w.heap.size w w1 := (below_drewN (Below.refl _ _) q).trans (hbel.mono (by simp))
  have h1' := cell_later hB h1
  have hsz : (strOf ls.flatten).size ≤ maxLen := by rw [strOf_size]; unfold maxLen; change total ls ≤ _; omega
  have Hsd : Hid (∀ W, Calls Tryd.prog 28 #[.string (strOf ls.flatten)] W fun e w' => e = .returned (.int .u64 (seed ls.flatten)) ∧ w' = W) := fun W => (seed_any _ W hsz).mono fun e w' ⟨a, b⟩ => ⟨a, b.symm⟩
  have Hown := Lib.hid hown
  have HB := Lib.hid hB
  clear hown hbel hcell hB h1 h3 hsz
  go_wp2_with fail
  go_quiet ((go_at_call 28; exact Calls.quiet_of_same (Hsd.out _)))
  by_cases hs : seed ls.flatten = s.sum
  · go_wp2_with fail
    go_ret2
    refine ⟨below_drewN HB.out _, ?_⟩
    rw [if_pos hs]
    exact ⟨g, cap, rfl, ownsRow_drewN (ownsRow_base Hown.out (by simp)) _⟩
  · go_wp2_with fail
    go_ret2
    refine ⟨below_drewN HB.out _, ?_⟩
    rw [if_neg hs]
    rfl
end Go.Proofs.YtkoplojnfijllaaDoor.chunk
