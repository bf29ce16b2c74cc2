/- What the laws of layer 18 ask first of fixed pieces is true. -/
import Derived.Test.YtkoplojnfijllaaDoorEn
import Derived.Outline
namespace Go.Proofs.YtkoplojnfijllaaDoor.chunk
open Go.ChangeShapes Go.WideShapes Go.ChangeAt Go.RowKit

def z65 : List UInt8 := List.replicate 65 0
theorem z65_len : z65.length = 65 := by unfold z65; simp
theorem z65_pieces : pieces z65.length = 2 := by rw [z65_len]; rfl
theorem p0_len : (piece z65 0).length = 64 := by rw [piece_len, z65_len]; rfl
theorem p1_len : (piece z65 1).length = 1 := by rw [piece_len, z65_len]; rfl

theorem v0 (b : Nat) : winV b z65.length 0 = .slice (some ⟨b, 0, none⟩) 64 64 := by rw [z65_len]; rfl
theorem v1 (b : Nat) : winV b z65.length 1 = .slice (some ⟨b, 64, none⟩) 1 1 := by rw [z65_len]; rfl
theorem seen_one (s : Ga) (h : s.has 1 = true) (h2 : s.of = 2) : ∀ i, seenTo s 0 (i + 1) = 1
  | 0 => by simp [seenTo, h]
  | i + 1 => by
    have : s.has (0 + 1 + (i + 1)) = false := by unfold Ga.has; rw [decide_eq_false (by omega)]; rfl
    rw [seenTo, this, if_neg (by simp), seen_one s h h2 i]
theorem front_zero (s : Ga) (h : s.has 0 = false) : Front s 0 := ⟨fun j hj => by omega, h⟩
theorem takes1 (sum : Int) : (fresh 2 sum).takes 1 (piece z65 1).length = true := by
  rw [p1_len]; exact (takes_iff (fresh 2 sum) 1 1).2 ⟨by show 1 < 2; omega, fresh_has 2 sum 1, by omega, by omega, fun h => by have : 1 < 2 - 1 := h; omega⟩
theorem has_put1 (sum : Int) (v : Value) (j : Nat) : ((fresh 2 sum).put 1 v).has j = decide (j = 1) := by
  rw [put_has (fresh 2 sum) (fresh_ok 2 sum (by omega) (by omega)) 1 j v (by show 1 < 2; omega), fresh_has, Bool.or_false]
theorem put1_ok (sum : Int) (v : Value) : ((fresh 2 sum).put 1 v).ok := put_ok _ (fresh_ok 2 sum (by omega) (by omega)) 1 v (by show 0 < 2; omega)
theorem takes0 (sum : Int) (v : Value) : ((fresh 2 sum).put 1 v).takes 0 (piece z65 0).length = true := by
  rw [p0_len]; exact (takes_iff ((fresh 2 sum).put 1 v) 0 64).2 ⟨by show 0 < 2; omega, by rw [has_put1]; rfl, by omega, by omega, fun _ => by omega⟩
theorem has_put2 (sum : Int) (v u : Value) (j : Nat) (hj : j < 2) : (((fresh 2 sum).put 1 v).put 0 u).has j = true := by
  rw [put_has _ (put1_ok sum v) 0 j u (by show 0 < 2; omega), has_put1]
  rcases (show j = 0 ∨ j = 1 by omega) with rfl | rfl <;> rfl
theorem parts_eq : (List.range 2).map (with_ (with_ (fun _ => []) 1 (piece z65 1)) 0 (piece z65 0)) = (List.range (pieces z65.length)).map (piece z65) := by
  rw [z65_pieces]; rfl

set_option maxHeartbeats 4000000 in
theorem told_any (w : World) (hT : Tab w) (h0 : 0 < w.heap.size) : Calls Tryd.prog 8 #[] w fun e w' => e = .returned (.bool true) ∧ Below w.heap.size w w' := by
  have hmk : ∀ w, (Instr.makeSlice 22 (.int .i64 65) (.int .i64 65)).run Tryd.prog w = .ok (.slice (some ⟨w.heap.size, 0, none⟩) 65 65) (w.alloc (.cells (zb 65) 5)) := mk22 65 (by omega)
  have HT := Lib.hid hT
  clear hT
  go_enter Tryd.func8, Tryd.ntmps8
  go_wp2_with fail
  have hb1 : BsAt (w.alloc (.cells (zb 65) 5)) w.heap.size 0 z65 := zb_bytes 65 w
  have hB1 : Below w.heap.size w (w.alloc (.cells (zb 65) 5)) := (Below.refl _ w).alloc (Nat.le_refl _) _
  generalize hW : w.alloc (.cells (zb 65) 5) = w1 at *
  clear hW
  have HB1 := Lib.hid hB1
  have hs := split_some w.heap.size 0 65 z65 w1 hb1 (by rw [z65_len]; omega) (by rw [z65_len]; omega)
  rw [z65_len] at hs
  refine hs.mono ?_; rintro e w2 ⟨g, cap, b, rfl, hg, hb, hrow, hdat, hbel⟩
  have hE := Env.of hrow hdat
  rw [z65_pieces]
  clear hs hrow hdat
  have hb2 : BsAt w2 w.heap.size 0 z65 := hb1.later hbel
  have hB2 : Below w.heap.size w w2 := HB1.out.trans (hbel.mono HB1.out.size)
  have hw1 : w.heap.size < w1.heap.size := by
    have := World.block_lt_of_cell? w1 _ (hb1.cell 0 (.int .u8 0) rfl)
    exact this
  have hE0 := hE.rows 0 (by rw [z65_pieces]; omega)
  have hE1 := hE.rows 1 (by rw [z65_pieces]; omega)
  have hg2 := World.block_lt_of_cell? w2 _ hE0
  have HE := Lib.hid hE
  have HB2 := Lib.hid hB2
  have Hb2 := Lib.hid hb2
  clear hE hB2 hb2 hb1 hbel HB1
  go_wp2_with fail
  refine (split_none none 0 0 w2 (.inl rfl) (by omega)).mono ?_; rintro e w' ⟨rfl, rfl⟩
  have hconv := conv_any w.heap.size 0 65 65 z65 w2 (by rw [z65_len]) Hb2.out
  go_wp2_with fail
  refine (refSeed_any (strOf z65) w2 (by rw [strOf_size, z65_len]; decide)).mono ?_; rintro e w' ⟨rfl, rfl⟩
  rw [strOf_list]
  generalize hsum : seed z65 = sum
  have Hsum := Lib.hid hsum
  clear hsum hconv
  go_wp2_with fail
  refine (new_in 2 sum w2 (by omega) (by omega)).mono ?_; rintro e w3 ⟨G, C, A, rfl, hG, hC, hA, hL, hbel⟩
  have hG0 := fresh_good (B0 := w.heap.size) hL (by omega) (by omega) (by omega) (by omega) (by omega)
  have hb3 := Hb2.out.later hbel
  have hE3 := HE.out.later hbel
  have hB3 : Below w.heap.size w w3 := HB2.out.trans (hbel.mono HB2.out.size)
  have hgl := World.block_lt_of_cell? w2 _ (HE.out.dat.cell 0 (.int .u8 0) rfl)
  have hpl := World.block_lt_of_cell? w2 _ (Hb2.out.cell 0 (.int .u8 0) rfl)
  have hgl' : b < w2.heap.size := hgl
  have hpl' : w.heap.size < w2.heap.size := hpl
  have hg2' : g < w2.heap.size := hg2
  have nS : ∀ k, k < w2.heap.size → ¬ (k = G ∨ k = C ∨ k = A) := fun k hk => by omega
  have NS := Lib.hid nS
  have hE1 := hE3.rows 1 (by rw [z65_pieces]; omega)
  rw [v1] at hE1
  have HG := Lib.hid hG0
  have Hb := Lib.hid hb3
  have HE' := Lib.hid hE3
  have HB := Lib.hid hB3
  clear hL hbel hG0 hb3 hE3 hB3 nS HE Hb2 HB2 hE0 hgl hpl
  go_wp2_with fail
  refine (good_put HG.out 1 b 64 1 1 (piece z65 1) (by rw [p1_len]) (by rw [p1_len]; omega) (HE'.out.dat.piece 1) (NS.out b hgl') HB.out.size).mono ?_
  rintro e w4 (⟨_, ⟨u1, rfl, hG1⟩, hF⟩ | ⟨hno, _⟩)
  · change Good w4 w.heap.size G C A ((fresh 2 sum).put 1 u1) (with_ (fun _ => []) 1 (piece z65 1)) at hG1
    have hb4 := Hb.out.fr hF (NS.out _ hpl')
    have hE4 := HE'.out.fr hF (NS.out _ hg2') (NS.out _ hgl')
    have hB4 : Below w.heap.size w w4 := HB.out.trans (hF.below HB.out.size (fun k hk => by omega))
    have HG1 := Lib.hid hG1
    have Hb := Lib.hid hb4
    have HE := Lib.hid hE4
    have HB := Lib.hid hB4
    have hE0 := hE4.rows 0 (by rw [z65_pieces]; omega)
    rw [v0] at hE0
    clear hG1 hF hb4 hE4 hB4 hE1 HG
    go_wp2_with fail
    refine (got_any G C A _ w4 HG1.out.lies HG1.out.ok HG1.out.tidy (HT.out.below HB.out h0)).mono ?_
    rintro e w5 ⟨n, hn, rfl, hbel5⟩
    obtain rfl : n = 0 := hn.uniq (front_zero _ (has_put1 sum u1 0))
    rw [show seenTo ((fresh 2 sum).put 1 u1) 0 32 = 1 from seen_one _ (has_put1 sum u1 1) rfl 31]
    have hE0 := cell_later hbel5 hE0
    have hG5 := HG1.out.fr hbel5
    have hb5 := Hb.out.later hbel5
    have hE5 := HE.out.later hbel5
    have hB5 : Below w.heap.size w w5 := HB.out.trans (hbel5.mono HB.out.size)
    have HG1 := Lib.hid hG5
    have Hb := Lib.hid hb5
    have HE := Lib.hid hE5
    have HB := Lib.hid hB5
    clear hn hbel5 hG5 hb5 hE5 hB5
    go_wp2_with fail
    refine (bytes_part G C A _ w5 HG1.out.lies (by show ((0 + 1 : Nat) : Int) ≠ ((2 : Nat) : Int); omega)).mono ?_
    rintro e w6 ⟨rfl, hbel6⟩
    have hE0 := cell_later hbel6 hE0
    have hG6 := HG1.out.fr hbel6
    have hb6 := Hb.out.later hbel6
    have hE6 := HE.out.later hbel6
    have hB6 : Below w.heap.size w w6 := HB.out.trans (hbel6.mono HB.out.size)
    have HG1 := Lib.hid hG6
    have Hb := Lib.hid hb6
    have HE := Lib.hid hE6
    have HB := Lib.hid hB6
    clear hbel6 hG6 hb6 hE6 hB6
    go_wp2_with fail
    refine (good_put HG1.out 0 b 0 64 64 (piece z65 0) (by rw [p0_len]) (by rw [p0_len]; omega) (HE.out.dat.piece 0) (NS.out b hgl') HB.out.size).mono ?_
    rintro e w7 (⟨_, ⟨u2, rfl, hG2⟩, hF⟩ | ⟨hno, _⟩)
    · change Good w7 w.heap.size G C A (((fresh 2 sum).put 1 u1).put 0 u2) (with_ (with_ (fun _ => []) 1 (piece z65 1)) 0 (piece z65 0)) at hG2
      have hb7 := Hb.out.fr hF (NS.out _ hpl')
      have hE7 := HE.out.fr hF (NS.out _ hg2') (NS.out _ hgl')
      have hB7 : Below w.heap.size w w7 := HB.out.trans (hF.below HB.out.size (fun k hk => by omega))
      have HG2 := Lib.hid hG2
      have Hb := Lib.hid hb7
      have HE := Lib.hid hE7
      have HB := Lib.hid hB7
      have hE0 := hE7.rows 0 (by rw [z65_pieces]; omega)
      rw [v0] at hE0
      clear hG2 hF hb7 hE7 hB7 HG1
      have hrows := HG2.out.rows (fun k hk => has_put2 sum u1 u2 k hk)
      change RowsAt w7 A ((List.range 2).map (with_ (with_ (fun _ => []) 1 (piece z65 1)) 0 (piece z65 0))) at hrows
      rw [parts_eq] at hrows
      have htot : total ((List.range (pieces z65.length)).map (piece z65)) = 65 := by unfold total; rw [flat_all, z65_len]
      have HR := Lib.hid hrows
      clear hrows
      go_wp2_with fail
      refine (bytes_full G C A _ w7 HG2.out.lies rfl _ (by rw [List.length_map, List.length_range, z65_pieces]; rfl) HR.out (by rw [htot]; omega) (by rw [htot]; omega) (by show 2 ≤ 65535; omega)).mono ?_
      rintro e w8 ⟨hbel8, hif⟩
      rw [flat_all, htot] at hif
      rw [if_pos (show seed z65 = (((fresh 2 sum).put 1 u1).put 0 u2).sum from Hsum.out)] at hif
      obtain ⟨gd, cd, rfl, hrow⟩ := hif
      have hE0 := cell_later hbel8 hE0
      have hG8 := HG2.out.fr hbel8
      have hb8 := Hb.out.later hbel8
      have hB8 : Below w.heap.size w w8 := HB.out.trans (hbel8.mono HB.out.size)
      have hd8 : BsAt w8 gd 0 z65 := ⟨hrow.cells (g := gd) rfl⟩
      have HG2 := Lib.hid hG8
      have Hb := Lib.hid hb8
      have HB := Lib.hid hB8
      have Hd := Lib.hid hd8
      clear hbel8 hG8 hb8 hB8 hd8 hrow htot
      go_wp2_with fail
      refine (bytes_nil w8).mono ?_
      rintro e w9 ⟨rfl, hbel9⟩
      have hE0 := cell_later hbel9 hE0
      have hG9 := HG2.out.fr hbel9
      have hb9 := Hb.out.later hbel9
      have hd9 := Hd.out.later hbel9
      have hB9 : Below w.heap.size w w9 := HB.out.trans (hbel9.mono HB.out.size)
      have HG2 := Lib.hid hG9
      have HB := Lib.hid hB9
      have Hb9 := Lib.hid hb9
      have Hd9 := Lib.hid hd9
      clear hbel9 hG9 hB9 hb9 hd9 Hb Hd
      go_wp2_with fail
      refine (full_any G C A _ w9 HG2.out.lies).mono ?_
      rintro e w10 ⟨rfl, q, rfl⟩
      have hc1 := conv_any gd 0 65 cd z65 (w9.drewN q) (by rw [z65_len]) ⟨fun j u hu => by simpa using Hd9.out.cell j u hu⟩
      have hc2 := conv_any w.heap.size 0 65 65 z65 (w9.drewN q) (by rw [z65_len]) ⟨fun j u hu => by simpa using Hb9.out.cell j u hu⟩
      rw [show (((((fresh 2 sum).put 1 u1).put 0 u2).n : Int) == ((((fresh 2 sum).put 1 u1).put 0 u2).of : Nat)) = true from rfl]
      go_wp2_with fail
      refine (new_out 0 0 _ (.inl (by omega))).mono ?_
      rintro e w' ⟨rfl, rfl⟩
      go_wp2_with fail
      refine (put_nil 0 _ _ _ _).mono ?_
      rintro e w' ⟨rfl, rfl⟩
      go_wp2_with fail
      refine (full_nil _).mono ?_
      rintro e w10 ⟨rfl, q2, rfl⟩
      go_wp2_with fail
      go_ret
      exact ⟨rfl, below_drewN HB.out _⟩
    · exact absurd (takes0 sum u1) (by rw [hno]; simp)
  · exact absurd (takes1 sum) (by rw [hno]; simp)
end Go.Proofs.YtkoplojnfijllaaDoor.chunk
