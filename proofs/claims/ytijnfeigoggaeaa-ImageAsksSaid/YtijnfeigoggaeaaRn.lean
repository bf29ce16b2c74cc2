/- image's reader: a number out of bytes. -/
import Derived.Test.YtijnfeigoggaeaaPm
namespace Go.Proofs.Ytijnfeigoggaeaa.game
open Go.ChangeShapes Go.WideShapes Go.ChangeAt Go.RowKit dice
set_option maxRecDepth 100000

theorem valB_snoc : ∀ (l : List UInt8) (c : UInt8), valB (l ++ [c]) = valB l + 256 ^ l.length * c.toNat
  | [], c => by simp [valB]
  | d :: l, c => by
    rw [List.cons_append, valB, valB_snoc l c, valB, List.length_cons, Nat.pow_succ']
    rw [Nat.mul_add, Nat.add_assoc, Nat.mul_assoc]
theorem or64 (A D s : Nat) (M : Int) (hM : M = ((2 ^ s : Nat) : Int)) (hA : A < 2 ^ s) (hD : D < 256) (hs : s ≤ 56) : bits .or .u64 (A : Int) ((D : Int) * M) = ((A + 2 ^ s * D : Nat) : Int) := by
  have h2 : 2 ^ s ≤ 2 ^ 56 := Nat.pow_le_pow_right (by decide) hs
  have h3 : 2 ^ s * D ≤ 2 ^ 56 * 255 := Nat.mul_le_mul h2 (by omega)
  rw [hM, ← Int.natCast_mul, Nat.mul_comm, u64_or_nat A (2 ^ s * D) (by omega) (by omega), Nat.or_comm, ← Nat.two_pow_add_eq_or_of_lt hA, Nat.add_comm]
theorem info95 : (Try.prog.info? 95).map (·.size) = some 1 := by kernel_rfl
/-- Bytes, where they lie in the world W. -/
def Bs (W : World) (v : Value) (b : List UInt8) : Prop :=
  ∃ ad c, v = .slice ad b.length c ∧ b.length ≤ c ∧ c ≤ maxLen ∧ (b = [] ∨ ∃ g o, ad = some ⟨g, o, none⟩ ∧ g < W.heap.size ∧ ∀ j u, (vb b)[j]? = some u → W.cell? ⟨g, o + j, none⟩ = some u)
theorem vb_drop (b : List UInt8) (k : Nat) : vb (b.drop k) = (vb b).drop k := by simp [vb]
set_option maxHeartbeats 4000000 in
theorem rnum_ok (Wb : World) (r k : Nat) (v : Value) (b : List UInt8) (w0 : World) (hbl : Below Wb.heap.size Wb w0) (hv : Bs Wb v b) (hk1 : 1 ≤ k) (hk : k ≤ 8) (hkb : k ≤ b.length)
    (H0 : Sb [r] w0 w0 [(r, #[v], 95)] []) :
    Calls Try.prog 54 #[.pointer (some ⟨r, 0, none⟩), .int .i64 k] w0 fun e w' => e = .returned (.int .u64 ((valB (b.take k) : Nat) : Int)) ∧ ∃ v', Bs Wb v' (b.drop k) ∧ Sb [r] w0 w' [(r, #[v'], 95)] [] := by
  obtain ⟨ad, c, rfl, hc, hn, hh⟩ := hv
  obtain ⟨g, o, rfl, hg, hbW⟩ : ∃ g o, ad = some ⟨g, o, none⟩ ∧ g < Wb.heap.size ∧ ∀ j u, (vb b)[j]? = some u → Wb.cell? ⟨g, o + j, none⟩ = some u := by
    rcases hh with rfl | h
    · simp at hkb; omega
    · exact h
  have hb' : Hid (∀ j u, (vb b)[j]? = some u → w0.cell? ⟨g, o + j, none⟩ = some u) := Lib.hid (fun j u h => (hbl.cell (p := ⟨g, o + j, none⟩) hg).trans (hbW j u h))
  have HbW := Lib.hid hbW
  have H := H0
  have Hc := Lib.hid hc
  have Hg := Lib.hid hg
  clear hbW H0 hg hc hbl hh
  have hn' : c ≤ 9223372036854775807 := by unfold maxLen at hn; omega
  have Hn := Lib.hid hn
  clear hn
  go_enter Try.func54, Try.ntmps54
  go_wp2_with (refine wb_cell H rfl 0 36 _ rfl _ 0 rfl _ _ rfl Try.isAgg36 (.slice (some ⟨g, o, none⟩) b.length c) rfl ?_)
  have HB := Lib.hid H
  clear H
  go_loopw [5, 17] (fun x i W => ∃ j : Nat, j ≤ k ∧ i = .int .i64 j ∧ x = .int .u64 ((valB (b.take j) : Nat) : Int) ∧ W = w0) (fun _ i _ => k - (intOf i).toNat)
  case atStart => exact ⟨0, Nat.zero_le _, rfl, rfl, rfl⟩
  case round =>
    obtain ⟨j, hj, rfl, rfl, rfl⟩ := hrel
    by_cases hlt : j < k
    · obtain ⟨d, hd⟩ : ∃ d, b[j]? = some d := ⟨b[j], List.getElem?_eq_getElem (by omega)⟩
      have hcj : wr.cell? ⟨g, o + j, none⟩ = some (.int .u8 (d.toNat : Int)) := hb'.out j _ (by simp [vb, hd])
      have hcr : wr.cell? ⟨r, 0, none⟩ = some (.slice (some ⟨g, o, none⟩) b.length c) := cell_of_row wr r 0 _ 95 (0, 0) (HB.out.holds _ (List.mem_cons_self ..))
      have hjb : j < b.length := by omega
      have hA := valB_lt (b.take j)
      rw [List.length_take, Nat.min_eq_left (by omega)] at hA
      have Hsn : Hid (valB (b.take (j + 1)) = valB (b.take j) + 256 ^ j * d.toNat) := Lib.hid (by
        obtain ⟨hk', e⟩ := List.getElem?_eq_some_iff.1 hd
        rw [List.take_succ_eq_append_getElem hk', e, valB_snoc, List.length_take, Nat.min_eq_left (by omega)])
      have hd8 := d.toNat_lt
      generalize valB (b.take j) = A at *
      generalize d.toNat = D at *
      clear hd
      rcases (show j = 0 ∨ j = 1 ∨ j = 2 ∨ j = 3 ∨ j = 4 ∨ j = 5 ∨ j = 6 ∨ j = 7 by omega) with rfl | rfl | rfl | rfl | rfl | rfl | rfl | rfl
      · rw [Nat.add_zero] at hcj
        go_wp2_with fail
        exact ⟨⟨1, hlt, rfl, by rw [Hsn.out]; have e := or64 A D 0 1 (by decide) (by omega) hd8 (by decide); rw [Int.mul_one] at e; exact congrArg _ (by simpa using e), by first | trivial | rfl⟩, by simp only [intOf]; omega⟩
      · go_wp2_with fail
        exact ⟨⟨2, hlt, rfl, by rw [Hsn.out]; exact congrArg _ (or64 A D 8 _ (by decide) (by omega) hd8 (by decide)), by first | trivial | rfl⟩, by simp only [intOf]; omega⟩
      · go_wp2_with fail
        exact ⟨⟨3, hlt, rfl, by rw [Hsn.out]; exact congrArg _ (or64 A D 16 _ (by decide) (by omega) hd8 (by decide)), by first | trivial | rfl⟩, by simp only [intOf]; omega⟩
      · go_wp2_with fail
        exact ⟨⟨4, hlt, rfl, by rw [Hsn.out]; exact congrArg _ (or64 A D 24 _ (by decide) (by omega) hd8 (by decide)), by first | trivial | rfl⟩, by simp only [intOf]; omega⟩
      · go_wp2_with fail
        exact ⟨⟨5, hlt, rfl, by rw [Hsn.out]; exact congrArg _ (or64 A D 32 _ (by decide) (by omega) hd8 (by decide)), by first | trivial | rfl⟩, by simp only [intOf]; omega⟩
      · go_wp2_with fail
        exact ⟨⟨6, hlt, rfl, by rw [Hsn.out]; exact congrArg _ (or64 A D 40 _ (by decide) (by omega) hd8 (by decide)), by first | trivial | rfl⟩, by simp only [intOf]; omega⟩
      · go_wp2_with fail
        exact ⟨⟨7, hlt, rfl, by rw [Hsn.out]; exact congrArg _ (or64 A D 48 _ (by decide) (by omega) hd8 (by decide)), by first | trivial | rfl⟩, by simp only [intOf]; omega⟩
      · go_wp2_with fail
        exact ⟨⟨8, hlt, rfl, by rw [Hsn.out]; exact congrArg _ (or64 A D 56 _ (by decide) (by omega) hd8 (by decide)), by first | trivial | rfl⟩, by simp only [intOf]; omega⟩
    · obtain rfl : j = k := by omega
      have H := HB.out
      have hc := Hc.out
      have hld : (b.drop j).length = b.length - j := List.length_drop ..
      clear HB
      by_cases hcj : c = j
      · subst hcj
        go_wp2_with (first | (refine wb_cell H rfl 0 36 _ rfl _ 0 rfl _ _ rfl Try.isAgg36 (.slice (some ⟨g, o, none⟩) b.length c) rfl ?_) | (refine wb_put H rfl 0 36 _ _ rfl _ 0 rfl _ _ rfl (.slice (some ⟨g, o, none⟩) 0 0) rfl 1 info36 rfl (Nat.le_of_ble_eq_true rfl) rfl _ rfl ?_; clear H; intro w H))
        go_ret
        have hz : (b.drop c).length = 0 := by omega
        exact ⟨rfl, .slice (some ⟨g, o, none⟩) 0 0, ⟨some ⟨g, o, none⟩, 0, by rw [hz], by omega, Nat.zero_le _, .inl (List.length_eq_zero_iff.1 hz)⟩, H⟩
      · go_wp2_with (first | (refine wb_cell H rfl 0 36 _ rfl _ 0 rfl _ _ rfl Try.isAgg36 (.slice (some ⟨g, o, none⟩) b.length c) rfl ?_) | (refine wb_put H rfl 0 36 _ _ rfl _ 0 rfl _ _ rfl (.slice (some ⟨g, o + j, none⟩) (b.length - j) (c - j)) rfl 1 info36 rfl (Nat.le_of_ble_eq_true rfl) rfl _ rfl ?_; clear H; intro w H))
        go_ret
        refine ⟨rfl, _, ⟨some ⟨g, o + j, none⟩, c - j, rfl, by omega, by have := Hn.out; omega, .inr ⟨g, o + j, rfl, Hg.out, fun i u h => ?_⟩⟩, ?_⟩
        · rw [vb_drop, List.getElem?_drop] at h
          rw [Nat.add_assoc]
          exact HbW.out _ u h
        · rw [hld]
          exact H
/-- What the reader panics with. -/
def wrongP : List PanicEntry := [{ v := .iface 92 (.agg #[]), recovered := false }]
theorem rnum_bad (r k : Nat) (v : Value) (b : List UInt8) (Wb w0 : World) (hv : Bs Wb v b) (hkb : b.length < k)
    (H0 : Sb [r] w0 w0 [(r, #[v], 95)] []) :
    Calls Try.prog 54 #[.pointer (some ⟨r, 0, none⟩), .int .i64 k] w0 fun e w' => e = .panicked wrongP ∧ Sb [r] w0 w' [(r, #[v], 95)] [] := by
  obtain ⟨ad, c, rfl, hc, hn, hh⟩ := hv
  have H := H0
  clear H0 hh hn hc
  go_enter Try.func54, Try.ntmps54
  go_wp2_with (refine wb_cell H rfl 0 36 _ rfl _ 0 rfl _ _ rfl Try.isAgg36 (.slice ad b.length c) rfl ?_)
  exact ⟨rfl, rfl, H⟩
theorem set_self {α : Type} {l : List α} {i : Nat} {a : α} (h : l[i]? = some a) : l.set i a = l := by
  apply List.ext_getElem?
  intro j
  rw [List.getElem?_set]
  split
  · rename_i e
    subst e
    rw [h]
    simp [(List.getElem?_eq_some_iff.1 h).1]
  · rfl
/-- A number is read: what the call hands back, and where the reader stands then. -/
def RdOut (W0 : World) (l : List Blk) (R : List RowS) (i r k : Nat) (b : List UInt8) (val : Nat → Value) (e : Ending) (w' : World) : Prop :=
  match rd k b with
  | none => e = .panicked wrongP ∧ Sb [] W0 w' l R
  | some (n, b') => e = .returned (val n) ∧ ∃ v', Bs W0 v' b' ∧ Sb [] W0 w' (l.set i (r, #[v'], 95)) R
theorem rd_step {W0 w : World} {l : List Blk} {R : List RowS} {v : Value} {b : List UInt8} (H : Sb [] W0 w l R) (i r : Nat) (hi : l[i]? = some (r, #[v], 95)) (hv : Bs W0 v b) (k : Nat) (hk1 : 1 ≤ k) (hk : k ≤ 8) (kk : Int) (hkk : kk = (k : Int)) :
    Calls Try.prog 54 #[.pointer (some ⟨r, 0, none⟩), .int .i64 kk] w (RdOut W0 l R i r k b fun n => .int .u64 n) := by
  subst hkk
  have hst : Sb [r] w w [(r, #[v], 95)] [] := ⟨rfl, rfl, rfl, Nat.le_refl _, fun _ _ _ => rfl, fun p hp => by rw [List.mem_singleton] at hp; subst hp; exact H.holds _ (List.mem_of_getElem? hi), fun p hp => by rw [List.mem_singleton] at hp; subst hp; exact .inr (List.mem_cons_self ..), by simp, fun _ h => by simp at h, fun _ h => by simp at h, fun _ h => by simp at h, by simp⟩
  have back : ∀ {w' : World} {v' : Value}, Sb [r] w w' [(r, #[v'], 95)] [] → Sb [] W0 w' (l.set i (r, #[v'], 95)) R := fun {w' v'} hS => H.turn i r _ _ 95 hi hS.os hS.tape hS.output hS.size (hS.holds _ (List.mem_cons_self ..)) (fun j hj hne => hS.fr j hj (by simpa using hne))
  by_cases hkb : b.length < k
  · refine (rnum_bad r k v b W0 w hv hkb hst).mono ?_
    rintro e w' ⟨rfl, hS⟩
    have hr : rd k b = none := by unfold rd; rw [if_pos hkb]
    unfold RdOut
    rw [hr]
    have := back hS
    rw [set_self hi] at this
    exact ⟨rfl, this⟩
  · refine (rnum_ok W0 r k v b w H.below hv hk1 hk (by omega) hst).mono ?_
    rintro e w' ⟨rfl, v', hv', hS⟩
    have hr : rd k b = some (valB (b.take k), b.drop k) := by unfold rd; rw [if_neg hkb]
    unfold RdOut
    rw [hr]
    exact ⟨rfl, v', hv', back hS⟩
theorem small_step {W0 w : World} {l : List Blk} {R : List RowS} {v : Value} {b : List UInt8} (H : Sb [] W0 w l R) (i r : Nat) (hi : l[i]? = some (r, #[v], 95)) (hv : Bs W0 v b) :
    Calls Try.prog 55 #[.pointer (some ⟨r, 0, none⟩)] w (RdOut W0 l R i r 4 b fun n => .int .i32 (sg32 n)) := by
  have HC := rd_step H i r hi hv 4 (by decide) (by decide) 4 rfl
  have hlt : ∀ n b', rd 4 b = some (n, b') → n < 256 ^ 4 := fun n b' h => (rd_back h).2
  unfold RdOut at HC ⊢
  clear H hv hi
  cases hr : rd 4 b with
  | none =>
    rw [hr] at HC
    have HC := Lib.hid HC
    clear hr hlt
    go_enter Try.func55, Try.ntmps55
    go_wp2_with fail
    refine HC.out.mono ?_; rintro e w' ⟨rfl, hS⟩
    exact ⟨rfl, rfl, hS⟩
  | some p =>
    obtain ⟨n, b'⟩ := p
    have hn : n < 4294967296 := hlt n b' hr
    rw [hr] at HC
    dsimp only at HC ⊢
    have HC := Lib.hid HC
    clear hr hlt
    by_cases hs : n < 2147483648
    · rw [show sg32 n = (n : Int) by unfold sg32; rw [if_pos hs]]
      go_enter Try.func55, Try.ntmps55
      go_wp2_with fail
      refine HC.out.mono ?_; rintro e w' ⟨rfl, hS⟩
      have HS := Lib.hid hS
      clear hS HC
      go_wp2_with fail
      go_ret
      exact ⟨rfl, HS.out⟩
    · rw [show sg32 n = (n : Int) - 4294967296 by unfold sg32; rw [if_neg hs]]
      go_enter Try.func55, Try.ntmps55
      go_wp2_with fail
      refine HC.out.mono ?_; rintro e w' ⟨rfl, hS⟩
      have HS := Lib.hid hS
      clear hS HC
      go_wp2_with fail
      go_ret
      refine ⟨?_, HS.out⟩
      show Ending.returned (.int .i32 (wrap32 (n : Int))) = _
      rw [show wrap32 (n : Int) = (n : Int) - 4294967296 by unfold wrap32; omega]
end Go.Proofs.Ytijnfeigoggaeaa.game
