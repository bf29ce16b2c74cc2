/- What a law of layer 18 holds of its Gather, its pieces and its text while its loops go on. -/
import Derived.Test.YtkoplojnfijllaaDoorTo
namespace Go.Proofs.YtkoplojnfijllaaDoor.chunk
open Go.ChangeShapes Go.WideShapes Go.ChangeAt Go.RowKit

/-- The Gather G over the pieces of l; f: which pieces it has. -/
structure Inv (B0 n2 g b2 G C A : Nat) (l : List UInt8) (sum : Int) (w : World) (f : Nat → Bool) (W : World) : Prop where
  below : Below B0 w W
  size : B0 ≤ w.heap.size
  env : Env W g b2 l
  good : ∃ s parts, Good W B0 G C A s parts ∧ s.of = pieces l.length ∧ s.sum = sum ∧ (∀ k, k < s.of → s.has k = f k) ∧ (∀ k, s.has k = true → parts k = piece l k)
  gl : g < n2
  bl : b2 < n2
  hG : n2 ≤ G
  hC : n2 ≤ C
  hA : n2 ≤ A
  base : B0 ≤ n2

theorem Inv.size' {B0 n2 g b2 G C A : Nat} {l : List UInt8} {sum : Int} {w : World} {f : Nat → Bool} {W : World} (h : Inv B0 n2 g b2 G C A l sum w f W) : B0 ≤ W.heap.size := Nat.le_trans h.size h.below.size
theorem Inv.later {B0 n2 g b2 G C A : Nat} {l : List UInt8} {sum : Int} {w : World} {f : Nat → Bool} {W W' : World} (h : Inv B0 n2 g b2 G C A l sum w f W) (hb : Below W.heap.size W W') : Inv B0 n2 g b2 G C A l sum w f W' := by
  obtain ⟨s, parts, hg, h1, h2, h3, h4⟩ := h.good
  exact ⟨h.below.trans (hb.mono h.size'), h.size, h.env.later hb, ⟨s, parts, hg.fr hb, h1, h2, h3, h4⟩, h.gl, h.bl, h.hG, h.hC, h.hA, h.base⟩

def putF (f : Nat → Bool) (k : Nat) : Nat → Bool := fun j => decide (j = k) || f j
def PutInv (B0 n2 g b2 G C A : Nat) (l : List UInt8) (sum : Int) (w : World) (f : Nat → Bool) (k : Nat) (W : World) (e : Ending) (W' : World) : Prop :=
  e = .returned (.bool (!f k)) ∧ Inv B0 n2 g b2 G C A l sum w (putF f k) W' ∧ Fr (fun j => j = G ∨ j = C ∨ j = A) W W'
theorem inv_put {B0 n2 g b2 G C A : Nat} {l : List UInt8} {sum : Int} {w : World} {f : Nat → Bool} {W : World} (h : Inv B0 n2 g b2 G C A l sum w f W) (k : Nat) (hk : k < pieces l.length) :
    Calls Tryd.prog 14 #[.pointer (some ⟨G, 0, none⟩), .int .i64 k, winV b2 l.length k] W (PutInv B0 n2 g b2 G C A l sum w f k W) := by
  obtain ⟨s, parts, hg, h1, h2, h3, h4⟩ := h.good
  have hw := wlen_bd l.length k hk
  have hp := piece_len l k
  have hG := h.hG
  have hC := h.hC
  have hA := h.hA
  have hbl := h.bl
  have hgl := h.gl
  have hB := h.base
  refine (good_put hg k b2 (64 * k) (wlen l.length k) (wlen l.length k) (piece l k) hp.symm (by rw [hp]; omega) (h.env.dat.piece k) (by omega) h.size').mono ?_
  rintro e W' (⟨ht, ⟨v, rfl, hg'⟩, hF⟩ | ⟨ht, rfl, rfl⟩)
  · have hh := ((takes_iff s k _).1 ht).2.1
    have hf := h3 k (by rw [h1]; exact hk)
    refine ⟨by rw [← hf, hh]; rfl, ⟨h.below.trans (hF.below h.size' (fun j hj => by omega)), h.size, h.env.fr hF (by omega) (by omega), ⟨_, _, hg', h1, h2, ?_, ?_⟩, h.gl, h.bl, h.hG, h.hC, h.hA, h.base⟩, hF⟩
    · intro j hj
      have e := put_has s hg.ok k j v (by rw [h1]; exact hk)
      show (s.put k v).has j = _
      rw [e, h3 j hj]; rfl
    · intro j hj
      have e := put_has s hg.ok k j v (by rw [h1]; exact hk)
      have hj' : (s.put k v).has j = true := hj
      rw [e] at hj'
      show with_ parts k (piece l k) j = _
      unfold with_
      by_cases hjk : j = k
      · rw [if_pos hjk, hjk]
      · rw [if_neg hjk]; exact h4 j (by simpa [hjk] using hj')
  · have hh : s.has k = true := by
      cases hb : s.has k with
      | true => rfl
      | false =>
        have := (takes_iff s k (piece l k).length).2 ⟨by rw [h1]; exact hk, hb, by rw [hp]; omega, by rw [hp]; omega, by rw [hp, h1]; exact hw.2.2⟩
        rw [ht] at this; cases this
    have hf := h3 k (by rw [h1]; exact hk)
    refine ⟨by rw [← hf, hh]; rfl, ⟨h.below, h.size, h.env, ⟨s, parts, hg, h1, h2, ?_, h4⟩, h.gl, h.bl, h.hG, h.hC, h.hA, h.base⟩, Fr.refl _ _⟩
    intro j hj
    rw [h3 j hj]; unfold putF
    by_cases hjk : j = k
    · subst hjk; rw [← hf, hh]; simp
    · simp [hjk]

theorem inv_full {B0 n2 g b2 G C A : Nat} {l : List UInt8} {sum : Int} {w : World} {f : Nat → Bool} {W : World} (h : Inv B0 n2 g b2 G C A l sum w f W) (b : Bool) (hb : b = true ↔ ∀ k, k < pieces l.length → f k = true) :
    Calls Tryd.prog 20 #[.pointer (some ⟨G, 0, none⟩)] W fun e W' => e = .returned (.bool b) ∧ ∃ q, W' = W.drewN q := by
  obtain ⟨s, parts, hg, h1, h2, h3, h4⟩ := h.good
  refine (full_any G C A s W hg.lies).mono ?_
  rintro e W' ⟨rfl, q, rfl⟩
  refine ⟨?_, q, rfl⟩
  congr 2
  have hfull := hg.full
  have e : (((s.n : Int) == s.of) = true) ↔ b = true := by
    rw [hb, beq_iff_eq, Int.ofNat_inj, hfull]
    constructor
    · intro a k hk; rw [← h3 k (by omega)]; exact a k (by omega)
    · intro a k hk; rw [h3 k hk]; exact a k (by omega)
  cases b <;> cases hx : ((s.n : Int) == s.of) <;> simp_all

def BytesInv (B0 n2 g b2 G C A : Nat) (l : List UInt8) (sum : Int) (w : World) (f : Nat → Bool) (W : World) (e : Ending) (W' : World) : Prop :=
  Below W.heap.size W W' ∧ Inv B0 n2 g b2 G C A l sum w f W' ∧ if seed l = sum then ∃ gd cd, e = .returned (.tuple #[.slice (some ⟨gd, 0, none⟩) l.length cd, .int .i64 0]) ∧ BsAt W' gd 0 l else e = .returned (.tuple #[.slice none 0 0, .int .i64 9])
theorem inv_bytes {B0 n2 g b2 G C A : Nat} {l : List UInt8} {sum : Int} {w : World} {f : Nat → Bool} {W : World} (h : Inv B0 n2 g b2 G C A l sum w f W) (hl : 0 < l.length) (hl2 : l.length ≤ 1000000) (ha : ∀ k, k < pieces l.length → f k = true) :
    Calls Tryd.prog 18 #[.pointer (some ⟨G, 0, none⟩)] W (BytesInv B0 n2 g b2 G C A l sum w f W) := by
  obtain ⟨s, parts, hg, h1, h2, h3, h4⟩ := h.good
  have hall : ∀ k, k < s.of → s.has k = true := fun k hk => by rw [h3 k hk]; exact ha k (by omega)
  have hrows := hg.rows hall
  have he : (List.range s.of).map parts = (List.range (pieces l.length)).map (piece l) := by
    rw [h1]; exact List.map_congr_left (fun k hk => h4 k (hall k (by rw [h1]; exact List.mem_range.1 hk)))
  rw [he] at hrows
  have htot : total ((List.range (pieces l.length)).map (piece l)) = l.length := by unfold total; rw [flat_all]
  refine (bytes_full G C A s W hg.lies (hg.full.2 hall) _ (by rw [List.length_map, List.length_range, h1]) hrows (by rw [htot]; exact hl) (by rw [htot]; omega) hg.ok.of2).mono ?_
  rintro e W' ⟨hbel, hif⟩
  rw [flat_all, htot, h2] at hif
  refine ⟨hbel, h.later hbel, ?_⟩
  by_cases hs : seed l = sum
  · rw [if_pos hs] at hif ⊢
    obtain ⟨gd, cd, rfl, hrow⟩ := hif
    exact ⟨gd, cd, rfl, ⟨hrow.cells (g := gd) rfl⟩⟩
  · rw [if_neg hs] at hif ⊢
    exact hif

/-- A new Gather over the pieces of l. -/
theorem inv_new {B0 g b2 G C A n2 : Nat} {l : List UInt8} {sum : Int} {w W : World} (hb : Below B0 w W) (hB : B0 ≤ w.heap.size) (hE : Env W g b2 l) (hL : Lies W G C A (fresh (pieces l.length) sum)) (hl : 0 < l.length) (hl2 : l.length ≤ 1000000)
    (hg : g < n2) (hb2 : b2 < n2) (hG : n2 ≤ G) (hC : n2 ≤ C) (hA : n2 ≤ A) (hB2 : B0 ≤ n2) : Inv B0 n2 g b2 G C A l sum w (fun _ => false) W := by
  have hp := pieces_bd l.length hl
  exact ⟨hb, hB, hE, ⟨_, _, fresh_good hL hp (by unfold pieces; omega) (by omega) (by omega) (by omega), rfl, rfl, fun k _ => fresh_has _ _ k, fun k hk => by rw [fresh_has] at hk; cases hk⟩, hg, hb2, hG, hC, hA, hB2⟩

theorem mod_len (a : Int) (n : Nat) (h0 : 0 < n) (h : n ≤ 1000000) : ∃ k : Nat, wrap64 ((IntKind.u64.wrap a).tmod (n : Int)) = (k : Int) ∧ k < n := by
  have h : 0 ≤ wrap64 ((IntKind.u64.wrap a).tmod n) ∧ wrap64 ((IntKind.u64.wrap a).tmod n) < n := by
    rw [IntKind.wrap_u64, Int.tmod_eq_emod_of_nonneg (by omega)]
    have h1 := Int.emod_nonneg (a % 18446744073709551616) (show (n : Int) ≠ 0 by omega)
    have h2 := Int.emod_lt_of_pos (a % 18446744073709551616) (show (0 : Int) < n by omega)
    unfold wrap64; omega
  exact ⟨(wrap64 ((IntKind.u64.wrap a).tmod n)).toNat, by omega, by omega⟩
theorem BsAt.set {w : World} {b : Nat} {l : List UInt8} (h : BsAt w b 0 l) (k : Nat) (x : UInt8) (v : Value) (hv : v = .int .u8 (x.toNat : Int)) (hk : k < l.length) : BsAt (w.setCell ⟨b, k, none⟩ v) b 0 (l.set k x) := by
  subst hv
  refine ⟨fun j u hu => ?_⟩
  have a1 : ∀ j, (⟨b, 0, none⟩ : Addr).add j = ⟨b, j, none⟩ := fun j => by unfold Addr.add; split <;> simp_all
  rw [a1]
  have e : bytesOf (l.set k x) = (bytesOf l).set k (.int .u8 (x.toNat : Int)) := by unfold bytesOf; rw [List.map_set]
  rw [e, List.getElem?_set] at hu
  by_cases hjk : k = j
  · subst hjk
    rw [if_pos rfl, if_pos (by rw [length_bytes]; exact hk)] at hu
    obtain rfl := Option.some.inj hu
    have hc := h.cell k _ (List.getElem?_eq_getElem (by rw [length_bytes]; exact hk))
    rw [a1] at hc
    exact World.cell?_setCell_same w _ _ hc
  · rw [if_neg hjk] at hu
    have hc := h.cell j u hu
    rw [a1] at hc
    exact (World.cell?_setCell_other w _ _ _ (by intro e; exact hjk (by injection e))).trans hc
end Go.Proofs.YtkoplojnfijllaaDoor.chunk
