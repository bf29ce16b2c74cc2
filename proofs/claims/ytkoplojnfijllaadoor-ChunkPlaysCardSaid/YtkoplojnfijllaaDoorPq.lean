/- What both Gathers tell, side by side, for 'ChunkPlays'. -/
import Derived.Test.YtkoplojnfijllaaDoorPr
namespace Go.Proofs.YtkoplojnfijllaaDoor.chunk
open Go.ChangeShapes Go.WideShapes Go.ChangeAt Go.RowKit

structure FrontOf (k : Nat) (f : Nat → Bool) (n : Nat) : Prop where
  le : n ≤ k
  all : ∀ j, j < n → f j = true
  stop : n < k → f n = false
theorem front_ex (f : Nat → Bool) : ∀ k, ∃ n, FrontOf k f n
  | 0 => ⟨0, Nat.le_refl _, fun _ h => by omega, fun h => by omega⟩
  | k + 1 => by
    obtain ⟨n, h1, h2, h3⟩ := front_ex f k
    by_cases hn : n < k
    · exact ⟨n, by omega, h2, fun _ => h3 hn⟩
    · obtain rfl : n = k := by omega
      cases hf : f n with
      | false => exact ⟨n, by omega, h2, fun _ => hf⟩
      | true => exact ⟨n + 1, Nat.le_refl _, fun j hj => by
          by_cases e : j = n
          · rw [e]; exact hf
          · exact h2 j (by omega), fun h => by omega⟩
theorem seenOf_congr (k : Nat) (f g : Nat → Bool) (n : Nat) (h : ∀ j, j < k → f j = g j) : ∀ i, seenOf k f n i = seenOf k g n i
  | 0 => rfl
  | i + 1 => by
    unfold seenOf
    rw [seenOf_congr k f g n h i]
    by_cases hc : n + 1 + i < k
    · rw [h _ hc]
    · rw [if_neg (fun x => hc x.1), if_neg (fun x => hc x.1)]
theorem Both.later {B0 G C A R D S k : Nat} {sum : Int} {w : World} {f : Nat → Bool} {parts : Nat → List UInt8} {W W' : World} (h : Both B0 G C A R D S k sum w f parts W) (hb : Below W.heap.size W W') : Both B0 G C A R D S k sum w f parts W' := by
  obtain ⟨s, hg, h1, h2, h3⟩ := h.prog
  exact ⟨h.below.trans (hb.mono (Nat.le_trans h.size h.below.size)), h.size, ⟨s, hg.fr hb, h1, h2, h3⟩, h.ref.fr (Fr.of_below (S := fun _ => False) hb) id id id, h.r, h.d, h.s⟩
def BothGot (B0 G C A R D S k : Nat) (sum : Int) (w : World) (f : Nat → Bool) (parts : Nat → List UInt8) (n : Nat) (W : World) (e : Ending) (W' : World) : Prop :=
  e = .returned (.tuple #[.int .i64 n, .int .u32 (seenOf k f n 32)]) ∧ Both B0 G C A R D S k sum w f parts W' ∧ Below W.heap.size W W'
theorem both_got {B0 G C A R D S k : Nat} {sum : Int} {w : World} {f : Nat → Bool} {parts : Nat → List UInt8} {W : World} (h : Both B0 G C A R D S k sum w f parts W) (hT : Tab W) (n : Nat) (hn : FrontOf k f n) :
    Calls Tryd.prog 16 #[.pointer (some ⟨G, 0, none⟩)] W (BothGot B0 G C A R D S k sum w f parts n W) := by
  obtain ⟨s, hg, h1, h2, h3⟩ := h.prog
  refine (got_any G C A s W hg.lies hg.ok hg.tidy hT).mono ?_
  rintro e W' ⟨m, hm, rfl, hbel⟩
  have hle := hn.le
  have hfr : Front s n := ⟨fun j hj => by rw [h3 j (by omega)]; exact hn.all j hj, by
    by_cases hlt : n < s.of
    · rw [h3 n (by omega)]; exact hn.stop (by omega)
    · unfold Ga.has; rw [decide_eq_false hlt]; rfl⟩
  obtain rfl : m = n := hm.uniq hfr
  refine ⟨?_, h.later hbel, hbel⟩
  rw [seenOf_eq, h1, seenOf_congr k s.has f m h3]
theorem both_rgot {B0 G C A R D S k : Nat} {sum : Int} {w : World} {f : Nat → Bool} {parts : Nat → List UInt8} {W : World} (h : Both B0 G C A R D S k sum w f parts W) (hk : k ≤ 65535) (n : Nat) (hn : FrontOf k f n) :
    Calls Tryd.prog 17 #[.pointer (some ⟨R, 0, none⟩)] W fun e W' => e = .returned (.tuple #[.int .i64 n, .int .u32 (seenOf k f n 32)]) ∧ W = W' :=
  rgot_any R D S k sum f parts W h.ref hk n hn.le hn.all hn.stop
theorem both_full {B0 G C A R D S k : Nat} {sum : Int} {w : World} {f : Nat → Bool} {parts : Nat → List UInt8} {W : World} (h : Both B0 G C A R D S k sum w f parts W) (n : Nat) (hn : FrontOf k f n) (q : Bool) (hq : ((n : Int) == (k : Int)) = q) :
    Calls Tryd.prog 20 #[.pointer (some ⟨G, 0, none⟩)] W fun e W' => e = .returned (.bool q) ∧ ∃ m, W' = W.drewN m := by
  obtain ⟨s, hg, h1, h2, h3⟩ := h.prog
  refine (full_any G C A s W hg.lies).mono ?_
  rintro e W' ⟨rfl, m, rfl⟩
  refine ⟨?_, m, rfl⟩
  congr 2
  rw [← hq]
  have hle := hn.le
  have e : (((s.n : Int) == s.of) = true) ↔ (((n : Int) == (k : Int)) = true) := by
    rw [beq_iff_eq, beq_iff_eq, Int.ofNat_inj, Int.ofNat_inj, hg.full]
    constructor
    · intro a
      rcases Nat.lt_or_ge n k with hlt | hge
      · have := hn.stop hlt; rw [← h3 n hlt, a n (by omega)] at this; cases this
      · omega
    · intro a j hj; rw [h3 j (by omega)]; exact hn.all j (by omega)
  cases hx : ((s.n : Int) == s.of) <;> cases hy : ((n : Int) == (k : Int)) <;> simp_all
/-- Pieces are short, and those that came not empty. -/
def Sm (f : Nat → Bool) (parts : Nat → List UInt8) : Prop := ∀ j, (parts j).length ≤ 64 ∧ (f j = true → 1 ≤ (parts j).length)
theorem Sm.put {f : Nat → Bool} {parts : Nat → List UInt8} (h : Sm f parts) (k : Nat) (m : Int) (pl : List UInt8) : Sm (putG f m (fits k f m pl.length)) (withG parts m pl (fits k f m pl.length)) := by
  cases hf : fits k f m pl.length with
  | false => exact h
  | true =>
    have hl : 1 ≤ pl.length ∧ pl.length ≤ 64 := by unfold fits at hf; simp at hf; omega
    intro j
    show ((with_ parts m.toNat pl) j).length ≤ 64 ∧ (putF f m.toNat j = true → 1 ≤ ((with_ parts m.toNat pl) j).length)
    unfold with_ putF
    by_cases hj : j = m.toNat
    · rw [if_pos hj]; exact ⟨hl.2, fun _ => hl.1⟩
    · rw [if_neg hj]; exact ⟨(h j).1, fun e => (h j).2 (by simpa [hj] using e)⟩
theorem partsTo_bd {f : Nat → Bool} {parts : Nat → List UInt8} (h : Sm f parts) : ∀ n, (partsTo parts n).length ≤ 64 * n
  | 0 => by simp [partsTo]
  | n + 1 => by rw [partsTo_succ, List.length_append]; have := partsTo_bd h n; have := (h n).1; omega
def BothBytes (B0 G C A R D S k : Nat) (sum : Int) (w : World) (f : Nat → Bool) (parts : Nat → List UInt8) (n : Nat) (W : World) (e : Ending) (W' : World) : Prop :=
  Below W.heap.size W W' ∧ Both B0 G C A R D S k sum w f parts W' ∧
    ((n = k ∧ seed (partsTo parts k) = sum ∧ ∃ gd cd, e = .returned (.tuple #[.slice (some ⟨gd, 0, none⟩) (partsTo parts k).length cd, .int .i64 0]) ∧ BsAt W' gd 0 (partsTo parts k)) ∨
     (n = k ∧ seed (partsTo parts k) ≠ sum ∧ e = .returned (.tuple #[.slice none 0 0, .int .i64 9])) ∨
     (n < k ∧ e = .returned (.tuple #[.slice none 0 0, .int .i64 3])))
theorem both_bytes {B0 G C A R D S k : Nat} {sum : Int} {w : World} {f : Nat → Bool} {parts : Nat → List UInt8} {W : World} (h : Both B0 G C A R D S k sum w f parts W) (hk1 : 1 ≤ k) (hk : k ≤ 60000) (hS : Sm f parts) (n : Nat) (hn : FrontOf k f n) :
    Calls Tryd.prog 18 #[.pointer (some ⟨G, 0, none⟩)] W (BothBytes B0 G C A R D S k sum w f parts n W) := by
  obtain ⟨s, hg, h1, h2, h3⟩ := h.prog
  have hle := hn.le
  by_cases hnk : n < k
  · refine (bytes_part G C A s W hg.lies (fun e => ?_)).mono ?_
    · have := (hg.full.1 (by omega)) n (by omega)
      rw [h3 n hnk, hn.stop hnk] at this; cases this
    · rintro e W' ⟨rfl, hbel⟩
      exact ⟨hbel, h.later hbel, .inr (.inr ⟨hnk, rfl⟩)⟩
  · obtain rfl : n = k := by omega
    have hall : ∀ j, j < s.of → s.has j = true := fun j hj => by rw [h3 j (by omega)]; exact hn.all j (by omega)
    have hrows := hg.rows hall
    rw [h1] at hrows
    have hbd := partsTo_bd hS n
    have hpos : 0 < (partsTo parts n).length := by
      have := partsTo_le parts 1 n hk1
      have e : partsTo parts 1 = parts 0 := by simp [partsTo]
      rw [e] at this
      have := (hS 0).2 (hn.all 0 (by omega)); omega
    refine (bytes_full G C A s W hg.lies (hg.full.2 hall) _ (by rw [List.length_map, List.length_range, h1]) hrows hpos (by show (partsTo parts n).length ≤ _; omega) hg.ok.of2).mono ?_
    rintro e W' ⟨hbel, hif⟩
    refine ⟨hbel, h.later hbel, ?_⟩
    rw [h2] at hif
    by_cases hs : seed (partsTo parts n) = sum
    · rw [if_pos (show seed (List.map parts (List.range n)).flatten = sum from hs)] at hif
      obtain ⟨gd, cd, rfl, hrow⟩ := hif
      exact .inl ⟨rfl, hs, gd, cd, rfl, ⟨hrow.cells (g := gd) rfl⟩⟩
    · rw [if_neg (show ¬ seed (List.map parts (List.range n)).flatten = sum from hs)] at hif
      exact .inr (.inl ⟨rfl, hs, hif⟩)
end Go.Proofs.YtkoplojnfijllaaDoor.chunk
