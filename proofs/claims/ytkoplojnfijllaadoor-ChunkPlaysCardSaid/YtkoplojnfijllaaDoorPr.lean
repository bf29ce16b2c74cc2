/- Both Gathers, the program's and the reference's, side by side, for 'ChunkPlays'. -/
import Derived.Test.YtkoplojnfijllaaDoorRp
import Derived.Test.YtkoplojnfijllaaDoorRs
import Derived.Test.YtkoplojnfijllaaDoorFw
namespace Go.Proofs.YtkoplojnfijllaaDoor.chunk
open Go.ChangeShapes Go.WideShapes Go.ChangeAt Go.RowKit

/-- A Gather in order stays so where blocks of another kind turn. -/
theorem Good.kind {S : Nat → Prop} {w w' : World} {B0 G C A : Nat} {s : Ga} {parts : Nat → List UInt8} (h : Good w B0 G C A s parts) (hf : Fr S w w') (hG : ¬ S G) (hC : ¬ S C) (hA : ¬ S A)
    (hS : ∀ j, S j → ∃ cs t, w.heap[j]? = some (.cells cs t (0, 0)) ∧ t ≠ 5) : Good w' B0 G C A s parts := by
  refine ⟨h.lies.fr hf hG hC hA, h.ok, h.tidy, h.g, h.c, h.a, h.count, fun k hk => ?_⟩
  obtain ⟨g, cap, hv, ho, h1, h2, h3⟩ := h.piece k hk
  refine ⟨g, cap, hv, ⟨ho.1, ?_⟩, h1, h2, h3⟩
  rcases ho.2 with ⟨e, _⟩ | ⟨g', c', cur, e, hb, hg, r⟩
  · cases e
  · cases e
    refine .inr ⟨g, cap, cur, rfl, hb, ?_, r⟩
    rw [hf.block g (Array.getElem?_eq_some_iff.1 hg).1 (fun hs => ?_)]
    · exact hg
    · obtain ⟨cs, t, h4, h5⟩ := hS g hs
      rw [hg] at h4
      injection h4 with h4
      injection h4 with _ h4
      exact h5 h4.symm

/-- Both: the reference has what the program has. f: which; parts: what. -/
structure Both (B0 G C A R D S k : Nat) (sum : Int) (w : World) (f : Nat → Bool) (parts : Nat → List UInt8) (W : World) : Prop where
  below : Below B0 w W
  size : B0 ≤ w.heap.size
  prog : ∃ s, Good W B0 G C A s parts ∧ s.of = k ∧ s.sum = sum ∧ ∀ j, j < k → s.has j = f j
  ref : RLies W R D S k sum f parts
  r : B0 ≤ R ∧ R ≠ G ∧ R ≠ C ∧ R ≠ A
  d : B0 ≤ D ∧ D ≠ G ∧ D ≠ C ∧ D ≠ A
  s : B0 ≤ S ∧ S ≠ G ∧ S ≠ C ∧ S ≠ A
/-- The program's has one more, the reference's not yet. -/
structure Half (B0 G C A R D S k : Nat) (sum : Int) (w : World) (f g : Nat → Bool) (parts parts' : Nat → List UInt8) (W : World) : Prop where
  below : Below B0 w W
  size : B0 ≤ w.heap.size
  prog : ∃ s, Good W B0 G C A s parts ∧ s.of = k ∧ s.sum = sum ∧ ∀ j, j < k → s.has j = f j
  ref : RLies W R D S k sum g parts'
  r : B0 ≤ R ∧ R ≠ G ∧ R ≠ C ∧ R ≠ A
  d : B0 ≤ D ∧ D ≠ G ∧ D ≠ C ∧ D ≠ A
  s : B0 ≤ S ∧ S ≠ G ∧ S ≠ C ∧ S ≠ A
theorem Half.both {B0 G C A R D S k : Nat} {sum : Int} {w : World} {f : Nat → Bool} {parts : Nat → List UInt8} {W : World} (h : Half B0 G C A R D S k sum w f f parts parts W) : Both B0 G C A R D S k sum w f parts W :=
  ⟨h.below, h.size, h.prog, h.ref, h.r, h.d, h.s⟩
theorem Both.half {B0 G C A R D S k : Nat} {sum : Int} {w : World} {f : Nat → Bool} {parts : Nat → List UInt8} {W : World} (h : Both B0 G C A R D S k sum w f parts W) : Half B0 G C A R D S k sum w f f parts parts W :=
  ⟨h.below, h.size, h.prog, h.ref, h.r, h.d, h.s⟩
/-- Does a piece fit? -/
def fits (k : Nat) (f : Nat → Bool) (m : Int) (n : Nat) : Bool := decide (0 ≤ m) && decide (m < k) && !f m.toNat && decide (1 ≤ n) && decide (n ≤ 64) && (decide ((k : Int) - 1 ≤ m) || decide (64 ≤ n))
def putG (f : Nat → Bool) (m : Int) (b : Bool) : Nat → Bool := if b then putF f m.toNat else f
def withG (parts : Nat → List UInt8) (m : Int) (l : List UInt8) (b : Bool) : Nat → List UInt8 := if b then with_ parts m.toNat l else parts

theorem half_put {B0 G C A R D S k : Nat} {sum : Int} {w : World} {f g : Nat → Bool} {parts parts' : Nat → List UInt8} {W : World} (h : Half B0 G C A R D S k sum w f g parts parts' W) (m : Int) (b o c : Nat) (pl : List UInt8) (hp : pl.length ≤ 9223372036854775807) (hb : BsAt W b o pl) (hbS : ¬ (b = G ∨ b = C ∨ b = A)) :
    Calls Tryd.prog 14 #[.pointer (some ⟨G, 0, none⟩), .int .i64 m, .slice (some ⟨b, o, none⟩) pl.length c] W fun e W' => e = .returned (.bool (fits k f m pl.length)) ∧ Half B0 G C A R D S k sum w (putG f m (fits k f m pl.length)) g (withG parts m pl (fits k f m pl.length)) parts' W' ∧ Fr (fun j => j = G ∨ j = C ∨ j = A) W W' := by
  obtain ⟨s, hg, h1, h2, h3⟩ := h.prog
  have hft : s.takes m pl.length = fits k f m pl.length := by
    unfold Ga.takes fits
    rw [h1]
    by_cases h0 : 0 ≤ m ∧ m < k
    · rw [h3 m.toNat (by omega)]
    · have : (decide (0 ≤ m) && decide (m < (k : Int))) = false := by simpa using h0
      rw [this]; simp
  have hr := h.r
  have hd := h.d
  have hs := h.s
  refine (good_put hg m b o c pl.length pl rfl hp hb hbS (Nat.le_trans h.size h.below.size)).mono ?_
  rintro e W' (⟨ht, ⟨v, rfl, hg'⟩, hF⟩ | ⟨ht, rfl, rfl⟩)
  · rw [hft] at ht
    rw [ht]
    have hm : 0 ≤ m ∧ m < k := by unfold fits at ht; simp at ht; omega
    refine ⟨rfl, ⟨h.below.trans (hF.below (Nat.le_trans h.size h.below.size) (fun j hj => by have := hg.g; have := hg.c; have := hg.a; omega)), h.size, ⟨_, hg', h1, h2, fun j hj => ?_⟩, h.ref.fr hF (by omega) (by omega) (by omega), hr, hd, hs⟩, hF⟩
    have e := put_has s hg.ok m.toNat j v (by omega)
    show (s.put m.toNat v).has j = putF f m.toNat j
    rw [e, h3 j hj]; rfl
  · rw [hft] at ht
    rw [ht]
    exact ⟨rfl, ⟨h.below, h.size, ⟨s, hg, h1, h2, h3⟩, h.ref, hr, hd, hs⟩, Fr.refl _ _⟩

theorem Fr.orB {B : Nat} {S : Nat → Prop} {w w' : World} (h : Fr S w w') (hB : B ≤ w.heap.size) (hS : ∀ j, S j → B ≤ j) : Below B w w' := h.below hB hS
theorem half_rput {B0 G C A R D S k : Nat} {sum : Int} {w : World} {f g : Nat → Bool} {parts parts' : Nat → List UInt8} {W : World} (h : Half B0 G C A R D S k sum w f g parts parts' W) (hk : k ≤ 65535) (m : Int) (pl : List UInt8) :
    Calls Tryd.prog 15 #[.pointer (some ⟨R, 0, none⟩), .int .i64 m, .string (strOf pl)] W fun e W' => e = .returned (.bool (fits k g m pl.length)) ∧ Half B0 G C A R D S k sum w f (putG g m (fits k g m pl.length)) parts (withG parts' m pl (fits k g m pl.length)) W' ∧ Fr (fun j => j = D ∨ j = S) W W' := by
  by_cases h0 : m < 0 ∨ (k : Int) ≤ m
  · have hf : fits k g m pl.length = false := by
      have : (decide (0 ≤ m) && decide (m < (k : Int))) = false := by simp; omega
      unfold fits; rw [this]; simp
    rw [hf]
    refine (rput_out R D S k sum g parts' W h.ref m _ h0).mono ?_
    rintro e W' ⟨rfl, rfl⟩
    exact ⟨rfl, h, Fr.refl _ _⟩
  · obtain ⟨n, rfl⟩ := Int.eq_ofNat_of_zero_le (show 0 ≤ m by omega)
    have hn : n < k := by omega
    have d1 : decide (0 ≤ (n : Int)) = true := by simp
    have d2 : decide ((n : Int) < (k : Int)) = true := by simpa using hn
    by_cases hg : g n = true
    · have hf : fits k g n pl.length = false := by unfold fits; rw [Int.toNat_natCast, hg]; simp
      rw [hf]
      refine (rput_had R D S k sum g parts' W h.ref n _ hn hg).mono ?_
      rintro e W' ⟨rfl, rfl⟩
      exact ⟨rfl, h, Fr.refl _ _⟩
    · have hg' : g n = false := by simpa using hg
      by_cases hx : pl.length < 1 ∨ 64 < pl.length ∨ (n < k - 1 ∧ pl.length < 64)
      · have hf : fits k g n pl.length = false := by
          cases hb : fits k g n pl.length with
          | false => rfl
          | true => unfold fits at hb; simp at hb; omega
        rw [hf]
        refine (rput_bad R D S k sum g parts' W h.ref n _ hk hn hg' (by rw [strOf_size]; exact hx)).mono ?_
        rintro e W' ⟨rfl, rfl⟩
        exact ⟨rfl, h, Fr.refl _ _⟩
      · have hf : fits k g n pl.length = true := by
          unfold fits
          rw [Int.toNat_natCast, hg', d1, d2]
          simp
          omega
        rw [hf]
        refine (rput_in R D S k sum g parts' W h.ref n pl hk hn hg' (by omega) (by omega) (by omega)).mono ?_
        rintro e W' ⟨rfl, hr, hF⟩
        have hd := h.d
        have hs := h.s
        obtain ⟨s, hgd, h1, h2, h3⟩ := h.prog
        refine ⟨rfl, ⟨h.below.trans (hF.below (Nat.le_trans h.size h.below.size) (fun j hj => by omega)), h.size, ⟨s, hgd.kind hF (by omega) (by omega) (by omega) (fun j hj => ?_), h1, h2, h3⟩, ?_, h.r, h.d, h.s⟩, hF⟩
        · rcases hj with rfl | rfl
          · exact ⟨_, _, h.ref.came, by decide⟩
          · exact ⟨_, _, h.ref.strs, by decide⟩
        · unfold putG withG
          rw [if_pos rfl, if_pos rfl, Int.toNat_natCast]
          exact hr
end Go.Proofs.YtkoplojnfijllaaDoor.chunk
