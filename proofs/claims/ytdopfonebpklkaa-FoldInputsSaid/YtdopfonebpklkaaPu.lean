/- A frame in numbers: ships are pushed and shoot, shots fly. -/
import Derived.Test.YtdopfonebpklkaaSs
import Derived.Test.YtdopfonebpklkaaAm
namespace Go.Proofs.Ytdopfonebpklkaa.game
open Go.ChangeShapes Go.WideShapes Go.ChangeAt Go.RowKit dice

structure Inp where
  x : Int
  y : Int
  b : Int
def inpL (i : Inp) : List Value := [.int .i8 i.x, .int .i8 i.y, .int .u8 i.b]
structure Inp.ok (i : Inp) : Prop where
  x0 : -128 ≤ i.x
  x1 : i.x ≤ 127
  y0 : -128 ≤ i.y
  y1 : i.y ≤ 127
  b0 : 0 ≤ i.b
  b1 : i.b ≤ 255
def zInp : Inp := ⟨0, 0, 0⟩
theorem zInp_ok : zInp.ok := ⟨by decide, by decide, by decide, by decide, by decide, by decide⟩
def tameI (a : Int) : Int := max a (-127)
def pushT (t : Shp) (i : Inp) : Shp :=
  ⟨t.on, mv t.x (pushI t.vx (tameI i.x)), mv t.y (pushI t.vy (tameI i.y)), pushI t.vx (tameI i.x), pushI t.vy (tameI i.y), t.cool, t.score⟩
def aimX (x y : Int) : Int := if x = 0 ∧ y = 0 then 393216 else sideI x
def sailShot (k : Nat) (t : Shp) (i : Inp) : Sht := ⟨k, t.x, t.y, aimX (tameI i.x) (tameI i.y), sideI (tameI i.y), 24⟩
structure SailR where
  t : Shp
  out : List Sht
def shoots (t : Shp) (i : Inp) (out : List Sht) : Bool := !decide (0 < t.cool) && (i.b % 2 == 1) && decide (out.length < 32)
def sailF (k : Nat) (t : Shp) (i : Inp) (out : List Sht) : SailR :=
  if 0 < t.cool then ⟨{ pushT t i with cool := t.cool - 1 }, out⟩
  else if shoots t i out = true then ⟨{ pushT t i with cool := 10 }, out ++ [sailShot k (pushT t i) i]⟩
  else ⟨pushT t i, out⟩
structure SailA where
  ships : List Shp
  out : List Sht
def hdI : List Inp → Inp
  | [] => zInp
  | i :: _ => i
def sailL : Nat → List Shp → List Inp → List Sht → SailA
  | _, [], _, out => ⟨[], out⟩
  | k, t :: S, I, out =>
    let r : SailR := if t.on = true then sailF k t (hdI I) out else ⟨t, out⟩
    ⟨r.t :: (sailL (k + 1) S I.tail r.out).ships, (sailL (k + 1) S I.tail r.out).out⟩
/-- A game in numbers. -/
structure Gme where
  fr : Int
  d : Int
  S : List Shp
  L : List Sht
structure Gme.ok (g : Gme) : Prop where
  f0 : 0 ≤ g.fr
  f1 : g.fr ≤ 1048576
  s8 : g.S.length = 8
  ships : ∀ t ∈ g.S, t.ok
  shots : ∀ s ∈ g.L, OkShot s
  most : g.L.length ≤ 32
def stepG (g : Gme) (I : List Inp) : Gme :=
  let q := sailL 0 g.S I g.L
  let f := flyAll g.d q.ships q.out
  ⟨g.fr + 1, f.dice, f.ships, f.out⟩
theorem sideI_bd (a : Int) : -393216 ≤ sideI a ∧ sideI a ≤ 393216 := by unfold sideI; split <;> (try split) <;> omega
theorem aimX_bd (a b : Int) : -393216 ≤ aimX a b ∧ aimX a b ≤ 393216 := by
  unfold aimX
  split
  · omega
  · exact sideI_bd a
theorem pushT_ok {t : Shp} (i : Inp) (h : t.ok) (hon : t.on = true) : (pushT t i).ok := by
  have h1 := pushI_bd t.vx (tameI i.x)
  have h2 := pushI_bd t.vy (tameI i.y)
  have h3 := mv_bd t.x (pushI t.vx (tameI i.x))
  have h4 := mv_bd t.y (pushI t.vy (tameI i.y))
  unfold Shp.ok OkShip pushT at *
  rw [if_pos hon] at *
  dsimp only
  omega
theorem sailF_ok {k : Nat} {t : Shp} {i : Inp} {out : List Sht} (hk : k < 8) (h : t.ok) (hon : t.on = true) (ho : ∀ s ∈ out, OkShot s) (hm : out.length ≤ 32) :
    (sailF k t i out).t.ok ∧ (sailF k t i out).t.on = true ∧ (∀ s ∈ (sailF k t i out).out, OkShot s) ∧ (sailF k t i out).out.length ≤ 32 := by
  have hp := pushT_ok i h hon
  have hc : 0 ≤ t.cool ∧ t.cool ≤ 10 := by
    unfold Shp.ok OkShip at h
    rw [if_pos hon] at h
    omega
  have hpt : (pushT t i).on = true := hon
  unfold sailF
  split
  · rename_i h0
    refine ⟨?_, hon, ho, hm⟩
    unfold Shp.ok OkShip at *
    rw [if_pos hpt] at hp ⊢
    dsimp only
    omega
  · split
    · rename_i h0 h1
      have hlt : out.length < 32 := by
        unfold shoots at h1
        simp at h1
        exact h1.2
      refine ⟨?_, hon, fun s hs => ?_, by simp; omega⟩
      · unfold Shp.ok OkShip at *
        rw [if_pos hpt] at hp ⊢
        dsimp only
        omega
      · rcases List.mem_append.1 hs with hs | hs
        · exact ho s hs
        · rw [List.mem_singleton] at hs
          subst hs
          have a1 := aimX_bd (tameI i.x) (tameI i.y)
          have a2 := sideI_bd (tameI i.y)
          unfold Shp.ok OkShip at hp
          rw [if_pos hpt] at hp
          exact ⟨by unfold sailShot; dsimp only; omega, by unfold sailShot; dsimp only; omega, hp.1, hp.2.1, hp.2.2.1, hp.2.2.2.1, a1.1, a1.2, a2.1, a2.2, by unfold sailShot; dsimp only; omega, by unfold sailShot; dsimp only; omega⟩
    · exact ⟨hp, hon, ho, hm⟩
theorem sailL_ok : ∀ (S : List Shp) (k : Nat) (I : List Inp) (out : List Sht), k + S.length ≤ 8 → (∀ t ∈ S, t.ok) → (∀ s ∈ out, OkShot s) → out.length ≤ 32 →
    (sailL k S I out).ships.length = S.length ∧ (∀ t ∈ (sailL k S I out).ships, t.ok) ∧ (∀ s ∈ (sailL k S I out).out, OkShot s) ∧ (sailL k S I out).out.length ≤ 32
  | [], _, _, _, _, h, ho, hm => ⟨rfl, h, ho, hm⟩
  | t :: S, k, I, out, hk, h, ho, hm => by
    rw [List.length_cons] at hk
    have ht := h t (List.mem_cons_self ..)
    have hS := fun x hx => h x (List.mem_cons_of_mem t hx)
    unfold sailL
    by_cases hon : t.on = true
    · obtain ⟨a1, _, a3, a4⟩ := sailF_ok (k := k) (i := hdI I) (by omega) ht hon ho hm
      obtain ⟨b1, b2, b3, b4⟩ := sailL_ok S (k + 1) I.tail (sailF k t (hdI I) out).out (by omega) hS a3 a4
      simp only [if_pos hon]
      refine ⟨by rw [List.length_cons, b1, List.length_cons], fun x hx => ?_, b3, b4⟩
      rcases List.mem_cons.1 hx with rfl | hx
      · exact a1
      · exact b2 x hx
    · obtain ⟨b1, b2, b3, b4⟩ := sailL_ok S (k + 1) I.tail out (by omega) hS ho hm
      simp only [if_neg hon]
      refine ⟨by rw [List.length_cons, b1, List.length_cons], fun x hx => ?_, b3, b4⟩
      rcases List.mem_cons.1 hx with rfl | hx
      · exact ht
      · exact b2 x hx
theorem flown_ok {s : Sht} (h : OkShot s) (hl : (flown s).left ≠ 0) : OkShot (flown s) := by
  have h1 := mv_bd s.x s.vx
  have h2 := mv_bd s.y s.vy
  have h3 := h.l0
  have h4 := h.l1
  unfold flown at *
  dsimp only at hl
  exact ⟨h.o0, h.o1, h1.1, h1.2, h2.1, h2.2, h.u0, h.u1, h.v0, h.v1, by dsimp only; omega, by dsimp only; omega⟩
theorem flyAll_ok : ∀ (L : List Sht) (d : Int) (S : List Shp), S.length = 8 → (∀ t ∈ S, t.ok) → (∀ s ∈ L, OkShot s) →
    (flyAll d S L).ships.length = 8 ∧ (∀ t ∈ (flyAll d S L).ships, t.ok) ∧ (∀ s ∈ (flyAll d S L).out, OkShot s) ∧ (flyAll d S L).out.length ≤ L.length
  | [], _, _, h8, h, _ => ⟨h8, h, (fun _ hs => absurd hs (by simp [flyAll])), Nat.le_refl _⟩
  | s :: L, d, S, h8, h, hL => by
    obtain ⟨a1, a2⟩ := flyF_keep d S s h8 h
    obtain ⟨b1, b2, b3, b4⟩ := flyAll_ok L (flyF d S s).dice (flyF d S s).ships a1 a2 (fun x hx => hL x (List.mem_cons_of_mem _ hx))
    unfold flyAll
    by_cases hst : (flyF d S s).stays = true
    · have hl : (flown s).left ≠ 0 := fun e => by
        unfold flyF at hst
        rw [if_pos e] at hst
        cases hst
      simp only [if_pos hst]
      refine ⟨b1, b2, fun x hx => ?_, by simp; omega⟩
      rcases List.mem_append.1 hx with hx | hx
      · rw [List.mem_singleton] at hx
        subst hx
        exact flown_ok (hL s (List.mem_cons_self ..)) hl
      · exact b3 x hx
    · simp only [if_neg hst]
      exact ⟨b1, b2, fun x hx => b3 x (by simpa using hx), by simp; omega⟩
theorem stepG_ok {g : Gme} (I : List Inp) (h : g.ok) (hf : g.fr < 1048576) : (stepG g I).ok := by
  obtain ⟨a1, a2, a3, a4⟩ := sailL_ok g.S 0 I g.L (by rw [h.s8]; omega) h.ships h.shots h.most
  obtain ⟨b1, b2, b3, b4⟩ := flyAll_ok (sailL 0 g.S I g.L).out g.d (sailL 0 g.S I g.L).ships (by rw [a1, h.s8]) a2 a3
  have := h.f0
  exact ⟨by unfold stepG; dsimp only; omega, by unfold stepG; dsimp only; omega, b1, b2, b3, by unfold stepG; dsimp only; omega⟩
end Go.Proofs.Ytdopfonebpklkaa.game
