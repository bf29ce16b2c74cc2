/- The strict reading: what is read is what was put; what the reference's reader knows of the whole. -/
import Derived.Test.YtijnfeigoggaeaaKr
namespace Go.Proofs.Ytijnfeigoggaeaa.game
open Go.ChangeShapes Go.WideShapes Go.ChangeAt Go.RowKit
set_option maxRecDepth 100000

theorem lo32_sg32' {v : Nat} (h : v < 256 ^ 4) : lo32 (sg32 v) = v := lo32_sg32 v h
theorem rdShip_back {b r : List UInt8} {t : Shp} (h : rdShip true b = some (t, r)) : b = shipB t ++ r := by
  unfold rdShip at h
  simp only [Option.bind_eq_bind, Option.bind_eq_some_iff] at h
  obtain ⟨⟨f, b0⟩, hf, h⟩ := h
  dsimp only at h
  obtain ⟨e0, _⟩ := rd_back hf
  split at h
  · rename_i h1
    subst h1
    simp only [Option.bind_eq_some_iff] at h
    obtain ⟨⟨x, b1⟩, hx, ⟨y, b2⟩, hy, ⟨u, b3⟩, hu, ⟨v, b4⟩, hv, ⟨c, b5⟩, hc, ⟨s, b6⟩, hs, h⟩ := h
    simp only [Option.some.injEq, Prod.mk.injEq] at h
    obtain ⟨rfl, rfl⟩ := h
    obtain ⟨e1, l1⟩ := rd_back hx
    obtain ⟨e2, l2⟩ := rd_back hy
    obtain ⟨e3, l3⟩ := rd_back hu
    obtain ⟨e4, l4⟩ := rd_back hv
    obtain ⟨e5, _⟩ := rd_back hc
    obtain ⟨e6, _⟩ := rd_back hs
    dsimp only at *
    simp only [shipB, if_true, lo32_sg32' l1, lo32_sg32' l2, lo32_sg32' l3, lo32_sg32' l4, Int.toNat_natCast, List.append_assoc]
    rw [e0, e1, e2, e3, e4, e5, e6]
  · rename_i h1
    split at h
    · cases h
    · rename_i h2
      simp only [Option.some.injEq, Prod.mk.injEq] at h
      obtain ⟨rfl, rfl⟩ := h
      have h0 : f = 0 := by
        have : ¬ 1 < f := fun e => h2 ⟨trivial, e⟩
        omega
      rw [e0, h0]
      rfl
theorem rdShot_back {b r : List UInt8} {t : Sht} (h : rdShot b = some (t, r)) : b = shotB t ++ r := by
  unfold rdShot at h
  simp only [Option.bind_eq_bind, Option.bind_eq_some_iff] at h
  obtain ⟨⟨o, b0⟩, ho, ⟨x, b1⟩, hx, ⟨y, b2⟩, hy, ⟨u, b3⟩, hu, ⟨v, b4⟩, hv, ⟨l, b5⟩, hl, h⟩ := h
  simp only [Option.some.injEq, Prod.mk.injEq] at h
  obtain ⟨rfl, rfl⟩ := h
  obtain ⟨e0, _⟩ := rd_back ho
  obtain ⟨e1, l1⟩ := rd_back hx
  obtain ⟨e2, l2⟩ := rd_back hy
  obtain ⟨e3, l3⟩ := rd_back hu
  obtain ⟨e4, l4⟩ := rd_back hv
  obtain ⟨e5, _⟩ := rd_back hl
  dsimp only at *
  simp only [shotB, lo32_sg32' l1, lo32_sg32' l2, lo32_sg32' l3, lo32_sg32' l4, Int.toNat_natCast, List.append_assoc]
  rw [e0, e1, e2, e3, e4, e5]
theorem rdSeat_back {b r : List UInt8} {t : Seat} (h : rdSeat b = some (t, r)) : b = seatB t ++ r := by
  unfold rdSeat at h
  simp only [Option.bind_eq_bind, Option.bind_eq_some_iff] at h
  obtain ⟨⟨p, b0⟩, hp, ⟨g, b1⟩, hg, h⟩ := h
  simp only [Option.some.injEq, Prod.mk.injEq] at h
  obtain ⟨rfl, rfl⟩ := h
  obtain ⟨e0, _⟩ := rd_back hp
  obtain ⟨e1, _⟩ := rd_back hg
  dsimp only at *
  simp only [seatB, Int.toNat_natCast, List.append_assoc, Int.sub_add_cancel]
  rw [e0, e1]
theorem rdMany_back {α β : Type} {one : List UInt8 → Option (α × List UInt8)} {put : α → List UInt8} {k : List α → List UInt8 → Option β} (hone : ∀ b t b', one b = some (t, b') → b = put t ++ b') :
    ∀ (n : Nat) (done : List α) (b : List UInt8) (res : β), rdMany one k n done b = some res → ∃ l b', k (done ++ l) b' = some res ∧ l.length = n ∧ b = l.flatMap put ++ b'
  | 0, done, b, res, h => ⟨[], b, by simpa [rdMany] using h, rfl, by simp⟩
  | n + 1, done, b, res, h => by
    unfold rdMany at h
    cases ho : one b with
    | none => rw [ho] at h; cases h
    | some x =>
      obtain ⟨t, b'⟩ := x
      rw [ho] at h
      obtain ⟨l, b2, h1, h2, h3⟩ := rdMany_back hone n (done ++ [t]) b' res h
      exact ⟨t :: l, b2, by simpa using h1, by simp [h2], by rw [hone b t b' ho, h3]; simp⟩
theorem parse_back {b r : List UInt8} {s : Ste} (h : parse true b = some (s, r)) : b = img s ++ r := by
  unfold parse at h
  simp only [Option.bind_eq_bind, Option.bind_eq_some_iff] at h
  obtain ⟨⟨fr, b0⟩, hf, ⟨d, b1⟩, hd, h⟩ := h
  dsimp only at h
  obtain ⟨S, b2, h, _, eS⟩ := rdMany_back (put := shipB) (fun b t b' => rdShip_back) 8 [] b1 _ h
  unfold rdMid at h
  simp only [Option.bind_eq_bind, Option.bind_eq_some_iff] at h
  obtain ⟨⟨n, b3⟩, hn, h⟩ := h
  dsimp only at h
  obtain ⟨L, b4, h, hL, eL⟩ := rdMany_back (put := shotB) (fun b t b' => rdShot_back) n [] b3 _ h
  unfold rdEnd at h
  simp only [Option.bind_eq_bind, Option.bind_eq_some_iff] at h
  obtain ⟨⟨v, b5⟩, hv, h⟩ := h
  dsimp only at h
  obtain ⟨T, b6, h, _, eT⟩ := rdMany_back (put := seatB) (fun b t b' => rdSeat_back) 8 [] b5 _ h
  simp only [Option.some.injEq, Prod.mk.injEq, List.nil_append] at h
  obtain ⟨rfl, rfl⟩ := h
  obtain ⟨e1, _⟩ := rd_back hf
  obtain ⟨e2, _⟩ := rd_back hd
  obtain ⟨e3, _⟩ := rd_back hn
  obtain ⟨e4, _⟩ := rd_back hv
  dsimp only at *
  simp only [img, Int.toNat_natCast, List.append_assoc, hL]
  rw [e1, e2, eS, e3, eL, e4, eT]
theorem getF_strict {b : List UInt8} {s : Ste} (h : getF b = some s) : parse true b = some (s, []) := by
  obtain ⟨hf, _, he⟩ := getF_some h
  have := parse_put true s [] hf
  rw [List.append_nil, he] at this
  exact this
theorem strict_getF {b : List UInt8} {s : Ste} (h : parse true b = some (s, [])) (hm : mayS s = true) : getF b = some s := by
  have e := parse_back h
  rw [List.append_nil] at e
  rw [e]
  exact getF_img (parse_fits h) hm

theorem At.start (b : List UInt8) : At (parse true b) (parse true) (false, b) := by simp [At]
theorem At.congr {α : Type} {R : Option α} {K K' : List UInt8 → Option α} {q : Rst} (h : At R K q) (hK : ∀ S, K S = K' S) : At R K' q := by
  unfold At at *
  split
  · rename_i hq; rw [if_pos hq] at h; exact h
  · rename_i hq; rw [if_neg hq, hK] at h; exact h
theorem At.bad {α : Type} {R : Option α} {K K' : List UInt8 → Option α} {q : Rst} (h : At R K q) (hq : q.1 = true) : At R K' q := by
  unfold At at *
  rw [if_pos hq] at *
  exact h
theorem At.head {R : Option (Ste × List UInt8)} {q : Rst} (h : At R (parse true) q) : At R (rdMany (rdShip true) (rdMid (rv 4 q) (rv 8 (rn 4 q))) 8 []) (rn 8 (rn 4 q)) :=
  (h.read (k := 4) (fun _ => rfl)).read (k := 8) (fun _ => rfl)
theorem At.mid {R : Option (Ste × List UInt8)} {fr d : Nat} {S : List Shp} {q : Rst} (h : At R (rdMid fr d S) q) : At R (rdMany rdShot (fun L b => rdEnd ⟨fr, d, S, L⟩ b) (rv 1 q) []) (rn 1 q) :=
  h.read (k := 1) (fun _ => rfl)
theorem At.tail {R : Option (Ste × List UInt8)} {g : Gme} {q : Rst} (h : At R (rdEnd g) q) : At R (rdMany rdSeat (fun T b => some (⟨g, rv 4 q, T⟩, b)) 8 []) (rn 4 q) :=
  h.read (k := 4) (fun _ => rfl)
theorem many_bind {α β : Type} (one : List UInt8 → Option (α × List UInt8)) (k : List α → List UInt8 → Option β) (n : Nat) (done : List α) (b : List UInt8) : rdMany one k (n + 1) done b = (one b).bind fun p => rdMany one k n (done ++ [p.1]) p.2 := by
  rw [rdMany]
  cases one b <;> rfl
theorem At.ship1 {α : Type} {R : Option α} {K : List Shp → List UInt8 → Option α} {n : Nat} {D : List Shp} {q : Rst} (h : At R (rdMany (rdShip true) K (n + 1) D) q) (hf : rv 1 q = 1) :
    At R (rdMany (rdShip true) K n (D ++ [⟨true, sg32 (rv 4 (rn 1 q)), sg32 (rv 4 (rn 4 (rn 1 q))), sg32 (rv 4 (rn 4 (rn 4 (rn 1 q)))), sg32 (rv 4 (rn 4 (rn 4 (rn 4 (rn 1 q))))), rv 1 (rn 4 (rn 4 (rn 4 (rn 4 (rn 1 q))))), rv 4 (rn 1 (rn 4 (rn 4 (rn 4 (rn 4 (rn 1 q))))))⟩]))
      (rn 4 (rn 1 (rn 4 (rn 4 (rn 4 (rn 4 (rn 1 q))))))) := by
  have h1 := h.read (k := 1) (f := fun p => (if p.1 = 1 then do
      let (x, b) ← rd 4 p.2
      let (y, b) ← rd 4 b
      let (u, b) ← rd 4 b
      let (v, b) ← rd 4 b
      let (c, b) ← rd 1 b
      let (s, b) ← rd 4 b
      some ((⟨true, sg32 x, sg32 y, sg32 u, sg32 v, c, s⟩ : Shp), b)
    else if true = true ∧ 1 < p.1 then none else some (zShp, p.2)).bind fun p => rdMany (rdShip true) K n (D ++ [p.1]) p.2) (fun S => by rw [many_bind, rdShip]; simp only [Option.bind_eq_bind, Option.bind_assoc])
  rw [hf] at h1
  simp only [if_true, Option.bind_eq_bind, Option.bind_assoc, Option.bind_some] at h1
  have g0 := h1.read (k := 4) (fun _ => rfl)
  dsimp only at g0
  have g1 := g0.read (k := 4) (fun _ => rfl)
  dsimp only at g1
  have g2 := g1.read (k := 4) (fun _ => rfl)
  dsimp only at g2
  have g3 := g2.read (k := 4) (fun _ => rfl)
  dsimp only at g3
  have g4 := g3.read (k := 1) (fun _ => rfl)
  dsimp only at g4
  have g5 := g4.read (k := 4) (fun _ => rfl)
  dsimp only at g5
  exact g5
theorem At.ship0 {α : Type} {R : Option α} {K : List Shp → List UInt8 → Option α} {n : Nat} {D : List Shp} {q : Rst} (h : At R (rdMany (rdShip true) K (n + 1) D) q) (hf : ¬ rv 1 q = 1) :
    At R (rdMany (rdShip true) K n (D ++ [zShp])) ((rn 1 q).1 || decide (1 < rv 1 q), (rn 1 q).2) := by
  have h1 := h.read (k := 1) (f := fun p => (if p.1 = 1 then do
      let (x, b) ← rd 4 p.2
      let (y, b) ← rd 4 b
      let (u, b) ← rd 4 b
      let (v, b) ← rd 4 b
      let (c, b) ← rd 1 b
      let (s, b) ← rd 4 b
      some ((⟨true, sg32 x, sg32 y, sg32 u, sg32 v, c, s⟩ : Shp), b)
    else if true = true ∧ 1 < p.1 then none else some (zShp, p.2)).bind fun p => rdMany (rdShip true) K n (D ++ [p.1]) p.2) (fun S => by rw [many_bind, rdShip]; simp only [Option.bind_eq_bind, Option.bind_assoc])
  simp only [if_neg hf, true_and] at h1
  generalize rv 1 q = f at *
  generalize rn 1 q = z at *
  obtain ⟨b, S⟩ := z
  unfold At at h1 ⊢
  dsimp only at *
  cases b with
  | true => simpa using h1
  | false =>
    by_cases hl : 1 < f
    · simpa [hl] using h1
    · simpa [hl] using h1
theorem At.shot {α : Type} {R : Option α} {K : List Sht → List UInt8 → Option α} {n : Nat} {D : List Sht} {q : Rst} (h : At R (rdMany rdShot K (n + 1) D) q) :
    At R (rdMany rdShot K n (D ++ [⟨rv 1 q, sg32 (rv 4 (rn 1 q)), sg32 (rv 4 (rn 4 (rn 1 q))), sg32 (rv 4 (rn 4 (rn 4 (rn 1 q)))), sg32 (rv 4 (rn 4 (rn 4 (rn 4 (rn 1 q))))), rv 1 (rn 4 (rn 4 (rn 4 (rn 4 (rn 1 q)))))⟩]))
      (rn 1 (rn 4 (rn 4 (rn 4 (rn 4 (rn 1 q)))))) := by
  have h0 := h.congr (fun S => many_bind rdShot K n D S)
  simp only [rdShot, Option.bind_eq_bind, Option.bind_assoc, Option.bind_some] at h0
  have g0 := h0.read (k := 1) (fun _ => rfl)
  dsimp only at g0
  have g1 := g0.read (k := 4) (fun _ => rfl)
  dsimp only at g1
  have g2 := g1.read (k := 4) (fun _ => rfl)
  dsimp only at g2
  have g3 := g2.read (k := 4) (fun _ => rfl)
  dsimp only at g3
  have g4 := g3.read (k := 4) (fun _ => rfl)
  dsimp only at g4
  have g5 := g4.read (k := 1) (fun _ => rfl)
  dsimp only at g5
  exact g5
theorem At.seat {α : Type} {R : Option α} {K : List Seat → List UInt8 → Option α} {n : Nat} {D : List Seat} {q : Rst} (h : At R (rdMany rdSeat K (n + 1) D) q) :
    At R (rdMany rdSeat K n (D ++ [⟨(rv 1 q : Int) - 1, rv 2 (rn 1 q)⟩])) (rn 2 (rn 1 q)) := by
  have h0 := h.congr (fun S => many_bind rdSeat K n D S)
  simp only [rdSeat, Option.bind_eq_bind, Option.bind_assoc, Option.bind_some] at h0
  have g0 := h0.read (k := 1) (fun _ => rfl)
  dsimp only at g0
  have g1 := g0.read (k := 2) (fun _ => rfl)
  dsimp only at g1
  exact g1
/-- Read on to the end: it is what is told. -/
theorem At.yes {b : List UInt8} {s : Ste} {q : Rst} (h : At (parse true b) (fun S => some (s, S)) q) (hq : (!q.1 && q.2.isEmpty) = true) : getF b = if mayS s = true then some s else none := by
  obtain ⟨c, S⟩ := q
  cases c with
  | true => simp at hq
  | false =>
    have hS : S = [] := by simpa using hq
    subst hS
    unfold At at h
    simp only [Bool.false_eq_true, if_false] at h
    split
    · rename_i hm
      exact strict_getF h hm
    · rename_i hm
      cases hg : getF b with
      | none => rfl
      | some u =>
        have h2 := getF_strict hg
        rw [h] at h2
        simp only [Option.some.injEq, Prod.mk.injEq, and_true] at h2
        subst h2
        exact absurd (getF_some hg).2.1 hm
theorem At.no {b : List UInt8} {s : Ste} {q : Rst} (h : At (parse true b) (fun S => some (s, S)) q) (hq : (!q.1 && q.2.isEmpty) = false) : getF b = none := by
  cases hg : getF b with
  | none => rfl
  | some u =>
    exfalso
    have h2 := getF_strict hg
    obtain ⟨c, S⟩ := q
    unfold At at h
    rw [h2] at h
    cases c with
    | true => simp at h
    | false =>
      simp at h hq
      first | exact hq h.2.symm | exact hq h.2 | simp_all
end Go.Proofs.Ytijnfeigoggaeaa.game
