/- One ship alone, in numbers. -/
import Derived.Test.YtijnfeigoggaeaaHp
namespace Go.Proofs.Ytijnfeigoggaeaa.game
open Go.ChangeShapes Go.WideShapes Go.ChangeAt Go.RowKit dice

theorem sailL_off : ∀ (S : List Shp) (j : Nat) (I : List Inp) (out : List Sht), (∀ t ∈ S, t.on = false) → sailL j S I out = ⟨S, out⟩
  | [], _, _, _, _ => rfl
  | t :: S, j, I, out, h => by
    have h0 := h t (List.mem_cons_self ..)
    unfold sailL
    simp only [h0, Bool.false_eq_true, if_false, sailL_off S (j + 1) I.tail out (fun x hx => h x (List.mem_cons_of_mem _ hx))]
theorem sailL_one : ∀ (S : List Shp) (k j : Nat) (I : List Inp) (out : List Sht) (t : Shp) (i : Inp), S[k]? = some t → t.on = true → (∀ m u, m ≠ k → S[m]? = some u → u.on = false) → hdI (I.drop k) = i →
    sailL j S I out = ⟨S.set k (sailF (j + k) t i out).t, (sailF (j + k) t i out).out⟩
  | [], _, _, _, _, _, _, h, _, _, _ => by simp at h
  | u :: S, 0, j, I, out, t, i, h, hon, ho, hi => by
    simp only [List.getElem?_cons_zero, Option.some.injEq] at h
    subst h
    have hoff : ∀ x ∈ S, x.on = false := fun x hx => by
      obtain ⟨m, hm⟩ := List.mem_iff_getElem?.1 hx
      exact ho (m + 1) x (by omega) (by simpa using hm)
    rw [List.drop_zero] at hi
    unfold sailL
    simp only [if_pos hon, hi, sailL_off S (j + 1) I.tail _ hoff, Nat.add_zero, List.set_cons_zero]
  | u :: S, k + 1, j, I, out, t, i, h, hon, ho, hi => by
    have hu : u.on = false := ho 0 u (by omega) rfl
    have ih := sailL_one S k (j + 1) I.tail out t i (by simpa using h) hon (fun m x hm hx => ho (m + 1) x (by omega) (by simpa using hx)) (by
      cases I with
      | nil => simpa using hi
      | cons a I => simpa using hi)
    unfold sailL
    simp only [hu, Bool.false_eq_true, if_false, ih, List.set_cons_succ]
    rw [show j + 1 + k = j + (k + 1) by omega]
/-- The shots behind a frame in which nobody is hit. -/
def keepL (L : List Sht) : List Sht := (L.map flown).filter fun s => s.left != 0
theorem flyF_alone (d : Int) (S : List Shp) (s : Sht) (k : Nat) (hk : (s.owner : Int) = k) (ho : ∀ m, m ≠ k → (S.getD m zShp).on = false) : flyF d S s = ⟨(flown s).left != 0, d, S⟩ := by
  unfold flyF
  by_cases hl : (flown s).left = 0
  · rw [if_pos hl, hl]; rfl
  · have hn : firstHit (flown s) S = none := by
      unfold firstHit
      rw [List.find?_eq_none]
      intro j _
      have : passes (flown s) j (S.getD j zShp) = true := by
        unfold passes
        by_cases hj : j = k
        · rw [show (flown s).owner = s.owner from rfl, hk, hj]; simp
        · rw [ho j hj]; rfl
      rw [this]; simp
    rw [if_neg hl, hn]
    simp [hl]
theorem flyAll_alone : ∀ (L : List Sht) (d : Int) (S : List Shp) (k : Nat), (∀ s ∈ L, (s.owner : Int) = k) → (∀ m, m ≠ k → (S.getD m zShp).on = false) → flyAll d S L = ⟨d, S, keepL L⟩
  | [], _, _, _, _, _ => rfl
  | s :: L, d, S, k, hk, ho => by
    have h0 := flyF_alone d S s k (hk s (List.mem_cons_self ..)) ho
    have ih := flyAll_alone L d S k (fun x hx => hk x (List.mem_cons_of_mem _ hx)) ho
    unfold flyAll
    simp only [h0, ih]
    unfold keepL
    rw [List.map_cons, List.filter_cons]
    by_cases hl : ((flown s).left != 0) = true
    · simp only [if_pos hl, List.singleton_append]
    · simp only [if_neg hl, List.nil_append]
/-- What holds of the shots of one ship alone. -/
structure InvA (k : Nat) (cool : Int) (made : Nat) (L : List Sht) : Prop where
  ok : ∀ s ∈ L, OkShot s
  own : ∀ s ∈ L, s.owner = k
  left : ∀ s ∈ L, s.left ≤ 13 + cool
  far : L.Pairwise fun a b => a.left + 11 ≤ b.left
  few : L.length ≤ made
theorem InvA.three {k : Nat} {cool : Int} {made : Nat} {L : List Sht} (h : InvA k cool made L) (hc : cool ≤ 10) : L.length ≤ 3 := by
  match L, h with
  | [], _ => simp
  | [_], _ => simp
  | [_, _], _ => simp
  | [_, _, _], _ => simp
  | a :: b :: c :: d :: L, h =>
    have hf := h.far
    simp only [List.pairwise_cons] at hf
    have h1 := hf.1 b (by simp)
    have h2 := hf.2.1 c (by simp)
    have h3 := hf.2.2.1 d (by simp)
    have h4 := h.left d (by simp)
    have h5 := (h.ok a (by simp)).l0
    omega
theorem keepL_mem {L : List Sht} {s : Sht} (h : s ∈ keepL L) : ∃ u ∈ L, s = flown u ∧ (flown u).left ≠ 0 := by
  unfold keepL at h
  obtain ⟨h1, h2⟩ := List.mem_filter.1 h
  obtain ⟨u, hu, rfl⟩ := List.mem_map.1 h1
  exact ⟨u, hu, rfl, by simpa using h2⟩
theorem keepL_len (L : List Sht) : (keepL L).length ≤ L.length := by
  unfold keepL
  have := List.length_filter_le (fun s : Sht => s.left != 0) (L.map flown)
  simpa using this
theorem keepL_inv {k : Nat} {c' : Int} {m' : Nat} {L : List Sht} (ok : ∀ s ∈ L, OkShot s) (own : ∀ s ∈ L, s.owner = k) (left : ∀ s ∈ L, s.left - 1 ≤ 13 + c') (far : L.Pairwise fun a b => a.left + 11 ≤ b.left) (few : L.length ≤ m') : InvA k c' m' (keepL L) := by
  refine ⟨fun s hs => ?_, fun s hs => ?_, fun s hs => ?_, ?_, Nat.le_trans (keepL_len L) few⟩
  · obtain ⟨u, hu, rfl, hl⟩ := keepL_mem hs
    exact flown_ok (ok u hu) hl
  · obtain ⟨u, hu, rfl, hl⟩ := keepL_mem hs
    exact own u hu
  · obtain ⟨u, hu, rfl, hl⟩ := keepL_mem hs
    exact left u hu
  · unfold keepL
    refine List.Pairwise.filter _ ?_
    rw [List.pairwise_map]
    refine far.imp fun {a b} h => ?_
    show a.left - 1 + 11 ≤ b.left - 1
    omega
def coolA (cool b : Int) : Int := if 0 < cool then cool - 1 else if b % 2 = 1 then 10 else cool
def madeA (cool b : Int) (made : Nat) : Nat := if 0 < cool then made else if b % 2 = 1 then made + 1 else made
theorem aloneP (fr d x y vx vy cool : Int) (made k : Nat) (L : List Sht) (i : Inp) (hk : k < 8) (hx : -127 ≤ i.x) (hy : -127 ≤ i.y) (hc0 : 0 ≤ cool) (hc1 : cool ≤ 10) (hI : InvA k cool made L) :
    ∃ L', stepG ⟨fr, d, zS.set k ⟨true, x, y, vx, vy, cool, 0⟩, L⟩ (zI.set k i) = ⟨fr + 1, d, zS.set k ⟨true, mv x (pushI vx i.x), mv y (pushI vy i.y), pushI vx i.x, pushI vy i.y, coolA cool i.b, 0⟩, L'⟩ ∧ InvA k (coolA cool i.b) (madeA cool i.b made) L' := by
  have h8 : zS.length = 8 := rfl
  have hI8 : zI.length = 8 := rfl
  have hget : ∀ t : Shp, (zS.set k t)[k]? = some t := fun t => List.getElem?_set_self (by rw [h8]; exact hk)
  have hoff : ∀ (t : Shp) (m : Nat) (u : Shp), m ≠ k → (zS.set k t)[m]? = some u → u.on = false := fun t m u hm hu => by
    rw [List.getElem?_set_ne (fun e => hm e.symm)] at hu
    rw [List.eq_of_mem_replicate (List.mem_of_getElem? hu)]; rfl
  have hoffD : ∀ (t : Shp) (m : Nat), m ≠ k → ((zS.set k t).getD m zShp).on = false := fun t m hm => by
    rw [List.getD_eq_getElem?_getD]
    cases h : (zS.set k t)[m]? with
    | none => rfl
    | some u => exact hoff t m u hm h
  have hi : hdI ((zI.set k i).drop k) = i := by
    have hl : k < (zI.set k i).length := by rw [List.length_set, hI8]; exact hk
    rw [List.drop_eq_getElem_cons hl]
    show (zI.set k i)[k] = i
    rw [List.getElem_set_self]
  have h3 := hI.three hc1
  have htx : tameI i.x = i.x := by unfold tameI; omega
  have hty : tameI i.y = i.y := by unfold tameI; omega
  have hsail := sailL_one (zS.set k ⟨true, x, y, vx, vy, cool, 0⟩) k 0 (zI.set k i) L ⟨true, x, y, vx, vy, cool, 0⟩ i (hget _) rfl (hoff _) hi
  rw [Nat.zero_add, List.set_set] at hsail
  have hp : pushT ⟨true, x, y, vx, vy, cool, 0⟩ i = ⟨true, mv x (pushI vx i.x), mv y (pushI vy i.y), pushI vx i.x, pushI vy i.y, cool, 0⟩ := by
    unfold pushT
    simp only [htx, hty]
  by_cases hc : 0 < cool
  · have hF : sailF k ⟨true, x, y, vx, vy, cool, 0⟩ i L = ⟨⟨true, mv x (pushI vx i.x), mv y (pushI vy i.y), pushI vx i.x, pushI vy i.y, cool - 1, 0⟩, L⟩ := by
      unfold sailF
      rw [if_pos hc, hp]
    rw [hF] at hsail
    refine ⟨keepL L, ?_, ?_⟩
    · unfold stepG
      dsimp only
      rw [hsail, flyAll_alone L d _ k hI.own (hoffD _)]
      simp only [coolA, if_pos hc]
    · simp only [coolA, madeA, if_pos hc]
      exact keepL_inv hI.ok hI.own (fun s hs => by have := hI.left s hs; omega) hI.far hI.few
  · have hz : cool = 0 := by omega
    subst hz
    by_cases hb : i.b % 2 = 1
    · have hs : shoots ⟨true, x, y, vx, vy, 0, 0⟩ i L = true := by
        unfold shoots
        rw [hb, decide_eq_true (show L.length < 32 by omega)]; rfl
      obtain ⟨n, hn⟩ : ∃ n : Sht, sailShot k (pushT ⟨true, x, y, vx, vy, 0, 0⟩ i) i = n := ⟨_, rfl⟩
      have hF : sailF k ⟨true, x, y, vx, vy, 0, 0⟩ i L = ⟨⟨true, mv x (pushI vx i.x), mv y (pushI vy i.y), pushI vx i.x, pushI vy i.y, 10, 0⟩, L ++ [n]⟩ := by
        unfold sailF
        rw [if_neg hc, if_pos hs, hn, hp]
      rw [hF] at hsail
      have hno : n.owner = k := by rw [← hn]; rfl
      have hnl : n.left = 24 := by rw [← hn]; rfl
      have hnok : OkShot n := by
        have a1 := aimX_bd (tameI i.x) (tameI i.y)
        have a2 := sideI_bd (tameI i.y)
        have m1 := mv_bd x (pushI vx i.x)
        have m2 := mv_bd y (pushI vy i.y)
        rw [← hn, hp]
        exact ⟨by unfold sailShot; dsimp only; omega, by unfold sailShot; dsimp only; omega, m1.1, m1.2, m2.1, m2.2, a1.1, a1.2, a2.1, a2.2, by unfold sailShot; dsimp only; omega, by unfold sailShot; dsimp only; omega⟩
      refine ⟨keepL (L ++ [n]), ?_, ?_⟩
      · unfold stepG
        dsimp only
        rw [hsail, flyAll_alone (L ++ [n]) d _ k (fun s hs => by
          rcases List.mem_append.1 hs with h | h
          · exact hI.own s h
          · rw [List.mem_singleton.1 h]; exact hno) (hoffD _)]
        simp only [coolA, if_neg hc, if_pos hb]
      · simp only [coolA, madeA, if_neg hc, if_pos hb]
        refine keepL_inv (fun s hs => ?_) (fun s hs => ?_) (fun s hs => ?_) ?_ (by simp; exact hI.few)
        · rcases List.mem_append.1 hs with h | h
          · exact hI.ok s h
          · rw [List.mem_singleton.1 h]; exact hnok
        · rcases List.mem_append.1 hs with h | h
          · exact hI.own s h
          · rw [List.mem_singleton.1 h]; exact hno
        · rcases List.mem_append.1 hs with h | h
          · have := hI.left s h; omega
          · rw [List.mem_singleton.1 h, hnl]; omega
        · rw [List.pairwise_append]
          refine ⟨hI.far, by simp, fun a ha b hb' => ?_⟩
          rw [List.mem_singleton.1 hb', hnl]
          have := hI.left a ha
          omega
    · have hs : shoots ⟨true, x, y, vx, vy, 0, 0⟩ i L = false := by
        unfold shoots
        rw [beq_eq_false_iff_ne.2 hb]; simp
      have hF : sailF k ⟨true, x, y, vx, vy, 0, 0⟩ i L = ⟨⟨true, mv x (pushI vx i.x), mv y (pushI vy i.y), pushI vx i.x, pushI vy i.y, 0, 0⟩, L⟩ := by
        unfold sailF
        rw [if_neg hc, if_neg (by rw [hs]; simp), hp]
      rw [hF] at hsail
      refine ⟨keepL L, ?_, ?_⟩
      · unfold stepG
        dsimp only
        rw [hsail, flyAll_alone L d _ k hI.own (hoffD _)]
        simp only [coolA, if_neg hc, if_neg hb]
      · simp only [coolA, madeA, if_neg hc, if_neg hb]
        exact keepL_inv hI.ok hI.own (fun s hs => by have := hI.left s hs; omega) hI.far hI.few
end Go.Proofs.Ytijnfeigoggaeaa.game
