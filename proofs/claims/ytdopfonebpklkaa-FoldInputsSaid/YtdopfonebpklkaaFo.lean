/- Fold, pure: rosters, events, entries, and what they make of a state. -/
import Derived.Test.YtdopfonebpklkaaRr
import Derived.Test.YtdopfonebpklkaaPy
namespace Go.Proofs.Ytdopfonebpklkaa.game
open Go.ChangeShapes Go.WideShapes Go.ChangeAt Go.RowKit dice

structure Evt where
  kind : Int
  slot : Int
  gen : Int
  peer : Int
  deriving DecidableEq
structure Ent where
  fr : Int
  evs : List Evt
  ins : List Inp
def Inp.z (i : Inp) : Bool := decide (i.x = 0 ∧ i.y = 0 ∧ i.b = 0)

/-! Seats that may be. -/
def seatOk (q : Seat) : Prop := -1 ≤ q.peer ∧ q.peer ≤ 11 ∧ 0 ≤ q.gen ∧ q.gen ≤ 60000 ∧ (0 ≤ q.peer → 1 ≤ q.gen)
def seatsOk (T : List Seat) : Prop := (∀ q ∈ T, seatOk q) ∧ ∀ (i j : Nat) (a b : Seat), T[i]? = some a → T[j]? = some b → 0 ≤ b.peer → a.peer = b.peer → i = j
theorem seatBad_iff (q : Seat) : seatBad q = false ↔ -1 ≤ q.peer ∧ q.peer ≤ 11 ∧ 0 ≤ q.gen ∧ q.gen ≤ 60000 := by
  unfold seatBad
  simp only [Bool.or_eq_false_iff, decide_eq_false_iff_not]
  omega
theorem seatsBad_iff : ∀ (T : List Seat) (m : Nat) (A : List Seat), MaskOk m A → (seatsBad m T = false ↔
    (∀ q ∈ T, seatOk q ∧ (0 ≤ q.peer → ∀ a ∈ A, a.peer ≠ q.peer)) ∧ T.Pairwise fun a b => 0 ≤ b.peer → a.peer ≠ b.peer)
  | [], m, A, _ => by simp [seatsBad]
  | s :: T, m, A, h => by
    unfold seatsBad
    rw [Bool.or_eq_false_iff, Bool.or_eq_false_iff]
    constructor
    · rintro ⟨⟨h1, h2⟩, h3⟩
      have ih := (seatsBad_iff T _ _ (h.snoc h1)).1 h3
      have hb := (seatBad_iff s).1 h1
      have hs : ¬ ((0 ≤ s.peer ∧ s.gen < 1) ∨ (0 ≤ s.peer ∧ ∃ q ∈ A, q.peer = s.peer)) := fun e => by
        rw [(step_bad h h1).2 e] at h2
        cases h2
      refine ⟨fun q hq => ?_, ?_⟩
      · rcases List.mem_cons.1 hq with rfl | hq
        · refine ⟨⟨hb.1, hb.2.1, hb.2.2.1, hb.2.2.2, fun h0 => ?_⟩, fun h0 a ha e => hs (.inr ⟨h0, a, ha, e⟩)⟩
          have : ¬ q.gen < 1 := fun e => hs (.inl ⟨h0, e⟩)
          omega
        · exact ⟨(ih.1 q hq).1, fun h0 a ha => (ih.1 q hq).2 h0 a (List.mem_append_left _ ha)⟩
      · rw [List.pairwise_cons]
        exact ⟨fun b hb' h0 => (ih.1 b hb').2 h0 s (List.mem_append_right _ (List.mem_singleton.2 rfl)), ih.2⟩
    · rintro ⟨h1, h2⟩
      rw [List.pairwise_cons] at h2
      have hs := h1 s (List.mem_cons_self ..)
      have hb : seatBad s = false := (seatBad_iff s).2 ⟨hs.1.1, hs.1.2.1, hs.1.2.2.1, hs.1.2.2.2.1⟩
      refine ⟨⟨hb, ?_⟩, (seatsBad_iff T _ _ (h.snoc hb)).2 ⟨fun q hq => ⟨(h1 q (List.mem_cons_of_mem _ hq)).1, fun h0 a ha => ?_⟩, h2.2⟩⟩
      · rw [Bool.eq_false_iff]
        intro e
        rcases (step_bad h hb).1 e with ⟨h0, h1'⟩ | ⟨h0, a, ha, e'⟩
        · have := hs.1.2.2.2.2 h0
          omega
        · exact hs.2 h0 a ha e'
      · rcases List.mem_append.1 ha with ha | ha
        · exact (h1 q (List.mem_cons_of_mem _ hq)).2 h0 a ha
        · rw [List.mem_singleton] at ha
          subst ha
          exact h2.1 q hq h0
theorem pair_idx {T : List Seat} : (T.Pairwise fun a b => 0 ≤ b.peer → a.peer ≠ b.peer) ↔ ∀ (i j : Nat) (a b : Seat), T[i]? = some a → T[j]? = some b → 0 ≤ b.peer → a.peer = b.peer → i = j := by
  rw [List.pairwise_iff_getElem]
  constructor
  · intro h i j a b hi hj h0 e
    obtain ⟨h1, e1⟩ := List.getElem?_eq_some_iff.1 hi
    obtain ⟨h2, e2⟩ := List.getElem?_eq_some_iff.1 hj
    rcases Nat.lt_trichotomy i j with hl | hl | hl
    · exact absurd (by rw [e1, e2]; exact e) (h i j h1 h2 hl (by rw [e2]; exact h0))
    · exact hl
    · exact absurd (by rw [e1, e2]; exact e.symm) (h j i h2 h1 hl (by rw [e1, e]; exact h0))
  · intro h i j hi hj hl h0 e
    have := h i j _ _ (List.getElem?_eq_getElem hi) (List.getElem?_eq_getElem hj) h0 e
    omega
theorem mayR_iff {ver : Int} {T : List Seat} : mayR ver T = true ↔ 0 ≤ ver ∧ ver ≤ 1073741824 ∧ seatsOk T := by
  unfold mayR
  rw [Bool.and_eq_true, Bool.and_eq_true, decide_eq_true_eq, decide_eq_true_eq, Bool.not_eq_true', seatsBad_iff T 0 [] MaskOk.nil, pair_idx]
  constructor
  · rintro ⟨a, b, c, d⟩
    exact ⟨a, b, fun q hq => (c q hq).1, d⟩
  · rintro ⟨a, b, c, d⟩
    exact ⟨a, b, fun q hq => ⟨c q hq, fun _ a ha => by simp at ha⟩, d⟩
theorem seatsOk.leave {T : List Seat} {k : Nat} {q : Seat} (h : seatsOk T) (hq : T[k]? = some q) : seatsOk (T.set k ⟨-1, q.gen⟩) := by
  have hk := (List.getElem?_eq_some_iff.1 hq).1
  have hs := h.1 q (List.mem_of_getElem? hq)
  refine ⟨fun p hp => ?_, fun i j a b hi hj h0 e => ?_⟩
  · rcases List.mem_or_eq_of_mem_set hp with hp | rfl
    · exact h.1 p hp
    · exact ⟨by simp, by simp, hs.2.2.1, hs.2.2.2.1, fun h0 => by simp at h0⟩
  · rw [List.getElem?_set] at hi hj
    by_cases hj' : k = j
    · rw [if_pos hj', if_pos hk] at hj
      injection hj with hj
      rw [← hj] at h0
      simp at h0
    · rw [if_neg hj'] at hj
      by_cases hi' : k = i
      · rw [if_pos hi', if_pos hk] at hi
        injection hi with hi
        rw [← hi] at e
        simp at e
        omega
      · rw [if_neg hi'] at hi
        exact h.2 i j a b hi hj h0 e
theorem seatsOk.join {T : List Seat} {k : Nat} {q : Seat} {p g : Int} (h : seatsOk T) (hq : T[k]? = some q) (hp0 : 0 ≤ p) (hp1 : p < 12) (hno : T.any (fun q => q.peer == p) = false) (hg0 : 1 ≤ g) (hg1 : g ≤ 60000) : seatsOk (T.set k ⟨p, g⟩) := by
  have hk := (List.getElem?_eq_some_iff.1 hq).1
  have hno' : ∀ (i : Nat) (a : Seat), T[i]? = some a → a.peer ≠ p := fun i a hi e => by
    have := List.any_eq_false.1 hno a (List.mem_of_getElem? hi)
    simp [e] at this
  refine ⟨fun r hr => ?_, fun i j a b hi hj h0 e => ?_⟩
  · rcases List.mem_or_eq_of_mem_set hr with hr | rfl
    · exact h.1 r hr
    · exact ⟨by dsimp only; omega, by dsimp only; omega, by dsimp only; omega, by dsimp only; omega, fun _ => hg0⟩
  · rw [List.getElem?_set] at hi hj
    by_cases hj' : k = j
    · rw [if_pos hj', if_pos hk] at hj
      injection hj with hj
      by_cases hi' : k = i
      · omega
      · rw [if_neg hi'] at hi
        rw [← hj] at e
        exact absurd e (hno' i a hi)
    · rw [if_neg hj'] at hj
      by_cases hi' : k = i
      · rw [if_pos hi', if_pos hk] at hi
        injection hi with hi
        rw [← hi] at e
        exact absurd e.symm (hno' j b hj)
      · rw [if_neg hi'] at hi
        exact h.2 i j a b hi hj h0 e

/-! Events. -/
def evR (ver : Int) (T : List Seat) (x : Evt) : Option (Int × List Seat) :=
  if mayR ver T = true ∧ ver < 1073741824 ∧ 0 ≤ x.slot ∧ x.slot < 8 then
    (T[x.slot.toNat]?).bind fun q =>
      if x.kind = 1 ∧ q.peer < 0 ∧ 0 ≤ x.peer ∧ x.peer < 12 ∧ T.any (fun q => q.peer == x.peer) = false ∧ q.gen < 60000 ∧ q.gen + 1 = x.gen then some (ver + 1, T.set x.slot.toNat ⟨x.peer, x.gen⟩)
      else if x.kind = 2 ∧ 0 ≤ q.peer ∧ q.peer = x.peer ∧ q.gen = x.gen then some (ver + 1, T.set x.slot.toNat ⟨-1, q.gen⟩)
      else none
  else none
def removeG (g : Gme) (k : Nat) : Gme := ⟨g.fr, g.d, g.S.set k zShp, g.L.filter fun s => decide (s.owner ≠ k)⟩
def evG (g : Gme) (x : Evt) : Gme := if x.kind = 2 then removeG g x.slot.toNat else spawnG g x.slot.toNat
def evS (s : Ste) (x : Evt) : Option Ste := (evR s.ver s.T x).bind fun r => some ⟨evG s.g x, r.1, r.2⟩
def evsS : Ste → List Evt → Option Ste
  | s, [] => some s
  | s, x :: l => (evS s x).bind fun t => evsS t l
/-- What an event that is taken is. -/
theorem evR_some {ver : Int} {T : List Seat} {x : Evt} {r : Int × List Seat} (h : evR ver T x = some r) :
    mayR ver T = true ∧ ver < 1073741824 ∧ ∃ (k : Nat) (q : Seat), x.slot = (k : Int) ∧ k < 8 ∧ T[k]? = some q ∧
      ((x.kind = 1 ∧ q.peer < 0 ∧ 0 ≤ x.peer ∧ x.peer < 12 ∧ T.any (fun q => q.peer == x.peer) = false ∧ q.gen < 60000 ∧ q.gen + 1 = x.gen ∧ r = (ver + 1, T.set k ⟨x.peer, x.gen⟩)) ∨
       (x.kind = 2 ∧ 0 ≤ q.peer ∧ q.peer = x.peer ∧ q.gen = x.gen ∧ r = (ver + 1, T.set k ⟨-1, q.gen⟩))) := by
  unfold evR at h
  split at h
  · rename_i hc
    obtain ⟨q, hq, h⟩ := Option.bind_eq_some_iff.1 h
    refine ⟨hc.1, hc.2.1, x.slot.toNat, q, by omega, by omega, hq, ?_⟩
    split at h
    · rename_i h1
      injection h with h
      exact .inl ⟨h1.1, h1.2.1, h1.2.2.1, h1.2.2.2.1, h1.2.2.2.2.1, h1.2.2.2.2.2.1, h1.2.2.2.2.2.2, h.symm⟩
    · split at h
      · rename_i h1
        injection h with h
        exact .inr ⟨h1.1, h1.2.1, h1.2.2.1, h1.2.2.2, h.symm⟩
      · cases h
  · cases h
theorem evR_may {ver : Int} {T : List Seat} {x : Evt} {r : Int × List Seat} (h : evR ver T x = some r) : mayR r.1 r.2 = true ∧ r.1 = ver + 1 ∧ r.2.length = T.length := by
  obtain ⟨hm, hv, k, q, hk, hk8, hq, h⟩ := evR_some h
  obtain ⟨v0, v1, ho⟩ := mayR_iff.1 hm
  rcases h with ⟨_, _, hp0, hp1, hno, hg, hg', rfl⟩ | ⟨_, _, _, _, rfl⟩
  · have hs := ho.1 q (List.mem_of_getElem? hq)
    refine ⟨mayR_iff.2 ⟨by dsimp only; omega, by dsimp only; omega, ho.join hq hp0 hp1 hno ?_ ?_⟩, rfl, by simp⟩
    · have := hs.2.2.1; omega
    · omega
  · exact ⟨mayR_iff.2 ⟨by dsimp only; omega, by dsimp only; omega, ho.leave hq⟩, rfl, by simp⟩
theorem pairs_idx {S : List Shp} {T : List Seat} : pairs S T = true ↔ ∀ (i : Nat) (t : Shp) (q : Seat), S[i]? = some t → T[i]? = some q → t.on = decide (0 ≤ q.peer) := by
  unfold pairs
  rw [List.all_eq_true]
  constructor
  · intro h i t q ht hq
    have hz : (S.zip T)[i]? = some (t, q) := by rw [List.getElem?_zip_eq_some]; exact ⟨ht, hq⟩
    have := h (t, q) (List.mem_of_getElem? hz)
    simpa using this
  · rintro h ⟨t, q⟩ hm
    obtain ⟨i, hi⟩ := List.mem_iff_getElem?.1 hm
    rw [List.getElem?_zip_eq_some] at hi
    simpa using h i t q hi.1 hi.2
theorem removeG_ok {g : Gme} (k : Nat) (h : g.ok) : (removeG g k).ok :=
  ⟨h.f0, h.f1, by simp [removeG, h.s8], fun t ht => by
    rcases List.mem_or_eq_of_mem_set ht with a | rfl
    · exact h.ships t a
    · exact zShp_ok, fun s hs => h.shots s (List.mem_filter.1 hs).1, Nat.le_trans (List.length_filter_le ..) h.most⟩
theorem evG_ok {g : Gme} (x : Evt) (h : g.ok) : (evG g x).ok := by
  unfold evG
  split
  · exact removeG_ok _ h
  · exact spawnG_ok _ h
structure Ste.may (s : Ste) : Prop where
  g : s.g.ok
  r : mayR s.ver s.T = true
  p : pairs s.g.S s.T = true
  t8 : s.T.length = 8
theorem Ste.may_iff {s : Ste} (h8 : s.g.S.length = 8) (t8 : s.T.length = 8) : mayS s = true ↔ s.may := by
  unfold mayS
  rw [Bool.and_eq_true, Bool.and_eq_true, Gme.may_ok h8]
  exact ⟨fun h => ⟨h.1.1, h.1.2, h.2, t8⟩, fun h => ⟨⟨h.g, h.r⟩, h.p⟩⟩
theorem Ste.may.mayS {s : Ste} (h : s.may) : mayS s = true := (Ste.may_iff h.g.s8 h.t8).2 h
theorem evS_may {s t : Ste} {x : Evt} (hs : s.may) (h : evS s x = some t) : t.may ∧ t.ver = s.ver + 1 ∧ t.g.fr = s.g.fr ∧ t.g = evG s.g x ∧ evR s.ver s.T x = some (t.ver, t.T) := by
  unfold evS at h
  obtain ⟨⟨v, T⟩, hr, h⟩ := Option.bind_eq_some_iff.1 h
  injection h with h
  subst h
  have hm := evR_may hr
  obtain ⟨_, _, k, q, hk, hk8, hq, hh⟩ := evR_some hr
  have hkt : x.slot.toNat = k := by omega
  have hfr : (evG s.g x).fr = s.g.fr := by unfold evG removeG spawnG; split <;> rfl
  refine ⟨⟨evG_ok x hs.g, hm.1, ?_, by dsimp only; rw [hm.2.2]; exact hs.t8⟩, hm.2.1, hfr, rfl, hr⟩
  have hpi := pairs_idx.1 hs.p
  refine pairs_idx.2 fun i t p hi hp => ?_
  dsimp only at hi hp
  unfold evG at hi
  rcases hh with ⟨hkd, _, hp0, _, _, _, _, e⟩ | ⟨hkd, _, _, _, e⟩
  · rw [if_neg (by omega), hkt] at hi
    unfold spawnG at hi
    dsimp only at hi
    have e2 := congrArg Prod.snd e
    dsimp only at e2
    rw [e2] at hp
    rw [List.getElem?_set] at hi hp
    by_cases hki : k = i
    · rw [if_pos hki] at hi hp
      rw [if_pos (by rw [hs.g.s8]; exact hk8)] at hi
      rw [if_pos (by rw [hs.t8]; exact hk8)] at hp
      injection hi with hi
      injection hp with hp
      rw [← hi, ← hp]
      simp [hp0]
    · rw [if_neg hki] at hi hp
      exact hpi i t p hi hp
  · rw [if_pos hkd, hkt] at hi
    unfold removeG at hi
    dsimp only at hi
    have e2 := congrArg Prod.snd e
    dsimp only at e2
    rw [e2] at hp
    rw [List.getElem?_set] at hi hp
    by_cases hki : k = i
    · rw [if_pos hki] at hi hp
      rw [if_pos (by rw [hs.g.s8]; exact hk8)] at hi
      rw [if_pos (by rw [hs.t8]; exact hk8)] at hp
      injection hi with hi
      injection hp with hp
      rw [← hi, ← hp]
      simp [zShp]
    · rw [if_neg hki] at hi hp
      exact hpi i t p hi hp

/-! Entries. -/
def mayEv (x : Evt) : Bool := (decide (x.kind = 1) || decide (x.kind = 2)) && decide (0 ≤ x.slot) && decide (x.slot < 8) && decide (1 ≤ x.gen) && decide (x.gen ≤ 60000) && decide (0 ≤ x.peer) && decide (x.peer < 12)
def evPair (a x : Evt) : Bool := !(decide (a.kind < x.kind) || (decide (a.kind = x.kind) && decide (x.slot ≤ a.slot)))
def evsMay : Option Evt → List Evt → Bool
  | _, [] => true
  | none, x :: l => mayEv x && evsMay (some x) l
  | some a, x :: l => mayEv x && evPair a x && evsMay (some x) l
def mayIn (i : Inp) : Bool := decide (-127 ≤ i.x) && decide (-127 ≤ i.y)
def entMay (e : Ent) : Bool := decide (0 ≤ e.fr) && decide (e.fr < 1048576) && evsMay none e.evs && e.ins.all mayIn
/-- The document's look: kind and slot go on. -/
def rEvs : Int → Int → List Evt → Bool
  | _, _, [] => true
  | k, s, x :: l =>
    if x.kind = 1 ∧ k = 2 then decide (-1 < x.slot) && decide (x.slot < 8) && decide (1 ≤ x.gen) && decide (x.gen ≤ 60000) && decide (0 ≤ x.peer) && decide (x.peer < 12) && rEvs 1 x.slot l
    else decide (x.kind = k) && decide (s < x.slot) && decide (x.slot < 8) && decide (1 ≤ x.gen) && decide (x.gen ≤ 60000) && decide (0 ≤ x.peer) && decide (x.peer < 12) && rEvs k x.slot l
theorem rEvs_some : ∀ (l : List Evt) (a : Evt), mayEv a = true → rEvs a.kind a.slot l = evsMay (some a) l
  | [], _, _ => rfl
  | x :: l, a, ha => by
    have ha' : (a.kind = 1 ∨ a.kind = 2) ∧ 0 ≤ a.slot := by
      unfold mayEv at ha
      simp only [Bool.and_eq_true, Bool.or_eq_true, decide_eq_true_eq] at ha
      exact ⟨ha.1.1.1.1.1.1, ha.1.1.1.1.1.2⟩
    unfold rEvs evsMay
    by_cases hx : mayEv x = true
    · have ih := rEvs_some l x hx
      have hx' := hx
      unfold mayEv at hx'
      simp only [Bool.and_eq_true, Bool.or_eq_true, decide_eq_true_eq] at hx'
      obtain ⟨⟨⟨⟨⟨⟨k1, s0⟩, s1⟩, g0⟩, g1⟩, p0⟩, p1⟩ := hx'
      rw [hx, ← ih]
      by_cases hc : x.kind = 1 ∧ a.kind = 2
      · rw [if_pos hc]
        have : evPair a x = true := by unfold evPair; simp; omega
        rw [this, hc.1]
        simp [s1, g0, g1, p0, p1]
        omega
      · rw [if_neg hc]
        by_cases hk : x.kind = a.kind
        · have : evPair a x = decide (a.slot < x.slot) := by
            unfold evPair
            rw [Bool.eq_iff_iff]
            simp [hk]
          rw [this, hk]
          simp [s1, g0, g1, p0, p1]
        · have : evPair a x = false := by
            unfold evPair
            simp
            omega
          rw [this]
          simp [hk]
    · have hx2 : mayEv x = false := by simpa using hx
      rw [hx2, Bool.false_and, Bool.false_and]
      unfold mayEv at hx2
      by_cases hc : x.kind = 1 ∧ a.kind = 2
      · rw [if_pos hc]
        simp [hc.1] at hx2
        simp
        intro h1 h2 h3 h4 h5 h6
        exact absurd (hx2 (by omega) h2 h3 h4 h5) (by omega)
      · rw [if_neg hc]
        simp at hx2
        simp
        intro h1 h2 h3 h4 h5 h6 h7
        exact absurd (hx2 (by omega) (by omega) h3 h4 h5 h6) (by omega)
theorem rEvs_none (l : List Evt) : rEvs 2 (-1) l = evsMay none l := by
  cases l with
  | nil => rfl
  | cons x l =>
    unfold rEvs evsMay
    by_cases hx : mayEv x = true
    · have ih := rEvs_some l x hx
      have hx' := hx
      unfold mayEv at hx'
      simp only [Bool.and_eq_true, Bool.or_eq_true, decide_eq_true_eq] at hx'
      obtain ⟨⟨⟨⟨⟨⟨k1, s0⟩, s1⟩, g0⟩, g1⟩, p0⟩, p1⟩ := hx'
      rw [hx, ← ih]
      by_cases hc : x.kind = 1
      · rw [if_pos ⟨hc, rfl⟩, hc]
        simp [s1, g0, g1, p0, p1]
        omega
      · rw [if_neg (fun h => hc h.1)]
        have hk : x.kind = 2 := by omega
        rw [hk]
        simp [s1, g0, g1, p0, p1]
        omega
    · have hx2 : mayEv x = false := by simpa using hx
      rw [hx2, Bool.false_and]
      unfold mayEv at hx2
      simp at hx2
      split
      · simp
        intro h1 h2 h3 h4 h5 h6
        exact absurd (hx2 (by omega) (by omega) h2 h3 h4 h5) (by omega)
      · simp
        intro h1 h2 h3 h4 h5 h6 h7
        exact absurd (hx2 (by omega) (by omega) h3 h4 h5 h6) (by omega)

/-! What an entry makes of a state. -/
def insOk (I : List Inp) (T : List Seat) : Bool := (I.zip T).all fun p => p.1.z || decide (0 ≤ p.2.peer)
def applyF (s : Ste) (e : Ent) : Option Ste :=
  if mayS s = true ∧ entMay e = true ∧ e.fr = s.g.fr then
    (evsS s e.evs).bind fun t => if insOk e.ins t.T = true then some ⟨stepG t.g e.ins, t.ver, t.T⟩ else none
  else none
def runF : Ste → List Ent → Option Ste
  | s, [] => some s
  | s, e :: l => (applyF s e).bind fun t => runF t l
theorem evsS_may : ∀ (l : List Evt) {s t : Ste}, s.may → evsS s l = some t → t.may ∧ t.g.fr = s.g.fr ∧ t.ver = s.ver + l.length
  | [], s, t, hs, h => by injection h with h; subst h; exact ⟨hs, rfl, by simp⟩
  | x :: l, s, t, hs, h => by
    unfold evsS at h
    obtain ⟨u, hu, h⟩ := Option.bind_eq_some_iff.1 h
    obtain ⟨a, b, c, _⟩ := evS_may hs hu
    obtain ⟨a', b', c'⟩ := evsS_may l a h
    exact ⟨a', b'.trans c, by rw [c', b]; simp; omega⟩
theorem entMay_parts {e : Ent} (h : entMay e = true) : 0 ≤ e.fr ∧ e.fr < 1048576 ∧ evsMay none e.evs = true ∧ ∀ i ∈ e.ins, mayIn i = true := by
  unfold entMay at h
  simp only [Bool.and_eq_true, decide_eq_true_eq, List.all_eq_true] at h
  exact ⟨h.1.1.1, h.1.1.2, h.1.2, h.2⟩
theorem runF_append : ∀ (l m : List Ent) (s : Ste), runF s (l ++ m) = (runF s l).bind fun t => runF t m
  | [], m, s => rfl
  | e :: l, m, s => by
    rw [List.cons_append, show runF s (e :: (l ++ m)) = (applyF s e).bind fun t => runF t (l ++ m) from rfl, show runF s (e :: l) = (applyF s e).bind fun t => runF t l from rfl, Option.bind_assoc]
    congr 1
    funext t
    exact runF_append l m t
end Go.Proofs.Ytdopfonebpklkaa.game
