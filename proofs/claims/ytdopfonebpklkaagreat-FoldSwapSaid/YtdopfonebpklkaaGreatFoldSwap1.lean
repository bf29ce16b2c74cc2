/- One leaves, another one joins: what the entry makes (in plain Lean). Logs put together anew. FoldSwap: the walk (printed by mkxp.py). -/
import Derived.Test.YtdopfonebpklkaaGreatFoldRuns24
namespace Go.Proofs.YtdopfonebpklkaaGreat.game
open Go.ChangeShapes Go.WideShapes Go.ChangeAt Go.RowKit dice
set_option maxRecDepth 100000

/-- Numbers do not grow beyond the version. -/
def gensLe (ver : Int) (T : List Seat) : Prop := ∀ q ∈ T, q.gen ≤ ver
theorem evR_gens {ver : Int} {T : List Seat} {x : Evt} {r : Int × List Seat} (h : evR ver T x = some r) (hg : gensLe ver T) : gensLe r.1 r.2 := by
  obtain ⟨_, _, k, q, hk, hk8, hq, hway⟩ := evR_some h
  have hqg := hg q (List.mem_of_getElem? hq)
  have hset : ∀ (y : Seat), y.gen ≤ ver + 1 → gensLe (ver + 1) (T.set k y) := fun y hy p hp => by
    rcases List.mem_or_eq_of_mem_set hp with h1 | rfl
    · have := hg p h1
      omega
    · exact hy
  rcases hway with ⟨_, _, _, _, _, _, h1, rfl⟩ | ⟨_, _, _, _, rfl⟩
  · exact hset _ (by dsimp only; omega)
  · exact hset _ (by dsimp only; omega)
theorem evsS_gens : ∀ (l : List Evt) {s t : Ste}, evsS s l = some t → gensLe s.ver s.T → gensLe t.ver t.T
  | [], s, t, h, hg => by injection h with h; subst h; exact hg
  | x :: l, s, t, h, hg => by
    unfold evsS at h
    obtain ⟨u, hu, h⟩ := Option.bind_eq_some_iff.1 h
    unfold evS at hu
    obtain ⟨r, hr, hu⟩ := Option.bind_eq_some_iff.1 hu
    injection hu with hu
    subst hu
    exact evsS_gens l h (evR_gens hr hg)
theorem applyF_gens {s t : Ste} {e : Ent} (hs : s.may) (h : applyF s e = some t) (hg : gensLe s.ver s.T) : gensLe t.ver t.T ∧ t.ver = s.ver + e.evs.length := by
  unfold applyF at h
  split at h
  · obtain ⟨u, hu, h⟩ := Option.bind_eq_some_iff.1 h
    split at h
    · injection h with h
      subst h
      exact ⟨show gensLe u.ver u.T from evsS_gens _ hu hg, (evsS_may _ hs hu).2.2⟩
    · cases h
  · cases h
theorem runF_gens : ∀ (l : List Ent) {s t : Ste}, s.may → s.g.wf → (∀ e ∈ l, e.evs.length ≤ 1) → runF s l = some t → gensLe s.ver s.T → gensLe t.ver t.T ∧ t.ver ≤ s.ver + l.length
  | [], s, t, _, _, _, h, hg => by injection h with h; subst h; exact ⟨hg, by simp⟩
  | e :: l, s, t, hs, hw, h1, h, hg => by
    unfold runF at h
    obtain ⟨u, hu, h⟩ := Option.bind_eq_some_iff.1 h
    obtain ⟨a, b⟩ := applyF_gens hs hu hg
    have hm := (applyF_may hs.g.s8 hs.t8 hu).1
    have hw2 := (applyF_wf hw hs.t8 hu).1
    obtain ⟨c, d⟩ := runF_gens l hm hw2 (fun e he => h1 e (List.mem_cons_of_mem _ he)) h a
    refine ⟨c, ?_⟩
    have := h1 e (List.mem_cons_self ..)
    rw [List.length_cons]
    omega
theorem start_gens {D : Int} (hD : (Lit.int .u64 D).wf = true) {log : List Ent} {t : Ste} (h1 : ∀ e ∈ log, e.evs.length ≤ 1) (h : runF (startS D) log = some t) : gensLe t.ver t.T ∧ t.ver ≤ log.length := by
  have := runF_gens log (startS_may D) (startS_wf D hD) h1 h (fun q hq => by
    rw [List.eq_of_mem_replicate (show q ∈ List.replicate 8 (⟨-1, 0⟩ : Seat) from hq)]
    exact Int.le_refl _)
  refine ⟨this.1, ?_⟩
  have h2 := this.2
  simp [startS] at h2
  exact h2
theorem insOk_z8 {T : List Seat} : insOk z8 T = true := by
  unfold insOk
  rw [List.all_eq_true]
  rintro ⟨i, q⟩ hm
  have hi := (List.of_mem_zip hm).1
  rw [List.eq_of_mem_replicate (show i ∈ List.replicate 8 zInp from hi)]
  rfl
theorem z8_may : z8.all mayIn = true := by decide
def evA (k : Nat) (x : Seat) : Evt := ⟨2, k, x.gen, x.peer⟩
def evB (k : Nat) (x : Seat) (p : Int) : Evt := ⟨1, k, x.gen + 1, p⟩
theorem swap_no {s : Ste} {k : Nat} {x : Seat} {p : Int} : applyF s ⟨s.g.fr, [evB k x p, evA k x], z8⟩ = none := by
  unfold applyF
  rw [if_neg]
  rintro ⟨_, h, _⟩
  have := (entMay_parts h).2.2.1
  simp [evsMay, evPair, evA, evB] at this
theorem swap_yes {s : Ste} (hs : s.may) {k : Nat} {x : Seat} {p : Int} (hx : s.T[k]? = some x) (hk : k < 8) (hp0 : 0 ≤ p) (hp1 : p < 12) (hx0 : 0 ≤ x.peer) (hno : ofI s.ver s.T p < 0) (hg : x.gen < 60000) (hv : s.ver < 1000) (hf : s.g.fr < 1000) :
    ∃ t, applyF s ⟨s.g.fr, [evA k x, evB k x p], z8⟩ = some t ∧ t.T[k]? = some ⟨p, x.gen + 1⟩ ∧ t.ver = s.ver + 2 ∧ ∃ c, t.g.S[k]? = some c ∧ c.on = true := by
  obtain ⟨v0, v1, ho⟩ := mayR_iff.1 hs.r
  have hso := ho.1 x (List.mem_of_getElem? hx)
  have hg1 := hso.2.2.2.2 hx0
  have hp11 := hso.2.1
  have hnone : s.T.any (fun q => q.peer == p) = false := by
    unfold ofI at hno
    rw [if_pos ⟨hp0, hs.r⟩] at hno
    exact (slotI_neg _ _).1 hno
  have e1 : evR s.ver s.T (evA k x) = some (s.ver + 1, s.T.set k ⟨-1, x.gen⟩) := by
    unfold evR evA
    rw [if_pos ⟨hs.r, by omega, by dsimp only; omega, by dsimp only; omega⟩]
    dsimp only
    rw [Int.toNat_natCast, hx, Option.bind_some, if_neg (by intro h; omega), if_pos ⟨rfl, hx0, rfl, rfl⟩]
  have m1 := (evR_may e1).1
  have hkT : k < s.T.length := (List.getElem?_eq_some_iff.1 hx).1
  have hx2 : (s.T.set k ⟨-1, x.gen⟩)[k]? = some ⟨-1, x.gen⟩ := by rw [List.getElem?_set_self hkT]
  have hnone2 : (s.T.set k ⟨-1, x.gen⟩).any (fun q => q.peer == p) = false := by
    rw [List.any_eq_false]
    intro q hq
    rcases List.mem_or_eq_of_mem_set hq with h | rfl
    · exact List.any_eq_false.1 hnone q h
    · simp
      omega
  have e2 : evR (s.ver + 1) (s.T.set k ⟨-1, x.gen⟩) (evB k x p) = some (s.ver + 1 + 1, (s.T.set k ⟨-1, x.gen⟩).set k ⟨p, x.gen + 1⟩) := by
    unfold evR evB
    rw [if_pos ⟨m1, by omega, by dsimp only; omega, by dsimp only; omega⟩]
    dsimp only
    rw [Int.toNat_natCast, hx2, Option.bind_some, if_pos ⟨rfl, by dsimp only; omega, hp0, hp1, hnone2, by dsimp only; omega, rfl⟩]
  have hevs : ∃ u, evsS s [evA k x, evB k x p] = some u ∧ u.ver = s.ver + 2 ∧ u.T[k]? = some ⟨p, x.gen + 1⟩ := by
    refine ⟨⟨evG (evG s.g (evA k x)) (evB k x p), s.ver + 1 + 1, (s.T.set k ⟨-1, x.gen⟩).set k ⟨p, x.gen + 1⟩⟩, ?_, by dsimp only; omega, by dsimp only; rw [List.getElem?_set_self (by rw [List.length_set]; exact hkT)]⟩
    unfold evsS evS
    rw [e1, Option.bind_some, Option.bind_some]
    unfold evsS evS
    dsimp only
    rw [e2, Option.bind_some, Option.bind_some]
    rfl
  obtain ⟨u, hu, huv, huT⟩ := hevs
  have hent : entMay ⟨s.g.fr, [evA k x, evB k x p], z8⟩ = true := by
    have f0 := hs.g.f0
    unfold entMay
    dsimp only
    rw [z8_may]
    have a1 : evsMay none [evA k x, evB k x p] = true := by
      have b1 : mayEv (evA k x) = true := by
        unfold mayEv evA
        simp only [Bool.and_eq_true, Bool.or_eq_true, decide_eq_true_eq]
        refine ⟨⟨⟨⟨⟨⟨?_, ?_⟩, ?_⟩, ?_⟩, ?_⟩, ?_⟩, ?_⟩ <;> first | omega | simp
      have b2 : mayEv (evB k x p) = true := by
        unfold mayEv evB
        simp only [Bool.and_eq_true, Bool.or_eq_true, decide_eq_true_eq]
        refine ⟨⟨⟨⟨⟨⟨?_, ?_⟩, ?_⟩, ?_⟩, ?_⟩, ?_⟩, ?_⟩ <;> first | omega | simp
      have b3 : evPair (evA k x) (evB k x p) = true := by simp [evPair, evA, evB]
      simp [evsMay, b1, b2, b3]
    rw [a1, decide_eq_true f0, decide_eq_true (show s.g.fr < 1048576 by omega)]
    rfl
  have hap : applyF s ⟨s.g.fr, [evA k x, evB k x p], z8⟩ = some ⟨stepG u.g z8, u.ver, u.T⟩ := by
    unfold applyF
    rw [if_pos ⟨hs.mayS, hent, rfl⟩]
    dsimp only
    rw [hu, Option.bind_some, if_pos insOk_z8]
  have hm := (applyF_may hs.g.s8 hs.t8 hap).1
  refine ⟨_, hap, huT, huv, ?_⟩
  obtain ⟨c, hc⟩ : ∃ c, (stepG u.g z8).S[k]? = some c := ⟨_, List.getElem?_eq_getElem (by rw [hm.g.s8]; exact hk)⟩
  refine ⟨c, hc, ?_⟩
  rw [pairs_idx.1 hm.p k c _ hc huT]
  exact decide_eq_true hp0
end Go.Proofs.YtdopfonebpklkaaGreat.game
namespace Go.Proofs.YtdopfonebpklkaaGreat.game
open Go.ChangeShapes Go.WideShapes Go.ChangeAt Go.RowKit dice
set_option maxRecDepth 100000

theorem ents_flat {W : World} {g : Nat} : ∀ (log : List Ent) (es : List Value) (o : Nat), es.length = log.length → (∀ e ∈ log, e.ins.length = 8) → (∀ (k : Nat) (e : Ent) (s : Value), log[k]? = some e → es[k]? = some s → W.rangeAt g (o + k * 26) (entC e s).toList) → ∀ j u, (entsL log es)[j]? = some u → W.cell? ⟨g, o + j, none⟩ = some u
  | [], _, _, _, _, _, j, u, h => by simp [entsL] at h
  | e :: log, [], _, h, _, _, _, _, _ => by simp at h
  | e :: log, s :: es, o, hl, h8, hr, j, u, h => by
    unfold entsL at h
    have h26 : (entC e s).toList.length = 26 := by rw [Array.length_toList, en_size (h8 e (List.mem_cons_self ..))]
    rw [List.zip_cons_cons, List.flatMap_cons] at h
    by_cases hj : j < 26
    · rw [List.getElem?_append_left (by rw [h26]; exact hj)] at h
      have := hr 0 e s rfl rfl j u h
      simpa using this
    · rw [List.getElem?_append_right (by rw [h26]; omega), h26] at h
      have ih := ents_flat (W := W) (g := g) log es (o + 26) (by simpa using hl) (fun e he => h8 e (List.mem_cons_of_mem _ he)) (fun k e' s' he hs => by
        have := hr (k + 1) e' s' (by simpa using he) (by simpa using hs)
        rwa [show o + (k + 1) * 26 = o + 26 + k * 26 by omega] at this) (j - 26) u h
      rwa [show o + 26 + (j - 26) = o + j by omega] at ih
theorem logW_of {W : World} {v : Value} {log : List Ent} {es : List Value} (hl : es.length = log.length) (h8 : ∀ e ∈ log, e.ins.length = 8) (hev : ∀ (k : Nat) (e : Ent) (s : Value), log[k]? = some e → es[k]? = some s → EvW W s e.evs) (ho : W.ownsRow 0 42 26 v log.length (entsL log es)) : LogW W v log := by
  refine ⟨es, hl, hev, ?_⟩
  rcases ho.2 with ⟨rfl, h0⟩ | ⟨g, cap, cur, rfl, _, hg, _⟩
  · exact .inl ⟨List.eq_nil_of_length_eq_zero h0, _, _, rfl⟩
  · refine .inr ⟨g, 0, cap, rfl, (Array.getElem?_eq_some_iff.1 hg).1, fun k e s he hs' j u hu => ?_⟩
    have := ho.cells (g := g) rfl _ u (entsL_at log es k j e s u h8 he hs' hu)
    rw [add_n] at this
    rw [show 0 + k * 26 + j = 0 + (k * 26 + j) by omega]
    exact this
theorem entsL_append {a b : List Ent} {x y : List Value} (h : x.length = a.length) : entsL (a ++ b) (x ++ y) = entsL a x ++ entsL b y := by
  unfold entsL
  rw [List.zip_append h.symm, List.flatMap_append]
theorem entsL_one {W : World} {log : List Ent} {es : List Value} (hev : ∀ (k : Nat) (e : Ent) (s : Value), log[k]? = some e → es[k]? = some s → EvW W s e.evs) : ∀ u ∈ entsL log es, u.oneCell' = true := fun u hu => by
  obtain ⟨p, hp, hu⟩ := List.mem_flatMap.1 hu
  obtain ⟨k, hk⟩ := List.mem_iff_getElem?.1 hp
  rw [List.getElem?_zip_eq_some] at hk
  exact List.all_eq_true.1 (ent_one (hev k p.1 p.2 hk.1 hk.2)) u hu
theorem drop_cons {α : Type} {l : List α} {k : Nat} (h : k < l.length) : l.drop k = l[k] :: l.drop (k + 1) := List.drop_eq_getElem_cons h
theorem runF_next {u t : Ste} {l : List Ent} {e : Ent} (h : runF u (e :: l) = some t) : e.fr = u.g.fr := by
  unfold runF at h
  obtain ⟨x, hx, _⟩ := Option.bind_eq_some_iff.1 h
  unfold applyF at hx
  split at hx
  · rename_i hc
    exact hc.2.2
  · cases hx
theorem runF_stop {u : Ste} {l : List Ent} {e : Ent} (h : e.fr ≠ u.g.fr) : runF u (e :: l) = none := by
  unfold runF
  have : applyF u e = none := by
    unfold applyF
    rw [if_neg (fun hc => h hc.2.2)]
  rw [this]
  rfl
theorem at_frame {D : Int} (hD : (Lit.int .u64 D).wf = true) {log : List Ent} {st : Ste} (h : runF (startS D) log = some st) {k : Nat} (hk : k < log.length) : (log[k]).fr = k := by
  obtain ⟨u, h1, h2⟩ := runF_parts h k
  have hf := (runF_full hD h1).2.2
  rw [drop_cons hk] at h2
  rw [runF_next h2, hf, List.length_take, Nat.min_eq_left (by omega)]
theorem runF_without {D : Int} (hD : (Lit.int .u64 D).wf = true) {log : List Ent} {st : Ste} (h : runF (startS D) log = some st) {k : Nat} (hk : k + 1 < log.length) : runF (startS D) (log.take k ++ log.drop (k + 1)) = none := by
  obtain ⟨u, h1, _⟩ := runF_parts h k
  have hf := (runF_full hD h1).2.2
  rw [runF_append, h1, Option.bind_some, drop_cons hk]
  refine runF_stop ?_
  rw [at_frame hD h hk, hf, List.length_take, Nat.min_eq_left (by omega)]
  omega
theorem runF_twice {D : Int} (hD : (Lit.int .u64 D).wf = true) {log : List Ent} {st : Ste} (h : runF (startS D) log = some st) {k : Nat} (hk : k + 1 < log.length) : runF (startS D) (log.take (k + 1) ++ log.drop k) = none := by
  obtain ⟨u, h1, _⟩ := runF_parts h (k + 1)
  have hf := (runF_full hD h1).2.2
  rw [runF_append, h1, Option.bind_some, drop_cons (show k < log.length by omega)]
  refine runF_stop ?_
  rw [at_frame hD h (by omega), hf, List.length_take, Nat.min_eq_left (by omega)]
  omega
theorem mk0 (w : World) : (Instr.buildSlice 52 0 #[]).run Tryz.prog w = .ok (.slice (some ⟨w.heap.size, 0, none⟩) 0 0) (w.alloc (.cells #[] 42)) := by
  have i52 := Tryz.underlying52
  obtain ⟨i, hi, _, hz, _⟩ := info_ent
  simp [Instr.buildSlice, run_underlying i52, sizeOf, typeInfo, hi, newRow, Instr.fill]
  congr 2
  exact Array.eq_empty_of_size_eq_zero (by simp)
theorem cut_at2 (cut : Int) (n : Nat) (h2 : 2 ≤ n) (hn : n ≤ 1000) : ∃ k : Nat, k + 1 < n ∧ Go.RowKit.wrap64 ((IntKind.u64.wrap cut).tmod ((n : Int) - 1)) = (k : Int) := by
  have h0 : 0 ≤ IntKind.u64.wrap cut := by rw [IntKind.wrap_u64]; exact Int.emod_nonneg _ (by decide)
  rw [Int.tmod_eq_emod_of_nonneg h0]
  generalize IntKind.u64.wrap cut = x at *
  have a := Int.emod_nonneg x (show (n : Int) - 1 ≠ 0 by omega)
  have b := Int.emod_lt_of_pos x (show (0 : Int) < (n : Int) - 1 by omega)
  generalize x % ((n : Int) - 1) = y at *
  exact ⟨y.toNat, by omega, by rw [IntWalk.wrap64_in _ (by omega)]; omega⟩
/-- Two parts of a log, laid one behind the other in a row of one's own. -/
structure Two (W : World) (log : List Ent) (es : List Value) (g o : Nat) : Prop where
  len : es.length = log.length
  i8 : ∀ e ∈ log, e.ins.length = 8
  ev : ∀ (k : Nat) (e : Ent) (s : Value), log[k]? = some e → es[k]? = some s → EvW W s e.evs
  lt : g < W.heap.size
  row : ∀ (k : Nat) (e : Ent) (s : Value), log[k]? = some e → es[k]? = some s → W.rangeAt g (o + k * 26) (entC e s).toList
theorem Two.later {W W' : World} {log : List Ent} {es : List Value} {g o : Nat} (h : Two W log es g o) (hb : Below W.heap.size W W') : Two W' log es g o :=
  ⟨h.len, h.i8, fun k e s a b => (h.ev k e s a b).later hb, Nat.lt_of_lt_of_le h.lt hb.size, fun k e s a b j u hu => (hb.cell (p := ⟨g, o + k * 26 + j, none⟩) h.lt).trans (h.row k e s a b j u hu)⟩
theorem Two.take {W : World} {log : List Ent} {es : List Value} {g o : Nat} (h : Two W log es g o) (k : Nat) : Two W (log.take k) (es.take k) g o := by
  have at' : ∀ {α : Type} (l : List α) (j : Nat) (x : α), (l.take k)[j]? = some x → l[j]? = some x := fun l j x hx => by
    rw [List.getElem?_take] at hx
    split at hx
    · exact hx
    · cases hx
  exact ⟨by simp [h.len], fun e he => h.i8 e (List.mem_of_mem_take he), fun j e s a b => h.ev j e s (at' _ _ _ a) (at' _ _ _ b), h.lt, fun j e s a b => h.row j e s (at' _ _ _ a) (at' _ _ _ b)⟩
theorem Two.drop {W : World} {log : List Ent} {es : List Value} {g o : Nat} (h : Two W log es g o) (k : Nat) : Two W (log.drop k) (es.drop k) g (o + k * 26) := by
  refine ⟨by simp [h.len], fun e he => h.i8 e (List.mem_of_mem_drop he), fun j e s a b => ?_, h.lt, fun j e s a b => ?_⟩
  · rw [List.getElem?_drop] at a b
    exact h.ev _ e s a b
  · rw [List.getElem?_drop] at a b
    have := h.row _ e s a b
    rwa [Nat.add_mul, ← Nat.add_assoc] at this
theorem Two.cells {W : World} {log : List Ent} {es : List Value} {g o : Nat} (h : Two W log es g o) : ∀ j u, (entsL log es)[j]? = some u → W.cell? ((⟨g, o, none⟩ : Addr).add j) = some u := fun j u hu => by
  rw [add_n]
  exact ents_flat log es o h.len h.i8 h.row j u hu
theorem Two.joined {W : World} {a b : List Ent} {x y : List Value} {g o g' o' : Nat} {v : Value} (h : Two W a x g o) (h' : Two W b y g' o') (ho : W.ownsRow 0 42 26 v (a.length + b.length) (entsL a x ++ entsL b y)) : LogW W v (a ++ b) := by
  refine logW_of (es := x ++ y) (by simp [h.len, h'.len]) (fun e he => ?_) (fun k e s he hs => ?_) (by rw [entsL_append h.len, List.length_append]; exact ho)
  · rcases List.mem_append.1 he with h1 | h1
    · exact h.i8 e h1
    · exact h'.i8 e h1
  · by_cases hk : k < a.length
    · rw [List.getElem?_append_left hk] at he
      rw [List.getElem?_append_left (by rw [h.len]; exact hk)] at hs
      exact h.ev k e s he hs
    · rw [List.getElem?_append_right (by omega)] at he
      rw [List.getElem?_append_right (by rw [h.len]; omega), h.len] at hs
      exact h'.ev _ e s he hs
theorem LogW.two {W : World} {ad : Option Addr} {c : Nat} {log : List Ent} (h : LogW W (.slice ad log.length c) log) (h8 : ∀ e ∈ log, e.ins.length = 8) (hp : 0 < log.length) : ∃ g o es, ad = some ⟨g, o, none⟩ ∧ Two W log es g o := by
  obtain ⟨es, h1, h2, h3⟩ := h
  rcases h3 with ⟨rfl, _⟩ | ⟨g, o, c2, e, hg, hr⟩
  · simp at hp
  · injection e with e1 e2 e3
    exact ⟨g, o, es, e1, h1, h8, h2, hg, hr⟩
/-- What an append to such a row leaves. -/
theorem Sb.appendRowN {Hs : List Nat} {W0 w w' : World} {R : List RowS} {n' : Nat} {F Q : List Blk} {e : TypeId} {size n : Nat} {v v' : Value} {xs ys : List Value} (H : Sb Hs W0 w (F ++ Q) R) (hrow : RowIn e size Q v n xs) (ho : w'.ownsRow 0 e size v' n' ys) (hne : v' ≠ .slice none 0 0) (hg : w.grownBy w' v.ownBlock) (hb : v'.ownBlock = v.ownBlock ∨ v'.ownBlock = some w.heap.size) :
    ∃ Q', Sb Hs W0 w' (F ++ Q') R ∧ RowIn e size Q' v' n' ys ∧ ∀ p ∈ Q, v.ownBlock ≠ some p.1 → p ∈ Q' := by
  obtain ⟨g', cap', cur', rfl, _, hgg, hnc, hcm, hcs, htake⟩ : ∃ g cap cur, v' = .slice (some ⟨g, 0, none⟩) n' cap ∧ 0 ≤ g ∧ w'.heap[g]? = some (.cells cur e (0, 0)) ∧ n' ≤ cap ∧ cap ≤ maxLen ∧ cur.size = cap * size ∧ cur.toList.take (n' * size) = ys := by
    rcases ho.2 with ⟨h0, _⟩ | h
    · exact absurd h0 hne
    · exact h
  have hg' : v.ownBlock = some g' ∨ g' = w.heap.size := by
    rcases hb with h | h
    · exact .inl h.symm
    · exact .inr (Option.some.inj h)
  have hvm : ∀ g, v.ownBlock = some g → ∃ p ∈ Q, p.1 = g := fun g hv => by
    rcases hrow.2 with ⟨rfl, _⟩ | ⟨g2, cap, cur, rfl, hm, _⟩
    · simp [Value.ownBlock] at hv
    · simp [Value.ownBlock] at hv
      exact ⟨_, hm, hv⟩
  have hFne : ∀ p ∈ F, v.ownBlock ≠ some p.1 := fun p hp hv => by
    obtain ⟨q, hq, e⟩ := hvm _ hv
    have := H.nd
    rw [List.map_append, List.nodup_append] at this
    exact this.2.2 _ (List.mem_map_of_mem hp) _ (List.mem_map_of_mem hq) e.symm
  have keep : ∀ k, k < w.heap.size → v.ownBlock ≠ some k → w'.heap[k]? = w.heap[k]? := fun k hk hn => hg.block k hk (fun e => hn e.symm)
  have hsub : (F ++ Q.filter fun p => decide (v.ownBlock ≠ some p.1)).Sublist (F ++ Q) := List.Sublist.append_left List.filter_sublist F
  have hQ0 : ∀ p ∈ F ++ Q.filter fun p => decide (v.ownBlock ≠ some p.1), v.ownBlock ≠ some p.1 := fun p hp => by
    rcases List.mem_append.1 hp with h | h
    · exact hFne p h
    · simpa using (List.mem_filter.1 h).2
  have hnew : ∀ p ∈ F ++ Q.filter fun p => decide (v.ownBlock ≠ some p.1), p.1 ≠ g' := fun p hp e2 => by
    rcases hg' with h | h
    · exact hQ0 p hp (by rw [h, e2])
    · have := H.lt p (hsub.subset hp)
      omega
  have hgege : W0.heap.size ≤ g' ∨ g' ∈ Hs := by
    rcases hg' with h | h
    · obtain ⟨q, hq, e⟩ := hvm _ h
      rw [← e]
      exact H.ge q (List.mem_append_right _ hq)
    · exact .inl (by rw [h]; exact H.size)
  refine ⟨(g', cur', e) :: Q.filter fun p => decide (v.ownBlock ≠ some p.1), ?_, ⟨ho.1, .inr ⟨g', cap', cur', rfl, List.mem_cons_self .., hnc, hcm, hcs, htake⟩⟩, fun p hp hn => List.mem_cons_of_mem _ (List.mem_filter.2 ⟨hp, by simpa using hn⟩)⟩
  have hm : ∀ p ∈ F ++ (g', cur', e) :: Q.filter fun p => decide (v.ownBlock ≠ some p.1), p = (g', cur', e) ∨ p ∈ F ++ Q.filter fun p => decide (v.ownBlock ≠ some p.1) := fun p hp => by
    rcases List.mem_append.1 hp with h | h
    · exact .inr (List.mem_append_left _ h)
    · rcases List.mem_cons.1 h with h | h
      · exact .inl h
      · exact .inr (List.mem_append_right _ h)
  refine ⟨hg.os.trans H.os, hg.tape.trans H.tape, hg.output.trans H.output, Nat.le_trans H.size hg.size, fun k hk hh => ?_, fun p hp => ?_, fun p hp => ?_, ?_, fun r hr => ?_, H.rge, fun r hr p hp => ?_, H.rnd⟩
  · rw [keep k (Nat.lt_of_lt_of_le hk H.size) (fun hv => by
      obtain ⟨q, hq, e⟩ := hvm _ hv
      rcases H.ge q (List.mem_append_right _ hq) with a | a
      · omega
      · rw [e] at a; exact hh a)]
    exact H.fr k hk hh
  · rcases hm p hp with rfl | h
    · exact hgg
    · rw [keep p.1 (H.lt p (hsub.subset h)) (hQ0 p h)]
      exact H.holds p (hsub.subset h)
  · rcases hm p hp with rfl | h
    · exact hgege
    · exact H.ge p (hsub.subset h)
  · have h1 : ((F ++ Q.filter fun p => decide (v.ownBlock ≠ some p.1)).map (·.1)).Nodup := H.nd.sublist (hsub.map _)
    have h2 : (F ++ (g', cur', e) :: Q.filter fun p => decide (v.ownBlock ≠ some p.1)).Perm ((g', cur', e) :: (F ++ Q.filter fun p => decide (v.ownBlock ≠ some p.1))) := List.perm_middle
    rw [(h2.map _).nodup_iff, List.map_cons, List.nodup_cons]
    refine ⟨fun hmm => ?_, h1⟩
    obtain ⟨p, hp, e2⟩ := List.mem_map.1 hmm
    exact hnew p hp e2
  · refine own_same (H.rows r hr) (fun k hk => keep k (H.rlt r hr k hk) (fun hv => ?_))
    obtain ⟨q, hq, e⟩ := hvm _ hv
    exact H.apart r hr q (List.mem_append_right _ hq) (by rw [e]; exact hk)
  · rcases hm p hp with rfl | h
    · intro hk
      rcases hg' with h | h
      · obtain ⟨q, hq, e⟩ := hvm _ h
        exact H.apart r hr q (List.mem_append_right _ hq) (by rw [e]; exact hk)
      · have := H.rlt r hr _ hk
        dsimp only at this
        omega
    · exact H.apart r hr p (hsub.subset h)
section
variable {P : Program} {ops : Array Oper} {Q : Exit → Act → World → Prop}
variable {a : Act}
/-- A drawn region of whose cells nothing is asked. -/
theorem Gt_start0 {id : Nat} {W W0 : World} {n : Nat} {Hs : List Nat} {l : List Blk} {R : List RowS} (d : Nat) (H : Sb Hs W0 W l R) (hm : P.follows .mixedOrders = true) (hn : ops.size = n)
    (h : ∀ w, Sb Hs W0 w l R → Gs P ops Q (TF d [] []) n (Array.replicate n false) a w) : (Code.region id ops true).wp P Q a W := by
  have hb := (Below.refl W.heap.size W).drew
  have H1 := H.call hb
  exact Gs_start hm hn (fun t ht _ => by simp [TF] at ht) (h _ H1)
theorem TF_none {d : Nat} {listed : Array Bool} {w : World} : Held (TF d [] []) listed w := fun t ht _ => by simp [TF] at ht
end
end Go.Proofs.YtdopfonebpklkaaGreat.game
namespace Go.Proofs.YtdopfonebpklkaaGreat.game
open Go.ChangeShapes Go.WideShapes Go.ChangeAt Go.RowKit dice
set_option maxRecDepth 100000

theorem swapBig (s : ByteArray) (peer : Int) (n : Nat) (ad : Option Addr) (c : Nat) (w0 : World) (h : 20 < s.size ∨ 30 < n) :
    Calls Tryz.prog 6 #[.string s, .slice ad n c, .int .i64 peer] w0 fun e w' => e = .returned (.bool true) ∧ Below w0.heap.size w0 w' := by
  rcases Nat.lt_or_ge 20 s.size with h1 | h1
  · clear h
    go_enter Tryz.func6, Tryz.ntmps6
    go_wp2_with fail
    refine (told_any _).mono ?_; rintro e w5 ⟨rfl, hb⟩
    go_wp2_with fail
    go_ret
    exact ⟨rfl, hb⟩
  · have h2 : 30 < n := by omega
    clear h
    go_enter Tryz.func6, Tryz.ntmps6
    go_wp2_with fail
    refine (told_any _).mono ?_; rintro e w5 ⟨rfl, hb⟩
    go_wp2_with fail
    go_ret
    exact ⟨rfl, hb⟩
theorem peer_at (x : Int) : ∃ p : Int, 0 ≤ p ∧ p < 12 ∧ Go.RowKit.wrap64 ((IntKind.u64.wrap x).tmod 12) = p := by
  have h0 : 0 ≤ IntKind.u64.wrap x := by rw [IntKind.wrap_u64]; exact Int.emod_nonneg _ (by decide)
  rw [Int.tmod_eq_emod_of_nonneg h0]
  generalize IntKind.u64.wrap x = x at *
  exact ⟨x % 12, by omega, by omega, IntWalk.wrap64_in _ (by omega)⟩
theorem evs_two {w0 w : World} {b : Nat} {x y : Evt} {l : List Blk} {R : List RowS} (H : Sb [] w0 w ((b, ((evC x).toList ++ (evC y).toList).toArray, 60) :: l) R) : EvW w (.slice (some ⟨b, 0, none⟩) 2 2) [x, y] := by
  refine .inr ⟨b, 0, 2, rfl, H.lt _ (List.mem_cons_self ..), fun j v hv => ?_⟩
  rw [Nat.zero_add, cell_of_row w b j _ 60 (0, 0) (H.holds _ (List.mem_cons_self ..)), List.getElem?_toArray]
  simpa [evsL, evL, evC] using hv
def seatC (q : Seat) : Array Value := #[.int .i64 q.peer, .int .i64 q.gen]
set_option maxHeartbeats 16000000 in
theorem swapWalk (sd : ByteArray) (peer : Int) (L : List Trn) (ad : Option Addr) (c : Nat) (w0 : World) (hs : sd.size ≤ 20) (hn : L.length ≤ 30) (hT : ∀ t ∈ L, t.ok) (hin : TrnW w0 (.slice ad L.length c) L) :
    Calls Tryz.prog 6 #[.string sd, .slice ad L.length c, .int .i64 peer] w0 fun e w' => e = .returned (.bool true) ∧ Below w0.heap.size w0 w' := by
  obtain ⟨D, hd⟩ : ∃ D, seed sd.data.toList = D := ⟨_, rfl⟩
  have hD : (Lit.int .u64 D).wf = true := by rw [← hd]; exact seed_wf _
  have hsm : sd.size ≤ maxLen := by unfold maxLen; omega
  have HM := Lib.hid (fun w h => make_b sd L (.slice ad L.length c) w hsm D hd hD hT h (by omega))
  have HS := Lib.hid (fun w => Start_any sd w hsm D hd)
  have HI := Lib.hid hin
  clear hsm hT hin hd
  go_enter Tryz.func6, Tryz.ntmps6
  go_wp2_with fail
  refine (HS.out _).mono ?_; rintro e wa ⟨rfl, hba⟩
  go_wp2_with fail
  refine (HM.out _ (HI.out.later hba)).mono ?_
  rintro e w1 ⟨hb1, ad7, c7, log, st, rfl, hc1, hc2, hlen, hwf, hrun, hlog⟩
  have Hb1 := Lib.hid (hba.trans (hb1.mono hba.size))
  have H := Sb.start w1
  have hl1 : log.length ≤ 30 := by omega
  obtain ⟨hstw, hstm, hstf⟩ := runF_full hD hrun
  obtain ⟨hge, hve⟩ := start_gens hD (fun e he => (hwf e he).2) hrun
  have hS0 := startS_full D hD
  have HRun := Lib.hid (fun w l R (H : Sb [] w1 w l R) => Run_in (startS D) (.slice none 0 0) log (.slice ad7 log.length c7) w1 w l R H (lie_nil _ _) hS0.g hS0.t8 (fun e he => (hwf e he).1) (hlog.later H.below) (by omega))
  rw [hrun] at HRun
  have Hst := Lib.hid hstw
  have Hmy := Lib.hid hstm
  have Hfr := Lib.hid (show st.g.fr ≤ 30 by omega)
  have Hver := Lib.hid (show st.ver ≤ 30 by omega)
  have Hge : Hid (∀ q ∈ st.T, q.gen ≤ 30) := Lib.hid (fun q hq => Int.le_trans (hge q hq) (by omega))
  have Hz := Lib.hid (fun sl => sc_size (s := st) (sl := sl) hstw.g.s8 hstw.t8)
  have Hsp : Hid (∀ sl, splice zC 0 (Value.cells (.agg (stateC st sl))).toList = stateC st sl) := Lib.hid (fun sl => splice_all _ _ (by rw [zC_size]; exact (Hz.out sl).symm))
  have HQ := Lib.hid (fun sl k j q v h h' => sc_seat (s := st) (sl := sl) hstw.g.s8 k j q v h h')
  have HRs := Lib.hid (fun sl j v h => sc_roster (s := st) (sl := sl) hstw.g.s8 j v h)
  have Hrz := Lib.hid (rc_size (ver := st.ver) hstw.t8)
  have HVr := Lib.hid (fun sl => sc_ver (s := st) (sl := sl) hstw.g.s8)
  have Ht8 := Lib.hid hstw.t8
  have HSl := Lib.hid (fun w p => rslot_b st.ver st.T p w hstw.t8)
  clear hba hb1 HM hs hn hlen hl1 hstw hstm hstf hge hve hS0 hwf hrun hlog hD HI HS hc1 hc2
  go_wp2_with fail
  refine (HRun.out _ _ _ H).mono ?_
  rintro e w5 ⟨⟨sl1, R1, rfl, H1, hL, hR1⟩, -⟩
  clear H
  have H := H1
  clear H1 hR1 HRun
  have hL1 := Lib.hid (show LieIn w1 R1 sl1 st.g.L from hL)
  clear hL
  have HO1 := Lib.hid (sc_oneI (s := st) (hL1.out.shots H))
  obtain ⟨p, hp0, hp1, hpv⟩ := peer_at peer
  go_upto_region 7 with (first | (refine wb_alloc H rfl 35 rfl _ Tryz.zeroValue35 ?_; clear H; intro b7 w H) | (refine wb_put H rfl 0 35 _ _ rfl _ 0 rfl _ _ rfl (.agg (stateC st sl1)) rfl 76 info35 (Hz.out sl1) (Nat.le_of_ble_eq_true rfl) HO1.out _ (Hsp.out sl1) ?_; clear H; intro w H))
  replace H : Sb [] w1 w [(b7, stateC st sl1, 35)] R1 := H
  rw [hpv]
  clear hpv
  have Hp := Lib.hid (show 0 ≤ p ∧ p < 12 from ⟨hp0, hp1⟩)
  clear hp0 hp1
  go_upto_region 8 with fail
  have HB := Lib.hid H
  clear H
  go_loopw [10] (fun i W => ∃ (k : Nat) (R : List RowS), k ≤ 8 ∧ i = .int .i64 k ∧ Hid (Sb [] w1 W [(b7, stateC st sl1, 35)] R) ∧ Hid (LieIn w1 R sl1 st.g.L)) (fun i _ => 8 - (intOf i).toNat)
  case atStart => exact ⟨0, R1, Nat.zero_le _, rfl, HB, hL1⟩
  case round =>
    clear HB hL1
    obtain ⟨k, R, hk, rfl, HB, hL1⟩ := hrel
    by_cases hlt : k < 8
    · obtain ⟨x, hx⟩ : ∃ x, st.T[k]? = some x := ⟨st.T[k]'(by rw [Ht8.out]; exact hlt), List.getElem?_eq_getElem _⟩
      have Hx := Lib.hid hx
      have Hxg := Lib.hid (Hge.out x (List.mem_of_getElem? hx))
      have HP : Hid (∀ j v, [Value.int .i64 x.peer, .int .i64 x.gen][j]? = some v → (stateC st sl1)[60 + k * 2 + j]? = some v) := Lib.hid (fun j v hv => HQ.out sl1 k j x v hx hv)
      have H := HB.out
      have hlt' : (k : Int) < 8 := by omega
      clear HB hx
      go_upto_region 11 with (first | (refine wb_part H rfl 0 30 _ rfl _ (60 + k * 2) rfl _ _ rfl _ Tryz.underlying30 rfl 2 info30 [.int .i64 x.peer, .int .i64 x.gen] HP.out rfl ?_) | (refine wb_alloc H rfl 30 rfl _ Tryz.zeroValue30 ?_; clear H; intro b11 w H) | (refine wb_put H rfl 0 30 _ _ rfl _ 0 rfl _ _ rfl (.agg #[.int .i64 x.peer, .int .i64 x.gen]) rfl 2 info30 rfl (Nat.le_of_ble_eq_true rfl) rfl (seatC x) rfl ?_; clear H; intro w H))
      replace H : Sb [] w1 w [(b11, seatC x, 30), (b7, stateC st sl1, 35)] R := H
      have c0 : w.cell? ⟨b11, 0, none⟩ = some (.int .i64 x.peer) := cell_of_row w b11 0 _ 30 (0, 0) (H.holds _ (List.mem_cons_self ..))
      by_cases hp : 0 ≤ x.peer
      rotate_left
      · have qp : decide (x.peer < 0) = true := decide_eq_true (by omega)
        have HB := Lib.hid H.tail
        clear H hp
        go_wp2_with fail
        exact ⟨⟨k + 1, R, hlt, rfl, HB, hL1⟩, by simp only [intOf]; omega⟩
      have qp : decide (x.peer < 0) = false := decide_eq_false (by omega)
      have Hp2 := Lib.hid hp
      clear hp
      go_wp2_with (refine wb_part H rfl 1 33 _ rfl _ 59 rfl _ _ rfl _ Tryz.underlying33 rfl 17 info33 (rosterC st.ver st.T).toList (fun j v h => HRs.out sl1 j v (by simpa using h)) (by rw [Array.length_toList]; exact Hrz.out) ?_; rw [Array.toArray_toList])
      refine (HSl.out _ p).mono ?_; rintro e w5 ⟨rfl, hb⟩
      replace H := H.call hb
      clear hb c0
      by_cases ho : 0 ≤ ofI st.ver st.T p
      · have qo : decide (0 ≤ ofI st.ver st.T p) = true := decide_eq_true ho
        have HB := Lib.hid H.tail
        clear H ho
        go_wp2_with fail
        exact ⟨⟨k + 1, R, hlt, rfl, HB, hL1⟩, by simp only [intOf]; omega⟩
      have qo : decide (0 ≤ ofI st.ver st.T p) = false := decide_eq_false ho
      obtain ⟨t, hap, htT, htv, cs, htc, hton⟩ := swap_yes Hmy.out Hx.out hlt Hp.out.1 Hp.out.2 Hp2.out (by omega) (by have := Hxg.out; omega) (by have := Hver.out; omega) (by have := Hfr.out; omega)
      have Hap := Lib.hid hap
      have hwt := applyF_wf Hst.out.g Hst.out.t8 hap
      have Hzt := Lib.hid (fun sl => sc_size (s := t) (sl := sl) hwt.1.s8 hwt.2)
      have Hspt : Hid (∀ sl, splice zC 0 (Value.cells (.agg (stateC t sl))).toList = stateC t sl) := Lib.hid (fun sl => splice_all _ _ (by rw [zC_size]; exact (Hzt.out sl).symm))
      have D0 := Lib.hid (fun sl => sc_seat (s := t) (sl := sl) hwt.1.s8 k 0 _ (.int .i64 p) htT rfl)
      have D1 := Lib.hid (fun sl => sc_seat (s := t) (sl := sl) hwt.1.s8 k 1 _ (.int .i64 (x.gen + 1)) htT rfl)
      have D2 := Lib.hid (fun sl => show (stateC t sl)[2 + k * 7]? = some (.bool true) by have := sc_ship (s := t) (sl := sl) k 0 cs (.bool cs.on) htc rfl; rwa [hton] at this)
      have D3 := Lib.hid (fun sl => show (stateC t sl)[59]? = some (.int .i64 (st.ver + 2)) by rw [← htv]; exact sc_ver hwt.1.s8)
      have hv0 := (mayR_iff.1 Hmy.out.r).1
      have hg0 := ((mayR_iff.1 Hmy.out.r).2.2.1 x (List.mem_of_getElem? Hx.out)).2.2.1
      have hx11 := ((mayR_iff.1 Hmy.out.r).2.2.1 x (List.mem_of_getElem? Hx.out)).2.1
      have HWA : Hid ((evA k x).wf) := Lib.hid ⟨rfl, w64' (by show (-9223372036854775808 : Int) ≤ (k : Int); omega) (by show (k : Int) ≤ 9223372036854775807; omega), w64' (by show (-9223372036854775808 : Int) ≤ x.gen; omega) (by show x.gen ≤ 9223372036854775807; have := Hxg.out; omega), w64' (by show (-9223372036854775808 : Int) ≤ x.peer; have := Hp2.out; omega) (by show x.peer ≤ 9223372036854775807; omega)⟩
      have HWB : Hid ((evB k x p).wf) := Lib.hid ⟨rfl, w64' (by show (-9223372036854775808 : Int) ≤ (k : Int); omega) (by show (k : Int) ≤ 9223372036854775807; omega), w64' (by show (-9223372036854775808 : Int) ≤ x.gen + 1; omega) (by show x.gen + 1 ≤ 9223372036854775807; have := Hxg.out; omega), w64' (by show (-9223372036854775808 : Int) ≤ p; have := Hp.out.1; omega) (by show p ≤ 9223372036854775807; have := Hp.out.2; omega)⟩
      have hgw : Go.RowKit.wrap64 (x.gen + 1) = x.gen + 1 := IntWalk.wrap64_in _ (by have := Hxg.out; omega)
      have hvw : Go.RowKit.wrap64 (st.ver + 2) = st.ver + 2 := IntWalk.wrap64_in _ (by have := Hver.out; omega)
      have Hgw := Lib.hid (show x.gen + 1 ≤ 31 ∧ 0 ≤ x.gen from ⟨by have := Hxg.out; omega, hg0⟩)
      have Hvw := Lib.hid (show st.ver + 2 ≤ 32 ∧ 0 ≤ st.ver from ⟨by have := Hver.out; omega, hv0⟩)
      have HEqS : Hid (∀ w, (Op.equalIn 10000 30 (.agg #[.int .i64 p, .int .i64 (x.gen + 1)]) (.agg #[.int .i64 p, .int .i64 (x.gen + 1)])).run Tryz.prog w = .ok true w) := Lib.hid (fun w => by
        have := eq30w w ⟨p, x.gen + 1⟩ ⟨p, x.gen + 1⟩ ⟨HWB.out.peer, HWB.out.gen⟩ ⟨HWB.out.peer, HWB.out.gen⟩
        simpa using this)
      have C0 : Hid ((stateC st sl1)[0]? = some (.int .i64 st.g.fr)) := Lib.hid sc_fr
      have HeA : Hid ((⟨st.g.fr, [evA k x, evB k x p], z8⟩ : Ent).wf) := Lib.hid ⟨rfl, z8_ok, fun y hy => by simp at hy; rcases hy with rfl | rfl; exact HWA.out; exact HWB.out, by simp⟩
      have HeB : Hid ((⟨st.g.fr, [evB k x p, evA k x], z8⟩ : Ent).wf) := Lib.hid ⟨rfl, z8_ok, fun y hy => by simp at hy; rcases hy with rfl | rfl; exact HWB.out; exact HWA.out, by simp⟩
      have Hent2 : Hid (∃ i z, Tryz.prog.info? 60 = some i ∧ i.zero = some z ∧ i.size = 4) := Lib.hid info_ev
      clear hap htT htv htc hton hwt hv0 hg0 hx11 ho hgw hvw
      have hgn := Hgw.out
      go_upto_region 13 with (first | (refine wb_cell H rfl 0 3 _ rfl _ 1 rfl _ _ rfl Tryz.isAgg3 (.int .i64 x.gen) rfl ?_) | (refine wb_cell H rfl 0 3 _ rfl _ 0 rfl _ _ rfl Tryz.isAgg3 (.int .i64 x.peer) rfl ?_) | (refine wl_build rfl 60 _ rfl (evC (evA k x)) (by kernel_rfl) ?_) | (refine wb_alloc H rfl 60 rfl _ Tryz.zeroValue60 ?_; clear H; intro b12 w H) | (refine wb_put H rfl 0 60 _ _ rfl _ 0 rfl _ _ rfl (.agg (evC (evA k x))) rfl 4 info60e rfl (Nat.le_of_ble_eq_true rfl) rfl (evC (evA k x)) rfl ?_; clear H; intro w H))
      replace H : Sb [] w1 w [(b12, evC (evA k x), 60), (b11, seatC x, 30), (b7, stateC st sl1, 35)] R := H
      go_upto_region 14 with (first | (refine wb_cell H rfl 1 3 _ rfl _ 1 rfl _ _ rfl Tryz.isAgg3 (.int .i64 x.gen) rfl ?_) | (refine wl_build rfl 60 _ rfl (evC (evB k x p)) (by kernel_rfl) ?_) | (refine wb_alloc H rfl 60 rfl _ Tryz.zeroValue60 ?_; clear H; intro b13 w H) | (refine wb_put H rfl 0 60 _ _ rfl _ 0 rfl _ _ rfl (.agg (evC (evB k x p))) rfl 4 info60e rfl (Nat.le_of_ble_eq_true rfl) rfl (evC (evB k x p)) rfl ?_; clear H; intro w H))
      replace H : Sb [] w1 w [(b13, evC (evB k x p), 60), (b12, evC (evA k x), 60), (b11, seatC x, 30), (b7, stateC st sl1, 35)] R := H
      go_wp2_with (first | (refine wb_whole H rfl 3 35 _ rfl _ rfl (stateC st sl1) rfl _ Tryz.underlying35 rfl 76 info35 (Hz.out sl1) ?_) | (refine wb_cell H rfl 3 3 _ rfl _ 0 rfl _ _ rfl Tryz.isAgg3 (.int .i64 st.g.fr) C0.out ?_) | (refine wb_whole H rfl 1 60 _ rfl _ rfl (evC (evA k x)) rfl _ Tryz.underlying60 rfl 4 info60e rfl ?_) | (refine wb_whole H rfl 0 60 _ rfl _ rfl (evC (evB k x p)) rfl _ Tryz.underlying60 rfl 4 info60e rfl ?_) | (refine wb_mk2 H rfl 36 60 _ _ rfl Tryz.underlying36 (evC (evA k x)) (evC (evB k x p)) rfl rfl 4 info_ev rfl rfl (by decide) (by decide) ?_; clear H; intro bs w H) | (refine wl_build rfl 42 _ rfl (entC ⟨st.g.fr, [evA k x, evB k x p], z8⟩ (.slice (some ⟨bs, 0, none⟩) 2 2)) (by kernel_rfl) ?_))
      refine (Apply_in st sl1 ⟨st.g.fr, [evA k x, evB k x p], z8⟩ _ w1 _ _ _ H hL1.out Hst.out.g Hst.out.t8 HeA.out (evs_two H)).mono ?_
      rw [Hap.out]
      rintro e w5 ⟨⟨sl3, R3, rfl, H1, hL, hR3⟩, -⟩
      clear H
      have H := H1
      clear H1
      have hL3 := Lib.hid (show LieIn w1 R3 sl3 t.g.L from hL)
      have hL1b := Lib.hid (hL1.out.mono hR3)
      clear hL hR3 hL1
      have HO3 := Lib.hid (sc_oneI (s := t) (hL3.out.shots H))
      go_upto_region 15 with (first | (refine wb_alloc H rfl 35 rfl _ Tryz.zeroValue35 ?_; clear H; intro b14 w H) | (refine wb_put H rfl 0 35 _ _ rfl _ 0 rfl _ _ rfl (.agg (stateC t sl3)) rfl 76 info35 (Hzt.out sl3) (Nat.le_of_ble_eq_true rfl) HO3.out _ (Hspt.out sl3) ?_; clear H; intro w H))
      replace H : Sb [] w1 w ((b14, stateC t sl3, 35) :: (bs, ((evC (evA k x)).toList ++ (evC (evB k x p)).toList).toArray, 60) :: [(b13, evC (evB k x p), 60), (b12, evC (evA k x), 60), (b11, seatC x, 30), (b7, stateC st sl1, 35)]) R3 := H
      go_wp2_with (first | (refine wb_whole H rfl 5 35 _ rfl _ rfl (stateC st sl1) rfl _ Tryz.underlying35 rfl 76 info35 (Hz.out sl1) ?_) | (refine wb_cell H rfl 5 3 _ rfl _ 0 rfl _ _ rfl Tryz.isAgg3 (.int .i64 st.g.fr) C0.out ?_) | (refine wb_whole H rfl 3 60 _ rfl _ rfl (evC (evA k x)) rfl _ Tryz.underlying60 rfl 4 info60e rfl ?_) | (refine wb_whole H rfl 2 60 _ rfl _ rfl (evC (evB k x p)) rfl _ Tryz.underlying60 rfl 4 info60e rfl ?_) | (refine wb_mk2 H rfl 36 60 _ _ rfl Tryz.underlying36 (evC (evB k x p)) (evC (evA k x)) rfl rfl 4 info_ev rfl rfl (by decide) (by decide) ?_; clear H; intro bt w H) | (refine wl_build rfl 42 _ rfl (entC ⟨st.g.fr, [evB k x p, evA k x], z8⟩ (.slice (some ⟨bt, 0, none⟩) 2 2)) (by kernel_rfl) ?_))
      refine (Apply_in st sl1 ⟨st.g.fr, [evB k x p, evA k x], z8⟩ _ w1 _ _ _ H hL1b.out Hst.out.g Hst.out.t8 HeB.out (evs_two H)).mono ?_
      rw [swap_no]
      rintro e w6 ⟨⟨sl4, R4, rfl, H1, hL, hR4⟩, -⟩
      clear H
      have H := H1
      clear H1
      have hL4 := Lib.hid (show LieIn w1 R4 sl4 st.g.L from hL)
      have hL1c := Lib.hid (hL1b.out.mono hR4)
      clear hL hR4 hL1b
      have HO4 := Lib.hid (sc_oneI (s := st) (hL4.out.shots H))
      go_upto_region 16 with (first | (refine wb_alloc H rfl 35 rfl _ Tryz.zeroValue35 ?_; clear H; intro b16 w H) | (refine wb_put H rfl 0 35 _ _ rfl _ 0 rfl _ _ rfl (.agg (stateC st sl4)) rfl 76 info35 (Hz.out sl4) (Nat.le_of_ble_eq_true rfl) HO4.out _ (Hsp.out sl4) ?_; clear H; intro w H))
      replace H : Sb [] w1 w ((b16, stateC st sl4, 35) :: (bt, ((evC (evB k x p)).toList ++ (evC (evA k x)).toList).toArray, 60) :: (b14, stateC t sl3, 35) :: (bs, ((evC (evA k x)).toList ++ (evC (evB k x p)).toList).toArray, 60) :: [(b13, evC (evB k x p), 60), (b12, evC (evA k x), 60), (b11, seatC x, 30), (b7, stateC st sl1, 35)]) R4 := H
      have HD := H.call ((Below.refl _ w).drew)
      have d0 : w.drew.cell? ⟨b14, 60 + k * 2, none⟩ = some (.int .i64 p) := (cell_of_row _ b14 _ _ 35 (0, 0) (HD.holds _ (List.mem_cons_of_mem _ (List.mem_cons_of_mem _ (List.mem_cons_self ..))))).trans (D0.out sl3)
      have d1 : w.drew.cell? ⟨b14, 60 + k * 2 + 1, none⟩ = some (.int .i64 (x.gen + 1)) := (cell_of_row _ b14 _ _ 35 (0, 0) (HD.holds _ (List.mem_cons_of_mem _ (List.mem_cons_of_mem _ (List.mem_cons_self ..))))).trans (D1.out sl3)
      have d2 : w.drew.cell? ⟨b14, 2 + k * 7, none⟩ = some (.bool true) := (cell_of_row _ b14 _ _ 35 (0, 0) (HD.holds _ (List.mem_cons_of_mem _ (List.mem_cons_of_mem _ (List.mem_cons_self ..))))).trans (D2.out sl3)
      have d3 : w.drew.cell? ⟨b14, 59, none⟩ = some (.int .i64 (st.ver + 2)) := (cell_of_row _ b14 _ _ 35 (0, 0) (HD.holds _ (List.mem_cons_of_mem _ (List.mem_cons_of_mem _ (List.mem_cons_self ..))))).trans (D3.out sl3)
      have d4 : w.drew.cell? ⟨b7, 59, none⟩ = some (.int .i64 st.ver) := (cell_of_row _ b7 _ _ 35 (0, 0) (HD.holds _ (List.mem_cons_of_mem _ (List.mem_cons_of_mem _ (List.mem_cons_of_mem _ (List.mem_cons_of_mem _ (List.mem_cons_of_mem _ (List.mem_cons_of_mem _ (List.mem_cons_of_mem _ (List.mem_cons_self ..)))))))))).trans (HVr.out sl1)
      have d5 : w.drew.cell? ⟨b11, 1, none⟩ = some (.int .i64 x.gen) := cell_of_row _ b11 _ _ 30 (0, 0) (HD.holds _ (List.mem_cons_of_mem _ (List.mem_cons_of_mem _ (List.mem_cons_of_mem _ (List.mem_cons_of_mem _ (List.mem_cons_of_mem _ (List.mem_cons_of_mem _ (List.mem_cons_self ..))))))))
      have heq := HEqS.out
      have hvn := Hvw.out
      replace HD := Lib.hid HD
      clear H
      go_region
      have H := HD.out
      clear HD d0 d1 d2 d3 d4 d5 heq
      go_wp2_with fail
      exact ⟨⟨k + 1, R4, hlt, rfl, Lib.hid H.tail.tail.tail.tail.tail.tail.tail, hL1c⟩, by simp only [intOf]; omega⟩
    · obtain rfl : k = 8 := by omega
      have H := HB.out
      clear HB hlt
      go_wp2_with fail
      refine (told_any _).mono ?_; rintro e w6 ⟨rfl, hb⟩
      replace H := H.call hb
      clear hb
      go_wp2_with fail
      go_ret
      exact ⟨rfl, Hb1.out.trans (H.below.mono Hb1.out.size)⟩
end Go.Proofs.YtdopfonebpklkaaGreat.game
