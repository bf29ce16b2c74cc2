/- Logs put together anew. FoldWrong: the walk (printed by mkxn.py). -/
import Derived.Test.YtdopfonebpklkaaGreatFoldRuns24
import Derived.Test.YtdopfonebpklkaaGreatFoldRuns16
namespace Go.Proofs.YtdopfonebpklkaaGreat.game
open Go.ChangeShapes Go.WideShapes Go.ChangeAt Go.RowKit dice
set_option maxRecDepth 100000

theorem ents_flat {W : World} {g : Nat} : ∀ (log : List Ent) (es : List Value) (o : Nat), es.length = log.length → (∀ e ∈ log, e.ins.length = 8) → (∀ (k : Nat) (e : Ent) (s : Value), log[k]? = some e → es[k]? = some s → W.rangeAt g (o + k * 26) (entC e s).toList) → ∀ j u, (entsL log es)[j]? = some u → W.cell? ⟨g, o + j, none⟩ = some u
  | [], _, _, _, _, _, j, u, h => by simp [entsL] at h
  | e :: log, [], _, h, _, _, _, _, _ => by simp at h
  | e :: log, s :: es, o, hl, h8, hr, j, u, h => by
    unfold entsL at h
    have h26 : (entC e s).toList.length = 26 := by rw [Array.length_toList, en_size (h8 e (List.mem_cons_self ..))]
    rw [List.zip_cons_cons, List.flatMap_cons] at h
    by_cases hj : j < 26
    · rw [List.getElem?_append_left (by rw [h26]; exact hj)] at h
      have := hr 0 e s rfl rfl j u h
      simpa using this
    · rw [List.getElem?_append_right (by rw [h26]; omega), h26] at h
      have ih := ents_flat (W := W) (g := g) log es (o + 26) (by simpa using hl) (fun e he => h8 e (List.mem_cons_of_mem _ he)) (fun k e' s' he hs => by
        have := hr (k + 1) e' s' (by simpa using he) (by simpa using hs)
        rwa [show o + (k + 1) * 26 = o + 26 + k * 26 by omega] at this) (j - 26) u h
      rwa [show o + 26 + (j - 26) = o + j by omega] at ih
theorem logW_of {W : World} {v : Value} {log : List Ent} {es : List Value} (hl : es.length = log.length) (h8 : ∀ e ∈ log, e.ins.length = 8) (hev : ∀ (k : Nat) (e : Ent) (s : Value), log[k]? = some e → es[k]? = some s → EvW W s e.evs) (ho : W.ownsRow 0 42 26 v log.length (entsL log es)) : LogW W v log := by
  refine ⟨es, hl, hev, ?_⟩
  rcases ho.2 with ⟨rfl, h0⟩ | ⟨g, cap, cur, rfl, _, hg, _⟩
  · exact .inl ⟨List.eq_nil_of_length_eq_zero h0, _, _, rfl⟩
  · refine .inr ⟨g, 0, cap, rfl, (Array.getElem?_eq_some_iff.1 hg).1, fun k e s he hs' j u hu => ?_⟩
    have := ho.cells (g := g) rfl _ u (entsL_at log es k j e s u h8 he hs' hu)
    rw [add_n] at this
    rw [show 0 + k * 26 + j = 0 + (k * 26 + j) by omega]
    exact this
theorem entsL_append {a b : List Ent} {x y : List Value} (h : x.length = a.length) : entsL (a ++ b) (x ++ y) = entsL a x ++ entsL b y := by
  unfold entsL
  rw [List.zip_append h.symm, List.flatMap_append]
theorem entsL_one {W : World} {log : List Ent} {es : List Value} (hev : ∀ (k : Nat) (e : Ent) (s : Value), log[k]? = some e → es[k]? = some s → EvW W s e.evs) : ∀ u ∈ entsL log es, u.oneCell' = true := fun u hu => by
  obtain ⟨p, hp, hu⟩ := List.mem_flatMap.1 hu
  obtain ⟨k, hk⟩ := List.mem_iff_getElem?.1 hp
  rw [List.getElem?_zip_eq_some] at hk
  exact List.all_eq_true.1 (ent_one (hev k p.1 p.2 hk.1 hk.2)) u hu
theorem drop_cons {α : Type} {l : List α} {k : Nat} (h : k < l.length) : l.drop k = l[k] :: l.drop (k + 1) := List.drop_eq_getElem_cons h
theorem runF_next {u t : Ste} {l : List Ent} {e : Ent} (h : runF u (e :: l) = some t) : e.fr = u.g.fr := by
  unfold runF at h
  obtain ⟨x, hx, _⟩ := Option.bind_eq_some_iff.1 h
  unfold applyF at hx
  split at hx
  · rename_i hc
    exact hc.2.2
  · cases hx
theorem runF_stop {u : Ste} {l : List Ent} {e : Ent} (h : e.fr ≠ u.g.fr) : runF u (e :: l) = none := by
  unfold runF
  have : applyF u e = none := by
    unfold applyF
    rw [if_neg (fun hc => h hc.2.2)]
  rw [this]
  rfl
theorem at_frame {D : Int} (hD : (Lit.int .u64 D).wf = true) {log : List Ent} {st : Ste} (h : runF (startS D) log = some st) {k : Nat} (hk : k < log.length) : (log[k]).fr = k := by
  obtain ⟨u, h1, h2⟩ := runF_parts h k
  have hf := (runF_full hD h1).2.2
  rw [drop_cons hk] at h2
  rw [runF_next h2, hf, List.length_take, Nat.min_eq_left (by omega)]
theorem runF_without {D : Int} (hD : (Lit.int .u64 D).wf = true) {log : List Ent} {st : Ste} (h : runF (startS D) log = some st) {k : Nat} (hk : k + 1 < log.length) : runF (startS D) (log.take k ++ log.drop (k + 1)) = none := by
  obtain ⟨u, h1, _⟩ := runF_parts h k
  have hf := (runF_full hD h1).2.2
  rw [runF_append, h1, Option.bind_some, drop_cons hk]
  refine runF_stop ?_
  rw [at_frame hD h hk, hf, List.length_take, Nat.min_eq_left (by omega)]
  omega
theorem runF_twice {D : Int} (hD : (Lit.int .u64 D).wf = true) {log : List Ent} {st : Ste} (h : runF (startS D) log = some st) {k : Nat} (hk : k + 1 < log.length) : runF (startS D) (log.take (k + 1) ++ log.drop k) = none := by
  obtain ⟨u, h1, _⟩ := runF_parts h (k + 1)
  have hf := (runF_full hD h1).2.2
  rw [runF_append, h1, Option.bind_some, drop_cons (show k < log.length by omega)]
  refine runF_stop ?_
  rw [at_frame hD h (by omega), hf, List.length_take, Nat.min_eq_left (by omega)]
  omega
theorem mk0 (w : World) : (Instr.buildSlice 52 0 #[]).run Tryz.prog w = .ok (.slice (some ⟨w.heap.size, 0, none⟩) 0 0) (w.alloc (.cells #[] 42)) := by
  have i52 := Tryz.underlying52
  obtain ⟨i, hi, _, hz, _⟩ := info_ent
  simp [Instr.buildSlice, run_underlying i52, sizeOf, typeInfo, hi, newRow, Instr.fill]
  congr 2
  exact Array.eq_empty_of_size_eq_zero (by simp)
theorem cut_at2 (cut : Int) (n : Nat) (h2 : 2 ≤ n) (hn : n ≤ 1000) : ∃ k : Nat, k + 1 < n ∧ Go.RowKit.wrap64 ((IntKind.u64.wrap cut).tmod ((n : Int) - 1)) = (k : Int) := by
  have h0 : 0 ≤ IntKind.u64.wrap cut := by rw [IntKind.wrap_u64]; exact Int.emod_nonneg _ (by decide)
  rw [Int.tmod_eq_emod_of_nonneg h0]
  generalize IntKind.u64.wrap cut = x at *
  have a := Int.emod_nonneg x (show (n : Int) - 1 ≠ 0 by omega)
  have b := Int.emod_lt_of_pos x (show (0 : Int) < (n : Int) - 1 by omega)
  generalize x % ((n : Int) - 1) = y at *
  exact ⟨y.toNat, by omega, by rw [IntWalk.wrap64_in _ (by omega)]; omega⟩
/-- Two parts of a log, laid one behind the other in a row of one's own. -/
structure Two (W : World) (log : List Ent) (es : List Value) (g o : Nat) : Prop where
  len : es.length = log.length
  i8 : ∀ e ∈ log, e.ins.length = 8
  ev : ∀ (k : Nat) (e : Ent) (s : Value), log[k]? = some e → es[k]? = some s → EvW W s e.evs
  lt : g < W.heap.size
  row : ∀ (k : Nat) (e : Ent) (s : Value), log[k]? = some e → es[k]? = some s → W.rangeAt g (o + k * 26) (entC e s).toList
theorem Two.later {W W' : World} {log : List Ent} {es : List Value} {g o : Nat} (h : Two W log es g o) (hb : Below W.heap.size W W') : Two W' log es g o :=
  ⟨h.len, h.i8, fun k e s a b => (h.ev k e s a b).later hb, Nat.lt_of_lt_of_le h.lt hb.size, fun k e s a b j u hu => (hb.cell (p := ⟨g, o + k * 26 + j, none⟩) h.lt).trans (h.row k e s a b j u hu)⟩
theorem Two.take {W : World} {log : List Ent} {es : List Value} {g o : Nat} (h : Two W log es g o) (k : Nat) : Two W (log.take k) (es.take k) g o := by
  have at' : ∀ {α : Type} (l : List α) (j : Nat) (x : α), (l.take k)[j]? = some x → l[j]? = some x := fun l j x hx => by
    rw [List.getElem?_take] at hx
    split at hx
    · exact hx
    · cases hx
  exact ⟨by simp [h.len], fun e he => h.i8 e (List.mem_of_mem_take he), fun j e s a b => h.ev j e s (at' _ _ _ a) (at' _ _ _ b), h.lt, fun j e s a b => h.row j e s (at' _ _ _ a) (at' _ _ _ b)⟩
theorem Two.drop {W : World} {log : List Ent} {es : List Value} {g o : Nat} (h : Two W log es g o) (k : Nat) : Two W (log.drop k) (es.drop k) g (o + k * 26) := by
  refine ⟨by simp [h.len], fun e he => h.i8 e (List.mem_of_mem_drop he), fun j e s a b => ?_, h.lt, fun j e s a b => ?_⟩
  · rw [List.getElem?_drop] at a b
    exact h.ev _ e s a b
  · rw [List.getElem?_drop] at a b
    have := h.row _ e s a b
    rwa [Nat.add_mul, ← Nat.add_assoc] at this
theorem Two.cells {W : World} {log : List Ent} {es : List Value} {g o : Nat} (h : Two W log es g o) : ∀ j u, (entsL log es)[j]? = some u → W.cell? ((⟨g, o, none⟩ : Addr).add j) = some u := fun j u hu => by
  rw [add_n]
  exact ents_flat log es o h.len h.i8 h.row j u hu
theorem Two.joined {W : World} {a b : List Ent} {x y : List Value} {g o g' o' : Nat} {v : Value} (h : Two W a x g o) (h' : Two W b y g' o') (ho : W.ownsRow 0 42 26 v (a.length + b.length) (entsL a x ++ entsL b y)) : LogW W v (a ++ b) := by
  refine logW_of (es := x ++ y) (by simp [h.len, h'.len]) (fun e he => ?_) (fun k e s he hs => ?_) (by rw [entsL_append h.len, List.length_append]; exact ho)
  · rcases List.mem_append.1 he with h1 | h1
    · exact h.i8 e h1
    · exact h'.i8 e h1
  · by_cases hk : k < a.length
    · rw [List.getElem?_append_left hk] at he
      rw [List.getElem?_append_left (by rw [h.len]; exact hk)] at hs
      exact h.ev k e s he hs
    · rw [List.getElem?_append_right (by omega)] at he
      rw [List.getElem?_append_right (by rw [h.len]; omega), h.len] at hs
      exact h'.ev _ e s he hs
theorem LogW.two {W : World} {ad : Option Addr} {c : Nat} {log : List Ent} (h : LogW W (.slice ad log.length c) log) (h8 : ∀ e ∈ log, e.ins.length = 8) (hp : 0 < log.length) : ∃ g o es, ad = some ⟨g, o, none⟩ ∧ Two W log es g o := by
  obtain ⟨es, h1, h2, h3⟩ := h
  rcases h3 with ⟨rfl, _⟩ | ⟨g, o, c2, e, hg, hr⟩
  · simp at hp
  · injection e with e1 e2 e3
    exact ⟨g, o, es, e1, h1, h8, h2, hg, hr⟩
/-- What an append to such a row leaves. -/
theorem Sb.appendRowN {Hs : List Nat} {W0 w w' : World} {R : List RowS} {n' : Nat} {F Q : List Blk} {e : TypeId} {size n : Nat} {v v' : Value} {xs ys : List Value} (H : Sb Hs W0 w (F ++ Q) R) (hrow : RowIn e size Q v n xs) (ho : w'.ownsRow 0 e size v' n' ys) (hne : v' ≠ .slice none 0 0) (hg : w.grownBy w' v.ownBlock) (hb : v'.ownBlock = v.ownBlock ∨ v'.ownBlock = some w.heap.size) :
    ∃ Q', Sb Hs W0 w' (F ++ Q') R ∧ RowIn e size Q' v' n' ys ∧ ∀ p ∈ Q, v.ownBlock ≠ some p.1 → p ∈ Q' := by
  obtain ⟨g', cap', cur', rfl, _, hgg, hnc, hcm, hcs, htake⟩ : ∃ g cap cur, v' = .slice (some ⟨g, 0, none⟩) n' cap ∧ 0 ≤ g ∧ w'.heap[g]? = some (.cells cur e (0, 0)) ∧ n' ≤ cap ∧ cap ≤ maxLen ∧ cur.size = cap * size ∧ cur.toList.take (n' * size) = ys := by
    rcases ho.2 with ⟨h0, _⟩ | h
    · exact absurd h0 hne
    · exact h
  have hg' : v.ownBlock = some g' ∨ g' = w.heap.size := by
    rcases hb with h | h
    · exact .inl h.symm
    · exact .inr (Option.some.inj h)
  have hvm : ∀ g, v.ownBlock = some g → ∃ p ∈ Q, p.1 = g := fun g hv => by
    rcases hrow.2 with ⟨rfl, _⟩ | ⟨g2, cap, cur, rfl, hm, _⟩
    · simp [Value.ownBlock] at hv
    · simp [Value.ownBlock] at hv
      exact ⟨_, hm, hv⟩
  have hFne : ∀ p ∈ F, v.ownBlock ≠ some p.1 := fun p hp hv => by
    obtain ⟨q, hq, e⟩ := hvm _ hv
    have := H.nd
    rw [List.map_append, List.nodup_append] at this
    exact this.2.2 _ (List.mem_map_of_mem hp) _ (List.mem_map_of_mem hq) e.symm
  have keep : ∀ k, k < w.heap.size → v.ownBlock ≠ some k → w'.heap[k]? = w.heap[k]? := fun k hk hn => hg.block k hk (fun e => hn e.symm)
  have hsub : (F ++ Q.filter fun p => decide (v.ownBlock ≠ some p.1)).Sublist (F ++ Q) := List.Sublist.append_left List.filter_sublist F
  have hQ0 : ∀ p ∈ F ++ Q.filter fun p => decide (v.ownBlock ≠ some p.1), v.ownBlock ≠ some p.1 := fun p hp => by
    rcases List.mem_append.1 hp with h | h
    · exact hFne p h
    · simpa using (List.mem_filter.1 h).2
  have hnew : ∀ p ∈ F ++ Q.filter fun p => decide (v.ownBlock ≠ some p.1), p.1 ≠ g' := fun p hp e2 => by
    rcases hg' with h | h
    · exact hQ0 p hp (by rw [h, e2])
    · have := H.lt p (hsub.subset hp)
      omega
  have hgege : W0.heap.size ≤ g' ∨ g' ∈ Hs := by
    rcases hg' with h | h
    · obtain ⟨q, hq, e⟩ := hvm _ h
      rw [← e]
      exact H.ge q (List.mem_append_right _ hq)
    · exact .inl (by rw [h]; exact H.size)
  refine ⟨(g', cur', e) :: Q.filter fun p => decide (v.ownBlock ≠ some p.1), ?_, ⟨ho.1, .inr ⟨g', cap', cur', rfl, List.mem_cons_self .., hnc, hcm, hcs, htake⟩⟩, fun p hp hn => List.mem_cons_of_mem _ (List.mem_filter.2 ⟨hp, by simpa using hn⟩)⟩
  have hm : ∀ p ∈ F ++ (g', cur', e) :: Q.filter fun p => decide (v.ownBlock ≠ some p.1), p = (g', cur', e) ∨ p ∈ F ++ Q.filter fun p => decide (v.ownBlock ≠ some p.1) := fun p hp => by
    rcases List.mem_append.1 hp with h | h
    · exact .inr (List.mem_append_left _ h)
    · rcases List.mem_cons.1 h with h | h
      · exact .inl h
      · exact .inr (List.mem_append_right _ h)
  refine ⟨hg.os.trans H.os, hg.tape.trans H.tape, hg.output.trans H.output, Nat.le_trans H.size hg.size, fun k hk hh => ?_, fun p hp => ?_, fun p hp => ?_, ?_, fun r hr => ?_, H.rge, fun r hr p hp => ?_, H.rnd⟩
  · rw [keep k (Nat.lt_of_lt_of_le hk H.size) (fun hv => by
      obtain ⟨q, hq, e⟩ := hvm _ hv
      rcases H.ge q (List.mem_append_right _ hq) with a | a
      · omega
      · rw [e] at a; exact hh a)]
    exact H.fr k hk hh
  · rcases hm p hp with rfl | h
    · exact hgg
    · rw [keep p.1 (H.lt p (hsub.subset h)) (hQ0 p h)]
      exact H.holds p (hsub.subset h)
  · rcases hm p hp with rfl | h
    · exact hgege
    · exact H.ge p (hsub.subset h)
  · have h1 : ((F ++ Q.filter fun p => decide (v.ownBlock ≠ some p.1)).map (·.1)).Nodup := H.nd.sublist (hsub.map _)
    have h2 : (F ++ (g', cur', e) :: Q.filter fun p => decide (v.ownBlock ≠ some p.1)).Perm ((g', cur', e) :: (F ++ Q.filter fun p => decide (v.ownBlock ≠ some p.1))) := List.perm_middle
    rw [(h2.map _).nodup_iff, List.map_cons, List.nodup_cons]
    refine ⟨fun hmm => ?_, h1⟩
    obtain ⟨p, hp, e2⟩ := List.mem_map.1 hmm
    exact hnew p hp e2
  · refine own_same (H.rows r hr) (fun k hk => keep k (H.rlt r hr k hk) (fun hv => ?_))
    obtain ⟨q, hq, e⟩ := hvm _ hv
    exact H.apart r hr q (List.mem_append_right _ hq) (by rw [e]; exact hk)
  · rcases hm p hp with rfl | h
    · intro hk
      rcases hg' with h | h
      · obtain ⟨q, hq, e⟩ := hvm _ h
        exact H.apart r hr q (List.mem_append_right _ hq) (by rw [e]; exact hk)
      · have := H.rlt r hr _ hk
        dsimp only at this
        omega
    · exact H.apart r hr p (hsub.subset h)
section
variable {P : Program} {ops : Array Oper} {Q : Exit → Act → World → Prop}
variable {a : Act}
/-- A drawn region of whose cells nothing is asked. -/
theorem Gt_start0 {id : Nat} {W W0 : World} {n : Nat} {Hs : List Nat} {l : List Blk} {R : List RowS} (d : Nat) (H : Sb Hs W0 W l R) (hm : P.follows .mixedOrders = true) (hn : ops.size = n)
    (h : ∀ w, Sb Hs W0 w l R → Gs P ops Q (TF d [] []) n (Array.replicate n false) a w) : (Code.region id ops true).wp P Q a W := by
  have hb := (Below.refl W.heap.size W).drew
  have H1 := H.call hb
  exact Gs_start hm hn (fun t ht _ => by simp [TF] at ht) (h _ H1)
theorem TF_none {d : Nat} {listed : Array Bool} {w : World} : Held (TF d [] []) listed w := fun t ht _ => by simp [TF] at ht
end
end Go.Proofs.YtdopfonebpklkaaGreat.game
namespace Go.Proofs.YtdopfonebpklkaaGreat.game
open Go.ChangeShapes Go.WideShapes Go.ChangeAt Go.RowKit dice
set_option maxRecDepth 100000

theorem wrongBig (s : ByteArray) (cut : Int) (n : Nat) (ad : Option Addr) (c : Nat) (w0 : World) (h : 20 < s.size ∨ 60 < n ∨ n < 2) :
    Calls Tryz.prog 5 #[.string s, .slice ad n c, .int .i64 cut] w0 fun e w' => e = .returned (.bool true) ∧ Below w0.heap.size w0 w' := by
  rcases Nat.lt_or_ge 20 s.size with h1 | h1
  · clear h
    go_enter Tryz.func5, Tryz.ntmps5
    go_wp2_with fail
    refine (told_any _).mono ?_; rintro e w5 ⟨rfl, hb⟩
    go_wp2_with fail
    go_ret
    exact ⟨rfl, hb⟩
  · rcases Nat.lt_or_ge 60 n with h2 | h2
    · clear h
      go_enter Tryz.func5, Tryz.ntmps5
      go_wp2_with fail
      refine (told_any _).mono ?_; rintro e w5 ⟨rfl, hb⟩
      go_wp2_with fail
      go_ret
      exact ⟨rfl, hb⟩
    · have h3 : n < 2 := by omega
      clear h
      go_enter Tryz.func5, Tryz.ntmps5
      go_wp2_with fail
      refine (told_any _).mono ?_; rintro e w5 ⟨rfl, hb⟩
      go_wp2_with fail
      go_ret
      exact ⟨rfl, hb⟩
set_option maxHeartbeats 16000000 in
theorem wrongWalk (sd : ByteArray) (cut : Int) (L : List Trn) (ad : Option Addr) (c : Nat) (w0 : World) (hs : sd.size ≤ 20) (hn : L.length ≤ 60) (h2 : 2 ≤ L.length) (hT : ∀ t ∈ L, t.ok) (hin : TrnW w0 (.slice ad L.length c) L) :
    Calls Tryz.prog 5 #[.string sd, .slice ad L.length c, .int .i64 cut] w0 fun e w' => e = .returned (.bool true) ∧ Below w0.heap.size w0 w' := by
  obtain ⟨D, hd⟩ : ∃ D, seed sd.data.toList = D := ⟨_, rfl⟩
  have hD : (Lit.int .u64 D).wf = true := by rw [← hd]; exact seed_wf _
  have hsm : sd.size ≤ maxLen := by unfold maxLen; omega
  have HM := Lib.hid (make_b sd L (.slice ad L.length c) w0 hsm D hd hD hT hin (by omega))
  have HS := Lib.hid (fun w => Start_any sd w hsm D hd)
  clear hsm hT hin hd
  go_enter Tryz.func5, Tryz.ntmps5
  go_wp2_with fail
  refine HM.out.mono ?_
  rintro e w1 ⟨hb1, ad7, c7, log, st, rfl, hc1, hc2, hlen, hwf, hrun, hlog⟩
  have Hb1 := Lib.hid hb1
  have H := Sb.start w1
  have hl1 : (log.length : Int) ≤ 60 := by omega
  clear hb1 HM hs hn h2 hlen
  by_cases hl2 : log.length < 2
  · have hl2' : (log.length : Int) < 2 := by omega
    clear hlog hwf hrun hc1 hc2 hl2
    go_wp2_with fail
    refine (told_any _).mono ?_; rintro e w5 ⟨rfl, hb⟩
    go_wp2_with fail
    go_ret
    exact ⟨rfl, Hb1.out.trans (hb.mono Hb1.out.size)⟩
  have hl2' : ¬ (log.length : Int) < 2 := by omega
  go_upto_region 7 with fail
  obtain ⟨k, hk, hkv⟩ := cut_at2 cut log.length (by omega) (by omega)
  rw [hkv]
  clear hkv
  obtain ⟨g, o, es, rfl, h2⟩ := hlog.two (fun e he => (hwf e he).1.i8) (by omega)
  have T2 := Lib.hid h2
  clear h2 hlog
  have hS0 := startS_full D hD
  have Hxa : Hid (∀ w, (Instr.slice 52 (.slice (some ⟨g, o, none⟩) log.length c7) none (some (.int .i64 ((k : Int)))) none).run Tryz.prog w = .ok (.slice (some ⟨g, o, none⟩) (k) c7) w) := Lib.hid (fun w => by have h := sl_to (some ⟨g, o, none⟩) log.length c7 (k) (by omega) w; rw [if_neg (by omega)] at h; simpa [add_n] using h)
  have Hxb : Hid (∀ w, (Instr.slice 52 (.slice (some ⟨g, o, none⟩) log.length c7) (some (.int .i64 ((k : Int) + 1))) none none).run Tryz.prog w = .ok (.slice (some ⟨g, o + (k + 1) * 26, none⟩) (log.length - (k + 1)) (c7 - (k + 1))) w) := Lib.hid (fun w => by have h := sl_from (some ⟨g, o, none⟩) log.length c7 (k + 1) (by omega) w; rw [if_neg (by omega)] at h; simpa [add_n] using h)
  have Hya : Hid (∀ w, (Instr.slice 52 (.slice (some ⟨g, o, none⟩) log.length c7) none (some (.int .i64 ((k : Int) + 1))) none).run Tryz.prog w = .ok (.slice (some ⟨g, o, none⟩) (k + 1) c7) w) := Lib.hid (fun w => by have h := sl_to (some ⟨g, o, none⟩) log.length c7 (k + 1) (by omega) w; rw [if_neg (by omega)] at h; simpa [add_n] using h)
  have Hyb : Hid (∀ w, (Instr.slice 52 (.slice (some ⟨g, o, none⟩) log.length c7) (some (.int .i64 ((k : Int)))) none none).run Tryz.prog w = .ok (.slice (some ⟨g, o + (k) * 26, none⟩) (log.length - (k)) (c7 - (k))) w) := Lib.hid (fun w => by have h := sl_from (some ⟨g, o, none⟩) log.length c7 (k) (by omega) w; rw [if_neg (by omega)] at h; simpa [add_n] using h)
  have HRx := Lib.hid (fun w l R v (H : Sb [] w1 w l R) (hl : LogW w v (log.take (k) ++ log.drop (k + 1))) => Run_in (startS D) (.slice none 0 0) (log.take (k) ++ log.drop (k + 1)) v w1 w l R H (lie_nil _ _) hS0.g hS0.t8 (fun e he => by rcases List.mem_append.1 he with h | h; exact (hwf e (List.mem_of_mem_take h)).1; exact (hwf e (List.mem_of_mem_drop h)).1) hl (by simp; omega))
  rw [runF_without hD hrun hk] at HRx
  have HRy := Lib.hid (fun w l R v (H : Sb [] w1 w l R) (hl : LogW w v (log.take (k + 1) ++ log.drop (k))) => Run_in (startS D) (.slice none 0 0) (log.take (k + 1) ++ log.drop (k)) v w1 w l R H (lie_nil _ _) hS0.g hS0.t8 (fun e he => by rcases List.mem_append.1 he with h | h; exact (hwf e (List.mem_of_mem_take h)).1; exact (hwf e (List.mem_of_mem_drop h)).1) hl (by simp; omega))
  rw [runF_twice hD hrun hk] at HRy
  have Hfull := Lib.hid hS0
  have Hlm : Hid ((startS D).g.L.length ≤ 1000) := Lib.hid (show ([] : List Sht).length ≤ 1000 by decide)
  have Hz0 := Lib.hid (sc_size (s := startS D) (sl := .slice none 0 0) rfl rfl)
  have Hz := Lib.hid (fun sl => sc_size (s := startS D) (sl := sl) rfl rfl)
  have Hsp : Hid (∀ sl, splice zC 0 (Value.cells (.agg (stateC (startS D) sl))).toList = stateC (startS D) sl) := Lib.hid (fun sl => splice_all _ _ (by rw [zC_size]; exact (Hz.out sl).symm))
  have hone0 : (Value.cells (.agg (stateC (startS D) (.slice none 0 0)))).toList.all (·.oneCell') = true := rfl
  have HO0 := Lib.hid hone0
  have hLn : ∀ (W : World) (R : List RowS), LieIn W R (.slice none 0 0) (startS D).g.L := fun W R => lie_nil W R
  have HLn := Lib.hid hLn
  clear hS0 hwf hrun hone0 hLn
  obtain ⟨ie, hi, hz0, hz1, hz2⟩ := info_ent
  have hl1n : log.length ≤ 60 := by omega
  have hk1 : (k : Int) + 1 < log.length := by omega
  generalize hS0 : startS D = S0 at *
  clear hS0 hD
  have hQ0 : Sb [] w1 w1 ([] ++ ([] : List Blk)) [] := H
  obtain ⟨Q0, hQ⟩ : ∃ Q : List Blk, Q = [] := ⟨_, rfl⟩
  rw [← hQ] at H
  go_cut [9] (fun v wx => ∃ Q2, Hid (Sb [] w1 wx (([] : List Blk) ++ Q2) []) ∧ Hid (RowIn 42 26 Q2 v (k + (log.length - (k + 1))) (entsL (log.take (k)) (es.take (k)) ++ entsL (log.drop (k + 1)) (es.drop (k + 1)))))
  case first =>
    refine Gt_start0 9 H (by kernel_rfl) rfl ?_
    clear H
    intro w H
    refine Gv_move 1 (fun d _ _ _ _ h => by cases d <;> exact h) (by kernel_rfl) rfl _ rfl rfl (some 46) rfl (by kernel_rfl) (by kernel_rfl) (TF_ne (by decide)) (.slice _ _ _) rfl ?_
    simp only [Act.put, List.setIfInBounds_toArray, List.set_cons_succ, List.set_cons_zero]
    refine Gv_move 2 (fun d _ _ _ _ h => by cases d <;> exact h) (by kernel_rfl) rfl _ rfl rfl (some 47) rfl (by kernel_rfl) (by kernel_rfl) (TF_ne (by decide)) (.int _ _) rfl ?_
    simp only [Act.put, List.setIfInBounds_toArray, List.set_cons_succ, List.set_cons_zero]
    refine Gv_bin 3 (fun d _ _ _ _ h => by cases d <;> exact h) (by kernel_rfl) rfl rfl (some 48) rfl (by kernel_rfl) (by kernel_rfl) (TF_ne (by decide)) (.slice (some ⟨g, o, none⟩) k c7) (fun w => by have h := Hxa.out w; go_simp; first | done | exact h) ?_
    simp only [Act.put, List.setIfInBounds_toArray, List.set_cons_succ, List.set_cons_zero]
    refine Gv_move 5 (fun d _ _ _ _ h => by cases d <;> exact h) (by kernel_rfl) rfl _ rfl rfl (some 50) rfl (by kernel_rfl) (by kernel_rfl) (TF_ne (by decide)) (.slice _ _ _) rfl ?_
    simp only [Act.put, List.setIfInBounds_toArray, List.set_cons_succ, List.set_cons_zero]
    refine Gv_move 6 (fun d _ _ _ _ h => by cases d <;> exact h) (by kernel_rfl) rfl _ rfl rfl (some 51) rfl (by kernel_rfl) (by kernel_rfl) (TF_ne (by decide)) (.int _ _) rfl ?_
    simp only [Act.put, List.setIfInBounds_toArray, List.set_cons_succ, List.set_cons_zero]
    refine Gv_bin 7 (fun d _ _ _ _ h => by cases d <;> exact h) (by kernel_rfl) rfl rfl (some 52) rfl (by kernel_rfl) (by kernel_rfl) (TF_ne (by decide)) (.int .i64 ((k : Int) + 1)) (fun w => by go_simp; try (rw [IntKind.wrap_i64]; omega)) ?_
    simp only [Act.put, List.setIfInBounds_toArray, List.set_cons_succ, List.set_cons_zero]
    refine Gv_bin 8 (fun d _ _ _ _ h => by cases d <;> exact h) (by kernel_rfl) rfl rfl (some 53) rfl (by kernel_rfl) (by kernel_rfl) (TF_ne (by decide)) (.slice (some ⟨g, o + (k + 1) * 26, none⟩) (log.length - (k + 1)) (c7 - (k + 1))) (fun w => by have h := Hxb.out w; go_simp; first | done | exact h) ?_
    simp only [Act.put, List.setIfInBounds_toArray, List.set_cons_succ, List.set_cons_zero]
    refine Gs_alloc 0 rfl rfl (some 45) rfl (by kernel_rfl) (.slice (some ⟨w.heap.size, 0, none⟩) 0 0) (.cells #[] 42) (by have h := mk0 w; go_simp; first | done | exact h) ?_
    simp only [Act.put, List.setIfInBounds_toArray, List.set_cons_succ, List.set_cons_zero]
    replace H := H.new #[] 42
    generalize w.heap.size = bb at *
    generalize w.alloc (.cells #[] 42) = w8 at *
    replace H : Sb [] w1 w8 (([] : List Blk) ++ (bb, #[], 42) :: Q0) [] := H.perm (List.Perm.refl _)
    have hrow0 : RowIn 42 26 ((bb, #[], 42) :: Q0) (.slice (some ⟨bb, 0, none⟩) 0 0) 0 [] := ⟨rfl, .inr ⟨bb, 0, #[], rfl, List.mem_cons_self .., Nat.le_refl _, Nat.zero_le _, rfl, rfl⟩⟩
    have ta := (T2.out.take (k)).later H.below
    have tb := (T2.out.drop (k + 1)).later H.below
    refine Gs_one 4 rfl (by kernel_rfl) ?_
    refine wpList_append_own_at _ rfl _ _ 52 rfl 0 42 ie (.agg zE) 26 56 Tryz.underlying52 hi hz0 hz1 hz2 rfl (by decide) _ (0) ([]) rfl (hrow0.own H (fun p hp => List.mem_append_right _ hp)) ⟨g, o, none⟩ (k) (c7) (entsL (log.take (k)) (es.take (k))) rfl (by rw [entsL_len _ _ (ta).len (ta).i8]; simp; try omega) (ta).cells (entsL_one (ta).ev) (by unfold maxLen; omega) (by omega) (Nat.zero_le _) ?_
    intro v2 w9 hown hgrow hnil hblk
    rw [Nat.zero_add] at hown
    obtain ⟨Q1, H2, hrow1, -⟩ := H.appendRowN hrow0 hown (fun e => by have := (hnil.1 e).1; cases this) hgrow hblk
    rw [List.nil_append] at hrow1
    clear H hown hgrow hnil hblk ta tb hrow0
    have H := H2
    clear H2
    refine ⟨TF_none, ?_⟩
    have ta := (T2.out.take (k)).later H.below
    have tb := (T2.out.drop (k + 1)).later H.below
    refine Gs_tail 9 (by kernel_rfl) TF_eq (by kernel_rfl) rfl ?_
    simp only [List.drop_succ_cons, List.drop_zero]
    go_wp2_with ((at_builtin; refine wpList_append_own_at _ rfl _ _ 52 rfl 0 42 ie (.agg zE) 26 56 Tryz.underlying52 hi hz0 hz1 hz2 rfl (by decide) _ (k) (entsL (log.take (k)) (es.take (k))) rfl (hrow1.own H (fun p hp => List.mem_append_right _ hp)) ⟨g, o + (k + 1) * 26, none⟩ (log.length - (k + 1)) (c7 - (k + 1)) (entsL (log.drop (k + 1)) (es.drop (k + 1))) rfl (by rw [entsL_len _ _ (tb).len (tb).i8]; simp; try omega) (tb).cells (entsL_one (tb).ev) (by unfold maxLen; omega) (by omega) (Nat.zero_le _) ?_; intro v3 w10 hown hgrow hnil hblk; have H2 := H.appendRowN hrow1 hown (fun e => by have := (hnil.1 e).1; subst this; have h0 := (hnil.1 e).2; omega) hgrow hblk; clear H hown hgrow hnil hblk ta tb hrow1))
    obtain ⟨Q2, H2, hrow2, -⟩ := H2
    go_meet
    exact ⟨Q2, Lib.hid H2, Lib.hid hrow2⟩
  case rest =>
    obtain ⟨Q1, HB2, HRow⟩ := hcut
    have H : Sb [] w1 _ Q1 [] := HB2.out
    clear HB2 hQ hQ0
    go_wp2_with fail
    refine (HS.out _).mono ?_; rintro e w2 ⟨rfl, hb⟩
    replace H := H.call hb
    clear hb
    go_upto_region 9 with (first | (refine wb_alloc H rfl 35 rfl _ Tryz.zeroValue35 ?_; clear H; intro b10 w H) | (refine wb_put H rfl 0 35 _ _ rfl _ 0 rfl _ _ rfl (.agg (stateC S0 (.slice none 0 0))) rfl 76 info35 (Hz0.out) (Nat.le_of_ble_eq_true rfl) HO0.out _ (Hsp.out (.slice none 0 0)) ?_; clear H; intro w H))
    replace H : Sb [] w1 w ((b10, stateC S0 (.slice none 0 0), 35) :: Q1) [] := H
    go_wp2_with (refine wb_whole H rfl 0 35 _ rfl _ rfl (stateC S0 (.slice none 0 0)) rfl _ Tryz.underlying35 rfl 76 info35 (Hz0.out) ?_)
    refine (HRx.out _ _ _ _ H (((T2.out.take (k)).later H.below).joined ((T2.out.drop (k + 1)).later H.below) (by rw [List.length_take, List.length_drop, Nat.min_eq_left (by omega)]; exact HRow.out.own H (fun p hp => List.mem_cons_of_mem _ hp)))).mono ?_
    rintro e w5 ⟨⟨sl1, R1, rfl, H1, hL, hR1⟩, -⟩
    clear H
    have H := H1
    clear H1
    have hL1 := Lib.hid (show LieIn w1 R1 sl1 S0.g.L from hL)
    clear hL
    have HO1 := Lib.hid (sc_oneI (s := S0) (hL1.out.shots H))
    clear hR1 HRow HRx Hxa Hxb
    go_upto_region 10 with (first | (refine wb_alloc H rfl 35 rfl _ Tryz.zeroValue35 ?_; clear H; intro b11 w H) | (refine wb_put H rfl 0 35 _ _ rfl _ 0 rfl _ _ rfl (.agg (stateC S0 sl1)) rfl 76 info35 (Hz.out sl1) (Nat.le_of_ble_eq_true rfl) HO1.out _ (Hsp.out sl1) ?_; clear H; intro w H))
    replace H : Sb [] w1 w ([(b11, stateC S0 sl1, 35), (b10, stateC S0 (.slice none 0 0), 35)] ++ Q1) R1 := H
    generalize Q1 = Q0 at *
    go_cut [13] (fun v wx => ∃ Q2, Hid (Sb [] w1 wx ([(b11, stateC S0 sl1, 35), (b10, stateC S0 (.slice none 0 0), 35)] ++ Q2) R1) ∧ Hid (RowIn 42 26 Q2 v (k + 1 + (log.length - (k))) (entsL (log.take (k + 1)) (es.take (k + 1)) ++ entsL (log.drop (k)) (es.drop (k)))))
    case first =>
      refine Gt_start0 9 H (by kernel_rfl) rfl ?_
      clear H
      intro w H
      refine Gv_move 1 (fun d _ _ _ _ h => by cases d <;> exact h) (by kernel_rfl) rfl _ rfl rfl (some 64) rfl (by kernel_rfl) (by kernel_rfl) (TF_ne (by decide)) (.slice _ _ _) rfl ?_
      simp only [Act.put, List.setIfInBounds_toArray, List.set_cons_succ, List.set_cons_zero]
      refine Gv_move 2 (fun d _ _ _ _ h => by cases d <;> exact h) (by kernel_rfl) rfl _ rfl rfl (some 65) rfl (by kernel_rfl) (by kernel_rfl) (TF_ne (by decide)) (.int _ _) rfl ?_
      simp only [Act.put, List.setIfInBounds_toArray, List.set_cons_succ, List.set_cons_zero]
      refine Gv_bin 3 (fun d _ _ _ _ h => by cases d <;> exact h) (by kernel_rfl) rfl rfl (some 66) rfl (by kernel_rfl) (by kernel_rfl) (TF_ne (by decide)) (.int .i64 ((k : Int) + 1)) (fun w => by go_simp; try (rw [IntKind.wrap_i64]; omega)) ?_
      simp only [Act.put, List.setIfInBounds_toArray, List.set_cons_succ, List.set_cons_zero]
      refine Gv_bin 4 (fun d _ _ _ _ h => by cases d <;> exact h) (by kernel_rfl) rfl rfl (some 67) rfl (by kernel_rfl) (by kernel_rfl) (TF_ne (by decide)) (.slice (some ⟨g, o, none⟩) (k + 1) c7) (fun w => by have h := Hya.out w; go_simp; first | done | exact h) ?_
      simp only [Act.put, List.setIfInBounds_toArray, List.set_cons_succ, List.set_cons_zero]
      refine Gv_move 6 (fun d _ _ _ _ h => by cases d <;> exact h) (by kernel_rfl) rfl _ rfl rfl (some 69) rfl (by kernel_rfl) (by kernel_rfl) (TF_ne (by decide)) (.slice _ _ _) rfl ?_
      simp only [Act.put, List.setIfInBounds_toArray, List.set_cons_succ, List.set_cons_zero]
      refine Gv_move 7 (fun d _ _ _ _ h => by cases d <;> exact h) (by kernel_rfl) rfl _ rfl rfl (some 70) rfl (by kernel_rfl) (by kernel_rfl) (TF_ne (by decide)) (.int _ _) rfl ?_
      simp only [Act.put, List.setIfInBounds_toArray, List.set_cons_succ, List.set_cons_zero]
      refine Gv_bin 8 (fun d _ _ _ _ h => by cases d <;> exact h) (by kernel_rfl) rfl rfl (some 71) rfl (by kernel_rfl) (by kernel_rfl) (TF_ne (by decide)) (.slice (some ⟨g, o + k * 26, none⟩) (log.length - k) (c7 - k)) (fun w => by have h := Hyb.out w; go_simp; first | done | exact h) ?_
      simp only [Act.put, List.setIfInBounds_toArray, List.set_cons_succ, List.set_cons_zero]
      refine Gs_alloc 0 rfl rfl (some 63) rfl (by kernel_rfl) (.slice (some ⟨w.heap.size, 0, none⟩) 0 0) (.cells #[] 42) (by have h := mk0 w; go_simp; first | done | exact h) ?_
      simp only [Act.put, List.setIfInBounds_toArray, List.set_cons_succ, List.set_cons_zero]
      replace H := H.new #[] 42
      generalize w.heap.size = bb at *
      generalize w.alloc (.cells #[] 42) = w8 at *
      replace H : Sb [] w1 w8 ([(b11, stateC S0 sl1, 35), (b10, stateC S0 (.slice none 0 0), 35)] ++ (bb, #[], 42) :: Q0) R1 := H.perm (List.perm_middle (l₁ := [(b11, stateC S0 sl1, 35), (b10, stateC S0 (.slice none 0 0), 35)]))
      have hrow0 : RowIn 42 26 ((bb, #[], 42) :: Q0) (.slice (some ⟨bb, 0, none⟩) 0 0) 0 [] := ⟨rfl, .inr ⟨bb, 0, #[], rfl, List.mem_cons_self .., Nat.le_refl _, Nat.zero_le _, rfl, rfl⟩⟩
      have ta := (T2.out.take (k + 1)).later H.below
      have tb := (T2.out.drop (k)).later H.below
      refine Gs_one 5 rfl (by kernel_rfl) ?_
      refine wpList_append_own_at _ rfl _ _ 52 rfl 0 42 ie (.agg zE) 26 56 Tryz.underlying52 hi hz0 hz1 hz2 rfl (by decide) _ (0) ([]) rfl (hrow0.own H (fun p hp => List.mem_append_right _ hp)) ⟨g, o, none⟩ (k + 1) (c7) (entsL (log.take (k + 1)) (es.take (k + 1))) rfl (by rw [entsL_len _ _ (ta).len (ta).i8]; simp; try omega) (ta).cells (entsL_one (ta).ev) (by unfold maxLen; omega) (by omega) (Nat.zero_le _) ?_
      intro v2 w9 hown hgrow hnil hblk
      rw [Nat.zero_add] at hown
      obtain ⟨Q1, H2, hrow1, -⟩ := H.appendRowN hrow0 hown (fun e => by have := (hnil.1 e).1; cases this) hgrow hblk
      rw [List.nil_append] at hrow1
      clear H hown hgrow hnil hblk ta tb hrow0
      have H := H2
      clear H2
      refine ⟨TF_none, ?_⟩
      have ta := (T2.out.take (k + 1)).later H.below
      have tb := (T2.out.drop (k)).later H.below
      refine Gs_tail 9 (by kernel_rfl) TF_eq (by kernel_rfl) rfl ?_
      simp only [List.drop_succ_cons, List.drop_zero]
      go_wp2_with ((at_builtin; refine wpList_append_own_at _ rfl _ _ 52 rfl 0 42 ie (.agg zE) 26 56 Tryz.underlying52 hi hz0 hz1 hz2 rfl (by decide) _ (k + 1) (entsL (log.take (k + 1)) (es.take (k + 1))) rfl (hrow1.own H (fun p hp => List.mem_append_right _ hp)) ⟨g, o + (k) * 26, none⟩ (log.length - (k)) (c7 - (k)) (entsL (log.drop (k)) (es.drop (k))) rfl (by rw [entsL_len _ _ (tb).len (tb).i8]; simp; try omega) (tb).cells (entsL_one (tb).ev) (by unfold maxLen; omega) (by omega) (Nat.zero_le _) ?_; intro v3 w10 hown hgrow hnil hblk; have H2 := H.appendRowN hrow1 hown (fun e => by have := (hnil.1 e).1; subst this; have h0 := (hnil.1 e).2; omega) hgrow hblk; clear H hown hgrow hnil hblk ta tb hrow1))
      obtain ⟨Q2, H2, hrow2, -⟩ := H2
      go_meet
      exact ⟨Q2, Lib.hid H2, Lib.hid hrow2⟩
    case rest =>
      obtain ⟨Q1, HB2, HRow⟩ := hcut
      have H : Sb [] w1 _ ((b11, stateC S0 sl1, 35) :: (b10, stateC S0 (.slice none 0 0), 35) :: Q1) R1 := HB2.out
      clear HB2
      go_wp2_with (refine wb_whole H rfl 1 35 _ rfl _ rfl (stateC S0 (.slice none 0 0)) rfl _ Tryz.underlying35 rfl 76 info35 (Hz0.out) ?_)
      refine (HRy.out _ _ _ _ H (((T2.out.take (k + 1)).later H.below).joined ((T2.out.drop (k)).later H.below) (by rw [List.length_take, List.length_drop, Nat.min_eq_left (by omega)]; exact HRow.out.own H (fun p hp => List.mem_cons_of_mem _ (List.mem_cons_of_mem _ hp))))).mono ?_
      rintro e w5 ⟨⟨sl2, R2, rfl, H1, hL, hR2⟩, -⟩
      clear H
      have H := H1
      clear H1
      have hL2 := Lib.hid (show LieIn w1 R2 sl2 S0.g.L from hL)
      clear hL
      have HO2 := Lib.hid (sc_oneI (s := S0) (hL2.out.shots H))
      have hL1b := Lib.hid (hL1.out.mono hR2)
      clear hR2 hL1 HRow HRy Hya Hyb
      go_upto_region 12 with (first | (refine wb_alloc H rfl 35 rfl _ Tryz.zeroValue35 ?_; clear H; intro b14 w H) | (refine wb_put H rfl 0 35 _ _ rfl _ 0 rfl _ _ rfl (.agg (stateC S0 sl2)) rfl 76 info35 (Hz.out sl2) (Nat.le_of_ble_eq_true rfl) HO2.out _ (Hsp.out sl2) ?_; clear H; intro w H))
      replace H : Sb [] w1 w ((b14, stateC S0 sl2, 35) :: (b11, stateC S0 sl1, 35) :: (b10, stateC S0 (.slice none 0 0), 35) :: Q1) R2 := H
      go_wp2_with fail
      refine (told_any _).mono ?_; rintro e w6 ⟨rfl, hb⟩
      replace H := H.call hb
      clear hb
      go_wp2_with (first | (refine wb_whole H rfl 0 35 _ rfl _ rfl (stateC S0 sl2) rfl _ Tryz.underlying35 rfl 76 info35 (Hz.out sl2) ?_) | (refine wb_whole H rfl 1 35 _ rfl _ rfl (stateC S0 sl1) rfl _ Tryz.underlying35 rfl 76 info35 (Hz.out sl1) ?_) | (refine wb_whole H rfl 2 35 _ rfl _ rfl (stateC S0 (.slice none 0 0)) rfl _ Tryz.underlying35 rfl 76 info35 (Hz0.out) ?_))
      refine (foldSame S0 S0 sl1 _ _ Hfull.out Hfull.out (hL1b.out.shots H).w ((HLn.out w1 R2).shots H).w Hlm.out).mono ?_
      rintro e w7 ⟨⟨r, rfl, hi⟩, hb⟩
      obtain rfl : r = true := hi.2 rfl
      replace H := H.call hb
      clear hb hi
      go_wp2_with (first | (refine wb_whole H rfl 0 35 _ rfl _ rfl (stateC S0 sl2) rfl _ Tryz.underlying35 rfl 76 info35 (Hz.out sl2) ?_) | (refine wb_whole H rfl 1 35 _ rfl _ rfl (stateC S0 sl1) rfl _ Tryz.underlying35 rfl 76 info35 (Hz.out sl1) ?_) | (refine wb_whole H rfl 2 35 _ rfl _ rfl (stateC S0 (.slice none 0 0)) rfl _ Tryz.underlying35 rfl 76 info35 (Hz0.out) ?_))
      refine (foldSame S0 S0 sl2 _ _ Hfull.out Hfull.out (hL2.out.shots H).w ((HLn.out w1 R2).shots H).w Hlm.out).mono ?_
      rintro e w8 ⟨⟨r, rfl, hi⟩, hb⟩
      obtain rfl : r = true := hi.2 rfl
      replace H := H.call hb
      clear hb hi
      go_wp2_with (first | (refine wb_whole H rfl 0 35 _ rfl _ rfl (stateC S0 sl2) rfl _ Tryz.underlying35 rfl 76 info35 (Hz.out sl2) ?_) | (refine wb_whole H rfl 1 35 _ rfl _ rfl (stateC S0 sl1) rfl _ Tryz.underlying35 rfl 76 info35 (Hz.out sl1) ?_) | (refine wb_whole H rfl 2 35 _ rfl _ rfl (stateC S0 (.slice none 0 0)) rfl _ Tryz.underlying35 rfl 76 info35 (Hz0.out) ?_))
      go_ret
      exact ⟨rfl, Hb1.out.trans (H.below.mono Hb1.out.size)⟩
end Go.Proofs.YtdopfonebpklkaaGreat.game
