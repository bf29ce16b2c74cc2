/- roster.Mask (printed by mkxq.py). Logs put together anew. -/
import Derived.Test.YtdopfonebpklkaaGreatFoldRuns24
namespace Go.Proofs.YtdopfonebpklkaaGreat.game
open Go.ChangeShapes Go.WideShapes Go.ChangeAt Go.RowKit dice
set_option maxRecDepth 100000

/-- The mask of the slots that f names, below k. -/
def mkM (f : Nat → Bool) : Nat → Int
  | 0 => 0
  | k + 1 => if f k = true then bits .or .i64 (mkM f k) ((2 ^ k : Nat) : Int) else mkM f k
theorem mkM_ext {f g : Nat → Bool} : ∀ {k : Nat}, (∀ j, j < k → f j = g j) → mkM f k = mkM g k
  | 0, _ => rfl
  | k + 1, h => by
    unfold mkM
    rw [h k (Nat.lt_succ_self k), mkM_ext (fun j hj => h j (Nat.lt_succ_of_lt hj))]
theorem mkM_yes {f : Nat → Bool} {k : Nat} (h : f k = true) : mkM f (k + 1) = bits .or .i64 (mkM f k) ((2 ^ k : Nat) : Int) := by
  rw [mkM, if_pos h]
theorem mkM_no {f : Nat → Bool} {k : Nat} (h : f k = false) : mkM f (k + 1) = mkM f k := by
  rw [mkM, if_neg (by rw [h]; simp)]
def seatF (T : List Seat) (k : Nat) : Bool := (T[k]?).any fun q => decide (0 ≤ q.peer)
set_option maxHeartbeats 8000000 in
theorem mask_b (ver : Int) (T : List Seat) (w0 : World) (h8 : T.length = 8) (hm : mayR ver T = true) :
    Calls Tryz.prog 31 #[.agg (rosterC ver T)] w0 fun e w' => e = .returned (.int .i64 (mkM (seatF T) 8)) ∧ Below w0.heap.size w0 w' := by
  have H := Sb.start w0
  have HM := Lib.hid (fun w => mayR_b ver T w h8)
  have Hz := Lib.hid (rc_size (ver := ver) h8)
  have HS := Lib.hid (fun j v h => rc_seats (ver := ver) (T := T) j v h)
  have Hsl := Lib.hid (show (seatsL T).length = 16 by rw [length_seatsL, h8])
  have Hm := Lib.hid hm
  have H8 := Lib.hid h8
  clear h8 hm
  go_enter Tryz.func31, Tryz.ntmps31
  go_wp2_with (first | (refine wb_box H rfl 33 _ rfl (rosterC ver T) rfl ?_; clear H; intro b1 w H) | (refine wb_whole H rfl 0 33 _ rfl _ rfl (rosterC ver T) rfl _ Tryz.underlying33 rfl 17 info33 Hz.out ?_))
  refine (HM.out _).mono ?_; rintro e w' ⟨rfl, hb⟩
  replace H := H.call hb
  clear hb
  rw [Hm.out]
  go_wp2_with (refine wb_part H rfl 0 31 _ rfl _ 1 rfl _ _ rfl _ Tryz.underlying31 rfl 16 info31 (seatsL T) HS.out Hsl.out ?_)
  have HB := Lib.hid H
  clear H
  go_loopw [3, 11] (fun m i W => ∃ (k : Nat) (M : Int), k ≤ 8 ∧ i = .int .i64 k ∧ m = .int .i64 M ∧ Hid (M = mkM (seatF T) k) ∧ Hid (Sb [] w0 W [(b1, rosterC ver T, 33)] [])) (fun _ i _ => 8 - (intOf i).toNat)
  case atStart => exact ⟨0, 0, Nat.zero_le _, rfl, rfl, Lib.hid rfl, HB⟩
  case round =>
    clear HB
    obtain ⟨k, M, hk, rfl, rfl, HMk, HB⟩ := hrel
    by_cases hlt : k < 8
    · obtain ⟨x, hx⟩ : ∃ x, T[k]? = some x := ⟨T[k]'(by rw [H8.out]; exact hlt), List.getElem?_eq_getElem _⟩
      have HX := Lib.hid (seats_extract hx)
      have H := HB.out
      clear HB
      have hlt' : (k : Int) < 8 := by omega
      by_cases hp : 0 ≤ x.peer
      · have qp : decide (0 ≤ x.peer) = true := decide_eq_true hp
        have HMk2 := Lib.hid (show bits .or .i64 M ((2 ^ k : Nat) : Int) = mkM (seatF T) (k + 1) by rw [HMk.out, mkM_yes (by unfold seatF; rw [hx]; simpa using hp)])
        clear hx HMk hlt
        rcases (show k = 0 ∨ k = 1 ∨ k = 2 ∨ k = 3 ∨ k = 4 ∨ k = 5 ∨ k = 6 ∨ k = 7 by omega) with rfl | rfl | rfl | rfl | rfl | rfl | rfl | rfl
        · go_upto_region 7 with (first | (refine wl_index rfl 31 30 8 _ _ rfl Tryz.underlying31 Tryz.isAgg30 2 info30 (seatsL T).toArray rfl 0 _ rfl (by decide) _ HX.out ?_) | (refine wb_alloc H rfl 30 rfl _ Tryz.zeroValue30 ?_; clear H; intro b5 w H) | (refine wb_put H rfl 0 30 _ _ rfl _ 0 rfl _ _ rfl (.agg #[.int .i64 x.peer, .int .i64 x.gen]) rfl 2 info30 rfl (Nat.le_of_ble_eq_true rfl) rfl #[.int .i64 x.peer, .int .i64 x.gen] rfl ?_; clear H; intro w H))
          replace H : Sb [] w0 w [(b5, #[.int .i64 x.peer, .int .i64 x.gen], 30), (b1, rosterC ver T, 33)] [] := H
          go_wp2_with (refine wb_cell H rfl 0 3 _ rfl _ 0 rfl _ _ rfl Tryz.isAgg3 (.int .i64 x.peer) rfl ?_)
          exact ⟨⟨1, _, by decide, rfl, rfl, HMk2, Lib.hid H.tail⟩, by simp only [intOf]; decide⟩
        · go_upto_region 7 with (first | (refine wl_index rfl 31 30 8 _ _ rfl Tryz.underlying31 Tryz.isAgg30 2 info30 (seatsL T).toArray rfl 1 _ rfl (by decide) _ HX.out ?_) | (refine wb_alloc H rfl 30 rfl _ Tryz.zeroValue30 ?_; clear H; intro b5 w H) | (refine wb_put H rfl 0 30 _ _ rfl _ 0 rfl _ _ rfl (.agg #[.int .i64 x.peer, .int .i64 x.gen]) rfl 2 info30 rfl (Nat.le_of_ble_eq_true rfl) rfl #[.int .i64 x.peer, .int .i64 x.gen] rfl ?_; clear H; intro w H))
          replace H : Sb [] w0 w [(b5, #[.int .i64 x.peer, .int .i64 x.gen], 30), (b1, rosterC ver T, 33)] [] := H
          go_wp2_with (refine wb_cell H rfl 0 3 _ rfl _ 0 rfl _ _ rfl Tryz.isAgg3 (.int .i64 x.peer) rfl ?_)
          exact ⟨⟨2, _, by decide, rfl, rfl, HMk2, Lib.hid H.tail⟩, by simp only [intOf]; decide⟩
        · go_upto_region 7 with (first | (refine wl_index rfl 31 30 8 _ _ rfl Tryz.underlying31 Tryz.isAgg30 2 info30 (seatsL T).toArray rfl 2 _ rfl (by decide) _ HX.out ?_) | (refine wb_alloc H rfl 30 rfl _ Tryz.zeroValue30 ?_; clear H; intro b5 w H) | (refine wb_put H rfl 0 30 _ _ rfl _ 0 rfl _ _ rfl (.agg #[.int .i64 x.peer, .int .i64 x.gen]) rfl 2 info30 rfl (Nat.le_of_ble_eq_true rfl) rfl #[.int .i64 x.peer, .int .i64 x.gen] rfl ?_; clear H; intro w H))
          replace H : Sb [] w0 w [(b5, #[.int .i64 x.peer, .int .i64 x.gen], 30), (b1, rosterC ver T, 33)] [] := H
          go_wp2_with (refine wb_cell H rfl 0 3 _ rfl _ 0 rfl _ _ rfl Tryz.isAgg3 (.int .i64 x.peer) rfl ?_)
          exact ⟨⟨3, _, by decide, rfl, rfl, HMk2, Lib.hid H.tail⟩, by simp only [intOf]; decide⟩
        · go_upto_region 7 with (first | (refine wl_index rfl 31 30 8 _ _ rfl Tryz.underlying31 Tryz.isAgg30 2 info30 (seatsL T).toArray rfl 3 _ rfl (by decide) _ HX.out ?_) | (refine wb_alloc H rfl 30 rfl _ Tryz.zeroValue30 ?_; clear H; intro b5 w H) | (refine wb_put H rfl 0 30 _ _ rfl _ 0 rfl _ _ rfl (.agg #[.int .i64 x.peer, .int .i64 x.gen]) rfl 2 info30 rfl (Nat.le_of_ble_eq_true rfl) rfl #[.int .i64 x.peer, .int .i64 x.gen] rfl ?_; clear H; intro w H))
          replace H : Sb [] w0 w [(b5, #[.int .i64 x.peer, .int .i64 x.gen], 30), (b1, rosterC ver T, 33)] [] := H
          go_wp2_with (refine wb_cell H rfl 0 3 _ rfl _ 0 rfl _ _ rfl Tryz.isAgg3 (.int .i64 x.peer) rfl ?_)
          exact ⟨⟨4, _, by decide, rfl, rfl, HMk2, Lib.hid H.tail⟩, by simp only [intOf]; decide⟩
        · go_upto_region 7 with (first | (refine wl_index rfl 31 30 8 _ _ rfl Tryz.underlying31 Tryz.isAgg30 2 info30 (seatsL T).toArray rfl 4 _ rfl (by decide) _ HX.out ?_) | (refine wb_alloc H rfl 30 rfl _ Tryz.zeroValue30 ?_; clear H; intro b5 w H) | (refine wb_put H rfl 0 30 _ _ rfl _ 0 rfl _ _ rfl (.agg #[.int .i64 x.peer, .int .i64 x.gen]) rfl 2 info30 rfl (Nat.le_of_ble_eq_true rfl) rfl #[.int .i64 x.peer, .int .i64 x.gen] rfl ?_; clear H; intro w H))
          replace H : Sb [] w0 w [(b5, #[.int .i64 x.peer, .int .i64 x.gen], 30), (b1, rosterC ver T, 33)] [] := H
          go_wp2_with (refine wb_cell H rfl 0 3 _ rfl _ 0 rfl _ _ rfl Tryz.isAgg3 (.int .i64 x.peer) rfl ?_)
          exact ⟨⟨5, _, by decide, rfl, rfl, HMk2, Lib.hid H.tail⟩, by simp only [intOf]; decide⟩
        · go_upto_region 7 with (first | (refine wl_index rfl 31 30 8 _ _ rfl Tryz.underlying31 Tryz.isAgg30 2 info30 (seatsL T).toArray rfl 5 _ rfl (by decide) _ HX.out ?_) | (refine wb_alloc H rfl 30 rfl _ Tryz.zeroValue30 ?_; clear H; intro b5 w H) | (refine wb_put H rfl 0 30 _ _ rfl _ 0 rfl _ _ rfl (.agg #[.int .i64 x.peer, .int .i64 x.gen]) rfl 2 info30 rfl (Nat.le_of_ble_eq_true rfl) rfl #[.int .i64 x.peer, .int .i64 x.gen] rfl ?_; clear H; intro w H))
          replace H : Sb [] w0 w [(b5, #[.int .i64 x.peer, .int .i64 x.gen], 30), (b1, rosterC ver T, 33)] [] := H
          go_wp2_with (refine wb_cell H rfl 0 3 _ rfl _ 0 rfl _ _ rfl Tryz.isAgg3 (.int .i64 x.peer) rfl ?_)
          exact ⟨⟨6, _, by decide, rfl, rfl, HMk2, Lib.hid H.tail⟩, by simp only [intOf]; decide⟩
        · go_upto_region 7 with (first | (refine wl_index rfl 31 30 8 _ _ rfl Tryz.underlying31 Tryz.isAgg30 2 info30 (seatsL T).toArray rfl 6 _ rfl (by decide) _ HX.out ?_) | (refine wb_alloc H rfl 30 rfl _ Tryz.zeroValue30 ?_; clear H; intro b5 w H) | (refine wb_put H rfl 0 30 _ _ rfl _ 0 rfl _ _ rfl (.agg #[.int .i64 x.peer, .int .i64 x.gen]) rfl 2 info30 rfl (Nat.le_of_ble_eq_true rfl) rfl #[.int .i64 x.peer, .int .i64 x.gen] rfl ?_; clear H; intro w H))
          replace H : Sb [] w0 w [(b5, #[.int .i64 x.peer, .int .i64 x.gen], 30), (b1, rosterC ver T, 33)] [] := H
          go_wp2_with (refine wb_cell H rfl 0 3 _ rfl _ 0 rfl _ _ rfl Tryz.isAgg3 (.int .i64 x.peer) rfl ?_)
          exact ⟨⟨7, _, by decide, rfl, rfl, HMk2, Lib.hid H.tail⟩, by simp only [intOf]; decide⟩
        · go_upto_region 7 with (first | (refine wl_index rfl 31 30 8 _ _ rfl Tryz.underlying31 Tryz.isAgg30 2 info30 (seatsL T).toArray rfl 7 _ rfl (by decide) _ HX.out ?_) | (refine wb_alloc H rfl 30 rfl _ Tryz.zeroValue30 ?_; clear H; intro b5 w H) | (refine wb_put H rfl 0 30 _ _ rfl _ 0 rfl _ _ rfl (.agg #[.int .i64 x.peer, .int .i64 x.gen]) rfl 2 info30 rfl (Nat.le_of_ble_eq_true rfl) rfl #[.int .i64 x.peer, .int .i64 x.gen] rfl ?_; clear H; intro w H))
          replace H : Sb [] w0 w [(b5, #[.int .i64 x.peer, .int .i64 x.gen], 30), (b1, rosterC ver T, 33)] [] := H
          go_wp2_with (refine wb_cell H rfl 0 3 _ rfl _ 0 rfl _ _ rfl Tryz.isAgg3 (.int .i64 x.peer) rfl ?_)
          exact ⟨⟨8, _, by decide, rfl, rfl, HMk2, Lib.hid H.tail⟩, by simp only [intOf]; decide⟩
      · have qp : decide (0 ≤ x.peer) = false := decide_eq_false hp
        have HMk2 := Lib.hid (show M = mkM (seatF T) (k + 1) by rw [HMk.out, mkM_no (by unfold seatF; rw [hx]; simpa using hp)])
        clear hx HMk
        go_upto_region 7 with (first | (refine wl_index rfl 31 30 8 _ _ rfl Tryz.underlying31 Tryz.isAgg30 2 info30 (seatsL T).toArray rfl k _ rfl hlt _ HX.out ?_) | (refine wb_alloc H rfl 30 rfl _ Tryz.zeroValue30 ?_; clear H; intro b5 w H) | (refine wb_put H rfl 0 30 _ _ rfl _ 0 rfl _ _ rfl (.agg #[.int .i64 x.peer, .int .i64 x.gen]) rfl 2 info30 rfl (Nat.le_of_ble_eq_true rfl) rfl #[.int .i64 x.peer, .int .i64 x.gen] rfl ?_; clear H; intro w H))
        replace H : Sb [] w0 w [(b5, #[.int .i64 x.peer, .int .i64 x.gen], 30), (b1, rosterC ver T, 33)] [] := H
        go_wp2_with (refine wb_cell H rfl 0 3 _ rfl _ 0 rfl _ _ rfl Tryz.isAgg3 (.int .i64 x.peer) rfl ?_)
        exact ⟨⟨k + 1, M, hlt, rfl, rfl, HMk2, Lib.hid H.tail⟩, by simp only [intOf]; omega⟩
    · obtain rfl : k = 8 := by omega
      have H := HB.out
      have hM := HMk.out
      subst hM
      clear HB hlt
      go_wp2_with fail
      go_ret
      exact ⟨rfl, H.below⟩
end Go.Proofs.YtdopfonebpklkaaGreat.game
namespace Go.Proofs.YtdopfonebpklkaaGreat.game
open Go.ChangeShapes Go.WideShapes Go.ChangeAt Go.RowKit dice
set_option maxRecDepth 100000

theorem ents_flat {W : World} {g : Nat} : ∀ (log : List Ent) (es : List Value) (o : Nat), es.length = log.length → (∀ e ∈ log, e.ins.length = 8) → (∀ (k : Nat) (e : Ent) (s : Value), log[k]? = some e → es[k]? = some s → W.rangeAt g (o + k * 26) (entC e s).toList) → ∀ j u, (entsL log es)[j]? = some u → W.cell? ⟨g, o + j, none⟩ = some u
  | [], _, _, _, _, _, j, u, h => by simp [entsL] at h
  | e :: log, [], _, h, _, _, _, _, _ => by simp at h
  | e :: log, s :: es, o, hl, h8, hr, j, u, h => by
    unfold entsL at h
    have h26 : (entC e s).toList.length = 26 := by rw [Array.length_toList, en_size (h8 e (List.mem_cons_self ..))]
    rw [List.zip_cons_cons, List.flatMap_cons] at h
    by_cases hj : j < 26
    · rw [List.getElem?_append_left (by rw [h26]; exact hj)] at h
      have := hr 0 e s rfl rfl j u h
      simpa using this
    · rw [List.getElem?_append_right (by rw [h26]; omega), h26] at h
      have ih := ents_flat (W := W) (g := g) log es (o + 26) (by simpa using hl) (fun e he => h8 e (List.mem_cons_of_mem _ he)) (fun k e' s' he hs => by
        have := hr (k + 1) e' s' (by simpa using he) (by simpa using hs)
        rwa [show o + (k + 1) * 26 = o + 26 + k * 26 by omega] at this) (j - 26) u h
      rwa [show o + 26 + (j - 26) = o + j by omega] at ih
theorem logW_of {W : World} {v : Value} {log : List Ent} {es : List Value} (hl : es.length = log.length) (h8 : ∀ e ∈ log, e.ins.length = 8) (hev : ∀ (k : Nat) (e : Ent) (s : Value), log[k]? = some e → es[k]? = some s → EvW W s e.evs) (ho : W.ownsRow 0 42 26 v log.length (entsL log es)) : LogW W v log := by
  refine ⟨es, hl, hev, ?_⟩
  rcases ho.2 with ⟨rfl, h0⟩ | ⟨g, cap, cur, rfl, _, hg, _⟩
  · exact .inl ⟨List.eq_nil_of_length_eq_zero h0, _, _, rfl⟩
  · refine .inr ⟨g, 0, cap, rfl, (Array.getElem?_eq_some_iff.1 hg).1, fun k e s he hs' j u hu => ?_⟩
    have := ho.cells (g := g) rfl _ u (entsL_at log es k j e s u h8 he hs' hu)
    rw [add_n] at this
    rw [show 0 + k * 26 + j = 0 + (k * 26 + j) by omega]
    exact this
theorem entsL_append {a b : List Ent} {x y : List Value} (h : x.length = a.length) : entsL (a ++ b) (x ++ y) = entsL a x ++ entsL b y := by
  unfold entsL
  rw [List.zip_append h.symm, List.flatMap_append]
theorem entsL_one {W : World} {log : List Ent} {es : List Value} (hev : ∀ (k : Nat) (e : Ent) (s : Value), log[k]? = some e → es[k]? = some s → EvW W s e.evs) : ∀ u ∈ entsL log es, u.oneCell' = true := fun u hu => by
  obtain ⟨p, hp, hu⟩ := List.mem_flatMap.1 hu
  obtain ⟨k, hk⟩ := List.mem_iff_getElem?.1 hp
  rw [List.getElem?_zip_eq_some] at hk
  exact List.all_eq_true.1 (ent_one (hev k p.1 p.2 hk.1 hk.2)) u hu
theorem drop_cons {α : Type} {l : List α} {k : Nat} (h : k < l.length) : l.drop k = l[k] :: l.drop (k + 1) := List.drop_eq_getElem_cons h
theorem runF_next {u t : Ste} {l : List Ent} {e : Ent} (h : runF u (e :: l) = some t) : e.fr = u.g.fr := by
  unfold runF at h
  obtain ⟨x, hx, _⟩ := Option.bind_eq_some_iff.1 h
  unfold applyF at hx
  split at hx
  · rename_i hc
    exact hc.2.2
  · cases hx
theorem runF_stop {u : Ste} {l : List Ent} {e : Ent} (h : e.fr ≠ u.g.fr) : runF u (e :: l) = none := by
  unfold runF
  have : applyF u e = none := by
    unfold applyF
    rw [if_neg (fun hc => h hc.2.2)]
  rw [this]
  rfl
theorem at_frame {D : Int} (hD : (Lit.int .u64 D).wf = true) {log : List Ent} {st : Ste} (h : runF (startS D) log = some st) {k : Nat} (hk : k < log.length) : (log[k]).fr = k := by
  obtain ⟨u, h1, h2⟩ := runF_parts h k
  have hf := (runF_full hD h1).2.2
  rw [drop_cons hk] at h2
  rw [runF_next h2, hf, List.length_take, Nat.min_eq_left (by omega)]
theorem runF_without {D : Int} (hD : (Lit.int .u64 D).wf = true) {log : List Ent} {st : Ste} (h : runF (startS D) log = some st) {k : Nat} (hk : k + 1 < log.length) : runF (startS D) (log.take k ++ log.drop (k + 1)) = none := by
  obtain ⟨u, h1, _⟩ := runF_parts h k
  have hf := (runF_full hD h1).2.2
  rw [runF_append, h1, Option.bind_some, drop_cons hk]
  refine runF_stop ?_
  rw [at_frame hD h hk, hf, List.length_take, Nat.min_eq_left (by omega)]
  omega
theorem runF_twice {D : Int} (hD : (Lit.int .u64 D).wf = true) {log : List Ent} {st : Ste} (h : runF (startS D) log = some st) {k : Nat} (hk : k + 1 < log.length) : runF (startS D) (log.take (k + 1) ++ log.drop k) = none := by
  obtain ⟨u, h1, _⟩ := runF_parts h (k + 1)
  have hf := (runF_full hD h1).2.2
  rw [runF_append, h1, Option.bind_some, drop_cons (show k < log.length by omega)]
  refine runF_stop ?_
  rw [at_frame hD h (by omega), hf, List.length_take, Nat.min_eq_left (by omega)]
  omega
theorem mk0 (w : World) : (Instr.buildSlice 52 0 #[]).run Tryz.prog w = .ok (.slice (some ⟨w.heap.size, 0, none⟩) 0 0) (w.alloc (.cells #[] 42)) := by
  have i52 := Tryz.underlying52
  obtain ⟨i, hi, _, hz, _⟩ := info_ent
  simp [Instr.buildSlice, run_underlying i52, sizeOf, typeInfo, hi, newRow, Instr.fill]
  congr 2
  exact Array.eq_empty_of_size_eq_zero (by simp)
theorem cut_at2 (cut : Int) (n : Nat) (h2 : 2 ≤ n) (hn : n ≤ 1000) : ∃ k : Nat, k + 1 < n ∧ Go.RowKit.wrap64 ((IntKind.u64.wrap cut).tmod ((n : Int) - 1)) = (k : Int) := by
  have h0 : 0 ≤ IntKind.u64.wrap cut := by rw [IntKind.wrap_u64]; exact Int.emod_nonneg _ (by decide)
  rw [Int.tmod_eq_emod_of_nonneg h0]
  generalize IntKind.u64.wrap cut = x at *
  have a := Int.emod_nonneg x (show (n : Int) - 1 ≠ 0 by omega)
  have b := Int.emod_lt_of_pos x (show (0 : Int) < (n : Int) - 1 by omega)
  generalize x % ((n : Int) - 1) = y at *
  exact ⟨y.toNat, by omega, by rw [IntWalk.wrap64_in _ (by omega)]; omega⟩
/-- Two parts of a log, laid one behind the other in a row of one's own. -/
structure Two (W : World) (log : List Ent) (es : List Value) (g o : Nat) : Prop where
  len : es.length = log.length
  i8 : ∀ e ∈ log, e.ins.length = 8
  ev : ∀ (k : Nat) (e : Ent) (s : Value), log[k]? = some e → es[k]? = some s → EvW W s e.evs
  lt : g < W.heap.size
  row : ∀ (k : Nat) (e : Ent) (s : Value), log[k]? = some e → es[k]? = some s → W.rangeAt g (o + k * 26) (entC e s).toList
theorem Two.later {W W' : World} {log : List Ent} {es : List Value} {g o : Nat} (h : Two W log es g o) (hb : Below W.heap.size W W') : Two W' log es g o :=
  ⟨h.len, h.i8, fun k e s a b => (h.ev k e s a b).later hb, Nat.lt_of_lt_of_le h.lt hb.size, fun k e s a b j u hu => (hb.cell (p := ⟨g, o + k * 26 + j, none⟩) h.lt).trans (h.row k e s a b j u hu)⟩
theorem Two.take {W : World} {log : List Ent} {es : List Value} {g o : Nat} (h : Two W log es g o) (k : Nat) : Two W (log.take k) (es.take k) g o := by
  have at' : ∀ {α : Type} (l : List α) (j : Nat) (x : α), (l.take k)[j]? = some x → l[j]? = some x := fun l j x hx => by
    rw [List.getElem?_take] at hx
    split at hx
    · exact hx
    · cases hx
  exact ⟨by simp [h.len], fun e he => h.i8 e (List.mem_of_mem_take he), fun j e s a b => h.ev j e s (at' _ _ _ a) (at' _ _ _ b), h.lt, fun j e s a b => h.row j e s (at' _ _ _ a) (at' _ _ _ b)⟩
theorem Two.drop {W : World} {log : List Ent} {es : List Value} {g o : Nat} (h : Two W log es g o) (k : Nat) : Two W (log.drop k) (es.drop k) g (o + k * 26) := by
  refine ⟨by simp [h.len], fun e he => h.i8 e (List.mem_of_mem_drop he), fun j e s a b => ?_, h.lt, fun j e s a b => ?_⟩
  · rw [List.getElem?_drop] at a b
    exact h.ev _ e s a b
  · rw [List.getElem?_drop] at a b
    have := h.row _ e s a b
    rwa [Nat.add_mul, ← Nat.add_assoc] at this
theorem Two.cells {W : World} {log : List Ent} {es : List Value} {g o : Nat} (h : Two W log es g o) : ∀ j u, (entsL log es)[j]? = some u → W.cell? ((⟨g, o, none⟩ : Addr).add j) = some u := fun j u hu => by
  rw [add_n]
  exact ents_flat log es o h.len h.i8 h.row j u hu
theorem Two.joined {W : World} {a b : List Ent} {x y : List Value} {g o g' o' : Nat} {v : Value} (h : Two W a x g o) (h' : Two W b y g' o') (ho : W.ownsRow 0 42 26 v (a.length + b.length) (entsL a x ++ entsL b y)) : LogW W v (a ++ b) := by
  refine logW_of (es := x ++ y) (by simp [h.len, h'.len]) (fun e he => ?_) (fun k e s he hs => ?_) (by rw [entsL_append h.len, List.length_append]; exact ho)
  · rcases List.mem_append.1 he with h1 | h1
    · exact h.i8 e h1
    · exact h'.i8 e h1
  · by_cases hk : k < a.length
    · rw [List.getElem?_append_left hk] at he
      rw [List.getElem?_append_left (by rw [h.len]; exact hk)] at hs
      exact h.ev k e s he hs
    · rw [List.getElem?_append_right (by omega)] at he
      rw [List.getElem?_append_right (by rw [h.len]; omega), h.len] at hs
      exact h'.ev _ e s he hs
theorem LogW.two {W : World} {ad : Option Addr} {c : Nat} {log : List Ent} (h : LogW W (.slice ad log.length c) log) (h8 : ∀ e ∈ log, e.ins.length = 8) (hp : 0 < log.length) : ∃ g o es, ad = some ⟨g, o, none⟩ ∧ Two W log es g o := by
  obtain ⟨es, h1, h2, h3⟩ := h
  rcases h3 with ⟨rfl, _⟩ | ⟨g, o, c2, e, hg, hr⟩
  · simp at hp
  · injection e with e1 e2 e3
    exact ⟨g, o, es, e1, h1, h8, h2, hg, hr⟩
/-- What an append to such a row leaves. -/
theorem Sb.appendRowN {Hs : List Nat} {W0 w w' : World} {R : List RowS} {n' : Nat} {F Q : List Blk} {e : TypeId} {size n : Nat} {v v' : Value} {xs ys : List Value} (H : Sb Hs W0 w (F ++ Q) R) (hrow : RowIn e size Q v n xs) (ho : w'.ownsRow 0 e size v' n' ys) (hne : v' ≠ .slice none 0 0) (hg : w.grownBy w' v.ownBlock) (hb : v'.ownBlock = v.ownBlock ∨ v'.ownBlock = some w.heap.size) :
    ∃ Q', Sb Hs W0 w' (F ++ Q') R ∧ RowIn e size Q' v' n' ys ∧ ∀ p ∈ Q, v.ownBlock ≠ some p.1 → p ∈ Q' := by
  obtain ⟨g', cap', cur', rfl, _, hgg, hnc, hcm, hcs, htake⟩ : ∃ g cap cur, v' = .slice (some ⟨g, 0, none⟩) n' cap ∧ 0 ≤ g ∧ w'.heap[g]? = some (.cells cur e (0, 0)) ∧ n' ≤ cap ∧ cap ≤ maxLen ∧ cur.size = cap * size ∧ cur.toList.take (n' * size) = ys := by
    rcases ho.2 with ⟨h0, _⟩ | h
    · exact absurd h0 hne
    · exact h
  have hg' : v.ownBlock = some g' ∨ g' = w.heap.size := by
    rcases hb with h | h
    · exact .inl h.symm
    · exact .inr (Option.some.inj h)
  have hvm : ∀ g, v.ownBlock = some g → ∃ p ∈ Q, p.1 = g := fun g hv => by
    rcases hrow.2 with ⟨rfl, _⟩ | ⟨g2, cap, cur, rfl, hm, _⟩
    · simp [Value.ownBlock] at hv
    · simp [Value.ownBlock] at hv
      exact ⟨_, hm, hv⟩
  have hFne : ∀ p ∈ F, v.ownBlock ≠ some p.1 := fun p hp hv => by
    obtain ⟨q, hq, e⟩ := hvm _ hv
    have := H.nd
    rw [List.map_append, List.nodup_append] at this
    exact this.2.2 _ (List.mem_map_of_mem hp) _ (List.mem_map_of_mem hq) e.symm
  have keep : ∀ k, k < w.heap.size → v.ownBlock ≠ some k → w'.heap[k]? = w.heap[k]? := fun k hk hn => hg.block k hk (fun e => hn e.symm)
  have hsub : (F ++ Q.filter fun p => decide (v.ownBlock ≠ some p.1)).Sublist (F ++ Q) := List.Sublist.append_left List.filter_sublist F
  have hQ0 : ∀ p ∈ F ++ Q.filter fun p => decide (v.ownBlock ≠ some p.1), v.ownBlock ≠ some p.1 := fun p hp => by
    rcases List.mem_append.1 hp with h | h
    · exact hFne p h
    · simpa using (List.mem_filter.1 h).2
  have hnew : ∀ p ∈ F ++ Q.filter fun p => decide (v.ownBlock ≠ some p.1), p.1 ≠ g' := fun p hp e2 => by
    rcases hg' with h | h
    · exact hQ0 p hp (by rw [h, e2])
    · have := H.lt p (hsub.subset hp)
      omega
  have hgege : W0.heap.size ≤ g' ∨ g' ∈ Hs := by
    rcases hg' with h | h
    · obtain ⟨q, hq, e⟩ := hvm _ h
      rw [← e]
      exact H.ge q (List.mem_append_right _ hq)
    · exact .inl (by rw [h]; exact H.size)
  refine ⟨(g', cur', e) :: Q.filter fun p => decide (v.ownBlock ≠ some p.1), ?_, ⟨ho.1, .inr ⟨g', cap', cur', rfl, List.mem_cons_self .., hnc, hcm, hcs, htake⟩⟩, fun p hp hn => List.mem_cons_of_mem _ (List.mem_filter.2 ⟨hp, by simpa using hn⟩)⟩
  have hm : ∀ p ∈ F ++ (g', cur', e) :: Q.filter fun p => decide (v.ownBlock ≠ some p.1), p = (g', cur', e) ∨ p ∈ F ++ Q.filter fun p => decide (v.ownBlock ≠ some p.1) := fun p hp => by
    rcases List.mem_append.1 hp with h | h
    · exact .inr (List.mem_append_left _ h)
    · rcases List.mem_cons.1 h with h | h
      · exact .inl h
      · exact .inr (List.mem_append_right _ h)
  refine ⟨hg.os.trans H.os, hg.tape.trans H.tape, hg.output.trans H.output, Nat.le_trans H.size hg.size, fun k hk hh => ?_, fun p hp => ?_, fun p hp => ?_, ?_, fun r hr => ?_, H.rge, fun r hr p hp => ?_, H.rnd⟩
  · rw [keep k (Nat.lt_of_lt_of_le hk H.size) (fun hv => by
      obtain ⟨q, hq, e⟩ := hvm _ hv
      rcases H.ge q (List.mem_append_right _ hq) with a | a
      · omega
      · rw [e] at a; exact hh a)]
    exact H.fr k hk hh
  · rcases hm p hp with rfl | h
    · exact hgg
    · rw [keep p.1 (H.lt p (hsub.subset h)) (hQ0 p h)]
      exact H.holds p (hsub.subset h)
  · rcases hm p hp with rfl | h
    · exact hgege
    · exact H.ge p (hsub.subset h)
  · have h1 : ((F ++ Q.filter fun p => decide (v.ownBlock ≠ some p.1)).map (·.1)).Nodup := H.nd.sublist (hsub.map _)
    have h2 : (F ++ (g', cur', e) :: Q.filter fun p => decide (v.ownBlock ≠ some p.1)).Perm ((g', cur', e) :: (F ++ Q.filter fun p => decide (v.ownBlock ≠ some p.1))) := List.perm_middle
    rw [(h2.map _).nodup_iff, List.map_cons, List.nodup_cons]
    refine ⟨fun hmm => ?_, h1⟩
    obtain ⟨p, hp, e2⟩ := List.mem_map.1 hmm
    exact hnew p hp e2
  · refine own_same (H.rows r hr) (fun k hk => keep k (H.rlt r hr k hk) (fun hv => ?_))
    obtain ⟨q, hq, e⟩ := hvm _ hv
    exact H.apart r hr q (List.mem_append_right _ hq) (by rw [e]; exact hk)
  · rcases hm p hp with rfl | h
    · intro hk
      rcases hg' with h | h
      · obtain ⟨q, hq, e⟩ := hvm _ h
        exact H.apart r hr q (List.mem_append_right _ hq) (by rw [e]; exact hk)
      · have := H.rlt r hr _ hk
        dsimp only at this
        omega
    · exact H.apart r hr p (hsub.subset h)
section
variable {P : Program} {ops : Array Oper} {Q : Exit → Act → World → Prop}
variable {a : Act}
/-- A drawn region of whose cells nothing is asked. -/
theorem Gt_start0 {id : Nat} {W W0 : World} {n : Nat} {Hs : List Nat} {l : List Blk} {R : List RowS} (d : Nat) (H : Sb Hs W0 W l R) (hm : P.follows .mixedOrders = true) (hn : ops.size = n)
    (h : ∀ w, Sb Hs W0 w l R → Gs P ops Q (TF d [] []) n (Array.replicate n false) a w) : (Code.region id ops true).wp P Q a W := by
  have hb := (Below.refl W.heap.size W).drew
  have H1 := H.call hb
  exact Gs_start hm hn (fun t ht _ => by simp [TF] at ht) (h _ H1)
theorem TF_none {d : Nat} {listed : Array Bool} {w : World} : Held (TF d [] []) listed w := fun t ht _ => by simp [TF] at ht
end
end Go.Proofs.YtdopfonebpklkaaGreat.game
