/- game.Step, over any game that may be: ships are pushed and shoot, shots fly. -/
import Derived.Test.YtdopfonebpklkaaSa
namespace Go.Proofs.Ytdopfonebpklkaa.game
open Go.ChangeShapes Go.WideShapes Go.ChangeAt Go.RowKit dice
set_option maxRecDepth 100000

/-- One block and one row of the caller's, handed to a callee. -/
def blk (v : Value) : List Nat := v.ownBlock.toList
theorem mem_blk {v : Value} {k : Nat} : k ∈ blk v ↔ v.ownBlock = some k := by
  unfold blk
  rw [Option.mem_toList]
theorem Sb.hand1 {Hs : List Nat} {W0 w : World} {l : List Blk} {R : List RowS} (h : Sb Hs W0 w l R) (g : Nat) (c : Array Value) (t : TypeId) (v : Value) (L : List Sht) (hi : (g, c, t) ∈ l) (hr : (v, L) ∈ R) : Sb (g :: blk v) w w [(g, c, t)] [(v, L)] := by
  refine ⟨rfl, rfl, rfl, Nat.le_refl _, fun _ _ _ => rfl, fun q hq => ?_, fun q hq => ?_, by simp, fun q hq => ?_, fun q hq k hk => ?_, fun q hq p hp => ?_, by simp⟩
  · rw [List.mem_singleton] at hq
    subst hq
    exact h.holds _ hi
  · rw [List.mem_singleton] at hq
    subst hq
    exact .inr (List.mem_cons_self ..)
  · rw [List.mem_singleton] at hq
    subst hq
    exact h.rows _ hr
  · rw [List.mem_singleton] at hq
    subst hq
    exact .inr (List.mem_cons_of_mem _ (mem_blk.2 hk))
  · rw [List.mem_singleton] at hq hp
    subst hq
    subst hp
    exact h.apart _ hr _ hi
theorem Sb.back1 {Hs : List Nat} {W0 w w' : World} {l : List Blk} {R : List RowS} (h : Sb Hs W0 w l R) (i r g : Nat) (c c2 : Array Value) (t : TypeId) (v v' : Value) (L L' : List Sht) (hi : l[i]? = some (g, c, t)) (hr : R[r]? = some (v, L))
    (hc : Sb (g :: blk v) w w' [(g, c2, t)] [(v', L')]) : Sb Hs W0 w' (l.set i (g, c2, t)) (R.set r (v', L')) := by
  have hm : (v, L) ∈ R := List.mem_of_getElem? hr
  have hml : (g, c, t) ∈ l := List.mem_of_getElem? hi
  have hrl := (List.getElem?_eq_some_iff.1 hr).1
  have hil := (List.getElem?_eq_some_iff.1 hi).1
  have other : ∀ k, k < w.heap.size → k ≠ g → v.ownBlock ≠ some k → w'.heap[k]? = w.heap[k]? := fun k hk hg hn => hc.fr k hk (fun hh => by
    rcases List.mem_cons.1 hh with e | e
    · exact hg e
    · exact hn (mem_blk.1 e))
  have memR : ∀ q ∈ R.set r (v', L'), q = (v', L') ∨ ∃ j, j ≠ r ∧ R[j]? = some q := fun q hq => by
    obtain ⟨j, hj⟩ := List.mem_iff_getElem?.1 hq
    rw [List.getElem?_set] at hj
    by_cases e : r = j
    · rw [if_pos e, if_pos hrl] at hj
      exact .inl (Option.some.inj hj).symm
    · rw [if_neg e] at hj
      exact .inr ⟨j, fun e' => e e'.symm, hj⟩
  have diff : ∀ j q, j ≠ r → R[j]? = some q → ∀ k, q.1.ownBlock = some k → v.ownBlock ≠ some k := fun j q hj hq k hk e => by
    have hP := List.pairwise_iff_getElem.1 h.rnd
    obtain ⟨hjl, hjq⟩ := List.getElem?_eq_some_iff.1 hq
    obtain ⟨_, hrq⟩ := List.getElem?_eq_some_iff.1 hr
    rcases Nat.lt_or_gt_of_ne hj with hlt | hlt
    · have := hP j r hjl hrl hlt k (by rw [hjq]; exact hk)
      rw [hrq] at this
      exact this e
    · have := hP r j hrl hjl hlt k (by rw [hrq]; exact e)
      rw [hjq] at this
      exact this hk
  have hvg : v'.ownBlock ≠ some g := hc.apart (v', L') (List.mem_cons_self ..) (g, c2, t) (List.mem_cons_self ..)
  have newOk : ∀ k, v'.ownBlock = some k → v.ownBlock = some k ∨ w.heap.size ≤ k := fun k hk => by
    rcases hc.rge (v', L') (List.mem_cons_self ..) k hk with a | a
    · exact .inr a
    · rcases List.mem_cons.1 a with e | e
      · subst e; exact absurd hk hvg
      · exact .inl (mem_blk.1 e)
  refine ⟨hc.os.trans h.os, hc.tape.trans h.tape, hc.output.trans h.output, Nat.le_trans h.size hc.size, fun k hk hh => ?_, fun p hp => ?_, fun p hp => ?_, by rw [map_set_fst l i g c c2 t t hi]; exact h.nd, fun q hq => ?_, fun q hq k hk => ?_, fun q hq p hp e => ?_, ?_⟩
  · rw [other k (Nat.lt_of_lt_of_le hk h.size) (fun e => by
      subst e
      rcases h.ge _ hml with a | a
      · exact absurd hk (Nat.not_lt.2 a)
      · exact hh a) (fun e => by
      rcases h.rge _ hm k e with a | a
      · exact absurd hk (Nat.not_lt.2 a)
      · exact hh a)]
    exact h.fr k hk hh
  · obtain ⟨j, hj⟩ := List.mem_iff_getElem?.1 hp
    rw [List.getElem?_set] at hj
    by_cases e : i = j
    · rw [if_pos e, if_pos hil] at hj
      injection hj with hj
      subst hj
      exact hc.holds _ (List.mem_cons_self ..)
    · rw [if_neg e] at hj
      have hne : p.1 ≠ g := fun e2 => by
        have h1 : (l.map (·.1))[j]? = some g := by rw [List.getElem?_map, hj]; simp [e2]
        have h2 : (l.map (·.1))[i]? = some g := by rw [List.getElem?_map, hi]; rfl
        exact e ((List.getElem?_inj (by simpa using hil) h.nd).1 (h2.trans h1.symm))
      have hp' := List.mem_of_getElem? hj
      rw [other p.1 (h.lt p hp') hne (h.apart _ hm p hp')]
      exact h.holds p hp'
  · obtain ⟨p', hp', e⟩ := mem_set_fst hi hp
    rw [← e]; exact h.ge p' hp'
  · rcases memR q hq with rfl | ⟨j, hj, hjq⟩
    · exact hc.rows _ (List.mem_cons_self ..)
    · have hqR := List.mem_of_getElem? hjq
      exact own_same (h.rows q hqR) (fun k hk => other k (h.rlt q hqR k hk) (fun e => by subst e; exact h.apart q hqR _ hml hk) (diff j q hj hjq k hk))
  · rcases memR q hq with rfl | ⟨j, hj, hjq⟩
    · rcases newOk k hk with e | e
      · exact h.rge _ hm k e
      · exact .inl (Nat.le_trans h.size e)
    · exact h.rge q (List.mem_of_getElem? hjq) k hk
  · obtain ⟨p', hp', e2⟩ := mem_set_fst hi hp
    rw [← e2] at e
    rcases memR q hq with rfl | ⟨j, hj, hjq⟩
    · rcases newOk _ e with a | a
      · exact h.apart _ hm p' hp' a
      · have := h.lt p' hp'
        omega
    · exact h.apart q (List.mem_of_getElem? hjq) p' hp' e
  · rw [List.pairwise_iff_getElem]
    intro a b ha hb hab k hk hk'
    have hP := List.pairwise_iff_getElem.1 h.rnd
    rw [List.length_set] at ha hb
    rw [List.getElem_set] at hk hk'
    by_cases ei : r = a
    · rw [if_pos ei] at hk
      rw [if_neg (by omega)] at hk'
      have hjq : R[b]? = some R[b] := List.getElem?_eq_getElem hb
      rcases newOk k hk with e | e
      · exact diff b _ (by omega) hjq k hk' e
      · have := h.rlt _ (List.mem_of_getElem? hjq) k hk'
        omega
    · rw [if_neg ei] at hk
      by_cases ej : r = b
      · rw [if_pos ej] at hk'
        have hiq : R[a]? = some R[a] := List.getElem?_eq_getElem ha
        rcases newOk k hk' with e | e
        · exact diff a _ (by omega) hiq k hk e
        · have := h.rlt _ (List.mem_of_getElem? hiq) k hk
          omega
      · rw [if_neg ej] at hk'
        exact hP a b ha hb hab k hk hk'
def insC (I : List Inp) : Array Value := (I.flatMap inpL).toArray
theorem insL_at : ∀ (I : List Inp) (k j : Nat) (i : Inp) (v : Value), I[k]? = some i → (inpL i)[j]? = some v → (I.flatMap inpL)[k * 3 + j]? = some v
  | [], _, _, _, _, h, _ => by simp at h
  | i' :: I, 0, j, i, v, h, hj => by
    simp at h
    subst h
    have hl : j < (inpL i').length := (List.getElem?_eq_some_iff.1 hj).1
    rw [List.flatMap_cons, Nat.zero_mul, Nat.zero_add, List.getElem?_append_left hl]
    exact hj
  | i' :: I, k + 1, j, i, v, h, hj => by
    have ih := insL_at I k j i v (by simpa using h) hj
    have hl : (inpL i').length = 3 := rfl
    rw [List.flatMap_cons, List.getElem?_append_right (by rw [hl]; omega), hl, show (k + 1) * 3 + j - 3 = k * 3 + j by omega]
    exact ih
theorem ins_part (I : List Inp) (k : Nat) (i : Inp) (h : I[k]? = some i) : ∀ j v, (inpL i)[j]? = some v → (insC I)[k * 3 + j]? = some v := fun j v hv => by
  unfold insC
  rw [List.getElem?_toArray]
  exact insL_at I k j i v h hv
def StepOut (g' : Gme) (w : World) (e : Ending) (w' : World) : Prop :=
  (∃ sl, e = .returned (.tuple #[.agg (gameC g'.fr g'.d g'.S sl), .int .i64 0]) ∧ Own w' 0 sl g'.L ∧ ∀ k, sl.ownBlock = some k → w.heap.size ≤ k) ∧ Below w.heap.size w w'
theorem sailL_cons (k : Nat) (t : Shp) (S : List Shp) (I : List Inp) (out : List Sht) :
    sailL k (t :: S) I out = ⟨(if t.on = true then sailF k t (hdI I) out else ⟨t, out⟩).t :: (sailL (k + 1) S I.tail (if t.on = true then sailF k t (hdI I) out else ⟨t, out⟩).out).ships, (sailL (k + 1) S I.tail (if t.on = true then sailF k t (hdI I) out else ⟨t, out⟩).out).out⟩ := rfl
theorem sailL_nil (k : Nat) (I : List Inp) (out : List Sht) : sailL k [] I out = ⟨[], out⟩ := rfl
theorem hdI_drop {I : List Inp} {k : Nat} {i : Inp} (h : I[k]? = some i) : hdI (I.drop k) = i := by
  have hl := (List.getElem?_eq_some_iff.1 h).1
  rw [List.drop_eq_getElem_cons hl]
  exact (List.getElem?_eq_some_iff.1 h).2
theorem tail_drop (I : List Inp) (k : Nat) : (I.drop k).tail = I.drop (k + 1) := by
  rw [List.tail_drop]
set_option maxHeartbeats 8000000 in
theorem stepAll (fr d : Int) (S0 : List Shp) (L0 : List Sht) (I : List Inp) (ad : Option Addr) (c : Nat) (w0' : World) (hS : S0.length = 8) (hok : ∀ t ∈ S0, t.ok) (hI8 : I.length = 8) (hI : ∀ i ∈ I, i.ok) (hL : ∀ s ∈ L0, OkShot s) (hn : L0.length ≤ 32)
    (h0 : 0 ≤ fr) (h1 : fr < 1048576) (hin : ShotsIn w0' (.slice ad L0.length c) L0) :
    Calls Try.prog 26 #[.agg (gameC fr d S0 (.slice ad L0.length c)), .agg (insC I)] w0' (StepOut (stepG ⟨fr, d, S0, L0⟩ I) w0') := by
  have HS0 := Lib.hid hS
  obtain ⟨sl, hsl⟩ : ∃ sl, Value.slice ad L0.length c = sl := ⟨_, rfl⟩
  have HONE := Lib.hid (show (Value.cells (.agg (gameC fr d S0 (.slice ad L0.length c)))).toList.all (·.oneCell') = true by
    have := gc_one (fr := fr) (d := d) (S := S0) (sl := .slice ad L0.length c) rfl
    simpa [Value.cells] using this)
  have HM := Lib.hid (fun w (hw : ShotsIn w (.slice ad L0.length c) L0) => mayS_any _ fr d ad c L0 w (gc_gmS hS rfl hok) hw hL hn h0 (by omega))
  have HI := Lib.hid hin
  have Hsh := Lib.hid (gc_shots (fr := fr) (d := d) (sl := .slice ad L0.length c) hS)
  have hq : (fr == 1048576) = false := beq_eq_false_iff_ne.2 (by omega)
  have HO0 := Lib.hid hok
  have HI8 := Lib.hid hI8
  have HIk := Lib.hid hI
  have HL0 := Lib.hid hL
  have Hn0 := Lib.hid hn
  have Hsl := Lib.hid hsl
  have H := Sb.start w0'
  rw [hsl] at HONE HM HI Hsh ⊢
  clear hS hok hI8 hI hL hn hin hsl
  obtain ⟨w, hw⟩ : ∃ w, w0' = w := ⟨_, rfl⟩
  have HW := Lib.hid hw
  replace H : Sb [] w0' w [] [] := by rw [← hw]; exact H
  rw [show Calls Try.prog 26 #[.agg (gameC fr d S0 sl), .agg (insC I)] w0' = Calls Try.prog 26 #[.agg (gameC fr d S0 sl), .agg (insC I)] w by rw [hw]]
  clear hw
  have HZ : Hid (splice (Value.cells (.agg #[.int .i64 0, .int .u64 0, .bool false, .int .i32 0, .int .i32 0, .int .i32 0, .int .i32 0, .int .i64 0, .int .i64 0, .bool false, .int .i32 0, .int .i32 0, .int .i32 0, .int .i32 0, .int .i64 0, .int .i64 0, .bool false, .int .i32 0, .int .i32 0, .int .i32 0, .int .i32 0, .int .i64 0, .int .i64 0, .bool false, .int .i32 0, .int .i32 0, .int .i32 0, .int .i32 0, .int .i64 0, .int .i64 0, .bool false, .int .i32 0, .int .i32 0, .int .i32 0, .int .i32 0, .int .i64 0, .int .i64 0, .bool false, .int .i32 0, .int .i32 0, .int .i32 0, .int .i32 0, .int .i64 0, .int .i64 0, .bool false, .int .i32 0, .int .i32 0, .int .i32 0, .int .i32 0, .int .i64 0, .int .i64 0, .bool false, .int .i32 0, .int .i32 0, .int .i32 0, .int .i32 0, .int .i64 0, .int .i64 0, .slice none 0 0])) 0 (Value.cells (.agg (gameC fr d S0 sl))).toList = gameC fr d S0 sl) := Lib.hid (splice_all _ _ (by rw [show (Value.cells (.agg (gameC fr d S0 sl))).size = 59 from gc_size HS0.out]; rfl))
  go_enter Try.func26, Try.ntmps26
  go_wp2_with (first | (refine wb_box H rfl 33 _ rfl (gameC fr d S0 sl) rfl ?_; clear H; intro b2 w H) | (refine wb_box H rfl 43 _ rfl (insC I) rfl ?_; clear H; intro b3 w H) | (refine wb_alloc H rfl 33 rfl _ Try.zeroValue33 ?_; clear H; intro b4 w H) | (refine wb_whole H rfl 2 33 _ rfl _ rfl (gameC fr d S0 sl) rfl _ Try.underlying33 rfl 59 info28 (gc_size HS0.out) ?_))
  refine (HM.out _ (HI.out.later H.below)).mono ?_; rintro e w' ⟨rfl, hb⟩
  replace H := H.call hb
  clear hb
  go_wp2_with (first | (refine wb_cell H rfl 2 3 _ rfl _ 0 rfl _ _ rfl Try.isAgg3 (.int .i64 fr) rfl ?_) | (refine wb_whole H rfl 2 33 _ rfl _ rfl (gameC fr d S0 sl) rfl _ Try.underlying33 rfl 59 info28 (gc_size HS0.out) ?_) | (refine wb_alloc H rfl 33 rfl _ Try.zeroValue33 ?_; clear H; intro b6 w H) | (refine wb_put H rfl 0 33 _ _ rfl _ 0 rfl _ _ rfl (.agg (gameC fr d S0 sl)) rfl 59 info28 (gc_size HS0.out) (Nat.le_of_ble_eq_true rfl) HONE.out (gameC fr d S0 sl) HZ.out ?_; clear H; intro w H) | (refine wb_cell H rfl 3 31 _ rfl _ 58 rfl _ _ rfl Try.isAgg31 sl Hsh.out ?_))
  refine (clone_any sl L0 _ (HI.out.later H.below) (by have := Hn0.out; omega)).mono ?_; rintro e w1 ⟨⟨sl0, rfl, hown⟩, hb⟩
  obtain ⟨ad0, c0, rfl⟩ := own_form hown
  replace H := H.addRow _ L0 (own_zero hown) hb (fun k hk => (World.ownsRow.lt hown k hk).1)
  clear hown hb
  go_wp2_with (refine wb_put H rfl 0 31 _ _ rfl _ 58 rfl _ _ rfl (.slice ad0 L0.length c0) rfl 1 info26 rfl (by rw [gc_size HS0.out]; omega) rfl _ (gc_setShots HS0.out _) ?_; clear H; intro w H)
  replace H : Sb [] w0' w [(b6, gameC fr d S0 (.slice ad0 L0.length c0), 33), (b4, _, 33), (b3, (insC I), 43), (b2, gameC fr d S0 sl, 33)] [(.slice ad0 L0.length c0, L0)] := H
  go_loopw [26] (fun i W => ∃ (k : Nat) (S : List Shp) (L : List Sht) (sk : Value), k ≤ 8 ∧ i = .int .i64 k ∧ Hid (sailL 0 S0 I L0 = ⟨S ++ (sailL k (S0.drop k) (I.drop k) L).ships, (sailL k (S0.drop k) (I.drop k) L).out⟩) ∧ Hid (S.length = k ∧ (∀ s ∈ L, OkShot s) ∧ L.length ≤ 32) ∧ Hid (Sb [] w0' W [(b6, gameC fr d (S ++ S0.drop k) sk, 33), (b4, _, 33), (b3, insC I, 43), (b2, gameC fr d S0 sl, 33)] [(sk, L)])) (fun i _ => 8 - (intOf i).toNat)
  case atStart => exact ⟨0, [], L0, _, Nat.zero_le _, rfl, Lib.hid rfl, Lib.hid ⟨rfl, HL0.out, Hn0.out⟩, Lib.hid H⟩
  case round =>
    clear H
    obtain ⟨k, S, L, sk, hk, rfl, HE, HK, HB⟩ := hrel
    by_cases hlt : k < 8
    · obtain ⟨t, ht⟩ : ∃ t, S0[k]? = some t := ⟨S0[k]'(by rw [HS0.out]; exact hlt), List.getElem?_eq_getElem _⟩
      obtain ⟨i, hi⟩ : ∃ i, I[k]? = some i := ⟨I[k]'(by rw [HI8.out]; exact hlt), List.getElem?_eq_getElem _⟩
      have hdr : S0.drop k = t :: S0.drop (k + 1) := by rw [List.drop_eq_getElem_cons (List.getElem?_eq_some_iff.1 ht).1, (List.getElem?_eq_some_iff.1 ht).2]
      have hSk : S.length = k := HK.out.1
      have htk : (S ++ S0.drop k)[k]? = some t := by rw [List.getElem?_append_right (by omega), hSk, Nat.sub_self, hdr]; rfl
      have hlen : (S ++ S0.drop k).length = 8 := by rw [List.length_append, List.length_drop, HS0.out, hSk]; omega
      have htok := HO0.out t (List.mem_of_getElem? ht)
      have hiok := HIk.out i (List.mem_of_getElem? hi)
      have hset : ∀ t', (S ++ S0.drop k).set k t' = (S ++ [t']) ++ S0.drop (k + 1) := fun t' => by
        rw [List.set_append_right _ _ (by omega), hSk, Nat.sub_self, hdr, List.set_cons_zero, List.append_assoc]; rfl
      have hE := HE.out
      rw [hdr] at hE
      rw [sailL_cons, hdI_drop hi, tail_drop] at hE
      have Hlen := Lib.hid hlen
      have Htk := Lib.hid htk
      have Hset := Lib.hid hset
      by_cases hon : t.on = true
      · have hc : (gameC fr d (S ++ S0.drop k) sk)[2 + k * 7]? = some (.bool true) := by rw [gc_at0 k _ htk, hon]
        have Hc := Lib.hid hc
        simp only [if_pos hon] at hE
        have HE2 := Lib.hid hE
        have Hp := Lib.hid (ins_part I k i hi)
        have Hrow := HB.out.rows _ (List.mem_cons_self ..)
        obtain ⟨adk, ck, hsk⟩ := own_form Hrow
        dsimp only at hsk Hrow
        subst hsk
        have HX := Lib.hid (fun w h => sail_any (b6 :: blk (.slice adk L.length ck)) b6 k fr d (S ++ S0.drop k) t i adk ck L w hlt hlen htk hon htok hiok HK.out.2.2 h)
        have HR := Lib.hid (sailF_ok (k := k) (i := i) hlt htok hon HK.out.2.1 HK.out.2.2)
        have Hsk := Lib.hid hSk
        have H := HB.out
        clear hE hc hdr hSk htk hlen htok hiok hset hon ht hi Hrow HB HE HK
        go_wp2_with (first | (refine wb_cell H rfl 0 4 _ rfl _ _ rfl _ _ rfl Try.isAgg4 (.bool true) Hc.out ?_) | (refine wb_part H rfl 2 24 _ rfl _ (k * 3) rfl _ _ rfl _ Try.underlying24 rfl 3 info60s (inpL i) Hp.out rfl ?_))
        refine (HX.out _ (H.hand1 b6 _ _ _ _ (List.mem_cons_self ..) (List.mem_cons_self ..))).mono ?_; rintro e w1 ⟨rfl, sl', hF⟩
        replace H := H.back1 0 0 b6 _ _ 33 _ _ _ _ rfl rfl hF
        rw [Hset.out] at H
        replace H : Sb [] w0' w1 [(b6, gameC fr d ((S ++ [(sailF k t i L).t]) ++ S0.drop (k + 1)) sl', 33), (b4, _, 33), (b3, insC I, 43), (b2, gameC fr d S0 sl, 33)] [(sl', (sailF k t i L).out)] := H
        clear hF
        generalize sailF k t i L = r at *
        go_wp2_with fail
        exact ⟨⟨k + 1, S ++ [r.t], r.out, sl', hlt, rfl, Lib.hid (by have := HE2.out; simpa using this), Lib.hid ⟨by simp [Hsk.out], HR.out.2.2.1, HR.out.2.2.2⟩, Lib.hid H⟩, by simp only [intOf]; omega⟩
      · have hon' : t.on = false := by simpa using hon
        have hc : (gameC fr d (S ++ S0.drop k) sk)[2 + k * 7]? = some (.bool false) := by rw [gc_at0 k _ htk, hon']
        have Hc := Lib.hid hc
        simp only [if_neg hon] at hE
        have HE2 := Lib.hid hE
        have HB' := HB.out
        rw [hdr] at HB'
        have Hsk := Lib.hid hSk
        have H := HB.out
        have HBn : Hid (S ++ S0.drop k = (S ++ [t]) ++ S0.drop (k + 1)) := Lib.hid (by rw [List.append_assoc, List.singleton_append, ← hdr])
        clear hE hc hdr hSk htk hlen htok hiok hset hon hon' ht hi HB HE HB'
        go_wp2_with (refine wb_cell H rfl 0 4 _ rfl _ _ rfl _ _ rfl Try.isAgg4 (.bool false) Hc.out ?_)
        exact ⟨⟨k + 1, S ++ [t], L, sk, hlt, rfl, Lib.hid (by have := HE2.out; simpa using this), Lib.hid ⟨by simp [Hsk.out], HK.out.2.1, HK.out.2.2⟩, Lib.hid (by rw [← HBn.out]; exact H)⟩, by simp only [intOf]; omega⟩
    · obtain rfl : k = 8 := by omega
      have hd8 : S0.drop 8 = [] := List.drop_eq_nil_of_le (by rw [HS0.out]; exact Nat.le_refl _)
      have H := HB.out
      have hE := HE.out
      rw [hd8] at hE H
      rw [sailL_nil] at hE
      simp only [List.append_nil] at hE H
      have HG0 := Lib.hid hE
      have HSo := sailL_ok S0 0 I L0 (by rw [HS0.out]; exact Nat.le_refl _) HO0.out HL0.out Hn0.out
      rw [hE] at HSo
      have HS : Hid (S.length = 8) := Lib.hid HK.out.1
      have HO : Hid (∀ t ∈ S, t.ok) := Lib.hid HSo.2.1
      have HL : Hid (∀ s ∈ L, OkShot s) := Lib.hid HSo.2.2.1
      have Hn : Hid (L.length ≤ 32) := Lib.hid HSo.2.2.2
      obtain ⟨ad1, c1, hsk1⟩ := own_form (H.rows _ (List.mem_cons_self ..))
      dsimp only at hsk1
      subst hsk1
      clear hE hd8 HSo HB HE HK
      have Hs0 := Lib.hid (gc_shots (fr := fr) (d := d) (sl := .slice ad1 L.length c1) HS.out)
      go_wp2_with (first | (refine wb_cell H rfl 0 31 _ rfl _ 58 rfl _ _ rfl Try.isAgg31 (.slice ad1 L.length c1) Hs0.out ?_) | (refine wb_put H rfl 0 31 _ _ rfl _ 58 rfl _ _ rfl (.slice none 0 0) rfl 1 info26 rfl (by rw [gc_size HS.out]; omega) rfl _ (gc_setShots HS.out _) ?_; clear H; intro w H))
      replace H := H.addRow (.slice none 0 0) [] (World.ownsRow_nil _ _ _ _) (Below.refl _ _) (fun k hk => by cases hk)
      obtain ⟨Z4, hZ4, H'⟩ : ∃ Z4 : Array Value, Z4.size = 59 ∧ Sb [] w0' w [(b6, gameC fr d S (.slice none 0 0), 33), (b4, Z4, 33), (b3, insC I, 43), (b2, gameC fr d S0 sl, 33)] [(.slice none 0 0, []), (.slice ad1 L.length c1, L)] := ⟨_, rfl, H⟩
      have HZ4 := Lib.hid hZ4
      clear H hZ4
      obtain ⟨i0, hi, hz0, hz1, hz2⟩ := info_shot
      go_loopw [45] (fun i W => ∃ (k : Nat) (dk : Int) (Sk : List Shp) (out : List Sht) (sk : Value), k ≤ L.length ∧ i = .int .i64 k ∧ Hid (flyAll d S L = ⟨(flyAll dk Sk (L.drop k)).dice, (flyAll dk Sk (L.drop k)).ships, out ++ (flyAll dk Sk (L.drop k)).out⟩) ∧ Hid (Sk.length = 8 ∧ (∀ t ∈ Sk, t.ok) ∧ out.length ≤ k) ∧ Hid (Sb [] w0' W [(b6, gameC fr dk Sk sk, 33), (b4, Z4, 33), (b3, insC I, 43), (b2, gameC fr d S0 sl, 33)] [(sk, out), (.slice ad1 L.length c1, L)])) (fun i _ => L.length - (intOf i).toNat)
      case atStart => exact ⟨0, d, S, [], _, Nat.zero_le _, rfl, Lib.hid rfl, Lib.hid ⟨HS.out, HO.out, Nat.zero_le _⟩, Lib.hid H'⟩
      case round =>
        clear H'
        obtain ⟨k, dk, Sk, out, sk, hk, rfl, HE, HK, HB⟩ := hrel
        by_cases hlt : k < L.length
        · obtain ⟨s, hs⟩ : ∃ s, L[k]? = some s := ⟨L[k], List.getElem?_eq_getElem hlt⟩
          have hdr : L.drop k = s :: L.drop (k + 1) := by rw [List.drop_eq_getElem_cons hlt, (List.getElem?_eq_some_iff.1 hs).2]
          have HE2 : Hid (flyAll d S L = ⟨(flyAll (flyF dk Sk s).dice (flyF dk Sk s).ships (L.drop (k + 1))).dice, (flyAll (flyF dk Sk s).dice (flyF dk Sk s).ships (L.drop (k + 1))).ships, (out ++ (if (flyF dk Sk s).stays = true then [flown s] else [])) ++ (flyAll (flyF dk Sk s).dice (flyF dk Sk s).ships (L.drop (k + 1))).out⟩) := Lib.hid (by
            have := HE.out
            rw [hdr] at this
            rw [this]
            simp only [flyAll, List.append_assoc])
          have hsok := HL.out s (List.mem_of_getElem? hs)
          have hn32 : L.length ≤ 32 := Hn.out
          have hkeep := flyF_keep dk Sk s HK.out.1 HK.out.2.1
          have hrow := HB.out.rows _ (List.mem_cons_of_mem _ (List.mem_cons_self ..))
          obtain ⟨A, hA, hcells⟩ : ∃ A, ad1 = some ⟨A, 0, none⟩ ∧ ShotAt wr A (0 + k * 6) s := by
            have hrow0 := hrow
            obtain ⟨_, ⟨e, hn⟩ | ⟨A, cap, cur, e, _, hg, _⟩⟩ := hrow
            · have hn' : L.length = 0 := hn
              omega
            · injection e with e1 e2 e3
              refine ⟨A, e1, shot_at (fun j v hv => ?_) k s hs⟩
              have := World.ownsRow.cells hrow0 (g := A) (by rw [e1]; rfl) j v hv
              have a1 : (⟨A, 0, none⟩ : Addr).add j = ⟨A, 0 + j, none⟩ := by unfold Addr.add; split <;> simp_all
              rw [a1] at this; exact this
          subst hA
          rw [Nat.zero_add] at hcells
          obtain ⟨q0, q1, q2, q3, q4, q5⟩ := hcells
          have H := HB.out
          have Hsok := Lib.hid hsok
          have Hkeep := Lib.hid hkeep
          clear hs hdr hsok hkeep hrow HE HB
          go_wp2_with (first | (refine wb_alloc H rfl 75 rfl _ Try.zeroValue75 ?_; clear H; intro p w H) | (refine wb_put H rfl 0 75 _ _ rfl _ 0 rfl _ _ rfl (.agg #[.int .i64 s.owner, .int .i32 s.x, .int .i32 s.y, .int .i32 s.vx, .int .i32 s.vy, .int .i64 s.left]) rfl 6 info79s rfl (Nat.le_of_ble_eq_true rfl) rfl (shotL s).toArray rfl ?_; clear H; intro w H))
          clear q0 q1 q2 q3 q4 q5
          have hne : p ≠ b6 := by
            have := H.nd
            simp at this
            exact this.1.1
          refine (fly_any b6 p fr dk Sk sk s _ HK.out.1 HK.out.2.1 Hsok.out (H.handed p b6 _ _ 75 33 (List.mem_cons_self ..) (List.mem_cons_of_mem _ (List.mem_cons_self ..)) hne)).mono ?_; rintro e w1 ⟨rfl, hF⟩
          replace H := H.sub2 0 1 p b6 _ _ _ _ 75 33 (by omega) rfl rfl hne hF
          replace H : Sb [] w0' w1 [(p, (shotL (flown s)).toArray, 75), (b6, gameC fr (flyF dk Sk s).dice (flyF dk Sk s).ships sk, 33), (b4, Z4, 33), (b3, insC I, 43), (b2, gameC fr d S0 sl, 33)] [(sk, out), (.slice (some ⟨A, 0, none⟩) L.length c1, L)] := H
          have hout := HK.out.2.2
          clear hF hne HK
          obtain ⟨q, hq⟩ : ∃ q, (flyF dk Sk s).stays = q := ⟨_, rfl⟩
          rw [hq] at HE2 ⊢
          clear hq
          generalize (flyF dk Sk s).dice = d1 at *
          generalize (flyF dk Sk s).ships = S1 at *
          cases q
          · go_wp2_with fail
            exact ⟨⟨k + 1, d1, S1, out, sk, hlt, rfl, Lib.hid (by have := HE2.out; simpa using this), Lib.hid ⟨Hkeep.out.1, Hkeep.out.2, by omega⟩, Lib.hid H.tail⟩, by simp only [intOf]; omega⟩
          · have Hrow := H.rows _ (List.mem_cons_self ..)
            obtain ⟨adk, ck, hsk⟩ := own_form Hrow
            dsimp only at hsk Hrow
            subst hsk
            have HN := H.new #[.int .i64 s.owner, .int .i32 (mv s.x s.vx), .int .i32 (mv s.y s.vy), .int .i32 s.vx, .int .i32 s.vy, .int .i64 (s.left - 1)] 75
            have Hrow2 := Lib.hid (HN.rows _ (List.mem_cons_self ..))
            have Hnews : Hid (∀ j u, (shotL (flown s))[j]? = some u → (w1.alloc (.cells #[.int .i64 s.owner, .int .i32 (mv s.x s.vx), .int .i32 (mv s.y s.vy), .int .i32 s.vx, .int .i32 s.vy, .int .i64 (s.left - 1)] 75)).cell? ((⟨w1.heap.size, 0, none⟩ : Addr).add j) = some u) := Lib.hid (fun j u hu => by
              have a1 : (⟨w1.heap.size, 0, none⟩ : Addr).add j = ⟨w1.heap.size, j, none⟩ := by unfold Addr.add; split <;> simp_all
              rw [a1, cell_new]
              show (shotL (flown s)).toArray[j]? = some u
              rw [List.getElem?_toArray]
              exact hu)
            have Hone : Hid (∀ u ∈ shotL (flown s), u.oneCell' = true) := Lib.hid (fun u hu => cellsL_one [flown s] u (by simpa [cellsL] using hu))
            have hmx : out.length + 1 ≤ maxLen := by have := Hn.out; unfold maxLen; omega
            have hbt : (out.length + 1) * 32 ≤ 140737488355328 := by have := Hn.out; omega
            have Hsh1 := Lib.hid (gc_shots (fr := fr) (d := d1) (sl := .slice adk out.length ck) Hkeep.out.1)
            have Hsz1 := Lib.hid (gc_size (fr := fr) (d := d1) (sl := .slice adk out.length ck) Hkeep.out.1)
            have HNh := Lib.hid HN
            clear Hrow HN
            go_wp2_with (first | (refine wb_cell H rfl 1 31 _ rfl _ 58 rfl _ _ rfl Try.isAgg31 (.slice adk out.length ck) Hsh1.out ?_) | (refine wb_whole H rfl 0 75 _ rfl _ rfl #[.int .i64 s.owner, .int .i32 (mv s.x s.vx), .int .i32 (mv s.y s.vy), .int .i32 s.vx, .int .i32 s.vy, .int .i64 (s.left - 1)] rfl _ Try.underlying75 rfl 6 info79s rfl ?_) | (at_builtin; refine wpList_append_own_at _ rfl _ _ 31 rfl 0 75 i0 (.agg #[.int .i64 0, .int .i32 0, .int .i32 0, .int .i32 0, .int .i32 0, .int .i64 0]) 6 32 Try.underlying31 hi hz0 hz1 hz2 rfl (by decide) _ out.length (cellsL out) rfl Hrow2.out ⟨w1.heap.size, 0, none⟩ 1 1 (shotL (flown s)) rfl rfl Hnews.out Hone.out hmx hbt (Nat.zero_le _) ?_; intro v' w9 hown' hgrow hnil' hblk; have hon9 := own_snoc hown'; have H9 := HNh.out.append 0 (.slice adk out.length ck) v' out (out ++ [flown s]) rfl hon9 hgrow hblk; obtain ⟨ad9, c9, hv9⟩ := own_form hon9; rw [show (out ++ [flown s]).length = out.length + 1 by simp] at hv9; subst hv9; clear hown' hgrow hnil' hblk hon9) | (refine wb_put H9 rfl 2 31 _ _ rfl _ 58 rfl _ _ rfl (.slice ad9 (out.length + 1) c9) rfl 1 info26 rfl (by rw [Hsz1.out]; omega) rfl _ (gc_setShots Hkeep.out.1 _) ?_; clear H9; intro w H9))
            replace H9 : Sb [] w0' w [(w1.heap.size, _, 75), (p, _, 75), (b6, gameC fr d1 S1 (.slice ad9 (out.length + 1) c9), 33), (b4, Z4, 33), (b3, insC I, 43), (b2, gameC fr d S0 sl, 33)] [(.slice ad9 (out.length + 1) c9, out ++ [flown s]), (.slice (some ⟨A, 0, none⟩) L.length c1, L)] := H9
            exact ⟨⟨k + 1, d1, S1, out ++ [flown s], _, hlt, rfl, Lib.hid (by have := HE2.out; simpa using this), Lib.hid ⟨Hkeep.out.1, Hkeep.out.2, by simp; omega⟩, Lib.hid H9.tail.tail⟩, by simp only [intOf]; omega⟩
        · obtain rfl : k = L.length := by omega
          have HSk := Lib.hid HK.out.1
          have HB' : Hid (Own wr 0 sk out) := Lib.hid (HB.out.rows _ (List.mem_cons_self ..))
          have H := HB.out
          have hfin : flyAll d S L = ⟨dk, Sk, out⟩ := by
            have := HE.out
            rw [List.drop_length] at this
            simpa [flyAll] using this
          have Hfin : Hid (stepG ⟨fr, d, S0, L0⟩ I = ⟨fr + 1, dk, Sk, out⟩) := Lib.hid (by unfold stepG; dsimp only; rw [HG0.out]; dsimp only; rw [hfin])
          clear HE HB hfin
          obtain ⟨adk, ck, hsk⟩ := own_form HB'.out
          subst hsk
          have HZf : Hid (splice Z4 0 (Value.cells (.agg (gameC (fr + 1) dk Sk (.slice adk out.length ck)))).toList = gameC (fr + 1) dk Sk (.slice adk out.length ck)) := Lib.hid (splice_all _ _ (by rw [HZ4.out]; exact (gc_size HSk.out).symm))
          have HONEf := Lib.hid (show (Value.cells (.agg (gameC (fr + 1) dk Sk (.slice adk out.length ck)))).toList.all (·.oneCell') = true by
            have := gc_one (fr := fr + 1) (d := dk) (S := Sk) (sl := .slice adk out.length ck) rfl
            simpa [Value.cells] using this)
          clear HB'
          go_wp2_with (first | (refine wb_cell H rfl 0 3 _ rfl _ 0 rfl _ _ rfl Try.isAgg3 (.int .i64 fr) rfl ?_) | (refine wb_put H rfl 0 3 _ _ rfl _ 0 rfl _ _ rfl (.int .i64 (fr + 1)) rfl 1 info3 rfl (by rw [gc_size HSk.out]; omega) rfl _ (gc_setFrame _) ?_; clear H; intro w H) | (refine wb_whole H rfl 0 33 _ rfl _ rfl (gameC (fr + 1) dk Sk (.slice adk out.length ck)) rfl _ Try.underlying33 rfl 59 info28 (gc_size HSk.out) ?_) | (refine wb_put H rfl 1 33 _ _ rfl _ 0 rfl _ _ rfl (.agg (gameC (fr + 1) dk Sk (.slice adk out.length ck))) rfl 59 info28 (gc_size HSk.out) (by rw [HZ4.out]; omega) HONEf.out _ HZf.out ?_; clear H; intro w H))
          refine bodyPost_ret (v := .tuple #[.agg (gameC (fr + 1) dk Sk (.slice adk out.length ck)), .int .i64 0]) ?_ rfl ⟨⟨_, by rw [Hfin.out], by rw [Hfin.out]; exact H.rows _ (List.mem_cons_self ..), fun q hq => (H.rge _ (List.mem_cons_self ..) q hq).resolve_right (by simp)⟩, H.below⟩
          exact res2 rfl rfl rfl (H.holds _ (List.mem_cons_of_mem _ (List.mem_cons_self ..))) (gc_size HSk.out)
/-- A step of any game that may be. -/
theorem step_any (g : Gme) (I : List Inp) (sl : Value) (w : World) (hg : g.ok) (h1 : g.fr < 1048576) (hI8 : I.length = 8) (hI : ∀ i ∈ I, i.ok) (hin : ShotsIn w sl g.L) :
    Calls Try.prog 26 #[.agg (gameC g.fr g.d g.S sl), .agg (insC I)] w (StepOut (stepG g I) w) := by
  have hf : ∃ ad c, sl = .slice ad g.L.length c := by
    rcases hin with ⟨e, rfl⟩ | ⟨b, o, c, rfl, _⟩
    · exact ⟨none, 0, by rw [e]; rfl⟩
    · exact ⟨_, _, rfl⟩
  obtain ⟨ad, c, rfl⟩ := hf
  exact stepAll g.fr g.d g.S g.L I ad c w hg.s8 hg.ships hI8 hI hg.shots hg.most hg.f0 h1 hin
end Go.Proofs.Ytdopfonebpklkaa.game
