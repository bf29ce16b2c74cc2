/- The document's answer: which rosters may be, over any roster, as a truth. -/
import Derived.Test.YtdopfonebpklkaaSi
namespace Go.Proofs.Ytdopfonebpklkaa.game
open Go.ChangeShapes Go.WideShapes Go.ChangeAt Go.RowKit dice
set_option maxRecDepth 100000

theorem bits_meet : ∀ a : Fin 12, ∀ b : Fin 13, ((2 ^ (a.val + 1)) &&& (if b.val = 0 then 0 else 2 ^ b.val) ≠ 0) ↔ a.val + 1 = b.val := by decide +kernel
theorem bit_meet {p q : Int} (hp0 : 0 ≤ p) (hp1 : p ≤ 11) (hq0 : -1 ≤ q) (hq1 : q ≤ 11) : (bitOf p &&& bitOf q ≠ 0) ↔ p = q := by
  have h := bits_meet ⟨p.toNat, by omega⟩ ⟨(q + 1).toNat, by omega⟩
  dsimp only at h
  have e1 : bitOf p = 2 ^ (p.toNat + 1) := by unfold bitOf; rw [if_neg (by omega)]; congr 1; omega
  have e2 : bitOf q = if (q + 1).toNat = 0 then 0 else 2 ^ (q + 1).toNat := by
    unfold bitOf
    by_cases hq : q < 0
    · rw [if_pos hq, if_pos (by omega)]
    · rw [if_neg hq, if_neg (by omega)]
  rw [e1, e2, h]
  omega
/-- The mask tells who was there. -/
def MaskOk (m : Nat) (A : List Seat) : Prop := m < 8192 ∧ ∀ p : Int, 0 ≤ p → p ≤ 11 → ((bitOf p &&& m ≠ 0) ↔ ∃ q ∈ A, q.peer = p)
theorem MaskOk.nil : MaskOk 0 [] := ⟨by decide, fun p _ _ => by simp⟩
theorem and_or_ne (a b c : Nat) : (a &&& (b ||| c) ≠ 0) ↔ (a &&& b ≠ 0) ∨ (a &&& c ≠ 0) := by
  rw [Nat.and_or_distrib_left]
  constructor
  · intro h
    by_cases h1 : a &&& b = 0
    · right
      intro h2
      rw [h1, h2] at h
      exact h rfl
    · exact .inl h1
  · rintro (h | h) e
    · exact h (Nat.or_eq_zero_iff.1 e).1
    · exact h (Nat.or_eq_zero_iff.1 e).2
theorem MaskOk.snoc {m : Nat} {A : List Seat} {s : Seat} (h : MaskOk m A) (hs : seatBad s = false) : MaskOk (m ||| bitOf s.peer) (A ++ [s]) := by
  have hb := hs
  unfold seatBad at hb
  simp only [Bool.or_eq_false_iff, decide_eq_false_iff_not] at hb
  refine ⟨or_lt _ h.1 (by omega), fun p p0 p1 => ?_⟩
  rw [and_or_ne, h.2 p p0 p1, bit_meet p0 p1 (by omega) (by omega)]
  constructor
  · rintro (⟨q, hq, e⟩ | e)
    · exact ⟨q, List.mem_append_left _ hq, e⟩
    · exact ⟨s, by simp, e.symm⟩
  · rintro ⟨q, hq, e⟩
    rcases List.mem_append.1 hq with hq | hq
    · exact .inl ⟨q, hq, e⟩
    · rw [List.mem_singleton] at hq
      subst hq
      exact .inr e.symm
theorem bit_ne {p : Int} : (bitOf p ≠ 0) ↔ 0 ≤ p := by
  unfold bitOf
  split
  · simp; omega
  · constructor
    · intro _; omega
    · intro _ h
      exact absurd h (Nat.ne_of_gt (Nat.pow_pos (by decide)))
/-- The step in the document's words. -/
theorem step_bad {m : Nat} {A : List Seat} {s : Seat} (h : MaskOk m A) (hs : seatBad s = false) : stepBad m s = true ↔ (0 ≤ s.peer ∧ s.gen < 1) ∨ (0 ≤ s.peer ∧ ∃ q ∈ A, q.peer = s.peer) := by
  have hb := hs
  unfold seatBad at hb
  simp only [Bool.or_eq_false_iff, decide_eq_false_iff_not] at hb
  unfold stepBad
  simp only [Bool.or_eq_true, Bool.and_eq_true, decide_eq_true_eq]
  constructor
  · rintro (h1 | ⟨h1, h2⟩)
    · have h0 : 0 ≤ s.peer := bit_ne.1 (fun e => h1 (by rw [e]; simp))
      exact .inr ⟨h0, (h.2 _ h0 (by omega)).1 h1⟩
    · exact .inl ⟨bit_ne.1 h1, by omega⟩
  · rintro (⟨h1, h2⟩ | ⟨h1, h2⟩)
    · exact .inr ⟨bit_ne.2 h1, by omega⟩
    · exact .inl ((h.2 _ h1 (by omega)).2 h2)
set_option maxHeartbeats 8000000 in
theorem rmayR_b (ver : Int) (T : List Seat) (w0 : World) (h8 : T.length = 8) :
    Calls Try.prog 17 #[.agg (rosterC ver T)] w0 fun e w' => e = .returned (.bool (mayR ver T)) ∧ Below w0.heap.size w0 w' := by
  have H := Sb.start w0
  have H8 := Lib.hid h8
  clear h8
  have HAT : Hid (∀ k j q v, T[k]? = some q → (seatL q)[j]? = some v → (rosterC ver T)[1 + k * 2 + j]? = some v) := Lib.hid (fun k j q v hq hv => by
    unfold rosterC
    rw [List.getElem?_toArray, show 1 + k * 2 + j = k * 2 + j + 1 by omega, List.getElem?_cons_succ]
    exact seatsL_at T k j q v hq hv)
  have H0 : Hid ((rosterC ver T)[0]? = some (.int .i64 ver)) := Lib.hid rfl
  obtain ⟨r, hr⟩ : ∃ r, mayR ver T = r := ⟨_, rfl⟩
  rw [hr]
  have HR := Lib.hid hr
  clear hr
  generalize rosterC ver T = cs at *
  by_cases h0 : 0 ≤ ver
  rotate_left
  · have q0 : decide (ver < 0) = true := decide_eq_true (by omega)
    have hf : r = false := by rw [← HR.out]; simp [mayR, h0]
    subst hf
    go_enter Try.func17, Try.ntmps17
    go_wp2_with (first | (refine wb_box H rfl 38 _ rfl cs rfl ?_; clear H; intro b1 w H) | (refine wb_cell H rfl 0 3 _ rfl _ 0 rfl _ _ rfl Try.isAgg3 (.int .i64 ver) H0.out ?_))
    go_ret
    exact ⟨rfl, H.below⟩
  by_cases h1 : ver ≤ 1073741824
  rotate_left
  · have q0 : decide (ver < 0) = false := decide_eq_false (by omega)
    have q1 : decide (1073741824 < ver) = true := decide_eq_true (by omega)
    have hf : r = false := by rw [← HR.out]; simp [mayR, h1]
    subst hf
    go_enter Try.func17, Try.ntmps17
    go_wp2_with (first | (refine wb_box H rfl 38 _ rfl cs rfl ?_; clear H; intro b1 w H) | (refine wb_cell H rfl 0 3 _ rfl _ 0 rfl _ _ rfl Try.isAgg3 (.int .i64 ver) H0.out ?_))
    go_ret
    exact ⟨rfl, H.below⟩
  have HR2 : Hid (r = !seatsBad 0 T) := Lib.hid (by rw [← HR.out]; simp [mayR, h0, h1])
  have q0 : decide (ver < 0) = false := decide_eq_false (by omega)
  have q1 : decide (1073741824 < ver) = false := decide_eq_false (by omega)
  go_enter Try.func17, Try.ntmps17
  go_wp2_with (first | (refine wb_box H rfl 38 _ rfl cs rfl ?_; clear H; intro b1 w H) | (refine wb_cell H rfl 0 3 _ rfl _ 0 rfl _ _ rfl Try.isAgg3 (.int .i64 ver) H0.out ?_))
  have HB := Lib.hid H
  clear H h0 h1 q0 q1 HR
  go_loopw [3] (fun i W => ∃ k m : Nat, k ≤ 8 ∧ i = .int .i64 k ∧ Hid (Sb [] w0 W [(b1, cs, 38)] []) ∧ Hid (MaskOk m (T.take k) ∧ seatsBad 0 T = seatsBad m (T.drop k))) (fun i _ => 8 - (intOf i).toNat)
  case atStart => exact ⟨0, 0, Nat.zero_le _, rfl, HB, Lib.hid ⟨MaskOk.nil, rfl⟩⟩
  case round =>
    clear HB
    obtain ⟨k, m, hk, rfl, HB, HA⟩ := hrel
    by_cases hlt : k < 8
    · obtain ⟨s, hs⟩ : ∃ s, T[k]? = some s := ⟨T[k]'(by rw [H8.out]; exact hlt), List.getElem?_eq_getElem _⟩
      have hd : T.drop k = s :: T.drop (k + 1) := by
        obtain ⟨hk', e⟩ := List.getElem?_eq_some_iff.1 hs
        rw [← e, List.drop_eq_getElem_cons hk']
      have ht : T.take (k + 1) = T.take k ++ [s] := by
        obtain ⟨hk', e⟩ := List.getElem?_eq_some_iff.1 hs
        rw [List.take_succ_eq_append_getElem hk', e]
      have HD := Lib.hid (HA.out.2.trans (by rw [hd]))
      have HM := Lib.hid HA.out.1
      have Htk := Lib.hid ht
      have CX := Lib.hid (fun (j : Nat) (v : Value) hv => HAT.out k j s v hs hv)
      have H := HB.out
      clear HB hs hd ht HA
      obtain ⟨p, g⟩ := s
      have HX := Lib.hid (show seatBad ⟨p, g⟩ = true → r = false from fun h => by rw [HR2.out, HD.out, seatsBad, h]; simp)
      go_upto_region 7 with (first | (refine wb_part H rfl 0 35 _ rfl _ (1 + k * 2) rfl _ _ rfl _ Try.underlying35 rfl 2 info30 [.int .i64 p, .int .i64 g] CX.out rfl ?_) | (refine wb_alloc H rfl 35 rfl _ Try.zeroValue35 ?_; clear H; intro b4 w H) | (refine wb_put H rfl 0 35 _ _ rfl _ 0 rfl _ _ rfl (.agg #[.int .i64 p, .int .i64 g]) rfl 2 info30 rfl (Nat.le_of_ble_eq_true rfl) rfl #[.int .i64 p, .int .i64 g] rfl ?_; clear H; intro w H))
      replace H : Sb [] w0 w [(b4, #[.int .i64 p, .int .i64 g], 35), (b1, cs, 38)] [] := H
      have c0 : w.cell? ⟨b4, 0, none⟩ = some (.int .i64 p) := cell_of_row w b4 0 _ 35 (0, 0) (H.holds _ (List.mem_cons_self ..))
      have c1 : w.cell? ⟨b4, 1, none⟩ = some (.int .i64 g) := cell_of_row w b4 1 _ 35 (0, 0) (H.holds _ (List.mem_cons_self ..))
      have HB := Lib.hid H
      clear H
      by_cases a1 : p < -1
      · have z1 : decide (p < -1) = true := decide_eq_true a1
        have hf : r = false := HX.out (by simp [seatBad, a1])
        subst hf
        go_wp2_with fail
        go_ret
        exact ⟨rfl, HB.out.below⟩
      have z1 : decide (p < -1) = false := decide_eq_false a1
      by_cases a2 : 12 ≤ p
      · have z2 : decide (12 ≤ p) = true := decide_eq_true a2
        have hf : r = false := HX.out (by simp [seatBad, a2])
        subst hf
        go_wp2_with fail
        go_ret
        exact ⟨rfl, HB.out.below⟩
      have z2 : decide (12 ≤ p) = false := decide_eq_false a2
      by_cases a3 : g < 0
      · have z3 : decide (g < 0) = true := decide_eq_true a3
        have hf : r = false := HX.out (by simp [seatBad, a3])
        subst hf
        go_wp2_with fail
        go_ret
        exact ⟨rfl, HB.out.below⟩
      have z3 : decide (g < 0) = false := decide_eq_false a3
      by_cases a4 : 60000 < g
      · have z4 : decide (60000 < g) = true := decide_eq_true a4
        have hf : r = false := HX.out (by simp [seatBad, a4])
        subst hf
        go_wp2_with fail
        go_ret
        exact ⟨rfl, HB.out.below⟩
      have z4 : decide (60000 < g) = false := decide_eq_false a4
      have hsb : seatBad ⟨p, g⟩ = false := by unfold seatBad; rw [z1, z2, z3, z4]; rfl
      have HSt := Lib.hid (step_bad HM.out hsb)
      have HX2 : Hid (stepBad m ⟨p, g⟩ = true → r = false) := Lib.hid (fun h => by rw [HR2.out, HD.out, seatsBad, h]; simp)
      have Hnx : Hid (stepBad m ⟨p, g⟩ = false → MaskOk (m ||| bitOf p) (T.take (k + 1)) ∧ seatsBad 0 T = seatsBad (m ||| bitOf p) (T.drop (k + 1))) := Lib.hid (fun h => ⟨by rw [Htk.out]; exact HM.out.snoc hsb, by rw [HD.out, seatsBad, hsb, h]; rfl⟩)
      clear hsb HX HM HD Htk
      by_cases a5 : 0 ≤ p ∧ g < 1
      · have z5 : decide (0 ≤ p) = true := decide_eq_true a5.1
        have z6 : decide (g < 1) = true := decide_eq_true a5.2
        have hf : r = false := HX2.out (HSt.out.2 (.inl a5))
        subst hf
        go_wp2_with fail
        go_ret
        exact ⟨rfl, HB.out.below⟩
      by_cases a6 : 0 ≤ p
      · have z5 : decide (0 ≤ p) = true := decide_eq_true a6
        have z6 : decide (g < 1) = false := decide_eq_false (fun h => a5 ⟨a6, h⟩)
        go_wp2_with fail
        clear c0 c1 z1 z2 z3 z4 z6 a1 a2 a3 a4
        go_loopw [5] (fun i W => ∃ j : Nat, j ≤ k ∧ i = .int .i64 j ∧ Hid (Sb [] w0 W [(b4, #[.int .i64 p, .int .i64 g], 35), (b1, cs, 38)] []) ∧ Hid (∀ q ∈ T.take j, q.peer ≠ p)) (fun i _ => k - (intOf i).toNat)
        case atStart => exact ⟨0, Nat.zero_le _, rfl, HB, Lib.hid (fun q hq => by simp at hq)⟩
        case round =>
          clear HB
          obtain ⟨j, hj, rfl, HB, HN⟩ := hrel
          by_cases hjk : j < k
          · obtain ⟨u, hu⟩ : ∃ u, T[j]? = some u := ⟨T[j]'(by rw [H8.out]; omega), List.getElem?_eq_getElem _⟩
            have c4 : wr.cell? ⟨b4, 0, none⟩ = some (.int .i64 p) := cell_of_row wr b4 0 _ 35 (0, 0) (HB.out.holds _ (List.mem_cons_self ..))
            have cu : wr.cell? ⟨b1, 1 + j * 2, none⟩ = some (.int .i64 u.peer) := (cell_of_row wr b1 (1 + j * 2) _ 38 (0, 0) (HB.out.holds _ (List.mem_cons_of_mem _ (List.mem_cons_self ..)))).trans (HAT.out j 0 u _ hu rfl)
            have Hu := Lib.hid hu
            clear hu
            by_cases e : u.peer = p
            · have he : decide (u.peer = p) = true := decide_eq_true e
              have hf : r = false := HX2.out (HSt.out.2 (.inr ⟨a6, u, by
                have hm := List.mem_of_getElem? (show (T.take k)[j]? = some u by rw [List.getElem?_take, if_pos hjk]; exact Hu.out)
                exact hm, e⟩))
              subst hf
              generalize u.peer = up at *
              subst e
              go_wp2_with fail
              go_quiet (fail)
              have HB2 := Lib.hid (HB.out.call (below_drewN (Below.refl _ _) nq)).below
              clear c4 cu
              go_wp2_with fail
              go_ret
              exact ⟨rfl, HB2.out⟩
            · have he : decide (u.peer = p) = false := decide_eq_false e
              have HN2 : Hid (∀ q ∈ T.take (j + 1), q.peer ≠ p) := Lib.hid (fun q hq => by
                obtain ⟨hj', e2⟩ := List.getElem?_eq_some_iff.1 Hu.out
                rw [List.take_succ_eq_append_getElem hj', e2] at hq
                rcases List.mem_append.1 hq with hq | hq
                · exact HN.out q hq
                · rw [List.mem_singleton] at hq; subst hq; exact e)
              generalize u.peer = up at *
              go_wp2_with fail
              go_quiet (fail)
              have HB2 := Lib.hid (HB.out.call (below_drewN (Below.refl _ _) nq))
              clear c4 cu
              go_wp2_with fail
              exact ⟨⟨j + 1, hjk, rfl, HB2, HN2⟩, by simp only [intOf]; omega⟩
          · obtain rfl : j = k := by omega
            have hsf : stepBad m ⟨p, g⟩ = false := by
              rw [Bool.eq_false_iff]
              intro h
              rcases HSt.out.1 h with h | ⟨_, q, hq, e⟩
              · exact a5 h
              · exact HN.out q hq e
            have Hn := Lib.hid (Hnx.out hsf)
            have HB2 := Lib.hid HB.out.tail
            clear HB hsf
            go_wp2_with fail
            exact ⟨⟨j + 1, _, hlt, rfl, HB2, Hn⟩, by simp only [intOf]; omega⟩
      · have z5 : decide (0 ≤ p) = false := decide_eq_false a6
        have hsf : stepBad m ⟨p, g⟩ = false := by
          rw [Bool.eq_false_iff]
          intro h
          rcases HSt.out.1 h with h | ⟨h, _⟩
          · exact a6 h.1
          · exact a6 h
        have Hn := Lib.hid (Hnx.out hsf)
        clear hsf
        go_wp2_with fail
        clear c0 c1 z1 z2 z3 z4 a1 a2 a3 a4
        go_loopw [5] (fun i W => ∃ j : Nat, j ≤ k ∧ i = .int .i64 j ∧ Hid (Sb [] w0 W [(b4, #[.int .i64 p, .int .i64 g], 35), (b1, cs, 38)] [])) (fun i _ => k - (intOf i).toNat)
        case atStart => exact ⟨0, Nat.zero_le _, rfl, HB⟩
        case round =>
          clear HB
          obtain ⟨j, hj, rfl, HB⟩ := hrel
          by_cases hjk : j < k
          · have c4 : wr.cell? ⟨b4, 0, none⟩ = some (.int .i64 p) := cell_of_row wr b4 0 _ 35 (0, 0) (HB.out.holds _ (List.mem_cons_self ..))
            go_wp2_with fail
            go_quiet (fail)
            have HB2 := Lib.hid (HB.out.call (below_drewN (Below.refl _ _) nq))
            clear c4
            go_wp2_with fail
            exact ⟨⟨j + 1, hjk, rfl, HB2⟩, by simp only [intOf]; omega⟩
          · obtain rfl : j = k := by omega
            have HB2 := Lib.hid HB.out.tail
            clear HB
            go_wp2_with fail
            exact ⟨⟨j + 1, _, hlt, rfl, HB2, Hn⟩, by simp only [intOf]; omega⟩
    · obtain rfl : k = 8 := by omega
      have hd : T.drop 8 = [] := by rw [← H8.out, List.drop_length]
      have hf : r = true := by rw [HR2.out, HA.out.2, hd]; rfl
      subst hf
      go_wp2_with fail
      go_ret
      exact ⟨rfl, HB.out.below⟩
end Go.Proofs.Ytdopfonebpklkaa.game
