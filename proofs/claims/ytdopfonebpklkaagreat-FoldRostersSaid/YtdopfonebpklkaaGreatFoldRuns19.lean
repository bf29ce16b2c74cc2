/- The document's answer: an input that may be, Slot, Free. The document's answer: Take, Give (printed by mkxb.py). The document's answer: Event (printed by mkxc.py). -/
import Derived.Test.YtdopfonebpklkaaGreatFoldRuns15
import Derived.Test.YtdopfonebpklkaaGreatFoldRuns16
import Derived.Test.YtdopfonebpklkaaGreatFoldRuns18
namespace Go.Proofs.YtdopfonebpklkaaGreat.game
open Go.ChangeShapes Go.WideShapes Go.ChangeAt Go.RowKit dice
set_option maxRecDepth 100000

theorem rmayIn_b (x y b : Int) (w0 : World) (hx : -128 ≤ x) (hy : -128 ≤ y) :
    Calls Tryz.prog 96 #[.agg #[.int .i8 x, .int .i8 y, .int .u8 b]] w0 fun e w' => e = .returned (.bool (mayIn ⟨x, y, b⟩)) ∧ Below w0.heap.size w0 w' := by
  have H := Sb.start w0
  obtain ⟨r, hr⟩ : ∃ r, mayIn ⟨x, y, b⟩ = r := ⟨_, rfl⟩
  rw [hr]
  have HR := Lib.hid hr
  clear hr
  go_enter Tryz.func96, Tryz.ntmps96
  go_upto_region 1 with (refine wb_box H rfl 39 _ rfl #[.int .i8 x, .int .i8 y, .int .u8 b] rfl ?_; clear H; intro b1 w H)
  have c0 : w.cell? ⟨b1, 0, none⟩ = some (.int .i8 x) := cell_of_row w b1 0 _ 39 (0, 0) (H.holds _ (List.mem_cons_self ..))
  have c1 : w.cell? ⟨b1, 1, none⟩ = some (.int .i8 y) := cell_of_row w b1 1 _ 39 (0, 0) (H.holds _ (List.mem_cons_self ..))
  by_cases h1 : x = -128
  · have q : decide (x = -128) = true := decide_eq_true h1
    obtain rfl : r = false := by rw [← HR.out]; simp [mayIn]; omega
    subst h1
    go_wp2_with fail
    go_ret
    exact ⟨by first | rfl | simp, H.below⟩
  · have q : decide (x = -128) = false := decide_eq_false h1
    by_cases h2 : y = -128
    · have q2 : decide (y = -128) = true := decide_eq_true h2
      obtain rfl : r = false := by rw [← HR.out]; simp [mayIn]; omega
      subst h2
      go_wp2_with fail
      go_ret
      exact ⟨by first | rfl | simp, H.below⟩
    · have q2 : decide (y = -128) = false := decide_eq_false h2
      obtain rfl : r = true := by rw [← HR.out]; simp [mayIn]; omega
      go_wp2_with fail
      go_ret
      exact ⟨by first | rfl | simp [h1, h2], H.below⟩
theorem slotI_at {T : List Seat} {p : Int} {k : Nat} {s : Seat} (hs : T[k]? = some s) (hp : s.peer = p) (hA : ∀ (j : Nat) (s : Seat), j < k → T[j]? = some s → s.peer ≠ p) : slotI T p = (k : Int) := by
  have : T.findIdx? (fun q => q.peer == p) = some k := by
    obtain ⟨hk', e⟩ := List.getElem?_eq_some_iff.1 hs
    exact List.findIdx?_eq_some_iff_getElem.2 ⟨hk', by rw [e]; simpa using hp, fun j hj => by simpa using hA j _ hj (List.getElem?_eq_getElem _)⟩
  simp only [slotI, this]
theorem slotI_none {T : List Seat} {p : Int} (h8 : T.length = 8) (hA : ∀ (j : Nat) (s : Seat), j < 8 → T[j]? = some s → s.peer ≠ p) : slotI T p = -1 := by
  have : T.findIdx? (fun q => q.peer == p) = none := by
    rw [List.findIdx?_eq_none_iff]
    intro q hq
    obtain ⟨j, hj⟩ := List.mem_iff_getElem?.1 hq
    have := (List.getElem?_eq_some_iff.1 hj).1
    simpa using hA j q (by omega) hj
  simp only [slotI, this]
set_option maxHeartbeats 4000000 in
theorem rslot_b (ver : Int) (T : List Seat) (p : Int) (w0 : World) (h8 : T.length = 8) :
    Calls Tryz.prog 28 #[.agg (rosterC ver T), .int .i64 p] w0 fun e w' => e = .returned (.int .i64 (ofI ver T p)) ∧ Below w0.heap.size w0 w' := by
  have H := Sb.start w0
  have H8 := Lib.hid h8
  have HM := Lib.hid (fun w => rmayR_b ver T w h8)
  have HS := Lib.hid (fun k q h => rc_seat (ver := ver) (T := T) k 0 q _ h rfl)
  have Hz := Lib.hid (rc_size (ver := ver) h8)
  have HO := Lib.hid (show ofI ver T p = if 0 ≤ p ∧ mayR ver T = true then slotI T p else -1 from rfl)
  clear h8
  generalize ofI ver T p = r at *
  generalize rosterC ver T = rc at *
  go_enter Tryz.func28, Tryz.ntmps28
  go_wp2_with (refine wb_box H rfl 33 _ rfl rc rfl ?_; clear H; intro b1 w H)
  have H' := Lib.hid H
  clear H
  go_loopw [5] (fun i W => ∃ k : Nat, k ≤ 8 ∧ i = .int .i64 k ∧ Hid (Sb [] w0 W [(b1, rc, 33)] []) ∧ Hid (∀ (j : Nat) (s : Seat), j < k → T[j]? = some s → s.peer ≠ p) ∧ Hid (k ≠ 0 → 0 ≤ p ∧ mayR ver T = true)) (fun i _ => 8 - (intOf i).toNat)
  case atStart => exact ⟨0, Nat.zero_le _, rfl, H', Lib.hid (fun j s hj => absurd hj (by omega)), Lib.hid (fun h => absurd rfl h)⟩
  case round =>
    clear H'
    obtain ⟨k, hk, rfl, HB, HA, HP⟩ := hrel
    by_cases hlt : k < 8
    · by_cases h0 : 0 ≤ p
      rotate_left
      · obtain rfl : r = -1 := by rw [HO.out, if_neg (fun h => h0 h.1)]
        go_wp2_with fail
        go_ret
        exact ⟨rfl, HB.out.below⟩
      have H := HB.out
      clear HB
      go_wp2_with (refine wb_whole H rfl 0 33 _ rfl _ rfl rc rfl _ Tryz.underlying33 rfl 17 info33 Hz.out ?_)
      refine (HM.out _).mono ?_; rintro e w' ⟨rfl, hb⟩
      replace H := H.call hb
      clear hb
      cases hm : mayR ver T with
      | false =>
        obtain rfl : r = -1 := by rw [HO.out, if_neg (fun h => by rw [hm] at h; cases h.2)]
        go_wp2_with fail
        go_ret
        exact ⟨rfl, H.below⟩
      | true =>
        obtain ⟨s, hs⟩ : ∃ s, T[k]? = some s := ⟨T[k]'(by rw [H8.out]; exact hlt), List.getElem?_eq_getElem _⟩
        have c0 : w'.cell? ⟨b1, 1 + k * 2, none⟩ = some (.int .i64 s.peer) := (cell_of_row w' b1 _ _ 33 (0, 0) (H.holds _ (List.mem_cons_self ..))).trans (HS.out k s hs)
        have Hs := Lib.hid hs
        have Hm := Lib.hid (And.intro h0 hm)
        have HB := Lib.hid H
        clear hs hm h0 HP H
        by_cases hp : s.peer = p
        · have q : decide (s.peer = p) = true := decide_eq_true hp
          obtain rfl : r = (k : Int) := by rw [HO.out, if_pos Hm.out]; exact slotI_at Hs.out hp HA.out
          go_wp2_with fail
          go_ret
          exact ⟨rfl, HB.out.below⟩
        · have q : decide (s.peer = p) = false := decide_eq_false hp
          have HA2 : Hid (∀ (j : Nat) (s : Seat), j < k + 1 → T[j]? = some s → s.peer ≠ p) := Lib.hid (fun j s' hj hs' => by
            by_cases hjk : j < k
            · exact HA.out j s' hjk hs'
            · obtain rfl : j = k := by omega
              rw [Hs.out] at hs'
              injection hs' with hs'
              rw [← hs']; exact hp)
          have Hp : Hid (k + 1 ≠ 0 → 0 ≤ p ∧ mayR ver T = true) := Lib.hid (fun _ => Hm.out)
          clear HA Hm
          go_wp2_with fail
          exact ⟨⟨k + 1, hlt, rfl, HB, HA2, Hp⟩, by simp only [intOf]; omega⟩
    · obtain rfl : k = 8 := by omega
      obtain rfl : r = -1 := by rw [HO.out, if_pos (HP.out (by decide))]; exact slotI_none H8.out HA.out
      go_wp2_with fail
      go_ret
      exact ⟨rfl, HB.out.below⟩
set_option maxHeartbeats 4000000 in
theorem rfree_b (ver : Int) (T : List Seat) (w0 : World) (h8 : T.length = 8) :
    Calls Tryz.prog 64 #[.agg (rosterC ver T)] w0 fun e w' => (∃ f : Int, -1 ≤ f ∧ f < 8 ∧ e = .returned (.int .i64 f)) ∧ Below w0.heap.size w0 w' := by
  have H := Sb.start w0
  have H8 := Lib.hid h8
  have HM := Lib.hid (fun w => rmayR_b ver T w h8)
  have HS := Lib.hid (fun k q h => rc_seat (ver := ver) (T := T) k 0 q _ h rfl)
  have HG := Lib.hid (fun k q h => rc_seat (ver := ver) (T := T) k 1 q _ h rfl)
  have Hz := Lib.hid (rc_size (ver := ver) h8)
  clear h8
  generalize rosterC ver T = rc at *
  go_enter Tryz.func64, Tryz.ntmps64
  go_wp2_with (refine wb_box H rfl 33 _ rfl rc rfl ?_; clear H; intro b1 w H)
  have H' := Lib.hid H
  clear H
  go_loopw [3, 4] (fun bv i W => ∃ (k : Nat) (b : Int), k ≤ 8 ∧ i = .int .i64 k ∧ bv = .int .i64 b ∧ Hid (Sb [] w0 W [(b1, rc, 33)] []) ∧ Hid (-1 ≤ b ∧ b < 8)) (fun _ i _ => 8 - (intOf i).toNat)
  case atStart => exact ⟨0, -1, Nat.zero_le _, rfl, rfl, H', Lib.hid (by omega)⟩
  case round =>
    clear H'
    obtain ⟨k, b, hk, rfl, rfl, HB, HA⟩ := hrel
    by_cases hlt : k < 8
    · have q8 : decide ((k : Int) < 8) = true := decide_eq_true (by omega)
      have H := HB.out
      clear HB
      go_wp2_with (refine wb_whole H rfl 0 33 _ rfl _ rfl rc rfl _ Tryz.underlying33 rfl 17 info33 Hz.out ?_)
      refine (HM.out _).mono ?_; rintro e w' ⟨rfl, hb⟩
      replace H := H.call hb
      clear hb
      have HB := Lib.hid H
      clear H
      cases mayR ver T with
      | false =>
        by_cases h2 : 0 ≤ b
        rotate_left
        · have q2 : decide (0 ≤ b) = false := decide_eq_false h2
          go_wp2_with fail
          go_ret
          exact ⟨⟨b, HA.out.1, HA.out.2, rfl⟩, HB.out.below⟩
        have q2 : decide (0 ≤ b) = true := decide_eq_true h2
        obtain ⟨n, rfl⟩ := Int.eq_ofNat_of_zero_le h2
        have hn8 : n < 8 := by have := HA.out; omega
        obtain ⟨u, hu⟩ : ∃ s, T[n]? = some s := ⟨T[n]'(by rw [H8.out]; exact hn8), List.getElem?_eq_getElem _⟩
        have c2 : w'.cell? ⟨b1, 1 + n * 2 + 1, none⟩ = some (.int .i64 u.gen) := (cell_of_row w' b1 _ _ 33 (0, 0) (HB.out.holds _ (List.mem_cons_self ..))).trans (HG.out n u hu)
        by_cases h3 : u.gen = 60000
        · have q3 : decide (u.gen = 60000) = true := decide_eq_true h3
          go_wp2_with fail
          go_ret
          exact ⟨⟨-1, by omega, by omega, rfl⟩, HB.out.below⟩
        · have q3 : decide (u.gen = 60000) = false := decide_eq_false h3
          go_wp2_with fail
          go_ret
          exact ⟨⟨n, HA.out.1, HA.out.2, rfl⟩, HB.out.below⟩
      | true =>
        obtain ⟨s, hs⟩ : ∃ s, T[k]? = some s := ⟨T[k]'(by rw [H8.out]; exact hlt), List.getElem?_eq_getElem _⟩
        have c0 : w'.cell? ⟨b1, 1 + k * 2, none⟩ = some (.int .i64 s.peer) := (cell_of_row w' b1 _ _ 33 (0, 0) (HB.out.holds _ (List.mem_cons_self ..))).trans (HS.out k s hs)
        have c1 : w'.cell? ⟨b1, 1 + k * 2 + 1, none⟩ = some (.int .i64 s.gen) := (cell_of_row w' b1 _ _ 33 (0, 0) (HB.out.holds _ (List.mem_cons_self ..))).trans (HG.out k s hs)
        clear hs
        by_cases h1 : s.peer < 0
        rotate_left
        · have q1 : decide (s.peer < 0) = false := decide_eq_false h1
          go_wp2_with fail
          go_quiet (fail)
          have HB2 := Lib.hid (HB.out.call (below_drewN (Below.refl _ _) nq))
          clear HB
          go_wp2_with fail
          exact ⟨⟨k + 1, b, hlt, rfl, rfl, HB2, Lib.hid HA.out⟩, by simp only [intOf]; omega⟩
        have q1 : decide (s.peer < 0) = true := decide_eq_true h1
        by_cases h2 : b < 0
        · have q2 : decide (b < 0) = true := decide_eq_true h2
          go_wp2_with fail
          go_quiet (fail)
          have HB2 := Lib.hid (HB.out.call (below_drewN (Below.refl _ _) nq))
          clear HB
          go_wp2_with fail
          exact ⟨⟨k + 1, k, hlt, rfl, rfl, HB2, Lib.hid (by omega)⟩, by simp only [intOf]; omega⟩
        have q2 : decide (b < 0) = false := decide_eq_false h2
        obtain ⟨n, rfl⟩ := Int.eq_ofNat_of_zero_le (show 0 ≤ b by omega)
        have hn8 : n < 8 := by have := HA.out; omega
        obtain ⟨u, hu⟩ : ∃ s, T[n]? = some s := ⟨T[n]'(by rw [H8.out]; exact hn8), List.getElem?_eq_getElem _⟩
        have c2 : w'.cell? ⟨b1, 1 + n * 2 + 1, none⟩ = some (.int .i64 u.gen) := (cell_of_row w' b1 _ _ 33 (0, 0) (HB.out.holds _ (List.mem_cons_self ..))).trans (HG.out n u hu)
        clear hu
        by_cases h3 : s.gen < u.gen
        · have q3 : decide (s.gen < u.gen) = true := decide_eq_true h3
          go_wp2_with fail
          go_quiet (fail)
          have HB2 := Lib.hid (HB.out.call (below_drewN (Below.refl _ _) nq))
          clear HB
          go_wp2_with fail
          exact ⟨⟨k + 1, k, hlt, rfl, rfl, HB2, Lib.hid (by omega)⟩, by simp only [intOf]; omega⟩
        · have q3 : decide (s.gen < u.gen) = false := decide_eq_false h3
          go_wp2_with fail
          go_quiet (fail)
          have HB2 := Lib.hid (HB.out.call (below_drewN (Below.refl _ _) nq))
          clear HB
          go_wp2_with fail
          exact ⟨⟨k + 1, n, hlt, rfl, rfl, HB2, Lib.hid HA.out⟩, by simp only [intOf]; omega⟩
    · obtain rfl : k = 8 := by omega
      by_cases h2 : 0 ≤ b
      rotate_left
      · have q2 : decide (0 ≤ b) = false := decide_eq_false h2
        go_wp2_with fail
        go_ret
        exact ⟨⟨b, HA.out.1, HA.out.2, rfl⟩, HB.out.below⟩
      have q2 : decide (0 ≤ b) = true := decide_eq_true h2
      obtain ⟨n, rfl⟩ := Int.eq_ofNat_of_zero_le h2
      have hn8 : n < 8 := by have := HA.out; omega
      obtain ⟨u, hu⟩ : ∃ s, T[n]? = some s := ⟨T[n]'(by rw [H8.out]; exact hn8), List.getElem?_eq_getElem _⟩
      have c2 : wr.cell? ⟨b1, 1 + n * 2 + 1, none⟩ = some (.int .i64 u.gen) := (cell_of_row wr b1 _ _ 33 (0, 0) (HB.out.holds _ (List.mem_cons_self ..))).trans (HG.out n u hu)
      by_cases h3 : u.gen = 60000
      · have q3 : decide (u.gen = 60000) = true := decide_eq_true h3
        go_wp2_with fail
        go_ret
        exact ⟨⟨-1, by omega, by omega, rfl⟩, HB.out.below⟩
      · have q3 : decide (u.gen = 60000) = false := decide_eq_false h3
        go_wp2_with fail
        go_ret
        exact ⟨⟨n, HA.out.1, HA.out.2, rfl⟩, HB.out.below⟩
end Go.Proofs.YtdopfonebpklkaaGreat.game
namespace Go.Proofs.YtdopfonebpklkaaGreat.game
open Go.ChangeShapes Go.WideShapes Go.ChangeAt Go.RowKit dice
set_option maxRecDepth 100000

theorem takeF_none {ver : Int} {T : List Seat} {n : Nat} {p : Int} {q : Seat} (hq : T[n]? = some q) (h : ¬ (ver < 1073741824 ∧ q.peer < 0 ∧ 0 ≤ p ∧ p < 12 ∧ T.any (fun q => q.peer == p) = false ∧ q.gen < 60000)) : takeF ver T n p = none := by
  unfold takeF
  split
  · rename_i hc
    rw [Int.toNat_natCast, hq, Option.bind_some, if_neg (fun h' => h ⟨hc.2.1, h'⟩)]
  · rfl
theorem giveF_none {ver : Int} {T : List Seat} {n : Nat} {q : Seat} (hq : T[n]? = some q) (h : ¬ (ver < 1073741824 ∧ 0 ≤ q.peer)) : giveF ver T n = none := by
  unfold giveF
  split
  · rename_i hc
    rw [Int.toNat_natCast, hq, Option.bind_some, if_neg (fun h' => h ⟨hc.2.1, h'⟩)]
  · rfl
set_option maxHeartbeats 8000000 in
theorem rtake_b (ver : Int) (T : List Seat) (k p : Int) (w0 : World) (h8 : T.length = 8) :
    Calls Tryz.prog 97 #[.agg (rosterC ver T), .int .i64 k, .int .i64 p] w0 fun e w' => RosOut ver T (takeF ver T k p) e ∧ Below w0.heap.size w0 w' := by
  have H := Sb.start w0
  have H8 := Lib.hid h8
  have HS := Lib.hid (fun w => rmayR_b ver T w h8)
  have Hz := Lib.hid (rc_size (ver := ver) h8)
  have HO := Lib.hid (rc_one (ver := ver) (T := T))
  have Hv0 : Hid ((rosterC ver T)[0]? = some (.int .i64 ver)) := Lib.hid rfl
  have Hsp : Hid (splice zR 0 (Value.cells (.agg (rosterC ver T))).toList = rosterC ver T) := Lib.hid (splice_all _ _ (by simp [Value.cells, rc_size h8, zR]))
  go_enter Tryz.func97, Tryz.ntmps97
  go_wp2_with (first | (refine wb_box H rfl 33 _ rfl (rosterC ver T) rfl ?_; clear H; intro b3 w H) | (refine wb_alloc H rfl 33 rfl _ Tryz.zeroValue33 ?_; clear H; intro b6 w H; replace H : Sb [] w0 w [(b6, zR, 33), (b3, rosterC ver T, 33)] [] := H) | (refine wb_whole H rfl 1 33 _ rfl _ rfl (rosterC ver T) rfl _ Tryz.underlying33 rfl 17 info33 Hz.out ?_))
  refine (HS.out _).mono ?_; rintro e w' ⟨rfl, hb⟩
  replace H := H.call hb
  clear hb HS
  cases hm : mayR ver T with
  | false =>
    have HF : Hid (takeF ver T k p = none) := Lib.hid (by unfold takeF; rw [if_neg (fun h => by rw [hm] at h; cases h.1)])
    clear hm
    go_upto_region 2 with fail
    go_wp2_with (first | (refine wb_whole H rfl 1 33 _ rfl _ rfl (rosterC ver T) rfl _ Tryz.underlying33 rfl 17 info33 Hz.out ?_) | (refine wb_put H rfl 0 33 _ _ rfl _ 0 rfl _ _ rfl (.agg (rosterC ver T)) rfl 17 info33 Hz.out (Nat.le_of_ble_eq_true rfl) HO.out _ Hsp.out ?_; clear H; intro w H))
    refine bodyPost_ret (v := .tuple #[.agg (rosterC ver T), .int .i64 1]) (res33t rfl rfl rfl (H.holds _ (List.mem_cons_self ..)) Hz.out) rfl ⟨?_, H.below⟩
    unfold RosOut
    rw [HF.out]
    rfl
  | true =>
    have Hv := Lib.hid (show 0 ≤ ver ∧ ver ≤ 1073741824 from ⟨(mayR_iff.1 hm).1, (mayR_iff.1 hm).2.1⟩)
    by_cases h1 : 0 ≤ k
    rotate_left
    · have HF : Hid (takeF ver T k p = none) := Lib.hid (by unfold takeF; rw [if_neg (fun h => by omega)])
      have q1 : decide (k < 0) = true := decide_eq_true (by omega)
      clear hm
      go_upto_region 2 with fail
      go_wp2_with (first | (refine wb_whole H rfl 1 33 _ rfl _ rfl (rosterC ver T) rfl _ Tryz.underlying33 rfl 17 info33 Hz.out ?_) | (refine wb_put H rfl 0 33 _ _ rfl _ 0 rfl _ _ rfl (.agg (rosterC ver T)) rfl 17 info33 Hz.out (Nat.le_of_ble_eq_true rfl) HO.out _ Hsp.out ?_; clear H; intro w H))
      refine bodyPost_ret (v := .tuple #[.agg (rosterC ver T), .int .i64 1]) (res33t rfl rfl rfl (H.holds _ (List.mem_cons_self ..)) Hz.out) rfl ⟨?_, H.below⟩
      unfold RosOut
      rw [HF.out]
      rfl
    have q1 : decide (k < 0) = false := decide_eq_false (by omega)
    by_cases h2 : k < 8
    rotate_left
    · have HF : Hid (takeF ver T k p = none) := Lib.hid (by unfold takeF; rw [if_neg (fun h => by omega)])
      have q2 : decide (8 ≤ k) = true := decide_eq_true (by omega)
      clear hm
      go_upto_region 2 with fail
      go_wp2_with (first | (refine wb_whole H rfl 1 33 _ rfl _ rfl (rosterC ver T) rfl _ Tryz.underlying33 rfl 17 info33 Hz.out ?_) | (refine wb_put H rfl 0 33 _ _ rfl _ 0 rfl _ _ rfl (.agg (rosterC ver T)) rfl 17 info33 Hz.out (Nat.le_of_ble_eq_true rfl) HO.out _ Hsp.out ?_; clear H; intro w H))
      refine bodyPost_ret (v := .tuple #[.agg (rosterC ver T), .int .i64 1]) (res33t rfl rfl rfl (H.holds _ (List.mem_cons_self ..)) Hz.out) rfl ⟨?_, H.below⟩
      unfold RosOut
      rw [HF.out]
      rfl
    have q2 : decide (8 ≤ k) = false := decide_eq_false (by omega)
    obtain ⟨n, rfl⟩ := Int.eq_ofNat_of_zero_le h1
    have hn8 : n < 8 := by omega
    obtain ⟨q, hq⟩ : ∃ q, T[n]? = some q := ⟨T[n]'(by rw [h8]; exact hn8), List.getElem?_eq_getElem _⟩
    have hg := (mayR_iff.1 hm).2.2.1 q (List.mem_of_getElem? hq)
    have Hg0 := Lib.hid (show 0 ≤ q.gen ∧ q.gen ≤ 60000 from ⟨hg.2.2.1, hg.2.2.2.1⟩)
    have c0 : w'.cell? ⟨b3, 1 + n * 2, none⟩ = some (.int .i64 q.peer) := (cell_of_row w' b3 _ _ 33 (0, 0) (H.holds _ (List.mem_cons_of_mem _ (List.mem_cons_self ..)))).trans (rc_seat (ver := ver) n 0 q _ hq rfl)
    have c1 : w'.cell? ⟨b3, 1 + n * 2 + 1, none⟩ = some (.int .i64 q.gen) := (cell_of_row w' b3 _ _ 33 (0, 0) (H.holds _ (List.mem_cons_of_mem _ (List.mem_cons_self ..)))).trans (rc_seat (ver := ver) n 1 q _ hq rfl)
    have cv : w'.cell? ⟨b3, 0, none⟩ = some (.int .i64 ver) := (cell_of_row w' b3 _ _ 33 (0, 0) (H.holds _ (List.mem_cons_of_mem _ (List.mem_cons_self ..)))).trans Hv0.out
    have Hm := Lib.hid hm
    have Hq := Lib.hid hq
    clear hm hg hq
    by_cases h3 : q.peer < 0
    rotate_left
    · have HF : Hid (takeF ver T n p = none) := Lib.hid (takeF_none Hq.out (by omega))
      have qh3 : decide (0 ≤ q.peer) = true := decide_eq_true (by omega)
      go_upto_region 2 with fail
      go_wp2_with (first | (refine wb_whole H rfl 1 33 _ rfl _ rfl (rosterC ver T) rfl _ Tryz.underlying33 rfl 17 info33 Hz.out ?_) | (refine wb_put H rfl 0 33 _ _ rfl _ 0 rfl _ _ rfl (.agg (rosterC ver T)) rfl 17 info33 Hz.out (Nat.le_of_ble_eq_true rfl) HO.out _ Hsp.out ?_; clear H; intro w H))
      refine bodyPost_ret (v := .tuple #[.agg (rosterC ver T), .int .i64 1]) (res33t rfl rfl rfl (H.holds _ (List.mem_cons_self ..)) Hz.out) rfl ⟨?_, H.below⟩
      unfold RosOut
      rw [HF.out]
      rfl
    have qh3 : decide (0 ≤ q.peer) = false := decide_eq_false (by omega)
    by_cases h4 : 0 ≤ p
    rotate_left
    · have HF : Hid (takeF ver T n p = none) := Lib.hid (takeF_none Hq.out (by omega))
      have qh4 : decide (p < 0) = true := decide_eq_true (by omega)
      go_upto_region 2 with fail
      go_wp2_with (first | (refine wb_whole H rfl 1 33 _ rfl _ rfl (rosterC ver T) rfl _ Tryz.underlying33 rfl 17 info33 Hz.out ?_) | (refine wb_put H rfl 0 33 _ _ rfl _ 0 rfl _ _ rfl (.agg (rosterC ver T)) rfl 17 info33 Hz.out (Nat.le_of_ble_eq_true rfl) HO.out _ Hsp.out ?_; clear H; intro w H))
      refine bodyPost_ret (v := .tuple #[.agg (rosterC ver T), .int .i64 1]) (res33t rfl rfl rfl (H.holds _ (List.mem_cons_self ..)) Hz.out) rfl ⟨?_, H.below⟩
      unfold RosOut
      rw [HF.out]
      rfl
    have qh4 : decide (p < 0) = false := decide_eq_false (by omega)
    by_cases h5 : p < 12
    rotate_left
    · have HF : Hid (takeF ver T n p = none) := Lib.hid (takeF_none Hq.out (by omega))
      have qh5 : decide (12 ≤ p) = true := decide_eq_true (by omega)
      go_upto_region 2 with fail
      go_wp2_with (first | (refine wb_whole H rfl 1 33 _ rfl _ rfl (rosterC ver T) rfl _ Tryz.underlying33 rfl 17 info33 Hz.out ?_) | (refine wb_put H rfl 0 33 _ _ rfl _ 0 rfl _ _ rfl (.agg (rosterC ver T)) rfl 17 info33 Hz.out (Nat.le_of_ble_eq_true rfl) HO.out _ Hsp.out ?_; clear H; intro w H))
      refine bodyPost_ret (v := .tuple #[.agg (rosterC ver T), .int .i64 1]) (res33t rfl rfl rfl (H.holds _ (List.mem_cons_self ..)) Hz.out) rfl ⟨?_, H.below⟩
      unfold RosOut
      rw [HF.out]
      rfl
    have qh5 : decide (12 ≤ p) = false := decide_eq_false (by omega)
    have hof : ofI ver T p = slotI T p := by unfold ofI; rw [if_pos ⟨h4, Hm.out⟩]
    have HOf := Lib.hid (fun w => rslot_b ver T p w H8.out)
    rw [hof] at HOf
    clear hof
    go_wp2_with (refine wb_whole H rfl 1 33 _ rfl _ rfl (rosterC ver T) rfl _ Tryz.underlying33 rfl 17 info33 Hz.out ?_)
    refine (HOf.out _).mono ?_; rintro e w' ⟨rfl, hb⟩
    replace H := H.call hb
    have c1 : w'.cell? ⟨b3, 1 + n * 2 + 1, none⟩ = some (.int .i64 q.gen) := (cell_of_row w' b3 _ _ 33 (0, 0) (H.holds _ (List.mem_cons_of_mem _ (List.mem_cons_self ..)))).trans (rc_seat (ver := ver) n 1 q _ Hq.out rfl)
    have cv : w'.cell? ⟨b3, 0, none⟩ = some (.int .i64 ver) := (cell_of_row w' b3 _ _ 33 (0, 0) (H.holds _ (List.mem_cons_of_mem _ (List.mem_cons_self ..)))).trans Hv0.out
    clear hb HOf
    have Hsl := Lib.hid (slotI_neg T p)
    by_cases h6 : slotI T p < 0
    rotate_left
    · have HF : Hid (takeF ver T n p = none) := Lib.hid (takeF_none Hq.out (fun h => h6 (Hsl.out.2 h.2.2.2.2.1)))
      have q2 : decide (0 ≤ slotI T p) = true := decide_eq_true (by omega)
      go_upto_region 2 with fail
      go_wp2_with (first | (refine wb_whole H rfl 1 33 _ rfl _ rfl (rosterC ver T) rfl _ Tryz.underlying33 rfl 17 info33 Hz.out ?_) | (refine wb_put H rfl 0 33 _ _ rfl _ 0 rfl _ _ rfl (.agg (rosterC ver T)) rfl 17 info33 Hz.out (Nat.le_of_ble_eq_true rfl) HO.out _ Hsp.out ?_; clear H; intro w H))
      refine bodyPost_ret (v := .tuple #[.agg (rosterC ver T), .int .i64 1]) (res33t rfl rfl rfl (H.holds _ (List.mem_cons_self ..)) Hz.out) rfl ⟨?_, H.below⟩
      unfold RosOut
      rw [HF.out]
      rfl
    have q6 : decide (0 ≤ slotI T p) = false := decide_eq_false (by omega)
    by_cases h7 : q.gen < 60000
    rotate_left
    · have HF : Hid (takeF ver T n p = none) := Lib.hid (takeF_none Hq.out (by omega))
      have qh7 : decide (60000 ≤ q.gen) = true := decide_eq_true (by omega)
      go_upto_region 2 with fail
      go_wp2_with (first | (refine wb_whole H rfl 1 33 _ rfl _ rfl (rosterC ver T) rfl _ Tryz.underlying33 rfl 17 info33 Hz.out ?_) | (refine wb_put H rfl 0 33 _ _ rfl _ 0 rfl _ _ rfl (.agg (rosterC ver T)) rfl 17 info33 Hz.out (Nat.le_of_ble_eq_true rfl) HO.out _ Hsp.out ?_; clear H; intro w H))
      refine bodyPost_ret (v := .tuple #[.agg (rosterC ver T), .int .i64 1]) (res33t rfl rfl rfl (H.holds _ (List.mem_cons_self ..)) Hz.out) rfl ⟨?_, H.below⟩
      unfold RosOut
      rw [HF.out]
      rfl
    have qh7 : decide (60000 ≤ q.gen) = false := decide_eq_false (by omega)
    by_cases h8 : ver < 1073741824
    rotate_left
    · have HF : Hid (takeF ver T n p = none) := Lib.hid (takeF_none Hq.out (by omega))
      have qh8 : decide (1073741824 ≤ ver) = true := decide_eq_true (by omega)
      go_upto_region 2 with fail
      go_wp2_with (first | (refine wb_whole H rfl 1 33 _ rfl _ rfl (rosterC ver T) rfl _ Tryz.underlying33 rfl 17 info33 Hz.out ?_) | (refine wb_put H rfl 0 33 _ _ rfl _ 0 rfl _ _ rfl (.agg (rosterC ver T)) rfl 17 info33 Hz.out (Nat.le_of_ble_eq_true rfl) HO.out _ Hsp.out ?_; clear H; intro w H))
      refine bodyPost_ret (v := .tuple #[.agg (rosterC ver T), .int .i64 1]) (res33t rfl rfl rfl (H.holds _ (List.mem_cons_self ..)) Hz.out) rfl ⟨?_, H.below⟩
      unfold RosOut
      rw [HF.out]
      rfl
    have qh8 : decide (1073741824 ≤ ver) = false := decide_eq_false (by omega)
    have HT : Hid (takeF ver T n p = some (ver + 1, T.set n ⟨p, q.gen + 1⟩)) := Lib.hid (by rw [takeF_at Hm.out h8 hn8 Hq.out, if_pos ⟨h3, h4, h5, Hsl.out.1 h6, h7⟩])
    have Hset := Lib.hid (rc_set (ver := ver) p (q.gen + 1) Hq.out)
    have Hz2 := Lib.hid (rc_size (ver := ver) (T := T.set n ⟨p, q.gen + 1⟩) (by rw [List.length_set]; exact H8.out))
    go_upto_region 3 with fail
    have g0 := Hg0.out
    have hft : 1 + n * 2 + 2 ≤ (rosterC ver T).size := by rw [Hz.out]; omega
    go_upto_region 4 with (first | (refine wl_build rfl 30 _ rfl #[.int .i64 p, .int .i64 (q.gen + 1)] (by kernel_rfl) ?_) | (refine wb_put H rfl 1 30 _ _ rfl _ (1 + n * 2) rfl _ _ rfl (.agg #[.int .i64 p, .int .i64 (q.gen + 1)]) rfl 2 info30 rfl hft rfl _ Hset.out ?_; clear H; intro w H))
    replace H : Sb [] w0 w [(b6, zR, 33), (b3, rosterC ver (T.set n ⟨p, q.gen + 1⟩), 33)] [] := H
    obtain ⟨v0, v1⟩ := Hv.out
    have hft0 : 0 + 1 ≤ (rosterC ver (T.set n ⟨p, q.gen + 1⟩)).size := by rw [Hz2.out]; omega
    have Hz3 : Hid ((rosterC (ver + 1) (T.set n ⟨p, q.gen + 1⟩)).size = 17) := Lib.hid (by have := Hz2.out; simpa [rosterC] using this)
    have Hsp2 : Hid (splice zR 0 (Value.cells (.agg (rosterC (ver + 1) (T.set n ⟨p, q.gen + 1⟩)))).toList = rosterC (ver + 1) (T.set n ⟨p, q.gen + 1⟩)) := Lib.hid (splice_all _ _ (by simp [Value.cells, Hz3.out, zR]))
    have HO2 := Lib.hid (rc_one (ver := ver + 1) (T := T.set n ⟨p, q.gen + 1⟩))
    clear c1 cv
    go_wp2_with (first | (refine wb_cell H rfl 1 3 _ rfl _ 0 rfl _ _ rfl Tryz.isAgg3 (.int .i64 ver) rfl ?_) | (refine wb_put H rfl 1 3 _ _ rfl _ 0 rfl _ _ rfl (.int .i64 (ver + 1)) rfl 1 info3 rfl hft0 rfl _ (rc_ver _) ?_; clear H; intro w H) | (refine wb_whole H rfl 1 33 _ rfl _ rfl (rosterC (ver + 1) (T.set n ⟨p, q.gen + 1⟩)) rfl _ Tryz.underlying33 rfl 17 info33 Hz3.out ?_) | (refine wb_put H rfl 0 33 _ _ rfl _ 0 rfl _ _ rfl (.agg (rosterC (ver + 1) (T.set n ⟨p, q.gen + 1⟩))) rfl 17 info33 Hz3.out (Nat.le_of_ble_eq_true rfl) HO2.out _ Hsp2.out ?_; clear H; intro w H))
    refine bodyPost_ret (v := .tuple #[.agg (rosterC (ver + 1) (T.set n ⟨p, q.gen + 1⟩)), .int .i64 0]) (res33t rfl rfl rfl (H.holds _ (List.mem_cons_self ..)) Hz3.out) rfl ⟨?_, H.below⟩
    unfold RosOut
    rw [HT.out]
    rfl
set_option maxHeartbeats 8000000 in
theorem rgive_b (ver : Int) (T : List Seat) (k : Int) (w0 : World) (h8 : T.length = 8) :
    Calls Tryz.prog 98 #[.agg (rosterC ver T), .int .i64 k] w0 fun e w' => RosOut ver T (giveF ver T k) e ∧ Below w0.heap.size w0 w' := by
  have H := Sb.start w0
  have H8 := Lib.hid h8
  have HS := Lib.hid (fun w => rmayR_b ver T w h8)
  have Hz := Lib.hid (rc_size (ver := ver) h8)
  have HO := Lib.hid (rc_one (ver := ver) (T := T))
  have Hv0 : Hid ((rosterC ver T)[0]? = some (.int .i64 ver)) := Lib.hid rfl
  have Hsp : Hid (splice zR 0 (Value.cells (.agg (rosterC ver T))).toList = rosterC ver T) := Lib.hid (splice_all _ _ (by simp [Value.cells, rc_size h8, zR]))
  go_enter Tryz.func98, Tryz.ntmps98
  go_wp2_with (first | (refine wb_box H rfl 33 _ rfl (rosterC ver T) rfl ?_; clear H; intro b2 w H) | (refine wb_alloc H rfl 33 rfl _ Tryz.zeroValue33 ?_; clear H; intro b4 w H; replace H : Sb [] w0 w [(b4, zR, 33), (b2, rosterC ver T, 33)] [] := H) | (refine wb_whole H rfl 1 33 _ rfl _ rfl (rosterC ver T) rfl _ Tryz.underlying33 rfl 17 info33 Hz.out ?_))
  refine (HS.out _).mono ?_; rintro e w' ⟨rfl, hb⟩
  replace H := H.call hb
  clear hb HS
  cases hm : mayR ver T with
  | false =>
    have HF : Hid (giveF ver T k = none) := Lib.hid (by unfold giveF; rw [if_neg (fun h => by rw [hm] at h; cases h.1)])
    clear hm
    go_upto_region 2 with fail
    go_wp2_with (first | (refine wb_whole H rfl 1 33 _ rfl _ rfl (rosterC ver T) rfl _ Tryz.underlying33 rfl 17 info33 Hz.out ?_) | (refine wb_put H rfl 0 33 _ _ rfl _ 0 rfl _ _ rfl (.agg (rosterC ver T)) rfl 17 info33 Hz.out (Nat.le_of_ble_eq_true rfl) HO.out _ Hsp.out ?_; clear H; intro w H))
    refine bodyPost_ret (v := .tuple #[.agg (rosterC ver T), .int .i64 1]) (res33t rfl rfl rfl (H.holds _ (List.mem_cons_self ..)) Hz.out) rfl ⟨?_, H.below⟩
    unfold RosOut
    rw [HF.out]
    rfl
  | true =>
    have Hv := Lib.hid (show 0 ≤ ver ∧ ver ≤ 1073741824 from ⟨(mayR_iff.1 hm).1, (mayR_iff.1 hm).2.1⟩)
    by_cases h1 : 0 ≤ k
    rotate_left
    · have HF : Hid (giveF ver T k = none) := Lib.hid (by unfold giveF; rw [if_neg (fun h => by omega)])
      have q1 : decide (k < 0) = true := decide_eq_true (by omega)
      clear hm
      go_upto_region 2 with fail
      go_wp2_with (first | (refine wb_whole H rfl 1 33 _ rfl _ rfl (rosterC ver T) rfl _ Tryz.underlying33 rfl 17 info33 Hz.out ?_) | (refine wb_put H rfl 0 33 _ _ rfl _ 0 rfl _ _ rfl (.agg (rosterC ver T)) rfl 17 info33 Hz.out (Nat.le_of_ble_eq_true rfl) HO.out _ Hsp.out ?_; clear H; intro w H))
      refine bodyPost_ret (v := .tuple #[.agg (rosterC ver T), .int .i64 1]) (res33t rfl rfl rfl (H.holds _ (List.mem_cons_self ..)) Hz.out) rfl ⟨?_, H.below⟩
      unfold RosOut
      rw [HF.out]
      rfl
    have q1 : decide (k < 0) = false := decide_eq_false (by omega)
    by_cases h2 : k < 8
    rotate_left
    · have HF : Hid (giveF ver T k = none) := Lib.hid (by unfold giveF; rw [if_neg (fun h => by omega)])
      have q2 : decide (8 ≤ k) = true := decide_eq_true (by omega)
      clear hm
      go_upto_region 2 with fail
      go_wp2_with (first | (refine wb_whole H rfl 1 33 _ rfl _ rfl (rosterC ver T) rfl _ Tryz.underlying33 rfl 17 info33 Hz.out ?_) | (refine wb_put H rfl 0 33 _ _ rfl _ 0 rfl _ _ rfl (.agg (rosterC ver T)) rfl 17 info33 Hz.out (Nat.le_of_ble_eq_true rfl) HO.out _ Hsp.out ?_; clear H; intro w H))
      refine bodyPost_ret (v := .tuple #[.agg (rosterC ver T), .int .i64 1]) (res33t rfl rfl rfl (H.holds _ (List.mem_cons_self ..)) Hz.out) rfl ⟨?_, H.below⟩
      unfold RosOut
      rw [HF.out]
      rfl
    have q2 : decide (8 ≤ k) = false := decide_eq_false (by omega)
    obtain ⟨n, rfl⟩ := Int.eq_ofNat_of_zero_le h1
    have hn8 : n < 8 := by omega
    obtain ⟨q, hq⟩ : ∃ q, T[n]? = some q := ⟨T[n]'(by rw [h8]; exact hn8), List.getElem?_eq_getElem _⟩
    have hg := (mayR_iff.1 hm).2.2.1 q (List.mem_of_getElem? hq)
    have Hg0 := Lib.hid (show 0 ≤ q.gen ∧ q.gen ≤ 60000 from ⟨hg.2.2.1, hg.2.2.2.1⟩)
    have c0 : w'.cell? ⟨b2, 1 + n * 2, none⟩ = some (.int .i64 q.peer) := (cell_of_row w' b2 _ _ 33 (0, 0) (H.holds _ (List.mem_cons_of_mem _ (List.mem_cons_self ..)))).trans (rc_seat (ver := ver) n 0 q _ hq rfl)
    have c1 : w'.cell? ⟨b2, 1 + n * 2 + 1, none⟩ = some (.int .i64 q.gen) := (cell_of_row w' b2 _ _ 33 (0, 0) (H.holds _ (List.mem_cons_of_mem _ (List.mem_cons_self ..)))).trans (rc_seat (ver := ver) n 1 q _ hq rfl)
    have cv : w'.cell? ⟨b2, 0, none⟩ = some (.int .i64 ver) := (cell_of_row w' b2 _ _ 33 (0, 0) (H.holds _ (List.mem_cons_of_mem _ (List.mem_cons_self ..)))).trans Hv0.out
    have Hm := Lib.hid hm
    have Hq := Lib.hid hq
    clear hm hg hq
    have Hv1 := Hv.out
    by_cases h3 : 0 ≤ q.peer
    rotate_left
    · have HF : Hid (giveF ver T n = none) := Lib.hid (giveF_none Hq.out (by omega))
      have qh3 : decide (q.peer < 0) = true := decide_eq_true (by omega)
      go_upto_region 2 with fail
      go_wp2_with (first | (refine wb_whole H rfl 1 33 _ rfl _ rfl (rosterC ver T) rfl _ Tryz.underlying33 rfl 17 info33 Hz.out ?_) | (refine wb_put H rfl 0 33 _ _ rfl _ 0 rfl _ _ rfl (.agg (rosterC ver T)) rfl 17 info33 Hz.out (Nat.le_of_ble_eq_true rfl) HO.out _ Hsp.out ?_; clear H; intro w H))
      refine bodyPost_ret (v := .tuple #[.agg (rosterC ver T), .int .i64 1]) (res33t rfl rfl rfl (H.holds _ (List.mem_cons_self ..)) Hz.out) rfl ⟨?_, H.below⟩
      unfold RosOut
      rw [HF.out]
      rfl
    have qh3 : decide (q.peer < 0) = false := decide_eq_false (by omega)
    by_cases h4 : ver < 1073741824
    rotate_left
    · have HF : Hid (giveF ver T n = none) := Lib.hid (giveF_none Hq.out (by omega))
      have qh4 : decide (1073741824 ≤ ver) = true := decide_eq_true (by omega)
      go_upto_region 2 with fail
      go_wp2_with (first | (refine wb_whole H rfl 1 33 _ rfl _ rfl (rosterC ver T) rfl _ Tryz.underlying33 rfl 17 info33 Hz.out ?_) | (refine wb_put H rfl 0 33 _ _ rfl _ 0 rfl _ _ rfl (.agg (rosterC ver T)) rfl 17 info33 Hz.out (Nat.le_of_ble_eq_true rfl) HO.out _ Hsp.out ?_; clear H; intro w H))
      refine bodyPost_ret (v := .tuple #[.agg (rosterC ver T), .int .i64 1]) (res33t rfl rfl rfl (H.holds _ (List.mem_cons_self ..)) Hz.out) rfl ⟨?_, H.below⟩
      unfold RosOut
      rw [HF.out]
      rfl
    have qh4 : decide (1073741824 ≤ ver) = false := decide_eq_false (by omega)
    have HT := Lib.hid (giveF_at Hm.out h4 hn8 Hq.out h3)
    have Hset := Lib.hid (rc_peer (ver := ver) (-1) Hq.out)
    have Hz2 := Lib.hid (rc_size (ver := ver) (T := T.set n ⟨-1, q.gen⟩) (by rw [List.length_set]; exact H8.out))
    have Hz3 : Hid ((rosterC (ver + 1) (T.set n ⟨-1, q.gen⟩)).size = 17) := Lib.hid (by have := Hz2.out; simpa [rosterC] using this)
    have Hsp2 : Hid (splice zR 0 (Value.cells (.agg (rosterC (ver + 1) (T.set n ⟨-1, q.gen⟩)))).toList = rosterC (ver + 1) (T.set n ⟨-1, q.gen⟩)) := Lib.hid (splice_all _ _ (by simp [Value.cells, Hz3.out, zR]))
    have HO2 := Lib.hid (rc_one (ver := ver + 1) (T := T.set n ⟨-1, q.gen⟩))
    go_upto_region 3 with fail
    clear c0 c1 cv
    have hft : 1 + n * 2 + 1 ≤ (rosterC ver T).size := by rw [Hz.out]; omega
    go_upto_region 4 with (refine wb_put H rfl 1 3 _ _ rfl _ (1 + n * 2) rfl _ _ rfl (.int .i64 (-1)) rfl 1 info3 rfl hft rfl _ Hset.out ?_; clear H; intro w H)
    replace H : Sb [] w0 w [(b4, zR, 33), (b2, rosterC ver (T.set n ⟨-1, q.gen⟩), 33)] [] := H
    obtain ⟨v0, v1⟩ := Hv.out
    have hft0 : 0 + 1 ≤ (rosterC ver (T.set n ⟨-1, q.gen⟩)).size := by rw [Hz2.out]; omega
    go_wp2_with (first | (refine wb_cell H rfl 1 3 _ rfl _ 0 rfl _ _ rfl Tryz.isAgg3 (.int .i64 ver) rfl ?_) | (refine wb_put H rfl 1 3 _ _ rfl _ 0 rfl _ _ rfl (.int .i64 (ver + 1)) rfl 1 info3 rfl hft0 rfl _ (rc_ver _) ?_; clear H; intro w H) | (refine wb_whole H rfl 1 33 _ rfl _ rfl (rosterC (ver + 1) (T.set n ⟨-1, q.gen⟩)) rfl _ Tryz.underlying33 rfl 17 info33 Hz3.out ?_) | (refine wb_put H rfl 0 33 _ _ rfl _ 0 rfl _ _ rfl (.agg (rosterC (ver + 1) (T.set n ⟨-1, q.gen⟩))) rfl 17 info33 Hz3.out (Nat.le_of_ble_eq_true rfl) HO2.out _ Hsp2.out ?_; clear H; intro w H))
    refine bodyPost_ret (v := .tuple #[.agg (rosterC (ver + 1) (T.set n ⟨-1, q.gen⟩)), .int .i64 0]) (res33t rfl rfl rfl (H.holds _ (List.mem_cons_self ..)) Hz3.out) rfl ⟨?_, H.below⟩
    unfold RosOut
    rw [HT.out]
    rfl
end Go.Proofs.YtdopfonebpklkaaGreat.game
namespace Go.Proofs.YtdopfonebpklkaaGreat.game
open Go.ChangeShapes Go.WideShapes Go.ChangeAt Go.RowKit dice
set_option maxRecDepth 100000

theorem giveF_some {ver : Int} {T : List Seat} {k : Int} {r : Int × List Seat} (h : giveF ver T k = some r) : ∃ (n : Nat) (q : Seat), k = (n : Int) ∧ n < 8 ∧ T[n]? = some q ∧ mayR ver T = true ∧ ver < 1073741824 ∧ 0 ≤ q.peer ∧ r = (ver + 1, T.set n ⟨-1, q.gen⟩) := by
  unfold giveF at h
  split at h
  · rename_i hc
    obtain ⟨q, hq, h⟩ := Option.bind_eq_some_iff.1 h
    split at h
    · rename_i h1
      injection h with h
      exact ⟨k.toNat, q, by omega, by omega, hq, hc.1, hc.2.1, h1, h.symm⟩
    · cases h
  · cases h
theorem evR_leave_give {ver : Int} {T : List Seat} {x : Evt} (hk : x.kind = 2) (h : giveF ver T x.slot = none) : evR ver T x = none := by
  unfold evR
  unfold giveF at h
  split at h
  · rename_i hc
    rw [if_pos hc]
    cases hq : T[x.slot.toNat]? with
    | none => rfl
    | some q =>
      rw [hq, Option.bind_some] at h
      rw [Option.bind_some, if_neg (by omega)]
      split at h
      · cases h
      · rename_i h1
        rw [if_neg (fun h => h1 h.2.1)]
  · rename_i hc
    rw [if_neg hc]
set_option maxHeartbeats 4000000 in
theorem revent (ver : Int) (T : List Seat) (x : Evt) (w0 : World) (h8 : T.length = 8) (hx : x.wf) :
    Calls Tryz.prog 55 #[.agg (rosterC ver T), .agg (evC x)] w0 fun e w' => RosOut ver T (evR ver T x) e ∧ Below w0.heap.size w0 w' := by
  have H := Sb.start w0
  have Hz := Lib.hid (rc_size (ver := ver) h8)
  have HO := Lib.hid (rc_one (ver := ver) (T := T))
  have Hsp : Hid (splice zR 0 (Value.cells (.agg (rosterC ver T))).toList = rosterC ver T) := Lib.hid (splice_all _ _ (by simp [Value.cells, rc_size h8, zR]))
  have HT := Lib.hid (fun w => rtake_b ver T x.slot x.peer w h8)
  by_cases hk1 : x.kind = 1
  · cases ht : takeF ver T x.slot x.peer with
    | none =>
      have HN := Lib.hid (evR_join_none hk1 ht)
      rw [ht] at HT
      clear h8 ht
      obtain ⟨kd, sl, gn, pr⟩ := x
      dsimp only at *
      subst hk1
      unfold evC
      dsimp only
      go_enter Tryz.func55, Tryz.ntmps55
      go_upto_region 1 with (first | (refine wb_box H rfl 33 _ rfl (rosterC ver T) rfl ?_; clear H; intro b2 w H) | (refine wb_box H rfl 60 _ rfl #[.int .i64 1, .int .i64 sl, .int .i64 gn, .int .i64 pr] rfl ?_; clear H; intro b3 w H) | (refine wb_alloc H rfl 33 rfl _ Tryz.zeroValue33 ?_; clear H; intro b4 w H))
      replace H : Sb [] w0 w [(b4, zR, 33), (b3, #[.int .i64 1, .int .i64 sl, .int .i64 gn, .int .i64 pr], 60), (b2, rosterC ver T, 33)] [] := H
      go_wp2_with (first | (refine wb_cell H rfl 1 3 _ rfl _ 0 rfl _ _ rfl Tryz.isAgg3 (.int .i64 1) rfl ?_) | (refine wb_cell H rfl 1 3 _ rfl _ 1 rfl _ _ rfl Tryz.isAgg3 (.int .i64 sl) rfl ?_) | (refine wb_cell H rfl 1 3 _ rfl _ 2 rfl _ _ rfl Tryz.isAgg3 (.int .i64 gn) rfl ?_) | (refine wb_cell H rfl 1 3 _ rfl _ 3 rfl _ _ rfl Tryz.isAgg3 (.int .i64 pr) rfl ?_) | (refine wb_whole H rfl 2 33 _ rfl _ rfl (rosterC ver T) rfl _ Tryz.underlying33 rfl 17 info33 Hz.out ?_))
      refine (HT.out _).mono ?_; rintro e w' ⟨he, hb⟩
      unfold RosOut at he
      subst he
      replace H := H.call hb
      clear hb HT
      go_upto_region 4 with (first | (refine wb_alloc H rfl 33 rfl _ Tryz.zeroValue33 ?_; clear H; intro b6 w H; replace H : Sb [] w0 w [(b6, zR, 33), (b4, zR, 33), (b3, #[.int .i64 1, .int .i64 sl, .int .i64 gn, .int .i64 pr], 60), (b2, rosterC ver T, 33)] [] := H) | (refine wb_put H rfl 0 33 _ _ rfl _ 0 rfl _ _ rfl (.agg (rosterC ver T)) rfl 17 info33 Hz.out (Nat.le_of_ble_eq_true rfl) HO.out _ Hsp.out ?_; clear H; intro w H))
      replace H : Sb [] w0 w [(b6, rosterC ver T, 33), (b4, zR, 33), (b3, #[.int .i64 1, .int .i64 sl, .int .i64 gn, .int .i64 pr], 60), (b2, rosterC ver T, 33)] [] := H
      have HD := H.call ((Below.refl _ w).drew)
      replace HD := Lib.hid HD
      clear H
      go_region
      have H := HD.out
      clear HD 
      go_wp2_with (first | (refine wb_whole H rfl 3 33 _ rfl _ rfl (rosterC ver T) rfl _ Tryz.underlying33 rfl 17 info33 Hz.out ?_) | (refine wb_put H rfl 1 33 _ _ rfl _ 0 rfl _ _ rfl (.agg (rosterC ver T)) rfl 17 info33 Hz.out (Nat.le_of_ble_eq_true rfl) HO.out _ Hsp.out ?_; clear H; intro w H))
      refine bodyPost_ret (v := .tuple #[.agg (rosterC ver T), .int .i64 1]) (res33t rfl rfl rfl (H.holds _ (List.mem_cons_of_mem _ (List.mem_cons_self ..))) Hz.out) rfl ⟨?_, H.below⟩
      unfold RosOut
      rw [HN.out]
      rfl
    | some r =>
      obtain ⟨n, q, hn, hn8, hq, hm, hv, h1, h2, h3, h4, h5, hr⟩ := takeF_some ht
      have HN := Lib.hid (evR_join hk1 hn hn8 hq hm hv h1 h2 h3 h4 h5)
      rw [ht, hr] at HT
      rw [hn] at HT
      have HqT : Hid ((T.set n ⟨x.peer, q.gen + 1⟩)[n]? = some ⟨x.peer, q.gen + 1⟩) := Lib.hid (by rw [List.getElem?_set_self (by rw [h8]; exact hn8)])
      have Hqg := Lib.hid (rc_seat (ver := ver + 1) n 1 _ _ HqT.out rfl)
      have Hz2 := Lib.hid (rc_size (ver := ver + 1) (T := T.set n ⟨x.peer, q.gen + 1⟩) (by rw [List.length_set]; exact h8))
      have HO2 := Lib.hid (rc_one (ver := ver + 1) (T := T.set n ⟨x.peer, q.gen + 1⟩))
      have Hsp2 : Hid (splice zR 0 (Value.cells (.agg (rosterC (ver + 1) (T.set n ⟨x.peer, q.gen + 1⟩)))).toList = rosterC (ver + 1) (T.set n ⟨x.peer, q.gen + 1⟩)) := Lib.hid (splice_all _ _ (by simp [Value.cells, Hz2.out, zR]))
      have hn8' : (n : Int) < 8 := by omega
      clear h8 ht hr hq hm hv h1 h2 h3 h4 h5 HqT r
      obtain ⟨kd, sl, gn, pr⟩ := x
      dsimp only at *
      subst hk1 hn
      unfold evC
      dsimp only
      go_enter Tryz.func55, Tryz.ntmps55
      go_upto_region 1 with (first | (refine wb_box H rfl 33 _ rfl (rosterC ver T) rfl ?_; clear H; intro b2 w H) | (refine wb_box H rfl 60 _ rfl #[.int .i64 1, .int .i64 (n : Int), .int .i64 gn, .int .i64 pr] rfl ?_; clear H; intro b3 w H) | (refine wb_alloc H rfl 33 rfl _ Tryz.zeroValue33 ?_; clear H; intro b4 w H))
      replace H : Sb [] w0 w [(b4, zR, 33), (b3, #[.int .i64 1, .int .i64 (n : Int), .int .i64 gn, .int .i64 pr], 60), (b2, rosterC ver T, 33)] [] := H
      go_wp2_with (first | (refine wb_cell H rfl 1 3 _ rfl _ 0 rfl _ _ rfl Tryz.isAgg3 (.int .i64 1) rfl ?_) | (refine wb_cell H rfl 1 3 _ rfl _ 1 rfl _ _ rfl Tryz.isAgg3 (.int .i64 (n : Int)) rfl ?_) | (refine wb_cell H rfl 1 3 _ rfl _ 2 rfl _ _ rfl Tryz.isAgg3 (.int .i64 gn) rfl ?_) | (refine wb_cell H rfl 1 3 _ rfl _ 3 rfl _ _ rfl Tryz.isAgg3 (.int .i64 pr) rfl ?_) | (refine wb_whole H rfl 2 33 _ rfl _ rfl (rosterC ver T) rfl _ Tryz.underlying33 rfl 17 info33 Hz.out ?_))
      refine (HT.out _).mono ?_; rintro e w' ⟨he, hb⟩
      unfold RosOut at he
      subst he
      replace H := H.call hb
      clear hb HT
      go_upto_region 4 with (first | (refine wb_alloc H rfl 33 rfl _ Tryz.zeroValue33 ?_; clear H; intro b6 w H; replace H : Sb [] w0 w [(b6, zR, 33), (b4, zR, 33), (b3, #[.int .i64 1, .int .i64 (n : Int), .int .i64 gn, .int .i64 pr], 60), (b2, rosterC ver T, 33)] [] := H) | (refine wb_put H rfl 0 33 _ _ rfl _ 0 rfl _ _ rfl (.agg (rosterC (ver + 1) (T.set n ⟨pr, q.gen + 1⟩))) rfl 17 info33 Hz2.out (Nat.le_of_ble_eq_true rfl) HO2.out _ Hsp2.out ?_; clear H; intro w H))
      replace H : Sb [] w0 w [(b6, rosterC (ver + 1) (T.set n ⟨pr, q.gen + 1⟩), 33), (b4, zR, 33), (b3, #[.int .i64 1, .int .i64 (n : Int), .int .i64 gn, .int .i64 pr], 60), (b2, rosterC ver T, 33)] [] := H
      have HD := H.call ((Below.refl _ w).drew)
      have d0 : w.drew.cell? ⟨b3, 1, none⟩ = some (.int .i64 (n : Int)) := (cell_of_row _ b3 (1) _ 60 (0, 0) (HD.holds _ (List.mem_cons_of_mem _ (List.mem_cons_of_mem _ (List.mem_cons_self ..))))).trans rfl
      have d1 : w.drew.cell? ⟨b3, 2, none⟩ = some (.int .i64 gn) := (cell_of_row _ b3 (2) _ 60 (0, 0) (HD.holds _ (List.mem_cons_of_mem _ (List.mem_cons_of_mem _ (List.mem_cons_self ..))))).trans rfl
      have d2 : w.drew.cell? ⟨b6, 1 + n * 2 + 1, none⟩ = some (.int .i64 (q.gen + 1)) := (cell_of_row _ b6 (1 + n * 2 + 1) _ 33 (0, 0) (HD.holds _ (List.mem_cons_self ..))).trans Hqg.out
      replace HD := Lib.hid HD
      clear H
      go_region
      have H := HD.out
      clear HD d0 d1 d2
      by_cases hg : q.gen + 1 = gn
      · subst hg
        go_wp2_with (first | (refine wb_whole H rfl 0 33 _ rfl _ rfl (rosterC (ver + 1) (T.set n ⟨pr, q.gen + 1⟩)) rfl _ Tryz.underlying33 rfl 17 info33 Hz2.out ?_) | (refine wb_put H rfl 1 33 _ _ rfl _ 0 rfl _ _ rfl (.agg (rosterC (ver + 1) (T.set n ⟨pr, q.gen + 1⟩))) rfl 17 info33 Hz2.out (Nat.le_of_ble_eq_true rfl) HO2.out _ Hsp2.out ?_; clear H; intro w H))
        refine bodyPost_ret (v := .tuple #[.agg (rosterC (ver + 1) (T.set n ⟨pr, q.gen + 1⟩)), .int .i64 0]) (res33t rfl rfl rfl (H.holds _ (List.mem_cons_of_mem _ (List.mem_cons_self ..))) Hz2.out) rfl ⟨?_, H.below⟩
        unfold RosOut
        rw [HN.out, if_pos trivial]
        rfl
      · have q0 : decide (q.gen + 1 = gn) = false := decide_eq_false hg
        go_wp2_with (first | (refine wb_whole H rfl 3 33 _ rfl _ rfl (rosterC ver T) rfl _ Tryz.underlying33 rfl 17 info33 Hz.out ?_) | (refine wb_put H rfl 1 33 _ _ rfl _ 0 rfl _ _ rfl (.agg (rosterC ver T)) rfl 17 info33 Hz.out (Nat.le_of_ble_eq_true rfl) HO.out _ Hsp.out ?_; clear H; intro w H))
        refine bodyPost_ret (v := .tuple #[.agg (rosterC ver T), .int .i64 1]) (res33t rfl rfl rfl (H.holds _ (List.mem_cons_of_mem _ (List.mem_cons_self ..))) Hz.out) rfl ⟨?_, H.below⟩
        unfold RosOut
        rw [HN.out, if_neg hg]
        rfl
  by_cases hk2 : x.kind = 2
  · have HGv := Lib.hid (fun w => rgive_b ver T x.slot w h8)
    clear HT hk1
    cases ht : giveF ver T x.slot with
    | none =>
      have HN := Lib.hid (evR_leave_give hk2 ht)
      rw [ht] at HGv
      clear h8 ht
      obtain ⟨kd, sl, gn, pr⟩ := x
      dsimp only at *
      subst hk2
      unfold evC
      dsimp only
      go_enter Tryz.func55, Tryz.ntmps55
      go_upto_region 1 with (first | (refine wb_box H rfl 33 _ rfl (rosterC ver T) rfl ?_; clear H; intro b2 w H) | (refine wb_box H rfl 60 _ rfl #[.int .i64 2, .int .i64 sl, .int .i64 gn, .int .i64 pr] rfl ?_; clear H; intro b3 w H) | (refine wb_alloc H rfl 33 rfl _ Tryz.zeroValue33 ?_; clear H; intro b4 w H))
      replace H : Sb [] w0 w [(b4, zR, 33), (b3, #[.int .i64 2, .int .i64 sl, .int .i64 gn, .int .i64 pr], 60), (b2, rosterC ver T, 33)] [] := H
      go_wp2_with (first | (refine wb_cell H rfl 1 3 _ rfl _ 0 rfl _ _ rfl Tryz.isAgg3 (.int .i64 2) rfl ?_) | (refine wb_cell H rfl 1 3 _ rfl _ 1 rfl _ _ rfl Tryz.isAgg3 (.int .i64 sl) rfl ?_) | (refine wb_cell H rfl 1 3 _ rfl _ 2 rfl _ _ rfl Tryz.isAgg3 (.int .i64 gn) rfl ?_) | (refine wb_cell H rfl 1 3 _ rfl _ 3 rfl _ _ rfl Tryz.isAgg3 (.int .i64 pr) rfl ?_) | (refine wb_whole H rfl 2 33 _ rfl _ rfl (rosterC ver T) rfl _ Tryz.underlying33 rfl 17 info33 Hz.out ?_))
      refine (HGv.out _).mono ?_; rintro e w' ⟨he, hb⟩
      unfold RosOut at he
      subst he
      replace H := H.call hb
      clear hb HGv
      go_upto_region 9 with (first | (refine wb_alloc H rfl 33 rfl _ Tryz.zeroValue33 ?_; clear H; intro b8 w H; replace H : Sb [] w0 w [(b8, zR, 33), (b4, zR, 33), (b3, #[.int .i64 2, .int .i64 sl, .int .i64 gn, .int .i64 pr], 60), (b2, rosterC ver T, 33)] [] := H) | (refine wb_put H rfl 0 33 _ _ rfl _ 0 rfl _ _ rfl (.agg (rosterC ver T)) rfl 17 info33 Hz.out (Nat.le_of_ble_eq_true rfl) HO.out _ Hsp.out ?_; clear H; intro w H))
      replace H : Sb [] w0 w [(b8, rosterC ver T, 33), (b4, zR, 33), (b3, #[.int .i64 2, .int .i64 sl, .int .i64 gn, .int .i64 pr], 60), (b2, rosterC ver T, 33)] [] := H
      have HD := H.call ((Below.refl _ w).drew)
      replace HD := Lib.hid HD
      clear H
      go_region
      have H := HD.out
      clear HD
      go_wp2_with (first | (refine wb_whole H rfl 3 33 _ rfl _ rfl (rosterC ver T) rfl _ Tryz.underlying33 rfl 17 info33 Hz.out ?_) | (refine wb_put H rfl 1 33 _ _ rfl _ 0 rfl _ _ rfl (.agg (rosterC ver T)) rfl 17 info33 Hz.out (Nat.le_of_ble_eq_true rfl) HO.out _ Hsp.out ?_; clear H; intro w H))
      refine bodyPost_ret (v := .tuple #[.agg (rosterC ver T), .int .i64 1]) (res33t rfl rfl rfl (H.holds _ (List.mem_cons_of_mem _ (List.mem_cons_self ..))) Hz.out) rfl ⟨?_, H.below⟩
      unfold RosOut
      rw [HN.out]
      rfl
    | some r =>
      obtain ⟨n, q, hn, hn8, hq, hm, hv, hp, hr⟩ := giveF_some ht
      have HN := Lib.hid (evR_leave hk2 hn hn8 hq hm hv hp)
      rw [ht, hr, hn] at HGv
      have hg := (mayR_iff.1 hm).2.2.1 q (List.mem_of_getElem? hq)
      have HEq := Lib.hid (fun W => eq30w W q ⟨x.peer, x.gen⟩ ⟨w64 (by have := hg.1; omega) (by have := hg.2.1; omega), w64 (by have := hg.2.2.1; omega) (by have := hg.2.2.2.1; omega)⟩ ⟨hx.peer, hx.gen⟩)
      have Hz2 := Lib.hid (rc_size (ver := ver + 1) (T := T.set n ⟨-1, q.gen⟩) (by rw [List.length_set]; exact h8))
      have HO2 := Lib.hid (rc_one (ver := ver + 1) (T := T.set n ⟨-1, q.gen⟩))
      have Hsp2 : Hid (splice zR 0 (Value.cells (.agg (rosterC (ver + 1) (T.set n ⟨-1, q.gen⟩)))).toList = rosterC (ver + 1) (T.set n ⟨-1, q.gen⟩)) := Lib.hid (splice_all _ _ (by simp [Value.cells, Hz2.out, zR]))
      have hn8' : (n : Int) < 8 := by omega
      have Hq0 := Lib.hid (rc_seat (ver := ver) n 0 q _ hq rfl)
      have Hq1 := Lib.hid (rc_seat (ver := ver) n 1 q _ hq rfl)
      clear h8 ht hr hq hm hv hp hg r hx
      obtain ⟨kd, sl, gn, pr⟩ := x
      dsimp only at *
      subst hk2 hn
      unfold evC
      dsimp only
      go_enter Tryz.func55, Tryz.ntmps55
      go_upto_region 1 with (first | (refine wb_box H rfl 33 _ rfl (rosterC ver T) rfl ?_; clear H; intro b2 w H) | (refine wb_box H rfl 60 _ rfl #[.int .i64 2, .int .i64 (n : Int), .int .i64 gn, .int .i64 pr] rfl ?_; clear H; intro b3 w H) | (refine wb_alloc H rfl 33 rfl _ Tryz.zeroValue33 ?_; clear H; intro b4 w H))
      replace H : Sb [] w0 w [(b4, zR, 33), (b3, #[.int .i64 2, .int .i64 (n : Int), .int .i64 gn, .int .i64 pr], 60), (b2, rosterC ver T, 33)] [] := H
      go_wp2_with (first | (refine wb_cell H rfl 1 3 _ rfl _ 0 rfl _ _ rfl Tryz.isAgg3 (.int .i64 2) rfl ?_) | (refine wb_cell H rfl 1 3 _ rfl _ 1 rfl _ _ rfl Tryz.isAgg3 (.int .i64 (n : Int)) rfl ?_) | (refine wb_cell H rfl 1 3 _ rfl _ 2 rfl _ _ rfl Tryz.isAgg3 (.int .i64 gn) rfl ?_) | (refine wb_cell H rfl 1 3 _ rfl _ 3 rfl _ _ rfl Tryz.isAgg3 (.int .i64 pr) rfl ?_) | (refine wb_whole H rfl 2 33 _ rfl _ rfl (rosterC ver T) rfl _ Tryz.underlying33 rfl 17 info33 Hz.out ?_))
      refine (HGv.out _).mono ?_; rintro e w' ⟨he, hb⟩
      unfold RosOut at he
      subst he
      replace H := H.call hb
      clear hb HGv
      go_upto_region 9 with (first | (refine wb_alloc H rfl 33 rfl _ Tryz.zeroValue33 ?_; clear H; intro b8 w H; replace H : Sb [] w0 w [(b8, zR, 33), (b4, zR, 33), (b3, #[.int .i64 2, .int .i64 (n : Int), .int .i64 gn, .int .i64 pr], 60), (b2, rosterC ver T, 33)] [] := H) | (refine wb_put H rfl 0 33 _ _ rfl _ 0 rfl _ _ rfl (.agg (rosterC (ver + 1) (T.set n ⟨-1, q.gen⟩))) rfl 17 info33 Hz2.out (Nat.le_of_ble_eq_true rfl) HO2.out _ Hsp2.out ?_; clear H; intro w H))
      replace H : Sb [] w0 w [(b8, rosterC (ver + 1) (T.set n ⟨-1, q.gen⟩), 33), (b4, zR, 33), (b3, #[.int .i64 2, .int .i64 (n : Int), .int .i64 gn, .int .i64 pr], 60), (b2, rosterC ver T, 33)] [] := H
      have HD := H.call ((Below.refl _ w).drew)
      have d1 : w.drew.cell? ⟨b3, 1, none⟩ = some (.int .i64 (n : Int)) := (cell_of_row _ b3 (1) _ 60 (0, 0) (HD.holds _ (List.mem_cons_of_mem _ (List.mem_cons_of_mem _ (List.mem_cons_self ..))))).trans rfl
      have d2 : w.drew.cell? ⟨b3, 2, none⟩ = some (.int .i64 gn) := (cell_of_row _ b3 (2) _ 60 (0, 0) (HD.holds _ (List.mem_cons_of_mem _ (List.mem_cons_of_mem _ (List.mem_cons_self ..))))).trans rfl
      have d3 : w.drew.cell? ⟨b3, 3, none⟩ = some (.int .i64 pr) := (cell_of_row _ b3 (3) _ 60 (0, 0) (HD.holds _ (List.mem_cons_of_mem _ (List.mem_cons_of_mem _ (List.mem_cons_self ..))))).trans rfl
      have d4 : w.drew.cell? ⟨b2, 1 + n * 2, none⟩ = some (.int .i64 q.peer) := (cell_of_row _ b2 _ _ 33 (0, 0) (HD.holds _ (List.mem_cons_of_mem _ (List.mem_cons_of_mem _ (List.mem_cons_of_mem _ (List.mem_cons_self ..)))))).trans Hq0.out
      have d5 : w.drew.cell? ⟨b2, 1 + n * 2 + 1, none⟩ = some (.int .i64 q.gen) := (cell_of_row _ b2 _ _ 33 (0, 0) (HD.holds _ (List.mem_cons_of_mem _ (List.mem_cons_of_mem _ (List.mem_cons_of_mem _ (List.mem_cons_self ..)))))).trans Hq1.out
      replace HD := Lib.hid HD
      clear H
      by_cases hg : q = ⟨pr, gn⟩
      · have he : ∀ W, (Op.equalIn 10000 30 (.agg #[.int .i64 q.peer, .int .i64 q.gen]) (.agg #[.int .i64 pr, .int .i64 gn])).run Tryz.prog W = .ok true W := fun W => (HEq.out W).trans (by rw [decide_eq_true hg])
        go_region
        have H := HD.out
        clear HD d1 d2 d3 d4 d5 he
        go_wp2_with (first | (refine wb_whole H rfl 0 33 _ rfl _ rfl (rosterC (ver + 1) (T.set n ⟨-1, q.gen⟩)) rfl _ Tryz.underlying33 rfl 17 info33 Hz2.out ?_) | (refine wb_put H rfl 1 33 _ _ rfl _ 0 rfl _ _ rfl (.agg (rosterC (ver + 1) (T.set n ⟨-1, q.gen⟩))) rfl 17 info33 Hz2.out (Nat.le_of_ble_eq_true rfl) HO2.out _ Hsp2.out ?_; clear H; intro w H))
        refine bodyPost_ret (v := .tuple #[.agg (rosterC (ver + 1) (T.set n ⟨-1, q.gen⟩)), .int .i64 0]) (res33t rfl rfl rfl (H.holds _ (List.mem_cons_of_mem _ (List.mem_cons_self ..))) Hz2.out) rfl ⟨?_, H.below⟩
        unfold RosOut
        rw [HN.out, if_pos hg]
        rfl
      · have he : ∀ W, (Op.equalIn 10000 30 (.agg #[.int .i64 q.peer, .int .i64 q.gen]) (.agg #[.int .i64 pr, .int .i64 gn])).run Tryz.prog W = .ok false W := fun W => (HEq.out W).trans (by rw [decide_eq_false hg])
        go_region
        have H := HD.out
        clear HD d1 d2 d3 d4 d5 he
        go_wp2_with (first | (refine wb_whole H rfl 3 33 _ rfl _ rfl (rosterC ver T) rfl _ Tryz.underlying33 rfl 17 info33 Hz.out ?_) | (refine wb_put H rfl 1 33 _ _ rfl _ 0 rfl _ _ rfl (.agg (rosterC ver T)) rfl 17 info33 Hz.out (Nat.le_of_ble_eq_true rfl) HO.out _ Hsp.out ?_; clear H; intro w H))
        refine bodyPost_ret (v := .tuple #[.agg (rosterC ver T), .int .i64 1]) (res33t rfl rfl rfl (H.holds _ (List.mem_cons_of_mem _ (List.mem_cons_self ..))) Hz.out) rfl ⟨?_, H.below⟩
        unfold RosOut
        rw [HN.out, if_neg hg]
        rfl
  · have HN := Lib.hid (evR_other (ver := ver) (T := T) hk1 hk2)
    clear HT h8
    obtain ⟨kd, sl, gn, pr⟩ := x
    dsimp only at *
    have q1 : decide (kd = 1) = false := decide_eq_false hk1
    have q2 : decide (kd = 2) = false := decide_eq_false hk2
    unfold evC
    dsimp only
    go_enter Tryz.func55, Tryz.ntmps55
    go_upto_region 1 with (first | (refine wb_box H rfl 33 _ rfl (rosterC ver T) rfl ?_; clear H; intro b2 w H) | (refine wb_box H rfl 60 _ rfl #[.int .i64 kd, .int .i64 sl, .int .i64 gn, .int .i64 pr] rfl ?_; clear H; intro b3 w H) | (refine wb_alloc H rfl 33 rfl _ Tryz.zeroValue33 ?_; clear H; intro b4 w H))
    replace H : Sb [] w0 w [(b4, zR, 33), (b3, #[.int .i64 kd, .int .i64 sl, .int .i64 gn, .int .i64 pr], 60), (b2, rosterC ver T, 33)] [] := H
    go_wp2_with (first | (refine wb_cell H rfl 1 3 _ rfl _ 0 rfl _ _ rfl Tryz.isAgg3 (.int .i64 kd) rfl ?_) | (refine wb_cell H rfl 1 3 _ rfl _ 1 rfl _ _ rfl Tryz.isAgg3 (.int .i64 sl) rfl ?_) | (refine wb_cell H rfl 1 3 _ rfl _ 2 rfl _ _ rfl Tryz.isAgg3 (.int .i64 gn) rfl ?_) | (refine wb_cell H rfl 1 3 _ rfl _ 3 rfl _ _ rfl Tryz.isAgg3 (.int .i64 pr) rfl ?_) | (refine wb_whole H rfl 2 33 _ rfl _ rfl (rosterC ver T) rfl _ Tryz.underlying33 rfl 17 info33 Hz.out ?_) | (refine wb_put H rfl 0 33 _ _ rfl _ 0 rfl _ _ rfl (.agg (rosterC ver T)) rfl 17 info33 Hz.out (Nat.le_of_ble_eq_true rfl) HO.out _ Hsp.out ?_; clear H; intro w H))
    refine bodyPost_ret (v := .tuple #[.agg (rosterC ver T), .int .i64 1]) (res33t rfl rfl rfl (H.holds _ (List.mem_cons_self ..)) Hz.out) rfl ⟨?_, H.below⟩
    unfold RosOut
    rw [HN.out]
    rfl
end Go.Proofs.YtdopfonebpklkaaGreat.game
