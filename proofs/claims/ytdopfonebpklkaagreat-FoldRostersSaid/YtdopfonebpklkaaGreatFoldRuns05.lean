/- Which rosters may be: roster.May over any numbers. Which ships and shots may be, as a truth: game.on, game.size, game.mayShip, game.mayShot, game.May over any numbers. -/
import Derived.Test.YtdopfonebpklkaaGreatFoldRuns04
import Derived.Test.YtdopfonebpklkaaGreatFoldRuns03
import Derived.Deep.DeepCutAuto
namespace Go.Proofs.YtdopfonebpklkaaGreat.game
open Go.ChangeShapes Go.WideShapes Go.ChangeAt Go.RowKit dice
set_option maxRecDepth 100000

theorem i64_nat (x : Nat) (h : x < 9223372036854775808) : IntKind.i64.wrap (x : Int) = x := by
  simp [IntKind.wrap, IntKind.bits, IntKind.signed]
  omega
theorem i64_and_nat (a b : Nat) (ha : a < 9223372036854775808) (hb : b < 9223372036854775808) : bits .and .i64 (a : Int) (b : Int) = ((a &&& b : Nat) : Int) := by
  have hx : a &&& b < 2 ^ 63 := Nat.and_lt_two_pow _ (by omega)
  show IntKind.i64.wrap ((BitVec.ofInt 64 (a : Int) &&& BitVec.ofInt 64 (b : Int)).toNat : Int) = _
  rw [BitVec.toNat_and, BitVec.ofInt_natCast, BitVec.ofInt_natCast, BitVec.toNat_ofNat, BitVec.toNat_ofNat, Nat.mod_eq_of_lt (by omega), Nat.mod_eq_of_lt (by omega), i64_nat _ (by omega)]
theorem i64_or_nat (a b : Nat) (ha : a < 9223372036854775808) (hb : b < 9223372036854775808) : bits .or .i64 (a : Int) (b : Int) = ((a ||| b : Nat) : Int) := by
  have hx : a ||| b < 2 ^ 63 := Nat.or_lt_two_pow (by omega) (by omega)
  show IntKind.i64.wrap ((BitVec.ofInt 64 (a : Int) ||| BitVec.ofInt 64 (b : Int)).toNat : Int) = _
  rw [BitVec.toNat_or, BitVec.ofInt_natCast, BitVec.ofInt_natCast, BitVec.toNat_ofNat, BitVec.toNat_ofNat, Nat.mod_eq_of_lt (by omega), Nat.mod_eq_of_lt (by omega), i64_nat _ (by omega)]
def seatBad (s : Seat) : Bool := decide (s.peer < -1) || (decide (12 ≤ s.peer) || (decide (s.gen < 0) || decide (60000 < s.gen)))
def bitOf (p : Int) : Nat := if p < 0 then 0 else 2 ^ (p + 1).toNat
def stepBad (m : Nat) (s : Seat) : Bool := decide (bitOf s.peer &&& m ≠ 0) || (decide (bitOf s.peer ≠ 0) && decide (s.gen = 0))
def seatsBad : Nat → List Seat → Bool
  | _, [] => false
  | m, s :: T => seatBad s || stepBad m s || seatsBad (m ||| bitOf s.peer) T
def seatL (s : Seat) : List Value := [.int .i64 s.peer, .int .i64 s.gen]
theorem bit_cases (p : Int) (h0 : -1 ≤ p) (h1 : p ≤ 11) : p = -1 ∨ p = 0 ∨ p = 1 ∨ p = 2 ∨ p = 3 ∨ p = 4 ∨ p = 5 ∨ p = 6 ∨ p = 7 ∨ p = 8 ∨ p = 9 ∨ p = 10 ∨ p = 11 := by omega
theorem bitOf_lt (p : Int) (h : p ≤ 11) : bitOf p < 8192 := by
  by_cases h0 : -1 ≤ p
  · rcases bit_cases p h0 h with rfl | rfl | rfl | rfl | rfl | rfl | rfl | rfl | rfl | rfl | rfl | rfl | rfl <;> decide
  · unfold bitOf
    rw [if_pos (by omega)]
    decide
/-- The closure, at a seat that is bad by itself. -/
theorem seat_bad (s : Seat) (m q : Nat) (w0 : World) (hb : seatBad s = true) (H0 : Sb [q] w0 w0 [(q, #[.int .i64 (m : Int)], 3)] []) :
    Calls Tryz.prog 116 #[.agg #[.int .i64 s.peer, .int .i64 s.gen], .pointer (some ⟨q, 0, none⟩)] w0 fun e w' => e = .returned (.bool true) ∧ Sb [q] w0 w' [(q, #[.int .i64 (m : Int)], 3)] [] := by
  have H := H0
  clear H0
  obtain ⟨p, g⟩ := s
  dsimp only at *
  obtain ⟨c, hc⟩ : ∃ c, (m : Int) = c := ⟨_, rfl⟩
  rw [hc] at H ⊢
  clear hc
  unfold seatBad at hb
  dsimp only at hb
  by_cases h1 : p < -1
  · go_enter Tryz.func116, Tryz.ntmps116
    go_wp2_with (first | (refine wb_box H rfl 30 _ rfl #[.int .i64 p, .int .i64 g] rfl ?_; clear H; intro b2 w H) | (refine wb_cell H rfl 0 3 _ rfl _ 0 rfl _ _ rfl Tryz.isAgg3 (.int .i64 p) rfl ?_) | (refine wb_cell H rfl 0 3 _ rfl _ 1 rfl _ _ rfl Tryz.isAgg3 (.int .i64 g) rfl ?_))
    go_ret
    exact ⟨rfl, H.tail⟩
  · by_cases h2 : 12 ≤ p
    · go_enter Tryz.func116, Tryz.ntmps116
      go_wp2_with (first | (refine wb_box H rfl 30 _ rfl #[.int .i64 p, .int .i64 g] rfl ?_; clear H; intro b2 w H) | (refine wb_cell H rfl 0 3 _ rfl _ 0 rfl _ _ rfl Tryz.isAgg3 (.int .i64 p) rfl ?_) | (refine wb_cell H rfl 0 3 _ rfl _ 1 rfl _ _ rfl Tryz.isAgg3 (.int .i64 g) rfl ?_))
      go_ret
      exact ⟨rfl, H.tail⟩
    · by_cases h3 : g < 0
      · go_enter Tryz.func116, Tryz.ntmps116
        go_wp2_with (first | (refine wb_box H rfl 30 _ rfl #[.int .i64 p, .int .i64 g] rfl ?_; clear H; intro b2 w H) | (refine wb_cell H rfl 0 3 _ rfl _ 0 rfl _ _ rfl Tryz.isAgg3 (.int .i64 p) rfl ?_) | (refine wb_cell H rfl 0 3 _ rfl _ 1 rfl _ _ rfl Tryz.isAgg3 (.int .i64 g) rfl ?_))
        go_ret
        exact ⟨rfl, H.tail⟩
      · by_cases h4 : 60000 < g
        · go_enter Tryz.func116, Tryz.ntmps116
          go_wp2_with (first | (refine wb_box H rfl 30 _ rfl #[.int .i64 p, .int .i64 g] rfl ?_; clear H; intro b2 w H) | (refine wb_cell H rfl 0 3 _ rfl _ 0 rfl _ _ rfl Tryz.isAgg3 (.int .i64 p) rfl ?_) | (refine wb_cell H rfl 0 3 _ rfl _ 1 rfl _ _ rfl Tryz.isAgg3 (.int .i64 g) rfl ?_))
          go_ret
          exact ⟨rfl, H.tail⟩
        · simp at hb
          omega
set_option maxHeartbeats 4000000 in
theorem seat_ok (s : Seat) (m q : Nat) (w0 : World) (hb : seatBad s = false) (hm : m < 8192) (H0 : Sb [q] w0 w0 [(q, #[.int .i64 (m : Int)], 3)] []) :
    Calls Tryz.prog 116 #[.agg #[.int .i64 s.peer, .int .i64 s.gen], .pointer (some ⟨q, 0, none⟩)] w0 fun e w' => e = .returned (.bool (stepBad m s)) ∧ Sb [q] w0 w' [(q, #[.int .i64 ((m ||| bitOf s.peer : Nat) : Int)], 3)] [] := by
  have H := H0
  clear H0
  obtain ⟨p, g⟩ := s
  unfold seatBad at hb
  dsimp only at *
  simp only [Bool.or_eq_false_iff, decide_eq_false_iff_not] at hb
  obtain ⟨h1, h2, h3, h4⟩ := hb
  have hbl := bitOf_lt p (by omega)
  obtain ⟨B, hB⟩ : ∃ B, bitOf p = B := ⟨_, rfl⟩
  rw [hB] at hbl
  have HA := Lib.hid (i64_and_nat B m (by omega) (by omega))
  have HO := Lib.hid (i64_or_nat m B (by omega) (by omega))
  unfold stepBad
  dsimp only
  rw [hB]
  have HB := Lib.hid hB
  have Hbl := Lib.hid hbl
  have Hm := Lib.hid hm
  clear hB hbl hm
  go_enter Tryz.func116, Tryz.ntmps116
  go_upto_region 3 with (first | (refine wb_box H rfl 30 _ rfl #[.int .i64 p, .int .i64 g] rfl ?_; clear H; intro b2 w H) | (refine wb_cell H rfl 0 3 _ rfl _ 0 rfl _ _ rfl Tryz.isAgg3 (.int .i64 p) rfl ?_) | (refine wb_cell H rfl 0 3 _ rfl _ 1 rfl _ _ rfl Tryz.isAgg3 (.int .i64 g) rfl ?_) | (refine wb_cell H rfl 1 3 _ rfl _ 0 rfl _ _ rfl Tryz.isAgg3 (.int .i64 (m : Int)) rfl ?_))
  go_cut [4] (fun v wx => v = .int .i64 (B : Int) ∧ w = wx)
  case first =>
    rcases bit_cases p (by omega) (by omega) with rfl | rfl | rfl | rfl | rfl | rfl | rfl | rfl | rfl | rfl | rfl | rfl | rfl
    · go_wp2_with (refine wb_cell H rfl 0 3 _ rfl _ 0 rfl _ _ rfl Tryz.isAgg3 (.int .i64 (-1)) rfl ?_)
      go_meet
      exact ⟨by rw [← HB.out]; rfl, rfl⟩
    · go_wp2_with (refine wb_cell H rfl 0 3 _ rfl _ 0 rfl _ _ rfl Tryz.isAgg3 (.int .i64 (0)) rfl ?_)
      go_meet
      exact ⟨by rw [← HB.out]; rfl, rfl⟩
    · go_wp2_with (refine wb_cell H rfl 0 3 _ rfl _ 0 rfl _ _ rfl Tryz.isAgg3 (.int .i64 (1)) rfl ?_)
      go_meet
      exact ⟨by rw [← HB.out]; rfl, rfl⟩
    · go_wp2_with (refine wb_cell H rfl 0 3 _ rfl _ 0 rfl _ _ rfl Tryz.isAgg3 (.int .i64 (2)) rfl ?_)
      go_meet
      exact ⟨by rw [← HB.out]; rfl, rfl⟩
    · go_wp2_with (refine wb_cell H rfl 0 3 _ rfl _ 0 rfl _ _ rfl Tryz.isAgg3 (.int .i64 (3)) rfl ?_)
      go_meet
      exact ⟨by rw [← HB.out]; rfl, rfl⟩
    · go_wp2_with (refine wb_cell H rfl 0 3 _ rfl _ 0 rfl _ _ rfl Tryz.isAgg3 (.int .i64 (4)) rfl ?_)
      go_meet
      exact ⟨by rw [← HB.out]; rfl, rfl⟩
    · go_wp2_with (refine wb_cell H rfl 0 3 _ rfl _ 0 rfl _ _ rfl Tryz.isAgg3 (.int .i64 (5)) rfl ?_)
      go_meet
      exact ⟨by rw [← HB.out]; rfl, rfl⟩
    · go_wp2_with (refine wb_cell H rfl 0 3 _ rfl _ 0 rfl _ _ rfl Tryz.isAgg3 (.int .i64 (6)) rfl ?_)
      go_meet
      exact ⟨by rw [← HB.out]; rfl, rfl⟩
    · go_wp2_with (refine wb_cell H rfl 0 3 _ rfl _ 0 rfl _ _ rfl Tryz.isAgg3 (.int .i64 (7)) rfl ?_)
      go_meet
      exact ⟨by rw [← HB.out]; rfl, rfl⟩
    · go_wp2_with (refine wb_cell H rfl 0 3 _ rfl _ 0 rfl _ _ rfl Tryz.isAgg3 (.int .i64 (8)) rfl ?_)
      go_meet
      exact ⟨by rw [← HB.out]; rfl, rfl⟩
    · go_wp2_with (refine wb_cell H rfl 0 3 _ rfl _ 0 rfl _ _ rfl Tryz.isAgg3 (.int .i64 (9)) rfl ?_)
      go_meet
      exact ⟨by rw [← HB.out]; rfl, rfl⟩
    · go_wp2_with (refine wb_cell H rfl 0 3 _ rfl _ 0 rfl _ _ rfl Tryz.isAgg3 (.int .i64 (10)) rfl ?_)
      go_meet
      exact ⟨by rw [← HB.out]; rfl, rfl⟩
    · go_wp2_with (refine wb_cell H rfl 0 3 _ rfl _ 0 rfl _ _ rfl Tryz.isAgg3 (.int .i64 (11)) rfl ?_)
      go_meet
      exact ⟨by rw [← HB.out]; rfl, rfl⟩
  case rest =>
    obtain ⟨rfl, rfl⟩ := hcut
    go_upto_region 4 with fail
    go_cut [5] (fun v wx => v = .bool (decide (B &&& m ≠ 0) || decide (B ≠ 0) && decide (g = 0)) ∧ w = wx)
    case first =>
      have ha := HA.out
      have hcg : w.cell? ⟨b2, 1, none⟩ = some (.int .i64 g) := cell_of_row w b2 1 _ 30 (0, 0) (H.holds _ (List.mem_cons_self ..))
      have hcm : w.cell? ⟨q, 0, none⟩ = some (.int .i64 (m : Int)) := cell_of_row w q 0 _ 3 (0, 0) (H.holds _ (List.mem_cons_of_mem _ (List.mem_cons_self ..)))
      clear H HA HO
      by_cases h6 : B = 0
      · clear HB Hbl
        subst h6
        rw [Nat.zero_and] at ha
        go_wp2_with fail
        go_meet
        exact ⟨by simp, rfl⟩
      · have h6' : ¬ (B : Int) = 0 := by omega
        obtain ⟨A, hA⟩ : ∃ A, B &&& m = A := ⟨_, rfl⟩
        rw [hA] at ha
        by_cases h5 : A = 0
        · subst h5
          by_cases h7 : g = 0
          · subst h7
            go_wp2_with fail
            go_meet
            exact ⟨by simp [hA, h6], rfl⟩
          · go_wp2_with fail
            go_meet
            exact ⟨by simp [hA, h7], rfl⟩
        · have h5' : ¬ (A : Int) = 0 := by omega
          go_wp2_with fail
          go_meet
          exact ⟨by simp [hA, h5], rfl⟩
    case rest =>
      obtain ⟨rfl, rfl⟩ := hcut
      have ho := HO.out
      go_wp2_with (first | (refine wb_cell H rfl 1 3 _ rfl _ 0 rfl _ _ rfl Tryz.isAgg3 (.int .i64 (m : Int)) rfl ?_) | (refine wb_put H rfl 1 3 _ _ rfl _ 0 rfl _ _ rfl (.int .i64 ((m ||| B : Nat) : Int)) rfl 1 info3 rfl (Nat.le_of_ble_eq_true rfl) rfl _ rfl ?_; clear H; intro w H))
      go_ret
      replace H : Sb [q] w0 w [(b2, _, 30), (q, #[.int .i64 ((m ||| B : Nat) : Int)], 3)] [] := H
      exact ⟨rfl, H.tail⟩
def seatsL (T : List Seat) : List Value := T.flatMap seatL
theorem length_seatsL (T : List Seat) : (seatsL T).length = T.length * 2 := by
  induction T with
  | nil => rfl
  | cons s T ih => unfold seatsL at *; rw [List.flatMap_cons, List.length_append, ih, List.length_cons]; simp only [seatL, List.length_cons, List.length_nil]; omega
theorem seatsL_at : ∀ (T : List Seat) (i j : Nat) (s : Seat) (v : Value), T[i]? = some s → (seatL s)[j]? = some v → (seatsL T)[i * 2 + j]? = some v
  | [], i, _, _, _, h, _ => by simp at h
  | s' :: L, 0, j, s, v, h, hj => by
    simp at h
    subst h
    have hl : j < (seatL s').length := (List.getElem?_eq_some_iff.1 hj).1
    unfold seatsL
    rw [List.flatMap_cons, Nat.zero_mul, Nat.zero_add, List.getElem?_append_left hl]
    exact hj
  | s' :: L, i + 1, j, s, v, h, hj => by
    have ih := seatsL_at L i j s v (by simpa using h) hj
    unfold seatsL at *
    have hl : (seatL s').length = 2 := rfl
    rw [List.flatMap_cons, List.getElem?_append_right (by rw [hl]; omega), hl, show (i + 1) * 2 + j - 2 = i * 2 + j by omega]
    exact ih
theorem or_lt {m : Nat} (p : Int) (hm : m < 8192) (hp : p ≤ 11) : m ||| bitOf p < 8192 := Nat.or_lt_two_pow (n := 13) hm (bitOf_lt p hp)
/-- The first seat that is bad: its number, or -1. -/
theorem indexSeat_b (b q : Nat) (T : List Seat) (w0 : World) (h8 : T.length = 8) (hbq : b ≠ q) (hb : b < w0.heap.size) (h : ∀ j v, (seatsL T)[j]? = some v → w0.cell? ⟨b, 1 + j, none⟩ = some v) (H0 : Sb [q] w0 w0 [(q, #[.int .i64 0], 3)] []) :
    Calls Tryz.prog 133 #[.slice (some ⟨b, 1, none⟩) 8 8, .func (.func 116) #[] #[.pointer (some ⟨q, 0, none⟩)]] w0 fun e w' => (∃ r : Int, e = .returned (.int .i64 r) ∧ decide (0 ≤ r) = seatsBad 0 T) ∧ ∃ c, Sb [q] w0 w' [(q, c, 3)] [] := by
  have H := Lib.hid h
  have H8 := Lib.hid h8
  have HBb := Lib.hid hb
  have HQ := Lib.hid hbq
  have HH := Lib.hid H0
  clear h h8 hb H0 hbq
  go_enter Tryz.func133, Tryz.ntmps133
  go_wp2_with fail
  go_loopw [8] (fun i W => ∃ k m : Nat, k ≤ 8 ∧ i = .int .i64 k ∧ Hid (Sb [q] w0 W [(q, #[.int .i64 (m : Int)], 3)] []) ∧ Hid (m < 8192 ∧ seatsBad 0 T = seatsBad m (T.drop k))) (fun i _ => 8 - (intOf i).toNat)
  case atStart => exact ⟨0, 0, Nat.zero_le _, rfl, HH, Lib.hid ⟨by decide, rfl⟩⟩
  case round =>
    clear HH
    obtain ⟨k, m, hk, rfl, HG, HA⟩ := hrel
    by_cases hlt : k < 8
    · obtain ⟨s, hs⟩ : ∃ s, T[k]? = some s := ⟨T[k]'(by rw [H8.out]; exact hlt), List.getElem?_eq_getElem _⟩
      have hd : T.drop k = s :: T.drop (k + 1) := by
        obtain ⟨hk', e⟩ := List.getElem?_eq_some_iff.1 hs
        rw [← e, List.drop_eq_getElem_cons hk']
      have HD := Lib.hid (HA.out.2.trans (by rw [hd]))
      have c : ∀ j v, (seatL s)[j]? = some v → wr.cell? ⟨b, 1 + k * 2 + j, none⟩ = some v := fun j v hv => by
        rw [World.cell?_of_block (w := w0) (HG.out.fr b HBb.out (by have := HQ.out; simpa using this)), Nat.add_assoc]
        exact H.out _ v (seatsL_at T k j s v hs hv)
      have c0 : wr.cell? ⟨b, 1 + k * 2, none⟩ = some (.int .i64 s.peer) := c 0 _ rfl
      have c1 : wr.cell? ⟨b, 1 + k * 2 + 1, none⟩ = some (.int .i64 s.gen) := c 1 _ rfl
      have Hm := Lib.hid HA.out.1
      have Hst : Hid (Sb [q] wr wr [(q, #[.int .i64 (m : Int)], 3)] []) := Lib.hid ⟨rfl, rfl, rfl, Nat.le_refl _, fun _ _ _ => rfl, HG.out.holds, fun p hp => by rw [List.mem_singleton] at hp; subst hp; exact .inr (List.mem_cons_self ..), by simp, fun _ h => by simp at h, fun _ h => by simp at h, fun _ h => by simp at h, by simp⟩
      clear c hd hs HA
      cases q1 : seatBad s
      · have HC := Lib.hid (seat_ok s m q wr q1 Hm.out Hst.out)
        have Hor : Hid (m ||| bitOf s.peer < 8192) := Lib.hid (or_lt _ Hm.out (by
          unfold seatBad at q1
          simp only [Bool.or_eq_false_iff, decide_eq_false_iff_not] at q1
          omega))
        go_wp2_with fail
        refine HC.out.mono ?_; rintro e w' ⟨rfl, hg⟩
        have HG' := Lib.hid (HG.out.turn 0 q _ _ 3 rfl hg.os hg.tape hg.output hg.size (hg.holds _ (List.mem_cons_self ..)) (fun j hj hne => hg.fr j hj (by simpa using hne)))
        clear hg HG HC
        cases q2 : stepBad m s
        · go_wp2_with fail
          exact ⟨⟨k + 1, _, hlt, rfl, HG', Lib.hid ⟨Hor.out, HD.out.trans (by simp [seatsBad, q1, q2])⟩⟩, by simp only [intOf]; omega⟩
        · go_wp2_with fail
          go_ret
          exact ⟨⟨(k : Int), rfl, by rw [HD.out, seatsBad, q1, q2]; simp⟩, _, HG'.out⟩
      · have HC := Lib.hid (seat_bad s m q wr q1 Hst.out)
        go_wp2_with fail
        refine HC.out.mono ?_; rintro e w' ⟨rfl, hg⟩
        have HG' := Lib.hid (HG.out.turn 0 q _ _ 3 rfl hg.os hg.tape hg.output hg.size (hg.holds _ (List.mem_cons_self ..)) (fun j hj hne => hg.fr j hj (by simpa using hne)))
        clear hg HG HC
        go_wp2_with fail
        go_ret
        exact ⟨⟨(k : Int), rfl, by rw [HD.out, seatsBad, q1]; simp⟩, _, HG'.out⟩
    · obtain rfl : k = 8 := by omega
      go_wp2_with fail
      go_ret
      refine ⟨⟨-1, rfl, ?_⟩, _, HG.out⟩
      rw [HA.out.2, ← H8.out, List.drop_length]
      rfl
theorem containsSeat_b (b q : Nat) (T : List Seat) (w0 : World) (h8 : T.length = 8) (hbq : b ≠ q) (hb : b < w0.heap.size) (h : ∀ j v, (seatsL T)[j]? = some v → w0.cell? ⟨b, 1 + j, none⟩ = some v) (H0 : Sb [q] w0 w0 [(q, #[.int .i64 0], 3)] []) :
    Calls Tryz.prog 115 #[.slice (some ⟨b, 1, none⟩) 8 8, .func (.func 116) #[] #[.pointer (some ⟨q, 0, none⟩)]] w0 fun e w' => e = .returned (.bool (seatsBad 0 T)) ∧ ∃ c, Sb [q] w0 w' [(q, c, 3)] [] := by
  have H := Lib.hid (indexSeat_b b q T w0 h8 hbq hb h H0)
  clear h h8 hb H0 hbq
  go_enter Tryz.func115, Tryz.ntmps115
  go_wp2_with fail
  refine H.out.mono ?_; rintro e w' ⟨⟨r, rfl, hr⟩, c, hS⟩
  have HS := Lib.hid hS
  have HR := Lib.hid hr
  clear hS hr H
  go_wp2_with fail
  go_ret
  exact ⟨by rw [← HR.out]; rfl, c, HS.out⟩
def rosterC (ver : Int) (T : List Seat) : Array Value := (Value.int .i64 ver :: seatsL T).toArray
def mayR (ver : Int) (T : List Seat) : Bool := decide (0 ≤ ver) && (decide (ver ≤ 1073741824) && !seatsBad 0 T)
theorem mayR_b (ver : Int) (T : List Seat) (w0 : World) (h8 : T.length = 8) :
    Calls Tryz.prog 79 #[.agg (rosterC ver T)] w0 fun e w' => e = .returned (.bool (mayR ver T)) ∧ Below w0.heap.size w0 w' := by
  have H := Sb.start w0
  have H8 := Lib.hid h8
  clear h8
  have hmf : ∀ (fn : Fn) (first cap : Array Value) (w : World), (Instr.makeFunc fn first cap).run Tryz.prog w = .ok (.func fn first cap) w := fun _ _ _ _ => rfl
  have HS : Hid (∀ j v, (seatsL T)[j]? = some v → (rosterC ver T)[1 + j]? = some v) := Lib.hid (fun j v h => by unfold rosterC; rw [List.getElem?_toArray, Nat.add_comm, List.getElem?_cons_succ]; exact h)
  have H0 : Hid ((rosterC ver T)[0]? = some (.int .i64 ver)) := Lib.hid rfl
  unfold mayR
  generalize rosterC ver T = rc at *
  by_cases h0 : 0 ≤ ver
  · by_cases h1 : ver ≤ 1073741824
    · go_enter Tryz.func79, Tryz.ntmps79
      go_wp2_with (first | (refine wb_box H rfl 33 _ rfl rc rfl ?_; clear H; intro b1 w H) | (refine wb_alloc H rfl 3 rfl _ Tryz.zeroValue3 ?_; clear H; intro b3 w H) | (refine wb_put H rfl 0 3 _ _ rfl _ 0 rfl _ _ rfl (.int .i64 0) rfl 1 info3 rfl (Nat.le_of_ble_eq_true rfl) rfl _ rfl ?_; clear H; intro w H) | (refine wb_cell H rfl 1 3 _ rfl _ 0 rfl _ _ rfl Tryz.isAgg3 (.int .i64 ver) H0.out ?_))
      replace H : Sb [] w0 w [(b3, #[.int .i64 0], 3), (b1, rc, 33)] [] := H
      have hne : b1 ≠ b3 := by
        have := H.nd
        simp at this
        exact fun e => this e.symm
      refine (containsSeat_b b1 b3 T w H8.out hne (H.lt _ (List.mem_cons_of_mem _ (List.mem_cons_self ..))) (fun j v hv => (cell_of_row w b1 (1 + j) _ 33 (0, 0) (H.holds _ (List.mem_cons_of_mem _ (List.mem_cons_self ..)))).trans (HS.out j v hv)) ⟨rfl, rfl, rfl, Nat.le_refl _, fun _ _ _ => rfl, fun p hp => H.holds p (by rw [List.mem_singleton] at hp; subst hp; exact List.mem_cons_self ..), fun p hp => by rw [List.mem_singleton] at hp; subst hp; exact .inr (List.mem_cons_self ..), by simp, fun _ h => by simp at h, fun _ h => by simp at h, fun _ h => by simp at h, by simp⟩).mono ?_
      rintro e w' ⟨rfl, c, hg⟩
      have HB := Lib.hid (H.turn 0 b3 _ _ 3 rfl hg.os hg.tape hg.output hg.size (hg.holds _ (List.mem_cons_self ..)) (fun j hj hne => hg.fr j hj (by simpa using hne))).below
      clear hg H
      go_wp2_with fail
      go_ret
      exact ⟨by simp [h0, h1], HB.out⟩
    · have h1' : 1073741824 < ver := by omega
      go_enter Tryz.func79, Tryz.ntmps79
      go_wp2_with (first | (refine wb_box H rfl 33 _ rfl rc rfl ?_; clear H; intro b1 w H) | (refine wb_alloc H rfl 3 rfl _ Tryz.zeroValue3 ?_; clear H; intro b3 w H) | (refine wb_put H rfl 0 3 _ _ rfl _ 0 rfl _ _ rfl (.int .i64 0) rfl 1 info3 rfl (Nat.le_of_ble_eq_true rfl) rfl _ rfl ?_; clear H; intro w H) | (refine wb_cell H rfl 1 3 _ rfl _ 0 rfl _ _ rfl Tryz.isAgg3 (.int .i64 ver) H0.out ?_))
      go_ret
      exact ⟨by simp <;> omega, H.below⟩
  · have h0' : ver < 0 := by omega
    go_enter Tryz.func79, Tryz.ntmps79
    go_wp2_with (first | (refine wb_box H rfl 33 _ rfl rc rfl ?_; clear H; intro b1 w H) | (refine wb_alloc H rfl 3 rfl _ Tryz.zeroValue3 ?_; clear H; intro b3 w H) | (refine wb_put H rfl 0 3 _ _ rfl _ 0 rfl _ _ rfl (.int .i64 0) rfl 1 info3 rfl (Nat.le_of_ble_eq_true rfl) rfl _ rfl ?_; clear H; intro w H) | (refine wb_cell H rfl 1 3 _ rfl _ 0 rfl _ _ rfl Tryz.isAgg3 (.int .i64 ver) H0.out ?_))
    go_ret
    exact ⟨by simp <;> omega, H.below⟩
end Go.Proofs.YtdopfonebpklkaaGreat.game
namespace Go.Proofs.YtdopfonebpklkaaGreat.game
open Go.ChangeShapes Go.WideShapes Go.ChangeAt Go.RowKit dice
set_option maxRecDepth 100000

def onB (a : Int) : Bool := decide (0 ≤ a) && decide (a < 16777216)
def sizeB (a m : Int) : Bool := decide (-m ≤ a) && decide (a ≤ m)
theorem on_b (a : Int) (w : World) : Calls Tryz.prog 112 #[.int .i32 a] w fun e w' => e = .returned (.bool (onB a)) ∧ w = w' := by
  by_cases h : 0 ≤ a
  · by_cases h' : a < 16777216
    · rw [show onB a = true by simp [onB, h, h']]; exact on_in a w h h'
    · rw [show onB a = false by simp [onB, h']]
      have h' : 16777216 ≤ a := by omega
      go_enter Tryz.func112, Tryz.ntmps112
      go_wp2
      go_ret
      exact ⟨rfl, rfl⟩
  · rw [show onB a = false by simp [onB, h]]
    have h : a < 0 := by omega
    go_enter Tryz.func112, Tryz.ntmps112
    go_wp2
    go_ret
    exact ⟨rfl, rfl⟩
/-- game.size, its bound one of the two that occur. -/
theorem size_b (a m : Int) (w : World) (hm : m = 524288 ∨ m = 393216) :
    Calls Tryz.prog 113 #[.int .i32 a, .int .i32 m] w fun e w' => e = .returned (.bool (sizeB a m)) ∧ w = w' := by
  by_cases h : -m ≤ a
  · by_cases h' : a ≤ m
    · rw [show sizeB a m = true by simp [sizeB, h, h']]
      rcases hm with rfl | rfl
      · exact size_in a w h h'
      · exact size_fast a w h h'
    · rw [show sizeB a m = false by simp [sizeB, h']]
      have h' : m < a := by omega
      rcases hm with rfl | rfl <;>
      · go_enter Tryz.func113, Tryz.ntmps113
        go_wp2
        go_ret
        exact ⟨rfl, rfl⟩
  · rw [show sizeB a m = false by simp [sizeB, h]]
    have h : a < -m := by omega
    rcases hm with rfl | rfl <;>
    · go_enter Tryz.func113, Tryz.ntmps113
      go_wp2
      go_ret
      exact ⟨rfl, rfl⟩
/-- A ship's numbers lie in their types. -/
structure Shp.wf (t : Shp) : Prop where
  x : (Lit.int .i32 t.x).wf = true
  y : (Lit.int .i32 t.y).wf = true
  vx : (Lit.int .i32 t.vx).wf = true
  vy : (Lit.int .i32 t.vy).wf = true
  cool : (Lit.int .i64 t.cool).wf = true
  score : (Lit.int .i64 t.score).wf = true
/-- May a ship be? -/
def Shp.may (t : Shp) : Bool :=
  if t.on then onB t.x && onB t.y && sizeB t.vx 524288 && sizeB t.vy 524288 && decide (0 ≤ t.cool) && decide (t.cool ≤ 10) && decide (0 ≤ t.score) && decide (t.score ≤ 1073741824)
  else decide (t.x = 0 ∧ t.y = 0 ∧ t.vx = 0 ∧ t.vy = 0 ∧ t.cool = 0 ∧ t.score = 0)
theorem Shp.may_ok (t : Shp) : t.may = true ↔ t.ok := by
  unfold Shp.may Shp.ok OkShip onB sizeB
  cases t.on <;> simp [and_assoc]
theorem cells24m : Tryz.prog.cellsOf 24 = 7 := by kernel_rfl
theorem cells4m : Tryz.prog.cellsOf 4 = 1 := by kernel_rfl
theorem cells21m : Tryz.prog.cellsOf 21 = 1 := by kernel_rfl
theorem cells3m : Tryz.prog.cellsOf 3 = 1 := by kernel_rfl
def litsSm (t : Shp) : List Lit := [.bool t.on, .int .i32 t.x, .int .i32 t.y, .int .i32 t.vx, .int .i32 t.vy, .int .i64 t.cool, .int .i64 t.score]
theorem kl4m (d : Nat) (b : Bool) : Tryz.prog.keyLits (d + 1) 4 [.bool b] = some [.bool b] := by
  unfold Program.keyLits
  rw [Tryz.underlying4]
theorem kl21m (d : Nat) (a : Int) (h : (Lit.int .i32 a).wf = true) : Tryz.prog.keyLits (d + 1) 21 [.int .i32 a] = some [.int .i32 a] := by
  unfold Program.keyLits
  rw [Tryz.underlying21]
  simp only [h, and_self, if_true]
theorem kl3m (d : Nat) (a : Int) (h : (Lit.int .i64 a).wf = true) : Tryz.prog.keyLits (d + 1) 3 [.int .i64 a] = some [.int .i64 a] := by
  unfold Program.keyLits
  rw [Tryz.underlying3]
  simp only [h, and_self, if_true]
theorem kl24w (d : Nat) (t : Shp) (h : t.wf) : Tryz.prog.keyLits (d + 2) 24 (shipL t) = some (litsSm t) := by
  have k0 := kl4m d t.on
  have k1 := kl21m d t.x h.x
  have k2 := kl21m d t.y h.y
  have k3 := kl21m d t.vx h.vx
  have k4 := kl21m d t.vy h.vy
  have k5 := kl3m d t.cool h.cool
  have k6 := kl3m d t.score h.score
  show Tryz.prog.keyLits ((d + 1) + 1) 24 (shipL t) = some (litsSm t)
  unfold Program.keyLits
  rw [Tryz.underlying24]
  simp only [cells24m, shipL, List.length_cons, List.length_nil, cells4m, cells21m, cells3m, List.mapM_cons, List.mapM_nil, List.drop_succ_cons, List.drop_zero, List.take_succ_cons, List.take_zero, k0, k1, k2, k3, k4, k5, k6]
  rw [if_pos ⟨trivial, by decide +kernel⟩]
  rfl
theorem formed24 (t : Shp) : (Value.agg (shipL t).toArray).formed Tryz.prog 24 = true := by
  unfold Value.formed
  rw [Tryz.underlying24]
  simp [cells24m, shipL]
theorem litsS_inj {a b : Shp} (h : litsSm a = litsSm b) : a = b := by
  cases a; cases b
  simp [litsSm] at h
  simp_all
theorem zShp_wf : zShp.wf := ⟨by decide, by decide, by decide, by decide, by decide, by decide⟩
theorem eq24 (W : World) (t : Shp) (h : t.wf) : (Op.equalIn 10000 24 (.agg (shipL t).toArray) (.agg (shipL zShp).toArray)).run Tryz.prog W = .ok (decide (t.x = 0 ∧ t.y = 0 ∧ t.vx = 0 ∧ t.vy = 0 ∧ t.cool = 0 ∧ t.score = 0 ∧ t.on = false)) W := by
  obtain ⟨r, h, hr⟩ := run_equalIn_deep (P := Tryz.prog) 9990 10 24 (by kernel_rfl) W 10 10 (.agg (shipL t).toArray) (.agg (shipL zShp).toArray) (litsSm t) (litsSm zShp) (formed24 t) (formed24 zShp) (kl24w 8 t h) (kl24w 8 zShp zShp_wf)
  rw [h]
  congr 1
  by_cases e : t = zShp
  · subst e
    rw [hr.2 rfl]
    rfl
  · have : r ≠ true := fun hh => e (litsS_inj (hr.1 hh))
    cases r with
    | true => exact absurd rfl this
    | false =>
      symm
      rw [decide_eq_false_iff_not]
      rintro ⟨h1, h2, h3, h4, h5, h6, h7⟩
      apply e
      obtain ⟨o, x, y, vx, vy, c, s⟩ := t
      dsimp only at *
      subst h1 h2 h3 h4 h5 h6 h7
      rfl
theorem mayShip_b (t : Shp) (w : World) (h : t.wf) :
    Calls Tryz.prog 75 #[.agg #[.bool t.on, .int .i32 t.x, .int .i32 t.y, .int .i32 t.vx, .int .i32 t.vy, .int .i64 t.cool, .int .i64 t.score]] w fun e w' => e = .returned (.bool t.may) ∧ Below w.heap.size w w' := by
  have HE := fun W => eq24 W t h
  clear h
  obtain ⟨o, x, y, vx, vy, cool, score⟩ := t
  dsimp only at *
  cases o with
  | true =>
    clear HE
    have Hx := Lib.hid (fun w => on_b x w)
    have Hy := Lib.hid (fun w => on_b y w)
    have Hu := Lib.hid (fun w => size_b vx 524288 w (.inl rfl))
    have Hv := Lib.hid (fun w => size_b vy 524288 w (.inl rfl))
    unfold Shp.may
    rw [if_pos rfl]
    dsimp only
    go_enter Tryz.func75, Tryz.ntmps75
    go_wp2_with fail
    refine (Hx.out _).mono ?_; rintro e w' ⟨rfl, rfl⟩
    cases q1 : onB x
    · go_wp2_with fail
      go_ret
      exact ⟨by simp [*] <;> omega, by repeat (first | exact Below.refl _ _ | apply Below.drew | (refine Below.alloc ?_ (by simp) _))⟩
    go_wp2_with fail
    refine (Hy.out _).mono ?_; rintro e w' ⟨rfl, rfl⟩
    cases q2 : onB y
    · go_wp2_with fail
      go_ret
      exact ⟨by simp [*] <;> omega, by repeat (first | exact Below.refl _ _ | apply Below.drew | (refine Below.alloc ?_ (by simp) _))⟩
    go_wp2_with fail
    refine (Hu.out _).mono ?_; rintro e w' ⟨rfl, rfl⟩
    cases q3 : sizeB vx 524288
    · go_wp2_with fail
      go_ret
      exact ⟨by simp [*] <;> omega, by repeat (first | exact Below.refl _ _ | apply Below.drew | (refine Below.alloc ?_ (by simp) _))⟩
    go_wp2_with fail
    refine (Hv.out _).mono ?_; rintro e w' ⟨rfl, rfl⟩
    cases q4 : sizeB vy 524288
    · go_wp2_with fail
      go_ret
      exact ⟨by simp [*] <;> omega, by repeat (first | exact Below.refl _ _ | apply Below.drew | (refine Below.alloc ?_ (by simp) _))⟩
    by_cases h1 : 0 ≤ cool
    · by_cases h2 : cool ≤ 10
      · by_cases h3 : 0 ≤ score
        · by_cases h4 : score ≤ 1073741824
          · go_wp2_with fail
            go_ret
            exact ⟨by simp [*] <;> omega, by repeat (first | exact Below.refl _ _ | apply Below.drew | (refine Below.alloc ?_ (by simp) _))⟩
          · have h4' : 1073741824 < score := by omega
            go_wp2_with fail
            go_ret
            exact ⟨by simp [*] <;> omega, by repeat (first | exact Below.refl _ _ | apply Below.drew | (refine Below.alloc ?_ (by simp) _))⟩
        · have h3' : score < 0 := by omega
          go_wp2_with fail
          go_ret
          exact ⟨by simp [*] <;> omega, by repeat (first | exact Below.refl _ _ | apply Below.drew | (refine Below.alloc ?_ (by simp) _))⟩
      · have h2' : 10 < cool := by omega
        go_wp2_with fail
        go_ret
        exact ⟨by simp [*] <;> omega, by repeat (first | exact Below.refl _ _ | apply Below.drew | (refine Below.alloc ?_ (by simp) _))⟩
    · have h1' : cool < 0 := by omega
      go_wp2_with fail
      go_ret
      exact ⟨by simp [*] <;> omega, by repeat (first | exact Below.refl _ _ | apply Below.drew | (refine Below.alloc ?_ (by simp) _))⟩
  | false =>
    have HE' := HE
    simp only [shipL, zShp, and_true] at HE'
    clear HE
    unfold Shp.may
    rw [if_neg (by simp)]
    dsimp only
    go_enter Tryz.func75, Tryz.ntmps75
    go_wp2_with fail
    go_ret
    exact ⟨by simp, by repeat (first | exact Below.refl _ _ | apply Below.drew | (refine Below.alloc ?_ (by simp) _))⟩
/-- A shot's numbers lie in their types. -/
structure Sht.wf (t : Sht) : Prop where
  x : (Lit.int .i32 t.x).wf = true
  y : (Lit.int .i32 t.y).wf = true
  vx : (Lit.int .i32 t.vx).wf = true
  vy : (Lit.int .i32 t.vy).wf = true
  owner : (Lit.int .i64 t.owner).wf = true
  left : (Lit.int .i64 t.left).wf = true
def Sht.may (t : Sht) : Bool := decide (0 ≤ t.owner) && (decide (t.owner < 8) && (onB t.x && (onB t.y && (sizeB t.vx 393216 && (sizeB t.vy 393216 && (decide (1 ≤ t.left) && decide (t.left ≤ 24)))))))
theorem Sht.may_ok (t : Sht) : t.may = true ↔ OkShot t := by
  unfold Sht.may onB sizeB
  simp only [Bool.and_eq_true, decide_eq_true_eq]
  constructor
  · rintro ⟨h1, h2, ⟨h3, h4⟩, ⟨h5, h6⟩, ⟨h7, h8⟩, ⟨h9, h10⟩, h11, h12⟩
    exact ⟨h1, h2, h3, h4, h5, h6, h7, h8, h9, h10, h11, h12⟩
  · rintro ⟨h1, h2, h3, h4, h5, h6, h7, h8, h9, h10, h11, h12⟩
    exact ⟨h1, h2, ⟨h3, h4⟩, ⟨h5, h6⟩, ⟨h7, h8⟩, ⟨h9, h10⟩, h11, h12⟩
theorem mayShot_b (t : Sht) (w : World) :
    Calls Tryz.prog 78 #[.agg #[.int .i64 t.owner, .int .i32 t.x, .int .i32 t.y, .int .i32 t.vx, .int .i32 t.vy, .int .i64 t.left]] w fun e w' => e = .returned (.bool t.may) ∧ Below w.heap.size w w' := by
  obtain ⟨o, x, y, vx, vy, left⟩ := t
  dsimp only at *
  have Hx := Lib.hid (fun w => on_b x w)
  have Hy := Lib.hid (fun w => on_b y w)
  have Hu := Lib.hid (fun w => size_b vx 393216 w (.inr rfl))
  have Hv := Lib.hid (fun w => size_b vy 393216 w (.inr rfl))
  unfold Sht.may
  dsimp only
  by_cases h1 : 0 ≤ o
  · by_cases h2 : o < 8
    · go_enter Tryz.func78, Tryz.ntmps78
      go_wp2_with fail
      refine (Hx.out _).mono ?_; rintro e w' ⟨rfl, rfl⟩
      cases q1 : onB x
      · go_wp2_with fail
        go_ret
        exact ⟨by simp [*] <;> omega, by repeat (first | exact Below.refl _ _ | apply Below.drew | (refine Below.alloc ?_ (by simp) _))⟩
      go_wp2_with fail
      refine (Hy.out _).mono ?_; rintro e w' ⟨rfl, rfl⟩
      cases q2 : onB y
      · go_wp2_with fail
        go_ret
        exact ⟨by simp [*] <;> omega, by repeat (first | exact Below.refl _ _ | apply Below.drew | (refine Below.alloc ?_ (by simp) _))⟩
      go_wp2_with fail
      refine (Hu.out _).mono ?_; rintro e w' ⟨rfl, rfl⟩
      cases q3 : sizeB vx 393216
      · go_wp2_with fail
        go_ret
        exact ⟨by simp [*] <;> omega, by repeat (first | exact Below.refl _ _ | apply Below.drew | (refine Below.alloc ?_ (by simp) _))⟩
      go_wp2_with fail
      refine (Hv.out _).mono ?_; rintro e w' ⟨rfl, rfl⟩
      cases q4 : sizeB vy 393216
      · go_wp2_with fail
        go_ret
        exact ⟨by simp [*] <;> omega, by repeat (first | exact Below.refl _ _ | apply Below.drew | (refine Below.alloc ?_ (by simp) _))⟩
      by_cases h3 : 1 ≤ left
      · by_cases h4 : left ≤ 24
        · go_wp2_with fail
          go_ret
          exact ⟨by simp [*] <;> omega, by repeat (first | exact Below.refl _ _ | apply Below.drew | (refine Below.alloc ?_ (by simp) _))⟩
        · have h4' : 24 < left := by omega
          go_wp2_with fail
          go_ret
          exact ⟨by simp [*] <;> omega, by repeat (first | exact Below.refl _ _ | apply Below.drew | (refine Below.alloc ?_ (by simp) _))⟩
      · have h3' : left < 1 := by omega
        go_wp2_with fail
        go_ret
        exact ⟨by simp [*] <;> omega, by repeat (first | exact Below.refl _ _ | apply Below.drew | (refine Below.alloc ?_ (by simp) _))⟩
    · have h2' : 8 ≤ o := by omega
      go_enter Tryz.func78, Tryz.ntmps78
      go_wp2_with fail
      go_ret
      exact ⟨by simp [*] <;> omega, by repeat (first | exact Below.refl _ _ | apply Below.drew | (refine Below.alloc ?_ (by simp) _))⟩
  · have h1' : o < 0 := by omega
    go_enter Tryz.func78, Tryz.ntmps78
    go_wp2_with fail
    go_ret
    exact ⟨by simp [*] <;> omega, by repeat (first | exact Below.refl _ _ | apply Below.drew | (refine Below.alloc ?_ (by simp) _))⟩
theorem not_b (t : Shp) (w : World) (h : t.wf) :
    Calls Tryz.prog 74 #[.agg #[.bool t.on, .int .i32 t.x, .int .i32 t.y, .int .i32 t.vx, .int .i32 t.vy, .int .i64 t.cool, .int .i64 t.score]] w fun e w' => e = .returned (.bool (!t.may)) ∧ Below w.heap.size w w' := by
  have H := Lib.hid (fun w => mayShip_b t w h)
  clear h
  obtain ⟨o, x, y, vx, vy, cool, score⟩ := t
  dsimp only at *
  generalize Shp.may _ = q at *
  go_enter Tryz.func74, Tryz.ntmps74
  go_wp2_with fail
  refine (H.out _).mono ?_; rintro e w' ⟨rfl, hg⟩
  have HG := Lib.hid ((((Below.refl w.heap.size w).alloc (Nat.le_refl _) _)).trans (hg.mono (by simp)))
  clear hg
  go_wp2_with fail
  go_ret
  exact ⟨rfl, HG.out⟩
theorem notShot_b (t : Sht) (w : World) :
    Calls Tryz.prog 77 #[.agg #[.int .i64 t.owner, .int .i32 t.x, .int .i32 t.y, .int .i32 t.vx, .int .i32 t.vy, .int .i64 t.left]] w fun e w' => e = .returned (.bool (!t.may)) ∧ Below w.heap.size w w' := by
  have H := Lib.hid (fun w => mayShot_b t w)
  obtain ⟨o, x, y, vx, vy, left⟩ := t
  dsimp only at *
  generalize Sht.may _ = q at *
  go_enter Tryz.func77, Tryz.ntmps77
  go_wp2_with fail
  refine (H.out _).mono ?_; rintro e w' ⟨rfl, hg⟩
  have HG := Lib.hid ((((Below.refl w.heap.size w).alloc (Nat.le_refl _) _)).trans (hg.mono (by simp)))
  clear hg
  go_wp2_with fail
  go_ret
  exact ⟨rfl, HG.out⟩
theorem all_take {α : Type} {p : α → Bool} {l : List α} {k : Nat} {t : α} (h : (l.take k).all p = true) (ht : l[k]? = some t) (hp : p t = true) : (l.take (k + 1)).all p = true := by
  obtain ⟨hk, rfl⟩ := List.getElem?_eq_some_iff.1 ht
  rw [List.take_succ_eq_append_getElem hk, List.all_append, h]
  simp [hp]
theorem all_not {α : Type} {p : α → Bool} {l : List α} {k : Nat} {t : α} (ht : l[k]? = some t) (hp : p t = false) : l.all p = false := by
  rw [Bool.eq_false_iff]
  intro h
  rw [List.all_eq_true.1 h t (List.mem_of_getElem? ht)] at hp
  cases hp
/-- The first ship that may not be: its number, or -1. -/
theorem index_b (b : Nat) (S : List Shp) (w : World) (h8 : S.length = 8) (hb : b < w.heap.size) (h : ∀ k t, S[k]? = some t → ShipAt w b (2 + k * 7) t.on t.x t.y t.vx t.vy t.cool t.score) (hwf : ∀ t ∈ S, t.wf) :
    Calls Tryz.prog 111 #[.slice (some ⟨b, 2, none⟩) 8 8, .func (.func 74) #[] #[]] w fun e w' => (∃ r : Int, e = .returned (.int .i64 r) ∧ decide (0 ≤ r) = !S.all Shp.may) ∧ Below w.heap.size w w' := by
  have H := Lib.hid h
  have HW := Lib.hid hwf
  have H8 := Lib.hid h8
  have HBb := Lib.hid hb
  clear h hwf h8 hb
  go_enter Tryz.func111, Tryz.ntmps111
  go_wp2_with fail
  go_loopw [8] (fun i W => ∃ k : Nat, k ≤ 8 ∧ i = .int .i64 k ∧ Hid (Below w.heap.size w W) ∧ Hid ((S.take k).all Shp.may = true)) (fun i _ => 8 - (intOf i).toNat)
  case atStart => exact ⟨0, Nat.zero_le _, rfl, Lib.hid (Below.refl _ _), Lib.hid rfl⟩
  case round =>
    obtain ⟨k, hk, rfl, HG, HA⟩ := hrel
    by_cases hlt : k < 8
    · obtain ⟨t, ht⟩ : ∃ t, S[k]? = some t := ⟨S[k]'(by rw [H8.out]; exact hlt), List.getElem?_eq_getElem _⟩
      obtain ⟨c0, c1, c2, c3, c4, c5, c6⟩ := H.out k t ht
      have c : ∀ {j : Nat} {v : Value}, w.cell? ⟨b, j, none⟩ = some v → wr.cell? ⟨b, j, none⟩ = some v := fun {j v} e => (HG.out.cell (p := ⟨b, j, none⟩) HBb.out).trans e
      replace c0 := c c0
      replace c1 := c c1
      replace c2 := c c2
      replace c3 := c c3
      replace c4 := c c4
      replace c5 := c c5
      replace c6 := c c6
      have HC := Lib.hid (fun w => not_b t w (HW.out t (List.mem_of_getElem? ht)))
      have HT := Lib.hid ht
      clear ht c
      go_wp2_with fail
      refine (HC.out _).mono ?_; rintro e w' ⟨rfl, hg⟩
      have HG' := Lib.hid (HG.out.trans (hg.mono HG.out.size))
      clear hg
      cases q : t.may
      · go_wp2_with fail
        go_ret
        exact ⟨⟨(k : Int), rfl, by rw [all_not HT.out q]; simp⟩, HG'.out⟩
      · go_wp2_with fail
        exact ⟨⟨k + 1, hlt, rfl, HG', Lib.hid (all_take HA.out HT.out q)⟩, by simp only [intOf]; omega⟩
    · obtain rfl : k = 8 := by omega
      go_wp2_with fail
      go_ret
      refine ⟨⟨-1, rfl, ?_⟩, HG.out⟩
      have := HA.out
      rw [← H8.out, List.take_length] at this
      rw [this]
      decide
theorem contains_b (b : Nat) (S : List Shp) (w : World) (h8 : S.length = 8) (hb : b < w.heap.size) (h : ∀ k t, S[k]? = some t → ShipAt w b (2 + k * 7) t.on t.x t.y t.vx t.vy t.cool t.score) (hwf : ∀ t ∈ S, t.wf) :
    Calls Tryz.prog 73 #[.slice (some ⟨b, 2, none⟩) 8 8, .func (.func 74) #[] #[]] w fun e w' => e = .returned (.bool (!S.all Shp.may)) ∧ Below w.heap.size w w' := by
  have H := Lib.hid (index_b b S w h8 hb h hwf)
  clear h hwf h8 hb
  go_enter Tryz.func73, Tryz.ntmps73
  go_wp2_with fail
  refine H.out.mono ?_; rintro e w' ⟨⟨r, rfl, hr⟩, hg⟩
  have HG := Lib.hid hg
  clear hg
  have HR := Lib.hid hr
  clear hr
  go_wp2_with fail
  go_ret
  exact ⟨by rw [← HR.out]; rfl, HG.out⟩
theorem indexShots_b (g o c : Nat) (L : List Sht) (w : World) (h : ∀ j v, (cellsL L)[j]? = some v → w.cell? ⟨g, o + j, none⟩ = some v) (hg : g < w.heap.size) (hn : L.length ≤ 1000000) :
    Calls Tryz.prog 114 #[.slice (some ⟨g, o, none⟩) L.length c, .func (.func 77) #[] #[]] w fun e w' => (∃ r : Int, e = .returned (.int .i64 r) ∧ decide (0 ≤ r) = !L.all Sht.may) ∧ Below w.heap.size w w' := by
  have H := Lib.hid h
  clear h
  go_enter Tryz.func114, Tryz.ntmps114
  go_wp2_with fail
  go_loopw [8] (fun i W => ∃ k : Nat, k ≤ L.length ∧ i = .int .i64 k ∧ Hid (Below w.heap.size w W) ∧ Hid ((L.take k).all Sht.may = true)) (fun i _ => L.length - (intOf i).toNat)
  case atStart => exact ⟨0, Nat.zero_le _, rfl, Lib.hid (Below.refl _ _), Lib.hid rfl⟩
  case round =>
    obtain ⟨k, hk, rfl, HG, HA⟩ := hrel
    by_cases hlt : k < L.length
    · obtain ⟨s, hs⟩ : ∃ s, L[k]? = some s := ⟨L[k], List.getElem?_eq_getElem hlt⟩
      have hA : ShotAt wr g (o + k * 6) s := shot_at (fun j v hv => (HG.out.cell (p := ⟨g, o + j, none⟩) hg).trans (H.out j v hv)) k s hs
      obtain ⟨c0, c1, c2, c3, c4, c5⟩ := hA
      have HC := Lib.hid (fun w => notShot_b s w)
      have HT := Lib.hid hs
      clear hs
      go_wp2_with fail
      refine (HC.out _).mono ?_; rintro e w' ⟨rfl, hg⟩
      have HG' := Lib.hid (HG.out.trans (hg.mono HG.out.size))
      clear hg
      cases q : s.may
      · go_wp2_with fail
        go_ret
        exact ⟨⟨(k : Int), rfl, by rw [all_not HT.out q]; simp⟩, HG'.out⟩
      · go_wp2_with fail
        exact ⟨⟨k + 1, hlt, rfl, HG', Lib.hid (all_take HA.out HT.out q)⟩, by simp only [intOf]; omega⟩
    · obtain rfl : k = L.length := by omega
      go_wp2_with fail
      go_ret
      refine ⟨⟨-1, rfl, ?_⟩, HG.out⟩
      have := HA.out
      rw [List.take_length] at this
      rw [this]
      decide
/-- Shots, where they lie; none may have any address. -/
def ShotsW (W : World) (sl : Value) (L : List Sht) : Prop :=
  (L = [] ∧ ∃ ad c, sl = .slice ad 0 c) ∨ ∃ g o c, sl = .slice (some ⟨g, o, none⟩) L.length c ∧ g < W.heap.size ∧ ∀ j v, (cellsL L)[j]? = some v → W.cell? ⟨g, o + j, none⟩ = some v
theorem ShotsW.later {W W' : World} {sl : Value} {L : List Sht} (h : ShotsW W sl L) (hb : Below W.heap.size W W') : ShotsW W' sl L := by
  rcases h with h | ⟨g, o, c, h1, h2, h3⟩
  · exact .inl h
  · exact .inr ⟨g, o, c, h1, Nat.lt_of_lt_of_le h2 hb.size, fun j v hv => (hb.cell (p := ⟨g, o + j, none⟩) h2).trans (h3 j v hv)⟩
theorem ShotsIn.w {W : World} {sl : Value} {L : List Sht} (h : ShotsIn W sl L) : ShotsW W sl L := by
  rcases h with ⟨h, e⟩ | h
  · exact .inl ⟨h, none, 0, e⟩
  · exact .inr h
theorem ShotsW.form {W : World} {sl : Value} {L : List Sht} (h : ShotsW W sl L) : ∃ ad c, sl = .slice ad L.length c := by
  rcases h with ⟨rfl, ad, c, rfl⟩ | ⟨b, o, c, rfl, _⟩
  · exact ⟨ad, c, rfl⟩
  · exact ⟨_, _, rfl⟩
theorem indexShots_none0 (ad : Option Addr) (c : Nat) (f : Value) (w : World) : Calls Tryz.prog 114 #[.slice ad 0 c, f] w fun e w' => e = .returned (.int .i64 (-1)) ∧ w = w' := by
  go_enter Tryz.func114, Tryz.ntmps114
  go_wp2_with fail
  go_loop [8] (fun i => i = .int .i64 0) (fun _ => 0)
  case atStart => rfl
  case round =>
    subst hrel
    go_wp2_with fail
    go_ret
    exact ⟨rfl, rfl⟩
theorem containsShots_none0 (ad : Option Addr) (c : Nat) (f : Value) (w : World) : Calls Tryz.prog 76 #[.slice ad 0 c, f] w fun e w' => e = .returned (.bool false) ∧ w = w' := by
  go_enter Tryz.func76, Tryz.ntmps76
  go_wp2_with fail
  refine (indexShots_none0 ad c f w).mono ?_; rintro e w' ⟨rfl, rfl⟩
  go_wp2_with fail
  go_ret
  exact ⟨rfl, rfl⟩
theorem containsShots_b (sl : Value) (L : List Sht) (w : World) (h : ShotsW w sl L) (hn : L.length ≤ 1000000) :
    Calls Tryz.prog 76 #[sl, .func (.func 77) #[] #[]] w fun e w' => e = .returned (.bool (!L.all Sht.may)) ∧ Below w.heap.size w w' := by
  rcases h with ⟨rfl, ad, c, rfl⟩ | ⟨g, o, c, rfl, hg, hc⟩
  · refine (containsShots_none0 ad c _ w).mono ?_
    rintro e w' ⟨rfl, rfl⟩
    exact ⟨rfl, Below.refl _ _⟩
  · have H := Lib.hid (indexShots_b g o c L w hc hg hn)
    clear hc
    go_enter Tryz.func76, Tryz.ntmps76
    go_wp2_with fail
    refine H.out.mono ?_; rintro e w' ⟨⟨r, rfl, hr⟩, hg⟩
    have HG := Lib.hid hg
    clear hg
    have HR := Lib.hid hr
    clear hr
    go_wp2_with fail
    go_ret
    exact ⟨by rw [← HR.out]; rfl, HG.out⟩
/-- A game's numbers lie in their types. -/
structure Gme.wf (g : Gme) : Prop where
  fr : (Lit.int .i64 g.fr).wf = true
  d : (Lit.int .u64 g.d).wf = true
  s8 : g.S.length = 8
  ships : ∀ t ∈ g.S, t.wf
  shots : ∀ t ∈ g.L, t.wf
def Gme.may (g : Gme) : Bool := decide (0 ≤ g.fr) && (decide (g.fr ≤ 1048576) && (decide (g.L.length ≤ 32) && (g.S.all Shp.may && g.L.all Sht.may)))
theorem Gme.may_ok {g : Gme} (h8 : g.S.length = 8) : g.may = true ↔ g.ok := by
  unfold Gme.may
  simp only [Bool.and_eq_true, decide_eq_true_eq, List.all_eq_true, Shp.may_ok, Sht.may_ok]
  constructor
  · rintro ⟨h1, h2, h3, h4, h5⟩
    exact ⟨h1, h2, h8, h4, h5, h3⟩
  · rintro ⟨h1, h2, _, h4, h5, h3⟩
    exact ⟨h1, h2, h3, h4, h5⟩
set_option maxHeartbeats 1000000 in
theorem may_b (g : Gme) (sl : Value) (w : World) (hg : g.wf) (hin : ShotsW w sl g.L) :
    Calls Tryz.prog 30 #[.agg (gameC g.fr g.d g.S sl)] w fun e w' => e = .returned (.bool g.may) ∧ Below w.heap.size w w' := by
  obtain ⟨ad, c, rfl⟩ := hin.form
  have HW := Lib.hid hg.ships
  have H8 := Lib.hid hg.s8
  have HL := Lib.hid hin
  have hf := (cell_new w (gameC g.fr g.d g.S (.slice ad g.L.length c)) 28 0).trans (show (gameC g.fr g.d g.S (.slice ad g.L.length c))[0]? = some (.int .i64 g.fr) from rfl)
  have hs := (cell_new w (gameC g.fr g.d g.S (.slice ad g.L.length c)) 28 58).trans (gc_shots hg.s8)
  have HB := Lib.hid ((Below.refl w.heap.size w).alloc (Nat.le_refl _) (.cells (gameC g.fr g.d g.S (.slice ad g.L.length c)) 28))
  have HS : Hid (∀ k t, g.S[k]? = some t → ShipAt (w.alloc (.cells (gameC g.fr g.d g.S (.slice ad g.L.length c)) 28)) w.heap.size (2 + k * 7) t.on t.x t.y t.vx t.vy t.cool t.score) := Lib.hid (fun k t ht => by
    have C := fun (j : Nat) (v : Value) hv => (cell_new w (gameC g.fr g.d g.S (.slice ad g.L.length c)) 28 (2 + k * 7 + j)).trans (gc_at k j t v ht hv)
    exact ⟨C 0 _ rfl, C 1 _ rfl, C 2 _ rfl, C 3 _ rfl, C 4 _ rfl, C 5 _ rfl, C 6 _ rfl⟩)
  have hsz : (w.alloc (.cells (gameC g.fr g.d g.S (.slice ad g.L.length c)) 28)).heap.size = w.heap.size + 1 := by simp
  have hsl : w.heap.size < (w.alloc (.cells (gameC g.fr g.d g.S (.slice ad g.L.length c)) 28)).heap.size := by simp
  have Hsz := Lib.hid hsz
  have Hsl := Lib.hid hsl
  clear hg hin hsz hsl
  obtain ⟨fr, d, S, L⟩ := g
  unfold Gme.may
  dsimp only at *
  have HC := Lib.hid (contains_b w.heap.size S _ H8.out Hsl.out HS.out HW.out)
  generalize gameC fr d S (.slice ad L.length c) = cs at *
  by_cases h0 : 0 ≤ fr
  · by_cases h1 : fr ≤ 1048576
    · by_cases h2 : L.length ≤ 32
      · have h2' : (L.length : Int) ≤ 32 := by omega
        go_enter Tryz.func30, Tryz.ntmps30
        go_wp2_with fail
        refine HC.out.mono ?_; rintro e w' ⟨rfl, hg⟩
        have hs2 := (hg.cell (p := ⟨w.heap.size, 58, none⟩) Hsl.out).trans hs
        have HB2 := Lib.hid (HB.out.trans (hg.mono (by rw [Hsz.out]; omega)))
        clear hg hs hf
        cases q : S.all Shp.may
        · go_wp2_with fail
          go_ret
          exact ⟨by rw [q]; simp, HB2.out⟩
        go_wp2_with fail
        refine (containsShots_b _ L _ (HL.out.later HB2.out) (by omega)).mono ?_; rintro e w2 ⟨rfl, hg⟩
        have HB3 := Lib.hid (HB2.out.trans (hg.mono HB2.out.size))
        clear hg
        go_wp2_with fail
        go_ret
        exact ⟨by simp [*] <;> omega, HB3.out⟩
      · have h2' : 32 < (L.length : Int) := by omega
        go_enter Tryz.func30, Tryz.ntmps30
        go_wp2_with fail
        go_ret
        exact ⟨by simp [*] <;> omega, HB.out⟩
    · have h1' : 1048576 < fr := by omega
      go_enter Tryz.func30, Tryz.ntmps30
      go_wp2_with fail
      go_ret
      exact ⟨by simp [*] <;> omega, HB.out⟩
  · have h0' : fr < 0 := by omega
    go_enter Tryz.func30, Tryz.ntmps30
    go_wp2_with fail
    go_ret
    exact ⟨by simp [*] <;> omega, HB.out⟩
end Go.Proofs.YtdopfonebpklkaaGreat.game
