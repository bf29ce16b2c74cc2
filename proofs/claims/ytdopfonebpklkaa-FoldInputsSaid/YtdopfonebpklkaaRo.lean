/- Which rosters may be: roster.May over any numbers. -/
import Derived.Test.YtdopfonebpklkaaIp
import Derived.Test.YtdopfonebpklkaaMc
import Derived.Deep.DeepCutAuto
namespace Go.Proofs.Ytdopfonebpklkaa.game
open Go.ChangeShapes Go.WideShapes Go.ChangeAt Go.RowKit dice
set_option maxRecDepth 100000

theorem i64_nat (x : Nat) (h : x < 9223372036854775808) : IntKind.i64.wrap (x : Int) = x := by
  simp [IntKind.wrap, IntKind.bits, IntKind.signed]
  omega
theorem i64_and_nat (a b : Nat) (ha : a < 9223372036854775808) (hb : b < 9223372036854775808) : bits .and .i64 (a : Int) (b : Int) = ((a &&& b : Nat) : Int) := by
  have hx : a &&& b < 2 ^ 63 := Nat.and_lt_two_pow _ (by omega)
  show IntKind.i64.wrap ((BitVec.ofInt 64 (a : Int) &&& BitVec.ofInt 64 (b : Int)).toNat : Int) = _
  rw [BitVec.toNat_and, BitVec.ofInt_natCast, BitVec.ofInt_natCast, BitVec.toNat_ofNat, BitVec.toNat_ofNat, Nat.mod_eq_of_lt (by omega), Nat.mod_eq_of_lt (by omega), i64_nat _ (by omega)]
theorem i64_or_nat (a b : Nat) (ha : a < 9223372036854775808) (hb : b < 9223372036854775808) : bits .or .i64 (a : Int) (b : Int) = ((a ||| b : Nat) : Int) := by
  have hx : a ||| b < 2 ^ 63 := Nat.or_lt_two_pow (by omega) (by omega)
  show IntKind.i64.wrap ((BitVec.ofInt 64 (a : Int) ||| BitVec.ofInt 64 (b : Int)).toNat : Int) = _
  rw [BitVec.toNat_or, BitVec.ofInt_natCast, BitVec.ofInt_natCast, BitVec.toNat_ofNat, BitVec.toNat_ofNat, Nat.mod_eq_of_lt (by omega), Nat.mod_eq_of_lt (by omega), i64_nat _ (by omega)]
def seatBad (s : Seat) : Bool := decide (s.peer < -1) || (decide (12 ≤ s.peer) || (decide (s.gen < 0) || decide (60000 < s.gen)))
def bitOf (p : Int) : Nat := if p < 0 then 0 else 2 ^ (p + 1).toNat
def stepBad (m : Nat) (s : Seat) : Bool := decide (bitOf s.peer &&& m ≠ 0) || (decide (bitOf s.peer ≠ 0) && decide (s.gen = 0))
def seatsBad : Nat → List Seat → Bool
  | _, [] => false
  | m, s :: T => seatBad s || stepBad m s || seatsBad (m ||| bitOf s.peer) T
def seatL (s : Seat) : List Value := [.int .i64 s.peer, .int .i64 s.gen]
theorem bit_cases (p : Int) (h0 : -1 ≤ p) (h1 : p ≤ 11) : p = -1 ∨ p = 0 ∨ p = 1 ∨ p = 2 ∨ p = 3 ∨ p = 4 ∨ p = 5 ∨ p = 6 ∨ p = 7 ∨ p = 8 ∨ p = 9 ∨ p = 10 ∨ p = 11 := by omega
theorem bitOf_lt (p : Int) (h : p ≤ 11) : bitOf p < 8192 := by
  by_cases h0 : -1 ≤ p
  · rcases bit_cases p h0 h with rfl | rfl | rfl | rfl | rfl | rfl | rfl | rfl | rfl | rfl | rfl | rfl | rfl <;> decide
  · unfold bitOf
    rw [if_pos (by omega)]
    decide
/-- The closure, at a seat that is bad by itself. -/
theorem seat_bad (s : Seat) (m q : Nat) (w0 : World) (hb : seatBad s = true) (H0 : Sb [q] w0 w0 [(q, #[.int .i64 (m : Int)], 3)] []) :
    Calls Try.prog 49 #[.agg #[.int .i64 s.peer, .int .i64 s.gen], .pointer (some ⟨q, 0, none⟩)] w0 fun e w' => e = .returned (.bool true) ∧ Sb [q] w0 w' [(q, #[.int .i64 (m : Int)], 3)] [] := by
  have H := H0
  clear H0
  obtain ⟨p, g⟩ := s
  dsimp only at *
  obtain ⟨c, hc⟩ : ∃ c, (m : Int) = c := ⟨_, rfl⟩
  rw [hc] at H ⊢
  clear hc
  unfold seatBad at hb
  dsimp only at hb
  by_cases h1 : p < -1
  · go_enter Try.func49, Try.ntmps49
    go_wp2_with (first | (refine wb_box H rfl 35 _ rfl #[.int .i64 p, .int .i64 g] rfl ?_; clear H; intro b2 w H) | (refine wb_cell H rfl 0 3 _ rfl _ 0 rfl _ _ rfl Try.isAgg3 (.int .i64 p) rfl ?_) | (refine wb_cell H rfl 0 3 _ rfl _ 1 rfl _ _ rfl Try.isAgg3 (.int .i64 g) rfl ?_))
    go_ret
    exact ⟨rfl, H.tail⟩
  · by_cases h2 : 12 ≤ p
    · go_enter Try.func49, Try.ntmps49
      go_wp2_with (first | (refine wb_box H rfl 35 _ rfl #[.int .i64 p, .int .i64 g] rfl ?_; clear H; intro b2 w H) | (refine wb_cell H rfl 0 3 _ rfl _ 0 rfl _ _ rfl Try.isAgg3 (.int .i64 p) rfl ?_) | (refine wb_cell H rfl 0 3 _ rfl _ 1 rfl _ _ rfl Try.isAgg3 (.int .i64 g) rfl ?_))
      go_ret
      exact ⟨rfl, H.tail⟩
    · by_cases h3 : g < 0
      · go_enter Try.func49, Try.ntmps49
        go_wp2_with (first | (refine wb_box H rfl 35 _ rfl #[.int .i64 p, .int .i64 g] rfl ?_; clear H; intro b2 w H) | (refine wb_cell H rfl 0 3 _ rfl _ 0 rfl _ _ rfl Try.isAgg3 (.int .i64 p) rfl ?_) | (refine wb_cell H rfl 0 3 _ rfl _ 1 rfl _ _ rfl Try.isAgg3 (.int .i64 g) rfl ?_))
        go_ret
        exact ⟨rfl, H.tail⟩
      · by_cases h4 : 60000 < g
        · go_enter Try.func49, Try.ntmps49
          go_wp2_with (first | (refine wb_box H rfl 35 _ rfl #[.int .i64 p, .int .i64 g] rfl ?_; clear H; intro b2 w H) | (refine wb_cell H rfl 0 3 _ rfl _ 0 rfl _ _ rfl Try.isAgg3 (.int .i64 p) rfl ?_) | (refine wb_cell H rfl 0 3 _ rfl _ 1 rfl _ _ rfl Try.isAgg3 (.int .i64 g) rfl ?_))
          go_ret
          exact ⟨rfl, H.tail⟩
        · simp at hb
          omega
set_option maxHeartbeats 4000000 in
theorem seat_ok (s : Seat) (m q : Nat) (w0 : World) (hb : seatBad s = false) (hm : m < 8192) (H0 : Sb [q] w0 w0 [(q, #[.int .i64 (m : Int)], 3)] []) :
    Calls Try.prog 49 #[.agg #[.int .i64 s.peer, .int .i64 s.gen], .pointer (some ⟨q, 0, none⟩)] w0 fun e w' => e = .returned (.bool (stepBad m s)) ∧ Sb [q] w0 w' [(q, #[.int .i64 ((m ||| bitOf s.peer : Nat) : Int)], 3)] [] := by
  have H := H0
  clear H0
  obtain ⟨p, g⟩ := s
  unfold seatBad at hb
  dsimp only at *
  simp only [Bool.or_eq_false_iff, decide_eq_false_iff_not] at hb
  obtain ⟨h1, h2, h3, h4⟩ := hb
  have hbl := bitOf_lt p (by omega)
  obtain ⟨B, hB⟩ : ∃ B, bitOf p = B := ⟨_, rfl⟩
  rw [hB] at hbl
  have HA := Lib.hid (i64_and_nat B m (by omega) (by omega))
  have HO := Lib.hid (i64_or_nat m B (by omega) (by omega))
  unfold stepBad
  dsimp only
  rw [hB]
  have HB := Lib.hid hB
  have Hbl := Lib.hid hbl
  have Hm := Lib.hid hm
  clear hB hbl hm
  go_enter Try.func49, Try.ntmps49
  go_upto_region 3 with (first | (refine wb_box H rfl 35 _ rfl #[.int .i64 p, .int .i64 g] rfl ?_; clear H; intro b2 w H) | (refine wb_cell H rfl 0 3 _ rfl _ 0 rfl _ _ rfl Try.isAgg3 (.int .i64 p) rfl ?_) | (refine wb_cell H rfl 0 3 _ rfl _ 1 rfl _ _ rfl Try.isAgg3 (.int .i64 g) rfl ?_) | (refine wb_cell H rfl 1 3 _ rfl _ 0 rfl _ _ rfl Try.isAgg3 (.int .i64 (m : Int)) rfl ?_))
  go_cut [4] (fun v wx => v = .int .i64 (B : Int) ∧ w = wx)
  case first =>
    rcases bit_cases p (by omega) (by omega) with rfl | rfl | rfl | rfl | rfl | rfl | rfl | rfl | rfl | rfl | rfl | rfl | rfl
    · go_wp2_with (refine wb_cell H rfl 0 3 _ rfl _ 0 rfl _ _ rfl Try.isAgg3 (.int .i64 (-1)) rfl ?_)
      go_meet
      exact ⟨by rw [← HB.out]; rfl, rfl⟩
    · go_wp2_with (refine wb_cell H rfl 0 3 _ rfl _ 0 rfl _ _ rfl Try.isAgg3 (.int .i64 (0)) rfl ?_)
      go_meet
      exact ⟨by rw [← HB.out]; rfl, rfl⟩
    · go_wp2_with (refine wb_cell H rfl 0 3 _ rfl _ 0 rfl _ _ rfl Try.isAgg3 (.int .i64 (1)) rfl ?_)
      go_meet
      exact ⟨by rw [← HB.out]; rfl, rfl⟩
    · go_wp2_with (refine wb_cell H rfl 0 3 _ rfl _ 0 rfl _ _ rfl Try.isAgg3 (.int .i64 (2)) rfl ?_)
      go_meet
      exact ⟨by rw [← HB.out]; rfl, rfl⟩
    · go_wp2_with (refine wb_cell H rfl 0 3 _ rfl _ 0 rfl _ _ rfl Try.isAgg3 (.int .i64 (3)) rfl ?_)
      go_meet
      exact ⟨by rw [← HB.out]; rfl, rfl⟩
    · go_wp2_with (refine wb_cell H rfl 0 3 _ rfl _ 0 rfl _ _ rfl Try.isAgg3 (.int .i64 (4)) rfl ?_)
      go_meet
      exact ⟨by rw [← HB.out]; rfl, rfl⟩
    · go_wp2_with (refine wb_cell H rfl 0 3 _ rfl _ 0 rfl _ _ rfl Try.isAgg3 (.int .i64 (5)) rfl ?_)
      go_meet
      exact ⟨by rw [← HB.out]; rfl, rfl⟩
    · go_wp2_with (refine wb_cell H rfl 0 3 _ rfl _ 0 rfl _ _ rfl Try.isAgg3 (.int .i64 (6)) rfl ?_)
      go_meet
      exact ⟨by rw [← HB.out]; rfl, rfl⟩
    · go_wp2_with (refine wb_cell H rfl 0 3 _ rfl _ 0 rfl _ _ rfl Try.isAgg3 (.int .i64 (7)) rfl ?_)
      go_meet
      exact ⟨by rw [← HB.out]; rfl, rfl⟩
    · go_wp2_with (refine wb_cell H rfl 0 3 _ rfl _ 0 rfl _ _ rfl Try.isAgg3 (.int .i64 (8)) rfl ?_)
      go_meet
      exact ⟨by rw [← HB.out]; rfl, rfl⟩
    · go_wp2_with (refine wb_cell H rfl 0 3 _ rfl _ 0 rfl _ _ rfl Try.isAgg3 (.int .i64 (9)) rfl ?_)
      go_meet
      exact ⟨by rw [← HB.out]; rfl, rfl⟩
    · go_wp2_with (refine wb_cell H rfl 0 3 _ rfl _ 0 rfl _ _ rfl Try.isAgg3 (.int .i64 (10)) rfl ?_)
      go_meet
      exact ⟨by rw [← HB.out]; rfl, rfl⟩
    · go_wp2_with (refine wb_cell H rfl 0 3 _ rfl _ 0 rfl _ _ rfl Try.isAgg3 (.int .i64 (11)) rfl ?_)
      go_meet
      exact ⟨by rw [← HB.out]; rfl, rfl⟩
  case rest =>
    obtain ⟨rfl, rfl⟩ := hcut
    go_upto_region 4 with fail
    go_cut [5] (fun v wx => v = .bool (decide (B &&& m ≠ 0) || decide (B ≠ 0) && decide (g = 0)) ∧ w = wx)
    case first =>
      have ha := HA.out
      have hcg : w.cell? ⟨b2, 1, none⟩ = some (.int .i64 g) := cell_of_row w b2 1 _ 35 (0, 0) (H.holds _ (List.mem_cons_self ..))
      have hcm : w.cell? ⟨q, 0, none⟩ = some (.int .i64 (m : Int)) := cell_of_row w q 0 _ 3 (0, 0) (H.holds _ (List.mem_cons_of_mem _ (List.mem_cons_self ..)))
      clear H HA HO
      by_cases h6 : B = 0
      · clear HB Hbl
        subst h6
        rw [Nat.zero_and] at ha
        go_wp2_with fail
        go_meet
        exact ⟨by simp, rfl⟩
      · have h6' : ¬ (B : Int) = 0 := by omega
        obtain ⟨A, hA⟩ : ∃ A, B &&& m = A := ⟨_, rfl⟩
        rw [hA] at ha
        by_cases h5 : A = 0
        · subst h5
          by_cases h7 : g = 0
          · subst h7
            go_wp2_with fail
            go_meet
            exact ⟨by simp [hA, h6], rfl⟩
          · go_wp2_with fail
            go_meet
            exact ⟨by simp [hA, h7], rfl⟩
        · have h5' : ¬ (A : Int) = 0 := by omega
          go_wp2_with fail
          go_meet
          exact ⟨by simp [hA, h5], rfl⟩
    case rest =>
      obtain ⟨rfl, rfl⟩ := hcut
      have ho := HO.out
      go_wp2_with (first | (refine wb_cell H rfl 1 3 _ rfl _ 0 rfl _ _ rfl Try.isAgg3 (.int .i64 (m : Int)) rfl ?_) | (refine wb_put H rfl 1 3 _ _ rfl _ 0 rfl _ _ rfl (.int .i64 ((m ||| B : Nat) : Int)) rfl 1 info3 rfl (Nat.le_of_ble_eq_true rfl) rfl _ rfl ?_; clear H; intro w H))
      go_ret
      replace H : Sb [q] w0 w [(b2, _, 35), (q, #[.int .i64 ((m ||| B : Nat) : Int)], 3)] [] := H
      exact ⟨rfl, H.tail⟩
def seatsL (T : List Seat) : List Value := T.flatMap seatL
theorem length_seatsL (T : List Seat) : (seatsL T).length = T.length * 2 := by
  induction T with
  | nil => rfl
  | cons s T ih => unfold seatsL at *; rw [List.flatMap_cons, List.length_append, ih, List.length_cons]; simp only [seatL, List.length_cons, List.length_nil]; omega
theorem seatsL_at : ∀ (T : List Seat) (i j : Nat) (s : Seat) (v : Value), T[i]? = some s → (seatL s)[j]? = some v → (seatsL T)[i * 2 + j]? = some v
  | [], i, _, _, _, h, _ => by simp at h
  | s' :: L, 0, j, s, v, h, hj => by
    simp at h
    subst h
    have hl : j < (seatL s').length := (List.getElem?_eq_some_iff.1 hj).1
    unfold seatsL
    rw [List.flatMap_cons, Nat.zero_mul, Nat.zero_add, List.getElem?_append_left hl]
    exact hj
  | s' :: L, i + 1, j, s, v, h, hj => by
    have ih := seatsL_at L i j s v (by simpa using h) hj
    unfold seatsL at *
    have hl : (seatL s').length = 2 := rfl
    rw [List.flatMap_cons, List.getElem?_append_right (by rw [hl]; omega), hl, show (i + 1) * 2 + j - 2 = i * 2 + j by omega]
    exact ih
theorem or_lt {m : Nat} (p : Int) (hm : m < 8192) (hp : p ≤ 11) : m ||| bitOf p < 8192 := Nat.or_lt_two_pow (n := 13) hm (bitOf_lt p hp)
/-- The first seat that is bad: its number, or -1. -/
theorem indexSeat_b (b q : Nat) (T : List Seat) (w0 : World) (h8 : T.length = 8) (hbq : b ≠ q) (hb : b < w0.heap.size) (h : ∀ j v, (seatsL T)[j]? = some v → w0.cell? ⟨b, 1 + j, none⟩ = some v) (H0 : Sb [q] w0 w0 [(q, #[.int .i64 0], 3)] []) :
    Calls Try.prog 67 #[.slice (some ⟨b, 1, none⟩) 8 8, .func (.func 49) #[] #[.pointer (some ⟨q, 0, none⟩)]] w0 fun e w' => (∃ r : Int, e = .returned (.int .i64 r) ∧ decide (0 ≤ r) = seatsBad 0 T) ∧ ∃ c, Sb [q] w0 w' [(q, c, 3)] [] := by
  have H := Lib.hid h
  have H8 := Lib.hid h8
  have HBb := Lib.hid hb
  have HQ := Lib.hid hbq
  have HH := Lib.hid H0
  clear h h8 hb H0 hbq
  go_enter Try.func67, Try.ntmps67
  go_wp2_with fail
  go_loopw [8] (fun i W => ∃ k m : Nat, k ≤ 8 ∧ i = .int .i64 k ∧ Hid (Sb [q] w0 W [(q, #[.int .i64 (m : Int)], 3)] []) ∧ Hid (m < 8192 ∧ seatsBad 0 T = seatsBad m (T.drop k))) (fun i _ => 8 - (intOf i).toNat)
  case atStart => exact ⟨0, 0, Nat.zero_le _, rfl, HH, Lib.hid ⟨by decide, rfl⟩⟩
  case round =>
    clear HH
    obtain ⟨k, m, hk, rfl, HG, HA⟩ := hrel
    by_cases hlt : k < 8
    · obtain ⟨s, hs⟩ : ∃ s, T[k]? = some s := ⟨T[k]'(by rw [H8.out]; exact hlt), List.getElem?_eq_getElem _⟩
      have hd : T.drop k = s :: T.drop (k + 1) := by
        obtain ⟨hk', e⟩ := List.getElem?_eq_some_iff.1 hs
        rw [← e, List.drop_eq_getElem_cons hk']
      have HD := Lib.hid (HA.out.2.trans (by rw [hd]))
      have c : ∀ j v, (seatL s)[j]? = some v → wr.cell? ⟨b, 1 + k * 2 + j, none⟩ = some v := fun j v hv => by
        rw [World.cell?_of_block (w := w0) (HG.out.fr b HBb.out (by have := HQ.out; simpa using this)), Nat.add_assoc]
        exact H.out _ v (seatsL_at T k j s v hs hv)
      have c0 : wr.cell? ⟨b, 1 + k * 2, none⟩ = some (.int .i64 s.peer) := c 0 _ rfl
      have c1 : wr.cell? ⟨b, 1 + k * 2 + 1, none⟩ = some (.int .i64 s.gen) := c 1 _ rfl
      have Hm := Lib.hid HA.out.1
      have Hst : Hid (Sb [q] wr wr [(q, #[.int .i64 (m : Int)], 3)] []) := Lib.hid ⟨rfl, rfl, rfl, Nat.le_refl _, fun _ _ _ => rfl, HG.out.holds, fun p hp => by rw [List.mem_singleton] at hp; subst hp; exact .inr (List.mem_cons_self ..), by simp, fun _ h => by simp at h, fun _ h => by simp at h, fun _ h => by simp at h, by simp⟩
      clear c hd hs HA
      cases q1 : seatBad s
      · have HC := Lib.hid (seat_ok s m q wr q1 Hm.out Hst.out)
        have Hor : Hid (m ||| bitOf s.peer < 8192) := Lib.hid (or_lt _ Hm.out (by
          unfold seatBad at q1
          simp only [Bool.or_eq_false_iff, decide_eq_false_iff_not] at q1
          omega))
        go_wp2_with fail
        refine HC.out.mono ?_; rintro e w' ⟨rfl, hg⟩
        have HG' := Lib.hid (HG.out.turn 0 q _ _ 3 rfl hg.os hg.tape hg.output hg.size (hg.holds _ (List.mem_cons_self ..)) (fun j hj hne => hg.fr j hj (by simpa using hne)))
        clear hg HG HC
        cases q2 : stepBad m s
        · go_wp2_with fail
          exact ⟨⟨k + 1, _, hlt, rfl, HG', Lib.hid ⟨Hor.out, HD.out.trans (by simp [seatsBad, q1, q2])⟩⟩, by simp only [intOf]; omega⟩
        · go_wp2_with fail
          go_ret
          exact ⟨⟨(k : Int), rfl, by rw [HD.out, seatsBad, q1, q2]; simp⟩, _, HG'.out⟩
      · have HC := Lib.hid (seat_bad s m q wr q1 Hst.out)
        go_wp2_with fail
        refine HC.out.mono ?_; rintro e w' ⟨rfl, hg⟩
        have HG' := Lib.hid (HG.out.turn 0 q _ _ 3 rfl hg.os hg.tape hg.output hg.size (hg.holds _ (List.mem_cons_self ..)) (fun j hj hne => hg.fr j hj (by simpa using hne)))
        clear hg HG HC
        go_wp2_with fail
        go_ret
        exact ⟨⟨(k : Int), rfl, by rw [HD.out, seatsBad, q1]; simp⟩, _, HG'.out⟩
    · obtain rfl : k = 8 := by omega
      go_wp2_with fail
      go_ret
      refine ⟨⟨-1, rfl, ?_⟩, _, HG.out⟩
      rw [HA.out.2, ← H8.out, List.drop_length]
      rfl
theorem containsSeat_b (b q : Nat) (T : List Seat) (w0 : World) (h8 : T.length = 8) (hbq : b ≠ q) (hb : b < w0.heap.size) (h : ∀ j v, (seatsL T)[j]? = some v → w0.cell? ⟨b, 1 + j, none⟩ = some v) (H0 : Sb [q] w0 w0 [(q, #[.int .i64 0], 3)] []) :
    Calls Try.prog 48 #[.slice (some ⟨b, 1, none⟩) 8 8, .func (.func 49) #[] #[.pointer (some ⟨q, 0, none⟩)]] w0 fun e w' => e = .returned (.bool (seatsBad 0 T)) ∧ ∃ c, Sb [q] w0 w' [(q, c, 3)] [] := by
  have H := Lib.hid (indexSeat_b b q T w0 h8 hbq hb h H0)
  clear h h8 hb H0 hbq
  go_enter Try.func48, Try.ntmps48
  go_wp2_with fail
  refine H.out.mono ?_; rintro e w' ⟨⟨r, rfl, hr⟩, c, hS⟩
  have HS := Lib.hid hS
  have HR := Lib.hid hr
  clear hS hr H
  go_wp2_with fail
  go_ret
  exact ⟨by rw [← HR.out]; rfl, c, HS.out⟩
def rosterC (ver : Int) (T : List Seat) : Array Value := (Value.int .i64 ver :: seatsL T).toArray
def mayR (ver : Int) (T : List Seat) : Bool := decide (0 ≤ ver) && (decide (ver ≤ 1073741824) && !seatsBad 0 T)
theorem mayR_b (ver : Int) (T : List Seat) (w0 : World) (h8 : T.length = 8) :
    Calls Try.prog 31 #[.agg (rosterC ver T)] w0 fun e w' => e = .returned (.bool (mayR ver T)) ∧ Below w0.heap.size w0 w' := by
  have H := Sb.start w0
  have H8 := Lib.hid h8
  clear h8
  have hmf : ∀ (fn : Fn) (first cap : Array Value) (w : World), (Instr.makeFunc fn first cap).run Try.prog w = .ok (.func fn first cap) w := fun _ _ _ _ => rfl
  have HS : Hid (∀ j v, (seatsL T)[j]? = some v → (rosterC ver T)[1 + j]? = some v) := Lib.hid (fun j v h => by unfold rosterC; rw [List.getElem?_toArray, Nat.add_comm, List.getElem?_cons_succ]; exact h)
  have H0 : Hid ((rosterC ver T)[0]? = some (.int .i64 ver)) := Lib.hid rfl
  unfold mayR
  generalize rosterC ver T = rc at *
  by_cases h0 : 0 ≤ ver
  · by_cases h1 : ver ≤ 1073741824
    · go_enter Try.func31, Try.ntmps31
      go_wp2_with (first | (refine wb_box H rfl 38 _ rfl rc rfl ?_; clear H; intro b1 w H) | (refine wb_alloc H rfl 3 rfl _ Try.zeroValue3 ?_; clear H; intro b3 w H) | (refine wb_put H rfl 0 3 _ _ rfl _ 0 rfl _ _ rfl (.int .i64 0) rfl 1 info3 rfl (Nat.le_of_ble_eq_true rfl) rfl _ rfl ?_; clear H; intro w H) | (refine wb_cell H rfl 1 3 _ rfl _ 0 rfl _ _ rfl Try.isAgg3 (.int .i64 ver) H0.out ?_))
      replace H : Sb [] w0 w [(b3, #[.int .i64 0], 3), (b1, rc, 38)] [] := H
      have hne : b1 ≠ b3 := by
        have := H.nd
        simp at this
        exact fun e => this e.symm
      refine (containsSeat_b b1 b3 T w H8.out hne (H.lt _ (List.mem_cons_of_mem _ (List.mem_cons_self ..))) (fun j v hv => (cell_of_row w b1 (1 + j) _ 38 (0, 0) (H.holds _ (List.mem_cons_of_mem _ (List.mem_cons_self ..)))).trans (HS.out j v hv)) ⟨rfl, rfl, rfl, Nat.le_refl _, fun _ _ _ => rfl, fun p hp => H.holds p (by rw [List.mem_singleton] at hp; subst hp; exact List.mem_cons_self ..), fun p hp => by rw [List.mem_singleton] at hp; subst hp; exact .inr (List.mem_cons_self ..), by simp, fun _ h => by simp at h, fun _ h => by simp at h, fun _ h => by simp at h, by simp⟩).mono ?_
      rintro e w' ⟨rfl, c, hg⟩
      have HB := Lib.hid (H.turn 0 b3 _ _ 3 rfl hg.os hg.tape hg.output hg.size (hg.holds _ (List.mem_cons_self ..)) (fun j hj hne => hg.fr j hj (by simpa using hne))).below
      clear hg H
      go_wp2_with fail
      go_ret
      exact ⟨by simp [h0, h1], HB.out⟩
    · have h1' : 1073741824 < ver := by omega
      go_enter Try.func31, Try.ntmps31
      go_wp2_with (first | (refine wb_box H rfl 38 _ rfl rc rfl ?_; clear H; intro b1 w H) | (refine wb_alloc H rfl 3 rfl _ Try.zeroValue3 ?_; clear H; intro b3 w H) | (refine wb_put H rfl 0 3 _ _ rfl _ 0 rfl _ _ rfl (.int .i64 0) rfl 1 info3 rfl (Nat.le_of_ble_eq_true rfl) rfl _ rfl ?_; clear H; intro w H) | (refine wb_cell H rfl 1 3 _ rfl _ 0 rfl _ _ rfl Try.isAgg3 (.int .i64 ver) H0.out ?_))
      go_ret
      exact ⟨by simp <;> omega, H.below⟩
  · have h0' : ver < 0 := by omega
    go_enter Try.func31, Try.ntmps31
    go_wp2_with (first | (refine wb_box H rfl 38 _ rfl rc rfl ?_; clear H; intro b1 w H) | (refine wb_alloc H rfl 3 rfl _ Try.zeroValue3 ?_; clear H; intro b3 w H) | (refine wb_put H rfl 0 3 _ _ rfl _ 0 rfl _ _ rfl (.int .i64 0) rfl 1 info3 rfl (Nat.le_of_ble_eq_true rfl) rfl _ rfl ?_; clear H; intro w H) | (refine wb_cell H rfl 1 3 _ rfl _ 0 rfl _ _ rfl Try.isAgg3 (.int .i64 ver) H0.out ?_))
    go_ret
    exact ⟨by simp <;> omega, H.below⟩
end Go.Proofs.Ytdopfonebpklkaa.game
