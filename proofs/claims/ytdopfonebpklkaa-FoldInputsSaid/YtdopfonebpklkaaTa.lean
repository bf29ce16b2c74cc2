/- package roster: Of, seat, Take, Give, Apply. -/
import Derived.Test.YtdopfonebpklkaaFo
import Derived.Test.YtdopfonebpklkaaSf
import Derived.Deep.DeepCutAuto
namespace Go.Proofs.Ytdopfonebpklkaa.game
open Go.ChangeShapes Go.WideShapes Go.ChangeAt Go.RowKit dice
set_option maxRecDepth 100000

def slotI (T : List Seat) (p : Int) : Int := match T.findIdx? (fun q => q.peer == p) with
  | some i => (i : Int)
  | none => -1
theorem slotI_neg (T : List Seat) (p : Int) : slotI T p < 0 ↔ T.any (fun q => q.peer == p) = false := by
  unfold slotI
  cases h : T.findIdx? (fun q => q.peer == p) with
  | some i =>
    simp only
    constructor
    · intro hi; omega
    · intro h'
      obtain ⟨hi, h1, _⟩ := List.findIdx?_eq_some_iff_getElem.1 h
      rw [List.any_eq_false] at h'
      exact absurd h1 (by simpa using h' _ (List.getElem_mem hi))
  | none =>
    simp only
    refine ⟨fun _ => ?_, fun _ => by decide⟩
    rw [List.any_eq_false]
    intro q hq
    have := List.findIdx?_eq_none_iff.1 h q hq
    simpa using this
theorem isSeat_b (p g x : Int) (q : Nat) (w0 : World) (hq : w0.cell? ⟨q, 0, none⟩ = some (.int .i64 x)) (hlt : q < w0.heap.size) :
    Calls Try.prog 77 #[.agg #[.int .i64 p, .int .i64 g], .pointer (some ⟨q, 0, none⟩)] w0 fun e w' => e = .returned (.bool (decide (p = x))) ∧ Below w0.heap.size w0 w' := by
  have H := Sb.start w0
  have HQ := Lib.hid hq
  have HL := Lib.hid hlt
  clear hq hlt
  go_enter Try.func77, Try.ntmps77
  go_upto_region 1 with (refine wb_box H rfl 35 _ rfl #[.int .i64 p, .int .i64 g] rfl ?_; clear H; intro b2 w H)
  have c0 : w.cell? ⟨b2, 0, none⟩ = some (.int .i64 p) := cell_of_row w b2 0 _ 35 (0, 0) (H.holds _ (List.mem_cons_self ..))
  have c1 : w.cell? ⟨q, 0, none⟩ = some (.int .i64 x) := (World.cell?_of_block (a := ⟨q, 0, none⟩) (H.fr q HL.out (by simp))).trans HQ.out
  go_wp2_with fail
  go_ret
  exact ⟨by first | rfl | simp, H.below⟩
theorem indexOf_b (b q : Nat) (T : List Seat) (x : Int) (w0 : World) (h8 : T.length = 8) (hb : b < w0.heap.size) (hq : q < w0.heap.size) (h : ∀ j v, (seatsL T)[j]? = some v → w0.cell? ⟨b, 1 + j, none⟩ = some v) (hx : w0.cell? ⟨q, 0, none⟩ = some (.int .i64 x)) :
    Calls Try.prog 67 #[.slice (some ⟨b, 1, none⟩) 8 8, .func (.func 77) #[] #[.pointer (some ⟨q, 0, none⟩)]] w0 fun e w' => e = .returned (.int .i64 (slotI T x)) ∧ Below w0.heap.size w0 w' := by
  have H := Lib.hid h
  have H8 := Lib.hid h8
  have HBb := Lib.hid hb
  have HQ := Lib.hid hq
  have HX := Lib.hid hx
  clear h h8 hb hq hx
  go_enter Try.func67, Try.ntmps67
  go_wp2_with fail
  go_loopw [8] (fun i W => ∃ k : Nat, k ≤ 8 ∧ i = .int .i64 k ∧ Hid (Below w0.heap.size w0 W) ∧ Hid (∀ (j : Nat) (s : Seat), j < k → T[j]? = some s → s.peer ≠ x)) (fun i _ => 8 - (intOf i).toNat)
  case atStart => exact ⟨0, Nat.zero_le _, rfl, Lib.hid (Below.refl _ _), Lib.hid (fun j s hj => absurd hj (by omega))⟩
  case round =>
    obtain ⟨k, hk, rfl, HG, HA⟩ := hrel
    by_cases hlt : k < 8
    · obtain ⟨s, hs⟩ : ∃ s, T[k]? = some s := ⟨T[k]'(by rw [H8.out]; exact hlt), List.getElem?_eq_getElem _⟩
      have c : ∀ j v, (seatL s)[j]? = some v → wr.cell? ⟨b, 1 + k * 2 + j, none⟩ = some v := fun j v hv => by
        rw [HG.out.cell (p := ⟨b, 1 + k * 2 + j, none⟩) HBb.out, Nat.add_assoc]
        exact H.out _ v (seatsL_at T k j s v hs hv)
      have c0 : wr.cell? ⟨b, 1 + k * 2, none⟩ = some (.int .i64 s.peer) := c 0 _ rfl
      have c1 : wr.cell? ⟨b, 1 + k * 2 + 1, none⟩ = some (.int .i64 s.gen) := c 1 _ rfl
      have HC := Lib.hid (isSeat_b s.peer s.gen x q wr ((HG.out.cell (p := ⟨q, 0, none⟩) HQ.out).trans HX.out) (Nat.lt_of_lt_of_le HQ.out HG.out.size))
      have Hs := Lib.hid hs
      clear c hs
      go_wp2_with fail
      refine HC.out.mono ?_; rintro e w' ⟨rfl, hg⟩
      have HG' := Lib.hid (HG.out.trans (hg.mono HG.out.size))
      clear hg HG HC c0 c1
      by_cases hp : s.peer = x
      · rw [decide_eq_true hp]
        go_wp2_with fail
        go_ret
        refine ⟨?_, HG'.out⟩
        have : T.findIdx? (fun q => q.peer == x) = some k := by
          obtain ⟨hk', e⟩ := List.getElem?_eq_some_iff.1 Hs.out
          exact List.findIdx?_eq_some_iff_getElem.2 ⟨hk', by rw [e]; simpa using hp, fun j hj => by simpa using HA.out j _ hj (List.getElem?_eq_getElem _)⟩
        have e : slotI T x = (k : Int) := by simp only [slotI, this]
        rw [e]
        rfl
      · rw [decide_eq_false hp]
        go_wp2_with fail
        exact ⟨⟨k + 1, hlt, rfl, HG', Lib.hid (fun j s' hj hs' => by
          by_cases e : j = k
          · subst e
            rw [Hs.out] at hs'
            injection hs' with hs'
            rw [← hs']; exact hp
          · exact HA.out j s' (by omega) hs')⟩, by simp only [intOf]; omega⟩
    · obtain rfl : k = 8 := by omega
      go_wp2_with fail
      go_ret
      refine ⟨?_, HG.out⟩
      have : T.findIdx? (fun q => q.peer == x) = none := by
        rw [List.findIdx?_eq_none_iff]
        intro q hq
        obtain ⟨j, hj⟩ := List.mem_iff_getElem?.1 hq
        have hjl := (List.getElem?_eq_some_iff.1 hj).1
        simpa using HA.out j q (by have := H8.out; omega) hj
      have e : slotI T x = -1 := by simp only [slotI, this]
      rw [e]
      rfl
def ofI (ver : Int) (T : List Seat) (p : Int) : Int := if 0 ≤ p ∧ mayR ver T = true then slotI T p else -1
theorem rc_at0 {ver : Int} {T : List Seat} : (rosterC ver T)[0]? = some (.int .i64 ver) := rfl
theorem rc_seats {ver : Int} {T : List Seat} : ∀ j v, (seatsL T)[j]? = some v → (rosterC ver T)[1 + j]? = some v := fun j v h => by
  unfold rosterC; rw [List.getElem?_toArray, Nat.add_comm, List.getElem?_cons_succ]; exact h
theorem rc_seat {ver : Int} {T : List Seat} (k j : Nat) (q : Seat) (v : Value) (hq : T[k]? = some q) (hv : (seatL q)[j]? = some v) : (rosterC ver T)[1 + k * 2 + j]? = some v := by
  rw [Nat.add_assoc]
  exact rc_seats _ v (seatsL_at T k j q v hq hv)
theorem of_b (ver : Int) (T : List Seat) (p : Int) (w0 : World) (h8 : T.length = 8) :
    Calls Try.prog 68 #[.agg (rosterC ver T), .int .i64 p] w0 fun e w' => e = .returned (.int .i64 (ofI ver T p)) ∧ Below w0.heap.size w0 w' := by
  have H := Sb.start w0
  have H8 := Lib.hid h8
  have HM := Lib.hid (fun w => mayR_b ver T w h8)
  have HS := Lib.hid (rc_seats (ver := ver) (T := T))
  have Hz := Lib.hid (rc_size (ver := ver) h8)
  have hmf : ∀ (fn : Fn) (first cap : Array Value) (w : World), (Instr.makeFunc fn first cap).run Try.prog w = .ok (.func fn first cap) w := fun _ _ _ _ => rfl
  clear h8
  generalize rosterC ver T = rc at *
  by_cases h0 : 0 ≤ p
  rotate_left
  · have q0 : decide (p < 0) = true := decide_eq_true (by omega)
    go_enter Try.func68, Try.ntmps68
    go_wp2_with (first | (refine wb_box H rfl 38 _ rfl rc rfl ?_; clear H; intro b1 w H) | (refine wb_box H rfl 3 _ rfl #[.int .i64 p] rfl ?_; clear H; intro b2 w H) | (refine wb_cell H rfl 0 3 _ rfl _ 0 rfl _ _ rfl Try.isAgg3 (.int .i64 p) rfl ?_))
    go_ret
    exact ⟨by unfold ofI; rw [if_neg (by omega)]; rfl, H.below⟩
  have q0 : decide (p < 0) = false := decide_eq_false (by omega)
  cases hm : mayR ver T with
  | false =>
    rw [hm] at HM
    go_enter Try.func68, Try.ntmps68
    go_wp2_with (first | (refine wb_box H rfl 38 _ rfl rc rfl ?_; clear H; intro b1 w H) | (refine wb_box H rfl 3 _ rfl #[.int .i64 p] rfl ?_; clear H; intro b2 w H) | (refine wb_cell H rfl 0 3 _ rfl _ 0 rfl _ _ rfl Try.isAgg3 (.int .i64 p) rfl ?_) | (refine wb_whole H rfl 1 38 _ rfl _ rfl rc rfl _ Try.underlying38 rfl 17 info33 Hz.out ?_))
    refine (HM.out _).mono ?_; rintro e w' ⟨rfl, hb⟩
    replace H := H.call hb
    clear hb
    go_wp2_with fail
    go_ret
    exact ⟨by unfold ofI; rw [if_neg (by rw [hm]; simp)]; rfl, H.below⟩
  | true =>
    rw [hm] at HM
    go_enter Try.func68, Try.ntmps68
    go_wp2_with (first | (refine wb_box H rfl 38 _ rfl rc rfl ?_; clear H; intro b1 w H) | (refine wb_box H rfl 3 _ rfl #[.int .i64 p] rfl ?_; clear H; intro b2 w H) | (refine wb_cell H rfl 0 3 _ rfl _ 0 rfl _ _ rfl Try.isAgg3 (.int .i64 p) rfl ?_) | (refine wb_whole H rfl 1 38 _ rfl _ rfl rc rfl _ Try.underlying38 rfl 17 info33 Hz.out ?_))
    refine (HM.out _).mono ?_; rintro e w' ⟨rfl, hb⟩
    replace H : Sb [] w0 w' [(b2, #[.int .i64 p], 3), (b1, rc, 38)] [] := H.call hb
    clear hb
    go_wp2_with fail
    refine (indexOf_b b1 b2 T p w' H8.out (H.lt _ (List.mem_cons_of_mem _ (List.mem_cons_self ..))) (H.lt _ (List.mem_cons_self ..)) (fun j v hv => (cell_of_row w' b1 (1 + j) _ 38 (0, 0) (H.holds _ (List.mem_cons_of_mem _ (List.mem_cons_self ..)))).trans (HS.out j v hv)) (cell_of_row w' b2 0 _ 3 (0, 0) (H.holds _ (List.mem_cons_self ..)))).mono ?_
    rintro e w2 ⟨rfl, hb⟩
    replace H := H.call hb
    clear hb
    go_wp2_with fail
    go_ret
    exact ⟨by unfold ofI; rw [if_pos ⟨h0, hm⟩]; rfl, H.below⟩
def hasSeat (ver : Int) (T : List Seat) (k : Int) (had : Bool) : Bool :=
  decide (mayR ver T = true ∧ ver < 1073741824 ∧ 0 ≤ k ∧ k < 8) && match T[k.toNat]? with
    | some q => decide (0 ≤ q.peer) == had
    | none => false
theorem hasSeat_no {ver : Int} {T : List Seat} {k : Int} {had : Bool} (h : ¬ (mayR ver T = true ∧ ver < 1073741824 ∧ 0 ≤ k ∧ k < 8)) : hasSeat ver T k had = false := by
  unfold hasSeat
  rw [decide_eq_false h, Bool.false_and]
theorem hasSeat_yes {ver : Int} {T : List Seat} {n : Nat} {had : Bool} {q : Seat} (h : mayR ver T = true) (h1 : ver < 1073741824) (h3 : n < 8) (hq : T[n]? = some q) : hasSeat ver T n had = (decide (0 ≤ q.peer) == had) := by
  unfold hasSeat
  rw [decide_eq_true ⟨h, h1, by omega, by omega⟩, Int.toNat_natCast, hq, Bool.true_and]
theorem seat_b (ver : Int) (T : List Seat) (k : Int) (had : Bool) (w0 : World) (h8 : T.length = 8) :
    Calls Try.prog 52 #[.agg (rosterC ver T), .int .i64 k, .bool had] w0 fun e w' => e = .returned (.bool (hasSeat ver T k had)) ∧ Below w0.heap.size w0 w' := by
  have H := Sb.start w0
  have H8 := Lib.hid h8
  have HM := Lib.hid (fun w => mayR_b ver T w h8)
  have HS := Lib.hid (fun k q h => rc_seat (ver := ver) (T := T) k 0 q _ h rfl)
  have H0 := Lib.hid (rc_at0 (ver := ver) (T := T))
  have Hz := Lib.hid (rc_size (ver := ver) h8)
  clear h8
  generalize rosterC ver T = rc at *
  cases hm : mayR ver T with
  | false =>
    rw [hm] at HM
    go_enter Try.func52, Try.ntmps52
    go_wp2_with (first | (refine wb_box H rfl 38 _ rfl rc rfl ?_; clear H; intro b1 w H) | (refine wb_whole H rfl 0 38 _ rfl _ rfl rc rfl _ Try.underlying38 rfl 17 info33 Hz.out ?_))
    refine (HM.out _).mono ?_; rintro e w' ⟨rfl, hb⟩
    replace H := H.call hb
    clear hb
    go_wp2_with fail
    go_ret
    exact ⟨by rw [hasSeat_no (by rw [hm]; simp)]; rfl, H.below⟩
  | true =>
    rw [hm] at HM
    go_enter Try.func52, Try.ntmps52
    go_wp2_with (first | (refine wb_box H rfl 38 _ rfl rc rfl ?_; clear H; intro b1 w H) | (refine wb_whole H rfl 0 38 _ rfl _ rfl rc rfl _ Try.underlying38 rfl 17 info33 Hz.out ?_))
    refine (HM.out _).mono ?_; rintro e w' ⟨rfl, hb⟩
    replace H := H.call hb
    have c0 : w'.cell? ⟨b1, 0, none⟩ = some (.int .i64 ver) := (cell_of_row w' b1 0 _ 38 (0, 0) (H.holds _ (List.mem_cons_self ..))).trans H0.out
    have Hm := Lib.hid hm
    clear hb hm HM
    by_cases h1 : ver < 1073741824
    rotate_left
    · have q1 : decide (ver < 1073741824) = false := decide_eq_false h1
      go_wp2_with fail
      go_ret
      exact ⟨by rw [hasSeat_no (fun h => by omega)]; rfl, H.below⟩
    have q1 : decide (ver < 1073741824) = true := decide_eq_true h1
    by_cases h2 : 0 ≤ k
    rotate_left
    · have q2 : decide (0 ≤ k) = false := decide_eq_false h2
      go_wp2_with fail
      go_ret
      exact ⟨by rw [hasSeat_no (fun h => by omega)]; rfl, H.below⟩
    have q2 : decide (0 ≤ k) = true := decide_eq_true h2
    by_cases h3 : k < 8
    rotate_left
    · have q3 : decide (k < 8) = false := decide_eq_false h3
      go_wp2_with fail
      go_ret
      exact ⟨by rw [hasSeat_no (fun h => by omega)]; rfl, H.below⟩
    have q3 : decide (k < 8) = true := decide_eq_true h3
    obtain ⟨n, rfl⟩ := Int.eq_ofNat_of_zero_le h2
    have hn8 : n < 8 := by omega
    obtain ⟨q, hq⟩ : ∃ q, T[n]? = some q := ⟨T[n]'(by rw [H8.out]; exact hn8), List.getElem?_eq_getElem _⟩
    have c1 : w'.cell? ⟨b1, 1 + n * 2, none⟩ = some (.int .i64 q.peer) := (cell_of_row w' b1 _ _ 38 (0, 0) (H.holds _ (List.mem_cons_self ..))).trans (HS.out n q hq)
    have Hq := Lib.hid hq
    clear hq
    go_wp2_with fail
    go_ret
    exact ⟨by rw [hasSeat_yes Hm.out h1 hn8 Hq.out]; rfl, H.below⟩
end Go.Proofs.Ytdopfonebpklkaa.game
