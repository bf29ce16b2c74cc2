/- image.May over any state, as a truth. The document's answer: which rosters may be, over any roster, as a truth. A region that draws its order: more steps (facts that end at different operations; an operation that makes memory). -/
import Derived.Test.YtdopfonebpklkaaGreatFoldRuns05
import Derived.BigQuiet
import Derived.Test.YtdopfonebpklkaaGreatFoldRuns02
import Derived.Test.YtdopfonebpklkaaGreatFoldRuns01
import Derived.Below
namespace Go.Proofs.YtdopfonebpklkaaGreat.game
open Go.ChangeShapes Go.WideShapes Go.ChangeAt Go.RowKit dice
set_option maxRecDepth 100000

def stateL (s : Ste) (sl : Value) : List Value := .int .i64 s.g.fr :: .int .u64 s.g.d :: (shipsL s.g.S ++ (sl :: .int .i64 s.ver :: seatsL s.T))
def stateC (s : Ste) (sl : Value) : Array Value := (stateL s sl).toArray
section
variable {s : Ste} {sl : Value}
theorem sc_len (h8 : s.g.S.length = 8) (t8 : s.T.length = 8) : (stateL s sl).length = 76 := by
  simp [stateL, length_shipsL, length_seatsL, h8, t8]
theorem sc_size (h8 : s.g.S.length = 8) (t8 : s.T.length = 8) : (stateC s sl).size = 76 := by
  unfold stateC; rw [List.size_toArray]; exact sc_len h8 t8
theorem sc_fr : (stateC s sl)[0]? = some (.int .i64 s.g.fr) := rfl
theorem sc_d : (stateC s sl)[1]? = some (.int .u64 s.g.d) := rfl
theorem sc_ships (j : Nat) (v : Value) (h : (shipsL s.g.S)[j]? = some v) : (stateC s sl)[2 + j]? = some v := by
  unfold stateC stateL
  have hl := (List.getElem?_eq_some_iff.1 h).1
  rw [List.getElem?_toArray, show 2 + j = j + 1 + 1 by omega, List.getElem?_cons_succ, List.getElem?_cons_succ, List.getElem?_append_left hl]
  exact h
theorem sc_tail (h8 : s.g.S.length = 8) (j : Nat) : (stateC s sl)[58 + j]? = (sl :: Value.int .i64 s.ver :: seatsL s.T)[j]? := by
  unfold stateC stateL
  rw [List.getElem?_toArray, show 58 + j = 56 + j + 1 + 1 by omega, List.getElem?_cons_succ, List.getElem?_cons_succ, List.getElem?_append_right (by rw [length_shipsL, h8]; omega), length_shipsL, h8, show 56 + j - 8 * 7 = j by omega]
theorem sc_shots (h8 : s.g.S.length = 8) : (stateC s sl)[58]? = some sl := sc_tail h8 0
theorem sc_ver (h8 : s.g.S.length = 8) : (stateC s sl)[59]? = some (.int .i64 s.ver) := sc_tail h8 1
theorem sc_seats (h8 : s.g.S.length = 8) (j : Nat) (v : Value) (h : (seatsL s.T)[j]? = some v) : (stateC s sl)[60 + j]? = some v := by
  rw [show 60 + j = 58 + (j + 2) by omega, sc_tail h8]
  exact h
theorem sc_ship (k j : Nat) (t : Shp) (v : Value) (ht : s.g.S[k]? = some t) (hv : (shipL t)[j]? = some v) : (stateC s sl)[2 + k * 7 + j]? = some v := by
  rw [Nat.add_assoc]
  exact sc_ships _ v (shipsL_at _ k j t v ht hv)
theorem sc_seat (h8 : s.g.S.length = 8) (k j : Nat) (q : Seat) (v : Value) (hq : s.T[k]? = some q) (hv : (seatL q)[j]? = some v) : (stateC s sl)[60 + k * 2 + j]? = some v := by
  rw [Nat.add_assoc]
  exact sc_seats h8 _ v (seatsL_at _ k j q v hq hv)
theorem sc_game (j : Nat) (v : Value) (h : (gameC s.g.fr s.g.d s.g.S sl)[j]? = some v) : (stateC s sl)[j]? = some v := by
  unfold gameC at h
  unfold stateC stateL
  rw [List.getElem?_toArray] at h ⊢
  match j, h with
  | 0, h => exact h
  | 1, h => exact h
  | j + 2, h =>
    rw [List.getElem?_cons_succ, List.getElem?_cons_succ] at h ⊢
    by_cases e : j < (shipsL s.g.S).length
    · rw [List.getElem?_append_left e] at h ⊢
      exact h
    · rw [List.getElem?_append_right (by omega)] at h ⊢
      match hj : j - (shipsL s.g.S).length, h with
      | 0, h => exact h
      | k + 1, h => simp at h
theorem sc_roster (h8 : s.g.S.length = 8) (j : Nat) (v : Value) (h : (rosterC s.ver s.T)[j]? = some v) : (stateC s sl)[59 + j]? = some v := by
  rw [show 59 + j = 58 + (j + 1) by omega, sc_tail h8]
  unfold rosterC at h
  rw [List.getElem?_toArray] at h
  exact h
end
theorem ships_part : ∀ (S : List Shp) (k : Nat) (t : Shp), S[k]? = some t → ((shipsL S).drop (k * 7)).take 7 = shipL t
  | [], k, t, h => by simp at h
  | s :: S, 0, t, h => by
    simp at h
    subst h
    unfold shipsL
    rw [List.flatMap_cons, Nat.zero_mul, List.drop_zero]
    rfl
  | s :: S, k + 1, t, h => by
    have ih := ships_part S k t (by simpa using h)
    unfold shipsL at *
    rw [List.flatMap_cons, List.drop_append, List.drop_of_length_le (show (shipL s).length ≤ (k + 1) * 7 by simp [shipL]; omega), List.nil_append, show (k + 1) * 7 - (shipL s).length = k * 7 by simp [shipL]; omega]
    exact ih
theorem ships_extract {S : List Shp} {k : Nat} {t : Shp} (h : S[k]? = some t) : (shipsL S).toArray.extract (k * 7) (k * 7 + 7) = (shipL t).toArray := by
  rw [List.extract_toArray, List.extract_eq_take_drop, show k * 7 + 7 - k * 7 = 7 by omega, ships_part S k t h]
theorem seats_part : ∀ (S : List Seat) (k : Nat) (t : Seat), S[k]? = some t → ((seatsL S).drop (k * 2)).take 2 = seatL t
  | [], k, t, h => by simp at h
  | s :: S, 0, t, h => by
    simp at h
    subst h
    unfold seatsL
    rw [List.flatMap_cons, Nat.zero_mul, List.drop_zero]
    rfl
  | s :: S, k + 1, t, h => by
    have ih := seats_part S k t (by simpa using h)
    unfold seatsL at *
    rw [List.flatMap_cons, List.drop_append, List.drop_of_length_le (show (seatL s).length ≤ (k + 1) * 2 by simp [seatL]; omega), List.nil_append, show (k + 1) * 2 - (seatL s).length = k * 2 by simp [seatL]; omega]
    exact ih
theorem seats_extract {S : List Seat} {k : Nat} {t : Seat} (h : S[k]? = some t) : (seatsL S).toArray.extract (k * 2) (k * 2 + 2) = (seatL t).toArray := by
  rw [List.extract_toArray, List.extract_eq_take_drop, show k * 2 + 2 - k * 2 = 2 by omega, seats_part S k t h]
section
variable {ops : Array Oper} {rest : List Oper} {op : Oper} {a : Act} {Q : Exit → Act → World → Prop} {w0 w : World} {Hs : List Nat} {l : List Blk} {R : List RowS}
theorem wl_index (hw : Region.wanted op (yielded ops a.tmps) = true) (ty e : TypeId) (n : Nat) (x y : Operand) (ho : op.op = .index ty x y) (hu : Tryz.prog.underlying ty = some (.array n e)) (he : ∀ w, (isAgg e).run Tryz.prog w = .ok true w) (sz : Nat) (hi : (Tryz.prog.info? e).map (·.size) = some sz)
    (c : Array Value) (hx : a.eval x = .agg c) (k : Nat) (kk : IntKind) (hy : a.eval y = .int kk k) (hk : k < n) (vs : Array Value) (hvs : c.extract (k * sz) (k * sz + sz) = vs)
    (h : wpList Tryz.prog ops Q rest (a.put op.dst (.agg vs)) w) : wpList Tryz.prog ops Q (op :: rest) a w := by
  refine BigFrame.wpList_want hw fun _ hK => ?_
  have hs : (sizeOf e).run Tryz.prog w = .ok sz w := by
    cases hq : Tryz.prog.info? e with
    | none => simp [hq] at hi
    | some i =>
      have : i.size = sz := by simpa [hq] using hi
      simp [sizeOf, typeInfo, hq, this]
  unfold Oper.wp execOp
  have hr : (Instr.index ty (.agg c) (.int kk k)).run Tryz.prog w = .ok (.agg vs) w := by
    have hk' : (0 : Int) ≤ (k : Int) ∧ (k : Int) < (n : Int) := ⟨by omega, by omega⟩
    unfold Instr.index
    simp only [asIntOf, Sem.run_bind, Sem.run_pure, Result.andThen_ok, run_underlying hu, hk', and_self, if_true, hs, part, he, Int.toNat_natCast, hvs]
  simp only [ho, hx, hy, Sem.run_bind, hr, Result.andThen_ok, Sem.run_pure]
  exact hK _ _ h
theorem wb_partA (H : Sb Hs w0 w l R) (hw : Region.wanted op (yielded ops a.tmps) = true) (i : Nat) (ty : TypeId) (x : Operand) (ho : op.op = .load ty x) (g o : Nat) (hx : a.eval x = .pointer (some ⟨g, o, none⟩)) (c : Array Value) (t : TypeId) (hl : l[i]? = some (g, c, t))
    (d : TypeDesc) (hu : Tryz.prog.underlying ty = some d) (hd : d.isRow = true) (n : Nat) (hi : (Tryz.prog.info? ty).map (·.size) = some n) (vs : Array Value) (hvs : ∀ j v, vs[j]? = some v → c[o + j]? = some v) (hn : vs.size = n)
    (h : wpList Tryz.prog ops Q rest (a.put op.dst (.agg vs)) w) : wpList Tryz.prog ops Q (op :: rest) a w :=
  wb_part H hw i ty x ho g o hx c t hl d hu hd n hi vs.toList (fun j v hv => hvs j v (by rw [← Array.getElem?_toList]; exact hv)) (by rw [Array.length_toList]; exact hn) (by rw [Array.toArray_toList]; exact h)
end
theorem info33 : (Tryz.prog.info? 33).map (·.size) = some 17 := by kernel_rfl
theorem info35 : (Tryz.prog.info? 35).map (·.size) = some 76 := by kernel_rfl
theorem info30 : (Tryz.prog.info? 30).map (·.size) = some 2 := by kernel_rfl
theorem info31 : (Tryz.prog.info? 31).map (·.size) = some 16 := by kernel_rfl
/-- Ships and seats go together. -/
def pairs (S : List Shp) (T : List Seat) : Bool := (S.zip T).all fun p => p.1.on == decide (0 ≤ p.2.peer)
def mayS (s : Ste) : Bool := s.g.may && mayR s.ver s.T && pairs s.g.S s.T
theorem rc_size {ver : Int} {T : List Seat} (t8 : T.length = 8) : (rosterC ver T).size = 17 := by
  simp [rosterC, length_seatsL, t8]
set_option maxHeartbeats 4000000 in
theorem mayS_b (s : Ste) (sl : Value) (w0 : World) (hg : s.g.wf) (t8 : s.T.length = 8) (hin : ShotsW w0 sl s.g.L) :
    Calls Tryz.prog 59 #[.agg (stateC s sl)] w0 fun e w' => e = .returned (.bool (mayS s)) ∧ Below w0.heap.size w0 w' := by
  have H := Sb.start w0
  have H8 := Lib.hid hg.s8
  have T8 := Lib.hid t8
  have HM := Lib.hid (fun w h => may_b s.g sl w hg h)
  have HR := Lib.hid (fun w => mayR_b s.ver s.T w t8)
  have HI := Lib.hid hin
  have HG := Lib.hid (fun j v h => sc_game (s := s) (sl := sl) j v h)
  have HO := Lib.hid (fun j v h => sc_roster (s := s) (sl := sl) hg.s8 j v h)
  have HS := Lib.hid (fun j v h => sc_ships (s := s) (sl := sl) j v h)
  have HQ := Lib.hid (fun k j q v h h' => sc_seat (s := s) (sl := sl) hg.s8 k j q v h h')
  have Hgs := Lib.hid (gc_size (fr := s.g.fr) (d := s.g.d) (sl := sl) hg.s8)
  have Hl := Lib.hid (show (shipsL s.g.S).length = 56 by rw [length_shipsL, hg.s8])
  have Hrs := Lib.hid (rc_size (ver := s.ver) t8)
  unfold mayS
  clear hg t8 hin
  generalize stateC s sl = cs at *
  obtain ⟨⟨fr, d, S, L⟩, ver, T⟩ := s
  dsimp only at *
  go_enter Tryz.func59, Tryz.ntmps59
  go_wp2_with (first | (refine wb_box H rfl 35 _ rfl cs rfl ?_; clear H; intro b1 w H) | (refine wb_partA H rfl 0 28 _ rfl _ 0 rfl _ _ rfl _ Tryz.underlying28 rfl 59 info28 (gameC fr d S sl) (fun j v h => by rw [Nat.zero_add]; exact HG.out j v h) Hgs.out ?_))
  refine (HM.out _ (HI.out.later H.below)).mono ?_; rintro e w' ⟨rfl, hb⟩
  replace H := H.call hb
  clear hb
  cases q1 : Gme.may ⟨fr, d, S, L⟩
  · go_wp2_with fail
    go_ret
    exact ⟨by rw [q1]; rfl, H.below⟩
  go_wp2_with (refine wb_partA H rfl 0 33 _ rfl _ 59 rfl _ _ rfl _ Tryz.underlying33 rfl 17 info33 (rosterC ver T) HO.out Hrs.out ?_)
  refine (HR.out _).mono ?_; rintro e w' ⟨rfl, hb⟩
  replace H := H.call hb
  clear hb
  cases q2 : mayR ver T
  · go_wp2_with fail
    go_ret
    exact ⟨by rw [q1, q2]; rfl, H.below⟩
  go_wp2_with (refine wb_part H rfl 0 25 _ rfl _ 2 rfl _ _ rfl _ Tryz.underlying25 rfl 56 info25 (shipsL S) HS.out Hl.out ?_)
  have H' := H
  clear H HI HM HR
  go_loopw [18] (fun i W => ∃ k : Nat, k ≤ 8 ∧ i = .int .i64 k ∧ Hid (Sb [] w0 W [(b1, cs, 35)] []) ∧ Hid (((S.zip T).take k).all (fun p => p.1.on == decide (0 ≤ p.2.peer)) = true)) (fun i _ => 8 - (intOf i).toNat)
  case atStart => exact ⟨0, Nat.zero_le _, rfl, Lib.hid H', Lib.hid (by simp)⟩
  case round =>
    clear H'
    obtain ⟨k, hk, rfl, HB, HA⟩ := hrel
    by_cases hlt : k < 8
    · obtain ⟨t, ht⟩ : ∃ t, S[k]? = some t := ⟨S[k]'(by rw [H8.out]; exact hlt), List.getElem?_eq_getElem _⟩
      obtain ⟨q, hq⟩ : ∃ q, T[k]? = some q := ⟨T[k]'(by rw [T8.out]; exact hlt), List.getElem?_eq_getElem _⟩
      have HZ : Hid ((S.zip T)[k]? = some (t, q)) := Lib.hid (by rw [List.getElem?_zip_eq_some]; exact ⟨ht, hq⟩)
      have HX := Lib.hid (ships_extract ht)
      have Hp : Hid (cs[60 + k * 2]? = some (.int .i64 q.peer)) := Lib.hid (HQ.out k 0 q _ hq rfl)
      have H := HB.out
      clear HB ht hq
      obtain ⟨o, x, y, vx, vy, cl, sc⟩ := t
      obtain ⟨p, g⟩ := q
      dsimp only at *
      go_wp2_with (first | (refine wl_index rfl 25 24 8 _ _ rfl Tryz.underlying25 Tryz.isAgg24 7 info24 (shipsL S).toArray rfl k _ rfl hlt _ HX.out ?_) | (refine wb_alloc H rfl 24 rfl _ Tryz.zeroValue24 ?_; clear H; intro b4 w H) | (refine wb_put H rfl 0 24 _ _ rfl _ 0 rfl _ _ rfl (.agg #[.bool o, .int .i32 x, .int .i32 y, .int .i32 vx, .int .i32 vy, .int .i64 cl, .int .i64 sc]) rfl 7 info24 rfl (Nat.le_of_ble_eq_true rfl) rfl #[.bool o, .int .i32 x, .int .i32 y, .int .i32 vx, .int .i32 vy, .int .i64 cl, .int .i64 sc] rfl ?_; clear H; intro w H))
      replace H : Sb [] w0 w [(b4, #[.bool o, .int .i32 x, .int .i32 y, .int .i32 vx, .int .i32 vy, .int .i64 cl, .int .i64 sc], 24), (b1, cs, 35)] [] := H
      have c4 : w.cell? ⟨b4, 0, none⟩ = some (.bool o) := cell_of_row w b4 0 _ 24 (0, 0) (H.holds _ (List.mem_cons_self ..))
      have c1 : w.cell? ⟨b1, 60 + k * 2, none⟩ = some (.int .i64 p) := (cell_of_row w b1 (60 + k * 2) _ 35 (0, 0) (H.holds _ (List.mem_cons_of_mem _ (List.mem_cons_self ..)))).trans Hp.out
      have HB := Lib.hid H
      clear H
      go_quiet (fail)
      have HB2 := Lib.hid (HB.out.call (below_drewN (Below.refl _ _) nq)).tail
      clear c4 c1 HB
      generalize hz : (o == decide (0 ≤ p)) = z
      have Hz := Lib.hid hz
      clear hz
      cases z
      · go_wp2_with fail
        go_ret
        refine ⟨?_, HB2.out.below⟩
        have e : pairs S T = false := all_not (p := fun p : Shp × Seat => p.1.on == decide (0 ≤ p.2.peer)) HZ.out Hz.out
        rw [e, Bool.and_false]
        rfl
      · go_wp2_with fail
        exact ⟨⟨k + 1, hlt, rfl, HB2, Lib.hid (all_take HA.out HZ.out Hz.out)⟩, by simp only [intOf]; omega⟩
    · obtain rfl : k = 8 := by omega
      go_wp2_with fail
      go_ret
      refine ⟨?_, HB.out.below⟩
      have := HA.out
      rw [List.take_of_length_le (by rw [List.length_zip, H8.out, T8.out]; decide)] at this
      rw [q1, q2]
      exact congrArg _ (congrArg _ this.symm)
end Go.Proofs.YtdopfonebpklkaaGreat.game
namespace Go.Proofs.YtdopfonebpklkaaGreat.game
open Go.ChangeShapes Go.WideShapes Go.ChangeAt Go.RowKit dice
set_option maxRecDepth 100000

theorem bits_meet : ∀ a : Fin 12, ∀ b : Fin 13, ((2 ^ (a.val + 1)) &&& (if b.val = 0 then 0 else 2 ^ b.val) ≠ 0) ↔ a.val + 1 = b.val := by decide +kernel
theorem bit_meet {p q : Int} (hp0 : 0 ≤ p) (hp1 : p ≤ 11) (hq0 : -1 ≤ q) (hq1 : q ≤ 11) : (bitOf p &&& bitOf q ≠ 0) ↔ p = q := by
  have h := bits_meet ⟨p.toNat, by omega⟩ ⟨(q + 1).toNat, by omega⟩
  dsimp only at h
  have e1 : bitOf p = 2 ^ (p.toNat + 1) := by unfold bitOf; rw [if_neg (by omega)]; congr 1; omega
  have e2 : bitOf q = if (q + 1).toNat = 0 then 0 else 2 ^ (q + 1).toNat := by
    unfold bitOf
    by_cases hq : q < 0
    · rw [if_pos hq, if_pos (by omega)]
    · rw [if_neg hq, if_neg (by omega)]
  rw [e1, e2, h]
  omega
/-- The mask tells who was there. -/
def MaskOk (m : Nat) (A : List Seat) : Prop := m < 8192 ∧ ∀ p : Int, 0 ≤ p → p ≤ 11 → ((bitOf p &&& m ≠ 0) ↔ ∃ q ∈ A, q.peer = p)
theorem MaskOk.nil : MaskOk 0 [] := ⟨by decide, fun p _ _ => by simp⟩
theorem and_or_ne (a b c : Nat) : (a &&& (b ||| c) ≠ 0) ↔ (a &&& b ≠ 0) ∨ (a &&& c ≠ 0) := by
  rw [Nat.and_or_distrib_left]
  constructor
  · intro h
    by_cases h1 : a &&& b = 0
    · right
      intro h2
      rw [h1, h2] at h
      exact h rfl
    · exact .inl h1
  · rintro (h | h) e
    · exact h (Nat.or_eq_zero_iff.1 e).1
    · exact h (Nat.or_eq_zero_iff.1 e).2
theorem MaskOk.snoc {m : Nat} {A : List Seat} {s : Seat} (h : MaskOk m A) (hs : seatBad s = false) : MaskOk (m ||| bitOf s.peer) (A ++ [s]) := by
  have hb := hs
  unfold seatBad at hb
  simp only [Bool.or_eq_false_iff, decide_eq_false_iff_not] at hb
  refine ⟨or_lt _ h.1 (by omega), fun p p0 p1 => ?_⟩
  rw [and_or_ne, h.2 p p0 p1, bit_meet p0 p1 (by omega) (by omega)]
  constructor
  · rintro (⟨q, hq, e⟩ | e)
    · exact ⟨q, List.mem_append_left _ hq, e⟩
    · exact ⟨s, by simp, e.symm⟩
  · rintro ⟨q, hq, e⟩
    rcases List.mem_append.1 hq with hq | hq
    · exact .inl ⟨q, hq, e⟩
    · rw [List.mem_singleton] at hq
      subst hq
      exact .inr e.symm
theorem bit_ne {p : Int} : (bitOf p ≠ 0) ↔ 0 ≤ p := by
  unfold bitOf
  split
  · simp; omega
  · constructor
    · intro _; omega
    · intro _ h
      exact absurd h (Nat.ne_of_gt (Nat.pow_pos (by decide)))
/-- The step in the document's words. -/
theorem step_bad {m : Nat} {A : List Seat} {s : Seat} (h : MaskOk m A) (hs : seatBad s = false) : stepBad m s = true ↔ (0 ≤ s.peer ∧ s.gen < 1) ∨ (0 ≤ s.peer ∧ ∃ q ∈ A, q.peer = s.peer) := by
  have hb := hs
  unfold seatBad at hb
  simp only [Bool.or_eq_false_iff, decide_eq_false_iff_not] at hb
  unfold stepBad
  simp only [Bool.or_eq_true, Bool.and_eq_true, decide_eq_true_eq]
  constructor
  · rintro (h1 | ⟨h1, h2⟩)
    · have h0 : 0 ≤ s.peer := bit_ne.1 (fun e => h1 (by rw [e]; simp))
      exact .inr ⟨h0, (h.2 _ h0 (by omega)).1 h1⟩
    · exact .inl ⟨bit_ne.1 h1, by omega⟩
  · rintro (⟨h1, h2⟩ | ⟨h1, h2⟩)
    · exact .inr ⟨bit_ne.2 h1, by omega⟩
    · exact .inl ((h.2 _ h1 (by omega)).2 h2)
set_option maxHeartbeats 8000000 in
theorem rmayR_b (ver : Int) (T : List Seat) (w0 : World) (h8 : T.length = 8) :
    Calls Tryz.prog 61 #[.agg (rosterC ver T)] w0 fun e w' => e = .returned (.bool (mayR ver T)) ∧ Below w0.heap.size w0 w' := by
  have H := Sb.start w0
  have H8 := Lib.hid h8
  clear h8
  have HAT : Hid (∀ k j q v, T[k]? = some q → (seatL q)[j]? = some v → (rosterC ver T)[1 + k * 2 + j]? = some v) := Lib.hid (fun k j q v hq hv => by
    unfold rosterC
    rw [List.getElem?_toArray, show 1 + k * 2 + j = k * 2 + j + 1 by omega, List.getElem?_cons_succ]
    exact seatsL_at T k j q v hq hv)
  have H0 : Hid ((rosterC ver T)[0]? = some (.int .i64 ver)) := Lib.hid rfl
  obtain ⟨r, hr⟩ : ∃ r, mayR ver T = r := ⟨_, rfl⟩
  rw [hr]
  have HR := Lib.hid hr
  clear hr
  generalize rosterC ver T = cs at *
  by_cases h0 : 0 ≤ ver
  rotate_left
  · have q0 : decide (ver < 0) = true := decide_eq_true (by omega)
    have hf : r = false := by rw [← HR.out]; simp [mayR, h0]
    subst hf
    go_enter Tryz.func61, Tryz.ntmps61
    go_wp2_with (first | (refine wb_box H rfl 33 _ rfl cs rfl ?_; clear H; intro b1 w H) | (refine wb_cell H rfl 0 3 _ rfl _ 0 rfl _ _ rfl Tryz.isAgg3 (.int .i64 ver) H0.out ?_))
    go_ret
    exact ⟨rfl, H.below⟩
  by_cases h1 : ver ≤ 1073741824
  rotate_left
  · have q0 : decide (ver < 0) = false := decide_eq_false (by omega)
    have q1 : decide (1073741824 < ver) = true := decide_eq_true (by omega)
    have hf : r = false := by rw [← HR.out]; simp [mayR, h1]
    subst hf
    go_enter Tryz.func61, Tryz.ntmps61
    go_wp2_with (first | (refine wb_box H rfl 33 _ rfl cs rfl ?_; clear H; intro b1 w H) | (refine wb_cell H rfl 0 3 _ rfl _ 0 rfl _ _ rfl Tryz.isAgg3 (.int .i64 ver) H0.out ?_))
    go_ret
    exact ⟨rfl, H.below⟩
  have HR2 : Hid (r = !seatsBad 0 T) := Lib.hid (by rw [← HR.out]; simp [mayR, h0, h1])
  have q0 : decide (ver < 0) = false := decide_eq_false (by omega)
  have q1 : decide (1073741824 < ver) = false := decide_eq_false (by omega)
  go_enter Tryz.func61, Tryz.ntmps61
  go_wp2_with (first | (refine wb_box H rfl 33 _ rfl cs rfl ?_; clear H; intro b1 w H) | (refine wb_cell H rfl 0 3 _ rfl _ 0 rfl _ _ rfl Tryz.isAgg3 (.int .i64 ver) H0.out ?_))
  have HB := Lib.hid H
  clear H h0 h1 q0 q1 HR
  go_loopw [3] (fun i W => ∃ k m : Nat, k ≤ 8 ∧ i = .int .i64 k ∧ Hid (Sb [] w0 W [(b1, cs, 33)] []) ∧ Hid (MaskOk m (T.take k) ∧ seatsBad 0 T = seatsBad m (T.drop k))) (fun i _ => 8 - (intOf i).toNat)
  case atStart => exact ⟨0, 0, Nat.zero_le _, rfl, HB, Lib.hid ⟨MaskOk.nil, rfl⟩⟩
  case round =>
    clear HB
    obtain ⟨k, m, hk, rfl, HB, HA⟩ := hrel
    by_cases hlt : k < 8
    · obtain ⟨s, hs⟩ : ∃ s, T[k]? = some s := ⟨T[k]'(by rw [H8.out]; exact hlt), List.getElem?_eq_getElem _⟩
      have hd : T.drop k = s :: T.drop (k + 1) := by
        obtain ⟨hk', e⟩ := List.getElem?_eq_some_iff.1 hs
        rw [← e, List.drop_eq_getElem_cons hk']
      have ht : T.take (k + 1) = T.take k ++ [s] := by
        obtain ⟨hk', e⟩ := List.getElem?_eq_some_iff.1 hs
        rw [List.take_succ_eq_append_getElem hk', e]
      have HD := Lib.hid (HA.out.2.trans (by rw [hd]))
      have HM := Lib.hid HA.out.1
      have Htk := Lib.hid ht
      have CX := Lib.hid (fun (j : Nat) (v : Value) hv => HAT.out k j s v hs hv)
      have H := HB.out
      clear HB hs hd ht HA
      obtain ⟨p, g⟩ := s
      have HX := Lib.hid (show seatBad ⟨p, g⟩ = true → r = false from fun h => by rw [HR2.out, HD.out, seatsBad, h]; simp)
      go_upto_region 7 with (first | (refine wb_part H rfl 0 30 _ rfl _ (1 + k * 2) rfl _ _ rfl _ Tryz.underlying30 rfl 2 info30 [.int .i64 p, .int .i64 g] CX.out rfl ?_) | (refine wb_alloc H rfl 30 rfl _ Tryz.zeroValue30 ?_; clear H; intro b4 w H) | (refine wb_put H rfl 0 30 _ _ rfl _ 0 rfl _ _ rfl (.agg #[.int .i64 p, .int .i64 g]) rfl 2 info30 rfl (Nat.le_of_ble_eq_true rfl) rfl #[.int .i64 p, .int .i64 g] rfl ?_; clear H; intro w H))
      replace H : Sb [] w0 w [(b4, #[.int .i64 p, .int .i64 g], 30), (b1, cs, 33)] [] := H
      have c0 : w.cell? ⟨b4, 0, none⟩ = some (.int .i64 p) := cell_of_row w b4 0 _ 30 (0, 0) (H.holds _ (List.mem_cons_self ..))
      have c1 : w.cell? ⟨b4, 1, none⟩ = some (.int .i64 g) := cell_of_row w b4 1 _ 30 (0, 0) (H.holds _ (List.mem_cons_self ..))
      have HB := Lib.hid H
      clear H
      by_cases a1 : p < -1
      · have z1 : decide (p < -1) = true := decide_eq_true a1
        have hf : r = false := HX.out (by simp [seatBad, a1])
        subst hf
        go_wp2_with fail
        go_ret
        exact ⟨rfl, HB.out.below⟩
      have z1 : decide (p < -1) = false := decide_eq_false a1
      by_cases a2 : 12 ≤ p
      · have z2 : decide (12 ≤ p) = true := decide_eq_true a2
        have hf : r = false := HX.out (by simp [seatBad, a2])
        subst hf
        go_wp2_with fail
        go_ret
        exact ⟨rfl, HB.out.below⟩
      have z2 : decide (12 ≤ p) = false := decide_eq_false a2
      by_cases a3 : g < 0
      · have z3 : decide (g < 0) = true := decide_eq_true a3
        have hf : r = false := HX.out (by simp [seatBad, a3])
        subst hf
        go_wp2_with fail
        go_ret
        exact ⟨rfl, HB.out.below⟩
      have z3 : decide (g < 0) = false := decide_eq_false a3
      by_cases a4 : 60000 < g
      · have z4 : decide (60000 < g) = true := decide_eq_true a4
        have hf : r = false := HX.out (by simp [seatBad, a4])
        subst hf
        go_wp2_with fail
        go_ret
        exact ⟨rfl, HB.out.below⟩
      have z4 : decide (60000 < g) = false := decide_eq_false a4
      have hsb : seatBad ⟨p, g⟩ = false := by unfold seatBad; rw [z1, z2, z3, z4]; rfl
      have HSt := Lib.hid (step_bad HM.out hsb)
      have HX2 : Hid (stepBad m ⟨p, g⟩ = true → r = false) := Lib.hid (fun h => by rw [HR2.out, HD.out, seatsBad, h]; simp)
      have Hnx : Hid (stepBad m ⟨p, g⟩ = false → MaskOk (m ||| bitOf p) (T.take (k + 1)) ∧ seatsBad 0 T = seatsBad (m ||| bitOf p) (T.drop (k + 1))) := Lib.hid (fun h => ⟨by rw [Htk.out]; exact HM.out.snoc hsb, by rw [HD.out, seatsBad, hsb, h]; rfl⟩)
      clear hsb HX HM HD Htk
      by_cases a5 : 0 ≤ p ∧ g < 1
      · have z5 : decide (0 ≤ p) = true := decide_eq_true a5.1
        have z6 : decide (g < 1) = true := decide_eq_true a5.2
        have hf : r = false := HX2.out (HSt.out.2 (.inl a5))
        subst hf
        go_wp2_with fail
        go_ret
        exact ⟨rfl, HB.out.below⟩
      by_cases a6 : 0 ≤ p
      · have z5 : decide (0 ≤ p) = true := decide_eq_true a6
        have z6 : decide (g < 1) = false := decide_eq_false (fun h => a5 ⟨a6, h⟩)
        go_wp2_with fail
        clear c0 c1 z1 z2 z3 z4 z6 a1 a2 a3 a4
        go_loopw [5] (fun i W => ∃ j : Nat, j ≤ k ∧ i = .int .i64 j ∧ Hid (Sb [] w0 W [(b4, #[.int .i64 p, .int .i64 g], 30), (b1, cs, 33)] []) ∧ Hid (∀ q ∈ T.take j, q.peer ≠ p)) (fun i _ => k - (intOf i).toNat)
        case atStart => exact ⟨0, Nat.zero_le _, rfl, HB, Lib.hid (fun q hq => by simp at hq)⟩
        case round =>
          clear HB
          obtain ⟨j, hj, rfl, HB, HN⟩ := hrel
          by_cases hjk : j < k
          · obtain ⟨u, hu⟩ : ∃ u, T[j]? = some u := ⟨T[j]'(by rw [H8.out]; omega), List.getElem?_eq_getElem _⟩
            have c4 : wr.cell? ⟨b4, 0, none⟩ = some (.int .i64 p) := cell_of_row wr b4 0 _ 30 (0, 0) (HB.out.holds _ (List.mem_cons_self ..))
            have cu : wr.cell? ⟨b1, 1 + j * 2, none⟩ = some (.int .i64 u.peer) := (cell_of_row wr b1 (1 + j * 2) _ 33 (0, 0) (HB.out.holds _ (List.mem_cons_of_mem _ (List.mem_cons_self ..)))).trans (HAT.out j 0 u _ hu rfl)
            have Hu := Lib.hid hu
            clear hu
            by_cases e : u.peer = p
            · have he : decide (u.peer = p) = true := decide_eq_true e
              have hf : r = false := HX2.out (HSt.out.2 (.inr ⟨a6, u, by
                have hm := List.mem_of_getElem? (show (T.take k)[j]? = some u by rw [List.getElem?_take, if_pos hjk]; exact Hu.out)
                exact hm, e⟩))
              subst hf
              generalize u.peer = up at *
              subst e
              go_wp2_with fail
              go_quiet (fail)
              have HB2 := Lib.hid (HB.out.call (below_drewN (Below.refl _ _) nq)).below
              clear c4 cu
              go_wp2_with fail
              go_ret
              exact ⟨rfl, HB2.out⟩
            · have he : decide (u.peer = p) = false := decide_eq_false e
              have HN2 : Hid (∀ q ∈ T.take (j + 1), q.peer ≠ p) := Lib.hid (fun q hq => by
                obtain ⟨hj', e2⟩ := List.getElem?_eq_some_iff.1 Hu.out
                rw [List.take_succ_eq_append_getElem hj', e2] at hq
                rcases List.mem_append.1 hq with hq | hq
                · exact HN.out q hq
                · rw [List.mem_singleton] at hq; subst hq; exact e)
              generalize u.peer = up at *
              go_wp2_with fail
              go_quiet (fail)
              have HB2 := Lib.hid (HB.out.call (below_drewN (Below.refl _ _) nq))
              clear c4 cu
              go_wp2_with fail
              exact ⟨⟨j + 1, hjk, rfl, HB2, HN2⟩, by simp only [intOf]; omega⟩
          · obtain rfl : j = k := by omega
            have hsf : stepBad m ⟨p, g⟩ = false := by
              rw [Bool.eq_false_iff]
              intro h
              rcases HSt.out.1 h with h | ⟨_, q, hq, e⟩
              · exact a5 h
              · exact HN.out q hq e
            have Hn := Lib.hid (Hnx.out hsf)
            have HB2 := Lib.hid HB.out.tail
            clear HB hsf
            go_wp2_with fail
            exact ⟨⟨j + 1, _, hlt, rfl, HB2, Hn⟩, by simp only [intOf]; omega⟩
      · have z5 : decide (0 ≤ p) = false := decide_eq_false a6
        have hsf : stepBad m ⟨p, g⟩ = false := by
          rw [Bool.eq_false_iff]
          intro h
          rcases HSt.out.1 h with h | ⟨h, _⟩
          · exact a6 h.1
          · exact a6 h
        have Hn := Lib.hid (Hnx.out hsf)
        clear hsf
        go_wp2_with fail
        clear c0 c1 z1 z2 z3 z4 a1 a2 a3 a4
        go_loopw [5] (fun i W => ∃ j : Nat, j ≤ k ∧ i = .int .i64 j ∧ Hid (Sb [] w0 W [(b4, #[.int .i64 p, .int .i64 g], 30), (b1, cs, 33)] [])) (fun i _ => k - (intOf i).toNat)
        case atStart => exact ⟨0, Nat.zero_le _, rfl, HB⟩
        case round =>
          clear HB
          obtain ⟨j, hj, rfl, HB⟩ := hrel
          by_cases hjk : j < k
          · have c4 : wr.cell? ⟨b4, 0, none⟩ = some (.int .i64 p) := cell_of_row wr b4 0 _ 30 (0, 0) (HB.out.holds _ (List.mem_cons_self ..))
            go_wp2_with fail
            go_quiet (fail)
            have HB2 := Lib.hid (HB.out.call (below_drewN (Below.refl _ _) nq))
            clear c4
            go_wp2_with fail
            exact ⟨⟨j + 1, hjk, rfl, HB2⟩, by simp only [intOf]; omega⟩
          · obtain rfl : j = k := by omega
            have HB2 := Lib.hid HB.out.tail
            clear HB
            go_wp2_with fail
            exact ⟨⟨j + 1, _, hlt, rfl, HB2, Hn⟩, by simp only [intOf]; omega⟩
    · obtain rfl : k = 8 := by omega
      have hd : T.drop 8 = [] := by rw [← H8.out, List.drop_length]
      have hf : r = true := by rw [HR2.out, HA.out.2, hd]; rfl
      subst hf
      go_wp2_with fail
      go_ret
      exact ⟨rfl, HB.out.below⟩
end Go.Proofs.YtdopfonebpklkaaGreat.game
namespace Go.Proofs.YtdopfonebpklkaaGreat.game
open Go Go.ChangeShapes Go.WideShapes Go.ChangeAt Go.RowKit

section
variable {P : Program} {ops : Array Oper} {Q : Exit → Act → World → Prop}
variable {T : Facts} {fuel : Nat} {listed : Array Bool} {a : Act} {w : World}
theorem HTof {k : Nat} (h : (T.map (·.2.2)).all (· != k) = true) : ∀ t ∈ T, t.2.2 ≠ k := fun t ht e => by
  have := List.all_eq_true.1 h t.2.2 (List.mem_map_of_mem ht)
  simp [e] at this
theorem Held.later {T : Facts} {i : Nat} {listed : Array Bool} {w : World} (h : Held T listed w) (hs : i < listed.size) : Held T (listed.setIfInBounds i true) w := fun t ht hl => by
  by_cases e : i = t.2.2
  · subst e
    simp [Array.getD_eq_getD_getElem?, hs] at hl
  · exact h t ht (by rw [getD_set_ne true e] at hl; exact hl)
/-- A quiet call, alone ready; facts may end here. -/
theorem Gs_call' (k : Nat) {o : Oper} (hi : ops[k]? = some o) (hg : o.guard = none) (dst : Option Tmp) (hd : o.dst = dst) (hr : Region.ready .any ops listed = [k]) (f : FuncId) (vs : Array Value) (hrun : (execOp a.eval o).run P w = .ok (.enter f vs) w)
    (v : Value) (hc : Calls P f vs w fun e w' => e = .returned v ∧ w = w')
    (h : Gs P ops Q T fuel (listed.setIfInBounds k true) (a.put dst v) w) : Gs P ops Q T (fuel + 1) listed a w := by
  intro inv hh
  have hr' : k ∈ Region.ready .any ops listed := by rw [hr]; simp
  refine ⟨fun h0 => (by rw [h0] at hr'; cases hr'), fun i hik => ?_⟩
  rw [hr] at hik
  obtain rfl : i = k := by simpa using hik
  have hsz : i < listed.size := by rw [inv.size]; exact (Array.getElem?_eq_some_iff.1 hi).1
  refine wpOp_of_stOp (K := fun a' => a' = a.put o.dst v) (fun a' ha => ?_) ?_
  · subst ha
    have hh' : Held T (listed.setIfInBounds i true) w := hh.later hsz
    rw [hd]
    exact ⟨hh', h (inv.set hr') hh'⟩
  · unfold stOp
    simp only [hi]
    rw [if_pos (by simp [Region.wanted, hg])]
    unfold Oper.still
    rw [hrun]
    exact ⟨rfl, v, hc.mono fun e w' hh => ⟨hh.1, hh.2.symm⟩, rfl⟩
/-- An operation that only computes, alone ready; facts may end here. -/
theorem Gs_bin' (k : Nat) {o : Oper} (hi : ops[k]? = some o) (hg : o.guard = none) (dst : Option Tmp) (hd : o.dst = dst) (hr : Region.ready .any ops listed = [k]) (v : Value) (hrun : ∀ w, (execOp a.eval o).run P w = .ok (.value v) w)
    (h : Gs P ops Q T fuel (listed.setIfInBounds k true) (a.put dst v) w) : Gs P ops Q T (fuel + 1) listed a w := by
  intro inv hh
  have hr' : k ∈ Region.ready .any ops listed := by rw [hr]; simp
  refine ⟨fun h0 => (by rw [h0] at hr'; cases hr'), fun i hik => ?_⟩
  rw [hr] at hik
  obtain rfl : i = k := by simpa using hik
  have hsz : i < listed.size := by rw [inv.size]; exact (Array.getElem?_eq_some_iff.1 hi).1
  have hh' : Held T (listed.setIfInBounds i true) w := hh.later hsz
  unfold wpOp
  simp only [hi]
  rw [if_pos (by simp [Region.wanted, hg])]
  refine .inl ?_
  unfold Oper.wp
  rw [hrun]
  subst hd
  exact ⟨hh', h (inv.set hr') hh'⟩
theorem cell_alloc_some {w : World} {p : Addr} {v : Value} (ob : Obj) (h : w.cell? p = some v) : (w.alloc ob).cell? p = some v := by
  have hb : p.block < w.heap.size := by
    unfold World.cell? at h
    cases hq : w.heap[p.block]? with
    | none => simp [hq] at h
    | some o => exact (Array.getElem?_eq_some_iff.1 hq).1
  rw [← h]
  exact ((Below.refl w.heap.size w).alloc (Nat.le_refl _) ob).cell hb
/-- An operation that makes memory, alone ready. -/
theorem Gs_alloc (k : Nat) {o : Oper} (hi : ops[k]? = some o) (hg : o.guard = none) (dst : Option Tmp) (hd : o.dst = dst) (hr : Region.ready .any ops listed = [k]) (v : Value) (ob : Obj) (hrun : (execOp a.eval o).run P w = .ok (.value v) (w.alloc ob))
    (h : Gs P ops Q T fuel (listed.setIfInBounds k true) (a.put dst v) (w.alloc ob)) : Gs P ops Q T (fuel + 1) listed a w := by
  intro inv hh
  have hr' : k ∈ Region.ready .any ops listed := by rw [hr]; simp
  refine ⟨fun h0 => (by rw [h0] at hr'; cases hr'), fun i hik => ?_⟩
  rw [hr] at hik
  obtain rfl : i = k := by simpa using hik
  have hsz : i < listed.size := by rw [inv.size]; exact (Array.getElem?_eq_some_iff.1 hi).1
  have hh' : Held T (listed.setIfInBounds i true) (w.alloc ob) := fun t ht hl => cell_alloc_some ob (hh.later hsz t ht hl)
  unfold wpOp
  simp only [hi]
  rw [if_pos (by simp [Region.wanted, hg])]
  refine .inl ?_
  unfold Oper.wp
  rw [hrun]
  subst hd
  exact ⟨hh', h (inv.set hr') hh'⟩
/-- The tail, from the operation d on: forced; all facts have ended. -/
theorem Gs_tail' (d : Nat) (hr : Region.ready .any ops listed = [d]) (hd : (T.map (·.2.2)).all (fun e => (listed.setIfInBounds d true).getD e true) = true) (hB : Region.seqB .any ops (fuel + 1) d listed = true) (hz : (ops.toList.drop d).length = fuel + 1)
    (h : wpList P ops Q (ops.toList.drop d) a w) : Gs P ops Q T (fuel + 1) listed a w := by
  intro inv hh
  have hA := wpAny_of_seq (md := .any) (Q' := Q) (ops.toList.drop d) d listed a w (fun j => by simp [List.getElem?_drop]) (by rw [hz]; exact hB) h
  rw [hz] at hA
  refine ⟨hA.1, fun i hi => wpOp_mono (fun a' w' h' => ?_) (hA.2 i hi)⟩
  have hid : i = d := by rw [hr] at hi; simpa using hi
  have hall : ∀ t ∈ T, (listed.setIfInBounds i true).getD t.2.2 true = true := fun t ht => by
    rw [hid]
    exact List.all_eq_true.1 hd t.2.2 (List.mem_map_of_mem ht)
  exact ⟨fun t ht hl => (by rw [hall t ht] at hl; cases hl), wpAnyS_of_any fuel hall h'⟩
end
end Go.Proofs.YtdopfonebpklkaaGreat.game
