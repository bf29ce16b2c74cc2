/- image.May over any state, as a truth. -/
import Derived.Test.YtdopfonebpklkaaRo
import Derived.Test.YtdopfonebpklkaaBm
import Derived.BigQuiet
namespace Go.Proofs.Ytdopfonebpklkaa.game
open Go.ChangeShapes Go.WideShapes Go.ChangeAt Go.RowKit dice
set_option maxRecDepth 100000

def stateL (s : Ste) (sl : Value) : List Value := .int .i64 s.g.fr :: .int .u64 s.g.d :: (shipsL s.g.S ++ (sl :: .int .i64 s.ver :: seatsL s.T))
def stateC (s : Ste) (sl : Value) : Array Value := (stateL s sl).toArray
section
variable {s : Ste} {sl : Value}
theorem sc_len (h8 : s.g.S.length = 8) (t8 : s.T.length = 8) : (stateL s sl).length = 76 := by
  simp [stateL, length_shipsL, length_seatsL, h8, t8]
theorem sc_size (h8 : s.g.S.length = 8) (t8 : s.T.length = 8) : (stateC s sl).size = 76 := by
  unfold stateC; rw [List.size_toArray]; exact sc_len h8 t8
theorem sc_fr : (stateC s sl)[0]? = some (.int .i64 s.g.fr) := rfl
theorem sc_d : (stateC s sl)[1]? = some (.int .u64 s.g.d) := rfl
theorem sc_ships (j : Nat) (v : Value) (h : (shipsL s.g.S)[j]? = some v) : (stateC s sl)[2 + j]? = some v := by
  unfold stateC stateL
  have hl := (List.getElem?_eq_some_iff.1 h).1
  rw [List.getElem?_toArray, show 2 + j = j + 1 + 1 by omega, List.getElem?_cons_succ, List.getElem?_cons_succ, List.getElem?_append_left hl]
  exact h
theorem sc_tail (h8 : s.g.S.length = 8) (j : Nat) : (stateC s sl)[58 + j]? = (sl :: Value.int .i64 s.ver :: seatsL s.T)[j]? := by
  unfold stateC stateL
  rw [List.getElem?_toArray, show 58 + j = 56 + j + 1 + 1 by omega, List.getElem?_cons_succ, List.getElem?_cons_succ, List.getElem?_append_right (by rw [length_shipsL, h8]; omega), length_shipsL, h8, show 56 + j - 8 * 7 = j by omega]
theorem sc_shots (h8 : s.g.S.length = 8) : (stateC s sl)[58]? = some sl := sc_tail h8 0
theorem sc_ver (h8 : s.g.S.length = 8) : (stateC s sl)[59]? = some (.int .i64 s.ver) := sc_tail h8 1
theorem sc_seats (h8 : s.g.S.length = 8) (j : Nat) (v : Value) (h : (seatsL s.T)[j]? = some v) : (stateC s sl)[60 + j]? = some v := by
  rw [show 60 + j = 58 + (j + 2) by omega, sc_tail h8]
  exact h
theorem sc_ship (k j : Nat) (t : Shp) (v : Value) (ht : s.g.S[k]? = some t) (hv : (shipL t)[j]? = some v) : (stateC s sl)[2 + k * 7 + j]? = some v := by
  rw [Nat.add_assoc]
  exact sc_ships _ v (shipsL_at _ k j t v ht hv)
theorem sc_seat (h8 : s.g.S.length = 8) (k j : Nat) (q : Seat) (v : Value) (hq : s.T[k]? = some q) (hv : (seatL q)[j]? = some v) : (stateC s sl)[60 + k * 2 + j]? = some v := by
  rw [Nat.add_assoc]
  exact sc_seats h8 _ v (seatsL_at _ k j q v hq hv)
theorem sc_game (j : Nat) (v : Value) (h : (gameC s.g.fr s.g.d s.g.S sl)[j]? = some v) : (stateC s sl)[j]? = some v := by
  unfold gameC at h
  unfold stateC stateL
  rw [List.getElem?_toArray] at h ⊢
  match j, h with
  | 0, h => exact h
  | 1, h => exact h
  | j + 2, h =>
    rw [List.getElem?_cons_succ, List.getElem?_cons_succ] at h ⊢
    by_cases e : j < (shipsL s.g.S).length
    · rw [List.getElem?_append_left e] at h ⊢
      exact h
    · rw [List.getElem?_append_right (by omega)] at h ⊢
      match hj : j - (shipsL s.g.S).length, h with
      | 0, h => exact h
      | k + 1, h => simp at h
theorem sc_roster (h8 : s.g.S.length = 8) (j : Nat) (v : Value) (h : (rosterC s.ver s.T)[j]? = some v) : (stateC s sl)[59 + j]? = some v := by
  rw [show 59 + j = 58 + (j + 1) by omega, sc_tail h8]
  unfold rosterC at h
  rw [List.getElem?_toArray] at h
  exact h
end
theorem ships_part : ∀ (S : List Shp) (k : Nat) (t : Shp), S[k]? = some t → ((shipsL S).drop (k * 7)).take 7 = shipL t
  | [], k, t, h => by simp at h
  | s :: S, 0, t, h => by
    simp at h
    subst h
    unfold shipsL
    rw [List.flatMap_cons, Nat.zero_mul, List.drop_zero]
    rfl
  | s :: S, k + 1, t, h => by
    have ih := ships_part S k t (by simpa using h)
    unfold shipsL at *
    rw [List.flatMap_cons, List.drop_append, List.drop_of_length_le (show (shipL s).length ≤ (k + 1) * 7 by simp [shipL]; omega), List.nil_append, show (k + 1) * 7 - (shipL s).length = k * 7 by simp [shipL]; omega]
    exact ih
theorem ships_extract {S : List Shp} {k : Nat} {t : Shp} (h : S[k]? = some t) : (shipsL S).toArray.extract (k * 7) (k * 7 + 7) = (shipL t).toArray := by
  rw [List.extract_toArray, List.extract_eq_take_drop, show k * 7 + 7 - k * 7 = 7 by omega, ships_part S k t h]
theorem seats_part : ∀ (S : List Seat) (k : Nat) (t : Seat), S[k]? = some t → ((seatsL S).drop (k * 2)).take 2 = seatL t
  | [], k, t, h => by simp at h
  | s :: S, 0, t, h => by
    simp at h
    subst h
    unfold seatsL
    rw [List.flatMap_cons, Nat.zero_mul, List.drop_zero]
    rfl
  | s :: S, k + 1, t, h => by
    have ih := seats_part S k t (by simpa using h)
    unfold seatsL at *
    rw [List.flatMap_cons, List.drop_append, List.drop_of_length_le (show (seatL s).length ≤ (k + 1) * 2 by simp [seatL]; omega), List.nil_append, show (k + 1) * 2 - (seatL s).length = k * 2 by simp [seatL]; omega]
    exact ih
theorem seats_extract {S : List Seat} {k : Nat} {t : Seat} (h : S[k]? = some t) : (seatsL S).toArray.extract (k * 2) (k * 2 + 2) = (seatL t).toArray := by
  rw [List.extract_toArray, List.extract_eq_take_drop, show k * 2 + 2 - k * 2 = 2 by omega, seats_part S k t h]
section
variable {ops : Array Oper} {rest : List Oper} {op : Oper} {a : Act} {Q : Exit → Act → World → Prop} {w0 w : World} {Hs : List Nat} {l : List Blk} {R : List RowS}
theorem wl_index (hw : Region.wanted op (yielded ops a.tmps) = true) (ty e : TypeId) (n : Nat) (x y : Operand) (ho : op.op = .index ty x y) (hu : Try.prog.underlying ty = some (.array n e)) (he : ∀ w, (isAgg e).run Try.prog w = .ok true w) (sz : Nat) (hi : (Try.prog.info? e).map (·.size) = some sz)
    (c : Array Value) (hx : a.eval x = .agg c) (k : Nat) (kk : IntKind) (hy : a.eval y = .int kk k) (hk : k < n) (vs : Array Value) (hvs : c.extract (k * sz) (k * sz + sz) = vs)
    (h : wpList Try.prog ops Q rest (a.put op.dst (.agg vs)) w) : wpList Try.prog ops Q (op :: rest) a w := by
  refine BigFrame.wpList_want hw fun _ hK => ?_
  have hs : (sizeOf e).run Try.prog w = .ok sz w := by
    cases hq : Try.prog.info? e with
    | none => simp [hq] at hi
    | some i =>
      have : i.size = sz := by simpa [hq] using hi
      simp [sizeOf, typeInfo, hq, this]
  unfold Oper.wp execOp
  have hr : (Instr.index ty (.agg c) (.int kk k)).run Try.prog w = .ok (.agg vs) w := by
    have hk' : (0 : Int) ≤ (k : Int) ∧ (k : Int) < (n : Int) := ⟨by omega, by omega⟩
    unfold Instr.index
    simp only [asIntOf, Sem.run_bind, Sem.run_pure, Result.andThen_ok, run_underlying hu, hk', and_self, if_true, hs, part, he, Int.toNat_natCast, hvs]
  simp only [ho, hx, hy, Sem.run_bind, hr, Result.andThen_ok, Sem.run_pure]
  exact hK _ _ h
theorem wb_partA (H : Sb Hs w0 w l R) (hw : Region.wanted op (yielded ops a.tmps) = true) (i : Nat) (ty : TypeId) (x : Operand) (ho : op.op = .load ty x) (g o : Nat) (hx : a.eval x = .pointer (some ⟨g, o, none⟩)) (c : Array Value) (t : TypeId) (hl : l[i]? = some (g, c, t))
    (d : TypeDesc) (hu : Try.prog.underlying ty = some d) (hd : d.isRow = true) (n : Nat) (hi : (Try.prog.info? ty).map (·.size) = some n) (vs : Array Value) (hvs : ∀ j v, vs[j]? = some v → c[o + j]? = some v) (hn : vs.size = n)
    (h : wpList Try.prog ops Q rest (a.put op.dst (.agg vs)) w) : wpList Try.prog ops Q (op :: rest) a w :=
  wb_part H hw i ty x ho g o hx c t hl d hu hd n hi vs.toList (fun j v hv => hvs j v (by rw [← Array.getElem?_toList]; exact hv)) (by rw [Array.length_toList]; exact hn) (by rw [Array.toArray_toList]; exact h)
end
theorem info33 : (Try.prog.info? 38).map (·.size) = some 17 := by kernel_rfl
theorem info35 : (Try.prog.info? 40).map (·.size) = some 76 := by kernel_rfl
theorem info30 : (Try.prog.info? 35).map (·.size) = some 2 := by kernel_rfl
theorem info31 : (Try.prog.info? 36).map (·.size) = some 16 := by kernel_rfl
/-- Ships and seats go together. -/
def pairs (S : List Shp) (T : List Seat) : Bool := (S.zip T).all fun p => p.1.on == decide (0 ≤ p.2.peer)
def mayS (s : Ste) : Bool := s.g.may && mayR s.ver s.T && pairs s.g.S s.T
theorem rc_size {ver : Int} {T : List Seat} (t8 : T.length = 8) : (rosterC ver T).size = 17 := by
  simp [rosterC, length_seatsL, t8]
set_option maxHeartbeats 4000000 in
theorem mayS_b (s : Ste) (sl : Value) (w0 : World) (hg : s.g.wf) (t8 : s.T.length = 8) (hin : ShotsW w0 sl s.g.L) :
    Calls Try.prog 20 #[.agg (stateC s sl)] w0 fun e w' => e = .returned (.bool (mayS s)) ∧ Below w0.heap.size w0 w' := by
  have H := Sb.start w0
  have H8 := Lib.hid hg.s8
  have T8 := Lib.hid t8
  have HM := Lib.hid (fun w h => may_b s.g sl w hg h)
  have HR := Lib.hid (fun w => mayR_b s.ver s.T w t8)
  have HI := Lib.hid hin
  have HG := Lib.hid (fun j v h => sc_game (s := s) (sl := sl) j v h)
  have HO := Lib.hid (fun j v h => sc_roster (s := s) (sl := sl) hg.s8 j v h)
  have HS := Lib.hid (fun j v h => sc_ships (s := s) (sl := sl) j v h)
  have HQ := Lib.hid (fun k j q v h h' => sc_seat (s := s) (sl := sl) hg.s8 k j q v h h')
  have Hgs := Lib.hid (gc_size (fr := s.g.fr) (d := s.g.d) (sl := sl) hg.s8)
  have Hl := Lib.hid (show (shipsL s.g.S).length = 56 by rw [length_shipsL, hg.s8])
  have Hrs := Lib.hid (rc_size (ver := s.ver) t8)
  unfold mayS
  clear hg t8 hin
  generalize stateC s sl = cs at *
  obtain ⟨⟨fr, d, S, L⟩, ver, T⟩ := s
  dsimp only at *
  go_enter Try.func20, Try.ntmps20
  go_wp2_with (first | (refine wb_box H rfl 40 _ rfl cs rfl ?_; clear H; intro b1 w H) | (refine wb_partA H rfl 0 33 _ rfl _ 0 rfl _ _ rfl _ Try.underlying33 rfl 59 info28 (gameC fr d S sl) (fun j v h => by rw [Nat.zero_add]; exact HG.out j v h) Hgs.out ?_))
  refine (HM.out _ (HI.out.later H.below)).mono ?_; rintro e w' ⟨rfl, hb⟩
  replace H := H.call hb
  clear hb
  cases q1 : Gme.may ⟨fr, d, S, L⟩
  · go_wp2_with fail
    go_ret
    exact ⟨by rw [q1]; rfl, H.below⟩
  go_wp2_with (refine wb_partA H rfl 0 38 _ rfl _ 59 rfl _ _ rfl _ Try.underlying38 rfl 17 info33 (rosterC ver T) HO.out Hrs.out ?_)
  refine (HR.out _).mono ?_; rintro e w' ⟨rfl, hb⟩
  replace H := H.call hb
  clear hb
  cases q2 : mayR ver T
  · go_wp2_with fail
    go_ret
    exact ⟨by rw [q1, q2]; rfl, H.below⟩
  go_wp2_with (refine wb_part H rfl 0 30 _ rfl _ 2 rfl _ _ rfl _ Try.underlying30 rfl 56 info25 (shipsL S) HS.out Hl.out ?_)
  have H' := H
  clear H HI HM HR
  go_loopw [18] (fun i W => ∃ k : Nat, k ≤ 8 ∧ i = .int .i64 k ∧ Hid (Sb [] w0 W [(b1, cs, 40)] []) ∧ Hid (((S.zip T).take k).all (fun p => p.1.on == decide (0 ≤ p.2.peer)) = true)) (fun i _ => 8 - (intOf i).toNat)
  case atStart => exact ⟨0, Nat.zero_le _, rfl, Lib.hid H', Lib.hid (by simp)⟩
  case round =>
    clear H'
    obtain ⟨k, hk, rfl, HB, HA⟩ := hrel
    by_cases hlt : k < 8
    · obtain ⟨t, ht⟩ : ∃ t, S[k]? = some t := ⟨S[k]'(by rw [H8.out]; exact hlt), List.getElem?_eq_getElem _⟩
      obtain ⟨q, hq⟩ : ∃ q, T[k]? = some q := ⟨T[k]'(by rw [T8.out]; exact hlt), List.getElem?_eq_getElem _⟩
      have HZ : Hid ((S.zip T)[k]? = some (t, q)) := Lib.hid (by rw [List.getElem?_zip_eq_some]; exact ⟨ht, hq⟩)
      have HX := Lib.hid (ships_extract ht)
      have Hp : Hid (cs[60 + k * 2]? = some (.int .i64 q.peer)) := Lib.hid (HQ.out k 0 q _ hq rfl)
      have H := HB.out
      clear HB ht hq
      obtain ⟨o, x, y, vx, vy, cl, sc⟩ := t
      obtain ⟨p, g⟩ := q
      dsimp only at *
      go_wp2_with (first | (refine wl_index rfl 30 29 8 _ _ rfl Try.underlying30 Try.isAgg29 7 info24 (shipsL S).toArray rfl k _ rfl hlt _ HX.out ?_) | (refine wb_alloc H rfl 29 rfl _ Try.zeroValue29 ?_; clear H; intro b4 w H) | (refine wb_put H rfl 0 29 _ _ rfl _ 0 rfl _ _ rfl (.agg #[.bool o, .int .i32 x, .int .i32 y, .int .i32 vx, .int .i32 vy, .int .i64 cl, .int .i64 sc]) rfl 7 info24 rfl (Nat.le_of_ble_eq_true rfl) rfl #[.bool o, .int .i32 x, .int .i32 y, .int .i32 vx, .int .i32 vy, .int .i64 cl, .int .i64 sc] rfl ?_; clear H; intro w H))
      replace H : Sb [] w0 w [(b4, #[.bool o, .int .i32 x, .int .i32 y, .int .i32 vx, .int .i32 vy, .int .i64 cl, .int .i64 sc], 29), (b1, cs, 40)] [] := H
      have c4 : w.cell? ⟨b4, 0, none⟩ = some (.bool o) := cell_of_row w b4 0 _ 29 (0, 0) (H.holds _ (List.mem_cons_self ..))
      have c1 : w.cell? ⟨b1, 60 + k * 2, none⟩ = some (.int .i64 p) := (cell_of_row w b1 (60 + k * 2) _ 40 (0, 0) (H.holds _ (List.mem_cons_of_mem _ (List.mem_cons_self ..)))).trans Hp.out
      have HB := Lib.hid H
      clear H
      go_quiet (fail)
      have HB2 := Lib.hid (HB.out.call (below_drewN (Below.refl _ _) nq)).tail
      clear c4 c1 HB
      generalize hz : (o == decide (0 ≤ p)) = z
      have Hz := Lib.hid hz
      clear hz
      cases z
      · go_wp2_with fail
        go_ret
        refine ⟨?_, HB2.out.below⟩
        have e : pairs S T = false := all_not (p := fun p : Shp × Seat => p.1.on == decide (0 ≤ p.2.peer)) HZ.out Hz.out
        rw [e, Bool.and_false]
        rfl
      · go_wp2_with fail
        exact ⟨⟨k + 1, hlt, rfl, HB2, Lib.hid (all_take HA.out HZ.out Hz.out)⟩, by simp only [intOf]; omega⟩
    · obtain rfl : k = 8 := by omega
      go_wp2_with fail
      go_ret
      refine ⟨?_, HB.out.below⟩
      have := HA.out
      rw [List.take_of_length_le (by rw [List.length_zip, H8.out, T8.out]; decide)] at this
      rw [q1, q2]
      exact congrArg _ (congrArg _ this.symm)
end Go.Proofs.Ytdopfonebpklkaa.game
