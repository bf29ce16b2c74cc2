/- entry.May, stick.May (printed by mkem.py). Steps in numbers: ships stay, scores do not fall; memory that is read in a region that draws. 'GameMay': the walk of the law. Memory in a walk: what stood there ahead of the call is read. slices.DeleteFunc over shots by their owner. -/
import Derived.Test.YtdopfonebpklkaaGreatFoldRuns12
import Derived.Test.YtdopfonebpklkaaGreatFoldRuns09
import Derived.StillTailTactics
import Derived.Test.YtdopfonebpklkaaGreatFoldRuns10
import Derived.Deep.DeepCutAuto
import Derived.BigRegion
namespace Go.Proofs.YtdopfonebpklkaaGreat.game
open Go.ChangeShapes Go.WideShapes Go.ChangeAt Go.RowKit dice
set_option maxRecDepth 100000

def evsL (E : List Evt) : List Value := E.flatMap evL
theorem length_evsL (E : List Evt) : (evsL E).length = E.length * 4 := by
  induction E with
  | nil => rfl
  | cons s T ih => unfold evsL at *; rw [List.flatMap_cons, List.length_append, ih, List.length_cons]; simp only [evL, List.length_cons, List.length_nil]; omega
theorem evsL_at : ∀ (T : List Evt) (i j : Nat) (s : Evt) (v : Value), T[i]? = some s → (evL s)[j]? = some v → (evsL T)[i * 4 + j]? = some v
  | [], i, _, _, _, h, _ => by simp at h
  | s' :: L, 0, j, s, v, h, hj => by
    simp at h
    subst h
    have := (List.getElem?_eq_some_iff.1 hj).1
    unfold evsL
    rw [List.flatMap_cons, Nat.zero_mul, Nat.zero_add, List.getElem?_append_left this]
    exact hj
  | s' :: L, i + 1, j, s, v, h, hj => by
    have ih := evsL_at L i j s v (by simpa using h) hj
    unfold evsL at *
    rw [List.flatMap_cons, List.getElem?_append_right (by simp only [evL, List.length_cons, List.length_nil]; omega)]
    simp only [evL, List.length_cons, List.length_nil]
    rw [show (i + 1) * 4 + j - (0 + 1 + 1 + 1 + 1) = i * 4 + j by omega]
    exact ih
def EvW (W : World) (sl : Value) (E : List Evt) : Prop :=
  (E = [] ∧ ∃ ad c, sl = .slice ad 0 c) ∨ ∃ g o c, sl = .slice (some ⟨g, o, none⟩) E.length c ∧ g < W.heap.size ∧ ∀ j v, (evsL E)[j]? = some v → W.cell? ⟨g, o + j, none⟩ = some v
theorem EvW.later {W W' : World} {sl : Value} {E : List Evt} (h : EvW W sl E) (hb : Below W.heap.size W W') : EvW W' sl E := by
  rcases h with h | ⟨g, o, c, h1, h2, h3⟩
  · exact .inl h
  · exact .inr ⟨g, o, c, h1, Nat.lt_of_lt_of_le h2 hb.size, fun j v hv => (hb.cell (p := ⟨g, o + j, none⟩) h2).trans (h3 j v hv)⟩
theorem EvW.form {W : World} {sl : Value} {E : List Evt} (h : EvW W sl E) : ∃ ad c, sl = .slice ad E.length c := by
  rcases h with ⟨rfl, ad, c, rfl⟩ | ⟨g, o, c, rfl, _⟩
  · exact ⟨ad, c, rfl⟩
  · exact ⟨_, _, rfl⟩
structure EvAt (W : World) (g o : Nat) (x : Evt) : Prop where
  kind : W.cell? ⟨g, o, none⟩ = some (.int .i64 x.kind)
  slot : W.cell? ⟨g, o + 1, none⟩ = some (.int .i64 x.slot)
  gen : W.cell? ⟨g, o + 2, none⟩ = some (.int .i64 x.gen)
  peer : W.cell? ⟨g, o + 3, none⟩ = some (.int .i64 x.peer)
theorem ev_at {W : World} {g o : Nat} {E : List Evt} (h : ∀ j v, (evsL E)[j]? = some v → W.cell? ⟨g, o + j, none⟩ = some v) (i : Nat) (x : Evt) (hx : E[i]? = some x) : EvAt W g (o + i * 4) x := by
  have c : ∀ j v, (evL x)[j]? = some v → W.cell? ⟨g, o + i * 4 + j, none⟩ = some v := fun j v hv => by
    rw [Nat.add_assoc]; exact h _ v (evsL_at E i j x v hx hv)
  exact ⟨c 0 _ rfl, c 1 _ rfl, c 2 _ rfl, c 3 _ rfl⟩
def entC (e : Ent) (sl : Value) : Array Value := (.int .i64 e.fr :: sl :: e.ins.flatMap inpL).toArray
theorem length_ins (I : List Inp) : (I.flatMap inpL).length = I.length * 3 := by
  induction I with
  | nil => rfl
  | cons i I ih => rw [List.flatMap_cons, List.length_append, ih, List.length_cons]; simp only [inpL, List.length_cons, List.length_nil]; omega
theorem en_size {e : Ent} {sl : Value} (h8 : e.ins.length = 8) : (entC e sl).size = 26 := by
  unfold entC
  rw [List.size_toArray, List.length_cons, List.length_cons, length_ins, h8]
theorem en_fr {e : Ent} {sl : Value} : (entC e sl)[0]? = some (.int .i64 e.fr) := rfl
theorem en_sl {e : Ent} {sl : Value} : (entC e sl)[1]? = some sl := rfl
theorem en_ins {e : Ent} {sl : Value} : ∀ j v, (e.ins.flatMap inpL)[j]? = some v → (entC e sl)[2 + j]? = some v := fun j v h => by
  unfold entC
  rw [List.getElem?_toArray, show 2 + j = j + 1 + 1 by omega, List.getElem?_cons_succ, List.getElem?_cons_succ]
  exact h
theorem not_or_false {p q : Prop} (h : ¬ p) (h' : ¬ q) : ¬ (p ∨ q) := fun a => a.elim h h'
theorem mayEv_b (x : Evt) (w0 : World) :
    Calls Tryz.prog 119 #[.agg (evC x)] w0 fun e w' => e = .returned (.bool (mayEv x)) ∧ Below w0.heap.size w0 w' := by
  have H := Sb.start w0
  obtain ⟨kd, sl, gn, pr⟩ := x
  obtain ⟨r, hr⟩ : ∃ r, mayEv ⟨kd, sl, gn, pr⟩ = r := ⟨_, rfl⟩
  rw [hr]
  have HR := Lib.hid hr
  clear hr
  unfold evC
  dsimp only
  go_enter Tryz.func119, Tryz.ntmps119
  go_upto_region 1 with (refine wb_box H rfl 60 _ rfl #[.int .i64 kd, .int .i64 sl, .int .i64 gn, .int .i64 pr] rfl ?_; clear H; intro b1 w H)
  have c0 : w.cell? ⟨b1, 0, none⟩ = some (.int .i64 kd) := cell_of_row w b1 0 _ 60 (0, 0) (H.holds _ (List.mem_cons_self ..))
  have c1 : w.cell? ⟨b1, 1, none⟩ = some (.int .i64 sl) := cell_of_row w b1 1 _ 60 (0, 0) (H.holds _ (List.mem_cons_self ..))
  have c2 : w.cell? ⟨b1, 2, none⟩ = some (.int .i64 gn) := cell_of_row w b1 2 _ 60 (0, 0) (H.holds _ (List.mem_cons_self ..))
  have c3 : w.cell? ⟨b1, 3, none⟩ = some (.int .i64 pr) := cell_of_row w b1 3 _ 60 (0, 0) (H.holds _ (List.mem_cons_self ..))
  have HB := Lib.hid H.below
  clear H
  have fin : ∀ b, mayEv ⟨kd, sl, gn, pr⟩ = b → b = r := fun b h => h.symm.trans HR.out
  have Fin := Lib.hid fin
  clear fin
  by_cases k1 : kd = 1
  · subst k1
    by_cases h0 : 0 ≤ sl
    rotate_left
    · have q0 : decide (0 ≤ sl) = false := decide_eq_false h0
      obtain rfl := Fin.out false (by unfold mayEv; simp [h0])
      clear h0
      go_wp2_with fail
      go_ret
      exact ⟨by first | rfl | simp, HB.out⟩
    have q0 : decide (0 ≤ sl) = true := decide_eq_true h0
    by_cases h1 : sl < 8
    rotate_left
    · have q1 : decide (sl < 8) = false := decide_eq_false h1
      obtain rfl := Fin.out false (by unfold mayEv; simp [h1])
      clear h0 h1
      go_wp2_with fail
      go_ret
      exact ⟨by first | rfl | simp, HB.out⟩
    have q1 : decide (sl < 8) = true := decide_eq_true h1
    by_cases h2 : 1 ≤ gn
    rotate_left
    · have q2 : decide (1 ≤ gn) = false := decide_eq_false h2
      obtain rfl := Fin.out false (by unfold mayEv; simp [h2])
      clear h0 h1 h2
      go_wp2_with fail
      go_ret
      exact ⟨by first | rfl | simp, HB.out⟩
    have q2 : decide (1 ≤ gn) = true := decide_eq_true h2
    by_cases h3 : gn ≤ 60000
    rotate_left
    · have q3 : decide (gn ≤ 60000) = false := decide_eq_false h3
      obtain rfl := Fin.out false (by unfold mayEv; simp [h3])
      clear h0 h1 h2 h3
      go_wp2_with fail
      go_ret
      exact ⟨by first | rfl | simp, HB.out⟩
    have q3 : decide (gn ≤ 60000) = true := decide_eq_true h3
    by_cases h4 : 0 ≤ pr
    rotate_left
    · have q4 : decide (0 ≤ pr) = false := decide_eq_false h4
      obtain rfl := Fin.out false (by unfold mayEv; simp [h4])
      clear h0 h1 h2 h3 h4
      go_wp2_with fail
      go_ret
      exact ⟨by first | rfl | simp, HB.out⟩
    have q4 : decide (0 ≤ pr) = true := decide_eq_true h4
    by_cases h5 : pr < 12
    rotate_left
    · have q5 : decide (pr < 12) = false := decide_eq_false h5
      obtain rfl := Fin.out false (by unfold mayEv; simp [h5])
      clear h0 h1 h2 h3 h4 h5
      go_wp2_with fail
      go_ret
      exact ⟨by first | rfl | simp, HB.out⟩
    have q5 : decide (pr < 12) = true := decide_eq_true h5
    obtain rfl := Fin.out true (by unfold mayEv; simp [h0, h1, h2, h3, h4, h5])
    clear h0 h1 h2 h3 h4 h5
    go_wp2_with fail
    go_ret
    exact ⟨by first | rfl | simp, HB.out⟩
  have kq : decide (kd = 1) = false := decide_eq_false k1
  by_cases k2 : kd = 2
  · subst k2
    clear k1 kq
    by_cases h0 : 0 ≤ sl
    rotate_left
    · have q0 : decide (0 ≤ sl) = false := decide_eq_false h0
      obtain rfl := Fin.out false (by unfold mayEv; simp [h0])
      clear h0
      go_wp2_with fail
      go_ret
      exact ⟨by first | rfl | simp, HB.out⟩
    have q0 : decide (0 ≤ sl) = true := decide_eq_true h0
    by_cases h1 : sl < 8
    rotate_left
    · have q1 : decide (sl < 8) = false := decide_eq_false h1
      obtain rfl := Fin.out false (by unfold mayEv; simp [h1])
      clear h0 h1
      go_wp2_with fail
      go_ret
      exact ⟨by first | rfl | simp, HB.out⟩
    have q1 : decide (sl < 8) = true := decide_eq_true h1
    by_cases h2 : 1 ≤ gn
    rotate_left
    · have q2 : decide (1 ≤ gn) = false := decide_eq_false h2
      obtain rfl := Fin.out false (by unfold mayEv; simp [h2])
      clear h0 h1 h2
      go_wp2_with fail
      go_ret
      exact ⟨by first | rfl | simp, HB.out⟩
    have q2 : decide (1 ≤ gn) = true := decide_eq_true h2
    by_cases h3 : gn ≤ 60000
    rotate_left
    · have q3 : decide (gn ≤ 60000) = false := decide_eq_false h3
      obtain rfl := Fin.out false (by unfold mayEv; simp [h3])
      clear h0 h1 h2 h3
      go_wp2_with fail
      go_ret
      exact ⟨by first | rfl | simp, HB.out⟩
    have q3 : decide (gn ≤ 60000) = true := decide_eq_true h3
    by_cases h4 : 0 ≤ pr
    rotate_left
    · have q4 : decide (0 ≤ pr) = false := decide_eq_false h4
      obtain rfl := Fin.out false (by unfold mayEv; simp [h4])
      clear h0 h1 h2 h3 h4
      go_wp2_with fail
      go_ret
      exact ⟨by first | rfl | simp, HB.out⟩
    have q4 : decide (0 ≤ pr) = true := decide_eq_true h4
    by_cases h5 : pr < 12
    rotate_left
    · have q5 : decide (pr < 12) = false := decide_eq_false h5
      obtain rfl := Fin.out false (by unfold mayEv; simp [h5])
      clear h0 h1 h2 h3 h4 h5
      go_wp2_with fail
      go_ret
      exact ⟨by first | rfl | simp, HB.out⟩
    have q5 : decide (pr < 12) = true := decide_eq_true h5
    obtain rfl := Fin.out true (by unfold mayEv; simp [h0, h1, h2, h3, h4, h5])
    clear h0 h1 h2 h3 h4 h5
    go_wp2_with fail
    go_ret
    exact ⟨by first | rfl | simp, HB.out⟩
  have kr : decide (kd = 2) = false := decide_eq_false k2
  obtain rfl := Fin.out false (by unfold mayEv; simp [k1, k2])
  go_wp2_with fail
  go_ret
  exact ⟨by first | rfl | simp, HB.out⟩
theorem stickMay_b (i : Inp) (w0 : World) :
    Calls Tryz.prog 122 #[.agg (inpL i).toArray] w0 fun e w' => e = .returned (.bool (mayIn i)) ∧ Below w0.heap.size w0 w' := by
  have H := Sb.start w0
  obtain ⟨x, y, b⟩ := i
  have hm : mayIn ⟨x, y, b⟩ = (decide (-127 ≤ x) && decide (-127 ≤ y)) := rfl
  have Hm := Lib.hid hm
  clear hm
  unfold inpL
  dsimp only
  go_enter Tryz.func122, Tryz.ntmps122
  go_upto_region 1 with (refine wb_box H rfl 39 _ rfl #[.int .i8 x, .int .i8 y, .int .u8 b] rfl ?_; clear H; intro b1 w H)
  have c0 : w.cell? ⟨b1, 0, none⟩ = some (.int .i8 x) := cell_of_row w b1 0 _ 39 (0, 0) (H.holds _ (List.mem_cons_self ..))
  have c1 : w.cell? ⟨b1, 1, none⟩ = some (.int .i8 y) := cell_of_row w b1 1 _ 39 (0, 0) (H.holds _ (List.mem_cons_self ..))
  have HB := Lib.hid H.below
  clear H
  by_cases h0 : -127 ≤ x
  · have q0 : decide (-127 ≤ x) = true := decide_eq_true h0
    go_wp2_with fail
    go_ret
    exact ⟨by rw [Hm.out, q0]; first | rfl | simp, HB.out⟩
  · have q0 : decide (-127 ≤ x) = false := decide_eq_false h0
    go_wp2_with fail
    go_ret
    exact ⟨by rw [Hm.out, q0]; first | rfl | simp, HB.out⟩
theorem badIn_b (i : Inp) (w0 : World) :
    Calls Tryz.prog 121 #[.agg (inpL i).toArray] w0 fun e w' => e = .returned (.bool (!mayIn i)) ∧ Below w0.heap.size w0 w' := by
  have H := Sb.start w0
  go_enter Tryz.func121, Tryz.ntmps121
  go_wp2_with (first | (refine wb_box H rfl 39 _ rfl (inpL i).toArray rfl ?_; clear H; intro b1 w H) | (refine wb_whole H rfl 0 39 _ rfl _ rfl (inpL i).toArray rfl _ Tryz.underlying39 rfl 3 info60s rfl ?_))
  refine (stickMay_b i _).mono ?_; rintro e w' ⟨rfl, hb⟩
  replace H := H.call hb
  clear hb
  go_wp2_with fail
  go_ret
  exact ⟨by first | rfl | simp, H.below⟩
theorem containsIn_b (b p : Nat) (I : List Inp) (w0 : World) (h8 : I.length = 8) (hb : b < w0.heap.size) (h : ∀ j v, (I.flatMap inpL)[j]? = some v → w0.cell? ⟨b, p + j, none⟩ = some v) :
    Calls Tryz.prog 120 #[.slice (some ⟨b, p, none⟩) 8 8, .func (.func 121) #[] #[]] w0 fun e w' => e = .returned (.bool (!I.all mayIn)) ∧ Below w0.heap.size w0 w' := by
  have HIx : Hid (Calls Tryz.prog 136 #[.slice (some ⟨b, p, none⟩) 8 8, .func (.func 121) #[] #[]] w0 fun e w' => (∃ r : Int, e = .returned (.int .i64 r) ∧ decide (0 ≤ r) = !I.all mayIn) ∧ Below w0.heap.size w0 w') := by
    have H := Lib.hid h
    have H8 := Lib.hid h8
    have HBb := Lib.hid hb
    clear h h8 hb
    refine Lib.hid ?_
    go_enter Tryz.func136, Tryz.ntmps136
    go_wp2_with fail
    go_loopw [8] (fun i W => ∃ k : Nat, k ≤ 8 ∧ i = .int .i64 k ∧ Hid (Below w0.heap.size w0 W) ∧ Hid ((I.take k).all mayIn = true)) (fun i _ => 8 - (intOf i).toNat)
    case atStart => exact ⟨0, Nat.zero_le _, rfl, Lib.hid (Below.refl _ _), Lib.hid rfl⟩
    case round =>
      obtain ⟨k, hk, rfl, HG, HA⟩ := hrel
      by_cases hlt : k < 8
      · obtain ⟨i, hi⟩ : ∃ i, I[k]? = some i := ⟨I[k]'(by rw [H8.out]; exact hlt), List.getElem?_eq_getElem _⟩
        have hA := inp_at (W := wr) (g := b) (o := p) (fun j v hv => (HG.out.cell (p := ⟨b, p + j, none⟩) HBb.out).trans (H.out j v hv)) k i hi
        have HC := Lib.hid (fun w => badIn_b i w)
        have Hi := Lib.hid hi
        obtain ⟨c0, c1, c2⟩ := hA
        clear hi
        go_wp2_with fail
        refine (HC.out _).mono ?_; rintro e w' ⟨rfl, hg⟩
        have HG' := Lib.hid (HG.out.trans (hg.mono HG.out.size))
        clear hg HG HC c0 c1 c2
        have htk : (I.take (k + 1)).all mayIn = mayIn i := by
          obtain ⟨hk', e⟩ := List.getElem?_eq_some_iff.1 Hi.out
          rw [List.take_succ_eq_append_getElem hk', e, List.all_append, HA.out]
          simp
        cases hm : mayIn i with
        | false =>
          go_wp2_with fail
          go_ret
          refine ⟨⟨(k : Int), rfl, ?_⟩, HG'.out⟩
          have : I.all mayIn = false := by
            rw [List.all_eq_false]
            exact ⟨i, List.mem_of_getElem? Hi.out, by simp [hm]⟩
          rw [this]
          simp
        | true =>
          have HT := Lib.hid (htk.trans hm)
          clear htk hm
          go_wp2_with fail
          exact ⟨⟨k + 1, hlt, rfl, HG', HT⟩, by simp only [intOf]; omega⟩
      · obtain rfl : k = 8 := by omega
        go_wp2_with fail
        go_ret
        refine ⟨⟨-1, rfl, ?_⟩, HG.out⟩
        have := HA.out
        rw [List.take_of_length_le (by rw [H8.out]; decide)] at this
        rw [this]
        rfl
  clear h h8 hb
  go_enter Tryz.func120, Tryz.ntmps120
  go_wp2_with fail
  refine HIx.out.mono ?_; rintro e w' ⟨⟨r, rfl, hr⟩, hb⟩
  have HR := Lib.hid hr
  have HB := Lib.hid hb
  clear hr hb HIx
  go_wp2_with fail
  go_ret
  exact ⟨by rw [← HR.out]; rfl, HB.out⟩
def prevO (E : List Evt) (k : Nat) : Option Evt := if k = 0 then none else E[k - 1]?
theorem info60e : (Tryz.prog.info? 60).map (·.size) = some 4 := by kernel_rfl
theorem prevO_succ (E : List Evt) (k : Nat) : prevO E (k + 1) = E[k]? := by simp [prevO]
theorem evsMay_cons (p : Option Evt) (x : Evt) (l : List Evt) : evsMay p (x :: l) = (mayEv x && (match p with | none => true | some a => evPair a x) && evsMay (some x) l) := by
  cases p with
  | none => simp [evsMay]
  | some a => simp [evsMay]
theorem evsMay_step {E : List Evt} {k : Nat} {x : Evt} (hx : E[k]? = some x) : evsMay (prevO E k) (E.drop k) = (mayEv x && (match prevO E k with | none => true | some a => evPair a x) && evsMay (prevO E (k + 1)) (E.drop (k + 1))) := by
  obtain ⟨hk, e⟩ := List.getElem?_eq_some_iff.1 hx
  rw [List.drop_eq_getElem_cons hk, e, evsMay_cons, prevO_succ, hx]
set_option maxHeartbeats 8000000 in
theorem entMay_b (e : Ent) (sl : Value) (w0 : World) (h8 : e.ins.length = 8) (hin : EvW w0 sl e.evs) (hn : e.evs.length ≤ 1000) :
    Calls Tryz.prog 93 #[.agg (entC e sl)] w0 fun e' w' => e' = .returned (.bool (entMay e)) ∧ Below w0.heap.size w0 w' := by
  have H := Sb.start w0
  have H8 := Lib.hid h8
  have HI := Lib.hid hin
  have H0 := Lib.hid (en_fr (e := e) (sl := sl))
  have H1 := Lib.hid (en_sl (e := e) (sl := sl))
  have HN := Lib.hid (en_ins (e := e) (sl := sl))
  obtain ⟨ad, c, rfl⟩ := hin.form
  obtain ⟨r, hr⟩ : ∃ r, entMay e = r := ⟨_, rfl⟩
  rw [hr]
  have HR := Lib.hid hr
  generalize entC e (.slice ad e.evs.length c) = ec at *
  obtain ⟨fr, E, I⟩ := e
  dsimp only at *
  have hfin : ∀ b, entMay ⟨fr, E, I⟩ = b → b = r := fun b h => h.symm.trans HR.out
  have Fin := Lib.hid hfin
  have Hn := Lib.hid (show (E.length : Int) ≤ 1000 by omega)
  clear hr h8 hin hn hfin HR
  go_enter Tryz.func93, Tryz.ntmps93
  go_upto_region 1 with (refine wb_box H rfl 42 _ rfl ec rfl ?_; clear H; intro b1 w H)
  have c0 : w.cell? ⟨b1, 0, none⟩ = some (.int .i64 fr) := (cell_of_row w b1 0 _ 42 (0, 0) (H.holds _ (List.mem_cons_self ..))).trans H0.out
  by_cases f0 : 0 ≤ fr
  rotate_left
  · have q0 : decide (fr < 0) = true := decide_eq_true (by omega)
    obtain rfl := Fin.out false (by unfold entMay; simp [f0])
    go_wp2_with fail
    go_ret
    exact ⟨by first | rfl | simp, H.below⟩
  have q0 : decide (fr < 0) = false := decide_eq_false (by omega)
  by_cases f1 : fr < 1048576
  rotate_left
  · have q1 : decide (1048576 ≤ fr) = true := decide_eq_true (by omega)
    obtain rfl := Fin.out false (by unfold entMay; simp [f1])
    go_wp2_with fail
    go_ret
    exact ⟨by first | rfl | simp, H.below⟩
  have q1 : decide (1048576 ≤ fr) = false := decide_eq_false (by omega)
  have Ff := Lib.hid (show 0 ≤ fr ∧ fr < 1048576 from ⟨f0, f1⟩)
  clear f0 f1
  go_upto_region 3 with fail
  have hn' := Hn.out
  clear c0 q0 q1
  go_wp2_with (refine wb_cell H rfl 0 36 _ rfl _ 1 rfl _ _ rfl Tryz.isAgg36 (.slice ad E.length c) H1.out ?_)
  have HB := Lib.hid H
  clear H hn'
  go_loopw [17] (fun i W => ∃ k : Nat, k ≤ E.length ∧ i = .int .i64 k ∧ Hid (Sb [] w0 W [(b1, ec, 42)] []) ∧ Hid (evsMay none E = evsMay (prevO E k) (E.drop k))) (fun i _ => E.length - (intOf i).toNat)
  case atStart => exact ⟨0, Nat.zero_le _, rfl, HB, Lib.hid rfl⟩
  case round =>
    clear HB
    obtain ⟨k, hk, rfl, HB, HA⟩ := hrel
    have hn' := Hn.out
    by_cases hlt : k < E.length
    · obtain ⟨x, hx⟩ : ∃ x, E[k]? = some x := ⟨E[k], List.getElem?_eq_getElem hlt⟩
      obtain ⟨g, o, had, hg, hcs⟩ : ∃ g o, ad = some ⟨g, o, none⟩ ∧ g < w0.heap.size ∧ ∀ j v, (evsL E)[j]? = some v → w0.cell? ⟨g, o + j, none⟩ = some v := by
        rcases HI.out with ⟨e, _⟩ | ⟨g, o, c', e, hg, hc⟩
        · rw [e] at hlt; exact absurd hlt (Nat.not_lt_zero _)
        · injection e with e1 e2 e3
          exact ⟨g, o, e1, hg, hc⟩
      subst had
      have hE : ∀ W l, Sb [] w0 W l [] → ∀ j v, (evsL E)[j]? = some v → W.cell? ⟨g, o + j, none⟩ = some v := fun W l h j v hv => (World.cell?_of_block (a := ⟨g, o + j, none⟩) (h.fr g hg (by simp))).trans (hcs j v hv)
      have HE := Lib.hid hE
      have Hst := Lib.hid (HA.out.trans (evsMay_step hx))
      have Hx := Lib.hid hx
      have H := HB.out
      obtain ⟨c0, c1, c2, c3⟩ := ev_at (hE _ _ H) k x hx
      have HC := Lib.hid (fun w => mayEv_b x w)
      clear HB HA hx hE hcs hg
      go_upto_region 6 with (first | (refine wb_alloc H rfl 60 rfl _ Tryz.zeroValue60 ?_; clear H; intro b4 w H) | (refine wb_put H rfl 0 60 _ _ rfl _ 0 rfl _ _ rfl (.agg #[.int .i64 x.kind, .int .i64 x.slot, .int .i64 x.gen, .int .i64 x.peer]) rfl 4 info60e rfl (Nat.le_of_ble_eq_true rfl) rfl (evC x) rfl ?_; clear H; intro w H))
      replace H : Sb [] w0 w [(b4, evC x, 60), (b1, ec, 42)] [] := H
      clear c0 c1 c2 c3
      go_wp2_with (refine wb_whole H rfl 0 60 _ rfl _ rfl (evC x) rfl _ Tryz.underlying60 rfl 4 info60e rfl ?_)
      refine (HC.out _).mono ?_; rintro e w' ⟨rfl, hb⟩
      replace H := H.call hb
      clear hb HC
      cases hm : mayEv x with
      | false =>
        obtain rfl := Fin.out false (by
          have := Hst.out
          rw [hm, Bool.false_and, Bool.false_and] at this
          unfold entMay
          simp [this])
        go_wp2_with fail
        go_ret
        exact ⟨by first | rfl | simp, H.below⟩
      | true =>
        by_cases hk0 : k = 0
        · subst hk0
          have HA2 : Hid (evsMay none E = evsMay (prevO E (0 + 1)) (E.drop (0 + 1))) := Lib.hid (by
            have := Hst.out
            rw [hm] at this
            simpa [prevO] using this)
          clear hm
          go_wp2_with fail
          exact ⟨⟨0 + 1, hlt, rfl, Lib.hid H.tail, HA2⟩, by simp only [intOf]; omega⟩
        · obtain ⟨m, rfl⟩ : ∃ m, k = m + 1 := ⟨k - 1, by omega⟩
          obtain ⟨a, ha⟩ : ∃ a, E[m]? = some a := ⟨E[m]'(by omega), List.getElem?_eq_getElem _⟩
          have Hst2 : Hid (evsMay none E = (evPair a x && evsMay (prevO E (m + 1 + 1)) (E.drop (m + 1 + 1)))) := Lib.hid (by
            have := Hst.out
            rw [hm, prevO_succ, ha] at this
            simpa using this)
          have hmn : ((m : Int) + 1) ≠ 0 := by omega
          have hmn' : ¬ ((m : Int) + 1) = 0 := by omega
          have hml : (m : Int) < E.length := by omega
          clear hm Hst
          go_upto_region 9 with fail
          obtain ⟨c0, c1, c2, c3⟩ := ev_at (HE.out _ _ H) m a ha
          clear ha
          go_upto_region 10 with (first | (refine wb_cell H rfl 1 36 _ rfl _ 1 rfl _ _ rfl Tryz.isAgg36 (.slice (some ⟨g, o, none⟩) E.length c) H1.out ?_) | (refine wb_alloc H rfl 60 rfl _ Tryz.zeroValue60 ?_; clear H; intro b5 w H) | (refine wb_put H rfl 0 60 _ _ rfl _ 0 rfl _ _ rfl (.agg #[.int .i64 a.kind, .int .i64 a.slot, .int .i64 a.gen, .int .i64 a.peer]) rfl 4 info60e rfl (Nat.le_of_ble_eq_true rfl) rfl (evC a) rfl ?_; clear H; intro w H))
          replace H : Sb [] w0 w [(b5, evC a, 60), (b4, evC x, 60), (b1, ec, 42)] [] := H
          clear c0 c1 c2 c3
          have a0 : w.cell? ⟨b5, 0, none⟩ = some (.int .i64 a.kind) := cell_of_row w b5 0 _ 60 (0, 0) (H.holds _ (List.mem_cons_self ..))
          have a1 : w.cell? ⟨b5, 1, none⟩ = some (.int .i64 a.slot) := cell_of_row w b5 1 _ 60 (0, 0) (H.holds _ (List.mem_cons_self ..))
          have x0 : w.cell? ⟨b4, 0, none⟩ = some (.int .i64 x.kind) := cell_of_row w b4 0 _ 60 (0, 0) (H.holds _ (List.mem_cons_of_mem _ (List.mem_cons_self ..)))
          have x1 : w.cell? ⟨b4, 1, none⟩ = some (.int .i64 x.slot) := cell_of_row w b4 1 _ 60 (0, 0) (H.holds _ (List.mem_cons_of_mem _ (List.mem_cons_self ..)))
          have HBw := Lib.hid H.below
          have HT := Lib.hid H.tail.tail
          clear H
          have hbad : evPair a x = false → false = r := fun h => Fin.out false (by
            have := Hst2.out
            rw [h, Bool.false_and] at this
            unfold entMay
            simp [this])
          have hgood : evPair a x = true → evsMay none E = evsMay (prevO E (m + 1 + 1)) (E.drop (m + 1 + 1)) := fun h => by
            have := Hst2.out
            rw [h, Bool.true_and] at this
            exact this
          have Hbad := Lib.hid hbad
          have Hgood := Lib.hid hgood
          clear hbad hgood
          by_cases p1 : a.kind < x.kind
          · have q1 : decide (a.kind < x.kind) = true := decide_eq_true p1
            obtain rfl := Hbad.out (by unfold evPair; simp [p1])
            go_wp2_with fail
            go_ret
            exact ⟨by first | rfl | simp, HBw.out⟩
          have q1 : decide (a.kind < x.kind) = false := decide_eq_false p1
          by_cases p2 : a.kind = x.kind
          rotate_left
          · have q2 : decide (a.kind = x.kind) = false := decide_eq_false p2
            have HA2 := Lib.hid (Hgood.out (by unfold evPair; simp [p2]; omega))
            go_wp2_with fail
            exact ⟨⟨m + 1 + 1, hlt, rfl, HT, HA2⟩, by simp only [intOf]; omega⟩
          have q2 : decide (a.kind = x.kind) = true := decide_eq_true p2
          by_cases p3 : x.slot ≤ a.slot
          · have q3 : decide (x.slot ≤ a.slot) = true := decide_eq_true p3
            obtain rfl := Hbad.out (by unfold evPair; simp [p2, p3])
            go_wp2_with fail
            go_ret
            exact ⟨by first | rfl | simp, HBw.out⟩
          · have q3 : decide (x.slot ≤ a.slot) = false := decide_eq_false p3
            have HA2 := Lib.hid (Hgood.out (by unfold evPair; simp [p2]; omega))
            go_wp2_with fail
            exact ⟨⟨m + 1 + 1, hlt, rfl, HT, HA2⟩, by simp only [intOf]; omega⟩
    · obtain rfl : k = E.length := by omega
      have hev : evsMay none E = true := by rw [HA.out, List.drop_length]; cases prevO E E.length <;> rfl
      have H := HB.out
      have Hfin : Hid (I.all mayIn = r) := Lib.hid (Fin.out _ (by unfold entMay; simp [hev, Ff.out.1, Ff.out.2]))
      clear HB HA hev hlt hk
      go_wp2_with fail
      refine (containsIn_b b1 2 I _ H8.out (H.lt _ (List.mem_cons_self ..)) (fun j v hv => (cell_of_row _ b1 (2 + j) _ 42 (0, 0) (H.holds _ (List.mem_cons_self ..))).trans (HN.out j v hv))).mono ?_
      rintro e w' ⟨rfl, hb⟩
      replace H := H.call hb
      clear hb
      rw [Hfin.out]
      go_wp2_with fail
      go_ret
      exact ⟨by simp, H.below⟩
end Go.Proofs.YtdopfonebpklkaaGreat.game
namespace Go.Proofs.YtdopfonebpklkaaGreat.game
open Go.ChangeShapes Go.WideShapes Go.ChangeAt Go.RowKit dice
set_option maxRecDepth 100000

section
variable {ops : Array Oper} {rest : List Oper} {op : Oper} {a : Act} {w : World} {Q : Act → Prop}
theorem ws_row (hw : Region.wanted op (yielded ops a.tmps) = true) (ty : TypeId) (x : Operand) (ho : op.op = .load ty x) (b o : Nat) (hx : a.eval x = .pointer (some ⟨b, o, none⟩)) (vs : List Value) (hr : w.rangeAt b o vs)
    (d : TypeDesc) (hu : Tryz.prog.underlying ty = some d) (hd : d.isRow = true) (hi : (Tryz.prog.info? ty).map (·.size) = some vs.length) (h : wpStill Tryz.prog ops w Q rest (a.put op.dst (.agg vs.toArray))) : wpStill Tryz.prog ops w Q (op :: rest) a := by
  refine wpStill_step fun K hK => ?_
  rw [if_pos hw]
  unfold Oper.still execOp
  simp only [ho, hx, Instr.loadAt, Instr.sureAddr, Sem.run_bind, Sem.run_pure, Result.andThen_ok, run_loadVar_mid w b o ty vs d hr hu hd hi]
  exact ⟨rfl, hK _ h⟩
end
theorem Sb.range {Hs : List Nat} {W0 w : World} {l : List Blk} {R : List RowS} (h : Sb Hs W0 w l R) {g : Nat} {c : Array Value} {t : TypeId} (hm : (g, c, t) ∈ l) : w.rangeAt g 0 c.toList := by
  intro j v hv
  rw [Nat.zero_add, cell_of_row w g j c t (0, 0) (h.holds _ hm)]
  simpa using hv
/-- Ships stay, scores do not fall. -/
def Grows (S S' : List Shp) : Prop := S'.length = S.length ∧ ∀ (j : Nat) (t : Shp), S[j]? = some t → ∃ t' : Shp, S'[j]? = some t' ∧ t'.on = t.on ∧ t.score ≤ t'.score
theorem Grows.refl (S : List Shp) : Grows S S := ⟨rfl, fun _ t h => ⟨t, h, rfl, Int.le_refl _⟩⟩
theorem Grows.trans {A B C : List Shp} (h : Grows A B) (k : Grows B C) : Grows A C :=
  ⟨k.1.trans h.1, fun j t ht => by
    obtain ⟨t1, h1, o1, s1⟩ := h.2 j t ht
    obtain ⟨t2, h2, o2, s2⟩ := k.2 j t1 h1
    exact ⟨t2, h2, o2.trans o1, Int.le_trans s1 s2⟩⟩
theorem Grows.set {S : List Shp} (k : Nat) (t t' : Shp) (ht : S[k]? = some t) (ho : t'.on = t.on) (hs : t.score ≤ t'.score) : Grows S (S.set k t') := by
  have hk := (List.getElem?_eq_some_iff.1 ht).1
  refine ⟨List.length_set, fun j u hu => ?_⟩
  by_cases e : k = j
  · subst e
    rw [ht] at hu
    cases hu
    exact ⟨t', List.getElem?_set_self hk, ho, hs⟩
  · exact ⟨u, by rw [List.getElem?_set_ne e]; exact hu, rfl, Int.le_refl _⟩
theorem sailF_same (k : Nat) (t : Shp) (i : Inp) (out : List Sht) : (sailF k t i out).t.on = t.on ∧ (sailF k t i out).t.score = t.score := by
  unfold sailF
  split
  · exact ⟨rfl, rfl⟩
  · split <;> exact ⟨rfl, rfl⟩
theorem sailL_grows : ∀ (S : List Shp) (k : Nat) (I : List Inp) (out : List Sht), Grows S (sailL k S I out).ships
  | [], _, _, _ => Grows.refl _
  | t :: S, k, I, out => by
    unfold sailL
    by_cases hon : t.on = true
    · simp only [if_pos hon]
      have ih := sailL_grows S (k + 1) I.tail (sailF k t (hdI I) out).out
      have hs := sailF_same k t (hdI I) out
      refine ⟨by rw [List.length_cons, List.length_cons, ih.1], fun j u hu => ?_⟩
      cases j with
      | zero =>
        simp only [List.getElem?_cons_zero, Option.some.injEq] at hu
        subst hu
        exact ⟨_, rfl, hs.1, by rw [hs.2]; exact Int.le_refl _⟩
      | succ j => exact ih.2 j u hu
    · simp only [if_neg hon]
      have ih := sailL_grows S (k + 1) I.tail out
      refine ⟨by rw [List.length_cons, List.length_cons, ih.1], fun j u hu => ?_⟩
      cases j with
      | zero =>
        simp only [List.getElem?_cons_zero, Option.some.injEq] at hu
        subst hu
        exact ⟨_, rfl, rfl, Int.le_refl _⟩
      | succ j => exact ih.2 j u hu
theorem flyF_grows (d : Int) (S : List Shp) (s : Sht) (h8 : S.length = 8) (hok : ∀ t ∈ S, t.ok) : Grows S (flyF d S s).ships := by
  unfold flyF
  split
  · exact Grows.refl _
  · cases hf : firstHit (flown s) S with
    | none => exact Grows.refl _
    | some k =>
      dsimp only
      unfold firstHit at hf
      have hk8 : k < 8 := List.mem_range.1 (List.mem_of_find?_eq_some hf)
      obtain ⟨t, ht⟩ : ∃ t, S[k]? = some t := ⟨S[k]'(by omega), List.getElem?_eq_getElem _⟩
      have htD : S.getD k zShp = t := by rw [List.getD_eq_getElem?_getD, ht]; rfl
      unfold hitS
      rw [htD]
      have g1 : Grows S (S.set k (hurt t (px d) (py d))) := Grows.set k t _ ht rfl (Int.le_refl _)
      dsimp only
      split
      · rename_i ho
        refine g1.trans ?_
        cases hu : (S.set k (hurt t (px d) (py d)))[s.owner.toNat]? with
        | none => rw [List.getD_eq_getElem?_getD, hu] at ho; cases ho
        | some u =>
          have huD : (S.set k (hurt t (px d) (py d))).getD s.owner.toNat zShp = u := by rw [List.getD_eq_getElem?_getD, hu]; rfl
          rw [huD] at ho ⊢
          refine Grows.set _ u _ hu rfl ?_
          have huok : u.score ≤ 1073741824 := by
            have hmem := List.mem_of_getElem? hu
            rcases List.mem_or_eq_of_mem_set hmem with h | h
            · have := hok u h
              unfold Shp.ok OkShip at this
              rw [if_pos ho] at this
              omega
            · have h2 := hok t (List.mem_of_getElem? ht)
              rw [h] at ho ⊢
              unfold Shp.ok OkShip at h2
              rw [if_pos (show t.on = true from ho)] at h2
              show t.score ≤ _
              omega
          show u.score ≤ min (u.score + 1) 1073741824
          omega
      · exact g1
theorem flyAll_grows : ∀ (L : List Sht) (d : Int) (S : List Shp), S.length = 8 → (∀ t ∈ S, t.ok) → Grows S (flyAll d S L).ships
  | [], _, _, _, _ => Grows.refl _
  | s :: L, d, S, h8, h => by
    obtain ⟨a1, a2⟩ := flyF_keep d S s h8 h
    exact (flyF_grows d S s h8 h).trans (flyAll_grows L _ _ a1 a2)
theorem stepG_grows {g : Gme} (I : List Inp) (h : g.ok) : Grows g.S (stepG g I).S := by
  obtain ⟨a1, a2, a3, a4⟩ := sailL_ok g.S 0 I g.L (by rw [h.s8]; omega) h.ships h.shots h.most
  exact (sailL_grows g.S 0 I g.L).trans (flyAll_grows _ _ _ (by rw [a1, h.s8]) a2)
end Go.Proofs.YtdopfonebpklkaaGreat.game
namespace Go.Proofs.YtdopfonebpklkaaGreat.game
open Go.ChangeShapes Go.WideShapes Go.ChangeAt Go.RowKit dice
set_option maxRecDepth 100000

def InsAt (W : World) (ad : Option Addr) (I : List Inp) : Prop :=
  0 < I.length → ∃ g o, ad = some ⟨g, o, none⟩ ∧ g < W.heap.size ∧ ∀ j v, (I.flatMap inpL)[j]? = some v → W.cell? ⟨g, o + j, none⟩ = some v
theorem Sb.old {Hs : List Nat} {W0 w : World} {l : List Blk} {R : List RowS} (h : Sb Hs W0 w l R) (hn : Hs = []) {p : Addr} (hp : p.block < W0.heap.size) : w.cell? p = W0.cell? p := by
  subst hn
  exact h.below.cell hp
end Go.Proofs.YtdopfonebpklkaaGreat.game
namespace Go.Proofs.YtdopfonebpklkaaGreat.game
open Go.ChangeShapes Go.WideShapes Go.ChangeAt Go.RowKit dice
set_option maxRecDepth 100000

section
variable {w0 w : World} {l : List Blk} {R : List RowS}
variable {ops : Array Oper} {rest : List Oper} {op : Oper} {a : Act} {Q : Exit → Act → World → Prop}
theorem wb_oldRow (H : Sb [] w0 w l R) (hw : Region.wanted op (yielded ops a.tmps) = true) (ty : TypeId) (x : Operand) (ho : op.op = .load ty x) (g o : Nat) (hx : a.eval x = .pointer (some ⟨g, o, none⟩)) (vs : List Value) (hg : g < w0.heap.size) (hvs : w0.rangeAt g o vs)
    (d : TypeDesc) (hu : Tryz.prog.underlying ty = some d) (hd : d.isRow = true) (hi : (Tryz.prog.info? ty).map (·.size) = some vs.length)
    (h : wpList Tryz.prog ops Q rest (a.put op.dst (.agg vs.toArray)) w) : wpList Tryz.prog ops Q (op :: rest) a w :=
  BigFrame.wpList_want hw fun _ hK => wp_load_mid ty x ho g o hx vs d (fun j v hv => (H.old rfl (p := ⟨g, o + j, none⟩) hg).trans (hvs j v hv)) hu hd hi (hK _ _ h)
theorem wb_oldCell (H : Sb [] w0 w l R) (hw : Region.wanted op (yielded ops a.tmps) = true) (ty : TypeId) (x : Operand) (ho : op.op = .load ty x) (g o : Nat) (hx : a.eval x = .pointer (some ⟨g, o, none⟩)) (v : Value) (hg : g < w0.heap.size) (hv : w0.cell? ⟨g, o, none⟩ = some v)
    (ha : ∀ w, (isAgg ty).run Tryz.prog w = .ok false w)
    (h : wpList Tryz.prog ops Q rest (a.put op.dst v) w) : wpList Tryz.prog ops Q (op :: rest) a w := by
  refine BigFrame.wpList_want hw fun _ hK => ?_
  have hc := (H.old rfl (p := ⟨g, o, none⟩) hg).trans hv
  unfold Oper.wp execOp
  simp only [ho, hx, Instr.loadAt, Instr.sureAddr, Sem.run_bind, Sem.run_pure, Result.andThen_ok, loadVar, ha, Bool.false_eq_true, if_false, run_load, hc]
  exact hK _ _ h
end
theorem range3 {w : World} {g o : Nat} {i : Inp} (h : InpAt w g o i) : w.rangeAt g o [.int .i8 i.x, .int .i8 i.y, .int .u8 i.b] := fun j v hv => by
  match j, hv with
  | 0, hv => cases hv; exact h.x
  | 1, hv => cases hv; exact h.y
  | 2, hv => cases hv; exact h.b
  | j + 3, hv => simp at hv
end Go.Proofs.YtdopfonebpklkaaGreat.game
namespace Go.Proofs.YtdopfonebpklkaaGreat.game
open Go.ChangeShapes Go.WideShapes Go.ChangeAt Go.RowKit dice
set_option maxRecDepth 100000

theorem isShot_b (t : Sht) (x : Int) (q : Nat) (w0 : World) (hq : w0.cell? ⟨q, 0, none⟩ = some (.int .i64 x)) (hlt : q < w0.heap.size) :
    Calls Tryz.prog 139 #[.agg (shotL t).toArray, .pointer (some ⟨q, 0, none⟩)] w0 fun e w' => e = .returned (.bool (decide (t.owner = x))) ∧ Below w0.heap.size w0 w' := by
  have H := Sb.start w0
  have HQ := Lib.hid hq
  have HL := Lib.hid hlt
  clear hq hlt
  go_enter Tryz.func139, Tryz.ntmps139
  go_upto_region 1 with (refine wb_box H rfl 93 _ rfl (shotL t).toArray rfl ?_; clear H; intro b2 w H)
  have c0 : w.cell? ⟨b2, 0, none⟩ = some (.int .i64 t.owner) := cell_of_row w b2 0 _ 93 (0, 0) (H.holds _ (List.mem_cons_self ..))
  have c1 : w.cell? ⟨q, 0, none⟩ = some (.int .i64 x) := (World.cell?_of_block (a := ⟨q, 0, none⟩) (H.fr q HL.out (by simp))).trans HQ.out
  go_wp2_with fail
  go_ret
  exact ⟨by first | rfl | simp, H.below⟩
/-- The first shot of an owner: its number, or -1. -/
def idxO (L : List Sht) (x : Int) : Int := match L.findIdx? (fun t => decide (t.owner = x)) with
  | some i => (i : Int)
  | none => -1
theorem part_at {L : List Sht} {k : Nat} {t : Sht} (h : L[k]? = some t) : ∀ j v, (shotL t)[j]? = some v → (cellsL L)[k * 6 + j]? = some v := fun j v hv => cellsL_at L k j t v h hv
theorem indexO_b (g cap q : Nat) (L : List Sht) (x : Int) (w0 : World) (hn : L.length ≤ 1000) (hg : g < w0.heap.size) (hq : q < w0.heap.size) (h : ∀ j v, (cellsL L)[j]? = some v → w0.cell? ⟨g, 0 + j, none⟩ = some v) (hx : w0.cell? ⟨q, 0, none⟩ = some (.int .i64 x)) :
    Calls Tryz.prog 114 #[.slice (some ⟨g, 0, none⟩) L.length cap, .func (.func 139) #[] #[.pointer (some ⟨q, 0, none⟩)]] w0 fun e w' => e = .returned (.int .i64 (idxO L x)) ∧ Below w0.heap.size w0 w' := by
  have H := Lib.hid h
  have HG0 := Lib.hid hg
  have HQ := Lib.hid hq
  have HX := Lib.hid hx
  have hn' : (L.length : Int) ≤ 1000 := by omega
  clear h hg hq hx hn
  go_enter Tryz.func114, Tryz.ntmps114
  go_wp2_with fail
  go_loopw [8] (fun i W => ∃ k : Nat, k ≤ L.length ∧ i = .int .i64 k ∧ Hid (Below w0.heap.size w0 W) ∧ Hid (∀ (j : Nat) (s : Sht), j < k → L[j]? = some s → s.owner ≠ x)) (fun i _ => L.length - (intOf i).toNat)
  case atStart => exact ⟨0, Nat.zero_le _, rfl, Lib.hid (Below.refl _ _), Lib.hid (fun j s hj => absurd hj (by omega))⟩
  case round =>
    obtain ⟨k, hk, rfl, HG, HA⟩ := hrel
    by_cases hlt : k < L.length
    · obtain ⟨t, ht⟩ : ∃ t, L[k]? = some t := ⟨L[k], List.getElem?_eq_getElem hlt⟩
      have hA : ShotAt wr g (0 + k * 6) t := shot_at (fun j v hv => (HG.out.cell (p := ⟨g, 0 + j, none⟩) HG0.out).trans (H.out j v hv)) k t ht
      have HC := Lib.hid (isShot_b t x q wr ((HG.out.cell (p := ⟨q, 0, none⟩) HQ.out).trans HX.out) (Nat.lt_of_lt_of_le HQ.out HG.out.size))
      have Ht := Lib.hid ht
      rw [Nat.zero_add] at hA
      obtain ⟨c0, c1, c2, c3, c4, c5⟩ := hA
      clear ht
      go_wp2_with fail
      refine HC.out.mono ?_; rintro e w' ⟨rfl, hg⟩
      have HG' := Lib.hid (HG.out.trans (hg.mono HG.out.size))
      clear hg HG HC c0 c1 c2 c3 c4 c5
      by_cases hp : t.owner = x
      · rw [decide_eq_true hp]
        go_wp2_with fail
        go_ret
        refine ⟨?_, HG'.out⟩
        have : L.findIdx? (fun t => decide (t.owner = x)) = some k := by
          obtain ⟨hk', e⟩ := List.getElem?_eq_some_iff.1 Ht.out
          exact List.findIdx?_eq_some_iff_getElem.2 ⟨hk', by rw [e]; simpa using hp, fun j hj => by simpa using HA.out j _ hj (List.getElem?_eq_getElem _)⟩
        have e : idxO L x = (k : Int) := by simp only [idxO, this]
        rw [e]
        rfl
      · rw [decide_eq_false hp]
        go_wp2_with fail
        exact ⟨⟨k + 1, hlt, rfl, HG', Lib.hid (fun j s' hj hs' => by
          by_cases e : j = k
          · subst e
            rw [Ht.out] at hs'
            injection hs' with hs'
            rw [← hs']; exact hp
          · exact HA.out j s' (by omega) hs')⟩, by simp only [intOf]; omega⟩
    · obtain rfl : k = L.length := by omega
      go_wp2_with fail
      go_ret
      refine ⟨?_, HG.out⟩
      have : L.findIdx? (fun t => decide (t.owner = x)) = none := by
        rw [List.findIdx?_eq_none_iff]
        intro t ht
        obtain ⟨j, hj⟩ := List.mem_iff_getElem?.1 ht
        have hjl := (List.getElem?_eq_some_iff.1 hj).1
        simpa using HA.out j t hjl hj
      have e : idxO L x = -1 := by simp only [idxO, this]
      rw [e]
      rfl
section
variable {Hs : List Nat} {w0 w : World} {l : List Blk} {R : List RowS}
variable {ops : Array Oper} {rest : List Oper} {op : Oper} {a : Act} {Q : Exit → Act → World → Prop}
theorem zeroCells_len (n : Nat) : (Builtin.zeroCells #[.int .i64 0, .int .i32 0, .int .i32 0, .int .i32 0, .int .i32 0, .int .i64 0] n).toList.length = n * 6 := by
  simp [Builtin.zeroCells]
theorem zeroCells_one (n : Nat) : ∀ u ∈ (Builtin.zeroCells #[.int .i64 0, .int .i32 0, .int .i32 0, .int .i32 0, .int .i32 0, .int .i64 0] n).toList, u.oneCell' = true := by
  intro u hu
  simp [Builtin.zeroCells] at hu
  obtain ⟨i, _, rfl⟩ := hu
  have h6 : i % 6 < 6 := Nat.mod_lt _ (by decide)
  generalize i % 6 = m at *
  match m, h6 with
  | 0, _ => rfl
  | 1, _ => rfl
  | 2, _ => rfl
  | 3, _ => rfl
  | 4, _ => rfl
  | 5, _ => rfl
theorem ex_clear {ev : Operand → Value} {o : Oper} (x : Operand) (v : Value) (w w' : World) (ho : o.op = .call { callee := .builtin .clear, args := #[x], argTypes := #[26] }) (hx : ev x = v) (hr : (Builtin.clear_ #[26] o.type #[v]).run Tryz.prog w = .ok (.tuple #[]) w') :
    (execOp ev o).run Tryz.prog w = .ok (.value (.tuple #[])) w' := by
  unfold execOp
  simp only [ho]
  simp [go_sem, hx, hr]
/-- clear(s) on a row of shots: what lies ahead of it stays. -/
theorem wb_clear (H : Sb Hs w0 w l R) (x : Operand) (ho : op.op = .call { callee := .builtin .clear, args := #[x], argTypes := #[26] }) (hw : Region.wanted op (yielded ops a.tmps) = true) (i g o n c : Nat) (cur : Array Value) (hx : a.eval x = .slice (some ⟨g, o, none⟩) n c) (hl : l[i]? = some (g, cur, 93)) (hfit : o + n * 6 ≤ cur.size)
    (h : ∀ w' cur', cur'.size = cur.size → (∀ j, j < o → cur'[j]? = cur[j]?) → Sb Hs w0 w' (l.set i (g, cur', 93)) R → wpList Tryz.prog ops Q rest (a.put op.dst (.tuple #[])) w') : wpList Tryz.prog ops Q (op :: rest) a w := by
  refine BigFrame.wpList_want hw fun _ hK => ?_
  cases n with
  | zero =>
    have hr : (Builtin.clear_ #[26] op.type #[.slice (some ⟨g, o, none⟩) 0 c]).run Tryz.prog w = .ok (.tuple #[]) w := by
      simp [Builtin.clear_, run_underlying Tryz.underlying26]
    unfold Oper.wp
    rw [ex_clear x _ w w ho hx hr]
    refine hK _ _ (h w cur rfl (fun _ _ => rfl) ?_)
    have hs : l.set i (g, cur, 93) = l := by
      apply List.ext_getElem?
      intro j
      rw [List.getElem?_set]
      split
      · rename_i e; subst e
        have hi := (List.getElem?_eq_some_iff.1 hl).1
        rw [if_pos hi, hl]
      · rfl
    rw [hs]
    exact H
  | succ n =>
    have hb := H.holds _ (List.mem_of_getElem? hl)
    have hst := run_storeCells_at (P := Tryz.prog) g o 93 (Builtin.zeroCells #[.int .i64 0, .int .i32 0, .int .i32 0, .int .i32 0, .int .i32 0, .int .i64 0] (n + 1)).toList 0 cur w hb (by rw [zeroCells_len]; omega) (zeroCells_one _)
    simp only [Nat.add_zero] at hst
    have hr : (Builtin.clear_ #[26] op.type #[.slice (some ⟨g, o, none⟩) (n + 1) c]).run Tryz.prog w = .ok (.tuple #[]) (w.setRow g (splice cur o (Builtin.zeroCells #[.int .i64 0, .int .i32 0, .int .i32 0, .int .i32 0, .int .i32 0, .int .i64 0] (n + 1)).toList)) := by
      simp [Builtin.clear_, run_underlying Tryz.underlying26, Value.cells, hst, splice]
    unfold Oper.wp
    rw [ex_clear x _ w _ ho hx hr]
    have hz := zeroCells_len (n + 1)
    refine hK _ _ (h _ _ ?_ ?_ (H.put i g cur _ 93 hl))
    · simp [splice, hz]; omega
    · intro j hj
      simp [splice]
      rw [List.getElem?_append_left (by simp; omega), List.getElem?_take, if_pos hj]
      simp
end
/-- What a row of shots holds, beside its spare. -/
def Pre (cur : Array Value) (L : List Sht) : Prop := ∀ (j : Nat) (v : Value), (cellsL L)[j]? = some v → cur[j]? = some v
theorem cellsL_append (A B : List Sht) : cellsL (A ++ B) = cellsL A ++ cellsL B := by simp [cellsL]
theorem splice_size (cur : Array Value) (o : Nat) (vs : List Value) (h : o + vs.length ≤ cur.size) : (splice cur o vs).size = cur.size := by
  simp [splice]; omega
theorem splice_at (cur : Array Value) (o : Nat) (vs : List Value) (h : o + vs.length ≤ cur.size) (j : Nat) : (splice cur o vs)[j]? = if j < o then cur[j]? else if j < o + vs.length then vs[j - o]? else cur[j]? := by
  unfold splice
  rw [List.getElem?_toArray]
  have hl : (cur.toList.take o).length = o := by simp; omega
  by_cases h1 : j < o
  · rw [if_pos h1, List.append_assoc, List.getElem?_append_left (by rw [hl]; exact h1), List.getElem?_take, if_pos h1]; simp
  · rw [if_neg h1]
    by_cases h2 : j < o + vs.length
    · rw [if_pos h2, List.getElem?_append_left (by simp; omega), List.getElem?_append_right (by omega), hl]
    · rw [if_neg h2, List.getElem?_append_right (by simp; omega), List.getElem?_drop]
      simp only [List.length_append, hl]
      rw [show o + vs.length + (j - (o + vs.length)) = j by omega]
      simp
theorem Pre.snoc {cur : Array Value} {A : List Sht} {t : Sht} (h : Pre cur A) (hf : A.length * 6 + 6 ≤ cur.size) : Pre (splice cur (A.length * 6) (shotL t)) (A ++ [t]) := by
  intro j v hv
  have hA : (cellsL A).length = A.length * 6 := length_cellsL A
  rw [splice_at _ _ _ (by simpa [shotL] using hf)]
  rw [cellsL_append, List.getElem?_append, hA] at hv
  by_cases h1 : j < A.length * 6
  · rw [if_pos h1] at hv ⊢
    exact h j v hv
  · rw [if_neg h1] at hv ⊢
    have hs : cellsL [t] = shotL t := by simp [cellsL]
    rw [hs] at hv
    have := (List.getElem?_eq_some_iff.1 hv).1
    rw [if_pos (by omega)]
    exact hv
/-- How far the deletion has come: m shots are kept out of the first j. -/
structure Kept (L : List Sht) (x : Int) (n m j : Nat) (A : List Sht) (c : Array Value) : Prop where
  a : A = (L.take j).filter fun s => decide (s.owner ≠ x)
  len : A.length = m
  size : c.size = n
  pre : Pre c A
  rest : ∀ (k : Nat) (v : Value), j * 6 ≤ k → (cellsL L)[k]? = some v → c[k]? = some v
theorem delete_some (g cap q : Nat) (cur : Array Value) (L : List Sht) (x : Int) (w0 : World) (hn : L.length ≤ 1000) (hc : L.length ≤ cap) (hcm : cap ≤ maxLen) (hsz : L.length * 6 ≤ cur.size) (hpre : Pre cur L) (hg : w0.heap[g]? = some (.cells cur 93 (0, 0))) (hqg : q ≠ g) (hq : q < w0.heap.size) (hx : w0.cell? ⟨q, 0, none⟩ = some (.int .i64 x)) :
    Calls Tryz.prog 138 #[.slice (some ⟨g, 0, none⟩) L.length cap, .func (.func 139) #[] #[.pointer (some ⟨q, 0, none⟩)]] w0 fun e w' => ∃ cur' : Array Value, e = .returned (.slice (some ⟨g, 0, none⟩) (L.filter fun s => decide (s.owner ≠ x)).length cap) ∧ cur'.size = cur.size ∧ Pre cur' (L.filter fun s => decide (s.owner ≠ x)) ∧ Sb [g] w0 w' [(g, cur', 93)] [] := by
  have hgl : g < w0.heap.size := (Array.getElem?_eq_some_iff.1 hg).1
  have H : Sb [g] w0 w0 [(g, cur, 93)] [] := ⟨rfl, rfl, rfl, Nat.le_refl _, fun _ _ _ => rfl, fun p hp => by rw [List.mem_singleton] at hp; subst hp; exact hg, fun p hp => by rw [List.mem_singleton] at hp; subst hp; exact .inr (List.mem_cons_self ..), by simp, fun _ h => by simp at h, fun _ h => by simp at h, fun _ h => by simp at h, by simp⟩
  have HI := Lib.hid (indexO_b g cap q L x w0 hn hgl hq (fun j v hv => by rw [Nat.zero_add]; exact (cell_of_row w0 g j cur 93 (0, 0) hg).trans (hpre j v hv)) hx)
  have HQ := Lib.hid hq
  have HX := Lib.hid hx
  have HQG := Lib.hid hqg
  have Hsz := Lib.hid hsz
  have HP := Lib.hid hpre
  have Hn := Lib.hid hn
  have Hc := Lib.hid hc
  have Hcm := Lib.hid hcm
  cases hf : L.findIdx? (fun t => decide (t.owner = x)) with
  | none =>
    have hi : idxO L x = -1 := by simp only [idxO, hf]
    rw [hi] at HI
    have hfl : (L.filter fun s => decide (s.owner ≠ x)) = L := by
      rw [List.filter_eq_self]
      intro t ht
      have := List.findIdx?_eq_none_iff.1 hf t ht
      simpa using this
    have HF := Lib.hid hfl
    clear hg hqg hq hx hsz hpre hn hc hcm hf hi hgl hfl
    go_enter Tryz.func138, Tryz.ntmps138
    go_wp2_with fail
    refine HI.out.mono ?_; rintro e w' ⟨rfl, hb⟩
    replace H := H.call hb
    clear hb
    go_wp2_with fail
    go_ret
    rw [HF.out]
    exact ⟨cur, rfl, rfl, HP.out, H⟩
  | some i =>
    have hi : idxO L x = (i : Int) := by simp only [idxO, hf]
    rw [hi] at HI
    obtain ⟨hil, hi1, hi2⟩ := List.findIdx?_eq_some_iff_getElem.1 hf
    have hfl : (L.take (i + 1)).filter (fun s => decide (s.owner ≠ x)) = L.take i := by
      rw [List.take_succ_eq_append_getElem hil, List.filter_append]
      have h1 : (L.take i).filter (fun s => decide (s.owner ≠ x)) = L.take i := by
        rw [List.filter_eq_self]
        intro t ht
        obtain ⟨j, hj⟩ := List.mem_iff_getElem?.1 ht
        rw [List.getElem?_take] at hj
        split at hj
        · rename_i hji
          have hjl : j < L.length := by omega
          rw [List.getElem?_eq_getElem hjl] at hj
          injection hj with hj
          rw [← hj]
          simpa using hi2 j hji
        · cases hj
      rw [h1]
      have : ([L[i]].filter fun s => decide (s.owner ≠ x)) = [] := by simpa using hi1
      rw [this, List.append_nil]
    have hli : (L.take i).length = i := by rw [List.length_take]; omega
    have HF := Lib.hid hfl
    have HLi := Lib.hid hli
    have Hil := Lib.hid hil
    have HIx : Hid (∃ t ∈ L, t.owner = x) := Lib.hid ⟨L[i]'hil, List.getElem_mem hil, by simpa using hi1⟩
    clear hg hqg hq hx hsz hpre hc hcm hf hi hgl hfl hli hi1 hi2
    go_enter Tryz.func138, Tryz.ntmps138
    go_wp2_with fail
    refine HI.out.mono ?_; rintro e w' ⟨rfl, hb⟩
    replace H := H.call hb
    have hn' : (L.length : Int) ≤ 1000 := by omega
    have hil' : (i : Int) < 1000 := by omega
    clear hb hn hil
    go_wp2_with fail
    have HB := Lib.hid H
    clear H
    go_loopw [5, 6] (fun iv jv W => ∃ (m j : Nat) (A : List Sht) (c : Array Value), j ≤ L.length ∧ m ≤ j ∧ iv = .int .i64 m ∧ jv = .int .i64 j ∧ Hid (Sb [g] w0 W [(g, c, 93)] []) ∧ Hid (Kept L x cur.size m j A c)) (fun _ jv _ => L.length - (intOf jv).toNat)
    case atStart => exact ⟨i, i + 1, L.take i, cur, by have := Hil.out; omega, by omega, rfl, rfl, HB, Lib.hid ⟨HF.out.symm, HLi.out, rfl, fun j v hv => HP.out j v (by
      have e : L = L.take i ++ L.drop i := (List.take_append_drop i L).symm
      rw [e, cellsL_append, List.getElem?_append_left (by exact (List.getElem?_eq_some_iff.1 hv).1)]
      exact hv), fun k v _ hv => HP.out k v hv⟩⟩
    case round =>
      clear HB
      obtain ⟨m, j, A, c, hj, hmj, rfl, rfl, HB, HA⟩ := hrel
      by_cases hlt : j < L.length
      · obtain ⟨t, ht⟩ : ∃ t, L[j]? = some t := ⟨L[j], List.getElem?_eq_getElem hlt⟩
        have Hpt : Hid (∀ n v, (shotL t)[n]? = some v → c[j * 6 + n]? = some v) := Lib.hid (fun n v hv => HA.out.rest _ v (by omega) (part_at ht n v hv))
        have hsn : (L.take (j + 1)).filter (fun s => decide (s.owner ≠ x)) = if t.owner = x then A else A ++ [t] := by
          obtain ⟨hj', e⟩ := List.getElem?_eq_some_iff.1 ht
          rw [List.take_succ_eq_append_getElem hj', e, List.filter_append, ← HA.out.a]
          by_cases h1 : t.owner = x <;> simp [h1]
        have Hsn := Lib.hid hsn
        have Hcs := Lib.hid HA.out.size
        have HAl := Lib.hid HA.out.len
        have HPc := Lib.hid HA.out.pre
        have HRc := Lib.hid HA.out.rest
        have H := HB.out
        have Hjj := Lib.hid hlt
        have Hmj := Lib.hid hmj
        have hjn : (j : Int) < 1000 := by omega
        have hml : m < L.length := by omega
        clear HB HA ht hsn hj hmj
        go_upto_region 8 with (first | (refine wb_part H rfl 0 93 _ rfl g (j * 6) rfl c 93 rfl _ Tryz.underlying93 rfl 6 info79s (shotL t) Hpt.out rfl ?_) | (refine wb_alloc H rfl 93 rfl _ Tryz.zeroValue93 ?_; clear H; intro b7 w H) | (refine wb_put H rfl 0 93 _ _ rfl _ 0 rfl _ _ rfl (.agg (shotL t).toArray) rfl 6 info79s rfl (Nat.le_of_ble_eq_true rfl) rfl (shotL t).toArray rfl ?_; clear H; intro w H))
        replace H : Sb [g] w0 w [(b7, (shotL t).toArray, 93), (g, c, 93)] [] := H
        have HC := Lib.hid (fun w (H : Sb [g] w0 w [(b7, (shotL t).toArray, 93), (g, c, 93)] []) => isShot_b t x q w ((World.cell?_of_block (a := ⟨q, 0, none⟩) (H.fr q HQ.out (by simpa using HQG.out))).trans HX.out) (Nat.lt_of_lt_of_le HQ.out H.size))
        go_wp2_with (refine wb_whole H rfl 0 93 _ rfl _ rfl (shotL t).toArray rfl _ Tryz.underlying93 rfl 6 info79s rfl ?_)
        refine (HC.out _ H).mono ?_; rintro e w' ⟨rfl, hb⟩
        replace H := H.call hb
        clear hb HC
        by_cases hp : t.owner = x
        · rw [decide_eq_true hp]
          have Hp := Lib.hid hp
          clear hp
          go_wp2_with fail
          have HK : Hid (Kept L x cur.size m (j + 1) A c) := Lib.hid ⟨by rw [Hsn.out, if_pos Hp.out], HAl.out, Hcs.out, HPc.out, fun k v hk hv => HRc.out k v (by omega) hv⟩
          refine ⟨?_, by simp [intOf]; omega⟩
          simp
          exact ⟨m, j + 1, by omega, by have := Hmj.out; omega, rfl, rfl, A, c, Lib.hid H.tail, HK⟩
        · rw [decide_eq_false hp]
          have Hp := Lib.hid hp
          clear hp
          have hft : m * 6 + 6 ≤ c.size := by have := Hcs.out; have := Hsz.out; omega
          have Hft := Lib.hid hft
          go_wp2_with (first | (refine wb_whole H rfl 0 93 _ rfl _ rfl (shotL t).toArray rfl _ Tryz.underlying93 rfl 6 info79s rfl ?_) | (refine wb_put H rfl 1 93 _ _ rfl _ (m * 6) rfl _ _ rfl (.agg (shotL t).toArray) rfl 6 info79s rfl hft rfl _ rfl ?_; clear H; intro w H))
          replace H : Sb [g] w0 w [(b7, (shotL t).toArray, 93), (g, splice c (m * 6) (shotL t), 93)] [] := H
          have HK : Hid (Kept L x cur.size (m + 1) (j + 1) (A ++ [t]) (splice c (m * 6) (shotL t))) := Lib.hid ⟨by rw [Hsn.out, if_neg Hp.out], by simp [HAl.out], (splice_size _ _ _ (by simpa [shotL] using Hft.out)).trans Hcs.out, by
            have h := HPc.out.snoc (t := t) (by rw [HAl.out]; exact Hft.out)
            rw [HAl.out] at h
            exact h, fun k v hk hv => by
            have := Hmj.out
            rw [splice_at _ _ _ (by simpa [shotL] using Hft.out), if_neg (by omega), if_neg (by simp [shotL]; omega)]
            exact HRc.out k v (by omega) hv⟩
          refine ⟨?_, by simp [intOf]; omega⟩
          simp
          exact ⟨m + 1, j + 1, by omega, by have := Hmj.out; omega, rfl, rfl, A ++ [t], splice c (m * 6) (shotL t), Lib.hid H.tail, HK⟩
      · obtain rfl : j = L.length := by omega
        have hA := HA.out.a
        rw [List.take_length] at hA
        have hml : (m : Int) ≤ L.length := by omega
        have hmc : (L.length : Int) ≤ cap := by have := Hc.out; omega
        have hcm : (cap : Int) ≤ 9223372036854775807 := by have := Hcm.out; unfold maxLen at this; omega
        have H := HB.out
        have hfit : m * 6 + (L.length - m) * 6 ≤ c.size := by have := HA.out.size; have := Hsz.out; omega
        have hmlt : m < L.length := by
          rw [← HA.out.len, hA]
          obtain ⟨t, ht, hx⟩ := HIx.out
          exact List.length_filter_lt_length_iff_exists.2 ⟨t, ht, by simpa using hx⟩
        have hmlt' : (m : Int) < L.length := by omega
        have hmcap : (m : Int) < cap := by omega
        have hmne : ¬ m = cap := by have := Hc.out; omega
        have hmne' : ¬ (m : Int) = cap := by omega
        have HAA := Lib.hid hA
        have HAc := Lib.hid HA.out
        clear hA HB HA hj hmj hlt
        go_wp2_with (refine wb_clear H _ rfl rfl 0 g (m * 6) (L.length - m) _ c rfl rfl hfit ?_; clear H; intro w1 c1 hc1 hp1 H)
        replace H : Sb [g] w0 w1 [(g, c1, 93)] [] := H
        have HH := Lib.hid H
        have Hc1 := Lib.hid hc1
        have Hp1 := Lib.hid hp1
        have Hml := Lib.hid hmlt
        clear H hc1 hp1 hml hmc hcm hfit hmlt hmlt' hmcap hmne hmne'
        go_ret
        refine ⟨c1, by rw [← HAA.out, HAc.out.len]; rfl, by rw [Hc1.out, HAc.out.size], ?_, HH.out⟩
        rw [← HAA.out]
        intro k v hv
        rw [Hp1.out k (by
          have := (List.getElem?_eq_some_iff.1 hv).1
          rw [length_cellsL, HAc.out.len] at this
          exact this)]
        exact HAc.out.pre k v hv
end Go.Proofs.YtdopfonebpklkaaGreat.game
