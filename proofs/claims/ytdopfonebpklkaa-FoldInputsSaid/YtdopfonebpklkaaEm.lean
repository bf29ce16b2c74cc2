/- entry.May, stick.May (printed by mkem.py). -/
import Derived.Test.YtdopfonebpklkaaTc
import Derived.Test.YtdopfonebpklkaaIn
namespace Go.Proofs.Ytdopfonebpklkaa.game
open Go.ChangeShapes Go.WideShapes Go.ChangeAt Go.RowKit dice
set_option maxRecDepth 100000

def evsL (E : List Evt) : List Value := E.flatMap evL
theorem length_evsL (E : List Evt) : (evsL E).length = E.length * 4 := by
  induction E with
  | nil => rfl
  | cons s T ih => unfold evsL at *; rw [List.flatMap_cons, List.length_append, ih, List.length_cons]; simp only [evL, List.length_cons, List.length_nil]; omega
theorem evsL_at : ∀ (T : List Evt) (i j : Nat) (s : Evt) (v : Value), T[i]? = some s → (evL s)[j]? = some v → (evsL T)[i * 4 + j]? = some v
  | [], i, _, _, _, h, _ => by simp at h
  | s' :: L, 0, j, s, v, h, hj => by
    simp at h
    subst h
    have := (List.getElem?_eq_some_iff.1 hj).1
    unfold evsL
    rw [List.flatMap_cons, Nat.zero_mul, Nat.zero_add, List.getElem?_append_left this]
    exact hj
  | s' :: L, i + 1, j, s, v, h, hj => by
    have ih := evsL_at L i j s v (by simpa using h) hj
    unfold evsL at *
    rw [List.flatMap_cons, List.getElem?_append_right (by simp only [evL, List.length_cons, List.length_nil]; omega)]
    simp only [evL, List.length_cons, List.length_nil]
    rw [show (i + 1) * 4 + j - (0 + 1 + 1 + 1 + 1) = i * 4 + j by omega]
    exact ih
def EvW (W : World) (sl : Value) (E : List Evt) : Prop :=
  (E = [] ∧ ∃ ad c, sl = .slice ad 0 c) ∨ ∃ g o c, sl = .slice (some ⟨g, o, none⟩) E.length c ∧ g < W.heap.size ∧ ∀ j v, (evsL E)[j]? = some v → W.cell? ⟨g, o + j, none⟩ = some v
theorem EvW.later {W W' : World} {sl : Value} {E : List Evt} (h : EvW W sl E) (hb : Below W.heap.size W W') : EvW W' sl E := by
  rcases h with h | ⟨g, o, c, h1, h2, h3⟩
  · exact .inl h
  · exact .inr ⟨g, o, c, h1, Nat.lt_of_lt_of_le h2 hb.size, fun j v hv => (hb.cell (p := ⟨g, o + j, none⟩) h2).trans (h3 j v hv)⟩
theorem EvW.form {W : World} {sl : Value} {E : List Evt} (h : EvW W sl E) : ∃ ad c, sl = .slice ad E.length c := by
  rcases h with ⟨rfl, ad, c, rfl⟩ | ⟨g, o, c, rfl, _⟩
  · exact ⟨ad, c, rfl⟩
  · exact ⟨_, _, rfl⟩
structure EvAt (W : World) (g o : Nat) (x : Evt) : Prop where
  kind : W.cell? ⟨g, o, none⟩ = some (.int .i64 x.kind)
  slot : W.cell? ⟨g, o + 1, none⟩ = some (.int .i64 x.slot)
  gen : W.cell? ⟨g, o + 2, none⟩ = some (.int .i64 x.gen)
  peer : W.cell? ⟨g, o + 3, none⟩ = some (.int .i64 x.peer)
theorem ev_at {W : World} {g o : Nat} {E : List Evt} (h : ∀ j v, (evsL E)[j]? = some v → W.cell? ⟨g, o + j, none⟩ = some v) (i : Nat) (x : Evt) (hx : E[i]? = some x) : EvAt W g (o + i * 4) x := by
  have c : ∀ j v, (evL x)[j]? = some v → W.cell? ⟨g, o + i * 4 + j, none⟩ = some v := fun j v hv => by
    rw [Nat.add_assoc]; exact h _ v (evsL_at E i j x v hx hv)
  exact ⟨c 0 _ rfl, c 1 _ rfl, c 2 _ rfl, c 3 _ rfl⟩
def entC (e : Ent) (sl : Value) : Array Value := (.int .i64 e.fr :: sl :: e.ins.flatMap inpL).toArray
theorem length_ins (I : List Inp) : (I.flatMap inpL).length = I.length * 3 := by
  induction I with
  | nil => rfl
  | cons i I ih => rw [List.flatMap_cons, List.length_append, ih, List.length_cons]; simp only [inpL, List.length_cons, List.length_nil]; omega
theorem en_size {e : Ent} {sl : Value} (h8 : e.ins.length = 8) : (entC e sl).size = 26 := by
  unfold entC
  rw [List.size_toArray, List.length_cons, List.length_cons, length_ins, h8]
theorem en_fr {e : Ent} {sl : Value} : (entC e sl)[0]? = some (.int .i64 e.fr) := rfl
theorem en_sl {e : Ent} {sl : Value} : (entC e sl)[1]? = some sl := rfl
theorem en_ins {e : Ent} {sl : Value} : ∀ j v, (e.ins.flatMap inpL)[j]? = some v → (entC e sl)[2 + j]? = some v := fun j v h => by
  unfold entC
  rw [List.getElem?_toArray, show 2 + j = j + 1 + 1 by omega, List.getElem?_cons_succ, List.getElem?_cons_succ]
  exact h
theorem not_or_false {p q : Prop} (h : ¬ p) (h' : ¬ q) : ¬ (p ∨ q) := fun a => a.elim h h'
theorem mayEv_b (x : Evt) (w0 : World) :
    Calls Try.prog 32 #[.agg (evC x)] w0 fun e w' => e = .returned (.bool (mayEv x)) ∧ Below w0.heap.size w0 w' := by
  have H := Sb.start w0
  obtain ⟨kd, sl, gn, pr⟩ := x
  obtain ⟨r, hr⟩ : ∃ r, mayEv ⟨kd, sl, gn, pr⟩ = r := ⟨_, rfl⟩
  rw [hr]
  have HR := Lib.hid hr
  clear hr
  unfold evC
  dsimp only
  go_enter Try.func32, Try.ntmps32
  go_upto_region 1 with (refine wb_box H rfl 49 _ rfl #[.int .i64 kd, .int .i64 sl, .int .i64 gn, .int .i64 pr] rfl ?_; clear H; intro b1 w H)
  have c0 : w.cell? ⟨b1, 0, none⟩ = some (.int .i64 kd) := cell_of_row w b1 0 _ 49 (0, 0) (H.holds _ (List.mem_cons_self ..))
  have c1 : w.cell? ⟨b1, 1, none⟩ = some (.int .i64 sl) := cell_of_row w b1 1 _ 49 (0, 0) (H.holds _ (List.mem_cons_self ..))
  have c2 : w.cell? ⟨b1, 2, none⟩ = some (.int .i64 gn) := cell_of_row w b1 2 _ 49 (0, 0) (H.holds _ (List.mem_cons_self ..))
  have c3 : w.cell? ⟨b1, 3, none⟩ = some (.int .i64 pr) := cell_of_row w b1 3 _ 49 (0, 0) (H.holds _ (List.mem_cons_self ..))
  have HB := Lib.hid H.below
  clear H
  have fin : ∀ b, mayEv ⟨kd, sl, gn, pr⟩ = b → b = r := fun b h => h.symm.trans HR.out
  have Fin := Lib.hid fin
  clear fin
  by_cases k1 : kd = 1
  · subst k1
    by_cases h0 : 0 ≤ sl
    rotate_left
    · have q0 : decide (0 ≤ sl) = false := decide_eq_false h0
      obtain rfl := Fin.out false (by unfold mayEv; simp [h0])
      clear h0
      go_wp2_with fail
      go_ret
      exact ⟨by first | rfl | simp, HB.out⟩
    have q0 : decide (0 ≤ sl) = true := decide_eq_true h0
    by_cases h1 : sl < 8
    rotate_left
    · have q1 : decide (sl < 8) = false := decide_eq_false h1
      obtain rfl := Fin.out false (by unfold mayEv; simp [h1])
      clear h0 h1
      go_wp2_with fail
      go_ret
      exact ⟨by first | rfl | simp, HB.out⟩
    have q1 : decide (sl < 8) = true := decide_eq_true h1
    by_cases h2 : 1 ≤ gn
    rotate_left
    · have q2 : decide (1 ≤ gn) = false := decide_eq_false h2
      obtain rfl := Fin.out false (by unfold mayEv; simp [h2])
      clear h0 h1 h2
      go_wp2_with fail
      go_ret
      exact ⟨by first | rfl | simp, HB.out⟩
    have q2 : decide (1 ≤ gn) = true := decide_eq_true h2
    by_cases h3 : gn ≤ 60000
    rotate_left
    · have q3 : decide (gn ≤ 60000) = false := decide_eq_false h3
      obtain rfl := Fin.out false (by unfold mayEv; simp [h3])
      clear h0 h1 h2 h3
      go_wp2_with fail
      go_ret
      exact ⟨by first | rfl | simp, HB.out⟩
    have q3 : decide (gn ≤ 60000) = true := decide_eq_true h3
    by_cases h4 : 0 ≤ pr
    rotate_left
    · have q4 : decide (0 ≤ pr) = false := decide_eq_false h4
      obtain rfl := Fin.out false (by unfold mayEv; simp [h4])
      clear h0 h1 h2 h3 h4
      go_wp2_with fail
      go_ret
      exact ⟨by first | rfl | simp, HB.out⟩
    have q4 : decide (0 ≤ pr) = true := decide_eq_true h4
    by_cases h5 : pr < 12
    rotate_left
    · have q5 : decide (pr < 12) = false := decide_eq_false h5
      obtain rfl := Fin.out false (by unfold mayEv; simp [h5])
      clear h0 h1 h2 h3 h4 h5
      go_wp2_with fail
      go_ret
      exact ⟨by first | rfl | simp, HB.out⟩
    have q5 : decide (pr < 12) = true := decide_eq_true h5
    obtain rfl := Fin.out true (by unfold mayEv; simp [h0, h1, h2, h3, h4, h5])
    clear h0 h1 h2 h3 h4 h5
    go_wp2_with fail
    go_ret
    exact ⟨by first | rfl | simp, HB.out⟩
  have kq : decide (kd = 1) = false := decide_eq_false k1
  by_cases k2 : kd = 2
  · subst k2
    clear k1 kq
    by_cases h0 : 0 ≤ sl
    rotate_left
    · have q0 : decide (0 ≤ sl) = false := decide_eq_false h0
      obtain rfl := Fin.out false (by unfold mayEv; simp [h0])
      clear h0
      go_wp2_with fail
      go_ret
      exact ⟨by first | rfl | simp, HB.out⟩
    have q0 : decide (0 ≤ sl) = true := decide_eq_true h0
    by_cases h1 : sl < 8
    rotate_left
    · have q1 : decide (sl < 8) = false := decide_eq_false h1
      obtain rfl := Fin.out false (by unfold mayEv; simp [h1])
      clear h0 h1
      go_wp2_with fail
      go_ret
      exact ⟨by first | rfl | simp, HB.out⟩
    have q1 : decide (sl < 8) = true := decide_eq_true h1
    by_cases h2 : 1 ≤ gn
    rotate_left
    · have q2 : decide (1 ≤ gn) = false := decide_eq_false h2
      obtain rfl := Fin.out false (by unfold mayEv; simp [h2])
      clear h0 h1 h2
      go_wp2_with fail
      go_ret
      exact ⟨by first | rfl | simp, HB.out⟩
    have q2 : decide (1 ≤ gn) = true := decide_eq_true h2
    by_cases h3 : gn ≤ 60000
    rotate_left
    · have q3 : decide (gn ≤ 60000) = false := decide_eq_false h3
      obtain rfl := Fin.out false (by unfold mayEv; simp [h3])
      clear h0 h1 h2 h3
      go_wp2_with fail
      go_ret
      exact ⟨by first | rfl | simp, HB.out⟩
    have q3 : decide (gn ≤ 60000) = true := decide_eq_true h3
    by_cases h4 : 0 ≤ pr
    rotate_left
    · have q4 : decide (0 ≤ pr) = false := decide_eq_false h4
      obtain rfl := Fin.out false (by unfold mayEv; simp [h4])
      clear h0 h1 h2 h3 h4
      go_wp2_with fail
      go_ret
      exact ⟨by first | rfl | simp, HB.out⟩
    have q4 : decide (0 ≤ pr) = true := decide_eq_true h4
    by_cases h5 : pr < 12
    rotate_left
    · have q5 : decide (pr < 12) = false := decide_eq_false h5
      obtain rfl := Fin.out false (by unfold mayEv; simp [h5])
      clear h0 h1 h2 h3 h4 h5
      go_wp2_with fail
      go_ret
      exact ⟨by first | rfl | simp, HB.out⟩
    have q5 : decide (pr < 12) = true := decide_eq_true h5
    obtain rfl := Fin.out true (by unfold mayEv; simp [h0, h1, h2, h3, h4, h5])
    clear h0 h1 h2 h3 h4 h5
    go_wp2_with fail
    go_ret
    exact ⟨by first | rfl | simp, HB.out⟩
  have kr : decide (kd = 2) = false := decide_eq_false k2
  obtain rfl := Fin.out false (by unfold mayEv; simp [k1, k2])
  go_wp2_with fail
  go_ret
  exact ⟨by first | rfl | simp, HB.out⟩
theorem stickMay_b (i : Inp) (w0 : World) :
    Calls Try.prog 35 #[.agg (inpL i).toArray] w0 fun e w' => e = .returned (.bool (mayIn i)) ∧ Below w0.heap.size w0 w' := by
  have H := Sb.start w0
  obtain ⟨x, y, b⟩ := i
  have hm : mayIn ⟨x, y, b⟩ = (decide (-127 ≤ x) && decide (-127 ≤ y)) := rfl
  have Hm := Lib.hid hm
  clear hm
  unfold inpL
  dsimp only
  go_enter Try.func35, Try.ntmps35
  go_upto_region 1 with (refine wb_box H rfl 24 _ rfl #[.int .i8 x, .int .i8 y, .int .u8 b] rfl ?_; clear H; intro b1 w H)
  have c0 : w.cell? ⟨b1, 0, none⟩ = some (.int .i8 x) := cell_of_row w b1 0 _ 24 (0, 0) (H.holds _ (List.mem_cons_self ..))
  have c1 : w.cell? ⟨b1, 1, none⟩ = some (.int .i8 y) := cell_of_row w b1 1 _ 24 (0, 0) (H.holds _ (List.mem_cons_self ..))
  have HB := Lib.hid H.below
  clear H
  by_cases h0 : -127 ≤ x
  · have q0 : decide (-127 ≤ x) = true := decide_eq_true h0
    go_wp2_with fail
    go_ret
    exact ⟨by rw [Hm.out, q0]; first | rfl | simp, HB.out⟩
  · have q0 : decide (-127 ≤ x) = false := decide_eq_false h0
    go_wp2_with fail
    go_ret
    exact ⟨by rw [Hm.out, q0]; first | rfl | simp, HB.out⟩
theorem badIn_b (i : Inp) (w0 : World) :
    Calls Try.prog 34 #[.agg (inpL i).toArray] w0 fun e w' => e = .returned (.bool (!mayIn i)) ∧ Below w0.heap.size w0 w' := by
  have H := Sb.start w0
  go_enter Try.func34, Try.ntmps34
  go_wp2_with (first | (refine wb_box H rfl 24 _ rfl (inpL i).toArray rfl ?_; clear H; intro b1 w H) | (refine wb_whole H rfl 0 24 _ rfl _ rfl (inpL i).toArray rfl _ Try.underlying24 rfl 3 info60s rfl ?_))
  refine (stickMay_b i _).mono ?_; rintro e w' ⟨rfl, hb⟩
  replace H := H.call hb
  clear hb
  go_wp2_with fail
  go_ret
  exact ⟨by first | rfl | simp, H.below⟩
theorem containsIn_b (b p : Nat) (I : List Inp) (w0 : World) (h8 : I.length = 8) (hb : b < w0.heap.size) (h : ∀ j v, (I.flatMap inpL)[j]? = some v → w0.cell? ⟨b, p + j, none⟩ = some v) :
    Calls Try.prog 33 #[.slice (some ⟨b, p, none⟩) 8 8, .func (.func 34) #[] #[]] w0 fun e w' => e = .returned (.bool (!I.all mayIn)) ∧ Below w0.heap.size w0 w' := by
  have HIx : Hid (Calls Try.prog 50 #[.slice (some ⟨b, p, none⟩) 8 8, .func (.func 34) #[] #[]] w0 fun e w' => (∃ r : Int, e = .returned (.int .i64 r) ∧ decide (0 ≤ r) = !I.all mayIn) ∧ Below w0.heap.size w0 w') := by
    have H := Lib.hid h
    have H8 := Lib.hid h8
    have HBb := Lib.hid hb
    clear h h8 hb
    refine Lib.hid ?_
    go_enter Try.func50, Try.ntmps50
    go_wp2_with fail
    go_loopw [8] (fun i W => ∃ k : Nat, k ≤ 8 ∧ i = .int .i64 k ∧ Hid (Below w0.heap.size w0 W) ∧ Hid ((I.take k).all mayIn = true)) (fun i _ => 8 - (intOf i).toNat)
    case atStart => exact ⟨0, Nat.zero_le _, rfl, Lib.hid (Below.refl _ _), Lib.hid rfl⟩
    case round =>
      obtain ⟨k, hk, rfl, HG, HA⟩ := hrel
      by_cases hlt : k < 8
      · obtain ⟨i, hi⟩ : ∃ i, I[k]? = some i := ⟨I[k]'(by rw [H8.out]; exact hlt), List.getElem?_eq_getElem _⟩
        have hA := inp_at (W := wr) (g := b) (o := p) (fun j v hv => (HG.out.cell (p := ⟨b, p + j, none⟩) HBb.out).trans (H.out j v hv)) k i hi
        have HC := Lib.hid (fun w => badIn_b i w)
        have Hi := Lib.hid hi
        obtain ⟨c0, c1, c2⟩ := hA
        clear hi
        go_wp2_with fail
        refine (HC.out _).mono ?_; rintro e w' ⟨rfl, hg⟩
        have HG' := Lib.hid (HG.out.trans (hg.mono HG.out.size))
        clear hg HG HC c0 c1 c2
        have htk : (I.take (k + 1)).all mayIn = mayIn i := by
          obtain ⟨hk', e⟩ := List.getElem?_eq_some_iff.1 Hi.out
          rw [List.take_succ_eq_append_getElem hk', e, List.all_append, HA.out]
          simp
        cases hm : mayIn i with
        | false =>
          go_wp2_with fail
          go_ret
          refine ⟨⟨(k : Int), rfl, ?_⟩, HG'.out⟩
          have : I.all mayIn = false := by
            rw [List.all_eq_false]
            exact ⟨i, List.mem_of_getElem? Hi.out, by simp [hm]⟩
          rw [this]
          simp
        | true =>
          have HT := Lib.hid (htk.trans hm)
          clear htk hm
          go_wp2_with fail
          exact ⟨⟨k + 1, hlt, rfl, HG', HT⟩, by simp only [intOf]; omega⟩
      · obtain rfl : k = 8 := by omega
        go_wp2_with fail
        go_ret
        refine ⟨⟨-1, rfl, ?_⟩, HG.out⟩
        have := HA.out
        rw [List.take_of_length_le (by rw [H8.out]; decide)] at this
        rw [this]
        rfl
  clear h h8 hb
  go_enter Try.func33, Try.ntmps33
  go_wp2_with fail
  refine HIx.out.mono ?_; rintro e w' ⟨⟨r, rfl, hr⟩, hb⟩
  have HR := Lib.hid hr
  have HB := Lib.hid hb
  clear hr hb HIx
  go_wp2_with fail
  go_ret
  exact ⟨by rw [← HR.out]; rfl, HB.out⟩
def prevO (E : List Evt) (k : Nat) : Option Evt := if k = 0 then none else E[k - 1]?
theorem info60e : (Try.prog.info? 49).map (·.size) = some 4 := by kernel_rfl
theorem prevO_succ (E : List Evt) (k : Nat) : prevO E (k + 1) = E[k]? := by simp [prevO]
theorem evsMay_cons (p : Option Evt) (x : Evt) (l : List Evt) : evsMay p (x :: l) = (mayEv x && (match p with | none => true | some a => evPair a x) && evsMay (some x) l) := by
  cases p with
  | none => simp [evsMay]
  | some a => simp [evsMay]
theorem evsMay_step {E : List Evt} {k : Nat} {x : Evt} (hx : E[k]? = some x) : evsMay (prevO E k) (E.drop k) = (mayEv x && (match prevO E k with | none => true | some a => evPair a x) && evsMay (prevO E (k + 1)) (E.drop (k + 1))) := by
  obtain ⟨hk, e⟩ := List.getElem?_eq_some_iff.1 hx
  rw [List.drop_eq_getElem_cons hk, e, evsMay_cons, prevO_succ, hx]
set_option maxHeartbeats 8000000 in
theorem entMay_b (e : Ent) (sl : Value) (w0 : World) (h8 : e.ins.length = 8) (hin : EvW w0 sl e.evs) (hn : e.evs.length ≤ 1000) :
    Calls Try.prog 24 #[.agg (entC e sl)] w0 fun e' w' => e' = .returned (.bool (entMay e)) ∧ Below w0.heap.size w0 w' := by
  have H := Sb.start w0
  have H8 := Lib.hid h8
  have HI := Lib.hid hin
  have H0 := Lib.hid (en_fr (e := e) (sl := sl))
  have H1 := Lib.hid (en_sl (e := e) (sl := sl))
  have HN := Lib.hid (en_ins (e := e) (sl := sl))
  obtain ⟨ad, c, rfl⟩ := hin.form
  obtain ⟨r, hr⟩ : ∃ r, entMay e = r := ⟨_, rfl⟩
  rw [hr]
  have HR := Lib.hid hr
  generalize entC e (.slice ad e.evs.length c) = ec at *
  obtain ⟨fr, E, I⟩ := e
  dsimp only at *
  have hfin : ∀ b, entMay ⟨fr, E, I⟩ = b → b = r := fun b h => h.symm.trans HR.out
  have Fin := Lib.hid hfin
  have Hn := Lib.hid (show (E.length : Int) ≤ 1000 by omega)
  clear hr h8 hin hn hfin HR
  go_enter Try.func24, Try.ntmps24
  go_upto_region 1 with (refine wb_box H rfl 45 _ rfl ec rfl ?_; clear H; intro b1 w H)
  have c0 : w.cell? ⟨b1, 0, none⟩ = some (.int .i64 fr) := (cell_of_row w b1 0 _ 45 (0, 0) (H.holds _ (List.mem_cons_self ..))).trans H0.out
  by_cases f0 : 0 ≤ fr
  rotate_left
  · have q0 : decide (fr < 0) = true := decide_eq_true (by omega)
    obtain rfl := Fin.out false (by unfold entMay; simp [f0])
    go_wp2_with fail
    go_ret
    exact ⟨by first | rfl | simp, H.below⟩
  have q0 : decide (fr < 0) = false := decide_eq_false (by omega)
  by_cases f1 : fr < 1048576
  rotate_left
  · have q1 : decide (1048576 ≤ fr) = true := decide_eq_true (by omega)
    obtain rfl := Fin.out false (by unfold entMay; simp [f1])
    go_wp2_with fail
    go_ret
    exact ⟨by first | rfl | simp, H.below⟩
  have q1 : decide (1048576 ≤ fr) = false := decide_eq_false (by omega)
  have Ff := Lib.hid (show 0 ≤ fr ∧ fr < 1048576 from ⟨f0, f1⟩)
  clear f0 f1
  go_upto_region 3 with fail
  have hn' := Hn.out
  clear c0 q0 q1
  go_wp2_with (refine wb_cell H rfl 0 42 _ rfl _ 1 rfl _ _ rfl Try.isAgg42 (.slice ad E.length c) H1.out ?_)
  have HB := Lib.hid H
  clear H hn'
  go_loopw [17] (fun i W => ∃ k : Nat, k ≤ E.length ∧ i = .int .i64 k ∧ Hid (Sb [] w0 W [(b1, ec, 45)] []) ∧ Hid (evsMay none E = evsMay (prevO E k) (E.drop k))) (fun i _ => E.length - (intOf i).toNat)
  case atStart => exact ⟨0, Nat.zero_le _, rfl, HB, Lib.hid rfl⟩
  case round =>
    clear HB
    obtain ⟨k, hk, rfl, HB, HA⟩ := hrel
    have hn' := Hn.out
    by_cases hlt : k < E.length
    · obtain ⟨x, hx⟩ : ∃ x, E[k]? = some x := ⟨E[k], List.getElem?_eq_getElem hlt⟩
      obtain ⟨g, o, had, hg, hcs⟩ : ∃ g o, ad = some ⟨g, o, none⟩ ∧ g < w0.heap.size ∧ ∀ j v, (evsL E)[j]? = some v → w0.cell? ⟨g, o + j, none⟩ = some v := by
        rcases HI.out with ⟨e, _⟩ | ⟨g, o, c', e, hg, hc⟩
        · rw [e] at hlt; exact absurd hlt (Nat.not_lt_zero _)
        · injection e with e1 e2 e3
          exact ⟨g, o, e1, hg, hc⟩
      subst had
      have hE : ∀ W l, Sb [] w0 W l [] → ∀ j v, (evsL E)[j]? = some v → W.cell? ⟨g, o + j, none⟩ = some v := fun W l h j v hv => (World.cell?_of_block (a := ⟨g, o + j, none⟩) (h.fr g hg (by simp))).trans (hcs j v hv)
      have HE := Lib.hid hE
      have Hst := Lib.hid (HA.out.trans (evsMay_step hx))
      have Hx := Lib.hid hx
      have H := HB.out
      obtain ⟨c0, c1, c2, c3⟩ := ev_at (hE _ _ H) k x hx
      have HC := Lib.hid (fun w => mayEv_b x w)
      clear HB HA hx hE hcs hg
      go_upto_region 6 with (first | (refine wb_alloc H rfl 49 rfl _ Try.zeroValue49 ?_; clear H; intro b4 w H) | (refine wb_put H rfl 0 49 _ _ rfl _ 0 rfl _ _ rfl (.agg #[.int .i64 x.kind, .int .i64 x.slot, .int .i64 x.gen, .int .i64 x.peer]) rfl 4 info60e rfl (Nat.le_of_ble_eq_true rfl) rfl (evC x) rfl ?_; clear H; intro w H))
      replace H : Sb [] w0 w [(b4, evC x, 49), (b1, ec, 45)] [] := H
      clear c0 c1 c2 c3
      go_wp2_with (refine wb_whole H rfl 0 49 _ rfl _ rfl (evC x) rfl _ Try.underlying49 rfl 4 info60e rfl ?_)
      refine (HC.out _).mono ?_; rintro e w' ⟨rfl, hb⟩
      replace H := H.call hb
      clear hb HC
      cases hm : mayEv x with
      | false =>
        obtain rfl := Fin.out false (by
          have := Hst.out
          rw [hm, Bool.false_and, Bool.false_and] at this
          unfold entMay
          simp [this])
        go_wp2_with fail
        go_ret
        exact ⟨by first | rfl | simp, H.below⟩
      | true =>
        by_cases hk0 : k = 0
        · subst hk0
          have HA2 : Hid (evsMay none E = evsMay (prevO E (0 + 1)) (E.drop (0 + 1))) := Lib.hid (by
            have := Hst.out
            rw [hm] at this
            simpa [prevO] using this)
          clear hm
          go_wp2_with fail
          exact ⟨⟨0 + 1, hlt, rfl, Lib.hid H.tail, HA2⟩, by simp only [intOf]; omega⟩
        · obtain ⟨m, rfl⟩ : ∃ m, k = m + 1 := ⟨k - 1, by omega⟩
          obtain ⟨a, ha⟩ : ∃ a, E[m]? = some a := ⟨E[m]'(by omega), List.getElem?_eq_getElem _⟩
          have Hst2 : Hid (evsMay none E = (evPair a x && evsMay (prevO E (m + 1 + 1)) (E.drop (m + 1 + 1)))) := Lib.hid (by
            have := Hst.out
            rw [hm, prevO_succ, ha] at this
            simpa using this)
          have hmn : ((m : Int) + 1) ≠ 0 := by omega
          have hmn' : ¬ ((m : Int) + 1) = 0 := by omega
          have hml : (m : Int) < E.length := by omega
          clear hm Hst
          go_upto_region 9 with fail
          obtain ⟨c0, c1, c2, c3⟩ := ev_at (HE.out _ _ H) m a ha
          clear ha
          go_upto_region 10 with (first | (refine wb_cell H rfl 1 42 _ rfl _ 1 rfl _ _ rfl Try.isAgg42 (.slice (some ⟨g, o, none⟩) E.length c) H1.out ?_) | (refine wb_alloc H rfl 49 rfl _ Try.zeroValue49 ?_; clear H; intro b5 w H) | (refine wb_put H rfl 0 49 _ _ rfl _ 0 rfl _ _ rfl (.agg #[.int .i64 a.kind, .int .i64 a.slot, .int .i64 a.gen, .int .i64 a.peer]) rfl 4 info60e rfl (Nat.le_of_ble_eq_true rfl) rfl (evC a) rfl ?_; clear H; intro w H))
          replace H : Sb [] w0 w [(b5, evC a, 49), (b4, evC x, 49), (b1, ec, 45)] [] := H
          clear c0 c1 c2 c3
          have a0 : w.cell? ⟨b5, 0, none⟩ = some (.int .i64 a.kind) := cell_of_row w b5 0 _ 49 (0, 0) (H.holds _ (List.mem_cons_self ..))
          have a1 : w.cell? ⟨b5, 1, none⟩ = some (.int .i64 a.slot) := cell_of_row w b5 1 _ 49 (0, 0) (H.holds _ (List.mem_cons_self ..))
          have x0 : w.cell? ⟨b4, 0, none⟩ = some (.int .i64 x.kind) := cell_of_row w b4 0 _ 49 (0, 0) (H.holds _ (List.mem_cons_of_mem _ (List.mem_cons_self ..)))
          have x1 : w.cell? ⟨b4, 1, none⟩ = some (.int .i64 x.slot) := cell_of_row w b4 1 _ 49 (0, 0) (H.holds _ (List.mem_cons_of_mem _ (List.mem_cons_self ..)))
          have HBw := Lib.hid H.below
          have HT := Lib.hid H.tail.tail
          clear H
          have hbad : evPair a x = false → false = r := fun h => Fin.out false (by
            have := Hst2.out
            rw [h, Bool.false_and] at this
            unfold entMay
            simp [this])
          have hgood : evPair a x = true → evsMay none E = evsMay (prevO E (m + 1 + 1)) (E.drop (m + 1 + 1)) := fun h => by
            have := Hst2.out
            rw [h, Bool.true_and] at this
            exact this
          have Hbad := Lib.hid hbad
          have Hgood := Lib.hid hgood
          clear hbad hgood
          by_cases p1 : a.kind < x.kind
          · have q1 : decide (a.kind < x.kind) = true := decide_eq_true p1
            obtain rfl := Hbad.out (by unfold evPair; simp [p1])
            go_wp2_with fail
            go_ret
            exact ⟨by first | rfl | simp, HBw.out⟩
          have q1 : decide (a.kind < x.kind) = false := decide_eq_false p1
          by_cases p2 : a.kind = x.kind
          rotate_left
          · have q2 : decide (a.kind = x.kind) = false := decide_eq_false p2
            have HA2 := Lib.hid (Hgood.out (by unfold evPair; simp [p2]; omega))
            go_wp2_with fail
            exact ⟨⟨m + 1 + 1, hlt, rfl, HT, HA2⟩, by simp only [intOf]; omega⟩
          have q2 : decide (a.kind = x.kind) = true := decide_eq_true p2
          by_cases p3 : x.slot ≤ a.slot
          · have q3 : decide (x.slot ≤ a.slot) = true := decide_eq_true p3
            obtain rfl := Hbad.out (by unfold evPair; simp [p2, p3])
            go_wp2_with fail
            go_ret
            exact ⟨by first | rfl | simp, HBw.out⟩
          · have q3 : decide (x.slot ≤ a.slot) = false := decide_eq_false p3
            have HA2 := Lib.hid (Hgood.out (by unfold evPair; simp [p2]; omega))
            go_wp2_with fail
            exact ⟨⟨m + 1 + 1, hlt, rfl, HT, HA2⟩, by simp only [intOf]; omega⟩
    · obtain rfl : k = E.length := by omega
      have hev : evsMay none E = true := by rw [HA.out, List.drop_length]; cases prevO E E.length <;> rfl
      have H := HB.out
      have Hfin : Hid (I.all mayIn = r) := Lib.hid (Fin.out _ (by unfold entMay; simp [hev, Ff.out.1, Ff.out.2]))
      clear HB HA hev hlt hk
      go_wp2_with fail
      refine (containsIn_b b1 2 I _ H8.out (H.lt _ (List.mem_cons_self ..)) (fun j v hv => (cell_of_row _ b1 (2 + j) _ 45 (0, 0) (H.holds _ (List.mem_cons_self ..))).trans (HN.out j v hv))).mono ?_
      rintro e w' ⟨rfl, hb⟩
      replace H := H.call hb
      clear hb
      rw [Hfin.out]
      go_wp2_with fail
      go_ret
      exact ⟨by simp, H.below⟩
end Go.Proofs.Ytdopfonebpklkaa.game
