/- slices.Equal over shots; game.Same and fold.Same over any two states. The document's answer: which games may be, over any game, as a truth (printed by mkrw.py). The document's answer: which states may be, over any state, as a truth; Few. -/
import Derived.Test.YtdopfonebpklkaaGreatFoldRuns11
import Derived.Test.YtdopfonebpklkaaGreatFoldRuns09
import Derived.Test.YtdopfonebpklkaaGreatFoldRuns05
import Derived.Test.YtdopfonebpklkaaGreatFoldRuns06
namespace Go.Proofs.YtdopfonebpklkaaGreat.game
open Go.ChangeShapes Go.WideShapes Go.ChangeAt Go.RowKit dice
set_option maxRecDepth 100000

set_option maxHeartbeats 8000000 in
theorem equalShots (L L' : List Sht) (sl sl' : Value) (w0 : World) (hw : ∀ s ∈ L, s.wf) (hw' : ∀ s ∈ L', s.wf) (hin : ShotsW w0 sl L) (hin' : ShotsW w0 sl' L') (hm : L.length ≤ 1000) :
    Calls Tryz.prog 107 #[sl, sl'] w0 fun e w' => SameOut (L = L') e ∧ Below w0.heap.size w0 w' := by
  obtain ⟨ad1, c1, rfl⟩ := hin.form
  obtain ⟨ad2, c2, rfl⟩ := hin'.form
  have HE79 := Lib.hid (fun W s s' (h : s ∈ L) (h' : s' ∈ L') => eq79w W s s' (hw s h) (hw' s' h'))
  have HI1 := Lib.hid hin
  have HI2 := Lib.hid hin'
  have H := Sb.start w0
  clear hw hw' hin hin'
  obtain ⟨m, hmm⟩ : ∃ m : Prop, (L = L') = m := ⟨_, rfl⟩
  rw [hmm]
  have HM := Lib.hid (show m ↔ L = L' by rw [← hmm])
  clear hmm
  go_enter Tryz.func107, Tryz.ntmps107
  by_cases e4 : L.length = L'.length
  rotate_left
  · have q : decide ((L.length : Int) = (L'.length : Int)) = false := decide_eq_false (by omega)
    have q' : ¬ (L.length : Int) = (L'.length : Int) := by omega
    go_wp2_with fail
    go_ret
    exact ⟨sameNo (fun h => e4 (by rw [HM.out.1 h])) rfl, H.below⟩
  go_wp2_with fail
  have HB := Lib.hid H
  have E4 := Lib.hid e4
  clear H e4
  go_loopw [13] (fun i W => ∃ k : Nat, k ≤ L.length ∧ i = .int .i64 k ∧ Hid (Sb [] w0 W [] []) ∧ Hid (L.take k = L'.take k)) (fun i _ => L.length - (intOf i).toNat)
  case atStart => exact ⟨0, Nat.zero_le _, rfl, HB, Lib.hid rfl⟩
  case round =>
    clear HB
    obtain ⟨k, hk, rfl, HB, HA⟩ := hrel
    by_cases hlt : k < L.length
    · obtain ⟨g1, o1, had1, hg1, hc1⟩ : ∃ gi oi, ad1 = some ⟨gi, oi, none⟩ ∧ gi < w0.heap.size ∧ ∀ j v, (cellsL L)[j]? = some v → w0.cell? ⟨gi, oi + j, none⟩ = some v := by
        rcases HI1.out with ⟨e, _⟩ | ⟨gi, oi, c', e, hgi, hc⟩
        · rw [e] at hlt; exact absurd hlt (Nat.not_lt_zero _)
        · injection e with e1 e2 e3
          exact ⟨gi, oi, e1, hgi, hc⟩
      obtain ⟨g2, o2, had2, hg2, hc2⟩ : ∃ gi oi, ad2 = some ⟨gi, oi, none⟩ ∧ gi < w0.heap.size ∧ ∀ j v, (cellsL L')[j]? = some v → w0.cell? ⟨gi, oi + j, none⟩ = some v := by
        rcases HI2.out with ⟨e, _⟩ | ⟨gi, oi, c', e, hgi, hc⟩
        · have := E4.out
          rw [e] at this
          simp at this
          rw [this] at hlt
          exact absurd hlt (by simp)
        · injection e with e1 e2 e3
          exact ⟨gi, oi, e1, hgi, hc⟩
      subst had1
      subst had2
      have hlt' : (k : Int) < (L'.length : Int) := by have := E4.out; omega
      obtain ⟨s, hs⟩ : ∃ s, L[k]? = some s := ⟨L[k], List.getElem?_eq_getElem hlt⟩
      obtain ⟨s', hs'⟩ : ∃ s, L'[k]? = some s := ⟨L'[k]'(by rw [← E4.out]; exact hlt), List.getElem?_eq_getElem _⟩
      obtain ⟨p0, p1, p2, p3, p4, p5⟩ := shot_at (fun j v h => (World.cell?_of_block (a := ⟨g1, o1 + j, none⟩) (HB.out.fr g1 hg1 (by simp))).trans (hc1 j v h)) k s hs
      obtain ⟨r0, r1, r2, r3, r4, r5⟩ := shot_at (fun j v h => (World.cell?_of_block (a := ⟨g2, o2 + j, none⟩) (HB.out.fr g2 hg2 (by simp))).trans (hc2 j v h)) k s' hs'
      have HEk := Lib.hid (fun W => HE79.out W s s' (List.mem_of_getElem? hs) (List.mem_of_getElem? hs'))
      have Hs := Lib.hid hs
      have Hs' := Lib.hid hs'
      clear hs hs' hc1 hc2 hg1 hg2
      by_cases es : s = s'
      · have HT : Hid (L.take (k + 1) = L'.take (k + 1)) := Lib.hid (by
          obtain ⟨hk1, e1⟩ := List.getElem?_eq_some_iff.1 Hs.out
          obtain ⟨hk2, e2⟩ := List.getElem?_eq_some_iff.1 Hs'.out
          rw [List.take_succ_eq_append_getElem hk1, List.take_succ_eq_append_getElem hk2, HA.out, e1, e2, es])
        subst es
        have hq : ∀ W, (Op.equalIn 10000 93 (.agg #[.int .i64 s.owner, .int .i32 s.x, .int .i32 s.y, .int .i32 s.vx, .int .i32 s.vy, .int .i64 s.left]) (.agg #[.int .i64 s.owner, .int .i32 s.x, .int .i32 s.y, .int .i32 s.vx, .int .i32 s.vy, .int .i64 s.left])).run Tryz.prog W = .ok true W := fun W => by
          obtain ⟨r, hr, hi⟩ := HEk.out W
          rw [hi.2 rfl] at hr
          exact hr
        clear HEk
        go_wp2_with fail
        go_quiet (fail)
        have HB2 := Lib.hid (HB.out.call (below_drewN (Below.refl _ _) nq))
        clear p0 p1 p2 p3 p4 p5 r0 r1 r2 r3 r4 r5 HB hq
        go_wp2_with fail
        exact ⟨⟨k + 1, hlt, rfl, HB2, HT⟩, by simp only [intOf]; omega⟩
      · have hq : ∀ W, (Op.equalIn 10000 93 (.agg #[.int .i64 s.owner, .int .i32 s.x, .int .i32 s.y, .int .i32 s.vx, .int .i32 s.vy, .int .i64 s.left]) (.agg #[.int .i64 s'.owner, .int .i32 s'.x, .int .i32 s'.y, .int .i32 s'.vx, .int .i32 s'.vy, .int .i64 s'.left])).run Tryz.prog W = .ok false W := fun W => by
          obtain ⟨r, hr, hi⟩ := HEk.out W
          cases r with
          | true => exact absurd (hi.1 rfl) es
          | false => exact hr
        have HNe : Hid (L ≠ L') := Lib.hid (fun h => by
          have := Hs.out
          rw [h] at this
          exact es (Option.some.inj (this.symm.trans Hs'.out)))
        clear HEk
        go_wp2_with fail
        go_quiet (fail)
        have HB2 := Lib.hid (HB.out.call (below_drewN (Below.refl _ _) nq))
        clear p0 p1 p2 p3 p4 p5 r0 r1 r2 r3 r4 r5 HB hq
        go_wp2_with fail
        go_ret
        exact ⟨sameNo (fun h => HNe.out (HM.out.1 h)) rfl, HB2.out.below⟩
    · obtain rfl : k = L.length := by omega
      have hLL : L = L' := by
        have := HA.out
        rw [List.take_length, E4.out, List.take_length] at this
        exact this
      have hmt : m := HM.out.2 hLL
      have HMt := Lib.hid hmt
      have hn1 : ¬ L.length < L'.length := by have := E4.out; omega
      clear hLL hmt
      go_wp2_with fail
      go_ret
      exact ⟨sameYes HMt.out rfl, HB.out.below⟩

set_option maxHeartbeats 8000000 in
theorem gameSame (g g' : Gme) (sl sl' : Value) (w0 : World) (hg : g.wf) (hg' : g'.wf) (hin : ShotsW w0 sl g.L) (hin' : ShotsW w0 sl' g'.L) (hm : g.L.length ≤ 1000) :
    Calls Tryz.prog 63 #[.agg (gameC g.fr g.d g.S sl), .agg (gameC g'.fr g'.d g'.S sl')] w0 fun e w' => SameOut (g = g') e ∧ Below w0.heap.size w0 w' := by
  have HE := Lib.hid (fun W => eq25w W g.S g'.S hg.s8 hg'.s8 hg.ships hg'.ships)
  have HQ := Lib.hid (fun W h h' => equalShots g.L g'.L sl sl' W hg.shots hg'.shots h h' hm)
  have HI1 := Lib.hid hin
  have HI2 := Lib.hid hin'
  have Hl1 := Lib.hid (show (shipsL g.S).length = 56 by rw [length_shipsL, hg.s8])
  have Hl2 := Lib.hid (show (shipsL g'.S).length = 56 by rw [length_shipsL, hg'.s8])
  have Hs1 := Lib.hid (gc_shots (fr := g.fr) (d := g.d) (S := g.S) (sl := sl) hg.s8)
  have Hs2 := Lib.hid (gc_shots (fr := g'.fr) (d := g'.d) (S := g'.S) (sl := sl') hg'.s8)
  have Hp1 := Lib.hid (fun j v h => gc_shipsw (fr := g.fr) (d := g.d) (S := g.S) (sl := sl) j v h)
  have Hp2 := Lib.hid (fun j v h => gc_shipsw (fr := g'.fr) (d := g'.d) (S := g'.S) (sl := sl') j v h)
  have HF1 : Hid ((gameC g.fr g.d g.S sl)[0]? = some (.int .i64 g.fr)) := Lib.hid rfl
  have HF2 : Hid ((gameC g'.fr g'.d g'.S sl')[0]? = some (.int .i64 g'.fr)) := Lib.hid rfl
  have HD1 : Hid ((gameC g.fr g.d g.S sl)[1]? = some (.int .u64 g.d)) := Lib.hid rfl
  have HD2 : Hid ((gameC g'.fr g'.d g'.S sl')[1]? = some (.int .u64 g'.d)) := Lib.hid rfl
  have H := Sb.start w0
  clear hg hg' hin hin'
  obtain ⟨fr, d, S, L⟩ := g
  obtain ⟨fr', d', S', L'⟩ := g'
  dsimp only at *
  generalize gameC fr d S sl = A at *
  generalize gameC fr' d' S' sl' = B at *
  obtain ⟨m, hmm⟩ : ∃ m : Prop, ((⟨fr, d, S, L⟩ : Gme) = ⟨fr', d', S', L'⟩) = m := ⟨_, rfl⟩
  rw [hmm]
  have HM := Lib.hid (show m ↔ fr = fr' ∧ d = d' ∧ S = S' ∧ L = L' by rw [← hmm]; simp)
  clear hmm
  go_enter Tryz.func63, Tryz.ntmps63
  go_upto_region 1 with (first | (refine wb_box H rfl 28 _ rfl A rfl ?_; clear H; intro b2 w H) | (refine wb_box H rfl 28 _ rfl B rfl ?_; clear H; intro b3 w H))
  replace H : Sb [] w0 w [(b3, B, 28), (b2, A, 28)] [] := H
  have x0 : w.cell? ⟨b2, 0, none⟩ = some (.int .i64 fr) := (cell_of_row w b2 0 _ 28 (0, 0) (H.holds _ (List.mem_cons_of_mem _ (List.mem_cons_self ..)))).trans HF1.out
  have y0 : w.cell? ⟨b3, 0, none⟩ = some (.int .i64 fr') := (cell_of_row w b3 0 _ 28 (0, 0) (H.holds _ (List.mem_cons_self ..))).trans HF2.out
  by_cases e1 : fr = fr'
  rotate_left
  · have q : decide (fr = fr') = false := decide_eq_false e1
    go_wp2_with fail
    go_ret
    exact ⟨sameNo (fun h => e1 (HM.out.1 h).1) rfl, H.below⟩
  subst e1
  have x1 : w.cell? ⟨b2, 1, none⟩ = some (.int .u64 d) := (cell_of_row w b2 1 _ 28 (0, 0) (H.holds _ (List.mem_cons_of_mem _ (List.mem_cons_self ..)))).trans HD1.out
  have y1 : w.cell? ⟨b3, 1, none⟩ = some (.int .u64 d') := (cell_of_row w b3 1 _ 28 (0, 0) (H.holds _ (List.mem_cons_self ..))).trans HD2.out
  by_cases e2 : d = d'
  rotate_left
  · have q : decide (d = d') = false := decide_eq_false e2
    go_wp2_with fail
    go_ret
    exact ⟨sameNo (fun h => e2 (HM.out.1 h).2.1) rfl, H.below⟩
  subst e2
  have x2 : w.cell? ⟨b2, 58, none⟩ = some sl := (cell_of_row w b2 58 _ 28 (0, 0) (H.holds _ (List.mem_cons_of_mem _ (List.mem_cons_self ..)))).trans Hs1.out
  have y2 : w.cell? ⟨b3, 58, none⟩ = some sl' := (cell_of_row w b3 58 _ 28 (0, 0) (H.holds _ (List.mem_cons_self ..))).trans Hs2.out
  by_cases e3 : S = S'
  rotate_left
  · have he : ∀ W, (Op.equalIn 10000 25 (.agg (shipsL S).toArray) (.agg (shipsL S').toArray)).run Tryz.prog W = .ok false W := fun W => by
      obtain ⟨r, hr, hi⟩ := HE.out W
      cases r with
      | true => exact absurd (hi.1 rfl) e3
      | false => exact hr
    clear HE HQ
    generalize shipsL S = ss at *
    generalize shipsL S' = ss' at *
    go_wp2_with (first | (refine wb_partL 25 _ rfl H rfl 1 _ 2 rfl _ _ rfl _ Tryz.underlying25 rfl 56 info25 ss Hp1.out Hl1.out ?_) | (refine wb_partL 25 _ rfl H rfl 0 _ 2 rfl _ _ rfl _ Tryz.underlying25 rfl 56 info25 ss' Hp2.out Hl2.out ?_))
    go_ret
    exact ⟨sameNo (fun h => e3 (HM.out.1 h).2.2.1) rfl, H.below⟩
  subst e3
  have he : ∀ W, (Op.equalIn 10000 25 (.agg (shipsL S).toArray) (.agg (shipsL S).toArray)).run Tryz.prog W = .ok true W := fun W => by
    obtain ⟨r, hr, hi⟩ := HE.out W
    rw [hi.2 rfl] at hr
    exact hr
  clear HE
  generalize shipsL S = ss at *
  go_wp2_with (first | (refine wb_partL 25 _ rfl H rfl 1 _ 2 rfl _ _ rfl _ Tryz.underlying25 rfl 56 info25 ss Hp1.out Hl1.out ?_) | (refine wb_partL 25 _ rfl H rfl 0 _ 2 rfl _ _ rfl _ Tryz.underlying25 rfl 56 info25 ss Hp2.out Hl2.out ?_))
  refine (HQ.out _ (HI1.out.later H.below) (HI2.out.later H.below)).mono ?_
  rintro e w' ⟨⟨r, rfl, hi⟩, hb⟩
  replace H := H.call hb
  have Hi := Lib.hid hi
  clear hb hi
  cases r with
  | false =>
    go_wp2_with fail
    go_ret
    exact ⟨sameNo (fun h => by have := Hi.out.2 (HM.out.1 h).2.2.2; cases this) rfl, H.below⟩
  | true =>
    go_wp2_with fail
    go_ret
    exact ⟨sameYes (HM.out.2 ⟨trivial, trivial, trivial, Hi.out.1 trivial⟩) rfl, H.below⟩
section
variable {ops : Array Oper} {rest : List Oper} {op : Oper} {a : Act} {Q : Exit → Act → World → Prop} {w0 w : World} {Hs : List Nat} {l : List Blk} {R : List RowS}
/-- wb_partA, the operation's kind asked first. -/
theorem wb_partAL (ty : TypeId) (x : Operand) (ho : op.op = .load ty x) (H : Sb Hs w0 w l R) (hw : Region.wanted op (yielded ops a.tmps) = true) (i : Nat) (g o : Nat) (hx : a.eval x = .pointer (some ⟨g, o, none⟩)) (c : Array Value) (t : TypeId) (hl : l[i]? = some (g, c, t))
    (d : TypeDesc) (hu : Tryz.prog.underlying ty = some d) (hd : d.isRow = true) (n : Nat) (hi : (Tryz.prog.info? ty).map (·.size) = some n) (vs : Array Value) (hvs : ∀ j v, vs[j]? = some v → c[o + j]? = some v) (hn : vs.size = n)
    (h : wpList Tryz.prog ops Q rest (a.put op.dst (.agg vs)) w) : wpList Tryz.prog ops Q (op :: rest) a w :=
  wb_partA H hw i ty x ho g o hx c t hl d hu hd n hi vs hvs hn h
end
set_option maxHeartbeats 4000000 in
theorem foldSame (s u : Ste) (sl sl' : Value) (w0 : World) (hs : s.wf) (hu : u.wf) (hin : ShotsW w0 sl s.g.L) (hin' : ShotsW w0 sl' u.g.L) (hm : s.g.L.length ≤ 1000) :
    Calls Tryz.prog 22 #[.agg (stateC s sl), .agg (stateC u sl')] w0 fun e w' => SameOut (s = u) e ∧ Below w0.heap.size w0 w' := by
  have HSG := Lib.hid (fun w h h' => gameSame s.g u.g sl sl' w hs.g hu.g h h' hm)
  have HE := Lib.hid (fun W => eq33w W s.ver u.ver s.T u.T hs.t8 hu.t8 hs.ver hu.ver hs.seats hu.seats)
  have HI1 := Lib.hid hin
  have HI2 := Lib.hid hin'
  have HG1 := Lib.hid (fun j v h => sc_game (s := s) (sl := sl) j v h)
  have HG2 := Lib.hid (fun j v h => sc_game (s := u) (sl := sl') j v h)
  have HO1 := Lib.hid (fun j v h => sc_roster (s := s) (sl := sl) hs.g.s8 j v h)
  have HO2 := Lib.hid (fun j v h => sc_roster (s := u) (sl := sl') hu.g.s8 j v h)
  have Hgs1 := Lib.hid (gc_size (fr := s.g.fr) (d := s.g.d) (sl := sl) hs.g.s8)
  have Hgs2 := Lib.hid (gc_size (fr := u.g.fr) (d := u.g.d) (sl := sl') hu.g.s8)
  have Hrs1 := Lib.hid (rc_size (ver := s.ver) hs.t8)
  have Hrs2 := Lib.hid (rc_size (ver := u.ver) hu.t8)
  have H := Sb.start w0
  obtain ⟨m, hmm⟩ : ∃ m : Prop, (s = u) = m := ⟨_, rfl⟩
  rw [hmm]
  have HM := Lib.hid (show m ↔ s.g = u.g ∧ s.ver = u.ver ∧ s.T = u.T by rw [← hmm]; exact ste_eq)
  clear hmm hs hu hin hin' hm
  generalize stateC s sl = A at *
  generalize stateC u sl' = B at *
  go_enter Tryz.func22, Tryz.ntmps22
  by_cases e2 : s.ver = u.ver ∧ s.T = u.T
  · have he : ∀ W, (Op.equalIn 10000 33 (.agg (rosterC s.ver s.T)) (.agg (rosterC u.ver u.T))).run Tryz.prog W = .ok true W := fun W => by
      obtain ⟨r, hr, hi⟩ := HE.out W
      rw [hi.2 e2] at hr
      exact hr
    have E2 := Lib.hid e2
    clear HE e2
    generalize rosterC s.ver s.T = RA at *
    generalize rosterC u.ver u.T = RB at *
    go_wp2_with (first | (refine wb_box H rfl 35 _ rfl A rfl ?_; clear H; intro b2 w H) | (refine wb_box H rfl 35 _ rfl B rfl ?_; clear H; intro b3 w H) | (refine wb_partAL 33 _ rfl H rfl 1 _ 59 rfl _ _ rfl _ Tryz.underlying33 rfl 17 info33 RA HO1.out Hrs1.out ?_) | (refine wb_partAL 33 _ rfl H rfl 0 _ 59 rfl _ _ rfl _ Tryz.underlying33 rfl 17 info33 RB HO2.out Hrs2.out ?_) | (refine wb_partAL 28 _ rfl H rfl 1 _ 0 rfl _ _ rfl _ Tryz.underlying28 rfl 59 info28 (gameC s.g.fr s.g.d s.g.S sl) (fun j v h => by rw [Nat.zero_add]; exact HG1.out j v h) Hgs1.out ?_) | (refine wb_partAL 28 _ rfl H rfl 0 _ 0 rfl _ _ rfl _ Tryz.underlying28 rfl 59 info28 (gameC u.g.fr u.g.d u.g.S sl') (fun j v h => by rw [Nat.zero_add]; exact HG2.out j v h) Hgs2.out ?_))
    refine (HSG.out _ (HI1.out.later H.below) (HI2.out.later H.below)).mono ?_
    rintro e w' ⟨⟨r, rfl, hi⟩, hb⟩
    replace H := H.call hb
    have Hi := Lib.hid hi
    clear hb hi
    cases r with
    | false =>
      go_wp2_with fail
      go_ret
      exact ⟨sameNo (fun h => by have := Hi.out.2 (HM.out.1 h).1; cases this) rfl, H.below⟩
    | true =>
      go_wp2_with fail
      go_ret
      exact ⟨sameYes (HM.out.2 ⟨Hi.out.1 trivial, E2.out⟩) rfl, H.below⟩
  · have he : ∀ W, (Op.equalIn 10000 33 (.agg (rosterC s.ver s.T)) (.agg (rosterC u.ver u.T))).run Tryz.prog W = .ok false W := fun W => by
      obtain ⟨r, hr, hi⟩ := HE.out W
      cases r with
      | true => exact absurd (hi.1 rfl) e2
      | false => exact hr
    have HMf : Hid (¬ m) := Lib.hid (fun h => e2 (HM.out.1 h).2)
    clear HE e2 HM
    generalize rosterC s.ver s.T = RA at *
    generalize rosterC u.ver u.T = RB at *
    go_wp2_with (first | (refine wb_box H rfl 35 _ rfl A rfl ?_; clear H; intro b2 w H) | (refine wb_box H rfl 35 _ rfl B rfl ?_; clear H; intro b3 w H) | (refine wb_partAL 33 _ rfl H rfl 1 _ 59 rfl _ _ rfl _ Tryz.underlying33 rfl 17 info33 RA HO1.out Hrs1.out ?_) | (refine wb_partAL 33 _ rfl H rfl 0 _ 59 rfl _ _ rfl _ Tryz.underlying33 rfl 17 info33 RB HO2.out Hrs2.out ?_) | (refine wb_partAL 28 _ rfl H rfl 1 _ 0 rfl _ _ rfl _ Tryz.underlying28 rfl 59 info28 (gameC s.g.fr s.g.d s.g.S sl) (fun j v h => by rw [Nat.zero_add]; exact HG1.out j v h) Hgs1.out ?_) | (refine wb_partAL 28 _ rfl H rfl 0 _ 0 rfl _ _ rfl _ Tryz.underlying28 rfl 59 info28 (gameC u.g.fr u.g.d u.g.S sl') (fun j v h => by rw [Nat.zero_add]; exact HG2.out j v h) Hgs2.out ?_))
    go_ret
    exact ⟨sameNo HMf.out rfl, H.below⟩
end Go.Proofs.YtdopfonebpklkaaGreat.game
namespace Go.Proofs.YtdopfonebpklkaaGreat.game
open Go.ChangeShapes Go.WideShapes Go.ChangeAt Go.RowKit dice
set_option maxRecDepth 100000

theorem rin_b (a : Int) (w : World) : Calls Tryz.prog 105 #[.int .i32 a] w fun e w' => e = .returned (.bool (onB a)) ∧ w = w' := by
  by_cases h : 0 ≤ a
  · by_cases h' : a < 16777216
    · rw [show onB a = true by simp [onB, h, h']]; exact rin_any a w h h'
    · rw [show onB a = false by simp [onB, h']]
      have h' : 16777216 ≤ a := by omega
      go_enter Tryz.func105, Tryz.ntmps105
      go_wp2
      go_ret
      exact ⟨rfl, rfl⟩
  · rw [show onB a = false by simp [onB, h]]
    have h : a < 0 := by omega
    go_enter Tryz.func105, Tryz.ntmps105
    go_wp2
    go_ret
    exact ⟨rfl, rfl⟩
theorem rslow_b (a m : Int) (w : World) (hm : m = 524288 ∨ m = 393216) : Calls Tryz.prog 106 #[.int .i32 a, .int .i32 m] w fun e w' => e = .returned (.bool (sizeB a m)) ∧ w = w' := by
  by_cases h : -m ≤ a
  · by_cases h' : a ≤ m
    · rw [show sizeB a m = true by simp [sizeB, h, h']]
      exact rslow_any a m w hm h h'
    · rw [show sizeB a m = false by simp [sizeB, h']]
      have h' : m < a := by omega
      rcases hm with rfl | rfl <;>
      · go_enter Tryz.func106, Tryz.ntmps106
        go_wp2
        go_ret
        exact ⟨rfl, rfl⟩
  · rw [show sizeB a m = false by simp [sizeB, h]]
    have h : a < -m := by omega
    rcases hm with rfl | rfl <;>
    · go_enter Tryz.func106, Tryz.ntmps106
      go_wp2
      go_ret
      exact ⟨rfl, rfl⟩
theorem may_ship {fr d : Int} {S : List Shp} {L : List Sht} (h : S.all Shp.may = false) : Gme.may ⟨fr, d, S, L⟩ = false := by
  simp [Gme.may, h]
theorem may_shot {fr d : Int} {S : List Shp} {L : List Sht} (h : L.all Sht.may = false) : Gme.may ⟨fr, d, S, L⟩ = false := by
  simp [Gme.may, h]
theorem info79w : (Tryz.prog.info? 93).map (·.size) = some 6 := by kernel_rfl
set_option maxHeartbeats 8000000 in
theorem rmayG_b (g : Gme) (sl : Value) (w0' : World) (hg : g.wf) (hin : ShotsW w0' sl g.L) :
    Calls Tryz.prog 60 #[.agg (gameC g.fr g.d g.S sl)] w0' fun e w' => e = .returned (.bool g.may) ∧ Below w0'.heap.size w0' w' := by
  obtain ⟨ad, c, rfl⟩ := hin.form
  have HS := Lib.hid hg.s8
  have HO := Lib.hid hg.ships
  have HI := Lib.hid hin
  have H := Sb.start w0'
  clear hg hin
  obtain ⟨fr, d, S, L⟩ := g
  dsimp only at *
  have Hs58 := Lib.hid (gc_shots (fr := fr) (d := d) (S := S) (sl := .slice ad L.length c) HS.out)
  have H00 : Hid ((gameC fr d S (.slice ad L.length c))[0]? = some (.int .i64 fr)) := Lib.hid rfl
  have HAT := Lib.hid (fun k j t v ht hv => gc_at (fr := fr) (d := d) (S := S) (sl := .slice ad L.length c) k j t v ht hv)
  obtain ⟨m, hmay⟩ : ∃ m, Gme.may ⟨fr, d, S, L⟩ = m := ⟨_, rfl⟩
  rw [hmay]
  have HMay := Lib.hid hmay
  clear hmay
  generalize gameC fr d S (.slice ad L.length c) = cs at *
  by_cases hA : 0 ≤ fr ∧ fr ≤ 1048576 ∧ L.length ≤ 32
  rotate_left
  · have hf : m = false := by
      rw [← HMay.out]
      simp only [Gme.may]
      by_cases h1 : 0 ≤ fr
      · by_cases h2 : fr ≤ 1048576
        · have h3 : ¬ L.length ≤ 32 := fun h => hA ⟨h1, h2, h⟩
          simp [h3]
        · simp [h2]
      · simp [h1]
    subst hf
    by_cases h1 : 0 ≤ fr
    · by_cases h2 : fr ≤ 1048576
      · have q0 : decide (fr < 0) = false := decide_eq_false (by omega)
        have q1 : decide (1048576 < fr) = false := decide_eq_false (by omega)
        have q2 : decide (32 < (L.length : Int)) = true := decide_eq_true (by omega)
        go_enter Tryz.func60, Tryz.ntmps60
        go_wp2_with (first | (refine wb_box H rfl 28 _ rfl cs rfl ?_; clear H; intro b1 w H) | (refine wb_cell H rfl 0 3 _ rfl _ 0 rfl _ _ rfl Tryz.isAgg3 (.int .i64 fr) H00.out ?_) | (refine wb_cell H rfl 0 26 _ rfl _ 58 rfl _ _ rfl Tryz.isAgg26 (.slice ad L.length c) Hs58.out ?_))
        go_ret
        exact ⟨rfl, H.below⟩
      · have q0 : decide (fr < 0) = false := decide_eq_false (by omega)
        have q1 : decide (1048576 < fr) = true := decide_eq_true (by omega)
        go_enter Tryz.func60, Tryz.ntmps60
        go_wp2_with (first | (refine wb_box H rfl 28 _ rfl cs rfl ?_; clear H; intro b1 w H) | (refine wb_cell H rfl 0 3 _ rfl _ 0 rfl _ _ rfl Tryz.isAgg3 (.int .i64 fr) H00.out ?_) | (refine wb_cell H rfl 0 26 _ rfl _ 58 rfl _ _ rfl Tryz.isAgg26 (.slice ad L.length c) Hs58.out ?_))
        go_ret
        exact ⟨rfl, H.below⟩
    · have q0 : decide (fr < 0) = true := decide_eq_true (by omega)
      go_enter Tryz.func60, Tryz.ntmps60
      go_wp2_with (first | (refine wb_box H rfl 28 _ rfl cs rfl ?_; clear H; intro b1 w H) | (refine wb_cell H rfl 0 3 _ rfl _ 0 rfl _ _ rfl Tryz.isAgg3 (.int .i64 fr) H00.out ?_) | (refine wb_cell H rfl 0 26 _ rfl _ 58 rfl _ _ rfl Tryz.isAgg26 (.slice ad L.length c) Hs58.out ?_))
      go_ret
      exact ⟨rfl, H.below⟩
  obtain ⟨h1, h2, h3⟩ := hA
  have HFR := Lib.hid (And.intro h1 h2)
  have h3' : (L.length : Int) ≤ 32 := by omega
  have q0 : decide (fr < 0) = false := decide_eq_false (by omega)
  have q1 : decide (1048576 < fr) = false := decide_eq_false (by omega)
  have q2 : decide (32 < (L.length : Int)) = false := decide_eq_false (by omega)
  go_enter Tryz.func60, Tryz.ntmps60
  go_wp2_with (first | (refine wb_box H rfl 28 _ rfl cs rfl ?_; clear H; intro b1 w H) | (refine wb_cell H rfl 0 3 _ rfl _ 0 rfl _ _ rfl Tryz.isAgg3 (.int .i64 fr) H00.out ?_) | (refine wb_cell H rfl 0 26 _ rfl _ 58 rfl _ _ rfl Tryz.isAgg26 (.slice ad L.length c) Hs58.out ?_))
  have H' := Lib.hid H
  clear H h1 h2 q0 q1 q2
  go_loopw [3] (fun i W => ∃ k : Nat, k ≤ 8 ∧ i = .int .i64 k ∧ Hid (Sb [] w0' W [(b1, cs, 28)] []) ∧ Hid ((S.take k).all Shp.may = true)) (fun i _ => 8 - (intOf i).toNat)
  case atStart => exact ⟨0, Nat.zero_le _, rfl, H', Lib.hid rfl⟩
  case round =>
    clear H'
    obtain ⟨k, hk, rfl, HB, HA⟩ := hrel
    by_cases hlt : k < 8
    · obtain ⟨t, ht⟩ : ∃ t, S[k]? = some t := ⟨S[k]'(by rw [HS.out]; exact hlt), List.getElem?_eq_getElem _⟩
      have hwf := HO.out t (List.mem_of_getElem? ht)
      have CX := Lib.hid (fun (j : Nat) (v : Value) hv => HAT.out k j t v ht hv)
      have Ht := Lib.hid ht
      have HE := Lib.hid (fun W => eq24 W t hwf)
      have H := HB.out
      clear HB ht hwf
      obtain ⟨o, x, y, vx, vy, cl, sc⟩ := t
      have I1 := Lib.hid (fun w => rin_b x w)
      have I2 := Lib.hid (fun w => rin_b y w)
      have I3 := Lib.hid (fun w => rslow_b vx 524288 w (.inl rfl))
      have I4 := Lib.hid (fun w => rslow_b vy 524288 w (.inl rfl))
      cases o
      · have HE2 := HE.out
        simp only [shipL, zShp, and_true] at HE2
        by_cases hz : x = 0 ∧ y = 0 ∧ vx = 0 ∧ vy = 0 ∧ cl = 0 ∧ sc = 0
        · have HMt : Hid (Shp.may ⟨false, x, y, vx, vy, cl, sc⟩ = true) := Lib.hid (by simp [Shp.may, hz])
          obtain ⟨rfl, rfl, rfl, rfl, rfl, rfl⟩ := hz
          have HE3 : ∀ (W : World), (Op.equalIn 10000 24 (.agg #[.bool false, .int .i32 0, .int .i32 0, .int .i32 0, .int .i32 0, .int .i64 0, .int .i64 0]) (.agg #[.bool false, .int .i32 0, .int .i32 0, .int .i32 0, .int .i32 0, .int .i64 0, .int .i64 0])).run Tryz.prog W = .ok true W := fun W => by rw [HE2 W]; rfl
          clear HE2 HE
          go_wp2_with (first | (refine wb_part H rfl 0 24 _ rfl _ (2 + k * 7) rfl _ _ rfl _ Tryz.underlying24 rfl 7 info24 [.bool false, .int .i32 0, .int .i32 0, .int .i32 0, .int .i32 0, .int .i64 0, .int .i64 0] CX.out rfl ?_) | (refine wb_alloc H rfl 24 rfl _ Tryz.zeroValue24 ?_; clear H; intro b4 w H) | (refine wb_put H rfl 0 24 _ _ rfl _ 0 rfl _ _ rfl (.agg #[.bool false, .int .i32 0, .int .i32 0, .int .i32 0, .int .i32 0, .int .i64 0, .int .i64 0]) rfl 7 info24 rfl (Nat.le_of_ble_eq_true rfl) rfl #[.bool false, .int .i32 0, .int .i32 0, .int .i32 0, .int .i32 0, .int .i64 0, .int .i64 0] rfl ?_; clear H; intro w H) | (refine wb_cell H rfl 0 4 _ rfl _ 0 rfl _ _ rfl Tryz.isAgg4 (.bool false) rfl ?_) | (refine wb_whole H rfl 0 24 _ rfl _ rfl #[.bool false, .int .i32 0, .int .i32 0, .int .i32 0, .int .i32 0, .int .i64 0, .int .i64 0] rfl _ Tryz.underlying24 rfl 7 info24 rfl ?_) | (refine wb_cell H rfl 0 21 _ rfl _ 1 rfl _ _ rfl Tryz.isAgg21 (.int .i32 0) rfl ?_))
          refine (I1.out _).mono ?_; rintro e w' ⟨rfl, rfl⟩
          rw [show onB 0 = true from rfl]
          go_wp2_with (refine wb_cell H rfl 0 21 _ rfl _ 2 rfl _ _ rfl Tryz.isAgg21 (.int .i32 0) rfl ?_)
          refine (I2.out _).mono ?_; rintro e w' ⟨rfl, rfl⟩
          rw [show onB 0 = true from rfl]
          go_wp2_with (refine wb_cell H rfl 0 21 _ rfl _ 3 rfl _ _ rfl Tryz.isAgg21 (.int .i32 0) rfl ?_)
          refine (I3.out _).mono ?_; rintro e w' ⟨rfl, rfl⟩
          rw [show sizeB 0 524288 = true from rfl]
          go_wp2_with (refine wb_cell H rfl 0 21 _ rfl _ 4 rfl _ _ rfl Tryz.isAgg21 (.int .i32 0) rfl ?_)
          refine (I4.out _).mono ?_; rintro e w' ⟨rfl, rfl⟩
          rw [show sizeB 0 524288 = true from rfl]
          go_wp2_with (first | (refine wb_cell H rfl 0 3 _ rfl _ 5 rfl _ _ rfl Tryz.isAgg3 (.int .i64 0) rfl ?_) | (refine wb_cell H rfl 0 3 _ rfl _ 6 rfl _ _ rfl Tryz.isAgg3 (.int .i64 0) rfl ?_))
          have H2 : Sb [] w0' w [(b4, #[.bool false, .int .i32 0, .int .i32 0, .int .i32 0, .int .i32 0, .int .i64 0, .int .i64 0], 24), (b1, cs, 28)] [] := H
          exact ⟨⟨k + 1, hlt, rfl, Lib.hid H2.tail, Lib.hid (all_take HA.out Ht.out HMt.out)⟩, by simp only [intOf]; omega⟩
        · have HMt : Hid (Shp.may ⟨false, x, y, vx, vy, cl, sc⟩ = false) := Lib.hid (by simp only [Shp.may, Bool.false_eq_true, if_false, decide_eq_false_iff_not]; exact hz)
          have HE3 : ∀ (W : World), (Op.equalIn 10000 24 (.agg #[.bool false, .int .i32 x, .int .i32 y, .int .i32 vx, .int .i32 vy, .int .i64 cl, .int .i64 sc]) (.agg #[.bool false, .int .i32 0, .int .i32 0, .int .i32 0, .int .i32 0, .int .i64 0, .int .i64 0])).run Tryz.prog W = .ok false W := fun W => by rw [HE2 W, decide_eq_false hz]
          clear HE2 HE hz
          go_wp2_with (first | (refine wb_part H rfl 0 24 _ rfl _ (2 + k * 7) rfl _ _ rfl _ Tryz.underlying24 rfl 7 info24 [.bool false, .int .i32 x, .int .i32 y, .int .i32 vx, .int .i32 vy, .int .i64 cl, .int .i64 sc] CX.out rfl ?_) | (refine wb_alloc H rfl 24 rfl _ Tryz.zeroValue24 ?_; clear H; intro b4 w H) | (refine wb_put H rfl 0 24 _ _ rfl _ 0 rfl _ _ rfl (.agg #[.bool false, .int .i32 x, .int .i32 y, .int .i32 vx, .int .i32 vy, .int .i64 cl, .int .i64 sc]) rfl 7 info24 rfl (Nat.le_of_ble_eq_true rfl) rfl #[.bool false, .int .i32 x, .int .i32 y, .int .i32 vx, .int .i32 vy, .int .i64 cl, .int .i64 sc] rfl ?_; clear H; intro w H) | (refine wb_cell H rfl 0 4 _ rfl _ 0 rfl _ _ rfl Tryz.isAgg4 (.bool false) rfl ?_) | (refine wb_whole H rfl 0 24 _ rfl _ rfl #[.bool false, .int .i32 x, .int .i32 y, .int .i32 vx, .int .i32 vy, .int .i64 cl, .int .i64 sc] rfl _ Tryz.underlying24 rfl 7 info24 rfl ?_) | (refine wb_cell H rfl 0 21 _ rfl _ 1 rfl _ _ rfl Tryz.isAgg21 (.int .i32 x) rfl ?_))
          go_ret
          exact ⟨by rw [← HMay.out, may_ship (all_not Ht.out HMt.out)]; rfl, H.below⟩
      · clear HE
        go_wp2_with (first | (refine wb_part H rfl 0 24 _ rfl _ (2 + k * 7) rfl _ _ rfl _ Tryz.underlying24 rfl 7 info24 [.bool true, .int .i32 x, .int .i32 y, .int .i32 vx, .int .i32 vy, .int .i64 cl, .int .i64 sc] CX.out rfl ?_) | (refine wb_alloc H rfl 24 rfl _ Tryz.zeroValue24 ?_; clear H; intro b4 w H) | (refine wb_put H rfl 0 24 _ _ rfl _ 0 rfl _ _ rfl (.agg #[.bool true, .int .i32 x, .int .i32 y, .int .i32 vx, .int .i32 vy, .int .i64 cl, .int .i64 sc]) rfl 7 info24 rfl (Nat.le_of_ble_eq_true rfl) rfl #[.bool true, .int .i32 x, .int .i32 y, .int .i32 vx, .int .i32 vy, .int .i64 cl, .int .i64 sc] rfl ?_; clear H; intro w H) | (refine wb_cell H rfl 0 4 _ rfl _ 0 rfl _ _ rfl Tryz.isAgg4 (.bool true) rfl ?_) | (refine wb_whole H rfl 0 24 _ rfl _ rfl #[.bool true, .int .i32 x, .int .i32 y, .int .i32 vx, .int .i32 vy, .int .i64 cl, .int .i64 sc] rfl _ Tryz.underlying24 rfl 7 info24 rfl ?_) | (refine wb_cell H rfl 0 21 _ rfl _ 1 rfl _ _ rfl Tryz.isAgg21 (.int .i32 x) rfl ?_))
        refine (I1.out _).mono ?_; rintro e w' ⟨rfl, rfl⟩
        cases q1 : onB x
        · have HMt : Hid (Shp.may ⟨true, x, y, vx, vy, cl, sc⟩ = false) := Lib.hid (by simp [Shp.may, q1])
          go_wp2_with fail
          go_ret
          exact ⟨by rw [← HMay.out, may_ship (all_not Ht.out HMt.out)]; rfl, H.below⟩
        go_wp2_with (refine wb_cell H rfl 0 21 _ rfl _ 2 rfl _ _ rfl Tryz.isAgg21 (.int .i32 y) rfl ?_)
        refine (I2.out _).mono ?_; rintro e w' ⟨rfl, rfl⟩
        cases q2 : onB y
        · have HMt : Hid (Shp.may ⟨true, x, y, vx, vy, cl, sc⟩ = false) := Lib.hid (by simp [Shp.may, q1, q2])
          go_wp2_with fail
          go_ret
          exact ⟨by rw [← HMay.out, may_ship (all_not Ht.out HMt.out)]; rfl, H.below⟩
        go_wp2_with (refine wb_cell H rfl 0 21 _ rfl _ 3 rfl _ _ rfl Tryz.isAgg21 (.int .i32 vx) rfl ?_)
        refine (I3.out _).mono ?_; rintro e w' ⟨rfl, rfl⟩
        cases q3 : sizeB vx 524288
        · have HMt : Hid (Shp.may ⟨true, x, y, vx, vy, cl, sc⟩ = false) := Lib.hid (by simp [Shp.may, q1, q2, q3])
          go_wp2_with fail
          go_ret
          exact ⟨by rw [← HMay.out, may_ship (all_not Ht.out HMt.out)]; rfl, H.below⟩
        go_wp2_with (refine wb_cell H rfl 0 21 _ rfl _ 4 rfl _ _ rfl Tryz.isAgg21 (.int .i32 vy) rfl ?_)
        refine (I4.out _).mono ?_; rintro e w' ⟨rfl, rfl⟩
        cases q4 : sizeB vy 524288
        · have HMt : Hid (Shp.may ⟨true, x, y, vx, vy, cl, sc⟩ = false) := Lib.hid (by simp [Shp.may, q1, q2, q3, q4])
          go_wp2_with fail
          go_ret
          exact ⟨by rw [← HMay.out, may_ship (all_not Ht.out HMt.out)]; rfl, H.below⟩
        by_cases c0 : 0 ≤ cl
        rotate_left
        · have HMt : Hid (Shp.may ⟨true, x, y, vx, vy, cl, sc⟩ = false) := Lib.hid (by simp [Shp.may, c0])
          have c0' : decide (cl < 0) = true := decide_eq_true (by omega)
          go_wp2_with (first | (refine wb_cell H rfl 0 3 _ rfl _ 5 rfl _ _ rfl Tryz.isAgg3 (.int .i64 cl) rfl ?_) | (refine wb_cell H rfl 0 3 _ rfl _ 6 rfl _ _ rfl Tryz.isAgg3 (.int .i64 sc) rfl ?_))
          go_ret
          exact ⟨by rw [← HMay.out, may_ship (all_not Ht.out HMt.out)]; rfl, H.below⟩
        have c0' : decide (cl < 0) = false := decide_eq_false (by omega)
        by_cases c1 : cl ≤ 10
        rotate_left
        · have HMt : Hid (Shp.may ⟨true, x, y, vx, vy, cl, sc⟩ = false) := Lib.hid (by simp [Shp.may, c1])
          have c1' : decide (10 < cl) = true := decide_eq_true (by omega)
          go_wp2_with (first | (refine wb_cell H rfl 0 3 _ rfl _ 5 rfl _ _ rfl Tryz.isAgg3 (.int .i64 cl) rfl ?_) | (refine wb_cell H rfl 0 3 _ rfl _ 6 rfl _ _ rfl Tryz.isAgg3 (.int .i64 sc) rfl ?_))
          go_ret
          exact ⟨by rw [← HMay.out, may_ship (all_not Ht.out HMt.out)]; rfl, H.below⟩
        have c1' : decide (10 < cl) = false := decide_eq_false (by omega)
        by_cases c2 : 0 ≤ sc
        rotate_left
        · have HMt : Hid (Shp.may ⟨true, x, y, vx, vy, cl, sc⟩ = false) := Lib.hid (by simp [Shp.may, c2])
          have c2' : decide (sc < 0) = true := decide_eq_true (by omega)
          go_wp2_with (first | (refine wb_cell H rfl 0 3 _ rfl _ 5 rfl _ _ rfl Tryz.isAgg3 (.int .i64 cl) rfl ?_) | (refine wb_cell H rfl 0 3 _ rfl _ 6 rfl _ _ rfl Tryz.isAgg3 (.int .i64 sc) rfl ?_))
          go_ret
          exact ⟨by rw [← HMay.out, may_ship (all_not Ht.out HMt.out)]; rfl, H.below⟩
        have c2' : decide (sc < 0) = false := decide_eq_false (by omega)
        by_cases c3 : sc ≤ 1073741824
        rotate_left
        · have HMt : Hid (Shp.may ⟨true, x, y, vx, vy, cl, sc⟩ = false) := Lib.hid (by simp [Shp.may, c3])
          have c3' : decide (1073741824 < sc) = true := decide_eq_true (by omega)
          go_wp2_with (first | (refine wb_cell H rfl 0 3 _ rfl _ 5 rfl _ _ rfl Tryz.isAgg3 (.int .i64 cl) rfl ?_) | (refine wb_cell H rfl 0 3 _ rfl _ 6 rfl _ _ rfl Tryz.isAgg3 (.int .i64 sc) rfl ?_))
          go_ret
          exact ⟨by rw [← HMay.out, may_ship (all_not Ht.out HMt.out)]; rfl, H.below⟩
        have c3' : decide (1073741824 < sc) = false := decide_eq_false (by omega)
        have HMt : Hid (Shp.may ⟨true, x, y, vx, vy, cl, sc⟩ = true) := Lib.hid (by simp [Shp.may, q1, q2, q3, q4, c0, c1, c2, c3])
        go_wp2_with (first | (refine wb_cell H rfl 0 3 _ rfl _ 5 rfl _ _ rfl Tryz.isAgg3 (.int .i64 cl) rfl ?_) | (refine wb_cell H rfl 0 3 _ rfl _ 6 rfl _ _ rfl Tryz.isAgg3 (.int .i64 sc) rfl ?_))
        have H2 : Sb [] w0' w [(b4, #[.bool true, .int .i32 x, .int .i32 y, .int .i32 vx, .int .i32 vy, .int .i64 cl, .int .i64 sc], 24), (b1, cs, 28)] [] := H
        exact ⟨⟨k + 1, hlt, rfl, Lib.hid H2.tail, Lib.hid (all_take HA.out Ht.out HMt.out)⟩, by simp only [intOf]; omega⟩
    · obtain rfl : k = 8 := by omega
      rw [show ((8 : Nat) : Int) = 8 from rfl]
      have hS : S.all Shp.may = true := by have := HA.out; rw [← HS.out, List.take_length] at this; exact this
      have HSm := Lib.hid hS
      clear hS HA
      go_wp2_with fail
      go_loopw [5] (fun i W => ∃ k : Nat, k ≤ L.length ∧ i = .int .i64 k ∧ Hid (Sb [] w0' W [(b1, cs, 28)] []) ∧ Hid ((L.take k).all Sht.may = true)) (fun i _ => L.length - (intOf i).toNat)
      case atStart => exact ⟨0, Nat.zero_le _, rfl, HB, Lib.hid rfl⟩
      case round =>
        clear HB
        obtain ⟨k, hk, rfl, HB, HA⟩ := hrel
        by_cases hlt : k < L.length
        · obtain ⟨gi, oi, had, hgi, hcs⟩ : ∃ gi oi, ad = some ⟨gi, oi, none⟩ ∧ gi < w0'.heap.size ∧ ∀ j v, (cellsL L)[j]? = some v → w0'.cell? ⟨gi, oi + j, none⟩ = some v := by
            rcases HI.out with ⟨e, _⟩ | ⟨gi, oi, c', e, hgi, hc⟩
            · rw [e] at hlt; exact absurd hlt (Nat.not_lt_zero _)
            · injection e with e1 e2 e3
              exact ⟨gi, oi, e1, hgi, hc⟩
          subst had
          obtain ⟨s, hs⟩ : ∃ s, L[k]? = some s := ⟨L[k], List.getElem?_eq_getElem hlt⟩
          have hA : ShotAt wr gi (oi + k * 6) s := shot_at (fun j v hv => (World.cell?_of_block (HB.out.fr gi hgi (by simp))).trans (hcs j v hv)) k s hs
          have Hs := Lib.hid hs
          have H := HB.out
          clear HB hs hcs
          obtain ⟨o, x, y, vx, vy, lf⟩ := s
          obtain ⟨p0, p1, p2, p3, p4, p5⟩ := hA
          have I1 := Lib.hid (fun w => rin_b x w)
          have I2 := Lib.hid (fun w => rin_b y w)
          have I3 := Lib.hid (fun w => rslow_b vx 393216 w (.inr rfl))
          have I4 := Lib.hid (fun w => rslow_b vy 393216 w (.inr rfl))
          dsimp only at p0 p1 p2 p3 p4 p5
          by_cases c0 : 0 ≤ o
          rotate_left
          · have HMt : Hid (Sht.may ⟨o, x, y, vx, vy, lf⟩ = false) := Lib.hid (by simp only [Sht.may, decide_eq_false c0, Bool.false_and])
            have c0' : decide (o < 0) = true := decide_eq_true (by omega)
            go_wp2_with (first | (refine wb_cell H rfl 0 26 _ rfl _ 58 rfl _ _ rfl Tryz.isAgg26 (.slice (some ⟨gi, oi, none⟩) L.length c) Hs58.out ?_) | (refine wb_alloc H rfl 93 rfl _ Tryz.zeroValue93 ?_; clear H; intro b6 w H) | (refine wb_put H rfl 0 93 _ _ rfl _ 0 rfl _ _ rfl (.agg #[.int .i64 o, .int .i32 x, .int .i32 y, .int .i32 vx, .int .i32 vy, .int .i64 lf]) rfl 6 info79w rfl (Nat.le_of_ble_eq_true rfl) rfl #[.int .i64 o, .int .i32 x, .int .i32 y, .int .i32 vx, .int .i32 vy, .int .i64 lf] rfl ?_; clear H; intro w H) | (refine wb_cell H rfl 0 3 _ rfl _ 0 rfl _ _ rfl Tryz.isAgg3 (.int .i64 o) rfl ?_) | (refine wb_cell H rfl 0 21 _ rfl _ 1 rfl _ _ rfl Tryz.isAgg21 (.int .i32 x) rfl ?_))
            go_ret
            exact ⟨by rw [← HMay.out, may_shot (all_not Hs.out HMt.out)]; rfl, H.below⟩
          have c0' : decide (o < 0) = false := decide_eq_false (by omega)
          by_cases c1 : o < 8
          rotate_left
          · have HMt : Hid (Sht.may ⟨o, x, y, vx, vy, lf⟩ = false) := Lib.hid (by simp only [Sht.may, decide_eq_false c1, Bool.and_false, Bool.false_and])
            have c1' : decide (8 ≤ o) = true := decide_eq_true (by omega)
            go_wp2_with (first | (refine wb_cell H rfl 0 26 _ rfl _ 58 rfl _ _ rfl Tryz.isAgg26 (.slice (some ⟨gi, oi, none⟩) L.length c) Hs58.out ?_) | (refine wb_alloc H rfl 93 rfl _ Tryz.zeroValue93 ?_; clear H; intro b6 w H) | (refine wb_put H rfl 0 93 _ _ rfl _ 0 rfl _ _ rfl (.agg #[.int .i64 o, .int .i32 x, .int .i32 y, .int .i32 vx, .int .i32 vy, .int .i64 lf]) rfl 6 info79w rfl (Nat.le_of_ble_eq_true rfl) rfl #[.int .i64 o, .int .i32 x, .int .i32 y, .int .i32 vx, .int .i32 vy, .int .i64 lf] rfl ?_; clear H; intro w H) | (refine wb_cell H rfl 0 3 _ rfl _ 0 rfl _ _ rfl Tryz.isAgg3 (.int .i64 o) rfl ?_) | (refine wb_cell H rfl 0 21 _ rfl _ 1 rfl _ _ rfl Tryz.isAgg21 (.int .i32 x) rfl ?_))
            go_ret
            exact ⟨by rw [← HMay.out, may_shot (all_not Hs.out HMt.out)]; rfl, H.below⟩
          have c1' : decide (8 ≤ o) = false := decide_eq_false (by omega)
          go_wp2_with (first | (refine wb_cell H rfl 0 26 _ rfl _ 58 rfl _ _ rfl Tryz.isAgg26 (.slice (some ⟨gi, oi, none⟩) L.length c) Hs58.out ?_) | (refine wb_alloc H rfl 93 rfl _ Tryz.zeroValue93 ?_; clear H; intro b6 w H) | (refine wb_put H rfl 0 93 _ _ rfl _ 0 rfl _ _ rfl (.agg #[.int .i64 o, .int .i32 x, .int .i32 y, .int .i32 vx, .int .i32 vy, .int .i64 lf]) rfl 6 info79w rfl (Nat.le_of_ble_eq_true rfl) rfl #[.int .i64 o, .int .i32 x, .int .i32 y, .int .i32 vx, .int .i32 vy, .int .i64 lf] rfl ?_; clear H; intro w H) | (refine wb_cell H rfl 0 3 _ rfl _ 0 rfl _ _ rfl Tryz.isAgg3 (.int .i64 o) rfl ?_) | (refine wb_cell H rfl 0 21 _ rfl _ 1 rfl _ _ rfl Tryz.isAgg21 (.int .i32 x) rfl ?_))
          refine (I1.out _).mono ?_; rintro e w' ⟨rfl, rfl⟩
          cases q1 : onB x
          · have HMt : Hid (Sht.may ⟨o, x, y, vx, vy, lf⟩ = false) := Lib.hid (by simp only [Sht.may, q1, Bool.and_false, Bool.false_and])
            go_wp2_with fail
            go_ret
            exact ⟨by rw [← HMay.out, may_shot (all_not Hs.out HMt.out)]; rfl, H.below⟩
          go_wp2_with (refine wb_cell H rfl 0 21 _ rfl _ 2 rfl _ _ rfl Tryz.isAgg21 (.int .i32 y) rfl ?_)
          refine (I2.out _).mono ?_; rintro e w' ⟨rfl, rfl⟩
          cases q2 : onB y
          · have HMt : Hid (Sht.may ⟨o, x, y, vx, vy, lf⟩ = false) := Lib.hid (by simp only [Sht.may, q2, Bool.and_false, Bool.false_and])
            go_wp2_with fail
            go_ret
            exact ⟨by rw [← HMay.out, may_shot (all_not Hs.out HMt.out)]; rfl, H.below⟩
          go_wp2_with (refine wb_cell H rfl 0 21 _ rfl _ 3 rfl _ _ rfl Tryz.isAgg21 (.int .i32 vx) rfl ?_)
          refine (I3.out _).mono ?_; rintro e w' ⟨rfl, rfl⟩
          cases q3 : sizeB vx 393216
          · have HMt : Hid (Sht.may ⟨o, x, y, vx, vy, lf⟩ = false) := Lib.hid (by simp only [Sht.may, q3, Bool.and_false, Bool.false_and])
            go_wp2_with fail
            go_ret
            exact ⟨by rw [← HMay.out, may_shot (all_not Hs.out HMt.out)]; rfl, H.below⟩
          go_wp2_with (refine wb_cell H rfl 0 21 _ rfl _ 4 rfl _ _ rfl Tryz.isAgg21 (.int .i32 vy) rfl ?_)
          refine (I4.out _).mono ?_; rintro e w' ⟨rfl, rfl⟩
          cases q4 : sizeB vy 393216
          · have HMt : Hid (Sht.may ⟨o, x, y, vx, vy, lf⟩ = false) := Lib.hid (by simp only [Sht.may, q4, Bool.and_false, Bool.false_and])
            go_wp2_with fail
            go_ret
            exact ⟨by rw [← HMay.out, may_shot (all_not Hs.out HMt.out)]; rfl, H.below⟩
          by_cases c2 : 1 ≤ lf
          rotate_left
          · have HMt : Hid (Sht.may ⟨o, x, y, vx, vy, lf⟩ = false) := Lib.hid (by simp only [Sht.may, decide_eq_false c2, Bool.and_false, Bool.false_and])
            have c2' : decide (lf < 1) = true := decide_eq_true (by omega)
            go_wp2_with (refine wb_cell H rfl 0 3 _ rfl _ 5 rfl _ _ rfl Tryz.isAgg3 (.int .i64 lf) rfl ?_)
            go_ret
            exact ⟨by rw [← HMay.out, may_shot (all_not Hs.out HMt.out)]; rfl, H.below⟩
          have c2' : decide (lf < 1) = false := decide_eq_false (by omega)
          by_cases c3 : lf ≤ 24
          rotate_left
          · have HMt : Hid (Sht.may ⟨o, x, y, vx, vy, lf⟩ = false) := Lib.hid (by simp only [Sht.may, decide_eq_false c3, Bool.and_false])
            have c3' : decide (24 < lf) = true := decide_eq_true (by omega)
            go_wp2_with (refine wb_cell H rfl 0 3 _ rfl _ 5 rfl _ _ rfl Tryz.isAgg3 (.int .i64 lf) rfl ?_)
            go_ret
            exact ⟨by rw [← HMay.out, may_shot (all_not Hs.out HMt.out)]; rfl, H.below⟩
          have c3' : decide (24 < lf) = false := decide_eq_false (by omega)
          have HMt : Hid (Sht.may ⟨o, x, y, vx, vy, lf⟩ = true) := Lib.hid (by simp [Sht.may, q1, q2, q3, q4, c0, c1, c2, c3])
          go_wp2_with (refine wb_cell H rfl 0 3 _ rfl _ 5 rfl _ _ rfl Tryz.isAgg3 (.int .i64 lf) rfl ?_)
          have H2 : Sb [] w0' w [(b6, #[.int .i64 o, .int .i32 x, .int .i32 y, .int .i32 vx, .int .i32 vy, .int .i64 lf], 93), (b1, cs, 28)] [] := H
          exact ⟨⟨k + 1, hlt, rfl, Lib.hid H2.tail, Lib.hid (all_take HA.out Hs.out HMt.out)⟩, by simp only [intOf]; omega⟩
        · obtain rfl : k = L.length := by omega
          have hLm : L.all Sht.may = true := by have := HA.out; rw [List.take_length] at this; exact this
          have H := HB.out
          clear HB HA
          have HMt : Hid (m = true) := Lib.hid (by rw [← HMay.out]; simp only [Gme.may, HSm.out, hLm]; simp [h3]; exact HFR.out)
          clear hLm
          go_wp2_with (refine wb_cell H rfl 0 26 _ rfl _ 58 rfl _ _ rfl Tryz.isAgg26 (.slice ad L.length c) Hs58.out ?_)
          go_ret
          exact ⟨by rw [HMt.out]; rfl, H.below⟩
end Go.Proofs.YtdopfonebpklkaaGreat.game
namespace Go.Proofs.YtdopfonebpklkaaGreat.game
open Go.ChangeShapes Go.WideShapes Go.ChangeAt Go.RowKit dice
set_option maxRecDepth 100000

theorem few_b (fr d : Int) (S : List Shp) (ad : Option Addr) (n c : Nat) (w0 : World) (h8 : S.length = 8) :
    Calls Tryz.prog 14 #[.agg (gameC fr d S (.slice ad n c))] w0 fun e w' => e = .returned (.bool (decide (n ≤ 60))) ∧ Below w0.heap.size w0 w' := by
  have H := Sb.start w0
  have Hs := Lib.hid (gc_shots (fr := fr) (d := d) (sl := .slice ad n c) h8)
  clear h8
  generalize gameC fr d S (.slice ad n c) = cs at *
  by_cases h : n ≤ 60
  · rw [decide_eq_true h]
    have q : decide ((n : Int) ≤ 60) = true := decide_eq_true (by omega)
    go_enter Tryz.func14, Tryz.ntmps14
    go_wp2_with (first | (refine wb_box H rfl 28 _ rfl cs rfl ?_; clear H; intro b1 w H) | (refine wb_cell H rfl 0 26 _ rfl _ 58 rfl _ _ rfl Tryz.isAgg26 (.slice ad n c) Hs.out ?_))
    go_ret
    exact ⟨rfl, H.below⟩
  · rw [decide_eq_false h]
    have q : decide ((n : Int) ≤ 60) = false := decide_eq_false (by omega)
    go_enter Tryz.func14, Tryz.ntmps14
    go_wp2_with (first | (refine wb_box H rfl 28 _ rfl cs rfl ?_; clear H; intro b1 w H) | (refine wb_cell H rfl 0 26 _ rfl _ 58 rfl _ _ rfl Tryz.isAgg26 (.slice ad n c) Hs.out ?_))
    go_ret
    exact ⟨rfl, H.below⟩
set_option maxHeartbeats 4000000 in
theorem rmayS_b (s : Ste) (sl : Value) (w0 : World) (hg : s.g.wf) (t8 : s.T.length = 8) (hin : ShotsW w0 sl s.g.L) :
    Calls Tryz.prog 20 #[.agg (stateC s sl)] w0 fun e w' => e = .returned (.bool (mayS s)) ∧ Below w0.heap.size w0 w' := by
  have H := Sb.start w0
  have H8 := Lib.hid hg.s8
  have T8 := Lib.hid t8
  have HM := Lib.hid (fun w h => rmayG_b s.g sl w hg h)
  have HR := Lib.hid (fun w => rmayR_b s.ver s.T w t8)
  have HI := Lib.hid hin
  have HG := Lib.hid (fun j v h => sc_game (s := s) (sl := sl) j v h)
  have HO := Lib.hid (fun j v h => sc_roster (s := s) (sl := sl) hg.s8 j v h)
  have HS := Lib.hid (fun k t h => sc_ship (s := s) (sl := sl) k 0 t _ h rfl)
  have HQ := Lib.hid (fun k q h => sc_seat (s := s) (sl := sl) hg.s8 k 0 q _ h rfl)
  have Hgs := Lib.hid (gc_size (fr := s.g.fr) (d := s.g.d) (sl := sl) hg.s8)
  have Hrs := Lib.hid (rc_size (ver := s.ver) t8)
  unfold mayS
  clear hg t8 hin
  generalize stateC s sl = cs at *
  obtain ⟨⟨fr, d, S, L⟩, ver, T⟩ := s
  dsimp only at *
  go_enter Tryz.func20, Tryz.ntmps20
  go_wp2_with (first | (refine wb_box H rfl 35 _ rfl cs rfl ?_; clear H; intro b1 w H) | (refine wb_partA H rfl 0 28 _ rfl _ 0 rfl _ _ rfl _ Tryz.underlying28 rfl 59 info28 (gameC fr d S sl) (fun j v h => by rw [Nat.zero_add]; exact HG.out j v h) Hgs.out ?_))
  refine (HM.out _ (HI.out.later H.below)).mono ?_; rintro e w' ⟨rfl, hb⟩
  replace H := H.call hb
  clear hb
  cases q1 : Gme.may ⟨fr, d, S, L⟩
  · go_wp2_with fail
    go_ret
    exact ⟨by rw [q1]; rfl, H.below⟩
  go_wp2_with (refine wb_partA H rfl 0 33 _ rfl _ 59 rfl _ _ rfl _ Tryz.underlying33 rfl 17 info33 (rosterC ver T) HO.out Hrs.out ?_)
  refine (HR.out _).mono ?_; rintro e w' ⟨rfl, hb⟩
  replace H := H.call hb
  clear hb
  cases q2 : mayR ver T
  · go_wp2_with fail
    go_ret
    exact ⟨by rw [q1, q2]; rfl, H.below⟩
  go_wp2_with fail
  have H' := Lib.hid H
  clear H HI HM HR
  go_loopw [3] (fun i W => ∃ k : Nat, k ≤ 8 ∧ i = .int .i64 k ∧ Hid (Sb [] w0 W [(b1, cs, 35)] []) ∧ Hid (((S.zip T).take k).all (fun p => p.1.on == decide (0 ≤ p.2.peer)) = true)) (fun i _ => 8 - (intOf i).toNat)
  case atStart => exact ⟨0, Nat.zero_le _, rfl, H', Lib.hid (by simp)⟩
  case round =>
    clear H'
    obtain ⟨k, hk, rfl, HB, HA⟩ := hrel
    by_cases hlt : k < 8
    · obtain ⟨t, ht⟩ : ∃ t, S[k]? = some t := ⟨S[k]'(by rw [H8.out]; exact hlt), List.getElem?_eq_getElem _⟩
      obtain ⟨q, hq⟩ : ∃ q, T[k]? = some q := ⟨T[k]'(by rw [T8.out]; exact hlt), List.getElem?_eq_getElem _⟩
      have HZ : Hid ((S.zip T)[k]? = some (t, q)) := Lib.hid (by rw [List.getElem?_zip_eq_some]; exact ⟨ht, hq⟩)
      have c4 : wr.cell? ⟨b1, 2 + k * 7, none⟩ = some (.bool t.on) := (cell_of_row wr b1 (2 + k * 7) _ 35 (0, 0) (HB.out.holds _ (List.mem_cons_self ..))).trans (HS.out k t ht)
      have c1 : wr.cell? ⟨b1, 60 + k * 2, none⟩ = some (.int .i64 q.peer) := (cell_of_row wr b1 (60 + k * 2) _ 35 (0, 0) (HB.out.holds _ (List.mem_cons_self ..))).trans (HQ.out k q hq)
      clear ht hq
      obtain ⟨o, x, y, vx, vy, cl, sc⟩ := t
      obtain ⟨p, g⟩ := q
      dsimp only at c4 c1
      go_wp2_with fail
      go_quiet (fail)
      have HB2 := Lib.hid (HB.out.call (below_drewN (Below.refl _ _) nq))
      clear c4 c1 HB
      generalize hz : (o == decide (0 ≤ p)) = z
      have Hz := Lib.hid hz
      clear hz
      cases z
      · go_wp2_with fail
        go_ret
        refine ⟨?_, HB2.out.below⟩
        have e : pairs S T = false := all_not (p := fun p : Shp × Seat => p.1.on == decide (0 ≤ p.2.peer)) HZ.out Hz.out
        rw [e, Bool.and_false]
        rfl
      · go_wp2_with fail
        exact ⟨⟨k + 1, hlt, rfl, HB2, Lib.hid (all_take HA.out HZ.out Hz.out)⟩, by simp only [intOf]; omega⟩
    · obtain rfl : k = 8 := by omega
      go_wp2_with fail
      go_ret
      refine ⟨?_, HB.out.below⟩
      have := HA.out
      rw [List.take_of_length_le (by rw [List.length_zip, H8.out, T8.out]; decide)] at this
      rw [q1, q2]
      exact congrArg _ (congrArg _ this.symm)
end Go.Proofs.YtdopfonebpklkaaGreat.game
