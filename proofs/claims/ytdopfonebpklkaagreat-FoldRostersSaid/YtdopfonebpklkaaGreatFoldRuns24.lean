/- Contracts as a law's walk uses them; what the program tells of a few (printed by mkxj.py). Parts of a log; a seed's bounds; pure laws of a run. FoldRuns: the walk (printed by mkxl.py). The frame of the laws of layers 10, 15 and 21: what came in stays as it was. -/
import Derived.Test.YtdopfonebpklkaaGreatFoldRuns23
import Derived.Test.YtdopfonebpklkaaGreatFoldRuns11
import Derived.Test.YtdopfonebpklkaaGreatRows
import Derived.WalkKit
import Derived.ProofKit
import Derived.OpenShut
import Derived.Below
import Derived.Carry
namespace Go.Proofs.YtdopfonebpklkaaGreat.game
open Go.ChangeShapes Go.WideShapes Go.ChangeAt Go.RowKit dice
set_option maxRecDepth 100000

/-- A state's shots: in the caller's memory, or in a row of the call's own. -/
def LieIn (W0 : World) (R : List RowS) (sl : Value) (L : List Sht) : Prop := ShotsIn W0 sl L ∨ (sl, L) ∈ R
theorem LieIn.shots {W0 w : World} {l : List Blk} {R : List RowS} {sl : Value} {L : List Sht} (h : LieIn W0 R sl L) (H : Sb [] W0 w l R) : ShotsIn w sl L := by
  rcases h with h | h
  · exact h.later H.below
  · exact (show Own w 0 sl L from H.rows _ h).shotsIn
theorem LieIn.mono {W0 : World} {R R' : List RowS} {sl : Value} {L : List Sht} (h : LieIn W0 R sl L) (hs : ∀ r ∈ R, r ∈ R') : LieIn W0 R' sl L := by
  rcases h with h | h
  · exact .inl h
  · exact .inr (hs _ h)
theorem lie_nil (W0 : World) (R : List RowS) : LieIn W0 R (.slice none 0 0) [] := .inl (.inl ⟨rfl, rfl⟩)
theorem Ste.may.full {s : Ste} (h : s.may) (hd : (Lit.int .u64 s.g.d).wf = true) : s.wf := by
  obtain ⟨v0, v1, ho⟩ := mayR_iff.1 h.r
  refine ⟨h.wf hd, w64' (by omega) (by omega), h.t8, fun q hq => ?_⟩
  have hs := ho.1 q hq
  have a1 := hs.1
  have a2 := hs.2.1
  have a3 := hs.2.2.1
  have a4 := hs.2.2.2.1
  exact ⟨w64' (by omega) (by omega), w64' (by omega) (by omega)⟩
theorem startS_full (D : Int) (hD : (Lit.int .u64 D).wf = true) : (startS D).wf := (startS_may D).full hD
/-- What Apply and Run leave: the state behind, or the old one and 1. -/
def SteIn (o : Option Ste) (s : Ste) (W0 : World) (l : List Blk) (R : List RowS) (e : Ending) (w' : World) : Prop :=
  ∃ sl' R', e = .returned (.tuple #[.agg (stateC (o.getD s) sl'), .int .i64 (if o.isSome = true then 0 else 1)]) ∧ Sb [] W0 w' l R' ∧ LieIn W0 R' sl' (o.getD s).g.L ∧ ∀ r ∈ R, r ∈ R'
theorem SteIn.of {o : Option Ste} {s : Ste} {sl : Value} {W0 w : World} {l : List Blk} {R : List RowS} (H : Sb [] W0 w l R) (hL : LieIn W0 R sl s.g.L) {e : Ending} {w' : World} (h : ApOut o s sl w e w') : SteIn o s W0 l R e w' := by
  obtain ⟨hb, ho⟩ := h
  cases o with
  | none => exact ⟨sl, R, ho, H.call hb, hL, fun r hr => hr⟩
  | some t =>
    obtain ⟨sl', rfl, hown, hnew⟩ := ho
    exact ⟨sl', (sl', t.g.L) :: R, rfl, H.addRow sl' _ hown hb hnew, .inr (List.mem_cons_self ..), fun r hr => List.mem_cons_of_mem _ hr⟩
theorem Apply_in (s : Ste) (sl : Value) (e : Ent) (esl : Value) (W0 w : World) (l : List Blk) (R : List RowS) (H : Sb [] W0 w l R) (hL : LieIn W0 R sl s.g.L) (hg : s.g.wf) (t8 : s.T.length = 8) (he : e.wf) (hev : EvW w esl e.evs) :
    Calls Tryz.prog 17 #[.agg (stateC s sl), .agg (entC e esl)] w fun e' w' => SteIn (applyF s e) s W0 l R e' w' ∧ Below w.heap.size w w' :=
  (Apply_b s sl e esl w hg t8 (hL.shots H) he hev).mono fun _ _ h => ⟨SteIn.of H hL h, h.1⟩
theorem Run_in (s : Ste) (sl : Value) (log : List Ent) (v : Value) (W0 w : World) (l : List Blk) (R : List RowS) (H : Sb [] W0 w l R) (hL : LieIn W0 R sl s.g.L) (hg : s.g.wf) (t8 : s.T.length = 8) (hl : ∀ e ∈ log, e.wf) (hlog : LogW w v log) (hn : log.length ≤ 1000) :
    Calls Tryz.prog 24 #[.agg (stateC s sl), v] w fun e w' => SteIn (runF s log) s W0 l R e w' ∧ Below w.heap.size w w' := by
  cases log with
  | nil =>
    obtain ⟨ad, c, rfl⟩ := hlog.form
    exact (Run_none s sl ad c w hg t8 (hL.shots H)).mono fun e w' h => ⟨⟨sl, R, h.1, H.call h.2, hL, fun r hr => hr⟩, h.2⟩
  | cons x log => exact (Run_some s sl (x :: log) v w hg t8 (hL.shots H) hl hlog hn (by simp)).mono fun _ _ h => ⟨SteIn.of H hL h, h.1⟩
theorem rrun_in (s : Ste) (sl : Value) (log : List Ent) (v : Value) (W0 w : World) (l : List Blk) (R : List RowS) (H : Sb [] W0 w l R) (hL : LieIn W0 R sl s.g.L) (hg : s.g.wf) (t8 : s.T.length = 8) (hl : ∀ e ∈ log, e.wf) (hlog : LogW w v log) (hn : log.length ≤ 1000) :
    Calls Tryz.prog 26 #[.agg (stateC s sl), v] w fun e w' => SteIn (runF s log) s W0 l R e w' ∧ Below w.heap.size w w' := by
  cases log with
  | nil =>
    obtain ⟨ad, c, rfl⟩ := hlog.form
    exact (rrun_none s sl ad c w hg t8 (hL.shots H)).mono fun e w' h => ⟨⟨sl, R, h.1, H.call h.2, hL, fun r hr => hr⟩, h.2⟩
  | cons x log => exact (rrun_some s sl (x :: log) v w hg t8 (hL.shots H) hl hlog hn (by simp)).mono fun _ _ h => ⟨SteIn.of H hL h, h.1⟩
section
variable {Hs : List Nat} {w0 w w' : World} {l : List Blk} {R : List RowS}
variable {ops : Array Oper} {rest : List Oper} {op : Oper} {a : Act} {Q : Exit → Act → World → Prop}
/-- A slice literal of two structs. -/
theorem wb_mk2 (H : Sb Hs w0 w l R) (hg : op.guard = none) (t e : TypeId) (x y : Operand) (ho : op.op = .buildSlice t 2 #[(0, x), (1, y)]) (hu : Tryz.prog.underlying t = some (.slice e)) (c d : Array Value) (hx : a.eval x = .agg c) (hy : a.eval y = .agg d) (n : Nat)
    (hi : ∃ i z, Tryz.prog.info? e = some i ∧ i.zero = some z ∧ i.size = n) (hn : c.size = n) (hm : d.size = n) (hp : 0 < n) (hs : n ≤ 1000)
    (h : ∀ b w', Sb Hs w0 w' ((b, (c.toList ++ d.toList).toArray, e) :: l) R → wpList Tryz.prog ops Q rest (a.put op.dst (.slice (some ⟨b, 0, none⟩) 2 2)) w') : wpList Tryz.prog ops Q (op :: rest) a w := by
  obtain ⟨i, z, h1, h2, h3⟩ := hi
  refine wpList_buildSlice hg t e 2 #[(0, x), (1, y)] ho (c.toList ++ d.toList).toArray i z hu h1 h2 (by rw [h3]; omega) (by rw [h3]; omega) ?_ (h _ _ (H.new _ e))
  have := Go.Great.fill_whole (s := i.size) (by omega) [.agg c, .agg d] ((Array.range (2 * i.size)).map (z.cells[· % z.cells.size]!)) (fun v hv => by simp at hv; rcases hv with rfl | rfl <;> simp [Value.cells, h3, hn, hm]) (by simp)
  simpa [hx, hy, Value.cells] using this
end
def DA : Int := seed [97]
def ea : Ent := ⟨0, [⟨1, 0, 1, 2⟩], z8⟩
def eb : Ent := ⟨0, [⟨1, 0, 1, 2⟩], z8.set 4 ⟨0, 0, 1⟩⟩
def ec0 : Ent := ⟨0, [], z8⟩
def ec1 : Ent := ⟨1, [], z8⟩
theorem ea_ev : ∀ x ∈ ea.evs, x.wf := fun x hx => by
  rw [List.mem_singleton.1 (show x ∈ [(⟨1, 0, 1, 2⟩ : Evt)] from hx)]
  exact ⟨rfl, rfl, rfl, rfl⟩
theorem ea_wf : ea.wf := ⟨rfl, z8_ok, ea_ev, by decide⟩
theorem eb_wf : eb.wf := ⟨rfl, fun i hi => by
  rcases List.mem_or_eq_of_mem_set (show i ∈ z8.set 4 ⟨0, 0, 1⟩ from hi) with h | rfl
  · exact z8_ok i h
  · exact ⟨by decide, by decide, by decide, by decide, by decide, by decide⟩, ea_ev, by decide⟩
theorem ec_wf : ∀ e ∈ [ec0, ec1], e.wf := fun e he => by
  simp at he
  rcases he with rfl | rfl
  · exact ⟨rfl, z8_ok, fun x hx => by simp [ec0] at hx, by decide⟩
  · exact ⟨rfl, z8_ok, fun x hx => by simp [ec1] at hx, by decide⟩
theorem told_1 : (applyF (startS DA) ea).any (fun t => decide (t.g.fr = 1) && (t.g.S[0]?).any (fun x : Shp => x.on) && (t.T[0]?).any (fun q : Seat => decide (q.peer = 2)) && (applyF t ea).isNone) = true := by decide +kernel
theorem told_2 : applyF (startS DA) eb = none := by
  have : (applyF (startS DA) eb).isNone = true := by decide +kernel
  simpa using this
theorem told_3 : (runF (startS DA) [ec0, ec1]).any (fun t => decide (t.g.fr = 2)) = true := by decide +kernel
theorem DA_wf : (Lit.int .u64 DA).wf = true := by decide +kernel
theorem info5m : (Tryz.prog.info? 5).map (·.size) = some 1 := by kernel_rfl
theorem two_log {w0 w : World} {bs : Nat} {l : List Blk} {R : List RowS} (H : Sb [] w0 w ((bs, ((entC ec0 (.slice none 0 0)).toList ++ (entC ec1 (.slice none 0 0)).toList).toArray, 42) :: l) R) : LogW w (.slice (some ⟨bs, 0, none⟩) 2 2) [ec0, ec1] := by
  refine ⟨[.slice none 0 0, .slice none 0 0], rfl, fun k e s he hs => ?_, .inr ⟨bs, 0, 2, rfl, H.lt _ (List.mem_cons_self ..), fun k e s he hs j u hu => ?_⟩⟩
  · match k, he, hs with
    | 0, he, hs => simp at he hs; subst he hs; exact .inl ⟨rfl, _, _, rfl⟩
    | 1, he, hs => simp at he hs; subst he hs; exact .inl ⟨rfl, _, _, rfl⟩
    | k + 2, he, hs => simp at he
  · rw [cell_of_row w bs _ _ 42 (0, 0) (H.holds _ (List.mem_cons_self ..)), List.getElem?_toArray]
    have hj := (List.getElem?_eq_some_iff.1 hu).1
    match k, he, hs with
    | 0, he, hs =>
      simp at he hs
      subst he hs
      have : (entC ec0 (.slice none 0 0)).toList.length = 26 := rfl
      rw [show 0 + 0 * 26 + j = j by omega, List.getElem?_append_left hj]
      exact hu
    | 1, he, hs =>
      simp at he hs
      subst he hs
      have h26 : (entC ec0 (.slice none 0 0)).toList.length = 26 := rfl
      rw [List.getElem?_append_right (by rw [h26]; omega), h26, show 0 + 1 * 26 + j - 26 = j by omega]
      exact hu
    | k + 2, he, hs => simp at he
set_option maxHeartbeats 16000000 in
theorem told_any (w0 : World) : Calls Tryz.prog 16 #[] w0 fun e w' => e = .returned (.bool true) ∧ Below w0.heap.size w0 w' := by
  have H := Sb.start w0
  obtain ⟨t1, h1, h2⟩ : ∃ t1, applyF (startS DA) ea = some t1 ∧ (decide (t1.g.fr = 1) && (t1.g.S[0]?).any (fun x : Shp => x.on) && (t1.T[0]?).any (fun q : Seat => decide (q.peer = 2)) && (applyF t1 ea).isNone) = true := by
    have := told_1
    cases h : applyF (startS DA) ea with
    | none => rw [h] at this; simp at this
    | some t => rw [h] at this; exact ⟨t, rfl, this⟩
  obtain ⟨t2, h3, h4⟩ : ∃ t2, runF (startS DA) [ec0, ec1] = some t2 ∧ t2.g.fr = 2 := by
    have := told_3
    cases h : runF (startS DA) [ec0, ec1] with
    | none => rw [h] at this; simp at this
    | some t => rw [h] at this; exact ⟨t, rfl, by simpa using this⟩
  simp only [Bool.and_eq_true, decide_eq_true_eq, Option.any_eq_true, Option.isNone_iff_eq_none] at h2
  obtain ⟨⟨⟨f1, x1, hx1, hon⟩, q1, hq1, hp1⟩, ha2⟩ := h2
  have hS0 := startS_full DA DA_wf
  have hT1 := applyF_wf hS0.g hS0.t8 h1
  have hM1 := (applyF_may hS0.g.s8 hS0.t8 h1).1
  have hT2 := runF_wf _ hS0.g hS0.t8 h3
  have HA1 := Lib.hid h1
  have HA2 := Lib.hid ha2
  have HA4 := Lib.hid h3
  have HS0 := Lib.hid hS0
  have HT1 := Lib.hid hT1
  have Hz0 := Lib.hid (sc_size (s := startS DA) (sl := .slice none 0 0) rfl rfl)
  have Hz1 := Lib.hid (fun sl => sc_size (s := t1) (sl := sl) hT1.1.s8 hT1.2)
  have Hz2 := Lib.hid (fun sl => sc_size (s := t2) (sl := sl) hT2.1.s8 hT2.2)
  have Hs0 : Hid (splice zC 0 (Value.cells (.agg (stateC (startS DA) (.slice none 0 0)))).toList = stateC (startS DA) (.slice none 0 0)) := Lib.hid (splice_all _ _ rfl)
  have Hs1 : Hid (∀ sl, splice zC 0 (Value.cells (.agg (stateC t1 sl))).toList = stateC t1 sl) := Lib.hid (fun sl => splice_all _ _ (by rw [zC_size]; exact (Hz1.out sl).symm))
  have Hs2 : Hid (∀ sl, splice zC 0 (Value.cells (.agg (stateC t2 sl))).toList = stateC t2 sl) := Lib.hid (fun sl => splice_all _ _ (by rw [zC_size]; exact (Hz2.out sl).symm))
  have C1 := Lib.hid (fun sl => show (stateC t1 sl)[0]? = some (.int .i64 1) by rw [← f1]; exact sc_fr)
  have C2 := Lib.hid (fun sl => show (stateC t1 sl)[2]? = some (.bool true) by have := sc_ship (s := t1) (sl := sl) 0 0 x1 (.bool x1.on) hx1 rfl; rwa [hon] at this)
  have C3 := Lib.hid (fun sl => show (stateC t1 sl)[60]? = some (.int .i64 2) by have := sc_seat (s := t1) (sl := sl) hT1.1.s8 0 0 q1 (.int .i64 q1.peer) hq1 rfl; rwa [hp1] at this)
  have C4 := Lib.hid (fun sl => show (stateC t2 sl)[0]? = some (.int .i64 2) by rw [← h4]; exact sc_fr)
  have HeA := Lib.hid (fun (b : Nat) => show splice zE 0 (Value.cells (.agg (entC ea (.slice (some ⟨b, 0, none⟩) 1 1)))).toList = entC ea (.slice (some ⟨b, 0, none⟩) 1 1) from splice_all _ _ rfl)
  have HeB : Hid (∀ b : Nat, splice (entC ea (.slice (some ⟨b, 0, none⟩) 1 1)) 16 [Value.int .u8 1] = entC eb (.slice (some ⟨b, 0, none⟩) 1 1)) := Lib.hid (fun b => rfl)
  have HeO := Lib.hid (fun (b : Nat) => show (Value.cells (.agg (entC ea (.slice (some ⟨b, 0, none⟩) 1 1)))).toList.all (·.oneCell') = true from rfl)
  have HMay : Hid (mayS (startS DA) = true) := Lib.hid (startS_may DA).mayS
  have Hent : Hid (∃ i z, Tryz.prog.info? 42 = some i ∧ i.zero = some z ∧ i.size = 26) := Lib.hid (by obtain ⟨ie, hi, hz0, hz1, hz2⟩ := info_ent; exact ⟨ie, _, hi, hz0, hz1⟩)
  clear h1 h3 h4 f1 hx1 hon hq1 hp1 ha2 hS0 hT1 hM1 hT2
  have HA3 := Lib.hid told_2
  have HLN : ∀ (W : World) (R : List RowS), LieIn W R (.slice none 0 0) (startS DA).g.L := fun W R => lie_nil W R
  have HLM : (startS DA).g.L.length ≤ 1000 := by decide
  have hone0 : (Value.cells (.agg (stateC (startS DA) (.slice none 0 0)))).toList.all (·.oneCell') = true := rfl
  have ONE := Lib.hid hone0
  clear hone0
  have HSt := Lib.hid (fun w => Start_any ⟨#[97]⟩ w (by decide) DA rfl)
  generalize hS : startS DA = S0 at *
  clear hS
  go_enter Tryz.func16, Tryz.ntmps16
  go_wp2_with fail
  refine (HSt.out _).mono ?_; rintro e w' ⟨rfl, hb⟩
  replace H := H.call hb
  clear hb HSt
  go_upto_region 2 with (first | (refine wb_alloc H rfl 35 rfl _ Tryz.zeroValue35 ?_; clear H; intro b1 w H) | (refine wb_put H rfl 0 35 _ _ rfl _ 0 rfl _ _ rfl (.agg (stateC S0 (.slice none 0 0))) rfl 76 info35 Hz0.out (Nat.le_of_ble_eq_true rfl) ONE.out _ Hs0.out ?_; clear H; intro w H))
  replace H : Sb [] w0 w [(b1, stateC S0 (.slice none 0 0), 35)] [] := H
  go_upto_region 3 with (first | (refine wl_build rfl 60 _ rfl (evC ⟨1, 0, 1, 2⟩) (by kernel_rfl) ?_) | (refine wb_mk1 H rfl 36 60 _ rfl Tryz.underlying36 (evC ⟨1, 0, 1, 2⟩) rfl 4 info_ev rfl (by decide) (by decide) ?_; clear H; intro be w H) | (refine wl_build rfl 42 _ rfl (entC ea (.slice (some ⟨be, 0, none⟩) 1 1)) (by kernel_rfl) ?_) | (refine wb_alloc H rfl 42 rfl _ Tryz.zeroValue42 ?_; clear H; intro b2 w H) | (refine wb_put H rfl 0 42 _ _ rfl _ 0 rfl _ _ rfl (.agg (entC ea (.slice (some ⟨be, 0, none⟩) 1 1))) rfl 26 info42 rfl (Nat.le_of_ble_eq_true rfl) (HeO.out be) _ (HeA.out be) ?_; clear H; intro w H))
  replace H : Sb [] w0 w [(b2, entC ea (.slice (some ⟨be, 0, none⟩) 1 1), 42), (be, evC ⟨1, 0, 1, 2⟩, 60), (b1, stateC S0 (.slice none 0 0), 35)] [] := H
  go_wp2_with (first | (refine wb_whole H rfl 2 35 _ rfl _ rfl (stateC S0 (.slice none 0 0)) rfl _ Tryz.underlying35 rfl 76 info35 Hz0.out ?_) | (refine wb_whole H rfl 0 42 _ rfl _ rfl (entC ea (.slice (some ⟨be, 0, none⟩) 1 1)) rfl _ Tryz.underlying42 rfl 26 info42 rfl ?_))
  refine (Apply_in S0 _ ea _ w0 _ _ _ H (HLN _ _) HS0.out.g HS0.out.t8 ea_wf (EvQ.ev (Q := [(be, evC ⟨1, 0, 1, 2⟩, 60)]) (.inr ⟨be, _, rfl, ⟨rfl, rfl, rfl, rfl⟩, rfl, List.mem_cons_self ..⟩) H (fun p hp => by rw [List.mem_singleton] at hp; subst hp; exact List.mem_cons_of_mem _ (List.mem_cons_self ..)))).mono ?_
  rw [HA1.out]
  rintro e w1 ⟨⟨sl1, R1, rfl, H1, hL1, -⟩, -⟩
  clear H
  have H := H1
  clear H1
  have hL1 := Lib.hid (show LieIn w0 R1 sl1 t1.g.L from hL1)
  have HO1 := Lib.hid (sc_oneI (s := t1) (hL1.out.shots H))
  go_upto_region 4 with (first | (refine wb_alloc H rfl 35 rfl _ Tryz.zeroValue35 ?_; clear H; intro b3 w H) | (refine wb_put H rfl 0 35 _ _ rfl _ 0 rfl _ _ rfl (.agg (stateC t1 sl1)) rfl 76 info35 (Hz1.out sl1) (Nat.le_of_ble_eq_true rfl) HO1.out _ (Hs1.out sl1) ?_; clear H; intro w H))
  replace H : Sb [] w0 w [(b3, stateC t1 sl1, 35), (b2, entC ea (.slice (some ⟨be, 0, none⟩) 1 1), 42), (be, evC ⟨1, 0, 1, 2⟩, 60), (b1, stateC S0 (.slice none 0 0), 35)] R1 := H
  go_wp2_with (first | (refine wb_whole H rfl 0 35 _ rfl _ rfl (stateC t1 sl1) rfl _ Tryz.underlying35 rfl 76 info35 (Hz1.out sl1) ?_) | (refine wb_whole H rfl 1 42 _ rfl _ rfl (entC ea (.slice (some ⟨be, 0, none⟩) 1 1)) rfl _ Tryz.underlying42 rfl 26 info42 rfl ?_))
  refine (Apply_in t1 _ ea _ w0 _ _ _ H hL1.out HT1.out.1 HT1.out.2 ea_wf (EvQ.ev (Q := [(be, evC ⟨1, 0, 1, 2⟩, 60)]) (.inr ⟨be, _, rfl, ⟨rfl, rfl, rfl, rfl⟩, rfl, List.mem_cons_self ..⟩) H (fun p hp => by rw [List.mem_singleton] at hp; subst hp; exact List.mem_cons_of_mem _ (List.mem_cons_of_mem _ (List.mem_cons_self ..))))).mono ?_
  rw [HA2.out]
  rintro e w2 ⟨⟨sl2, R2, rfl, H1, hL2, hR2⟩, -⟩
  clear H
  have H := H1
  clear H1
  have hL2 := Lib.hid (show LieIn w0 R2 sl2 t1.g.L from hL2)
  have hL3 := Lib.hid (hL1.out.mono hR2)
  have HO2 := Lib.hid (sc_oneI (s := t1) (hL2.out.shots H))
  clear hR2 hL1
  go_upto_region 5 with (first | (refine wb_alloc H rfl 35 rfl _ Tryz.zeroValue35 ?_; clear H; intro b5 w H) | (refine wb_put H rfl 0 35 _ _ rfl _ 0 rfl _ _ rfl (.agg (stateC t1 sl2)) rfl 76 info35 (Hz1.out sl2) (Nat.le_of_ble_eq_true rfl) HO2.out _ (Hs1.out sl2) ?_; clear H; intro w H))
  replace H : Sb [] w0 w [(b5, stateC t1 sl2, 35), (b3, stateC t1 sl1, 35), (b2, entC ea (.slice (some ⟨be, 0, none⟩) 1 1), 42), (be, evC ⟨1, 0, 1, 2⟩, 60), (b1, stateC S0 (.slice none 0 0), 35)] R2 := H
  go_upto_region 6 with (refine wb_put H rfl 2 5 _ _ rfl _ 16 rfl _ _ rfl (.int .u8 1) rfl 1 info5m rfl (Nat.le_of_ble_eq_true rfl) rfl _ (HeB.out be) ?_; clear H; intro w H)
  replace H : Sb [] w0 w [(b5, stateC t1 sl2, 35), (b3, stateC t1 sl1, 35), (b2, entC eb (.slice (some ⟨be, 0, none⟩) 1 1), 42), (be, evC ⟨1, 0, 1, 2⟩, 60), (b1, stateC S0 (.slice none 0 0), 35)] R2 := H
  go_wp2_with (first | (refine wb_whole H rfl 4 35 _ rfl _ rfl (stateC S0 (.slice none 0 0)) rfl _ Tryz.underlying35 rfl 76 info35 Hz0.out ?_) | (refine wb_whole H rfl 2 42 _ rfl _ rfl (entC eb (.slice (some ⟨be, 0, none⟩) 1 1)) rfl _ Tryz.underlying42 rfl 26 info42 rfl ?_))
  refine (Apply_in S0 _ eb _ w0 _ _ _ H (HLN _ _) HS0.out.g HS0.out.t8 eb_wf (EvQ.ev (Q := [(be, evC ⟨1, 0, 1, 2⟩, 60)]) (.inr ⟨be, _, rfl, ⟨rfl, rfl, rfl, rfl⟩, rfl, List.mem_cons_self ..⟩) H (fun p hp => by rw [List.mem_singleton] at hp; subst hp; exact List.mem_cons_of_mem _ (List.mem_cons_of_mem _ (List.mem_cons_of_mem _ (List.mem_cons_self ..)))))).mono ?_
  rw [HA3.out]
  rintro e w2 ⟨⟨sl3, R3, rfl, H1, hL4, hR3⟩, -⟩
  clear H
  have H := H1
  clear H1
  have hL4 := Lib.hid (show LieIn w0 R3 sl3 S0.g.L from hL4)
  have hL5 := Lib.hid (hL3.out.mono hR3)
  have HO3 := Lib.hid (sc_oneI (s := S0) (hL4.out.shots H))
  have Hz3 := Lib.hid (sc_size (s := S0) (sl := sl3) HS0.out.g.s8 HS0.out.t8)
  have Hs3 : Hid (splice zC 0 (Value.cells (.agg (stateC S0 sl3))).toList = stateC S0 sl3) := Lib.hid (splice_all _ _ (by rw [zC_size]; exact Hz3.out.symm))
  clear hR3 hL3
  go_upto_region 7 with (first | (refine wb_alloc H rfl 35 rfl _ Tryz.zeroValue35 ?_; clear H; intro b7 w H) | (refine wb_put H rfl 0 35 _ _ rfl _ 0 rfl _ _ rfl (.agg (stateC S0 sl3)) rfl 76 info35 Hz3.out (Nat.le_of_ble_eq_true rfl) HO3.out _ Hs3.out ?_; clear H; intro w H))
  replace H : Sb [] w0 w [(b7, stateC S0 sl3, 35), (b5, stateC t1 sl2, 35), (b3, stateC t1 sl1, 35), (b2, entC eb (.slice (some ⟨be, 0, none⟩) 1 1), 42), (be, evC ⟨1, 0, 1, 2⟩, 60), (b1, stateC S0 (.slice none 0 0), 35)] R3 := H
  go_wp2_with (first | (refine wb_whole H rfl 5 35 _ rfl _ rfl (stateC S0 (.slice none 0 0)) rfl _ Tryz.underlying35 rfl 76 info35 Hz0.out ?_) | (refine wl_build rfl 42 #[] rfl (entC ec0 (.slice none 0 0)) (by kernel_rfl) ?_) | (refine wl_build rfl 42 #[(0, .const (.int .i64 1))] rfl (entC ec1 (.slice none 0 0)) (by kernel_rfl) ?_) | (refine wb_mk2 H rfl 52 42 _ _ rfl Tryz.underlying52 (entC ec0 (.slice none 0 0)) (entC ec1 (.slice none 0 0)) rfl rfl 26 Hent.out rfl rfl (by decide) (by decide) ?_; clear H; intro bs w H))
  replace H : Sb [] w0 w [(bs, ((entC ec0 (.slice none 0 0)).toList ++ (entC ec1 (.slice none 0 0)).toList).toArray, 42), (b7, stateC S0 sl3, 35), (b5, stateC t1 sl2, 35), (b3, stateC t1 sl1, 35), (b2, entC eb (.slice (some ⟨be, 0, none⟩) 1 1), 42), (be, evC ⟨1, 0, 1, 2⟩, 60), (b1, stateC S0 (.slice none 0 0), 35)] R3 := H
  refine (Run_in S0 _ [ec0, ec1] _ w0 _ _ _ H (HLN _ _) HS0.out.g HS0.out.t8 ec_wf (two_log H) (by decide)).mono ?_
  rw [HA4.out]
  rintro e w2 ⟨⟨sl4, R4, rfl, H1, hL6, hR4⟩, -⟩
  clear H
  have H := H1
  clear H1
  have hL6 := Lib.hid (show LieIn w0 R4 sl4 t2.g.L from hL6)
  have hL7 := Lib.hid (hL4.out.mono hR4)
  have HO4 := Lib.hid (sc_oneI (s := t2) (hL6.out.shots H))
  clear hR4 hL4 hL5
  go_upto_region 8 with (first | (refine wb_alloc H rfl 35 rfl _ Tryz.zeroValue35 ?_; clear H; intro b9 w H) | (refine wb_put H rfl 0 35 _ _ rfl _ 0 rfl _ _ rfl (.agg (stateC t2 sl4)) rfl 76 info35 (Hz2.out sl4) (Nat.le_of_ble_eq_true rfl) HO4.out _ (Hs2.out sl4) ?_; clear H; intro w H))
  replace H : Sb [] w0 w [(b9, stateC t2 sl4, 35), (bs, ((entC ec0 (.slice none 0 0)).toList ++ (entC ec1 (.slice none 0 0)).toList).toArray, 42), (b7, stateC S0 sl3, 35), (b5, stateC t1 sl2, 35), (b3, stateC t1 sl1, 35), (b2, entC eb (.slice (some ⟨be, 0, none⟩) 1 1), 42), (be, evC ⟨1, 0, 1, 2⟩, 60), (b1, stateC S0 (.slice none 0 0), 35)] R4 := H
  go_wp2_with (first | (refine wb_cell H rfl 4 4 _ rfl _ 2 rfl _ _ rfl Tryz.isAgg4 (.bool true) (C2.out sl1) ?_) | (refine wb_cell H rfl 4 3 _ rfl _ 0 rfl _ _ rfl Tryz.isAgg3 (.int .i64 1) (C1.out sl1) ?_) | (refine wb_cell H rfl 4 3 _ rfl _ 60 rfl _ _ rfl Tryz.isAgg3 (.int .i64 2) (C3.out sl1) ?_) | (refine wb_whole H rfl 2 35 _ rfl _ rfl (stateC S0 sl3) rfl _ Tryz.underlying35 rfl 76 info35 Hz3.out ?_) | (refine wb_whole H rfl 7 35 _ rfl _ rfl (stateC S0 (.slice none 0 0)) rfl _ Tryz.underlying35 rfl 76 info35 Hz0.out ?_))
  refine (foldSame S0 S0 sl3 _ _ HS0.out HS0.out (hL7.out.shots H).w ((HLN _ _ : LieIn w0 R4 _ _).shots H).w HLM).mono ?_
  rintro e w5 ⟨⟨r, rfl, hi⟩, hb⟩
  obtain rfl : r = true := hi.2 rfl
  replace H := H.call hb
  clear hb hi
  go_wp2_with (first | (refine wb_cell H rfl 0 3 _ rfl _ 0 rfl _ _ rfl Tryz.isAgg3 (.int .i64 2) (C4.out sl4) ?_) | (refine wb_whole H rfl 7 35 _ rfl _ rfl (stateC S0 (.slice none 0 0)) rfl _ Tryz.underlying35 rfl 76 info35 Hz0.out ?_))
  refine (fmay_b S0 _ _ HS0.out.g HS0.out.t8 ((HLN _ _ : LieIn w0 R4 _ _).shots H).w).mono ?_
  rw [HMay.out]
  rintro e w6 ⟨rfl, hb⟩
  replace H := H.call hb
  clear hb
  go_wp2_with fail
  go_ret
  exact ⟨rfl, H.below⟩
end Go.Proofs.YtdopfonebpklkaaGreat.game
namespace Go.Proofs.YtdopfonebpklkaaGreat.game
open Go.ChangeShapes Go.WideShapes Go.ChangeAt Go.RowKit dice
set_option maxRecDepth 100000

theorem sl_to (ad : Option Addr) (n c k : Nat) (hc : k ≤ c) (w : World) : (Instr.slice 52 (.slice ad n c) none (some (.int .i64 k)) none).run Tryz.prog w = .ok (.slice (if c = 0 then ad else ad.map (·.add (0 * 26))) k c) w := by
  have i52 := Tryz.underlying52
  obtain ⟨i, hi, _, hz, _⟩ := info_ent
  simp [Instr.slice, Instr.sliceBounds, run_underlying i52, sizeOf, typeInfo, hi, Instr.sliceBound, asIntOf]
  intro hh; omega
theorem sl_from (ad : Option Addr) (n c k : Nat) (h : k ≤ n) (w : World) : (Instr.slice 52 (.slice ad n c) (some (.int .i64 k)) none none).run Tryz.prog w = .ok (.slice (if c = k then ad else ad.map (·.add (k * 26))) (n - k) (c - k)) w := by
  have i52 := Tryz.underlying52
  obtain ⟨i, hi, _, hz, _⟩ := info_ent
  simp [Instr.slice, Instr.sliceBounds, run_underlying i52, sizeOf, typeInfo, hi, hz, Instr.sliceBound, asIntOf]
  intro hh; omega
theorem LogW.part {W : World} {ad ad' : Option Addr} {c c' : Nat} {log : List Ent} (h : LogW W (.slice ad log.length c) log) (i j : Nat) (hij : i ≤ j) (hj : j ≤ log.length) (had : i = j ∨ ad' = ad.map (·.add (i * 26)) ∨ i = 0 ∧ ad' = ad) : LogW W (.slice ad' (j - i) c') ((log.take j).drop i) := by
  by_cases he : i = j
  · subst he
    refine ⟨[], by simp, fun k e s h => by simp at h, .inl ⟨by simp, ad', c', by simp⟩⟩
  obtain ⟨es, h1, h2, h3⟩ := h
  rcases h3 with ⟨rfl, _⟩ | ⟨g, o, c2, e, hg, hr⟩
  · simp at hj; omega
  injection e with e1 e2 e3
  subst e1
  have had' : ad' = some ⟨g, o + i * 26, none⟩ := by
    rcases had with h | rfl | ⟨rfl, rfl⟩
    · exact absurd h he
    · simp only [Option.map_some, add_n]
    · simp
  subst had'
  have hlen : ((log.take j).drop i).length = j - i := by simp; omega
  have at' : ∀ {α : Type} (l : List α) (k : Nat) (x : α), ((l.take j).drop i)[k]? = some x → l[i + k]? = some x := fun l k x hx => by
    rw [List.getElem?_drop, List.getElem?_take] at hx
    split at hx
    · exact hx
    · cases hx
  refine ⟨(es.take j).drop i, by simp [h1], fun k e s he hs => h2 (i + k) e s (at' _ _ _ he) (at' _ _ _ hs), .inr ⟨g, o + i * 26, c', by rw [hlen], hg, fun k e s he hs => ?_⟩⟩
  have := hr (i + k) e s (at' _ _ _ he) (at' _ _ _ hs)
  rwa [Nat.add_mul, ← Nat.add_assoc] at this
theorem LogW.to {W : World} {ad : Option Addr} {c : Nat} {log : List Ent} (h : LogW W (.slice ad log.length c) log) (k : Nat) (hk : k ≤ log.length) (c' : Nat) : LogW W (.slice (if c = 0 then ad else ad.map (·.add (0 * 26))) k c') (log.take k) := by
  have := h.part (ad' := if c = 0 then ad else ad.map (·.add (0 * 26))) (c' := c') 0 k (Nat.zero_le _) hk (by
    split
    · exact .inr (.inr ⟨rfl, rfl⟩)
    · exact .inr (.inl rfl))
  simpa using this
theorem LogW.from {W : World} {ad : Option Addr} {c : Nat} {log : List Ent} (h : LogW W (.slice ad log.length c) log) (k : Nat) (hk : k ≤ log.length) (hc : log.length ≤ c) (c' : Nat) : LogW W (.slice (if c = k then ad else ad.map (·.add (k * 26))) (log.length - k) c') (log.drop k) := by
  have := h.part (ad' := if c = k then ad else ad.map (·.add (k * 26))) (c' := c') k log.length hk (Nat.le_refl _) (by
    split
    · exact .inl (by omega)
    · exact .inr (.inl rfl))
  simpa using this
theorem seedStep_wf (h : Int) (c : UInt8) : (Lit.int .u64 (seedStep h c)).wf = true := by
  unfold seedStep
  rw [IntKind.wrap_u64]
  exact wu64 (Int.emod_nonneg _ (by decide)) (Int.emod_lt_of_pos _ (by decide))
theorem seedFrom_wf : ∀ (l : List UInt8) (h : Int), (Lit.int .u64 h).wf = true → (Lit.int .u64 (seedFrom h l)).wf = true
  | [], _, hh => hh
  | c :: l, h, _ => seedFrom_wf l _ (seedStep_wf h c)
theorem seed_wf (l : List UInt8) : (Lit.int .u64 (seed l)).wf = true := seedFrom_wf l _ (by decide)
/-- A run's parts. -/
theorem runF_parts {s t : Ste} {log : List Ent} (h : runF s log = some t) (k : Nat) : ∃ u, runF s (log.take k) = some u ∧ runF u (log.drop k) = some t := by
  have := runF_append (log.take k) (log.drop k) s
  rw [List.take_append_drop, h] at this
  exact (Option.bind_eq_some_iff.1 this.symm)
theorem runF_dice : ∀ (l : List Ent) {s t : Ste}, s.g.wf → s.T.length = 8 → (s.may → True) → runF s l = some t → t.g.wf ∧ t.T.length = 8 := fun l _ _ hg t8 _ h => runF_wf l hg t8 h
theorem runF_full {D : Int} (hD : (Lit.int .u64 D).wf = true) {log : List Ent} {t : Ste} (h : runF (startS D) log = some t) : t.wf ∧ t.may ∧ t.g.fr = log.length := by
  have h0 := startS_full D hD
  have h1 := runF_wf log h0.g h0.t8 h
  have h2 := runF_fr log h0.g h0.t8 h
  have hm : t.may := by
    cases log with
    | nil => injection h with h; subst h; exact startS_may D
    | cons x log => exact h2.2 (by simp)
  exact ⟨hm.full h1.1.d, hm, by rw [h2.1]; simp [startS]⟩
end Go.Proofs.YtdopfonebpklkaaGreat.game
namespace Go.Proofs.YtdopfonebpklkaaGreat.game
open Go.ChangeShapes Go.WideShapes Go.ChangeAt Go.RowKit dice
set_option maxRecDepth 100000

theorem runsBig (s : ByteArray) (cut : Int) (n : Nat) (ad : Option Addr) (c : Nat) (w0 : World) (h : 20 < s.size ∨ 100 < n) :
    Calls Tryz.prog 4 #[.string s, .slice ad n c, .int .i64 cut] w0 fun e w' => e = .returned (.bool true) ∧ Below w0.heap.size w0 w' := by
  rcases Nat.lt_or_ge 20 s.size with h1 | h1
  · clear h
    go_enter Tryz.func4, Tryz.ntmps4
    go_wp2_with fail
    refine (told_any _).mono ?_; rintro e w5 ⟨rfl, hb⟩
    go_wp2_with fail
    go_ret
    exact ⟨rfl, hb⟩
  · have h2 : 100 < n := by omega
    clear h
    go_enter Tryz.func4, Tryz.ntmps4
    go_wp2_with fail
    refine (told_any _).mono ?_; rintro e w5 ⟨rfl, hb⟩
    go_wp2_with fail
    go_ret
    exact ⟨rfl, hb⟩
theorem cut_at (cut : Int) (n : Nat) (hn : n ≤ 1000) : ∃ k : Nat, k ≤ n ∧ Go.RowKit.wrap64 ((IntKind.u64.wrap cut).tmod ((n : Int) + 1)) = (k : Int) := by
  have h0 : 0 ≤ IntKind.u64.wrap cut := by rw [IntKind.wrap_u64]; exact Int.emod_nonneg _ (by decide)
  rw [Int.tmod_eq_emod_of_nonneg h0]
  generalize IntKind.u64.wrap cut = x at *
  have a := Int.emod_nonneg x (show (n : Int) + 1 ≠ 0 by omega)
  have b := Int.emod_lt_of_pos x (show (0 : Int) < (n : Int) + 1 by omega)
  generalize x % ((n : Int) + 1) = y at *
  exact ⟨y.toNat, by omega, by rw [IntWalk.wrap64_in _ (by omega)]; omega⟩
set_option maxHeartbeats 16000000 in
theorem runsWalk (sd : ByteArray) (cut : Int) (L : List Trn) (ad : Option Addr) (c : Nat) (w0 : World) (hs : sd.size ≤ 20) (hn : L.length ≤ 100) (hT : ∀ t ∈ L, t.ok) (hin : TrnW w0 (.slice ad L.length c) L) :
    Calls Tryz.prog 4 #[.string sd, .slice ad L.length c, .int .i64 cut] w0 fun e w' => e = .returned (.bool true) ∧ Below w0.heap.size w0 w' := by
  obtain ⟨D, hd⟩ : ∃ D, seed sd.data.toList = D := ⟨_, rfl⟩
  have hD : (Lit.int .u64 D).wf = true := by rw [← hd]; exact seed_wf _
  have hsm : sd.size ≤ maxLen := by unfold maxLen; omega
  have HM := Lib.hid (make_b sd L (.slice ad L.length c) w0 hsm D hd hD hT hin (by omega))
  have HS := Lib.hid (fun w => Start_any sd w hsm D hd)
  have HR := Lib.hid (fun w => rstart_any sd w hsm D hd)
  have HnL := Lib.hid hn
  clear hsm hT hin hd
  go_enter Tryz.func4, Tryz.ntmps4
  go_wp2_with fail
  refine HM.out.mono ?_
  rintro e w1 ⟨hb1, ad7, c7, log, st, rfl, hc1, hc2, hlen, hwf, hrun, hlog⟩
  have Hb1 := Lib.hid hb1
  have H := Sb.start w1
  have hl1 : (log.length : Int) ≤ 100 := by omega
  clear hb1 HM hs hn
  go_upto_region 5 with fail
  obtain ⟨k, hk, hkv⟩ := cut_at cut log.length (by omega)
  rw [hkv]
  obtain ⟨hstw, hstm, hstf⟩ := runF_full hD hrun
  obtain ⟨u, hu1, hu2⟩ := runF_parts hrun k
  obtain ⟨huw, hum, huf⟩ := runF_full hD hu1
  rw [List.length_take, Nat.min_eq_left hk] at huf
  have hS0 := startS_full D hD
  obtain ⟨va, hva, hlva⟩ : ∃ va, (∀ w, (Instr.slice 52 (.slice ad7 log.length c7) none (some (.int .i64 k)) none).run Tryz.prog w = .ok va w) ∧ LogW w1 va (log.take k) := ⟨_, fun w => sl_to ad7 log.length c7 k (by omega) w, hlog.to k hk c7⟩
  obtain ⟨vb, hvb, hlvb⟩ : ∃ vb, (∀ w, (Instr.slice 52 (.slice ad7 log.length c7) (some (.int .i64 k)) none none).run Tryz.prog w = .ok vb w) ∧ LogW w1 vb (log.drop k) := ⟨_, fun w => sl_from ad7 log.length c7 k hk w, hlog.from k hk hc1 (c7 - k)⟩
  have hl1000 : log.length ≤ 1000 := by omega
  have HRun := Lib.hid (fun w l R (H : Sb [] w1 w l R) => Run_in (startS D) (.slice none 0 0) log (.slice ad7 log.length c7) w1 w l R H (lie_nil _ _) hS0.g hS0.t8 (fun e he => (hwf e he).1) (hlog.later H.below) hl1000)
  have HRef := Lib.hid (fun w l R (H : Sb [] w1 w l R) => rrun_in (startS D) (.slice none 0 0) log (.slice ad7 log.length c7) w1 w l R H (lie_nil _ _) hS0.g hS0.t8 (fun e he => (hwf e he).1) (hlog.later H.below) hl1000)
  have HRa := Lib.hid (fun w l R (H : Sb [] w1 w l R) => Run_in (startS D) (.slice none 0 0) (log.take k) va w1 w l R H (lie_nil _ _) hS0.g hS0.t8 (fun e he => (hwf e (List.mem_of_mem_take he)).1) (hlva.later H.below) (by rw [List.length_take]; omega))
  have HRb := Lib.hid (fun w l R sl (H : Sb [] w1 w l R) (hL : LieIn w1 R sl u.g.L) => Run_in u sl (log.drop k) vb w1 w l R H hL huw.g huw.t8 (fun e he => (hwf e (List.mem_of_mem_drop he)).1) (hlvb.later H.below) (by rw [List.length_drop]; omega))
  rw [hrun] at HRun HRef
  rw [hu1] at HRa
  rw [hu2] at HRb
  have Hva := Lib.hid hva
  have Hvb := Lib.hid hvb
  have Hst := Lib.hid hstw
  have Hu := Lib.hid huw
  have Hlm := Lib.hid hstm.g.most
  have Hz := Lib.hid (fun sl => sc_size (s := st) (sl := sl) hstw.g.s8 hstw.t8)
  have Hzu := Lib.hid (fun sl => sc_size (s := u) (sl := sl) huw.g.s8 huw.t8)
  have Hsp : Hid (∀ sl, splice zC 0 (Value.cells (.agg (stateC st sl))).toList = stateC st sl) := Lib.hid (fun sl => splice_all _ _ (by rw [zC_size]; exact (Hz.out sl).symm))
  have Hspu : Hid (∀ sl, splice zC 0 (Value.cells (.agg (stateC u sl))).toList = stateC u sl) := Lib.hid (fun sl => splice_all _ _ (by rw [zC_size]; exact (Hzu.out sl).symm))
  have C1 := Lib.hid (fun sl => show (stateC st sl)[0]? = some (.int .i64 log.length) by rw [← hstf]; exact sc_fr)
  have C2 := Lib.hid (fun sl => show (stateC u sl)[0]? = some (.int .i64 k) by rw [← huf]; exact sc_fr)
  clear hkv hstw hstm hstf hu1 hu2 huw hum huf hS0 hva hlva hvb hlvb hl1000 hrun hwf hlog hD hlen HnL
  have hlc : (k : Int) ≤ log.length := by omega
  generalize hS0 : startS D = S0 at *
  clear hS0
  go_wp2_with fail
  refine (HS.out _).mono ?_; rintro e w2 ⟨rfl, hb⟩
  replace H := H.call hb
  clear hb
  go_wp2_with fail
  refine (HRun.out _ _ _ H).mono ?_
  rintro e w5 ⟨⟨sl1, R1, rfl, H1, hL, hR1⟩, -⟩
  clear H
  have H := H1
  clear H1
  have hL1 := Lib.hid (show LieIn w1 R1 sl1 st.g.L from hL)
  clear hL
  have HO1 := Lib.hid (sc_oneI (s := st) (hL1.out.shots H))
  clear hR1
  go_upto_region 6 with (first | (refine wb_alloc H rfl 35 rfl _ Tryz.zeroValue35 ?_; clear H; intro b9 w H) | (refine wb_put H rfl 0 35 _ _ rfl _ 0 rfl _ _ rfl (.agg (stateC st sl1)) rfl 76 info35 (Hz.out sl1) (Nat.le_of_ble_eq_true rfl) HO1.out _ (Hsp.out sl1) ?_; clear H; intro w H))
  replace H : Sb [] w1 w [(b9, stateC st sl1, 35)] R1 := H
  go_wp2_with fail
  refine (HR.out _).mono ?_; rintro e w2 ⟨rfl, hb⟩
  replace H := H.call hb
  clear hb
  go_wp2_with fail
  refine (HRef.out _ _ _ H).mono ?_
  rintro e w5 ⟨⟨sl2, R2, rfl, H1, hL, hR2⟩, -⟩
  clear H
  have H := H1
  clear H1
  have hL2 := Lib.hid (show LieIn w1 R2 sl2 st.g.L from hL)
  clear hL
  have HO2 := Lib.hid (sc_oneI (s := st) (hL2.out.shots H))
  have hL1b := Lib.hid (hL1.out.mono hR2)
  clear hL1 hR2 HRef HRun HR
  go_upto_region 7 with (first | (refine wb_alloc H rfl 35 rfl _ Tryz.zeroValue35 ?_; clear H; intro b11 w H) | (refine wb_put H rfl 0 35 _ _ rfl _ 0 rfl _ _ rfl (.agg (stateC st sl2)) rfl 76 info35 (Hz.out sl2) (Nat.le_of_ble_eq_true rfl) HO2.out _ (Hsp.out sl2) ?_; clear H; intro w H))
  replace H : Sb [] w1 w [(b11, stateC st sl2, 35), (b9, stateC st sl1, 35)] R2 := H
  go_cut [13, 14] (fun v e wx => ∃ b sl3 R3, v = .pointer (some ⟨b, 0, none⟩) ∧ e = .int .i64 0 ∧ Hid (Sb [] w1 wx [(b, stateC u sl3, 35), (b11, stateC st sl2, 35), (b9, stateC st sl1, 35)] R3) ∧ Hid (LieIn w1 R3 sl3 u.g.L) ∧ Hid (∀ r ∈ R2, r ∈ R3))
  case first =>
    refine Gt_start 10 [] H (fun q hq => by simp at hq) (by kernel_rfl) rfl ?_
    clear H
    intro w H hbG
    clear hbG
    refine Gv_move 0 (fun d _ _ _ _ h => by cases d <;> exact h) (by kernel_rfl) rfl _ rfl rfl (some 52) rfl (by kernel_rfl) (by kernel_rfl) (TF_ne (by decide)) (.string _) rfl ?_
    simp only [Act.put, List.setIfInBounds_toArray, List.set_cons_succ, List.set_cons_zero]
    refine Gv_move 2 (fun d _ _ _ _ h => by cases d <;> exact h) (by kernel_rfl) rfl _ rfl rfl (some 54) rfl (by kernel_rfl) (by kernel_rfl) (TF_ne (by decide)) (.slice _ _ _) rfl ?_
    simp only [Act.put, List.setIfInBounds_toArray, List.set_cons_succ, List.set_cons_zero]
    refine Gv_move 3 (fun d _ _ _ _ h => by cases d <;> exact h) (by kernel_rfl) rfl _ rfl rfl (some 55) rfl (by kernel_rfl) (by kernel_rfl) (TF_ne (by decide)) (.int _ _) rfl ?_
    simp only [Act.put, List.setIfInBounds_toArray, List.set_cons_succ, List.set_cons_zero]
    refine Gv_bin 4 (fun d _ _ _ _ h => by cases d <;> exact h) (by kernel_rfl) rfl rfl (some 56) rfl (by kernel_rfl) (by kernel_rfl) (TF_ne (by decide)) (va) (fun w => by have h := Hva.out w; go_simp; first | done | exact h) ?_
    simp only [Act.put, List.setIfInBounds_toArray, List.set_cons_succ, List.set_cons_zero]
    refine Gs_two 1 9 rfl rfl (some 53) rfl rfl rfl (some 13) rfl (by kernel_rfl) 25 #[.string sd] (by go_simp; first | rfl | done) (HS.out _) (.pointer (some ⟨w.heap.size, 0, none⟩)) (.cells zC 35) (by go_simp; first | rfl | done) ?_ ?_
    · rintro e w5 ⟨rfl, hb⟩
      refine ⟨_, rfl, hb, ?_⟩
      replace H := H.call hb
      clear hb
      simp only [Act.put, List.setIfInBounds_toArray, List.set_cons_succ, List.set_cons_zero]
      refine Gs_two 5 9 rfl rfl (some 57) rfl rfl rfl (some 13) rfl (by kernel_rfl) 24 #[.agg (stateC S0 (.slice none 0 0)), va] (by go_simp; first | rfl | done) (HRa.out _ _ _ H) (.pointer (some ⟨w5.heap.size, 0, none⟩)) (.cells zC 35) (by go_simp; first | rfl | done) ?_ ?_
      · rintro e w6 ⟨⟨sl3, R3, rfl, H1, hL, hR3⟩, hb⟩
        refine ⟨_, rfl, hb, ?_⟩
        clear H hb
        have H := H1
        clear H1
        have hL3 := Lib.hid (show LieIn w1 R3 sl3 u.g.L from hL)
        clear hL
        have HO3 := Lib.hid (sc_oneI (s := u) (hL3.out.shots H))
        simp only [Act.put, List.setIfInBounds_toArray, List.set_cons_succ, List.set_cons_zero]
        refine Gv_move 6 (fun d _ _ _ _ h => by cases d <;> exact h) (by kernel_rfl) rfl _ rfl rfl (some 51) rfl (by kernel_rfl) (by kernel_rfl) (TF_ne (by decide)) (.tuple _) rfl ?_
        simp only [Act.put, List.setIfInBounds_toArray, List.set_cons_succ, List.set_cons_zero]
        refine Gv_bin 7 (fun d _ _ _ _ h => by cases d <;> exact h) (by kernel_rfl) rfl rfl (some 58) rfl (by kernel_rfl) (by kernel_rfl) (TF_ne (by decide)) (.agg (stateC u sl3)) (fun w => by go_simp) ?_
        simp only [Act.put, List.setIfInBounds_toArray, List.set_cons_succ, List.set_cons_zero]
        refine Gv_bin 8 (fun d _ _ _ _ h => by cases d <;> exact h) (by kernel_rfl) rfl rfl (some 59) rfl (by kernel_rfl) (by kernel_rfl) (TF_ne (by decide)) (.int .i64 0) (fun w => by go_simp) ?_
        simp only [Act.put, List.setIfInBounds_toArray, List.set_cons_succ, List.set_cons_zero]
        refine Gs_alloc 9 rfl rfl (some 13) rfl (by kernel_rfl) (.pointer (some ⟨w6.heap.size, 0, none⟩)) (.cells zC 35) (by go_simp; first | rfl | done) ?_
        replace H := H.new zC 35
        simp only [Act.put, List.setIfInBounds_toArray, List.set_cons_succ, List.set_cons_zero]
        refine Gs_tail 10 (by kernel_rfl) TF_eq (by kernel_rfl) rfl ?_
        simp only [List.drop_succ_cons, List.drop_zero]
        go_wp2_with (refine wb_put H rfl 0 35 _ _ rfl _ 0 rfl _ _ rfl (.agg (stateC u sl3)) rfl 76 info35 (Hzu.out sl3) (Nat.le_of_ble_eq_true rfl) HO3.out _ (Hspu.out sl3) ?_; clear H; intro w9 H)
        go_meet
        exact ⟨_, sl3, R3, rfl, rfl, Lib.hid H, hL3, Lib.hid hR3⟩
      · replace H := H.new zC 35
        simp only [Act.put, List.setIfInBounds_toArray, List.set_cons_succ, List.set_cons_zero]
        refine Gv_callB 5 rfl (by kernel_rfl) (some 57) rfl rfl 24 #[.agg (stateC S0 (.slice none 0 0)), va] (by go_simp; first | rfl | done) (HRa.out _ _ _ H) ?_
        rintro e w6 ⟨⟨sl3, R3, rfl, H1, hL, hR3⟩, hb⟩
        refine ⟨_, rfl, hb, ?_⟩
        clear H hb
        have H := H1
        clear H1
        have hL3 := Lib.hid (show LieIn w1 R3 sl3 u.g.L from hL)
        clear hL
        have HO3 := Lib.hid (sc_oneI (s := u) (hL3.out.shots H))
        simp only [Act.put, List.setIfInBounds_toArray, List.set_cons_succ, List.set_cons_zero]
        refine Gv_move 6 (fun d _ _ _ _ h => by cases d <;> exact h) (by kernel_rfl) rfl _ rfl rfl (some 51) rfl (by kernel_rfl) (by kernel_rfl) (TF_ne (by decide)) (.tuple _) rfl ?_
        simp only [Act.put, List.setIfInBounds_toArray, List.set_cons_succ, List.set_cons_zero]
        refine Gv_bin 7 (fun d _ _ _ _ h => by cases d <;> exact h) (by kernel_rfl) rfl rfl (some 58) rfl (by kernel_rfl) (by kernel_rfl) (TF_ne (by decide)) (.agg (stateC u sl3)) (fun w => by go_simp) ?_
        simp only [Act.put, List.setIfInBounds_toArray, List.set_cons_succ, List.set_cons_zero]
        refine Gv_bin 8 (fun d _ _ _ _ h => by cases d <;> exact h) (by kernel_rfl) rfl rfl (some 59) rfl (by kernel_rfl) (by kernel_rfl) (TF_ne (by decide)) (.int .i64 0) (fun w => by go_simp) ?_
        simp only [Act.put, List.setIfInBounds_toArray, List.set_cons_succ, List.set_cons_zero]
        refine Gs_tail 10 (by kernel_rfl) TF_eq (by kernel_rfl) rfl ?_
        simp only [List.drop_succ_cons, List.drop_zero]
        go_wp2_with (refine wb_put H rfl 0 35 _ _ rfl _ 0 rfl _ _ rfl (.agg (stateC u sl3)) rfl 76 info35 (Hzu.out sl3) (Nat.le_of_ble_eq_true rfl) HO3.out _ (Hspu.out sl3) ?_; clear H; intro w9 H)
        go_meet
        exact ⟨_, sl3, R3, rfl, rfl, Lib.hid H, hL3, Lib.hid hR3⟩
    · replace H := H.new zC 35
      simp only [Act.put, List.setIfInBounds_toArray, List.set_cons_succ, List.set_cons_zero]
      refine Gv_callB 1 rfl (by kernel_rfl) (some 53) rfl rfl 25 #[.string sd] (by go_simp; first | rfl | done) (HS.out _) ?_
      rintro e w5 ⟨rfl, hb⟩
      refine ⟨_, rfl, hb, ?_⟩
      replace H := H.call hb
      clear hb
      simp only [Act.put, List.setIfInBounds_toArray, List.set_cons_succ, List.set_cons_zero]
      refine Gv_callB 5 rfl (by kernel_rfl) (some 57) rfl rfl 24 #[.agg (stateC S0 (.slice none 0 0)), va] (by go_simp; first | rfl | done) (HRa.out _ _ _ H) ?_
      rintro e w6 ⟨⟨sl3, R3, rfl, H1, hL, hR3⟩, hb⟩
      refine ⟨_, rfl, hb, ?_⟩
      clear H hb
      have H := H1
      clear H1
      have hL3 := Lib.hid (show LieIn w1 R3 sl3 u.g.L from hL)
      clear hL
      have HO3 := Lib.hid (sc_oneI (s := u) (hL3.out.shots H))
      simp only [Act.put, List.setIfInBounds_toArray, List.set_cons_succ, List.set_cons_zero]
      refine Gv_move 6 (fun d _ _ _ _ h => by cases d <;> exact h) (by kernel_rfl) rfl _ rfl rfl (some 51) rfl (by kernel_rfl) (by kernel_rfl) (TF_ne (by decide)) (.tuple _) rfl ?_
      simp only [Act.put, List.setIfInBounds_toArray, List.set_cons_succ, List.set_cons_zero]
      refine Gv_bin 7 (fun d _ _ _ _ h => by cases d <;> exact h) (by kernel_rfl) rfl rfl (some 58) rfl (by kernel_rfl) (by kernel_rfl) (TF_ne (by decide)) (.agg (stateC u sl3)) (fun w => by go_simp) ?_
      simp only [Act.put, List.setIfInBounds_toArray, List.set_cons_succ, List.set_cons_zero]
      refine Gv_bin 8 (fun d _ _ _ _ h => by cases d <;> exact h) (by kernel_rfl) rfl rfl (some 59) rfl (by kernel_rfl) (by kernel_rfl) (TF_ne (by decide)) (.int .i64 0) (fun w => by go_simp) ?_
      simp only [Act.put, List.setIfInBounds_toArray, List.set_cons_succ, List.set_cons_zero]
      refine Gs_tail 10 (by kernel_rfl) TF_eq (by kernel_rfl) rfl ?_
      simp only [List.drop_succ_cons, List.drop_zero]
      go_wp2_with (refine wb_put H rfl 0 35 _ _ rfl _ 0 rfl _ _ rfl (.agg (stateC u sl3)) rfl 76 info35 (Hzu.out sl3) (Nat.le_of_ble_eq_true rfl) HO3.out _ (Hspu.out sl3) ?_; clear H; intro w9 H)
      go_meet
      exact ⟨_, sl3, R3, rfl, rfl, Lib.hid H, hL3, Lib.hid hR3⟩
  case rest =>
    obtain ⟨b13, sl3, R3, rfl, rfl, HB2, hL3, HR3⟩ := hcut
    have H := HB2.out
    clear HB2 HRa HS
    have hL1c := Lib.hid (hL1b.out.mono HR3.out)
    have hL2c := Lib.hid (hL2.out.mono HR3.out)
    clear hL1b hL2 HR3
    go_upto_region 8 with fail
    go_cut [15, 16] (fun v e wx => ∃ b sl4 R4, v = .pointer (some ⟨b, 0, none⟩) ∧ e = .int .i64 0 ∧ Hid (Sb [] w1 wx [(b, stateC st sl4, 35), (b13, stateC u sl3, 35), (b11, stateC st sl2, 35), (b9, stateC st sl1, 35)] R4) ∧ Hid (LieIn w1 R4 sl4 st.g.L) ∧ Hid (∀ r ∈ R3, r ∈ R4))
    case first =>
      refine Gt_start 9 [] H (fun q hq => by simp at hq) (by kernel_rfl) rfl ?_
      clear H
      intro w H hbG
      clear hbG
      refine Gs_loadRow 0 9 (fun d _ _ _ _ h => by cases d <;> exact h) (by kernel_rfl) rfl _ _ rfl rfl (some 61) rfl (by kernel_rfl) (by kernel_rfl) (TF_ne (by decide)) b13 (0) rfl (stateC u sl3).toList (fun j v hv => TF_blk (i := 0) 0 j rfl (by rw [Nat.zero_add]; simpa using hv)) (by kernel_rfl) _ Tryz.underlying35 rfl (by rw [Array.length_toList, Hzu.out sl3]; exact info35) ?_
      rw [Array.toArray_toList]
      simp only [Act.put, List.setIfInBounds_toArray, List.set_cons_succ, List.set_cons_zero]
      refine Gv_move 1 (fun d _ _ _ _ h => by cases d <;> exact h) (by kernel_rfl) rfl _ rfl rfl (some 62) rfl (by kernel_rfl) (by kernel_rfl) (TF_ne (by decide)) (.slice _ _ _) rfl ?_
      simp only [Act.put, List.setIfInBounds_toArray, List.set_cons_succ, List.set_cons_zero]
      refine Gv_move 2 (fun d _ _ _ _ h => by cases d <;> exact h) (by kernel_rfl) rfl _ rfl rfl (some 63) rfl (by kernel_rfl) (by kernel_rfl) (TF_ne (by decide)) (.int _ _) rfl ?_
      simp only [Act.put, List.setIfInBounds_toArray, List.set_cons_succ, List.set_cons_zero]
      refine Gv_bin 3 (fun d _ _ _ _ h => by cases d <;> exact h) (by kernel_rfl) rfl rfl (some 64) rfl (by kernel_rfl) (by kernel_rfl) (TF_ne (by decide)) (vb) (fun w => by have h := Hvb.out w; go_simp; first | done | exact h) ?_
      simp only [Act.put, List.setIfInBounds_toArray, List.set_cons_succ, List.set_cons_zero]
      refine Gs_two 4 8 rfl rfl (some 65) rfl rfl rfl (some 15) rfl (by kernel_rfl) 24 #[.agg (stateC u sl3), vb] (by go_simp; first | rfl | done) (HRb.out _ _ _ sl3 H hL3.out) (.pointer (some ⟨w.heap.size, 0, none⟩)) (.cells zC 35) (by go_simp; first | rfl | done) ?_ ?_
      · rintro e w6 ⟨⟨sl4, R4, rfl, H1, hL, hR4⟩, hb⟩
        refine ⟨_, rfl, hb, ?_⟩
        clear H hb
        have H := H1
        clear H1
        have hL4 := Lib.hid (show LieIn w1 R4 sl4 st.g.L from hL)
        clear hL
        have HO4 := Lib.hid (sc_oneI (s := st) (hL4.out.shots H))
        simp only [Act.put, List.setIfInBounds_toArray, List.set_cons_succ, List.set_cons_zero]
        refine Gv_move 5 (fun d _ _ _ _ h => by cases d <;> exact h) (by kernel_rfl) rfl _ rfl rfl (some 60) rfl (by kernel_rfl) (by kernel_rfl) (TF_ne (by decide)) (.tuple _) rfl ?_
        simp only [Act.put, List.setIfInBounds_toArray, List.set_cons_succ, List.set_cons_zero]
        refine Gv_bin 6 (fun d _ _ _ _ h => by cases d <;> exact h) (by kernel_rfl) rfl rfl (some 66) rfl (by kernel_rfl) (by kernel_rfl) (TF_ne (by decide)) (.agg (stateC st sl4)) (fun w => by go_simp) ?_
        simp only [Act.put, List.setIfInBounds_toArray, List.set_cons_succ, List.set_cons_zero]
        refine Gv_bin 7 (fun d _ _ _ _ h => by cases d <;> exact h) (by kernel_rfl) rfl rfl (some 67) rfl (by kernel_rfl) (by kernel_rfl) (TF_ne (by decide)) (.int .i64 0) (fun w => by go_simp) ?_
        simp only [Act.put, List.setIfInBounds_toArray, List.set_cons_succ, List.set_cons_zero]
        refine Gs_alloc 8 rfl rfl (some 15) rfl (by kernel_rfl) (.pointer (some ⟨w6.heap.size, 0, none⟩)) (.cells zC 35) (by go_simp; first | rfl | done) ?_
        replace H := H.new zC 35
        simp only [Act.put, List.setIfInBounds_toArray, List.set_cons_succ, List.set_cons_zero]
        refine Gs_tail 9 (by kernel_rfl) TF_eq (by kernel_rfl) rfl ?_
        simp only [List.drop_succ_cons, List.drop_zero]
        go_wp2_with (refine wb_put H rfl 0 35 _ _ rfl _ 0 rfl _ _ rfl (.agg (stateC st sl4)) rfl 76 info35 (Hz.out sl4) (Nat.le_of_ble_eq_true rfl) HO4.out _ (Hsp.out sl4) ?_; clear H; intro w9 H)
        go_meet
        exact ⟨_, sl4, R4, rfl, rfl, Lib.hid H, hL4, Lib.hid hR4⟩
      · replace H := H.new zC 35
        simp only [Act.put, List.setIfInBounds_toArray, List.set_cons_succ, List.set_cons_zero]
        refine Gv_callB 4 rfl (by kernel_rfl) (some 65) rfl rfl 24 #[.agg (stateC u sl3), vb] (by go_simp; first | rfl | done) (HRb.out _ _ _ sl3 H hL3.out) ?_
        rintro e w6 ⟨⟨sl4, R4, rfl, H1, hL, hR4⟩, hb⟩
        refine ⟨_, rfl, hb, ?_⟩
        clear H hb
        have H := H1
        clear H1
        have hL4 := Lib.hid (show LieIn w1 R4 sl4 st.g.L from hL)
        clear hL
        have HO4 := Lib.hid (sc_oneI (s := st) (hL4.out.shots H))
        simp only [Act.put, List.setIfInBounds_toArray, List.set_cons_succ, List.set_cons_zero]
        refine Gv_move 5 (fun d _ _ _ _ h => by cases d <;> exact h) (by kernel_rfl) rfl _ rfl rfl (some 60) rfl (by kernel_rfl) (by kernel_rfl) (TF_ne (by decide)) (.tuple _) rfl ?_
        simp only [Act.put, List.setIfInBounds_toArray, List.set_cons_succ, List.set_cons_zero]
        refine Gv_bin 6 (fun d _ _ _ _ h => by cases d <;> exact h) (by kernel_rfl) rfl rfl (some 66) rfl (by kernel_rfl) (by kernel_rfl) (TF_ne (by decide)) (.agg (stateC st sl4)) (fun w => by go_simp) ?_
        simp only [Act.put, List.setIfInBounds_toArray, List.set_cons_succ, List.set_cons_zero]
        refine Gv_bin 7 (fun d _ _ _ _ h => by cases d <;> exact h) (by kernel_rfl) rfl rfl (some 67) rfl (by kernel_rfl) (by kernel_rfl) (TF_ne (by decide)) (.int .i64 0) (fun w => by go_simp) ?_
        simp only [Act.put, List.setIfInBounds_toArray, List.set_cons_succ, List.set_cons_zero]
        refine Gs_tail 9 (by kernel_rfl) TF_eq (by kernel_rfl) rfl ?_
        simp only [List.drop_succ_cons, List.drop_zero]
        go_wp2_with (refine wb_put H rfl 0 35 _ _ rfl _ 0 rfl _ _ rfl (.agg (stateC st sl4)) rfl 76 info35 (Hz.out sl4) (Nat.le_of_ble_eq_true rfl) HO4.out _ (Hsp.out sl4) ?_; clear H; intro w9 H)
        go_meet
        exact ⟨_, sl4, R4, rfl, rfl, Lib.hid H, hL4, Lib.hid hR4⟩
    case rest =>
      obtain ⟨b15, sl4, R4, rfl, rfl, HB2, hL4, HR4⟩ := hcut
      have H := HB2.out
      clear HB2 HRb
      have hL1d := Lib.hid (hL1c.out.mono HR4.out)
      have hL2d := Lib.hid (hL2c.out.mono HR4.out)
      clear hL1c hL2c HR4
      go_wp2_with fail
      refine (told_any _).mono ?_; rintro e w6 ⟨rfl, hb⟩
      replace H := H.call hb
      clear hb
      go_wp2_with (first | (refine wb_whole H rfl 3 35 _ rfl _ rfl (stateC st sl1) rfl _ Tryz.underlying35 rfl 76 info35 (Hz.out sl1) ?_) | (refine wb_whole H rfl 2 35 _ rfl _ rfl (stateC st sl2) rfl _ Tryz.underlying35 rfl 76 info35 (Hz.out sl2) ?_) | (refine wb_whole H rfl 0 35 _ rfl _ rfl (stateC st sl4) rfl _ Tryz.underlying35 rfl 76 info35 (Hz.out sl4) ?_) | (refine wb_cell H rfl 3 3 _ rfl _ 0 rfl _ _ rfl Tryz.isAgg3 (.int .i64 log.length) (C1.out sl1) ?_) | (refine wb_cell H rfl 1 3 _ rfl _ 0 rfl _ _ rfl Tryz.isAgg3 (.int .i64 k) (C2.out sl3) ?_))
      refine (rsameS st st sl1 sl2 _ Hst.out Hst.out (hL1d.out.shots H).w (hL2d.out.shots H).w (by have := Hlm.out; omega) (by have := Hlm.out; omega)).mono ?_
      rintro e w7 ⟨⟨r, rfl, hi⟩, hb⟩
      obtain rfl : r = true := hi.2 rfl
      replace H := H.call hb
      clear hb hi
      go_wp2_with (first | (refine wb_whole H rfl 3 35 _ rfl _ rfl (stateC st sl1) rfl _ Tryz.underlying35 rfl 76 info35 (Hz.out sl1) ?_) | (refine wb_whole H rfl 2 35 _ rfl _ rfl (stateC st sl2) rfl _ Tryz.underlying35 rfl 76 info35 (Hz.out sl2) ?_) | (refine wb_whole H rfl 0 35 _ rfl _ rfl (stateC st sl4) rfl _ Tryz.underlying35 rfl 76 info35 (Hz.out sl4) ?_) | (refine wb_cell H rfl 3 3 _ rfl _ 0 rfl _ _ rfl Tryz.isAgg3 (.int .i64 log.length) (C1.out sl1) ?_) | (refine wb_cell H rfl 1 3 _ rfl _ 0 rfl _ _ rfl Tryz.isAgg3 (.int .i64 k) (C2.out sl3) ?_))
      refine (rsameS st st sl4 sl1 _ Hst.out Hst.out (hL4.out.shots H).w (hL1d.out.shots H).w (by have := Hlm.out; omega) (by have := Hlm.out; omega)).mono ?_
      rintro e w8 ⟨⟨r, rfl, hi⟩, hb⟩
      obtain rfl : r = true := hi.2 rfl
      replace H := H.call hb
      clear hb hi
      go_wp2_with (first | (refine wb_whole H rfl 3 35 _ rfl _ rfl (stateC st sl1) rfl _ Tryz.underlying35 rfl 76 info35 (Hz.out sl1) ?_) | (refine wb_whole H rfl 2 35 _ rfl _ rfl (stateC st sl2) rfl _ Tryz.underlying35 rfl 76 info35 (Hz.out sl2) ?_) | (refine wb_whole H rfl 0 35 _ rfl _ rfl (stateC st sl4) rfl _ Tryz.underlying35 rfl 76 info35 (Hz.out sl4) ?_) | (refine wb_cell H rfl 3 3 _ rfl _ 0 rfl _ _ rfl Tryz.isAgg3 (.int .i64 log.length) (C1.out sl1) ?_) | (refine wb_cell H rfl 1 3 _ rfl _ 0 rfl _ _ rfl Tryz.isAgg3 (.int .i64 k) (C2.out sl3) ?_))
      go_ret
      exact ⟨rfl, Hb1.out.trans (H.below.mono Hb1.out.size)⟩
end Go.Proofs.YtdopfonebpklkaaGreat.game
namespace Go.Proofs.YtdopfonebpklkaaGreat.game
open Go.ChangeShapes Go.WideShapes Go.ChangeAt Go.RowKit

theorem own : ownKnob Tryz.prog.godebug = none := by kernel_rfl
theorem laidOut : laidOutB Tryz.prog = true := by kernel_rfl
/-- What came in reads as it did: below the first new block nothing has turned. -/
theorem trodAll_below {H : Type} {enc : TypeId × Value → H} {P : Program} (hl : laidOutB P = true) {W W' : World} (hb : Below W.heap.size W W') :
    ∀ {ts : List TypeId} {vs : List Value} {ds : List (DataW H)} {ps : List MemPlace}, (∀ t ∈ ts, P.readableRec t = true ∧ t < P.types.size) → DataW.TrodAll enc P W 0 (fun _ => true) true ts vs ds ps → (∀ x ∈ ps, x.block < W.heap.size) →
      DataW.TrodAll enc P W' 0 (fun b => decide (b < W.heap.size)) true ts vs ds ps
  | [], _, _, _, _, h, _ => by
    obtain ⟨rfl, rfl, rfl⟩ := trodAll_nil h
    exact trodAll_mk0
  | t :: ts, _, _, _, ht, h, hlt => by
    obtain ⟨v, vs1, d, ds1, a, b, rfl, rfl, rfl, h1, h2⟩ := trodAll_cons h
    have h0 := ht t (List.mem_cons_self ..)
    exact trodAll_cons_mk (Below.trod hl h0.1 h0.2 h1 hb (fun x hx => hlt x (List.mem_append_left _ hx)))
      (trodAll_below hl hb (fun t' h' => ht t' (List.mem_cons_of_mem _ h')) h2 (fun x hx => hlt x (List.mem_append_right _ hx)))
theorem post_below {H : Type} {enc : TypeId × Value → H} {P : Program} {f : Func} {s : ChangeSpec} {W W' : World} {args : Array Value} {v : Value} {ds gs : List (DataW H)} {before : List MemPlace}
    (hl : laidOutB P = true) (hts : ∀ t ∈ f.params.toList, P.readableRec t = true ∧ t < P.types.size) (hv : s.vars = [])
    (hW : DataW.Whole enc P f.params.toList s.vars false W args.toList ds gs before) (hb : Below W.heap.size W W')
    (hargs : (s.fn H (ds ++ gs)).args = ds) (hvars : (s.fn H (ds ++ gs)).vars = [])
    (hres : DataW.TrodAll enc P W' W.heap.size (fun _ => false) false f.resultTypes.toList (v.resultList f.resultTypes.size) (s.fn H (ds ++ gs)).results []) :
    s.post enc P f false true false false W args v W' := by
  have hW0 := hW
  obtain ⟨p, q, hA, hV, rfl, _, _⟩ := hW0
  rw [hv] at hV
  obtain ⟨rfl, rfl⟩ := trodVars_none hV
  refine ⟨ds, [], p ++ [], [], p, [], hW, hres, ?_, ?_, hb.frame _, fun h => by cases h⟩
  · rw [hargs]
    exact trodAll_below hl hb hts hA (fun x hx => hW.lt x (by simpa using hx))
  · rw [hvars, hv]
    exact hV
end Go.Proofs.YtdopfonebpklkaaGreat.game
