/- The reference's Sum; guarded operations in a region that draws; ImageAsks' walk (the walk printed by mkas.py). -/
import Derived.Test.YtijnfeigoggaeaaKp
import Derived.Test.YtijnfeigoggaeaaKg
import Derived.Test.YtijnfeigoggaeaaLw
import Derived.Test.YtijnfeigoggaeaaGy
import Derived.Test.YtijnfeigoggaeaaRv
import Derived.Test.YtijnfeigoggaeaaTi
import Derived.Test.YtijnfeigoggaeaaRj
import Derived.Test.YtijnfeigoggaeaaOs
import Derived.Test.YtijnfeigoggaeaaRz
import Derived.Deep.DeepCutAuto
namespace Go.Proofs.Ytijnfeigoggaeaa.game
open Go Go.ChangeShapes Go.WideShapes Go.ChangeAt Go.RowKit dice
set_option maxRecDepth 100000

section
variable {P : Program} {ops : Array Oper} {Q : Exit → Act → World → Prop}
variable {T : Facts} {fuel : Nat} {listed : Array Bool} {a : Act} {w : World}
theorem Gv_move (k : Nat) {o : Oper} (hQ : ∀ (d : Option Tmp) v c a w, Q (.panic c) (a.put d v) w → Q (.panic c) a w) (hs : Region.noSelect ops = true) (hi : ops[k]? = some o) (x : Operand) (ho : o.op = .move x) (hw : Region.wanted o (yielded ops a.tmps) = true) (dst : Option Tmp) (hd : o.dst = dst)
    (hf : Region.free .any ops listed k = true) (hr : (Region.ready .any ops listed).contains k = true) (hT : ∀ t ∈ T, t.2.2 ≠ k) (v : Value) (hv : a.eval x = v)
    (h : Gs P ops Q T fuel (listed.setIfInBounds k true) (a.put dst v) w) : Gs P ops Q T (fuel + 1) listed a w :=
  Gs_take (v := v) (fun _ => True) k hQ hi hs hf hr hT (fun _ _ _ _ _ => trivial) (.inl ⟨hw, fun w _ => by unfold execOp; rw [ho, ← hv]; rfl⟩) (by rw [hd]; exact h)
/-- An operation that reads a row and yields a value. -/
theorem Gv_row (k d : Nat) {o : Oper} (hQ : ∀ (d : Option Tmp) v c a w, Q (.panic c) (a.put d v) w → Q (.panic c) a w) (hs : Region.noSelect ops = true) (hi : ops[k]? = some o) (hw : Region.wanted o (yielded ops a.tmps) = true) (dst : Option Tmp) (hd : o.dst = dst)
    (hf : Region.free .any ops listed k = true) (hr : (Region.ready .any ops listed).contains k = true) (hT : ∀ t ∈ T, t.2.2 ≠ k) (b p : Nat) (vs : List Value)
    (hm : ∀ j v, vs[j]? = some v → ((⟨b, p + j, none⟩ : Addr), v, d) ∈ T) (hwf : Region.waitsFor .any ops d k = true) (v : Value) (hrun : ∀ w : World, w.rangeAt b p vs → (execOp a.eval o).run P w = .ok (.value v) w)
    (h : Gs P ops Q T fuel (listed.setIfInBounds k true) (a.put dst v) w) : Gs P ops Q T (fuel + 1) listed a w := by
  refine Gs_take (v := v) (fun w => w.rangeAt b p vs) k hQ hi hs hf hr hT (fun listed w inv hk hh => ?_) (.inl ⟨hw, fun w hc => hrun w hc⟩) (by rw [hd]; exact h)
  obtain ⟨od, hod, e, he, hb, hon⟩ := Region.waitsFor_spec hwf
  have hlt : d < listed.size := by rw [inv.size]; exact (Array.getElem?_eq_some_iff.1 hod).1
  have hopen : listed.getD d true = false := by
    cases hl : listed.getD d false with
    | true =>
      have := inv.closed d od hod hl e he hb
      rw [hon, getD_both hk] at this
      cases this
    | false => exact getD_in hlt hl
  intro j v hj
  exact hh _ (hm j v hj) hopen
/-- A call that makes memory, alone ready. -/
theorem Gv_callB (k : Nat) {o : Oper} (hi : ops[k]? = some o) (hr : Region.ready .any ops listed = [k]) (dst : Option Tmp) (hd : o.dst = dst) (hw : Region.wanted o (yielded ops a.tmps) = true) (f : FuncId) (vs : Array Value) (hrun : (execOp a.eval o).run P w = .ok (.enter f vs) w)
    {R : Ending → World → Prop} (hc : Calls P f vs w R)
    (h : ∀ e w', R e w' → ∃ v, e = .returned v ∧ Below w.heap.size w w' ∧ Gs P ops Q T fuel (listed.setIfInBounds k true) (a.put dst v) w') : Gs P ops Q T (fuel + 1) listed a w := by
  intro inv hh
  have hr' : k ∈ Region.ready .any ops listed := by rw [hr]; simp
  refine ⟨fun h0 => (by rw [h0] at hr'; cases hr'), fun i hik => ?_⟩
  rw [hr] at hik
  obtain rfl : i = k := by simpa using hik
  have hsz : i < listed.size := by rw [inv.size]; exact (Array.getElem?_eq_some_iff.1 hi).1
  have hh' : Held T (listed.setIfInBounds i true) w := hh.later hsz
  unfold wpOp
  simp only [hi]
  rw [if_pos hw]
  refine .inl ?_
  unfold Oper.wp
  rw [hrun]
  subst hd
  refine Calls.mono hc fun e w' hR => ?_
  obtain ⟨v, rfl, hb, hG⟩ := h e w' hR
  have hw' := hh'.below hb
  exact ⟨hw', hG (inv.set hr') hw'⟩
end
theorem ex_conv {ev : Operand → Value} {o : Oper} (x : Operand) (ho : o.op = .convert 36 9 x) (v u : Value) (hx : ev x = v) (w : World) (h : (convert 36 9 v).run Try.prog w = .ok u w) : (execOp ev o).run Try.prog w = .ok (.value u) w := by
  unfold execOp
  rw [ho]
  simp only [hx]
  simp [h]
/-- Bytes lie in a row; where the row stands they are the text. -/
theorem Bs.range {W : World} {v : Value} {b : List UInt8} (h : Bs W v b) : ∃ g o, W.rangeAt g o (vb b) ∧ ∀ w : World, w.rangeAt g o (vb b) → (convert 36 9 v).run Try.prog w = .ok (.string (strB b)) w := by
  obtain ⟨ad, c, rfl, h1, h2, h3⟩ := h
  rcases h3 with rfl | ⟨g, o, rfl, hg, hc⟩
  · exact ⟨0, 0, fun j v hj => by simp [vb] at hj, fun w _ => convNilB ad c w⟩
  · refine ⟨g, o, fun j v hj => hc j v hj, fun w hw => run_convert_bytes_back (P := Try.prog) w 36 9 5 ⟨g, o, none⟩ c b Try.underlying36 Try.underlying5 Try.underlying9 (fun j hj => ?_)⟩
    have a1 : (⟨g, o, none⟩ : Addr).add j = ⟨g, o + j, none⟩ := by unfold Addr.add; split <;> simp_all
    rw [a1]
    exact hw j _ (by simp [vb, List.getElem?_eq_getElem hj])
/-- What both Gets answer: the state (or the zero state) and the code. -/
def getU (b : List UInt8) : Ste := (getF b).getD zSte
def getK (b : List UInt8) : Int := if (getF b).isSome then 0 else 2
theorem zSte_wf : zSte.wf := by
  refine ⟨⟨w64 (a := 0) (by decide) (by decide), wu64 (a := 0) (by decide) (by decide), rfl, fun t ht => ?_, fun t ht => by simp [zSte] at ht⟩, w64 (a := 0) (by decide) (by decide), rfl, fun q hq => ?_⟩
  · have : t = zShp := by simp [zSte] at ht; exact ht
    rw [this]
    exact zShp_wf
  · have : q = ⟨0, 0⟩ := by simp [zSte] at hq; exact hq
    rw [this]
    exact ⟨w64 (a := 0) (by decide) (by decide), w64 (a := 0) (by decide) (by decide)⟩
theorem fits_wfS {s : Ste} (h : s.fits) : s.wf := by
  have a := h.v0
  have b := h.v1
  refine ⟨h.wf, w64 (by omega) (by omega), h.t8, fun q hq => ?_⟩
  have f := h.seats q hq
  have p0 := f.p0
  have p1 := f.p1
  have g0 := f.g0
  have g1 := f.g1
  exact ⟨w64 (by omega) (by omega), w64 (by omega) (by omega)⟩
theorem getU_ok (b : List UInt8) : (getU b).wf ∧ (getU b).g.L.length ≤ 1000 := by
  unfold getU
  cases h : getF b with
  | none => exact ⟨zSte_wf, by decide⟩
  | some s =>
    have hf := (getF_some h).1
    have := hf.few
    exact ⟨fits_wfS hf, by simp only [Option.getD_some]; omega⟩
theorem GetPost.one {b : List UInt8} {W0 : World} {e : Ending} {w' : World} (h : GetPost b W0 e w') : Below W0.heap.size W0 w' ∧ ∃ sl, e = .returned (.tuple #[.agg (stateC (getU b) sl), .int .i64 (getK b)]) ∧ Own w' 0 sl (getU b).g.L ∧ ∀ k, sl.ownBlock = some k → W0.heap.size ≤ k := by
  obtain ⟨hb, hG⟩ := h
  refine ⟨hb, ?_⟩
  unfold getU getK
  cases hF : getF b with
  | none =>
    rw [hF] at hG
    subst hG
    exact ⟨.slice none 0 0, by simp only [Option.getD_none]; rw [zSte_cells]; rfl, World.ownsRow_nil .., fun k hk => by simp [Value.ownBlock] at hk⟩
  | some s =>
    rw [hF] at hG
    obtain ⟨sl, rfl, hown, hn⟩ := hG
    exact ⟨sl, rfl, hown, hn⟩
theorem sc_oneW {W : World} {s : Ste} {sl : Value} (h : ShotsW W sl s.g.L) : (Value.cells (.agg (stateC s sl))).toList.all (·.oneCell') = true := by
  have hso : sl.oneCell' = true := by obtain ⟨ad, c, e⟩ := h.form; rw [e]; rfl
  rw [List.all_eq_true]
  intro v hv
  simp [Value.cells, stateC, stateL, shipsL, seatsL] at hv
  rcases hv with rfl | rfl | ⟨t, _, hm⟩ | rfl | rfl | ⟨q, _, hm⟩
  · rfl
  · rfl
  · simp [shipL] at hm
    rcases hm with rfl | rfl | rfl | rfl | rfl | rfl | rfl <;> rfl
  · exact hso
  · rfl
  · simp [seatL] at hm
    rcases hm with rfl | rfl <;> rfl
def sumF (s : Ste) : Int := if mayS s then seed (img s) else 0
theorem rsum_any (s : Ste) (sl : Value) (w0 : World) (hg : s.g.wf) (t8 : s.T.length = 8) (hin : ShotsW w0 sl s.g.L) :
    Calls Try.prog 25 #[.agg (stateC s sl)] w0 fun e w' => e = .returned (.int .u64 (sumF s)) ∧ Below w0.heap.size w0 w' := by
  have H := Sb.start w0
  have HM := Lib.hid (fun w h => rmayS_b s sl w hg t8 h)
  have HI := Lib.hid hin
  have Hz := Lib.hid (sc_size (sl := sl) hg.s8 t8)
  unfold sumF
  cases hm : mayS s with
  | false =>
    rw [hm] at HM
    clear hg t8 hin hm
    generalize stateC s sl = cs at *
    go_enter Try.func25, Try.ntmps25
    go_wp2_with (first | (refine wb_box H rfl 35 _ rfl cs rfl ?_; clear H; intro b1 w H) | (refine wb_whole H rfl 0 35 _ rfl _ rfl cs rfl _ Try.underlying35 rfl 76 info35 Hz.out ?_))
    refine (HM.out _ (HI.out.later H.below)).mono ?_; rintro e w' ⟨rfl, hb⟩
    replace H := H.call hb
    clear hb
    go_wp2_with fail
    go_ret
    exact ⟨rfl, H.below⟩
  | true =>
    have HP := Lib.hid (fun w h => rput_any s sl w hg t8 h hm)
    have hlen := img_len s hg.s8 t8
    have hok := (Gme.may_ok hg.s8).1 (by unfold mayS at hm; simp only [Bool.and_eq_true] at hm; exact hm.1.1)
    have hon : onN s.g.S ≤ 8 := by rw [← hg.s8]; exact onN_le _
    have hmost := hok.most
    have Hle := Lib.hid (show (img s).length ≤ maxLen by unfold maxLen; omega)
    rw [hm] at HM
    clear hg t8 hin hm hlen hok hon hmost
    generalize stateC s sl = cs at *
    go_enter Try.func25, Try.ntmps25
    go_wp2_with (first | (refine wb_box H rfl 35 _ rfl cs rfl ?_; clear H; intro b1 w H) | (refine wb_whole H rfl 0 35 _ rfl _ rfl cs rfl _ Try.underlying35 rfl 76 info35 Hz.out ?_))
    refine (HM.out _ (HI.out.later H.below)).mono ?_; rintro e w' ⟨rfl, hb⟩
    replace H := H.call hb
    clear hb
    go_wp2_with (refine wb_whole H rfl 0 35 _ rfl _ rfl cs rfl _ Try.underlying35 rfl 76 info35 Hz.out ?_)
    refine (HP.out _ (HI.out.later H.below)).mono ?_; rintro e w' ⟨rfl, hb⟩
    replace H := H.call hb
    clear hb
    go_wp2_with fail
    refine (rseed_any (strB (img s)) _ (by exact Hle.out)).mono ?_; rintro e w2 ⟨rfl, rfl⟩
    go_wp2_with fail
    go_ret
    exact ⟨rfl, H.below⟩
end Go.Proofs.Ytijnfeigoggaeaa.game

namespace Go.Proofs.Ytijnfeigoggaeaa.game
open Go Go.ChangeShapes Go.WideShapes Go.ChangeAt Go.RowKit dice
set_option maxRecDepth 100000

def PutIs (s : Ste) (x : Value) (k : Int) (w : World) : Prop := (mayS s = true ∧ k = 0 ∧ Bs w x (img s)) ∨ (mayS s = false ∧ k = 1 ∧ x = .slice none 0 0)
theorem put_one (s : Ste) (sl : Value) (w0 : World) (hg : s.g.wf) (t8 : s.T.length = 8) (hin : ShotsW w0 sl s.g.L) :
    Calls Try.prog 16 #[.agg (stateC s sl)] w0 fun e w' => ∃ x k, e = .returned (.tuple #[x, .int .i64 k]) ∧ PutIs s x k w' ∧ Below w0.heap.size w0 w' := by
  cases hm : mayS s with
  | false => exact (put_no s sl w0 hg t8 hin hm).mono fun e w' h => ⟨_, _, h.1, .inr ⟨hm, rfl, rfl⟩, h.2⟩
  | true =>
    refine (put_ok s sl w0 hg t8 hin hm).mono fun e w' h => ?_
    obtain ⟨v, h1, h2, h3⟩ := h
    exact ⟨v, 0, h1, .inl ⟨hm, rfl, Bs.of_row h2⟩, h3⟩
theorem of_any (s : Ste) (sl : Value) (w0 : World) (hg : s.g.wf) (t8 : s.T.length = 8) (hin : ShotsW w0 sl s.g.L) :
    Calls Try.prog 24 #[.agg (stateC s sl)] w0 fun e w' => e = .returned (.int .u64 (sumF s)) ∧ Below w0.heap.size w0 w' := by
  unfold sumF
  cases hm : mayS s with
  | false => exact of_no s sl w0 hg t8 hin hm
  | true => exact of_ok s sl w0 hg t8 hin hm
theorem range_own {w0 w : World} {l : List Blk} {R : List RowS} (H : Sb [] w0 w l R) {b : Nat} {cs : Array Value} {t : TypeId} (h : (b, cs, t) ∈ l) : w.rangeAt b 0 cs.toList := fun j v hv => by
  rw [Nat.zero_add, cell_of_row w b j cs t (0, 0) (H.holds _ h)]
  simpa using hv
set_option maxHeartbeats 8000000 in
theorem asksWalk (s : Ste) (sl v : Value) (b : List UInt8) (w0 : World) (hs : s.wf) (hin : ShotsW w0 sl s.g.L) (hv : Bs w0 v b) :
    Calls Try.prog 3 #[.agg (stateC s sl), v] w0 fun e w' => e = .returned (.bool true) ∧ Below w0.heap.size w0 w' := by
  have H := Sb.start w0
  have hg := hs.g
  have t8 := hs.t8
  have Hz := Lib.hid (sc_size (sl := sl) hg.s8 t8)
  have HG := Lib.hid (fun j v h => sc_game (s := s) (sl := sl) j v h)
  have Hgs := Lib.hid (gc_size (fr := s.g.fr) (d := s.g.d) (sl := sl) hg.s8)
  have HI := Lib.hid hin
  have HT := Lib.hid toldI
  have HV := Lib.hid hv
  have HM := Lib.hid (fun w h => rmayS_b s sl w hg t8 h)
  have HP := Lib.hid (fun w h => put_one s sl w hg t8 h)
  have HR := Lib.hid (fun w h => rput_any s sl w hg t8 h)
  have HO := Lib.hid (fun w h => of_any s sl w hg t8 h)
  have HS := Lib.hid (fun w h => rsum_any s sl w hg t8 h)
  have HF : Hid (∀ w, Calls Try.prog 14 #[.agg (gameC s.g.fr s.g.d s.g.S sl)] w fun e w' => e = .returned (.bool (decide (s.g.L.length ≤ 60))) ∧ Below w.heap.size w w') := Lib.hid (fun w => by
    obtain ⟨ad, c, e⟩ := hin.form
    rw [e]
    exact few_b _ _ _ _ _ _ _ hg.s8)
  obtain ⟨ad, c, hvf⟩ : ∃ ad c, v = .slice ad b.length c := by
    obtain ⟨ad, c, h, _⟩ := hv
    exact ⟨_, _, h⟩
  subst hvf
  obtain ⟨W, hW⟩ : ∃ W, gameC s.g.fr s.g.d s.g.S sl = W := ⟨_, rfl⟩
  rw [hW] at HG Hgs HF
  generalize stateC s sl = cs at *
  clear hs hg t8 hin hv hW
  by_cases hfew : s.g.L.length ≤ 60
  rotate_left
  · rw [decide_eq_false hfew] at HF
    clear hfew HM HP HR HO HS
    go_enter Try.func3, Try.ntmps3
    go_wp2_with (first | (refine wb_box H rfl 35 _ rfl cs rfl ?_; clear H; intro b1 w H) | (refine wb_partA H rfl 0 28 _ rfl _ 0 rfl _ _ rfl _ Try.underlying28 rfl 59 info28 W (fun j v h => by rw [Nat.zero_add]; exact HG.out j v h) Hgs.out ?_))
    refine (HF.out _).mono ?_; rintro e w' ⟨rfl, hb⟩
    replace H := H.call hb
    clear hb
    go_wp2_with fail
    refine (HT.out _).mono ?_; rintro e w' ⟨rfl, hb⟩
    replace H := H.call hb
    clear hb
    go_wp2_with fail
    go_ret
    exact ⟨rfl, H.below⟩
  rw [decide_eq_true hfew] at HF
  clear hfew
  by_cases hbl : b.length ≤ 900
  rotate_left
  · have hbl' : (900 : Int) < (b.length : Int) := by omega
    clear HM HP HR HO HS hbl
    go_enter Try.func3, Try.ntmps3
    go_wp2_with (first | (refine wb_box H rfl 35 _ rfl cs rfl ?_; clear H; intro b1 w H) | (refine wb_partA H rfl 0 28 _ rfl _ 0 rfl _ _ rfl _ Try.underlying28 rfl 59 info28 W (fun j v h => by rw [Nat.zero_add]; exact HG.out j v h) Hgs.out ?_))
    refine (HF.out _).mono ?_; rintro e w' ⟨rfl, hb⟩
    replace H := H.call hb
    clear hb
    go_wp2_with fail
    refine (HT.out _).mono ?_; rintro e w' ⟨rfl, hb⟩
    replace H := H.call hb
    clear hb
    go_wp2_with fail
    go_ret
    exact ⟨rfl, H.below⟩
  have hbl' : (b.length : Int) ≤ 900 := by omega
  have Hbl := Lib.hid hbl
  clear hbl
  go_enter Try.func3, Try.ntmps3
  go_wp2_with (first | (refine wb_box H rfl 35 _ rfl cs rfl ?_; clear H; intro b1 w H) | (refine wb_partA H rfl 0 28 _ rfl _ 0 rfl _ _ rfl _ Try.underlying28 rfl 59 info28 W (fun j v h => by rw [Nat.zero_add]; exact HG.out j v h) Hgs.out ?_))
  refine (HF.out _).mono ?_; rintro e w' ⟨rfl, hb⟩
  replace H := H.call hb
  clear hb HF
  go_wp2_with (refine wb_whole H rfl 0 35 _ rfl _ rfl cs rfl _ Try.underlying35 rfl 76 info35 Hz.out ?_)
  refine (HP.out _ (HI.out.later H.below)).mono ?_; rintro e w' ⟨x, k, rfl, hput, hb⟩
  replace H := H.call hb
  have HPut := Lib.hid hput
  clear hb hput HP
  go_upto_region 4 with fail
  go_wp2_with (refine wb_whole H rfl 0 35 _ rfl _ rfl cs rfl _ Try.underlying35 rfl 76 info35 Hz.out ?_)
  refine (HM.out _ (HI.out.later H.below)).mono ?_; rintro e w2 ⟨rfl, hb⟩
  replace H := H.call hb
  have HPut2 : Hid (PutIs s x k w2) := Lib.hid (by
    rcases HPut.out with h | h
    · exact .inl ⟨h.1, h.2.1, h.2.2.later hb⟩
    · exact .inr h)
  clear hb HPut HM
  go_upto_if 27 with fail
  go_cut [36] (fun v wx => Hid (Sb [] w0 wx [(b1, cs, 35)] []))
  case first =>
    clear HT HO HS
    cases hm : mayS s with
    | false =>
      obtain ⟨rfl, rfl⟩ : k = 1 ∧ x = .slice none 0 0 := by
        rcases HPut2.out with h | h
        · rw [hm] at h; exact absurd h.1 (by decide)
        · exact h.2
      clear HPut2 HR hm
      go_wp2_with fail
      go_meet
      exact Lib.hid H
    | true =>
      obtain ⟨rfl, hbx⟩ : k = 0 ∧ Bs w2 x (img s) := by
        rcases HPut2.out with h | h
        · exact h.2
        · rw [hm] at h; exact absurd h.1 (by decide)
      have HR2 := Lib.hid (fun w h => HR.out w h hm)
      obtain ⟨g, o, hrg, hcv⟩ := hbx.range
      have Hrg := Lib.hid hrg
      have Hcv := Lib.hid hcv
      clear HPut2 HR hbx hrg hcv hm
      obtain ⟨sb, hsb⟩ : ∃ sb, strB (img s) = sb := ⟨_, rfl⟩
      rw [hsb] at Hcv HR2
      clear hsb
      go_upto_region 5 with fail
      have HD : Sb [] w0 ({ w2 with drawn := w2.drawn + 1 } : World) _ _ := H.call ((Below.refl _ w2).drew)
      have hf0 : ({ w2 with drawn := w2.drawn + 1 } : World).rangeAt b1 0 cs.toList := range_own HD (List.mem_cons_self ..)
      have hf1 : ({ w2 with drawn := w2.drawn + 1 } : World).rangeAt g o (vb (img s)) := fun j v hv => Hrg.out j v hv
      obtain ⟨T, hT⟩ : ∃ T, rowF b1 0 cs.toList 6 ++ rowF g o (vb (img s)) 7 = T := ⟨_, rfl⟩
      have HTd : Hid (∀ t ∈ T, t.2.2 = 6 ∨ t.2.2 = 7 ∨ t.2.2 = 7 ∨ t.2.2 = 7) := Lib.hid (fun t ht => by
        rw [← hT] at ht
        simp only [List.mem_append] at ht
        rcases ht with h | h
        · have := rowF_d t h; omega
        · have := rowF_d t h; omega)
      have HTk : ∀ k, 6 ≠ k → 7 ≠ k → 7 ≠ k → 7 ≠ k → ∀ t ∈ T, t.2.2 ≠ k := fun k h0 h1 h2 h3 t ht => by have := HTd.out t ht; omega
      have HM0 : ∀ j v, (cs.toList)[j]? = some v → ((⟨b1, 0 + j, none⟩ : Addr), v, 6) ∈ T := fun j v hv => by rw [← hT]; simp only [List.mem_append]; exact .inl ( (mem_rowF hv))
      have HM1 : ∀ j v, ((vb (img s)))[j]? = some v → ((⟨g, o + j, none⟩ : Addr), v, 7) ∈ T := fun j v hv => by rw [← hT]; simp only [List.mem_append]; exact .inr ( (mem_rowF hv))
      refine Gs_start (T := T) (n := 9) (by kernel_rfl) rfl ?_ ?_
      · intro t ht _
        rw [← hT] at ht
        simp only [List.mem_append] at ht
        rcases ht with h | h
        · exact rowF_holds hf0 t h
        · exact rowF_holds hf1 t h
      clear hf0 hf1
      clear hT
      replace H := HD
      clear HD
      generalize ({ w2 with drawn := w2.drawn + 1 } : World) = w1 at *
      refine Gv_val 0 rfl (by kernel_rfl) (some 28) rfl rfl (.int .i64 0) (by go_simp) ?_
      simp only [Act.put, List.setIfInBounds_toArray, List.set_cons_succ, List.set_cons_zero]
      refine Gv_val 1 rfl (by kernel_rfl) (some 29) rfl rfl (.bool false) (by go_simp) ?_
      simp only [Act.put, List.setIfInBounds_toArray, List.set_cons_succ, List.set_cons_zero]
      refine Gv_val 2 rfl (by kernel_rfl) (some 30) rfl rfl (.bool false) (by go_simp) ?_
      simp only [Act.put, List.setIfInBounds_toArray, List.set_cons_succ, List.set_cons_zero]
      refine Gv_move 3 (fun d _ _ _ _ h => by cases d <;> exact h) (by kernel_rfl) rfl _ rfl rfl (some 31) rfl (by kernel_rfl) (by kernel_rfl) (HTk 3 (by decide) (by decide) (by decide) (by decide)) (x) rfl ?_
      simp only [Act.put, List.setIfInBounds_toArray, List.set_cons_succ, List.set_cons_zero]
      refine Gv_row 4 7 (fun d _ _ _ _ h => by cases d <;> exact h) (by kernel_rfl) rfl rfl (some 32) rfl (by kernel_rfl) (by kernel_rfl) (HTk 4 (by decide) (by decide) (by decide) (by decide)) _ _ _ HM1 (by kernel_rfl) (.string sb) (fun w hw => ex_conv _ rfl (x) (.string sb) rfl w (Hcv.out w hw)) ?_
      simp only [Act.put, List.setIfInBounds_toArray, List.set_cons_succ, List.set_cons_zero]
      refine Gv_loadRow 5 6 (fun d _ _ _ _ h => by cases d <;> exact h) (by kernel_rfl) rfl _ _ rfl rfl (some 33) rfl (by kernel_rfl) (by kernel_rfl) (HTk 5 (by decide) (by decide) (by decide) (by decide)) b1 0 rfl cs.toList HM0 (by kernel_rfl) _ Try.underlying35 rfl (by rw [Array.length_toList, Hz.out]; exact info35) ?_
      rw [Array.toArray_toList]
      simp only [Act.put, List.setIfInBounds_toArray, List.set_cons_succ, List.set_cons_zero]
      refine Gv_callB 6 rfl (by kernel_rfl) (some 34) rfl rfl 18 #[.agg cs] (by go_simp) (HR2.out _ (HI.out.later H.below)) ?_
      rintro e w3 ⟨rfl, hb⟩
      refine ⟨_, rfl, hb, ?_⟩
      replace H := H.call hb
      clear hb
      simp only [Act.put, List.setIfInBounds_toArray, List.set_cons_succ, List.set_cons_zero]
      refine Gv_val 7 rfl (by kernel_rfl) (some 35) rfl rfl (.bool false) (by go_simp) ?_
      simp only [Act.put, List.setIfInBounds_toArray, List.set_cons_succ, List.set_cons_zero]
      refine Gs_end 8 (by kernel_rfl) (fun t ht => by rcases HTd.out t ht with h | h | h | h <;> rw [h] <;> rfl) (by kernel_rfl) rfl ?_
      simp only [List.drop_succ_cons, List.drop_zero]
      go_wp2_with fail
      go_meet
      exact Lib.hid H
  case rest =>
    have HB := hcut
    clear H hcut
    have H := HB.out
    have HVx := Lib.hid (HV.out.later H.below)
    clear HB HR HPut2
    go_wp2_with fail
    refine (get_any _ _ _ HVx.out).mono ?_
    rintro e w4 hG
    obtain ⟨hb, slu, rfl, hown, hnew⟩ := GetPost.one hG
    obtain ⟨huw, huf⟩ := getU_ok b
    have HUw := Lib.hid huw
    have Hzu := Lib.hid (sc_size (s := getU b) (sl := slu) huw.g.s8 huw.t8)
    have HOu := Lib.hid (sc_oneW (s := getU b) hown.shotsIn.w)
    have Hspu : Hid (splice zC 0 (Value.cells (.agg (stateC (getU b) slu))).toList = stateC (getU b) slu) := Lib.hid (splice_all _ _ (by rw [zC_size]; exact Hzu.out.symm))
    have HSm := Lib.hid (fun (sl' : Value) (w : World) (h : ShotsW w slu (getU b).g.L) (h' : ShotsW w sl' (getU b).g.L) => rsameS (getU b) (getU b) slu sl' w huw huw h h' huf huf)
    replace H := H.addRow slu _ hown hb hnew
    clear hb hG hown hnew huw huf HVx
    obtain ⟨K, hK⟩ : ∃ K, getK b = K := ⟨_, rfl⟩
    rw [hK]
    have HK := Lib.hid hK
    clear hK
    obtain ⟨Cu, hCu⟩ : ∃ Cu, stateC (getU b) slu = Cu := ⟨_, rfl⟩
    rw [hCu] at Hzu HOu Hspu HSm ⊢
    clear hCu
    go_upto_region 10 with (first | (refine wb_alloc H rfl 35 rfl _ Try.zeroValue35 ?_; clear H; intro bt w5 H; replace H : Sb [] w0 w5 [(bt, zC, 35), (b1, cs, 35)] [(slu, (getU b).g.L)] := H) | (refine wb_put H rfl 0 35 _ _ rfl _ 0 rfl _ _ rfl (.agg Cu) rfl 76 info35 Hzu.out (Nat.le_of_ble_eq_true rfl) HOu.out _ Hspu.out ?_; clear H; intro w5 H))
    replace H : Sb [] w0 w5 [(bt, Cu, 35), (b1, cs, 35)] [(slu, (getU b).g.L)] := H
    have hcv := convB (HV.out.later H.below)
    go_wp2_with fail
    refine (rget_any b _ (by have := Hbl.out; unfold maxLen; omega)).mono ?_
    rintro e w6 hG
    obtain ⟨hb, slv, rfl, hown, hnew⟩ := GetPost.one hG
    have Hzv := Lib.hid (sc_size (s := getU b) (sl := slv) HUw.out.g.s8 HUw.out.t8)
    have HOv := Lib.hid (sc_oneW (s := getU b) hown.shotsIn.w)
    have Hspv : Hid (splice zC 0 (Value.cells (.agg (stateC (getU b) slv))).toList = stateC (getU b) slv) := Lib.hid (splice_all _ _ (by rw [zC_size]; exact Hzv.out.symm))
    have HSm2 := Lib.hid (fun w h h' => HSm.out slv w h h')
    replace H := H.addRow slv _ hown hb hnew
    clear hb hG hown hnew hcv
    obtain ⟨Cv, hCv⟩ : ∃ Cv, stateC (getU b) slv = Cv := ⟨_, rfl⟩
    rw [hCv] at Hzv HOv Hspv HSm2 ⊢
    rw [HK.out]
    clear hCv HSm HUw
    go_upto_region 11 with (first | (refine wb_alloc H rfl 35 rfl _ Try.zeroValue35 ?_; clear H; intro bu w7 H; replace H : Sb [] w0 w7 [(bu, zC, 35), (bt, Cu, 35), (b1, cs, 35)] [(slv, (getU b).g.L), (slu, (getU b).g.L)] := H) | (refine wb_put H rfl 0 35 _ _ rfl _ 0 rfl _ _ rfl (.agg Cv) rfl 76 info35 Hzv.out (Nat.le_of_ble_eq_true rfl) HOv.out _ Hspv.out ?_; clear H; intro w7 H))
    replace H : Sb [] w0 w7 [(bu, Cv, 35), (bt, Cu, 35), (b1, cs, 35)] [(slv, (getU b).g.L), (slu, (getU b).g.L)] := H
    obtain ⟨g, o, hrg, hcv⟩ := (HV.out.later H.below).range
    have Hrg := Lib.hid hrg
    have Hcv := Lib.hid hcv
    clear hrg hcv
    have Hseed : Hid (seed (strB b).data.toList = seed b) := Lib.hid rfl
    have Hsl : Hid ((strB b).size ≤ maxLen) := Lib.hid (by have := Hbl.out; show b.length ≤ maxLen; unfold maxLen; omega)
    have HSd := Lib.hid (fun w => rseed_any (strB b) w Hsl.out)
    rw [Hseed.out] at HSd
    obtain ⟨D, hD⟩ : ∃ D, seed b = D := ⟨_, rfl⟩
    have HSum := Lib.hid (fun w h => sum_any (.slice ad b.length c) b w h)
    obtain ⟨sb, hsb⟩ : ∃ sb, strB b = sb := ⟨_, rfl⟩
    obtain ⟨E, hE⟩ : ∃ E, sumF s = E := ⟨_, rfl⟩
    rw [hD] at HSd HSum
    rw [hsb] at Hcv HSd
    rw [hE] at HO HS
    clear hD hsb Hseed Hsl hE
    have HD : Sb [] w0 ({ w7 with drawn := w7.drawn + 1 } : World) _ _ := H.call ((Below.refl _ w7).drew)
    have hf0 : ({ w7 with drawn := w7.drawn + 1 } : World).rangeAt bt 0 Cu.toList := range_own HD (List.mem_cons_of_mem _ (List.mem_cons_self ..))
    have hf1 : ({ w7 with drawn := w7.drawn + 1 } : World).rangeAt bu 0 Cv.toList := range_own HD (List.mem_cons_self ..)
    have hf2 : ({ w7 with drawn := w7.drawn + 1 } : World).rangeAt b1 0 cs.toList := range_own HD (List.mem_cons_of_mem _ (List.mem_cons_of_mem _ (List.mem_cons_self ..)))
    have hf3 : ({ w7 with drawn := w7.drawn + 1 } : World).rangeAt b1 0 cs.toList := range_own HD (List.mem_cons_of_mem _ (List.mem_cons_of_mem _ (List.mem_cons_self ..)))
    have hf4 : ({ w7 with drawn := w7.drawn + 1 } : World).rangeAt g o (vb b) := fun j v hv => Hrg.out j v hv
    obtain ⟨T, hT⟩ : ∃ T, rowF bt 0 Cu.toList 9 ++ rowF bu 0 Cv.toList 9 ++ rowF b1 0 cs.toList 21 ++ rowF b1 0 cs.toList 23 ++ rowF g o (vb b) 16 = T := ⟨_, rfl⟩
    have HTd : Hid (∀ t ∈ T, t.2.2 = 9 ∨ t.2.2 = 16 ∨ t.2.2 = 21 ∨ t.2.2 = 23) := Lib.hid (fun t ht => by
      rw [← hT] at ht
      simp only [List.mem_append] at ht
      rcases ht with (((h | h) | h) | h) | h
      · have := rowF_d t h; omega
      · have := rowF_d t h; omega
      · have := rowF_d t h; omega
      · have := rowF_d t h; omega
      · have := rowF_d t h; omega)
    have HTk : ∀ k, 9 ≠ k → 16 ≠ k → 21 ≠ k → 23 ≠ k → ∀ t ∈ T, t.2.2 ≠ k := fun k h0 h1 h2 h3 t ht => by have := HTd.out t ht; omega
    have HM0 : ∀ j v, (Cu.toList)[j]? = some v → ((⟨bt, 0 + j, none⟩ : Addr), v, 9) ∈ T := fun j v hv => by rw [← hT]; simp only [List.mem_append]; exact .inl (.inl (.inl (.inl ( (mem_rowF hv)))))
    have HM1 : ∀ j v, (Cv.toList)[j]? = some v → ((⟨bu, 0 + j, none⟩ : Addr), v, 9) ∈ T := fun j v hv => by rw [← hT]; simp only [List.mem_append]; exact .inl (.inl (.inl (.inr ( (mem_rowF hv)))))
    have HM2 : ∀ j v, (cs.toList)[j]? = some v → ((⟨b1, 0 + j, none⟩ : Addr), v, 21) ∈ T := fun j v hv => by rw [← hT]; simp only [List.mem_append]; exact .inl (.inl (.inr ( (mem_rowF hv))))
    have HM3 : ∀ j v, (cs.toList)[j]? = some v → ((⟨b1, 0 + j, none⟩ : Addr), v, 23) ∈ T := fun j v hv => by rw [← hT]; simp only [List.mem_append]; exact .inl (.inr ( (mem_rowF hv)))
    have HM4 : ∀ j v, ((vb b))[j]? = some v → ((⟨g, o + j, none⟩ : Addr), v, 16) ∈ T := fun j v hv => by rw [← hT]; simp only [List.mem_append]; exact .inr ( (mem_rowF hv))
    refine Gs_start (T := T) (n := 27) (by kernel_rfl) rfl ?_ ?_
    · intro t ht _
      rw [← hT] at ht
      simp only [List.mem_append] at ht
      rcases ht with (((h | h) | h) | h) | h
      · exact rowF_holds hf0 t h
      · exact rowF_holds hf1 t h
      · exact rowF_holds hf2 t h
      · exact rowF_holds hf3 t h
      · exact rowF_holds hf4 t h
    clear hf0 hf1 hf2 hf3 hf4
    clear hT
    replace H := HD
    clear HD
    generalize ({ w7 with drawn := w7.drawn + 1 } : World) = w1 at *
    refine Gv_callB 0 rfl (by kernel_rfl) (some 55) rfl rfl 15 #[] (by go_simp) (HT.out _) ?_
    rintro e w8 ⟨rfl, hb⟩
    refine ⟨_, rfl, hb, ?_⟩
    replace H := H.call hb
    clear hb
    simp only [Act.put, List.setIfInBounds_toArray, List.set_cons_succ, List.set_cons_zero]
    refine Gv_val 1 rfl (by kernel_rfl) (some 56) rfl rfl (.bool true) (by go_simp) ?_
    simp only [Act.put, List.setIfInBounds_toArray, List.set_cons_succ, List.set_cons_zero]
    refine Gv_move 2 (fun d _ _ _ _ h => by cases d <;> exact h) (by kernel_rfl) rfl _ rfl rfl (some 57) rfl (by kernel_rfl) (by kernel_rfl) (HTk 2 (by decide) (by decide) (by decide) (by decide)) (.int .i64 K) rfl ?_
    simp only [Act.put, List.setIfInBounds_toArray, List.set_cons_succ, List.set_cons_zero]
    refine Gv_move 3 (fun d _ _ _ _ h => by cases d <;> exact h) (by kernel_rfl) rfl _ rfl rfl (some 58) rfl (by kernel_rfl) (by kernel_rfl) (HTk 3 (by decide) (by decide) (by decide) (by decide)) (.int .i64 K) rfl ?_
    simp only [Act.put, List.setIfInBounds_toArray, List.set_cons_succ, List.set_cons_zero]
    refine Gv_val 4 rfl (by kernel_rfl) (some 59) rfl rfl (.bool true) (by go_simp) ?_
    simp only [Act.put, List.setIfInBounds_toArray, List.set_cons_succ, List.set_cons_zero]
    refine Gv_val 5 rfl (by kernel_rfl) (some 60) rfl rfl (.bool true) (by go_simp) ?_
    simp only [Act.put, List.setIfInBounds_toArray, List.set_cons_succ, List.set_cons_zero]
    refine Gv_val 6 rfl (by kernel_rfl) (some 61) rfl rfl (.bool true) (by go_simp) ?_
    simp only [Act.put, List.setIfInBounds_toArray, List.set_cons_succ, List.set_cons_zero]
    refine Gv_loadRow 7 9 (fun d _ _ _ _ h => by cases d <;> exact h) (by kernel_rfl) rfl _ _ rfl rfl (some 62) rfl (by kernel_rfl) (by kernel_rfl) (HTk 7 (by decide) (by decide) (by decide) (by decide)) bt 0 rfl Cu.toList HM0 (by kernel_rfl) _ Try.underlying35 rfl (by rw [Array.length_toList, Hzu.out]; exact info35) ?_
    rw [Array.toArray_toList]
    simp only [Act.put, List.setIfInBounds_toArray, List.set_cons_succ, List.set_cons_zero]
    refine Gv_loadRow 8 9 (fun d _ _ _ _ h => by cases d <;> exact h) (by kernel_rfl) rfl _ _ rfl rfl (some 63) rfl (by kernel_rfl) (by kernel_rfl) (HTk 8 (by decide) (by decide) (by decide) (by decide)) bu 0 rfl Cv.toList HM1 (by kernel_rfl) _ Try.underlying35 rfl (by rw [Array.length_toList, Hzv.out]; exact info35) ?_
    rw [Array.toArray_toList]
    simp only [Act.put, List.setIfInBounds_toArray, List.set_cons_succ, List.set_cons_zero]
    refine Gv_callB 9 rfl (by kernel_rfl) (some 64) rfl rfl 21 #[.agg Cu, .agg Cv] (by go_simp) (HSm2.out _ (H.rows _ (List.mem_cons_of_mem _ (List.mem_cons_self ..))).shotsIn.w (H.rows _ (List.mem_cons_self ..)).shotsIn.w) ?_
    rintro e w9 ⟨⟨r, rfl, hi⟩, hb⟩
    have hr1 : r = true := hi.2 trivial
    subst hr1
    refine ⟨_, rfl, hb, ?_⟩
    replace H := H.call hb
    clear hb hi
    simp only [Act.put, List.setIfInBounds_toArray, List.set_cons_succ, List.set_cons_zero]
    refine Gv_val 10 rfl (by kernel_rfl) (some 65) rfl rfl (.bool true) (by go_simp) ?_
    simp only [Act.put, List.setIfInBounds_toArray, List.set_cons_succ, List.set_cons_zero]
    refine Gv_val 11 rfl (by kernel_rfl) (some 66) rfl rfl (.bool true) (by go_simp) ?_
    simp only [Act.put, List.setIfInBounds_toArray, List.set_cons_succ, List.set_cons_zero]
    refine Gv_move 12 (fun d _ _ _ _ h => by cases d <;> exact h) (by kernel_rfl) rfl _ rfl rfl (some 67) rfl (by kernel_rfl) (by kernel_rfl) (HTk 12 (by decide) (by decide) (by decide) (by decide)) (.slice ad b.length c) rfl ?_
    simp only [Act.put, List.setIfInBounds_toArray, List.set_cons_succ, List.set_cons_zero]
    refine Gv_move 14 (fun d _ _ _ _ h => by cases d <;> exact h) (by kernel_rfl) rfl _ rfl rfl (some 69) rfl (by kernel_rfl) (by kernel_rfl) (HTk 14 (by decide) (by decide) (by decide) (by decide)) (.slice ad b.length c) rfl ?_
    simp only [Act.put, List.setIfInBounds_toArray, List.set_cons_succ, List.set_cons_zero]
    refine Gv_row 15 16 (fun d _ _ _ _ h => by cases d <;> exact h) (by kernel_rfl) rfl rfl (some 70) rfl (by kernel_rfl) (by kernel_rfl) (HTk 15 (by decide) (by decide) (by decide) (by decide)) _ _ _ HM4 (by kernel_rfl) (.string sb) (fun w hw => ex_conv _ rfl (.slice ad b.length c) (.string sb) rfl w (Hcv.out w hw)) ?_
    simp only [Act.put, List.setIfInBounds_toArray, List.set_cons_succ, List.set_cons_zero]
    refine Gv_call 13 rfl (by kernel_rfl) (some 68) rfl rfl 22 #[.slice ad b.length c] (by go_simp) (.int .u64 D) (HSum.out _ (HV.out.later H.below)) ?_
    simp only [Act.put, List.setIfInBounds_toArray, List.set_cons_succ, List.set_cons_zero]
    refine Gv_call 16 rfl (by kernel_rfl) (some 71) rfl rfl 23 #[.string sb] (by go_simp) (.int .u64 D) (HSd.out _) ?_
    simp only [Act.put, List.setIfInBounds_toArray, List.set_cons_succ, List.set_cons_zero]
    refine Gv_val 17 rfl (by kernel_rfl) (some 72) rfl rfl (.bool true) (by go_simp) ?_
    simp only [Act.put, List.setIfInBounds_toArray, List.set_cons_succ, List.set_cons_zero]
    refine Gv_val 18 rfl (by kernel_rfl) (some 73) rfl rfl (.bool true) (by go_simp) ?_
    simp only [Act.put, List.setIfInBounds_toArray, List.set_cons_succ, List.set_cons_zero]
    refine Gv_val 19 rfl (by kernel_rfl) (some 74) rfl rfl (.bool true) (by go_simp) ?_
    simp only [Act.put, List.setIfInBounds_toArray, List.set_cons_succ, List.set_cons_zero]
    refine Gv_loadRow 20 21 (fun d _ _ _ _ h => by cases d <;> exact h) (by kernel_rfl) rfl _ _ rfl rfl (some 75) rfl (by kernel_rfl) (by kernel_rfl) (HTk 20 (by decide) (by decide) (by decide) (by decide)) b1 0 rfl cs.toList HM2 (by kernel_rfl) _ Try.underlying35 rfl (by rw [Array.length_toList, Hz.out]; exact info35) ?_
    rw [Array.toArray_toList]
    simp only [Act.put, List.setIfInBounds_toArray, List.set_cons_succ, List.set_cons_zero]
    refine Gv_loadRow 22 23 (fun d _ _ _ _ h => by cases d <;> exact h) (by kernel_rfl) rfl _ _ rfl rfl (some 77) rfl (by kernel_rfl) (by kernel_rfl) (HTk 22 (by decide) (by decide) (by decide) (by decide)) b1 0 rfl cs.toList HM3 (by kernel_rfl) _ Try.underlying35 rfl (by rw [Array.length_toList, Hz.out]; exact info35) ?_
    rw [Array.toArray_toList]
    simp only [Act.put, List.setIfInBounds_toArray, List.set_cons_succ, List.set_cons_zero]
    refine Gv_callB 21 rfl (by kernel_rfl) (some 76) rfl rfl 24 #[.agg cs] (by go_simp) (HO.out _ (HI.out.later H.below)) ?_
    rintro e w10 ⟨rfl, hb⟩
    refine ⟨_, rfl, hb, ?_⟩
    replace H := H.call hb
    clear hb
    simp only [Act.put, List.setIfInBounds_toArray, List.set_cons_succ, List.set_cons_zero]
    refine Gv_callB 23 rfl (by kernel_rfl) (some 78) rfl rfl 25 #[.agg cs] (by go_simp) (HS.out _ (HI.out.later H.below)) ?_
    rintro e w11 ⟨rfl, hb⟩
    refine ⟨_, rfl, hb, ?_⟩
    replace H := H.call hb
    clear hb
    simp only [Act.put, List.setIfInBounds_toArray, List.set_cons_succ, List.set_cons_zero]
    refine Gv_val 24 rfl (by kernel_rfl) (some 79) rfl rfl (.bool true) (by go_simp) ?_
    simp only [Act.put, List.setIfInBounds_toArray, List.set_cons_succ, List.set_cons_zero]
    refine Gs_end 25 (by kernel_rfl) (fun t ht => by rcases HTd.out t ht with h | h | h | h <;> rw [h] <;> rfl) (by kernel_rfl) rfl ?_
    simp only [List.drop_succ_cons, List.drop_zero]
    go_wp2_with fail
    go_ret
    exact ⟨by first | rfl | simp, H.below⟩
end Go.Proofs.Ytijnfeigoggaeaa.game
