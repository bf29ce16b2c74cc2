/- ImageBack's walk: a state comes back from its bytes; cut off, or with a byte behind, it does not; what is turned is another one, or none. -/
import Derived.Test.YtijnfeigoggaeaaRj
import Derived.Test.YtijnfeigoggaeaaLw
namespace Go.Proofs.Ytijnfeigoggaeaa.game
open Go.ChangeShapes Go.WideShapes Go.ChangeAt Go.RowKit dice
set_option maxRecDepth 100000

theorem getF_more {s : Ste} (hf : s.fits) (c : UInt8) : getF (img s ++ [c]) = none := by
  unfold getF
  rw [parse_put false s [c] hf]
  have : (img s == img s ++ [c]) = false := by
    rw [beq_eq_false_iff_ne]
    intro e
    have := congrArg List.length e
    simp at this
  simp [this]
theorem getF_cut {s : Ste} (hf : s.fits) {k : Nat} (hk : k < (img s).length) : getF ((img s).take k) = none := by
  cases h : getF ((img s).take k) with
  | none => rfl
  | some u =>
    obtain ⟨hu, _, e⟩ := getF_some h
    have := (img_head hf hu (r := (img s).drop k) (by rw [e, List.take_append_drop])).2
    have hl := congrArg List.length this
    rw [List.length_drop] at hl
    simp at hl
    omega
theorem set_xor_zero {b : List UInt8} {k : Nat} {x : UInt8} (h : b[k]? = some x) : b.set k (x ^^^ 0) = b := by
  rw [UInt8.xor_zero]
  exact set_self h
theorem set_xor_ne {b : List UInt8} {k : Nat} {x c : UInt8} (h : b[k]? = some x) (hc : c ≠ 0) : b.set k (x ^^^ c) ≠ b := by
  intro e
  have hk := (List.getElem?_eq_some_iff.1 h).1
  have e1 : (b.set k (x ^^^ c))[k]? = some (x ^^^ c) := List.getElem?_set_self hk
  rw [e, h] at e1
  have e2 : x = x ^^^ c := Option.some.inj e1
  have e3 : x.toNat = x.toNat ^^^ c.toNat := by
    have := congrArg UInt8.toNat e2
    rwa [UInt8.toNat_xor] at this
  have e4 : c.toNat = 0 := by
    have : x.toNat ^^^ x.toNat = x.toNat ^^^ (x.toNat ^^^ c.toNat) := congrArg (x.toNat ^^^ ·) e3
    rw [Nat.xor_self, ← Nat.xor_assoc, Nat.xor_self, Nat.zero_xor] at this
    exact this.symm
  exact hc (UInt8.toNat_inj.1 e4)
theorem info5w : ∃ i, Try.prog.info? 5 = some i ∧ i.zero = some (.int .u8 0) ∧ i.size = 1 ∧ i.bytes = 1 := by
  have := info5b
  cases hq : Try.prog.info? 5 with
  | none => simp [hq] at this
  | some i => simp [hq] at this; exact ⟨i, rfl, this.1, this.2.1, this.2.2⟩
section
variable {ops : Array Oper} {rest : List Oper} {op : Oper} {a : Act} {Q : Exit → Act → World → Prop}
/-- append([]byte{}, b...). -/
theorem wl_copy (s x : Operand) (ho : op.op = .call { callee := .builtin .append, args := #[s, x], argTypes := #[36, 36] }) (hgd : op.guard = none) (w : World) (v : Value) (b : List UInt8) (hb : Bs w v b) (h0 : 0 < b.length) (hl : b.length ≤ 100000)
    (hs : a.eval s = .slice (some ⟨w.heap.size, 0, none⟩) 0 0) (hx : a.eval x = v)
    (h : ∀ g cap w2, w2.ownsRow w.heap.size 5 1 (.slice (some ⟨g, 0, none⟩) b.length cap) b.length (vb b) → Below w.heap.size w w2 → wpList Try.prog ops Q rest (a.put op.dst (.slice (some ⟨g, 0, none⟩) b.length cap)) w2) :
    wpList Try.prog ops Q (op :: rest) a (w.alloc (.cells #[] 5)) := by
  obtain ⟨i5, hi, hz, hsz, hby⟩ := info5w
  have hb' := hb.later ((Below.refl w.heap.size w).alloc (Nat.le_refl _) (.cells #[] 5))
  obtain ⟨ad, c, rfl, h1, h2, h3⟩ := hb'
  obtain ⟨g0, o0, rfl, hg0, hc⟩ : ∃ g o, ad = some ⟨g, o, none⟩ ∧ g < (w.alloc (.cells #[] 5)).heap.size ∧ ∀ j u, (vb b)[j]? = some u → (w.alloc (.cells #[] 5)).cell? ⟨g, o + j, none⟩ = some u := by
    rcases h3 with rfl | h
    · simp at h0
    · exact h
  have hr : (w.alloc (.cells #[] 5)).ownsRow w.heap.size 5 1 (.slice (some ⟨w.heap.size, 0, none⟩) 0 0) 0 [] := World.ownsRow_made w #[] 0 (Nat.le_refl _) (Nat.zero_le _) rfl
  refine wpList_append_own_at (P := Try.prog) _ hgd s x 36 ho w.heap.size 5 i5 (.int .u8 0) 1 1 Try.underlying36 hi hz hsz hby rfl (by decide) _ 0 [] hs hr ⟨g0, o0, none⟩ b.length c (vb b) hx (by rw [length_vb]; omega) (fun j u hu => ?_) (vb_one b) (by unfold maxLen; omega) (by omega) (by simp) ?_
  · have a1 : (⟨g0, o0, none⟩ : Addr).add j = ⟨g0, o0 + j, none⟩ := by unfold Addr.add; split <;> simp_all
    rw [a1]
    exact hc j u hu
  · intro v' w' hown hgrow hnil hat
    rw [Nat.zero_add, List.nil_append] at hown
    rcases hown.2 with ⟨rfl, hn⟩ | ⟨g, cap, cur, hv, hbg, r⟩
    · omega
    · subst hv
      refine h g cap w' hown ?_
      refine ⟨hgrow.os, hgrow.tape, hgrow.output, Nat.le_trans (by simp) hgrow.size, fun k hk => ?_⟩
      rw [hgrow.block k (by simp; omega) (by simp [Value.ownBlock]; omega)]
      exact Below.heap_alloc w _ k hk
theorem wb_oldLA {w0 w : World} {l : List Blk} {R : List RowS} (ty : TypeId) (x : Operand) (ho : op.op = .load ty x) (H : Sb [] w0 w l R) (hw : Region.wanted op (yielded ops a.tmps) = true) (g o : Nat) (hx : a.eval x = .pointer (some ⟨g, o, none⟩)) (vs : Array Value) (hg : g < w0.heap.size) (hvs : ∀ j v, vs.toList[j]? = some v → w0.cell? ⟨g, o + j, none⟩ = some v)
    (d : TypeDesc) (hu : Try.prog.underlying ty = some d) (hd : d.isRow = true) (n : Nat) (hi : (Try.prog.info? ty).map (·.size) = some n) (hn : vs.size = n)
    (h : wpList Try.prog ops Q rest (a.put op.dst (.agg vs)) w) : wpList Try.prog ops Q (op :: rest) a w :=
  BigFrame.wpList_want hw fun _ hK => wp_load_mid ty x ho g o hx vs.toList d (fun j v hv => (World.cell?_of_block (a := ⟨g, o + j, none⟩) (H.fr g hg (by simp))).trans (hvs j v hv)) hu hd (by rw [Array.length_toList, hn]; exact hi) (hK _ _ (by rw [Array.toArray_toList]; exact h))
theorem wl_push (s x : Operand) (ho : op.op = .call { callee := .builtin .append, args := #[s, x], argTypes := #[36, 36] }) (hgd : op.guard = none) (w2 : World) (B : Nat) (v : Value) (b : List UInt8) (hr : w2.ownsRow B 5 1 v b.length (vb b)) (hB : B ≤ w2.heap.size) (hl : b.length ≤ 100000) (c : UInt8) (hs : a.eval s = v) (hx : a.eval x = .slice (some ⟨w2.heap.size, 0, none⟩) 1 1)
    (h : ∀ v' w', Bs w' v' (b ++ [c]) → Below B w2 w' → wpList Try.prog ops Q rest (a.put op.dst v') w') :
    wpList Try.prog ops Q (op :: rest) a (w2.alloc (.cells #[.int .u8 (c.toNat : Int)] 5)) := by
  obtain ⟨i5, hi, hz, hsz, hby⟩ := info5w
  refine wpList_append_own_at (P := Try.prog) _ hgd s x 36 ho B 5 i5 (.int .u8 0) 1 1 Try.underlying36 hi hz hsz hby rfl (by decide) _ b.length (vb b) hs (hr.alloc _) ⟨w2.heap.size, 0, none⟩ 1 1 [.int .u8 (c.toNat : Int)] hx rfl (cell_one_new _ _ _) (fun u hu => by rw [List.mem_singleton] at hu; subst hu; rfl) (by unfold maxLen; omega) (by omega) (by simp; omega) ?_
  intro v' w' hown hgrow hnil hat
  refine h v' w' (Bs.of_row (base := B) (by rw [List.length_append, vb_append]; exact hown)) ?_
  refine ⟨hgrow.os, hgrow.tape, hgrow.output, Nat.le_trans (by simp) hgrow.size, fun k hk => ?_⟩
  rw [hgrow.block k (by simp; omega) (fun e => by have := (World.ownsRow.lt hr k e.symm).1; omega)]
  exact Below.heap_alloc w2 _ k (by omega)
end
/-- A byte of an own row is turned. -/
theorem row_set {w : World} {B g cap : Nat} {b : List UInt8} {k : Nat} {y : UInt8} (hr : w.ownsRow B 5 1 (.slice (some ⟨g, 0, none⟩) b.length cap) b.length (vb b)) (hk : k < b.length) : Bs (w.setCell ⟨g, k, none⟩ (.int .u8 (y.toNat : Int))) (.slice (some ⟨g, 0, none⟩) b.length cap) (b.set k y) := by
  rcases hr.2 with ⟨h, _⟩ | ⟨g', cap', cur, h, hb, hg, h1, h2, h3, h4⟩
  · cases h
  · injection h with e1 e2 e3
    injection e1 with e1
    injection e1 with e1
    subst e1 e3
    have hlt := (Array.getElem?_eq_some_iff.1 hg).1
    have hg2 : (w.setCell ⟨g, k, none⟩ (.int .u8 (y.toNat : Int))).heap[g]? = some (.cells (cur.setIfInBounds k (.int .u8 (y.toNat : Int))) 5 (0, 0)) := by
      unfold World.setCell
      simp only [Array.getElem?_modify]
      simp [hg]
    refine ⟨_, cap, by rw [List.length_set], by rw [List.length_set]; exact h1, h2, .inr ⟨g, 0, rfl, by simp [World.setCell]; exact hlt, fun j u hu => ?_⟩⟩
    rw [Nat.zero_add, cell_of_row _ g j _ 5 (0, 0) hg2]
    have hvs : vb (b.set k y) = (vb b).set k (.int .u8 (y.toNat : Int)) := by simp [vb, List.map_set]
    rw [hvs, ← h4, List.getElem?_set] at hu
    rw [Array.getElem?_setIfInBounds]
    by_cases e : k = j
    · subst e
      rw [if_pos rfl] at hu ⊢
      have hks : k < cur.size := by omega
      rw [if_pos hks]
      split at hu
      · exact hu
      · cases hu
    · rw [if_neg e] at hu ⊢
      rw [List.getElem?_take] at hu
      split at hu
      · simpa using hu
      · cases hu
theorem Ste.fits.wfS {s : Ste} (h : s.fits) : s.wf := by
  have a := h.v0
  have b := h.v1
  refine ⟨h.wf, w64 (by omega) (by omega), h.t8, fun q hq => ?_⟩
  have f := h.seats q hq
  have p0 := f.p0
  have p1 := f.p1
  have g0 := f.g0
  have g1 := f.g1
  exact ⟨w64 (by omega) (by omega), w64 (by omega) (by omega)⟩
theorem row_cell {w : World} {B g cap : Nat} {b : List UInt8} {k : Nat} {x : UInt8} (hr : w.ownsRow B 5 1 (.slice (some ⟨g, 0, none⟩) b.length cap) b.length (vb b)) (hx : b[k]? = some x) : w.cell? ⟨g, k, none⟩ = some (.int .u8 (x.toNat : Int)) ∧ w.frozen? ⟨g, k, none⟩ = false ∧ B ≤ g := by
  have hc := World.ownsRow.cells (g := g) hr rfl k (.int .u8 (x.toNat : Int)) (by simp [vb, hx])
  have a1 : (⟨g, 0, none⟩ : Addr).add k = ⟨g, k, none⟩ := by unfold Addr.add; split <;> simp_all
  rw [a1] at hc
  refine ⟨hc, ?_, (World.ownsRow.lt hr g rfl).1⟩
  rcases hr.2 with ⟨h, _⟩ | ⟨g', cap', cur, h, hb, hg, _⟩
  · cases h
  · injection h with e1 e2 e3
    injection e1 with e1
    injection e1 with e1
    subst e1
    simp [World.frozen?, hg]
theorem xor8 (x c : UInt8) : bits .xor .u8 (x.toNat : Int) (c.toNat : Int) = (((x ^^^ c).toNat : Nat) : Int) := by
  rw [u8_xor_nat _ _ x.toNat_lt c.toNat_lt, UInt8.toNat_xor]
theorem below_set {B : Nat} {a w : World} (h : Below B a w) {p : Addr} (hp : B ≤ p.block) (u : Value) : Below B a (w.setCell p u) :=
  ⟨h.os, h.tape, h.output, by simpa using h.size, fun k hk => (Below.heap_setCell w p u k (by omega)).trans (h.block k hk)⟩
set_option maxHeartbeats 8000000 in
theorem backWalk (s : Ste) (sl : Value) (a1 : Int) (c : UInt8) (w0 : World) (hs : s.wf) (hin : ShotsW w0 sl s.g.L) :
    Calls Try.prog 4 #[.agg (stateC s sl), .int .i64 a1, .int .u8 (c.toNat : Int)] w0 fun e w' => e = .returned (.bool true) ∧ Below w0.heap.size w0 w' := by
  have H := Sb.start w0
  have hg := hs.g
  have t8 := hs.t8
  have Hz := Lib.hid (sc_size (sl := sl) hg.s8 t8)
  have HI := Lib.hid hin
  have HT := Lib.hid toldI
  cases hm : mayS s with
  | false =>
    have HP := Lib.hid (fun w h => put_no s sl w hg t8 h hm)
    clear hg t8 hin hm hs
    generalize stateC s sl = cs at *
    go_enter Try.func4, Try.ntmps4
    go_wp2_with (first | (refine wb_box H rfl 35 _ rfl cs rfl ?_; clear H; intro b1 w H) | (refine wb_whole H rfl 0 35 _ rfl _ rfl cs rfl _ Try.underlying35 rfl 76 info35 Hz.out ?_))
    refine (HP.out _ (HI.out.later H.below)).mono ?_; rintro e w' ⟨rfl, hb⟩
    replace H := H.call hb
    clear hb
    go_wp2_with fail
    refine (HT.out _).mono ?_; rintro e w' ⟨rfl, hb⟩
    replace H := H.call hb
    clear hb
    go_wp2_with fail
    go_ret
    exact ⟨rfl, H.below⟩
  | true =>
    have HP := Lib.hid (fun w h => put_ok s sl w hg t8 h hm)
    have hfit := mayS_fits hg t8 hm
    have HF := Lib.hid hfit
    have HM := Lib.hid hm
    have HS := Lib.hid hs
    have hok := (Gme.may_ok hg.s8).1 (by unfold mayS at hm; simp only [Bool.and_eq_true] at hm; exact hm.1.1)
    have hlen := img_len s hg.s8 t8
    have hon : onN s.g.S ≤ 8 := by rw [← hg.s8]; exact onN_le _
    have hmost := hok.most
    have hpos : 0 < (img s).length := by omega
    have hle : (img s).length ≤ 800 := by omega
    have Hmost := Lib.hid hmost
    clear hlen hon hmost hok
    clear hg t8 hin hm hs hfit
    obtain ⟨n, hn⟩ : ∃ n, (img s).length = n := ⟨_, rfl⟩
    have hn0 : 0 < n := by omega
    have hn8 : n ≤ 800 := by omega
    have Hn := Lib.hid hn
    have Hpos := Lib.hid hpos
    have Hle := Lib.hid (show (img s).length ≤ 100000 by omega)
    clear hn hpos hle
    go_enter Try.func4, Try.ntmps4
    go_wp2_with (first | (refine wb_box H rfl 35 _ rfl (stateC s sl) rfl ?_; clear H; intro b1 w H) | (refine wb_whole H rfl 0 35 _ rfl _ rfl (stateC s sl) rfl _ Try.underlying35 rfl 76 info35 Hz.out ?_))
    refine (HP.out _ (HI.out.later H.below)).mono ?_; rintro e w' ⟨v, rfl, hr, hb⟩
    replace H := H.call hb
    obtain ⟨gv, cv, hv, hgv, hlv⟩ : ∃ gv cv, v = .slice (some ⟨gv, 0, none⟩) n cv ∧ n ≤ cv ∧ cv ≤ maxLen := by
      rcases hr.2 with ⟨_, h0⟩ | ⟨gv, cv, cur, hv, _, _, h1, h2, _⟩
      · have := Hpos.out; omega
      · exact ⟨gv, cv, by rw [hv, Hn.out], by rw [← Hn.out]; exact h1, h2⟩
    subst hv
    have HV := Lib.hid (Bs.of_row hr)
    clear hb hr
    have hlv' : cv ≤ 9223372036854775807 := by unfold maxLen at hlv; omega
    have Hlv := Lib.hid hlv
    clear hlv
    go_wp2_with fail
    refine (get_any _ _ _ HV.out).mono ?_
    rintro e w' ⟨hb, hG⟩
    rw [getF_img HF.out HM.out] at hG
    obtain ⟨sl2, rfl, hown, _⟩ := hG
    have HB0 := Lib.hid (H.call hb).below
    have Hb1 : Hid (b1 < w'.heap.size ∧ ∀ j v, (stateC s sl).toList[j]? = some v → w'.cell? ⟨b1, 0 + j, none⟩ = some v) := Lib.hid ⟨(H.call hb).lt _ (List.mem_cons_self ..), fun j v h => by
      rw [Nat.zero_add, cell_of_row w' b1 j _ 35 (0, 0) ((H.call hb).holds _ (List.mem_cons_self ..)), ← Array.getElem?_toList]
      exact h⟩
    have HV2 := Lib.hid (HV.out.later hb)
    have HIn2 := Lib.hid hown.shotsIn
    have HO2 := Lib.hid (sc_one (s := s) hown.shotsIn)
    clear hb hown HV H
    have H := Sb.start w'
    have Hz2 := Lib.hid (sc_size (s := s) (sl := sl2) HS.out.g.s8 HS.out.t8)
    have Hspl2 : Hid (splice zC 0 (Value.cells (.agg (stateC s sl2))).toList = stateC s sl2) := Lib.hid (splice_all _ _ (by rw [zC_size]; exact Hz2.out.symm))
    go_upto_region 6 with (first | (refine wb_alloc H rfl 35 rfl _ Try.zeroValue35 ?_; clear H; intro b9 w H; replace H : Sb [] w' w [(b9, zC, 35)] [] := H) | (refine wb_put H rfl 0 35 _ _ rfl _ 0 rfl _ _ rfl (.agg (stateC s sl2)) rfl 76 info35 Hz2.out (Nat.le_of_ble_eq_true rfl) HO2.out _ Hspl2.out ?_; clear H; intro w H))
    replace H : Sb [] w' w [(b9, stateC s sl2, 35)] [] := H
    obtain ⟨kn, hkn, hkn8⟩ : ∃ kn : Nat, wrap64 ((IntKind.u64.wrap a1).tmod ((n : Int) + 1)) = kn ∧ kn ≤ n := by
      have h0 := (u64w_bd a1).1
      have h1 : (IntKind.u64.wrap a1).tmod ((n : Int) + 1) = (IntKind.u64.wrap a1) % ((n : Int) + 1) := Int.tmod_eq_emod_of_nonneg h0
      generalize IntKind.u64.wrap a1 = z at *
      have h2 : 0 ≤ z % ((n : Int) + 1) := Int.emod_nonneg _ (by omega)
      have h3 : z % ((n : Int) + 1) < (n : Int) + 1 := Int.emod_lt_of_pos _ (by omega)
      refine ⟨(z % ((n : Int) + 1)).toNat, ?_, by omega⟩
      rw [h1]
      generalize z % ((n : Int) + 1) = y at *
      unfold wrap64
      omega
    rw [hkn]
    have hkn' : (kn : Int) ≤ 800 := by omega
    clear hkn
    have HVw := Lib.hid (HV2.out.later H.below)
    go_wp2_with (first | (at_builtin; refine wl_copy _ _ rfl rfl w _ (img s) HVw.out Hpos.out Hle.out rfl rfl ?_; intro g cap w2 hrow hbel; have HR := Lib.hid hrow; have HBe := Lib.hid hbel; clear hrow hbel) | (at_builtin; refine wl_push _ _ rfl rfl w2 w.heap.size _ (img s) HR.out HBe.out.size Hle.out c rfl rfl ?_; intro v3 w3 hB3 hbel3; have HB3 := Lib.hid hB3; have HBe3 := Lib.hid (HBe.out.trans hbel3); clear hB3 hbel3))
    refine (get_any _ _ _ HB3.out).mono ?_
    rintro e w4 ⟨hb, hG⟩
    rw [getF_more HF.out c] at hG
    subst hG
    replace H := (H.call HBe3.out).call hb
    clear hb HB3 HBe3 HBe HR HVw
    have HSm1 := Lib.hid (fun (u : Ste) (sl' : Value) (w : World) (hu : u.wf) (h : ShotsW w sl s.g.L) (h' : ShotsW w sl' u.g.L) (hm' : u.g.L.length ≤ 1000) => rsameS s u sl sl' w HS.out hu h h' (by have := Hmost.out; omega) hm')
    have HI2 := Lib.hid (HI.out.later HB0.out)
    go_wp2_with (first | (refine wb_alloc H rfl 35 rfl _ Try.zeroValue35 ?_; clear H; intro b12 w5 H; replace H : Sb [] w' w5 [(b12, zC, 35), (b9, stateC s sl2, 35)] [] := H) | (refine wb_put H rfl 0 35 _ _ rfl _ 0 rfl _ _ rfl (.agg zC) rfl 76 info35 zC_size (Nat.le_of_ble_eq_true rfl) zC_one zC rfl ?_; clear H; intro w5 H) | (refine wb_oldLA 35 _ rfl H rfl b1 0 rfl (stateC s sl) Hb1.out.1 Hb1.out.2 _ Try.underlying35 rfl 76 info35 Hz.out ?_) | (refine wb_whole H rfl 1 35 _ rfl _ rfl (stateC s sl2) rfl _ Try.underlying35 rfl 76 info35 Hz2.out ?_))
    refine (HSm1.out s sl2 _ HS.out (HI2.out.later H.below) (HIn2.out.later H.below).w (by have := Hmost.out; omega)).mono ?_
    rintro e w6 ⟨⟨r, rfl, hi⟩, hb⟩
    have hr1 : r = true := hi.2 rfl
    subst hr1
    replace H := H.call hb
    clear hb hi
    by_cases hkn2 : kn = n
    · subst hkn2
      go_wp2_with fail
      refine (HT.out _).mono ?_; rintro e w7 ⟨rfl, hb⟩
      replace H := H.call hb
      clear hb
      go_wp2_with fail
      go_ret
      exact ⟨rfl, HB0.out.trans (H.below.mono HB0.out.size)⟩
    have hlt : kn < n := by omega
    have hlt' : ¬ (kn : Int) = (n : Int) := by omega
    obtain ⟨x, hx⟩ : ∃ x, (img s)[kn]? = some x := ⟨(img s)[kn]'(by rw [Hn.out]; exact hlt), List.getElem?_eq_getElem _⟩
    have Hx := Lib.hid hx
    have hlN : ((img s).take kn).length = kn := by rw [List.length_take, Hn.out]; omega
    have HlN := Lib.hid hlN
    have hcv : kn ≤ cv := by omega
    have Hcut := Lib.hid (getF_cut HF.out (k := kn) (by rw [Hn.out]; exact hlt))
    have HVc : Hid (∀ w, Bs w (.slice (some ⟨gv, 0, none⟩) n cv) (img s) → Bs w (.slice (some ⟨gv, 0, none⟩) kn cv) ((img s).take kn)) := Lib.hid (fun w h => by
      obtain ⟨ad, c', e, h1, h2, h3⟩ := h
      injection e with e1 e2 e3
      subst e1 e3
      refine ⟨_, cv, by rw [HlN.out], by rw [HlN.out]; exact hcv, h2, ?_⟩
      rcases h3 with h3 | ⟨g, o, h4, h5, h6⟩
      · have := Hpos.out
        rw [h3] at this
        simp at this
      · refine .inr ⟨g, o, h4, h5, fun j u hu => h6 j u ?_⟩
        have e : vb ((img s).take kn) = (vb (img s)).take kn := by simp [vb, List.map_take]
        rw [e, List.getElem?_take] at hu
        split at hu
        · exact hu
        · cases hu)
    clear hx hlN
    have Hlt := Lib.hid hlt
    have HVw6 := Lib.hid (HV2.out.later H.below)
    go_wp2_with fail
    refine (get_any _ _ _ (HVc.out _ HVw6.out)).mono ?_
    rintro e w7 ⟨hb, hG⟩
    rw [Hcut.out] at hG
    subst hG
    replace H := H.call hb
    clear hb HVw6 HVc
    go_upto_region 12 with (first | (refine wb_alloc H rfl 35 rfl _ Try.zeroValue35 ?_; clear H; intro b14 w8 H; replace H : Sb [] w' w8 [(b14, zC, 35), (b12, zC, 35), (b9, stateC s sl2, 35)] [] := H) | (refine wb_put H rfl 0 35 _ _ rfl _ 0 rfl _ _ rfl (.agg zC) rfl 76 info35 zC_size (Nat.le_of_ble_eq_true rfl) zC_one zC rfl ?_; clear H; intro w8 H))
    replace H : Sb [] w' w8 [(b14, zC, 35), (b12, zC, 35), (b9, stateC s sl2, 35)] [] := H
    have HVw8 := Lib.hid (HV2.out.later H.below)
    go_upto_region 13 with (at_builtin; refine wl_copy _ _ rfl rfl w8 _ (img s) HVw8.out Hpos.out Hle.out rfl rfl ?_; intro g cap w9 hrow hbel; have HR := Lib.hid hrow; have HBe := Lib.hid hbel; clear hrow hbel)
    rw [Hn.out]
    obtain ⟨cx, fx, hgB⟩ := row_cell HR.out Hx.out
    have HgB := Lib.hid hgB
    have hxor := xor8 x c
    have hltn : (kn : Int) < (n : Int) := by omega
    have HBx := Lib.hid (row_set (y := x ^^^ c) HR.out (show kn < (img s).length by rw [Hn.out]; exact hlt))
    rw [Hn.out] at HBx
    clear hgB
    go_wp2_with fail
    refine (get_any _ _ _ HBx.out).mono ?_
    rintro e w10 ⟨hb, hG⟩
    have HBe2 := Lib.hid (below_set HBe.out (p := ⟨g, kn, none⟩) HgB.out (.int .u8 ((x ^^^ c).toNat : Int)))
    replace H := (H.call HBe2.out).call hb
    have HBx2 := Lib.hid (HBx.out.later hb)
    clear hb HBe2 HBe HBx HR HVw8 cx fx hxor
    cases hG2 : getF ((img s).set kn (x ^^^ c)) with
    | none =>
      rw [hG2] at hG
      subst hG
      have hc : ¬ (c.toNat : Int) = 0 := fun e => by
        have e2 : c = 0 := UInt8.toNat_inj.1 (by simpa using e)
        subst e2
        rw [set_xor_zero Hx.out, getF_img HF.out HM.out] at hG2
        cases hG2
      clear hG2
      go_wp2_with (first | (refine wb_alloc H rfl 35 rfl _ Try.zeroValue35 ?_; clear H; intro b17 w11 H; replace H : Sb [] w' w11 [(b17, zC, 35), (b14, zC, 35), (b12, zC, 35), (b9, stateC s sl2, 35)] [] := H) | (refine wb_put H rfl 0 35 _ _ rfl _ 0 rfl _ _ rfl (.agg zC) rfl 76 info35 zC_size (Nat.le_of_ble_eq_true rfl) zC_one zC rfl ?_; clear H; intro w11 H))
      refine (HT.out _).mono ?_; rintro e w12 ⟨rfl, hb⟩
      replace H := H.call hb
      clear hb
      go_wp2_with fail
      go_ret
      exact ⟨by simp; omega, HB0.out.trans (H.below.mono HB0.out.size)⟩
    | some u =>
      rw [hG2] at hG
      obtain ⟨sl3, rfl, hown, _⟩ := hG
      obtain ⟨huf, hum, hue⟩ := getF_some hG2
      have HU := Lib.hid huf
      have HUm := Lib.hid hum
      have HUe := Lib.hid hue
      have HIn3 := Lib.hid hown.shotsIn
      have HO3 := Lib.hid (sc_one (s := u) hown.shotsIn)
      have Hz3 := Lib.hid (sc_size (s := u) (sl := sl3) huf.s8 huf.t8)
      have Hspl3 : Hid (splice zC 0 (Value.cells (.agg (stateC u sl3))).toList = stateC u sl3) := Lib.hid (splice_all _ _ (by rw [zC_size]; exact Hz3.out.symm))
      have Hfew3 := Lib.hid (show u.g.L.length ≤ 1000 by have := huf.few; omega)
      have HB10 := Lib.hid H.below
      have HIs10 := Lib.hid (HI2.out.later H.below)
      have Hb1' : Hid (b1 < w10.heap.size ∧ ∀ j v, (stateC s sl).toList[j]? = some v → w10.cell? ⟨b1, 0 + j, none⟩ = some v) := Lib.hid ⟨Nat.lt_of_lt_of_le Hb1.out.1 H.size, fun j v h => (World.cell?_of_block (a := ⟨b1, 0 + j, none⟩) (H.fr b1 Hb1.out.1 (by simp))).trans (Hb1.out.2 j v h)⟩
      clear hown huf hum hue hG2 H
      have H := Sb.start w10
      go_wp2_with (first | (refine wb_alloc H rfl 35 rfl _ Try.zeroValue35 ?_; clear H; intro b17 w11 H; replace H : Sb [] w10 w11 [(b17, zC, 35)] [] := H) | (refine wb_put H rfl 0 35 _ _ rfl _ 0 rfl _ _ rfl (.agg (stateC u sl3)) rfl 76 info35 Hz3.out (Nat.le_of_ble_eq_true rfl) HO3.out _ Hspl3.out ?_; clear H; intro w11 H) | (refine wb_whole H rfl 0 35 _ rfl _ rfl (stateC u sl3) rfl _ Try.underlying35 rfl 76 info35 Hz3.out ?_))
      refine (put_ok u sl3 _ HU.out.wf HU.out.t8 (HIn3.out.later H.below).w HUm.out).mono ?_; rintro e w12 ⟨y, rfl, hr, hb⟩
      replace H := H.call hb
      have HY := Lib.hid (Bs.of_row hr)
      clear hb hr
      go_wp2_with fail
      refine (HT.out _).mono ?_; rintro e w13 ⟨rfl, hb⟩
      replace H := H.call hb
      have hcy := convB (HY.out.later hb)
      have hcx := convB (HBx2.out.later H.below)
      rw [HUe.out] at hcy
      clear hb HY
      generalize strB ((img s).set kn (x ^^^ c)) = sb at *
      go_wp2_with (first | (refine wb_oldLA 35 _ rfl H rfl b1 0 rfl (stateC s sl) Hb1'.out.1 Hb1'.out.2 _ Try.underlying35 rfl 76 info35 Hz.out ?_) | (refine wb_whole H rfl 0 35 _ rfl _ rfl (stateC u sl3) rfl _ Try.underlying35 rfl 76 info35 Hz3.out ?_))
      refine (HSm1.out u sl3 _ HU.out.wfS (HIs10.out.later H.below) (HIn3.out.later H.below).w Hfew3.out).mono ?_
      rintro e w14 ⟨⟨r, rfl, hi⟩, hb⟩
      replace H := H.call hb
      clear hb
      by_cases hc : c = 0
      · have hsu : s = u := by
          have := HUe.out
          rw [hc, set_xor_zero Hx.out] at this
          exact (img_head HF.out HU.out (r := []) (by rw [this, List.append_nil])).1
        have hr1 : r = true := hi.2 hsu
        subst hr1
        clear hi hsu
        have hc' : (c.toNat : Int) = 0 := by rw [hc]; rfl
        clear hc
        go_wp2_with fail
        go_ret
        exact ⟨by simp, HB0.out.trans ((HB10.out.trans (H.below.mono HB10.out.size)).mono HB0.out.size)⟩
      · have hsu : s ≠ u := fun e => by
          have := HUe.out
          rw [← e] at this
          exact set_xor_ne Hx.out hc this.symm
        have hr1 : r = false := by
          cases r with
          | true => exact absurd (hi.1 rfl) hsu
          | false => rfl
        subst hr1
        clear hi hsu
        have hc' : ¬ (c.toNat : Int) = 0 := fun e => hc (UInt8.toNat_inj.1 (by simpa using e))
        clear hc
        go_wp2_with fail
        go_ret
        exact ⟨by simp; omega, HB0.out.trans ((HB10.out.trans (H.below.mono HB10.out.size)).mono HB0.out.size)⟩
end Go.Proofs.Ytijnfeigoggaeaa.game
