/- The reference's Start and NewRoster. package roster: Of, seat, Take, Give, Apply. package roster: Take, Give, Apply. A region that draws its order: guarded operations. A region that draws its order: facts by rows; a call and a fresh variable in either order. A region that draws its order: an operation that writes, alone ready, by the walk's own laws. -/
import Derived.Test.YtdopfonebpklkaaGreatFoldRuns09
import Derived.Deep.DeepCutAuto
import Derived.Test.YtdopfonebpklkaaGreatFoldRuns06
import Derived.Deep.MidRow
import Derived.Test.YtdopfonebpklkaaGreatFoldRuns08
namespace Go.Proofs.YtdopfonebpklkaaGreat.game
open Go.ChangeShapes Go.WideShapes Go.ChangeAt Go.RowKit dice
set_option maxRecDepth 100000

def nobody : List Seat := List.replicate 8 ⟨-1, 0⟩
def startS (D : Int) : Ste := ⟨⟨0, D, List.replicate 8 zShp, []⟩, 0, nobody⟩
theorem rc_putPeer (v : Int) (A E : List Seat) (z : Seat) (p : Int) (k : Nat) (hk : A.length = k) : splice (rosterC v (A ++ z :: E)) (1 + k * 2) [.int .i64 p] = rosterC v (A ++ ⟨p, z.gen⟩ :: E) := by
  have e : ∀ z : Seat, rosterC v (A ++ z :: E) = ((Value.int .i64 v :: seatsL A) ++ ([Value.int .i64 z.peer] ++ (.int .i64 z.gen :: seatsL E))).toArray := fun z => by
    simp [rosterC, seatsL_append, seatsL_cons, seatL]
  rw [e z, e ⟨p, z.gen⟩]
  exact splice_mid _ _ _ _ _ (by simp [length_seatsL, hk]; omega) rfl
theorem res33 {fn : Func} {p : Tmp} {tmps : Array Value} {w : World} {b : Nat} {cs : Array Value} (h : fn.results = #[.cell p 33]) (ha : tmps.getD p undef = .pointer (some ⟨b, 0, none⟩)) (hb : w.heap[b]? = some (.cells cs 33 (0, 0))) (hs : cs.size = 17) :
    (results fn tmps).run Tryz.prog w = .ok (.agg cs) w := by
  have hl : (loadVar 33 ⟨b, 0, none⟩).run Tryz.prog w = .ok (.agg cs) w := run_loadVar_row w b 33 33 cs (0, 0) _ hb Tryz.underlying33 rfl (by rw [hs]; exact info33)
  rw [Array.getD_eq_getD_getElem?] at ha
  simp only [results, h]
  simp [ha, asAddr, hl]
theorem res35 {fn : Func} {p : Tmp} {tmps : Array Value} {w : World} {b : Nat} {cs : Array Value} (h : fn.results = #[.cell p 35]) (ha : tmps.getD p undef = .pointer (some ⟨b, 0, none⟩)) (hb : w.heap[b]? = some (.cells cs 35 (0, 0))) (hs : cs.size = 76) :
    (results fn tmps).run Tryz.prog w = .ok (.agg cs) w := by
  rw [Array.getD_eq_getD_getElem?] at ha
  simp only [results, h]
  simp [ha, asAddr, lv35 w b cs hb hs]
set_option maxHeartbeats 2000000 in
theorem newRoster_any (w0 : World) : Calls Tryz.prog 69 #[] w0 fun e w' => e = .returned (.agg (rosterC 0 nobody)) ∧ Below w0.heap.size w0 w' := by
  have H := Sb.start w0
  go_enter Tryz.func69, Tryz.ntmps69
  go_wp2_with (first | (refine wb_alloc H rfl 33 rfl _ Tryz.zeroValue33 ?_; clear H; intro b w H))
  rename_i b0 w9 _ _
  have HB : Hid (Sb [] w0 w [(b, rosterC 0 (List.replicate 8 ⟨0, 0⟩), 33), (b0, rosterC 0 (List.replicate 8 ⟨0, 0⟩), 33)] []) := Lib.hid H
  clear H
  go_loopw [2] (fun i W => ∃ k : Nat, k ≤ 8 ∧ i = .int .i64 k ∧ Hid (Sb [] w0 W [(b, rosterC 0 (List.replicate k ⟨-1, 0⟩ ++ List.replicate (8 - k) ⟨0, 0⟩), 33), (b0, rosterC 0 (List.replicate 8 ⟨0, 0⟩), 33)] [])) (fun i _ => 8 - (intOf i).toNat)
  case atStart => exact ⟨0, Nat.zero_le _, rfl, HB⟩
  case round =>
    clear HB
    obtain ⟨k, hk, rfl, HB⟩ := hrel
    by_cases hlt : k < 8
    · have H := HB.out
      rw [rep_cons k hlt (⟨0, 0⟩ : Seat)] at H
      have G1 := Lib.hid (rc_putPeer 0 (List.replicate k ⟨-1, 0⟩) (List.replicate (8 - (k + 1)) ⟨0, 0⟩) ⟨0, 0⟩ (-1) k (by simp))
      have hft : 1 + k * 2 + 1 ≤ (rosterC 0 (List.replicate k ⟨-1, 0⟩ ++ ⟨0, 0⟩ :: List.replicate (8 - (k + 1)) ⟨0, 0⟩)).size := by rw [rc_size (by simp; omega)]; omega
      have e1 : List.replicate k (⟨-1, 0⟩ : Seat) ++ ⟨-1, 0⟩ :: List.replicate (8 - (k + 1)) ⟨0, 0⟩ = List.replicate (k + 1) ⟨-1, 0⟩ ++ List.replicate (8 - (k + 1)) ⟨0, 0⟩ := by
        rw [List.replicate_succ', List.append_assoc]; rfl
      have E1 := Lib.hid e1
      clear HB e1
      go_wp2_with (refine wb_put H rfl 0 3 _ _ rfl _ (1 + k * 2) rfl _ _ rfl (.int .i64 (-1)) rfl 1 info3 rfl hft rfl _ G1.out ?_; clear H; intro w H)
      dsimp only [List.set_cons_zero] at H
      rw [E1.out] at H
      exact ⟨⟨k + 1, hlt, rfl, Lib.hid H⟩, by simp only [intOf]; omega⟩
    · obtain rfl : k = 8 := by omega
      have H : Sb [] w0 wr [(b, rosterC 0 nobody, 33), (b0, rosterC 0 (List.replicate 8 ⟨0, 0⟩), 33)] [] := HB.out
      have Hz : Hid ((rosterC 0 nobody).size = 17) := Lib.hid (rc_size rfl)
      have Hspl : Hid (splice (rosterC 0 (List.replicate 8 ⟨0, 0⟩)) 0 (Value.cells (.agg (rosterC 0 nobody))).toList = rosterC 0 nobody) := Lib.hid (splice_all _ _ rfl)
      have HONE : Hid ((Value.cells (.agg (rosterC 0 nobody))).toList.all (·.oneCell') = true) := Lib.hid (by decide +kernel)
      clear HB
      go_wp2_with (first | (refine wb_whole H rfl 0 33 _ rfl _ rfl (rosterC 0 nobody) rfl _ Tryz.underlying33 rfl 17 info33 Hz.out ?_) | (refine wb_put H rfl 1 33 _ _ rfl _ 0 rfl _ _ rfl (.agg (rosterC 0 nobody)) rfl 17 info33 Hz.out (Nat.le_of_ble_eq_true rfl) HONE.out _ Hspl.out ?_; clear H; intro w H))
      refine bodyPost_ret (v := .agg (rosterC 0 nobody)) ?_ rfl ⟨rfl, H.below⟩
      exact res33 rfl rfl (H.holds _ (List.mem_cons_of_mem _ (List.mem_cons_self ..))) Hz.out
theorem rnew0 (s : ByteArray) (w : World) (hs : s.size ≤ maxLen) (D : Int) (hd : seed s.data.toList = D) :
    Calls Tryz.prog 68 #[.string s] w fun e w' => e = .returned (.agg (gameC 0 D (List.replicate 8 zShp) (.slice none 0 0))) ∧ Below w.heap.size w w' := by
  have HSd := Lib.hid (fun w => rseed_any s w hs)
  rw [hd] at HSd
  have H := Sb.start w
  clear hd
  go_enter Tryz.func68, Tryz.ntmps68
  go_wp2_with (first | (refine wb_alloc H rfl 28 rfl _ Tryz.zeroValue28 ?_; clear H; intro b2 w H))
  refine (HSd.out _).mono ?_; rintro e w' ⟨rfl, rfl⟩
  go_wp2_with (refine wb_put H rfl 0 28 _ _ rfl _ 0 rfl _ _ rfl (.agg (gameC 0 D (List.replicate 8 zShp) (.slice none 0 0))) rfl 59 info28 rfl (Nat.le_of_ble_eq_true rfl) rfl (gameC 0 D (List.replicate 8 zShp) (.slice none 0 0)) rfl ?_; clear H; intro w H)
  refine bodyPost_ret (v := .agg (gameC 0 D (List.replicate 8 zShp) (.slice none 0 0))) ?_ rfl ⟨rfl, H.below⟩
  exact res1 rfl rfl (H.holds _ (List.mem_cons_self ..)) rfl
theorem wl_build {ops : Array Oper} {rest : List Oper} {o : Oper} {a : Act} {w : World} {Q : Exit → Act → World → Prop} (hg : o.guard = none) (t : TypeId) (parts : Array (Nat × Operand)) (ho : o.op = .build t parts) (cells : Array Value)
    (hf : Tryz.prog.built t (parts.map fun (i, x) => (i, a.eval x)).toList = some cells)
    (h : wpList Tryz.prog ops Q rest (a.put o.dst (.agg cells)) w) : wpList Tryz.prog ops Q (o :: rest) a w := by
  refine wpList_build hg t parts ho (by rw [hf]; rfl) ?_
  rw [hf]
  exact h
theorem start_any (s : ByteArray) (w0 : World) (hs : s.size ≤ maxLen) (D : Int) (hd : seed s.data.toList = D) :
    Calls Tryz.prog 27 #[.string s] w0 fun e w' => e = .returned (.agg (stateC (startS D) (.slice none 0 0))) ∧ Below w0.heap.size w0 w' := by
  have HN := Lib.hid (fun w => rnew0 s w hs D hd)
  have H := Sb.start w0
  clear hd
  go_enter Tryz.func27, Tryz.ntmps27
  go_wp2_with (first | (refine wb_alloc H rfl 35 rfl _ Tryz.zeroValue35 ?_; clear H; intro b2 w H))
  refine (HN.out _).mono ?_; rintro e w' ⟨rfl, hb⟩
  replace H := H.call hb
  clear hb
  go_wp2_with fail
  refine (newRoster_any _).mono ?_; rintro e w' ⟨rfl, hb⟩
  replace H := H.call hb
  clear hb
  have Hz : Hid ((stateC (startS D) (.slice none 0 0)).size = 76) := Lib.hid (sc_size rfl rfl)
  go_wp2_with (first | (refine wl_build rfl 35 _ rfl (stateC (startS D) (.slice none 0 0)) (by kernel_rfl) ?_) | (refine wb_put H rfl 0 35 _ _ rfl _ 0 rfl _ _ rfl (.agg (stateC (startS D) (.slice none 0 0))) rfl 76 info35 Hz.out (Nat.le_of_ble_eq_true rfl) rfl (stateC (startS D) (.slice none 0 0)) rfl ?_; clear H; intro w H))
  refine bodyPost_ret (v := .agg (stateC (startS D) (.slice none 0 0))) ?_ rfl ⟨rfl, H.below⟩
  exact res35 rfl rfl (H.holds _ (List.mem_cons_self ..)) Hz.out
end Go.Proofs.YtdopfonebpklkaaGreat.game
namespace Go.Proofs.YtdopfonebpklkaaGreat.game
open Go.ChangeShapes Go.WideShapes Go.ChangeAt Go.RowKit dice
set_option maxRecDepth 100000

def slotI (T : List Seat) (p : Int) : Int := match T.findIdx? (fun q => q.peer == p) with
  | some i => (i : Int)
  | none => -1
theorem slotI_neg (T : List Seat) (p : Int) : slotI T p < 0 ↔ T.any (fun q => q.peer == p) = false := by
  unfold slotI
  cases h : T.findIdx? (fun q => q.peer == p) with
  | some i =>
    simp only
    constructor
    · intro hi; omega
    · intro h'
      obtain ⟨hi, h1, _⟩ := List.findIdx?_eq_some_iff_getElem.1 h
      rw [List.any_eq_false] at h'
      exact absurd h1 (by simpa using h' _ (List.getElem_mem hi))
  | none =>
    simp only
    refine ⟨fun _ => ?_, fun _ => by decide⟩
    rw [List.any_eq_false]
    intro q hq
    have := List.findIdx?_eq_none_iff.1 h q hq
    simpa using this
theorem isSeat_b (p g x : Int) (q : Nat) (w0 : World) (hq : w0.cell? ⟨q, 0, none⟩ = some (.int .i64 x)) (hlt : q < w0.heap.size) :
    Calls Tryz.prog 134 #[.agg #[.int .i64 p, .int .i64 g], .pointer (some ⟨q, 0, none⟩)] w0 fun e w' => e = .returned (.bool (decide (p = x))) ∧ Below w0.heap.size w0 w' := by
  have H := Sb.start w0
  have HQ := Lib.hid hq
  have HL := Lib.hid hlt
  clear hq hlt
  go_enter Tryz.func134, Tryz.ntmps134
  go_upto_region 1 with (refine wb_box H rfl 30 _ rfl #[.int .i64 p, .int .i64 g] rfl ?_; clear H; intro b2 w H)
  have c0 : w.cell? ⟨b2, 0, none⟩ = some (.int .i64 p) := cell_of_row w b2 0 _ 30 (0, 0) (H.holds _ (List.mem_cons_self ..))
  have c1 : w.cell? ⟨q, 0, none⟩ = some (.int .i64 x) := (World.cell?_of_block (a := ⟨q, 0, none⟩) (H.fr q HL.out (by simp))).trans HQ.out
  go_wp2_with fail
  go_ret
  exact ⟨by first | rfl | simp, H.below⟩
theorem indexOf_b (b q : Nat) (T : List Seat) (x : Int) (w0 : World) (h8 : T.length = 8) (hb : b < w0.heap.size) (hq : q < w0.heap.size) (h : ∀ j v, (seatsL T)[j]? = some v → w0.cell? ⟨b, 1 + j, none⟩ = some v) (hx : w0.cell? ⟨q, 0, none⟩ = some (.int .i64 x)) :
    Calls Tryz.prog 133 #[.slice (some ⟨b, 1, none⟩) 8 8, .func (.func 134) #[] #[.pointer (some ⟨q, 0, none⟩)]] w0 fun e w' => e = .returned (.int .i64 (slotI T x)) ∧ Below w0.heap.size w0 w' := by
  have H := Lib.hid h
  have H8 := Lib.hid h8
  have HBb := Lib.hid hb
  have HQ := Lib.hid hq
  have HX := Lib.hid hx
  clear h h8 hb hq hx
  go_enter Tryz.func133, Tryz.ntmps133
  go_wp2_with fail
  go_loopw [8] (fun i W => ∃ k : Nat, k ≤ 8 ∧ i = .int .i64 k ∧ Hid (Below w0.heap.size w0 W) ∧ Hid (∀ (j : Nat) (s : Seat), j < k → T[j]? = some s → s.peer ≠ x)) (fun i _ => 8 - (intOf i).toNat)
  case atStart => exact ⟨0, Nat.zero_le _, rfl, Lib.hid (Below.refl _ _), Lib.hid (fun j s hj => absurd hj (by omega))⟩
  case round =>
    obtain ⟨k, hk, rfl, HG, HA⟩ := hrel
    by_cases hlt : k < 8
    · obtain ⟨s, hs⟩ : ∃ s, T[k]? = some s := ⟨T[k]'(by rw [H8.out]; exact hlt), List.getElem?_eq_getElem _⟩
      have c : ∀ j v, (seatL s)[j]? = some v → wr.cell? ⟨b, 1 + k * 2 + j, none⟩ = some v := fun j v hv => by
        rw [HG.out.cell (p := ⟨b, 1 + k * 2 + j, none⟩) HBb.out, Nat.add_assoc]
        exact H.out _ v (seatsL_at T k j s v hs hv)
      have c0 : wr.cell? ⟨b, 1 + k * 2, none⟩ = some (.int .i64 s.peer) := c 0 _ rfl
      have c1 : wr.cell? ⟨b, 1 + k * 2 + 1, none⟩ = some (.int .i64 s.gen) := c 1 _ rfl
      have HC := Lib.hid (isSeat_b s.peer s.gen x q wr ((HG.out.cell (p := ⟨q, 0, none⟩) HQ.out).trans HX.out) (Nat.lt_of_lt_of_le HQ.out HG.out.size))
      have Hs := Lib.hid hs
      clear c hs
      go_wp2_with fail
      refine HC.out.mono ?_; rintro e w' ⟨rfl, hg⟩
      have HG' := Lib.hid (HG.out.trans (hg.mono HG.out.size))
      clear hg HG HC c0 c1
      by_cases hp : s.peer = x
      · rw [decide_eq_true hp]
        go_wp2_with fail
        go_ret
        refine ⟨?_, HG'.out⟩
        have : T.findIdx? (fun q => q.peer == x) = some k := by
          obtain ⟨hk', e⟩ := List.getElem?_eq_some_iff.1 Hs.out
          exact List.findIdx?_eq_some_iff_getElem.2 ⟨hk', by rw [e]; simpa using hp, fun j hj => by simpa using HA.out j _ hj (List.getElem?_eq_getElem _)⟩
        have e : slotI T x = (k : Int) := by simp only [slotI, this]
        rw [e]
        rfl
      · rw [decide_eq_false hp]
        go_wp2_with fail
        exact ⟨⟨k + 1, hlt, rfl, HG', Lib.hid (fun j s' hj hs' => by
          by_cases e : j = k
          · subst e
            rw [Hs.out] at hs'
            injection hs' with hs'
            rw [← hs']; exact hp
          · exact HA.out j s' (by omega) hs')⟩, by simp only [intOf]; omega⟩
    · obtain rfl : k = 8 := by omega
      go_wp2_with fail
      go_ret
      refine ⟨?_, HG.out⟩
      have : T.findIdx? (fun q => q.peer == x) = none := by
        rw [List.findIdx?_eq_none_iff]
        intro q hq
        obtain ⟨j, hj⟩ := List.mem_iff_getElem?.1 hq
        have hjl := (List.getElem?_eq_some_iff.1 hj).1
        simpa using HA.out j q (by have := H8.out; omega) hj
      have e : slotI T x = -1 := by simp only [slotI, this]
      rw [e]
      rfl
def ofI (ver : Int) (T : List Seat) (p : Int) : Int := if 0 ≤ p ∧ mayR ver T = true then slotI T p else -1
theorem rc_at0 {ver : Int} {T : List Seat} : (rosterC ver T)[0]? = some (.int .i64 ver) := rfl
theorem rc_seats {ver : Int} {T : List Seat} : ∀ j v, (seatsL T)[j]? = some v → (rosterC ver T)[1 + j]? = some v := fun j v h => by
  unfold rosterC; rw [List.getElem?_toArray, Nat.add_comm, List.getElem?_cons_succ]; exact h
theorem rc_seat {ver : Int} {T : List Seat} (k j : Nat) (q : Seat) (v : Value) (hq : T[k]? = some q) (hv : (seatL q)[j]? = some v) : (rosterC ver T)[1 + k * 2 + j]? = some v := by
  rw [Nat.add_assoc]
  exact rc_seats _ v (seatsL_at T k j q v hq hv)
theorem of_b (ver : Int) (T : List Seat) (p : Int) (w0 : World) (h8 : T.length = 8) :
    Calls Tryz.prog 110 #[.agg (rosterC ver T), .int .i64 p] w0 fun e w' => e = .returned (.int .i64 (ofI ver T p)) ∧ Below w0.heap.size w0 w' := by
  have H := Sb.start w0
  have H8 := Lib.hid h8
  have HM := Lib.hid (fun w => mayR_b ver T w h8)
  have HS := Lib.hid (rc_seats (ver := ver) (T := T))
  have Hz := Lib.hid (rc_size (ver := ver) h8)
  have hmf : ∀ (fn : Fn) (first cap : Array Value) (w : World), (Instr.makeFunc fn first cap).run Tryz.prog w = .ok (.func fn first cap) w := fun _ _ _ _ => rfl
  clear h8
  generalize rosterC ver T = rc at *
  by_cases h0 : 0 ≤ p
  rotate_left
  · have q0 : decide (p < 0) = true := decide_eq_true (by omega)
    go_enter Tryz.func110, Tryz.ntmps110
    go_wp2_with (first | (refine wb_box H rfl 33 _ rfl rc rfl ?_; clear H; intro b1 w H) | (refine wb_box H rfl 3 _ rfl #[.int .i64 p] rfl ?_; clear H; intro b2 w H) | (refine wb_cell H rfl 0 3 _ rfl _ 0 rfl _ _ rfl Tryz.isAgg3 (.int .i64 p) rfl ?_))
    go_ret
    exact ⟨by unfold ofI; rw [if_neg (by omega)]; rfl, H.below⟩
  have q0 : decide (p < 0) = false := decide_eq_false (by omega)
  cases hm : mayR ver T with
  | false =>
    rw [hm] at HM
    go_enter Tryz.func110, Tryz.ntmps110
    go_wp2_with (first | (refine wb_box H rfl 33 _ rfl rc rfl ?_; clear H; intro b1 w H) | (refine wb_box H rfl 3 _ rfl #[.int .i64 p] rfl ?_; clear H; intro b2 w H) | (refine wb_cell H rfl 0 3 _ rfl _ 0 rfl _ _ rfl Tryz.isAgg3 (.int .i64 p) rfl ?_) | (refine wb_whole H rfl 1 33 _ rfl _ rfl rc rfl _ Tryz.underlying33 rfl 17 info33 Hz.out ?_))
    refine (HM.out _).mono ?_; rintro e w' ⟨rfl, hb⟩
    replace H := H.call hb
    clear hb
    go_wp2_with fail
    go_ret
    exact ⟨by unfold ofI; rw [if_neg (by rw [hm]; simp)]; rfl, H.below⟩
  | true =>
    rw [hm] at HM
    go_enter Tryz.func110, Tryz.ntmps110
    go_wp2_with (first | (refine wb_box H rfl 33 _ rfl rc rfl ?_; clear H; intro b1 w H) | (refine wb_box H rfl 3 _ rfl #[.int .i64 p] rfl ?_; clear H; intro b2 w H) | (refine wb_cell H rfl 0 3 _ rfl _ 0 rfl _ _ rfl Tryz.isAgg3 (.int .i64 p) rfl ?_) | (refine wb_whole H rfl 1 33 _ rfl _ rfl rc rfl _ Tryz.underlying33 rfl 17 info33 Hz.out ?_))
    refine (HM.out _).mono ?_; rintro e w' ⟨rfl, hb⟩
    replace H : Sb [] w0 w' [(b2, #[.int .i64 p], 3), (b1, rc, 33)] [] := H.call hb
    clear hb
    go_wp2_with fail
    refine (indexOf_b b1 b2 T p w' H8.out (H.lt _ (List.mem_cons_of_mem _ (List.mem_cons_self ..))) (H.lt _ (List.mem_cons_self ..)) (fun j v hv => (cell_of_row w' b1 (1 + j) _ 33 (0, 0) (H.holds _ (List.mem_cons_of_mem _ (List.mem_cons_self ..)))).trans (HS.out j v hv)) (cell_of_row w' b2 0 _ 3 (0, 0) (H.holds _ (List.mem_cons_self ..)))).mono ?_
    rintro e w2 ⟨rfl, hb⟩
    replace H := H.call hb
    clear hb
    go_wp2_with fail
    go_ret
    exact ⟨by unfold ofI; rw [if_pos ⟨h0, hm⟩]; rfl, H.below⟩
def hasSeat (ver : Int) (T : List Seat) (k : Int) (had : Bool) : Bool :=
  decide (mayR ver T = true ∧ ver < 1073741824 ∧ 0 ≤ k ∧ k < 8) && match T[k.toNat]? with
    | some q => decide (0 ≤ q.peer) == had
    | none => false
theorem hasSeat_no {ver : Int} {T : List Seat} {k : Int} {had : Bool} (h : ¬ (mayR ver T = true ∧ ver < 1073741824 ∧ 0 ≤ k ∧ k < 8)) : hasSeat ver T k had = false := by
  unfold hasSeat
  rw [decide_eq_false h, Bool.false_and]
theorem hasSeat_yes {ver : Int} {T : List Seat} {n : Nat} {had : Bool} {q : Seat} (h : mayR ver T = true) (h1 : ver < 1073741824) (h3 : n < 8) (hq : T[n]? = some q) : hasSeat ver T n had = (decide (0 ≤ q.peer) == had) := by
  unfold hasSeat
  rw [decide_eq_true ⟨h, h1, by omega, by omega⟩, Int.toNat_natCast, hq, Bool.true_and]
theorem seat_b (ver : Int) (T : List Seat) (k : Int) (had : Bool) (w0 : World) (h8 : T.length = 8) :
    Calls Tryz.prog 71 #[.agg (rosterC ver T), .int .i64 k, .bool had] w0 fun e w' => e = .returned (.bool (hasSeat ver T k had)) ∧ Below w0.heap.size w0 w' := by
  have H := Sb.start w0
  have H8 := Lib.hid h8
  have HM := Lib.hid (fun w => mayR_b ver T w h8)
  have HS := Lib.hid (fun k q h => rc_seat (ver := ver) (T := T) k 0 q _ h rfl)
  have H0 := Lib.hid (rc_at0 (ver := ver) (T := T))
  have Hz := Lib.hid (rc_size (ver := ver) h8)
  clear h8
  generalize rosterC ver T = rc at *
  cases hm : mayR ver T with
  | false =>
    rw [hm] at HM
    go_enter Tryz.func71, Tryz.ntmps71
    go_wp2_with (first | (refine wb_box H rfl 33 _ rfl rc rfl ?_; clear H; intro b1 w H) | (refine wb_whole H rfl 0 33 _ rfl _ rfl rc rfl _ Tryz.underlying33 rfl 17 info33 Hz.out ?_))
    refine (HM.out _).mono ?_; rintro e w' ⟨rfl, hb⟩
    replace H := H.call hb
    clear hb
    go_wp2_with fail
    go_ret
    exact ⟨by rw [hasSeat_no (by rw [hm]; simp)]; rfl, H.below⟩
  | true =>
    rw [hm] at HM
    go_enter Tryz.func71, Tryz.ntmps71
    go_wp2_with (first | (refine wb_box H rfl 33 _ rfl rc rfl ?_; clear H; intro b1 w H) | (refine wb_whole H rfl 0 33 _ rfl _ rfl rc rfl _ Tryz.underlying33 rfl 17 info33 Hz.out ?_))
    refine (HM.out _).mono ?_; rintro e w' ⟨rfl, hb⟩
    replace H := H.call hb
    have c0 : w'.cell? ⟨b1, 0, none⟩ = some (.int .i64 ver) := (cell_of_row w' b1 0 _ 33 (0, 0) (H.holds _ (List.mem_cons_self ..))).trans H0.out
    have Hm := Lib.hid hm
    clear hb hm HM
    by_cases h1 : ver < 1073741824
    rotate_left
    · have q1 : decide (ver < 1073741824) = false := decide_eq_false h1
      go_wp2_with fail
      go_ret
      exact ⟨by rw [hasSeat_no (fun h => by omega)]; rfl, H.below⟩
    have q1 : decide (ver < 1073741824) = true := decide_eq_true h1
    by_cases h2 : 0 ≤ k
    rotate_left
    · have q2 : decide (0 ≤ k) = false := decide_eq_false h2
      go_wp2_with fail
      go_ret
      exact ⟨by rw [hasSeat_no (fun h => by omega)]; rfl, H.below⟩
    have q2 : decide (0 ≤ k) = true := decide_eq_true h2
    by_cases h3 : k < 8
    rotate_left
    · have q3 : decide (k < 8) = false := decide_eq_false h3
      go_wp2_with fail
      go_ret
      exact ⟨by rw [hasSeat_no (fun h => by omega)]; rfl, H.below⟩
    have q3 : decide (k < 8) = true := decide_eq_true h3
    obtain ⟨n, rfl⟩ := Int.eq_ofNat_of_zero_le h2
    have hn8 : n < 8 := by omega
    obtain ⟨q, hq⟩ : ∃ q, T[n]? = some q := ⟨T[n]'(by rw [H8.out]; exact hn8), List.getElem?_eq_getElem _⟩
    have c1 : w'.cell? ⟨b1, 1 + n * 2, none⟩ = some (.int .i64 q.peer) := (cell_of_row w' b1 _ _ 33 (0, 0) (H.holds _ (List.mem_cons_self ..))).trans (HS.out n q hq)
    have Hq := Lib.hid hq
    clear hq
    go_wp2_with fail
    go_ret
    exact ⟨by rw [hasSeat_yes Hm.out h1 hn8 Hq.out]; rfl, H.below⟩
end Go.Proofs.YtdopfonebpklkaaGreat.game
namespace Go.Proofs.YtdopfonebpklkaaGreat.game
open Go.ChangeShapes Go.WideShapes Go.ChangeAt Go.RowKit dice
set_option maxRecDepth 100000

theorem take_set {α : Type} {S : List α} {k : Nat} {t : α} (t' : α) (h : S[k]? = some t) : S = S.take k ++ t :: S.drop (k + 1) ∧ S.set k t' = S.take k ++ t' :: S.drop (k + 1) := by
  obtain ⟨hk, e⟩ := List.getElem?_eq_some_iff.1 h
  constructor
  · rw [← e, ← List.drop_eq_getElem_cons hk, List.take_append_drop]
  · rw [List.set_eq_take_append_cons_drop, if_pos hk]
def zR : Array Value := #[.int .i64 0, .int .i64 0, .int .i64 0, .int .i64 0, .int .i64 0, .int .i64 0, .int .i64 0, .int .i64 0, .int .i64 0, .int .i64 0, .int .i64 0, .int .i64 0, .int .i64 0, .int .i64 0, .int .i64 0, .int .i64 0, .int .i64 0]
theorem lv33 (W : World) (b : Nat) (cs : Array Value) (h : W.heap[b]? = some (.cells cs 33 (0, 0))) (hs : cs.size = 17) : (loadVar 33 ⟨b, 0, none⟩).run Tryz.prog W = .ok (.agg cs) W :=
  run_loadVar_row W b 33 33 cs (0, 0) _ h Tryz.underlying33 rfl (by rw [hs]; exact info33)
theorem res33t {fn : Func} {p q : Tmp} {tmps : Array Value} {w : World} {b : Nat} {cs : Array Value} {v : Value} (h : fn.results = #[.cell p 33, .tmp q]) (ha : tmps.getD p undef = .pointer (some ⟨b, 0, none⟩)) (hq : tmps.getD q undef = v) (hb : w.heap[b]? = some (.cells cs 33 (0, 0))) (hs : cs.size = 17) :
    (results fn tmps).run Tryz.prog w = .ok (.tuple #[.agg cs, v]) w := by
  rw [Array.getD_eq_getD_getElem?] at ha hq
  simp only [results, h]
  simp [ha, hq, asAddr, lv33 w b cs hb hs]
theorem rc_ver {ver : Int} {T : List Seat} (v : Int) : splice (rosterC ver T) 0 [.int .i64 v] = rosterC v T := by
  simp [rosterC, splice]
theorem rc_set {ver : Int} {T : List Seat} {k : Nat} {q : Seat} (p g : Int) (h : T[k]? = some q) : splice (rosterC ver T) (1 + k * 2) [.int .i64 p, .int .i64 g] = rosterC ver (T.set k ⟨p, g⟩) := by
  obtain ⟨h1, h2⟩ := take_set ⟨p, g⟩ h
  have hk := (List.getElem?_eq_some_iff.1 h).1
  rw [h2]
  conv => lhs; rw [h1]
  have e : ∀ z : Seat, rosterC ver (T.take k ++ z :: T.drop (k + 1)) = ((Value.int .i64 ver :: seatsL (T.take k)) ++ ([Value.int .i64 z.peer, .int .i64 z.gen] ++ seatsL (T.drop (k + 1)))).toArray := fun z => by
    simp [rosterC, seatsL_append, seatsL_cons, seatL]
  rw [e q, e ⟨p, g⟩]
  exact splice_mid _ _ _ _ _ (by simp [length_seatsL]; omega) rfl
theorem rc_peer {ver : Int} {T : List Seat} {k : Nat} {q : Seat} (p : Int) (h : T[k]? = some q) : splice (rosterC ver T) (1 + k * 2) [.int .i64 p] = rosterC ver (T.set k ⟨p, q.gen⟩) := by
  obtain ⟨h1, h2⟩ := take_set ⟨p, q.gen⟩ h
  have hk := (List.getElem?_eq_some_iff.1 h).1
  rw [h2]
  conv => lhs; rw [h1]
  exact rc_putPeer ver (T.take k) (T.drop (k + 1)) q p k (by rw [List.length_take]; omega)
theorem rc_one {ver : Int} {T : List Seat} : (Value.cells (.agg (rosterC ver T))).toList.all (·.oneCell') = true := by
  rw [List.all_eq_true]
  intro v hv
  simp [Value.cells, rosterC, seatsL] at hv
  rcases hv with rfl | ⟨q, _, hm⟩
  · rfl
  · simp [seatL] at hm
    rcases hm with rfl | rfl <;> rfl
/-- What a roster's change answers. -/
def RosOut (ver : Int) (T : List Seat) (o : Option (Int × List Seat)) (e : Ending) : Prop :=
  e = .returned (.tuple #[.agg (rosterC (o.getD (ver, T)).1 (o.getD (ver, T)).2), .int .i64 (if o.isSome then 0 else 1)])
def takeF (ver : Int) (T : List Seat) (k p : Int) : Option (Int × List Seat) :=
  if mayR ver T = true ∧ ver < 1073741824 ∧ 0 ≤ k ∧ k < 8 then
    (T[k.toNat]?).bind fun q => if q.peer < 0 ∧ 0 ≤ p ∧ p < 12 ∧ T.any (fun q => q.peer == p) = false ∧ q.gen < 60000 then some (ver + 1, T.set k.toNat ⟨p, q.gen + 1⟩) else none
  else none
def giveF (ver : Int) (T : List Seat) (k : Int) : Option (Int × List Seat) :=
  if mayR ver T = true ∧ ver < 1073741824 ∧ 0 ≤ k ∧ k < 8 then
    (T[k.toNat]?).bind fun q => if 0 ≤ q.peer then some (ver + 1, T.set k.toNat ⟨-1, q.gen⟩) else none
  else none
theorem hasSeat_some {ver : Int} {T : List Seat} {k : Int} {had : Bool} (h : hasSeat ver T k had = true) : ∃ (n : Nat) (q : Seat), k = (n : Int) ∧ n < 8 ∧ T[n]? = some q ∧ mayR ver T = true ∧ ver < 1073741824 ∧ decide (0 ≤ q.peer) = had := by
  unfold hasSeat at h
  rw [Bool.and_eq_true, decide_eq_true_eq] at h
  obtain ⟨⟨h1, h2, h3, h4⟩, h5⟩ := h
  refine ⟨k.toNat, ?_⟩
  cases hq : T[k.toNat]? with
  | none => rw [hq] at h5; cases h5
  | some q => rw [hq] at h5; exact ⟨q, by omega, by omega, rfl, h1, h2, by simpa using h5⟩
theorem takeF_no {ver : Int} {T : List Seat} {k p : Int} (h : hasSeat ver T k false = false) (h8 : T.length = 8) : takeF ver T k p = none := by
  unfold takeF
  split
  · rename_i hc
    have hk : k.toNat < T.length := by omega
    rw [List.getElem?_eq_getElem hk, Option.bind_some, if_neg]
    rintro ⟨hp, _⟩
    unfold hasSeat at h
    rw [decide_eq_true hc, List.getElem?_eq_getElem hk, Bool.true_and] at h
    simp at h
    omega
  · rfl
theorem takeF_at {ver : Int} {T : List Seat} {n : Nat} {p : Int} {q : Seat} (hm : mayR ver T = true) (hv : ver < 1073741824) (hn : n < 8) (hq : T[n]? = some q) : takeF ver T n p = if q.peer < 0 ∧ 0 ≤ p ∧ p < 12 ∧ T.any (fun q => q.peer == p) = false ∧ q.gen < 60000 then some (ver + 1, T.set n ⟨p, q.gen + 1⟩) else none := by
  unfold takeF
  rw [if_pos ⟨hm, hv, by omega, by omega⟩, Int.toNat_natCast, hq]
  rfl
set_option maxHeartbeats 4000000 in
theorem take_b (ver : Int) (T : List Seat) (k p : Int) (w0 : World) (h8 : T.length = 8) :
    Calls Tryz.prog 70 #[.agg (rosterC ver T), .int .i64 k, .int .i64 p] w0 fun e w' => RosOut ver T (takeF ver T k p) e ∧ Below w0.heap.size w0 w' := by
  have H := Sb.start w0
  have H8 := Lib.hid h8
  have HS := Lib.hid (fun w => seat_b ver T k false w h8)
  have Hz := Lib.hid (rc_size (ver := ver) h8)
  have HO := Lib.hid (rc_one (ver := ver) (T := T))
  have Hsp : Hid (splice zR 0 (Value.cells (.agg (rosterC ver T))).toList = rosterC ver T) := Lib.hid (splice_all _ _ (by simp [Value.cells, rc_size h8, zR]))
  cases hs : hasSeat ver T k false with
  | false =>
    rw [hs] at HS
    have Ht := Lib.hid (takeF_no (p := p) hs h8)
    clear h8 hs
    go_enter Tryz.func70, Tryz.ntmps70
    go_wp2_with (first | (refine wb_box H rfl 33 _ rfl (rosterC ver T) rfl ?_; clear H; intro b3 w H) | (refine wb_alloc H rfl 33 rfl _ Tryz.zeroValue33 ?_; clear H; intro b6 w H; replace H : Sb [] w0 w [(b6, zR, 33), (b3, rosterC ver T, 33)] [] := H) | (refine wb_whole H rfl 1 33 _ rfl _ rfl (rosterC ver T) rfl _ Tryz.underlying33 rfl 17 info33 Hz.out ?_))
    refine (HS.out _).mono ?_; rintro e w' ⟨rfl, hb⟩
    replace H := H.call hb
    clear hb
    go_wp2_with (first | (refine wb_whole H rfl 1 33 _ rfl _ rfl (rosterC ver T) rfl _ Tryz.underlying33 rfl 17 info33 Hz.out ?_) | (refine wb_put H rfl 0 33 _ _ rfl _ 0 rfl _ _ rfl (.agg (rosterC ver T)) rfl 17 info33 Hz.out (Nat.le_of_ble_eq_true rfl) HO.out _ Hsp.out ?_; clear H; intro w H))
    refine bodyPost_ret (v := .tuple #[.agg (rosterC ver T), .int .i64 1]) (res33t rfl rfl rfl (H.holds _ (List.mem_cons_self ..)) Hz.out) rfl ⟨?_, H.below⟩
    unfold RosOut
    rw [Ht.out]
    rfl
  | true =>
    rw [hs] at HS
    obtain ⟨n, q, rfl, hn8, hq, hm, hv, hp⟩ := hasSeat_some hs
    have hq0 : q.peer < 0 := by simpa using hp
    have HT := Lib.hid (takeF_at (p := p) hm hv hn8 hq)
    have HOf := Lib.hid (fun w => of_b ver T p w h8)
    have Hpg := Lib.hid (rc_seat (ver := ver) n 1 q _ hq rfl)
    have Hset := Lib.hid (rc_set (ver := ver) p (q.gen + 1) hq)
    have Hz2 := Lib.hid (rc_size (ver := ver) (T := T.set n ⟨p, q.gen + 1⟩) (by rw [List.length_set]; exact h8))
    have hof : ofI ver T p = if 0 ≤ p then slotI T p else -1 := by unfold ofI; rw [hm]; simp
    rw [hof] at HOf
    have Hg0 := Lib.hid (show 0 ≤ q.gen ∧ q.gen ≤ 60000 from by have := (mayR_iff.1 hm).2.2.1 q (List.mem_of_getElem? hq); exact ⟨this.2.2.1, this.2.2.2.1⟩)
    have Hv := Lib.hid (show 0 ≤ ver ∧ ver < 1073741824 from ⟨(mayR_iff.1 hm).1, hv⟩)
    clear h8 hs hq hm hp hof
    go_enter Tryz.func70, Tryz.ntmps70
    go_wp2_with (first | (refine wb_box H rfl 33 _ rfl (rosterC ver T) rfl ?_; clear H; intro b3 w H) | (refine wb_alloc H rfl 33 rfl _ Tryz.zeroValue33 ?_; clear H; intro b6 w H; replace H : Sb [] w0 w [(b6, zR, 33), (b3, rosterC ver T, 33)] [] := H) | (refine wb_whole H rfl 1 33 _ rfl _ rfl (rosterC ver T) rfl _ Tryz.underlying33 rfl 17 info33 Hz.out ?_))
    refine (HS.out _).mono ?_; rintro e w' ⟨rfl, hb⟩
    replace H := H.call hb
    clear hb HS
    have c1 : w'.cell? ⟨b3, 1 + n * 2 + 1, none⟩ = some (.int .i64 q.gen) := (cell_of_row w' b3 _ _ 33 (0, 0) (H.holds _ (List.mem_cons_of_mem _ (List.mem_cons_self ..)))).trans Hpg.out
    by_cases h0 : 0 ≤ p
    rotate_left
    · have q0 : decide (p < 0) = true := decide_eq_true (by omega)
      go_upto_region 2 with fail
      go_wp2_with (first | (refine wb_whole H rfl 1 33 _ rfl _ rfl (rosterC ver T) rfl _ Tryz.underlying33 rfl 17 info33 Hz.out ?_) | (refine wb_put H rfl 0 33 _ _ rfl _ 0 rfl _ _ rfl (.agg (rosterC ver T)) rfl 17 info33 Hz.out (Nat.le_of_ble_eq_true rfl) HO.out _ Hsp.out ?_; clear H; intro w H))
      refine bodyPost_ret (v := .tuple #[.agg (rosterC ver T), .int .i64 1]) (res33t rfl rfl rfl (H.holds _ (List.mem_cons_self ..)) Hz.out) rfl ⟨?_, H.below⟩
      unfold RosOut
      rw [HT.out, if_neg (by omega)]
      rfl
    have q0 : decide (p < 0) = false := decide_eq_false (by omega)
    rw [if_pos h0] at HOf
    by_cases h1 : p < 12
    rotate_left
    · have q1 : decide (12 ≤ p) = true := decide_eq_true (by omega)
      go_upto_region 2 with fail
      go_wp2_with (first | (refine wb_whole H rfl 1 33 _ rfl _ rfl (rosterC ver T) rfl _ Tryz.underlying33 rfl 17 info33 Hz.out ?_) | (refine wb_put H rfl 0 33 _ _ rfl _ 0 rfl _ _ rfl (.agg (rosterC ver T)) rfl 17 info33 Hz.out (Nat.le_of_ble_eq_true rfl) HO.out _ Hsp.out ?_; clear H; intro w H))
      refine bodyPost_ret (v := .tuple #[.agg (rosterC ver T), .int .i64 1]) (res33t rfl rfl rfl (H.holds _ (List.mem_cons_self ..)) Hz.out) rfl ⟨?_, H.below⟩
      unfold RosOut
      rw [HT.out, if_neg (by omega)]
      rfl
    have q1 : decide (12 ≤ p) = false := decide_eq_false (by omega)
    clear c1
    go_wp2_with (refine wb_whole H rfl 1 33 _ rfl _ rfl (rosterC ver T) rfl _ Tryz.underlying33 rfl 17 info33 Hz.out ?_)
    refine (HOf.out _).mono ?_; rintro e w' ⟨rfl, hb⟩
    replace H := H.call hb
    have c1 : w'.cell? ⟨b3, 1 + n * 2 + 1, none⟩ = some (.int .i64 q.gen) := (cell_of_row w' b3 _ _ 33 (0, 0) (H.holds _ (List.mem_cons_of_mem _ (List.mem_cons_self ..)))).trans Hpg.out
    clear hb HOf
    have hsl := slotI_neg T p
    have Hsl := Lib.hid hsl
    clear hsl
    by_cases h2 : slotI T p < 0
    rotate_left
    · have q2 : decide (0 ≤ slotI T p) = true := decide_eq_true (by omega)
      go_upto_region 2 with fail
      go_wp2_with (first | (refine wb_whole H rfl 1 33 _ rfl _ rfl (rosterC ver T) rfl _ Tryz.underlying33 rfl 17 info33 Hz.out ?_) | (refine wb_put H rfl 0 33 _ _ rfl _ 0 rfl _ _ rfl (.agg (rosterC ver T)) rfl 17 info33 Hz.out (Nat.le_of_ble_eq_true rfl) HO.out _ Hsp.out ?_; clear H; intro w H))
      refine bodyPost_ret (v := .tuple #[.agg (rosterC ver T), .int .i64 1]) (res33t rfl rfl rfl (H.holds _ (List.mem_cons_self ..)) Hz.out) rfl ⟨?_, H.below⟩
      unfold RosOut
      rw [HT.out, if_neg (by intro h; have := Hsl.out.2 h.2.2.2.1; omega)]
      rfl
    have q2 : decide (0 ≤ slotI T p) = false := decide_eq_false (by omega)
    have hn8' : (n : Int) < 8 := by omega
    by_cases h3 : q.gen < 60000
    rotate_left
    · have q3 : decide (60000 ≤ q.gen) = true := decide_eq_true (by omega)
      go_upto_region 2 with fail
      go_wp2_with (first | (refine wb_whole H rfl 1 33 _ rfl _ rfl (rosterC ver T) rfl _ Tryz.underlying33 rfl 17 info33 Hz.out ?_) | (refine wb_put H rfl 0 33 _ _ rfl _ 0 rfl _ _ rfl (.agg (rosterC ver T)) rfl 17 info33 Hz.out (Nat.le_of_ble_eq_true rfl) HO.out _ Hsp.out ?_; clear H; intro w H))
      refine bodyPost_ret (v := .tuple #[.agg (rosterC ver T), .int .i64 1]) (res33t rfl rfl rfl (H.holds _ (List.mem_cons_self ..)) Hz.out) rfl ⟨?_, H.below⟩
      unfold RosOut
      rw [HT.out, if_neg (by omega)]
      rfl
    have q3 : decide (60000 ≤ q.gen) = false := decide_eq_false (by omega)
    have Hyes := Lib.hid (show q.peer < 0 ∧ 0 ≤ p ∧ p < 12 ∧ T.any (fun q => q.peer == p) = false ∧ q.gen < 60000 from ⟨hq0, h0, h1, Hsl.out.1 h2, h3⟩)
    have Hh3 := Lib.hid h3
    clear h0 h1 h2 h3 hq0
    go_upto_region 3 with fail
    have g0 := Hg0.out
    have g3 := Hh3.out
    have hft : 1 + n * 2 + 2 ≤ (rosterC ver T).size := by rw [Hz.out]; omega
    go_upto_region 4 with (first | (refine wl_build rfl 30 _ rfl #[.int .i64 p, .int .i64 (q.gen + 1)] (by kernel_rfl) ?_) | (refine wb_put H rfl 1 30 _ _ rfl _ (1 + n * 2) rfl _ _ rfl (.agg #[.int .i64 p, .int .i64 (q.gen + 1)]) rfl 2 info30 rfl hft rfl _ Hset.out ?_; clear H; intro w H))
    replace H : Sb [] w0 w [(b6, zR, 33), (b3, rosterC ver (T.set n ⟨p, q.gen + 1⟩), 33)] [] := H
    obtain ⟨v0, v1⟩ := Hv.out
    have hft0 : 0 + 1 ≤ (rosterC ver (T.set n ⟨p, q.gen + 1⟩)).size := by rw [Hz2.out]; omega
    have Hz3 : Hid ((rosterC (ver + 1) (T.set n ⟨p, q.gen + 1⟩)).size = 17) := Lib.hid (by have := Hz2.out; simpa [rosterC] using this)
    have Hsp2 : Hid (splice zR 0 (Value.cells (.agg (rosterC (ver + 1) (T.set n ⟨p, q.gen + 1⟩)))).toList = rosterC (ver + 1) (T.set n ⟨p, q.gen + 1⟩)) := Lib.hid (splice_all _ _ (by simp [Value.cells, Hz3.out, zR]))
    have HO2 := Lib.hid (rc_one (ver := ver + 1) (T := T.set n ⟨p, q.gen + 1⟩))
    go_wp2_with (first | (refine wb_cell H rfl 1 3 _ rfl _ 0 rfl _ _ rfl Tryz.isAgg3 (.int .i64 ver) rfl ?_) | (refine wb_put H rfl 1 3 _ _ rfl _ 0 rfl _ _ rfl (.int .i64 (ver + 1)) rfl 1 info3 rfl hft0 rfl _ (rc_ver _) ?_; clear H; intro w H) | (refine wb_whole H rfl 1 33 _ rfl _ rfl (rosterC (ver + 1) (T.set n ⟨p, q.gen + 1⟩)) rfl _ Tryz.underlying33 rfl 17 info33 Hz3.out ?_) | (refine wb_put H rfl 0 33 _ _ rfl _ 0 rfl _ _ rfl (.agg (rosterC (ver + 1) (T.set n ⟨p, q.gen + 1⟩))) rfl 17 info33 Hz3.out (Nat.le_of_ble_eq_true rfl) HO2.out _ Hsp2.out ?_; clear H; intro w H))
    refine bodyPost_ret (v := .tuple #[.agg (rosterC (ver + 1) (T.set n ⟨p, q.gen + 1⟩)), .int .i64 0]) (res33t rfl rfl rfl (H.holds _ (List.mem_cons_self ..)) Hz3.out) rfl ⟨?_, H.below⟩
    unfold RosOut
    rw [HT.out, if_pos Hyes.out]
    rfl
theorem giveF_no {ver : Int} {T : List Seat} {k : Int} (h : hasSeat ver T k true = false) (h8 : T.length = 8) : giveF ver T k = none := by
  unfold giveF
  split
  · rename_i hc
    have hk : k.toNat < T.length := by omega
    rw [List.getElem?_eq_getElem hk, Option.bind_some, if_neg]
    intro hp
    unfold hasSeat at h
    rw [decide_eq_true hc, List.getElem?_eq_getElem hk, Bool.true_and] at h
    simp at h
    omega
  · rfl
theorem giveF_at {ver : Int} {T : List Seat} {n : Nat} {q : Seat} (hm : mayR ver T = true) (hv : ver < 1073741824) (hn : n < 8) (hq : T[n]? = some q) (hp : 0 ≤ q.peer) : giveF ver T n = some (ver + 1, T.set n ⟨-1, q.gen⟩) := by
  unfold giveF
  rw [if_pos ⟨hm, hv, by omega, by omega⟩, Int.toNat_natCast, hq, Option.bind_some, if_pos hp]
set_option maxHeartbeats 4000000 in
theorem give_b (ver : Int) (T : List Seat) (k : Int) (w0 : World) (h8 : T.length = 8) :
    Calls Tryz.prog 72 #[.agg (rosterC ver T), .int .i64 k] w0 fun e w' => RosOut ver T (giveF ver T k) e ∧ Below w0.heap.size w0 w' := by
  have H := Sb.start w0
  have H8 := Lib.hid h8
  have HS := Lib.hid (fun w => seat_b ver T k true w h8)
  have Hz := Lib.hid (rc_size (ver := ver) h8)
  have HO := Lib.hid (rc_one (ver := ver) (T := T))
  have Hsp : Hid (splice zR 0 (Value.cells (.agg (rosterC ver T))).toList = rosterC ver T) := Lib.hid (splice_all _ _ (by simp [Value.cells, rc_size h8, zR]))
  cases hs : hasSeat ver T k true with
  | false =>
    rw [hs] at HS
    have Ht := Lib.hid (giveF_no hs h8)
    clear h8 hs
    go_enter Tryz.func72, Tryz.ntmps72
    go_wp2_with (first | (refine wb_box H rfl 33 _ rfl (rosterC ver T) rfl ?_; clear H; intro b3 w H) | (refine wb_alloc H rfl 33 rfl _ Tryz.zeroValue33 ?_; clear H; intro b6 w H; replace H : Sb [] w0 w [(b6, zR, 33), (b3, rosterC ver T, 33)] [] := H) | (refine wb_whole H rfl 1 33 _ rfl _ rfl (rosterC ver T) rfl _ Tryz.underlying33 rfl 17 info33 Hz.out ?_))
    refine (HS.out _).mono ?_; rintro e w' ⟨rfl, hb⟩
    replace H := H.call hb
    clear hb
    go_wp2_with (first | (refine wb_whole H rfl 1 33 _ rfl _ rfl (rosterC ver T) rfl _ Tryz.underlying33 rfl 17 info33 Hz.out ?_) | (refine wb_put H rfl 0 33 _ _ rfl _ 0 rfl _ _ rfl (.agg (rosterC ver T)) rfl 17 info33 Hz.out (Nat.le_of_ble_eq_true rfl) HO.out _ Hsp.out ?_; clear H; intro w H))
    refine bodyPost_ret (v := .tuple #[.agg (rosterC ver T), .int .i64 1]) (res33t rfl rfl rfl (H.holds _ (List.mem_cons_self ..)) Hz.out) rfl ⟨?_, H.below⟩
    unfold RosOut
    rw [Ht.out]
    rfl
  | true =>
    rw [hs] at HS
    obtain ⟨n, q, rfl, hn8, hq, hm, hv, hp⟩ := hasSeat_some hs
    have hq0 : 0 ≤ q.peer := by simpa using hp
    have HT := Lib.hid (giveF_at hm hv hn8 hq hq0)
    have Hset := Lib.hid (rc_peer (ver := ver) (-1) hq)
    have Hz2 := Lib.hid (rc_size (ver := ver) (T := T.set n ⟨-1, q.gen⟩) (by rw [List.length_set]; exact h8))
    have Hv := Lib.hid (show 0 ≤ ver ∧ ver < 1073741824 from ⟨(mayR_iff.1 hm).1, hv⟩)
    have Hz3 : Hid ((rosterC (ver + 1) (T.set n ⟨-1, q.gen⟩)).size = 17) := Lib.hid (by have := Hz2.out; simpa [rosterC] using this)
    have Hsp2 : Hid (splice zR 0 (Value.cells (.agg (rosterC (ver + 1) (T.set n ⟨-1, q.gen⟩)))).toList = rosterC (ver + 1) (T.set n ⟨-1, q.gen⟩)) := Lib.hid (splice_all _ _ (by simp [Value.cells, Hz3.out, zR]))
    have HO2 := Lib.hid (rc_one (ver := ver + 1) (T := T.set n ⟨-1, q.gen⟩))
    have hn8' : (n : Int) < 8 := by omega
    clear h8 hs hq hm hp hq0 hv
    go_enter Tryz.func72, Tryz.ntmps72
    go_wp2_with (first | (refine wb_box H rfl 33 _ rfl (rosterC ver T) rfl ?_; clear H; intro b3 w H) | (refine wb_alloc H rfl 33 rfl _ Tryz.zeroValue33 ?_; clear H; intro b6 w H; replace H : Sb [] w0 w [(b6, zR, 33), (b3, rosterC ver T, 33)] [] := H) | (refine wb_whole H rfl 1 33 _ rfl _ rfl (rosterC ver T) rfl _ Tryz.underlying33 rfl 17 info33 Hz.out ?_))
    refine (HS.out _).mono ?_; rintro e w' ⟨rfl, hb⟩
    replace H := H.call hb
    clear hb HS
    have hft : 1 + n * 2 + 1 ≤ (rosterC ver T).size := by rw [Hz.out]; omega
    go_upto_region 4 with (refine wb_put H rfl 1 3 _ _ rfl _ (1 + n * 2) rfl _ _ rfl (.int .i64 (-1)) rfl 1 info3 rfl hft rfl _ Hset.out ?_; clear H; intro w H)
    replace H : Sb [] w0 w [(b6, zR, 33), (b3, rosterC ver (T.set n ⟨-1, q.gen⟩), 33)] [] := H
    obtain ⟨v0, v1⟩ := Hv.out
    have hft0 : 0 + 1 ≤ (rosterC ver (T.set n ⟨-1, q.gen⟩)).size := by rw [Hz2.out]; omega
    go_wp2_with (first | (refine wb_cell H rfl 1 3 _ rfl _ 0 rfl _ _ rfl Tryz.isAgg3 (.int .i64 ver) rfl ?_) | (refine wb_put H rfl 1 3 _ _ rfl _ 0 rfl _ _ rfl (.int .i64 (ver + 1)) rfl 1 info3 rfl hft0 rfl _ (rc_ver _) ?_; clear H; intro w H) | (refine wb_whole H rfl 1 33 _ rfl _ rfl (rosterC (ver + 1) (T.set n ⟨-1, q.gen⟩)) rfl _ Tryz.underlying33 rfl 17 info33 Hz3.out ?_) | (refine wb_put H rfl 0 33 _ _ rfl _ 0 rfl _ _ rfl (.agg (rosterC (ver + 1) (T.set n ⟨-1, q.gen⟩))) rfl 17 info33 Hz3.out (Nat.le_of_ble_eq_true rfl) HO2.out _ Hsp2.out ?_; clear H; intro w H))
    refine bodyPost_ret (v := .tuple #[.agg (rosterC (ver + 1) (T.set n ⟨-1, q.gen⟩)), .int .i64 0]) (res33t rfl rfl rfl (H.holds _ (List.mem_cons_self ..)) Hz3.out) rfl ⟨?_, H.below⟩
    unfold RosOut
    rw [HT.out]
    rfl
end Go.Proofs.YtdopfonebpklkaaGreat.game
namespace Go.Proofs.YtdopfonebpklkaaGreat.game
open Go Go.ChangeShapes Go.WideShapes Go.ChangeAt Go.RowKit

section
variable {P : Program} {ops : Array Oper} {Q : Exit → Act → World → Prop}
variable {T : Facts} {fuel : Nat} {listed : Array Bool} {a : Act} {w : World}
/-- An operation that yields a value, alone ready. -/
theorem Gv_val (k : Nat) {o : Oper} (hi : ops[k]? = some o) (hr : Region.ready .any ops listed = [k]) (dst : Option Tmp) (hd : o.dst = dst) (hw : Region.wanted o (yielded ops a.tmps) = true) (v : Value) (hrun : (execOp a.eval o).run P w = .ok (.value v) w)
    (h : Gs P ops Q T fuel (listed.setIfInBounds k true) (a.put dst v) w) : Gs P ops Q T (fuel + 1) listed a w := by
  intro inv hh
  have hr' : k ∈ Region.ready .any ops listed := by rw [hr]; simp
  refine ⟨fun h0 => (by rw [h0] at hr'; cases hr'), fun i hik => ?_⟩
  rw [hr] at hik
  obtain rfl : i = k := by simpa using hik
  have hsz : i < listed.size := by rw [inv.size]; exact (Array.getElem?_eq_some_iff.1 hi).1
  have hh' : Held T (listed.setIfInBounds i true) w := hh.later hsz
  unfold wpOp
  simp only [hi]
  rw [if_pos hw]
  refine .inl ?_
  unfold Oper.wp
  rw [hrun]
  subst hd
  exact ⟨hh', h (inv.set hr') hh'⟩
/-- A call, alone ready. -/
theorem Gv_call (k : Nat) {o : Oper} (hi : ops[k]? = some o) (hr : Region.ready .any ops listed = [k]) (dst : Option Tmp) (hd : o.dst = dst) (hw : Region.wanted o (yielded ops a.tmps) = true) (f : FuncId) (vs : Array Value) (hrun : (execOp a.eval o).run P w = .ok (.enter f vs) w)
    (v : Value) (hc : Calls P f vs w fun e w' => e = .returned v ∧ w = w')
    (h : Gs P ops Q T fuel (listed.setIfInBounds k true) (a.put dst v) w) : Gs P ops Q T (fuel + 1) listed a w := by
  intro inv hh
  have hr' : k ∈ Region.ready .any ops listed := by rw [hr]; simp
  refine ⟨fun h0 => (by rw [h0] at hr'; cases hr'), fun i hik => ?_⟩
  rw [hr] at hik
  obtain rfl : i = k := by simpa using hik
  have hsz : i < listed.size := by rw [inv.size]; exact (Array.getElem?_eq_some_iff.1 hi).1
  have hh' : Held T (listed.setIfInBounds i true) w := hh.later hsz
  unfold wpOp
  simp only [hi]
  rw [if_pos hw]
  refine .inl ?_
  unfold Oper.wp
  rw [hrun]
  subst hd
  refine Calls.mono hc fun e w' hR => ?_
  obtain ⟨rfl, rfl⟩ := hR
  exact ⟨hh', h (inv.set hr') hh'⟩
theorem Gv_field (k : Nat) {o : Oper} (hQ : ∀ (d : Option Tmp) v c a w, Q (.panic c) (a.put d v) w → Q (.panic c) a w) (hs : Region.noSelect ops = true) (hi : ops[k]? = some o) (ty : TypeId) (x : Operand) (j : Nat) (ho : o.op = .fieldAddr ty x j) (hw : Region.wanted o (yielded ops a.tmps) = true) (dst : Option Tmp) (hd : o.dst = dst)
    (hf : Region.free .any ops listed k = true) (hr : (Region.ready .any ops listed).contains k = true) (hT : ∀ t ∈ T, t.2.2 ≠ k) (p q : Addr) (hv : a.eval x = .pointer (some p)) (hrun : ∀ w, (Instr.fieldAt ty (.pointer (some p)) j).run P w = .ok (.pointer (some q)) w)
    (h : Gs P ops Q T fuel (listed.setIfInBounds k true) (a.put dst (.pointer (some q))) w) : Gs P ops Q T (fuel + 1) listed a w :=
  Gs_take (v := .pointer (some q)) (fun _ => True) k hQ hi hs hf hr hT (fun _ _ _ _ _ => trivial) (.inl ⟨hw, fun w _ => by unfold execOp; rw [ho]; simp only [hv, Sem.run_bind, hrun, Result.andThen_ok, Sem.run_pure]⟩) (by rw [hd]; exact h)
theorem Gv_load (k d : Nat) {o : Oper} (hQ : ∀ (d : Option Tmp) v c a w, Q (.panic c) (a.put d v) w → Q (.panic c) a w) (hs : Region.noSelect ops = true) (hi : ops[k]? = some o) (ty : TypeId) (x : Operand) (ho : o.op = .load ty x) (hw : Region.wanted o (yielded ops a.tmps) = true) (dst : Option Tmp) (hd : o.dst = dst)
    (hf : Region.free .any ops listed k = true) (hr : (Region.ready .any ops listed).contains k = true) (hT : ∀ t ∈ T, t.2.2 ≠ k) (p : Addr) (hv : a.eval x = .pointer (some p)) (ha : ∀ w, (isAgg ty).run P w = .ok false w)
    (v : Value) (hm : (p, v, d) ∈ T) (hwf : Region.waitsFor .any ops d k = true)
    (h : Gs P ops Q T fuel (listed.setIfInBounds k true) (a.put dst v) w) : Gs P ops Q T (fuel + 1) listed a w := by
  refine Gs_take (v := v) (fun w => w.cell? p = some v) k hQ hi hs hf hr hT (fun listed w inv hk hh => ?_) (.inl ⟨hw, fun w hc => ?_⟩) (by rw [hd]; exact h)
  · obtain ⟨od, hod, e, he, hb, hon⟩ := Region.waitsFor_spec hwf
    refine hh _ hm ?_
    have hlt : d < listed.size := by rw [inv.size]; exact (Array.getElem?_eq_some_iff.1 hod).1
    cases hl : listed.getD d false with
    | true =>
      have := inv.closed d od hod hl e he hb
      rw [hon, getD_both hk] at this
      cases this
    | false => exact getD_in hlt hl
  · unfold execOp
    rw [ho]
    simp only [hv, Sem.run_bind, Instr.loadAt, Instr.sureAddr, Sem.run_pure, Result.andThen_ok, loadVar, ha, Bool.false_eq_true, if_false, run_load, hc]
theorem Gv_loadRow (k d : Nat) {o : Oper} (hQ : ∀ (d : Option Tmp) v c a w, Q (.panic c) (a.put d v) w → Q (.panic c) a w) (hs : Region.noSelect ops = true) (hi : ops[k]? = some o) (ty : TypeId) (x : Operand) (ho : o.op = .load ty x) (hw : Region.wanted o (yielded ops a.tmps) = true) (dst : Option Tmp) (hd : o.dst = dst)
    (hf : Region.free .any ops listed k = true) (hr : (Region.ready .any ops listed).contains k = true) (hT : ∀ t ∈ T, t.2.2 ≠ k) (b p : Nat) (hv : a.eval x = .pointer (some ⟨b, p, none⟩)) (vs : List Value)
    (hm : ∀ j v, vs[j]? = some v → ((⟨b, p + j, none⟩ : Addr), v, d) ∈ T) (hwf : Region.waitsFor .any ops d k = true) (ds : TypeDesc) (hu : P.underlying ty = some ds) (hrow : ds.isRow = true) (hsz : (P.info? ty).map (·.size) = some vs.length)
    (h : Gs P ops Q T fuel (listed.setIfInBounds k true) (a.put dst (.agg vs.toArray)) w) : Gs P ops Q T (fuel + 1) listed a w := by
  refine Gs_take (v := .agg vs.toArray) (fun w => w.rangeAt b p vs) k hQ hi hs hf hr hT (fun listed w inv hk hh => ?_) (yieldsIf_load_mid hw ty x ho b p hv vs ds (fun _ h => h) hu hrow hsz) (by rw [hd]; exact h)
  obtain ⟨od, hod, e, he, hb, hon⟩ := Region.waitsFor_spec hwf
  have hlt : d < listed.size := by rw [inv.size]; exact (Array.getElem?_eq_some_iff.1 hod).1
  have hopen : listed.getD d true = false := by
    cases hl : listed.getD d false with
    | true =>
      have := inv.closed d od hod hl e he hb
      rw [hon, getD_both hk] at this
      cases this
    | false => exact getD_in hlt hl
  intro j v hj
  exact hh _ (hm j v hj) hopen
end
end Go.Proofs.YtdopfonebpklkaaGreat.game
namespace Go.Proofs.YtdopfonebpklkaaGreat.game
open Go Go.ChangeShapes Go.WideShapes Go.ChangeAt Go.RowKit

/-- A row's cells as facts. -/
def rowF (b o : Nat) (vs : List Value) (d : Nat) : Facts := vs.zipIdx.map fun p => ((⟨b, o + p.2, none⟩ : Addr), p.1, d)
theorem mem_rowF {b o d j : Nat} {vs : List Value} {v : Value} (h : vs[j]? = some v) : ((⟨b, o + j, none⟩ : Addr), v, d) ∈ rowF b o vs d := by
  unfold rowF
  rw [List.mem_map]
  exact ⟨(v, j), List.mem_zipIdx_iff_getElem?.2 (by simpa using h), rfl⟩
theorem rowF_d {b o d : Nat} {vs : List Value} : ∀ t ∈ rowF b o vs d, t.2.2 = d := fun t ht => by
  unfold rowF at ht
  obtain ⟨p, _, rfl⟩ := List.mem_map.1 ht
  rfl
theorem rowF_holds {b o d : Nat} {vs : List Value} {w : World} (h : w.rangeAt b o vs) : ∀ t ∈ rowF b o vs d, w.cell? t.1 = some t.2.1 := fun t ht => by
  unfold rowF at ht
  obtain ⟨⟨v, j⟩, hp, rfl⟩ := List.mem_map.1 ht
  exact h j v (by simpa using List.mem_zipIdx_iff_getElem?.1 hp)
section
variable {P : Program} {ops : Array Oper} {Q : Exit → Act → World → Prop}
variable {T : Facts} {fuel : Nat} {listed : Array Bool} {a : Act} {w : World}
theorem cell_lt {w : World} {p : Addr} {v : Value} (h : w.cell? p = some v) : p.block < w.heap.size := by
  unfold World.cell? at h
  cases hq : w.heap[p.block]? with
  | none => simp [hq] at h
  | some o => exact (Array.getElem?_eq_some_iff.1 hq).1
theorem Held.below {T : Facts} {listed : Array Bool} {w w' : World} (h : Held T listed w) (hb : Below w.heap.size w w') : Held T listed w' := fun t ht hl => by
  have hc := h t ht hl
  rw [hb.cell (cell_lt hc)]
  exact hc
/-- A call that makes memory (k) and a fresh variable (m) are ready, nothing else: both orders. -/
theorem Gs_two (k m : Nat) {o om : Oper} (hi : ops[k]? = some o) (hg : o.guard = none) (dst : Option Tmp) (hd : o.dst = dst) (him : ops[m]? = some om) (hgm : om.guard = none) (dm : Option Tmp) (hdm : om.dst = dm) (hr : Region.ready .any ops listed = [k, m])
    (f : FuncId) (vs : Array Value) (hrun : (execOp a.eval o).run P w = .ok (.enter f vs) w) {R : Ending → World → Prop} (hc : Calls P f vs w R)
    (v : Value) (ob : Obj) (hrunm : (execOp a.eval om).run P w = .ok (.value v) (w.alloc ob))
    (h1 : ∀ e w', R e w' → ∃ v, e = .returned v ∧ Below w.heap.size w w' ∧ Gs P ops Q T fuel (listed.setIfInBounds k true) (a.put dst v) w')
    (h2 : Gs P ops Q T fuel (listed.setIfInBounds m true) (a.put dm v) (w.alloc ob)) : Gs P ops Q T (fuel + 1) listed a w := by
  intro inv hh
  have hk : k ∈ Region.ready .any ops listed := by rw [hr]; simp
  have hm : m ∈ Region.ready .any ops listed := by rw [hr]; simp
  refine ⟨fun h0 => (by rw [h0] at hk; cases hk), fun i hik => ?_⟩
  have hsz : ∀ i o, ops[i]? = some o → i < listed.size := fun i o h => by rw [inv.size]; exact (Array.getElem?_eq_some_iff.1 h).1
  rw [hr] at hik
  have hik' : i = k ∨ i = m := by simpa using hik
  rcases hik' with rfl | rfl
  · have hh' : Held T (listed.setIfInBounds i true) w := hh.later (hsz i o hi)
    unfold wpOp
    simp only [hi]
    rw [if_pos (by simp [Region.wanted, hg])]
    refine .inl ?_
    unfold Oper.wp
    rw [hrun]
    subst hd
    refine Calls.mono hc fun e w' hR => ?_
    obtain ⟨v, rfl, hb, hG⟩ := h1 e w' hR
    have hw' := hh'.below hb
    exact ⟨hw', hG (inv.set hk) hw'⟩
  · have hh' : Held T (listed.setIfInBounds i true) (w.alloc ob) := fun t ht hl => cell_alloc_some ob (hh.later (hsz i om him) t ht hl)
    unfold wpOp
    simp only [him]
    rw [if_pos (by simp [Region.wanted, hgm])]
    refine .inl ?_
    unfold Oper.wp
    rw [hrunm]
    subst hdm
    exact ⟨hh', h2 (inv.set hm) hh'⟩
end
end Go.Proofs.YtdopfonebpklkaaGreat.game
namespace Go.Proofs.YtdopfonebpklkaaGreat.game
open Go Go.ChangeShapes Go.WideShapes Go.ChangeAt Go.RowKit

section
variable {P : Program} {ops : Array Oper} {Q : Exit → Act → World → Prop}
variable {T : Facts} {fuel : Nat} {listed : Array Bool} {a : Act} {w : World}
def Qn (Q : Exit → Act → World → Prop) (K : Act → World → Prop) : Exit → Act → World → Prop
  | .normal, a, w => K a w
  | e, a, w => Q e a w
theorem Gs_one (k : Nat) {o : Oper} (hi : ops[k]? = some o) (hr : Region.ready .any ops listed = [k])
    (h : wpList P ops (Qn Q fun a' w' => Held T (listed.setIfInBounds k true) w' ∧ Gs P ops Q T fuel (listed.setIfInBounds k true) a' w') [o] a w) : Gs P ops Q T (fuel + 1) listed a w := by
  intro inv hh
  have hr' : k ∈ Region.ready .any ops listed := by rw [hr]; simp
  refine ⟨fun h0 => (by rw [h0] at hr'; cases hr'), fun i hik => ?_⟩
  rw [hr] at hik
  obtain rfl : i = k := by simpa using hik
  have hw : wpOp P ops Q i (fun a' w' => Held T (listed.setIfInBounds i true) w' ∧ Gs P ops Q T fuel (listed.setIfInBounds i true) a' w') a w := by
    unfold wpOp
    simp only [hi]
    exact h
  exact wpOp_mono (fun a' w' h' => ⟨h'.1, h'.2 (inv.set hr') h'.1⟩) hw
theorem Gs_end (d : Nat) (hr : Region.ready .any ops listed = [d]) (hd : ∀ t ∈ T, (listed.setIfInBounds d true).getD t.2.2 true = true) (hB : Region.seqB .any ops (fuel + 1) d listed = true) (hz : (ops.toList.drop d).length = fuel + 1)
    (h : wpList P ops Q (ops.toList.drop d) a w) : Gs P ops Q T (fuel + 1) listed a w := by
  intro inv hh
  have hA := wpAny_of_seq (md := .any) (Q' := Q) (ops.toList.drop d) d listed a w (fun j => by simp [List.getElem?_drop]) (by rw [hz]; exact hB) h
  rw [hz] at hA
  refine ⟨hA.1, fun i hi => wpOp_mono (fun a' w' h' => ?_) (hA.2 i hi)⟩
  have hid : i = d := by rw [hr] at hi; simpa using hi
  have hall : ∀ t ∈ T, (listed.setIfInBounds i true).getD t.2.2 true = true := fun t ht => by rw [hid]; exact hd t ht
  exact ⟨fun t ht hl => (by rw [hall t ht] at hl; cases hl), wpAnyS_of_any fuel hall h'⟩
end
end Go.Proofs.YtdopfonebpklkaaGreat.game
