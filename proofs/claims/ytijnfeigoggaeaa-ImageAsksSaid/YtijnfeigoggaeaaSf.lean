/- The reference's Start and NewRoster. -/
import Derived.Test.YtijnfeigoggaeaaRe
import Derived.Test.YtijnfeigoggaeaaGe
import Derived.Test.YtijnfeigoggaeaaSu
namespace Go.Proofs.Ytijnfeigoggaeaa.game
open Go.ChangeShapes Go.WideShapes Go.ChangeAt Go.RowKit dice
set_option maxRecDepth 100000

def nobody : List Seat := List.replicate 8 ⟨-1, 0⟩
def startS (D : Int) : Ste := ⟨⟨0, D, List.replicate 8 zShp, []⟩, 0, nobody⟩
theorem rc_putPeer (v : Int) (A E : List Seat) (z : Seat) (p : Int) (k : Nat) (hk : A.length = k) : splice (rosterC v (A ++ z :: E)) (1 + k * 2) [.int .i64 p] = rosterC v (A ++ ⟨p, z.gen⟩ :: E) := by
  have e : ∀ z : Seat, rosterC v (A ++ z :: E) = ((Value.int .i64 v :: seatsL A) ++ ([Value.int .i64 z.peer] ++ (.int .i64 z.gen :: seatsL E))).toArray := fun z => by
    simp [rosterC, seatsL_append, seatsL_cons, seatL]
  rw [e z, e ⟨p, z.gen⟩]
  exact splice_mid _ _ _ _ _ (by simp [length_seatsL, hk]; omega) rfl
theorem res33 {fn : Func} {p : Tmp} {tmps : Array Value} {w : World} {b : Nat} {cs : Array Value} (h : fn.results = #[.cell p 33]) (ha : tmps.getD p undef = .pointer (some ⟨b, 0, none⟩)) (hb : w.heap[b]? = some (.cells cs 33 (0, 0))) (hs : cs.size = 17) :
    (results fn tmps).run Try.prog w = .ok (.agg cs) w := by
  have hl : (loadVar 33 ⟨b, 0, none⟩).run Try.prog w = .ok (.agg cs) w := run_loadVar_row w b 33 33 cs (0, 0) _ hb Try.underlying33 rfl (by rw [hs]; exact info33)
  rw [Array.getD_eq_getD_getElem?] at ha
  simp only [results, h]
  simp [ha, asAddr, hl]
theorem res35 {fn : Func} {p : Tmp} {tmps : Array Value} {w : World} {b : Nat} {cs : Array Value} (h : fn.results = #[.cell p 35]) (ha : tmps.getD p undef = .pointer (some ⟨b, 0, none⟩)) (hb : w.heap[b]? = some (.cells cs 35 (0, 0))) (hs : cs.size = 76) :
    (results fn tmps).run Try.prog w = .ok (.agg cs) w := by
  rw [Array.getD_eq_getD_getElem?] at ha
  simp only [results, h]
  simp [ha, asAddr, lv35 w b cs hb hs]
set_option maxHeartbeats 2000000 in
theorem newRoster_any (w0 : World) : Calls Try.prog 85 #[] w0 fun e w' => e = .returned (.agg (rosterC 0 nobody)) ∧ Below w0.heap.size w0 w' := by
  have H := Sb.start w0
  go_enter Try.func85, Try.ntmps85
  go_wp2_with (first | (refine wb_alloc H rfl 33 rfl _ Try.zeroValue33 ?_; clear H; intro b w H))
  rename_i b0 w9 _ _
  have HB : Hid (Sb [] w0 w [(b, rosterC 0 (List.replicate 8 ⟨0, 0⟩), 33), (b0, rosterC 0 (List.replicate 8 ⟨0, 0⟩), 33)] []) := Lib.hid H
  clear H
  go_loopw [2] (fun i W => ∃ k : Nat, k ≤ 8 ∧ i = .int .i64 k ∧ Hid (Sb [] w0 W [(b, rosterC 0 (List.replicate k ⟨-1, 0⟩ ++ List.replicate (8 - k) ⟨0, 0⟩), 33), (b0, rosterC 0 (List.replicate 8 ⟨0, 0⟩), 33)] [])) (fun i _ => 8 - (intOf i).toNat)
  case atStart => exact ⟨0, Nat.zero_le _, rfl, HB⟩
  case round =>
    clear HB
    obtain ⟨k, hk, rfl, HB⟩ := hrel
    by_cases hlt : k < 8
    · have H := HB.out
      rw [rep_cons k hlt (⟨0, 0⟩ : Seat)] at H
      have G1 := Lib.hid (rc_putPeer 0 (List.replicate k ⟨-1, 0⟩) (List.replicate (8 - (k + 1)) ⟨0, 0⟩) ⟨0, 0⟩ (-1) k (by simp))
      have hft : 1 + k * 2 + 1 ≤ (rosterC 0 (List.replicate k ⟨-1, 0⟩ ++ ⟨0, 0⟩ :: List.replicate (8 - (k + 1)) ⟨0, 0⟩)).size := by rw [rc_size (by simp; omega)]; omega
      have e1 : List.replicate k (⟨-1, 0⟩ : Seat) ++ ⟨-1, 0⟩ :: List.replicate (8 - (k + 1)) ⟨0, 0⟩ = List.replicate (k + 1) ⟨-1, 0⟩ ++ List.replicate (8 - (k + 1)) ⟨0, 0⟩ := by
        rw [List.replicate_succ', List.append_assoc]; rfl
      have E1 := Lib.hid e1
      clear HB e1
      go_wp2_with (refine wb_put H rfl 0 3 _ _ rfl _ (1 + k * 2) rfl _ _ rfl (.int .i64 (-1)) rfl 1 info3 rfl hft rfl _ G1.out ?_; clear H; intro w H)
      dsimp only [List.set_cons_zero] at H
      rw [E1.out] at H
      exact ⟨⟨k + 1, hlt, rfl, Lib.hid H⟩, by simp only [intOf]; omega⟩
    · obtain rfl : k = 8 := by omega
      have H : Sb [] w0 wr [(b, rosterC 0 nobody, 33), (b0, rosterC 0 (List.replicate 8 ⟨0, 0⟩), 33)] [] := HB.out
      have Hz : Hid ((rosterC 0 nobody).size = 17) := Lib.hid (rc_size rfl)
      have Hspl : Hid (splice (rosterC 0 (List.replicate 8 ⟨0, 0⟩)) 0 (Value.cells (.agg (rosterC 0 nobody))).toList = rosterC 0 nobody) := Lib.hid (splice_all _ _ rfl)
      have HONE : Hid ((Value.cells (.agg (rosterC 0 nobody))).toList.all (·.oneCell') = true) := Lib.hid (by decide +kernel)
      clear HB
      go_wp2_with (first | (refine wb_whole H rfl 0 33 _ rfl _ rfl (rosterC 0 nobody) rfl _ Try.underlying33 rfl 17 info33 Hz.out ?_) | (refine wb_put H rfl 1 33 _ _ rfl _ 0 rfl _ _ rfl (.agg (rosterC 0 nobody)) rfl 17 info33 Hz.out (Nat.le_of_ble_eq_true rfl) HONE.out _ Hspl.out ?_; clear H; intro w H))
      refine bodyPost_ret (v := .agg (rosterC 0 nobody)) ?_ rfl ⟨rfl, H.below⟩
      exact res33 rfl rfl (H.holds _ (List.mem_cons_of_mem _ (List.mem_cons_self ..))) Hz.out
theorem rnew0 (s : ByteArray) (w : World) (hs : s.size ≤ maxLen) (D : Int) (hd : seed s.data.toList = D) :
    Calls Try.prog 28 #[.string s] w fun e w' => e = .returned (.agg (gameC 0 D (List.replicate 8 zShp) (.slice none 0 0))) ∧ Below w.heap.size w w' := by
  have HSd := Lib.hid (fun w => rseed_any s w hs)
  rw [hd] at HSd
  have H := Sb.start w
  clear hd
  go_enter Try.func28, Try.ntmps28
  go_wp2_with (first | (refine wb_alloc H rfl 28 rfl _ Try.zeroValue28 ?_; clear H; intro b2 w H))
  refine (HSd.out _).mono ?_; rintro e w' ⟨rfl, rfl⟩
  go_wp2_with (refine wb_put H rfl 0 28 _ _ rfl _ 0 rfl _ _ rfl (.agg (gameC 0 D (List.replicate 8 zShp) (.slice none 0 0))) rfl 59 info28 rfl (Nat.le_of_ble_eq_true rfl) rfl (gameC 0 D (List.replicate 8 zShp) (.slice none 0 0)) rfl ?_; clear H; intro w H)
  refine bodyPost_ret (v := .agg (gameC 0 D (List.replicate 8 zShp) (.slice none 0 0))) ?_ rfl ⟨rfl, H.below⟩
  exact res1 rfl rfl (H.holds _ (List.mem_cons_self ..)) rfl
theorem wl_build {ops : Array Oper} {rest : List Oper} {o : Oper} {a : Act} {w : World} {Q : Exit → Act → World → Prop} (hg : o.guard = none) (t : TypeId) (parts : Array (Nat × Operand)) (ho : o.op = .build t parts) (cells : Array Value)
    (hf : Try.prog.built t (parts.map fun (i, x) => (i, a.eval x)).toList = some cells)
    (h : wpList Try.prog ops Q rest (a.put o.dst (.agg cells)) w) : wpList Try.prog ops Q (o :: rest) a w := by
  refine wpList_build hg t parts ho (by rw [hf]; rfl) ?_
  rw [hf]
  exact h
theorem start_any (s : ByteArray) (w0 : World) (hs : s.size ≤ maxLen) (D : Int) (hd : seed s.data.toList = D) :
    Calls Try.prog 45 #[.string s] w0 fun e w' => e = .returned (.agg (stateC (startS D) (.slice none 0 0))) ∧ Below w0.heap.size w0 w' := by
  have HN := Lib.hid (fun w => rnew0 s w hs D hd)
  have H := Sb.start w0
  clear hd
  go_enter Try.func45, Try.ntmps45
  go_wp2_with (first | (refine wb_alloc H rfl 35 rfl _ Try.zeroValue35 ?_; clear H; intro b2 w H))
  refine (HN.out _).mono ?_; rintro e w' ⟨rfl, hb⟩
  replace H := H.call hb
  clear hb
  go_wp2_with fail
  refine (newRoster_any _).mono ?_; rintro e w' ⟨rfl, hb⟩
  replace H := H.call hb
  clear hb
  have Hz : Hid ((stateC (startS D) (.slice none 0 0)).size = 76) := Lib.hid (sc_size rfl rfl)
  go_wp2_with (first | (refine wl_build rfl 35 _ rfl (stateC (startS D) (.slice none 0 0)) (by kernel_rfl) ?_) | (refine wb_put H rfl 0 35 _ _ rfl _ 0 rfl _ _ rfl (.agg (stateC (startS D) (.slice none 0 0))) rfl 76 info35 Hz.out (Nat.le_of_ble_eq_true rfl) rfl (stateC (startS D) (.slice none 0 0)) rfl ?_; clear H; intro w H))
  refine bodyPost_ret (v := .agg (stateC (startS D) (.slice none 0 0))) ?_ rfl ⟨rfl, H.below⟩
  exact res35 rfl rfl (H.holds _ (List.mem_cons_self ..)) Hz.out
end Go.Proofs.Ytijnfeigoggaeaa.game
