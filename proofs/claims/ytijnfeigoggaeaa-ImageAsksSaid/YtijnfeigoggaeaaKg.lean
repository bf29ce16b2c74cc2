/- The reference's Get: a state from its bytes (printed by mkrg.py). -/
import Derived.Test.YtijnfeigoggaeaaKb
import Derived.Test.YtijnfeigoggaeaaRy
import Derived.Test.YtijnfeigoggaeaaSf
import Derived.Deep.DeepCutAuto
namespace Go.Proofs.Ytijnfeigoggaeaa.game
open Go.ChangeShapes Go.WideShapes Go.ChangeAt Go.RowKit dice
set_option maxRecDepth 100000

theorem rn_max {k : Nat} {q : Rst} (h : q.2.length ≤ maxLen) : (rn k q).2.length ≤ maxLen := Nat.le_trans (rn_len k q) h
theorem rn_true {k : Nat} {q : Rst} (h : (rn k q).1 = true) : rv k q = 0 := by
  unfold rn at h
  unfold rv
  split
  · rfl
  · rename_i hn
    rw [if_neg hn] at h
    cases h
theorem At.done {b : List UInt8} {s : Ste} {q : Rst} (h : At (parse true b) (fun S => some (s, S)) q) (hq : (!q.1 && q.2.isEmpty) = true) : parse true b = some (s, []) := by
  obtain ⟨c, S⟩ := q
  cases c with
  | true => simp at hq
  | false =>
    have hS : S = [] := by simpa using hq
    subst hS
    unfold At at h
    simpa using h
theorem build24 (x : Int) : Try.prog.built 24 [(0, .bool true), (1, .int .i32 x)] = some (shipL ⟨true, x, 0, 0, 0, 0, 0⟩).toArray := by kernel_rfl
theorem build79 (x : Int) : Try.prog.built 79 [(0, .int .i64 x)] = some (shotL ⟨x, 0, 0, 0, 0, 0⟩).toArray := by kernel_rfl
theorem res20 {tmps : Array Value} {w : World} {b : Nat} {cs : Array Value} {x : Value} (ha : tmps.getD 2 undef = .pointer (some ⟨b, 0, none⟩)) (hx : tmps.getD 3 undef = x) (hb : w.heap[b]? = some (.cells cs 35 (0, 0))) (hs : cs.size = 76) :
    (results Try.f20 tmps).run Try.prog w = .ok (.tuple #[.agg cs, x]) w := by
  rw [Array.getD_eq_getD_getElem?] at ha hx
  simp only [results, Try.results20]
  simp [ha, hx, asAddr, lv35 w b cs hb hs]
section
variable {fr d ver : Int} {S : List Shp} {L : List Sht} {sl : Value}
theorem sc_putPeer (h8 : S.length = 8) (D E : List Seat) (z : Seat) (p : Int) (k : Nat) (hk : D.length = k) : splice (stateC ⟨⟨fr, d, S, L⟩, ver, D ++ z :: E⟩ sl) (60 + k * 2) [.int .i64 p] = stateC ⟨⟨fr, d, S, L⟩, ver, D ++ ⟨p, z.gen⟩ :: E⟩ sl := by
  have e : ∀ t : Seat, stateC ⟨⟨fr, d, S, L⟩, ver, D ++ t :: E⟩ sl = ((Value.int .i64 fr :: Value.int .u64 d :: (shipsL S ++ (sl :: .int .i64 ver :: seatsL D))) ++ ([Value.int .i64 t.peer] ++ (Value.int .i64 t.gen :: seatsL E))).toArray := fun t => by
    simp [stateC, stateL, seatsL_append, seatsL_cons, seatL]
  rw [e z, e ⟨p, z.gen⟩]
  exact splice_mid _ _ _ _ _ (by simp [length_shipsL, length_seatsL, hk, h8]; omega) rfl
theorem sc_putGen (h8 : S.length = 8) (D E : List Seat) (z : Seat) (g : Int) (k : Nat) (hk : D.length = k) : splice (stateC ⟨⟨fr, d, S, L⟩, ver, D ++ z :: E⟩ sl) (60 + k * 2 + 1) [.int .i64 g] = stateC ⟨⟨fr, d, S, L⟩, ver, D ++ ⟨z.peer, g⟩ :: E⟩ sl := by
  have e : ∀ t : Seat, stateC ⟨⟨fr, d, S, L⟩, ver, D ++ t :: E⟩ sl = ((Value.int .i64 fr :: Value.int .u64 d :: (shipsL S ++ (sl :: .int .i64 ver :: (seatsL D ++ [Value.int .i64 t.peer])))) ++ ([Value.int .i64 t.gen] ++ seatsL E)).toArray := fun t => by
    simp [stateC, stateL, seatsL_append, seatsL_cons, seatL]
  rw [e z, e ⟨z.peer, g⟩]
  exact splice_mid _ _ _ _ _ (by simp [length_shipsL, length_seatsL, hk, h8]; omega) rfl
end
set_option maxHeartbeats 8000000 in
theorem rget_any (b : List UInt8) (W0 : World) (hb : b.length ≤ maxLen) :
    Calls Try.prog 20 #[.string (strB b)] W0 (GetPost b W0) := by
  have H := Sb.start W0
  have HL0 : Hid (((false, b) : Rst).2.length ≤ maxLen) := Lib.hid hb
  clear hb
  go_enter Try.func20, Try.ntmps20
  go_upto_region 2 with (first | (refine wb_alloc H rfl 35 rfl _ Try.zeroValue35 ?_; clear H; intro p w H) | (refine wl_build rfl 101 _ rfl (rC (false, b)) (by kernel_rfl) ?_) | (refine wb_box H rfl 101 _ rfl (rC (false, b)) rfl ?_; clear H; intro r w H))
  go_wp2_with (refine wb_alloc H rfl 35 rfl _ Try.zeroValue35 ?_; clear H; intro s w H)
  replace H : Sb [] W0 w [(s, (stateC ⟨⟨0, 0, (List.replicate 8 zShp), []⟩, 0, (List.replicate 8 ⟨0, 0⟩)⟩ (.slice none 0 0)), 35), (r, rC (false, b), 101), (p, zC, 35)] [] := H
  refine (ri_step (false, b) H 1 r rfl HL0.out 4 (by decide) (by decide) 4 rfl).mono ?_
  rintro e w' ⟨rfl, hS⟩
  replace H : Sb [] W0 w' [(s, (stateC ⟨⟨0, 0, (List.replicate 8 zShp), []⟩, 0, (List.replicate 8 ⟨0, 0⟩)⟩ (.slice none 0 0)), 35), (r, rC (rn 4 (false, b)), 101), (p, zC, 35)] [] := hS
  clear hS
  go_wp2_with (refine wb_put H rfl 0 3 _ _ rfl _ (0) rfl _ _ rfl (.int .i64 (rv 4 (false, b))) rfl 1 info3 rfl (by rw [st_size (by simp) (by simp)]; omega) rfl ((stateC ⟨⟨(rv 4 (false, b)), 0, (List.replicate 8 zShp), []⟩, 0, (List.replicate 8 ⟨0, 0⟩)⟩ (.slice none 0 0))) (sc_putFr _) ?_; clear H; intro w H)
  refine (rn_step (rn 4 (false, b)) H 1 r rfl (rn_max HL0.out) 8 (by decide) (by decide) 8 rfl).mono ?_
  rintro e w' ⟨rfl, hS⟩
  replace H : Sb [] W0 w' [(s, (stateC ⟨⟨(rv 4 (false, b)), 0, (List.replicate 8 zShp), []⟩, 0, (List.replicate 8 ⟨0, 0⟩)⟩ (.slice none 0 0)), 35), (r, rC (rn 8 (rn 4 (false, b))), 101), (p, zC, 35)] [] := hS
  clear hS
  go_wp2_with (refine wb_put H rfl 0 22 _ _ rfl _ (1) rfl _ _ rfl (.int .u64 (rv 8 (rn 4 (false, b)))) rfl 1 info22 rfl (by rw [st_size (by simp) (by simp)]; omega) rfl ((stateC ⟨⟨(rv 4 (false, b)), (rv 8 (rn 4 (false, b))), (List.replicate 8 zShp), []⟩, 0, (List.replicate 8 ⟨0, 0⟩)⟩ (.slice none 0 0))) (sc_putD _) ?_; clear H; intro w H)
  have HB : Hid (Sb [] W0 w [(s, (stateC ⟨⟨(rv 4 (false, b)), (rv 8 (rn 4 (false, b))), (List.replicate 8 zShp), []⟩, 0, (List.replicate 8 ⟨0, 0⟩)⟩ (.slice none 0 0)), 35), (r, rC (rn 8 (rn 4 (false, b))), 101), (p, zC, 35)] []) := Lib.hid H
  have HA : Hid (At (parse true b) (rdMany (rdShip true) (rdMid (rv 4 (false, b)) (rv 8 (rn 4 (false, b)))) 8 []) (rn 8 (rn 4 (false, b)))) := Lib.hid (At.head (At.start b))
  have HL1 : Hid ((rn 8 (rn 4 (false, b))).2.length ≤ maxLen) := Lib.hid ((rn_max (rn_max HL0.out)))
  generalize (rn 8 (rn 4 (false, b))) = q0 at *
  generalize (rv 4 (false, b)) = fr at *
  generalize (rv 8 (rn 4 (false, b))) = d at *
  clear H HL0
  go_loopw [6] (fun i W => ∃ (k : Nat) (D : List Shp) (q : Rst), k ≤ 8 ∧ i = .int .i64 k ∧ Hid (Sb [] W0 W [(s, (stateC ⟨⟨fr, d, (D ++ List.replicate (8 - k) zShp), []⟩, 0, (List.replicate 8 ⟨0, 0⟩)⟩ (.slice none 0 0)), 35), (r, rC q, 101), (p, zC, 35)] []) ∧ Hid (q.2.length ≤ maxLen) ∧ Hid (D.length = k ∧ At (parse true b) (rdMany (rdShip true) (rdMid fr d) (8 - k) D) q)) (fun i _ => 8 - (intOf i).toNat)
  case atStart => exact ⟨0, [], q0, Nat.zero_le _, rfl, HB, HL1, Lib.hid ⟨rfl, HA.out⟩⟩
  case round =>
    clear HB HL1 HA
    obtain ⟨k, D, q, hk, rfl, HB, HL, HG⟩ := hrel
    by_cases hlt : k < 8
    · have hrep := rep_cons k hlt zShp
      have H := HB.out
      rw [hrep] at H
      have HG2 : Hid (At (parse true b) (rdMany (rdShip true) (rdMid fr d) (8 - (k + 1) + 1) D) q) := Lib.hid (by rw [show 8 - (k + 1) + 1 = 8 - k by omega]; exact HG.out.2)
      have Hs8 : Hid (∀ z : Shp, (D ++ z :: List.replicate (8 - (k + 1)) zShp).length = 8) := Lib.hid (fun z => by have := HG.out.1; simp; omega)
      have hDl := Lib.hid HG.out.1
      clear HB hrep HG
      go_wp2_with fail
      refine (ri_step q H 1 r rfl HL.out 1 (by decide) (by decide) 1 rfl).mono ?_
      rintro e w' ⟨rfl, hS⟩
      replace H : Sb [] W0 w' [(s, (stateC ⟨⟨fr, d, (D ++ zShp :: List.replicate (8 - (k + 1)) zShp), []⟩, 0, (List.replicate 8 ⟨0, 0⟩)⟩ (.slice none 0 0)), 35), (r, rC (rn 1 q), 101), (p, zC, 35)] [] := hS
      clear hS
      have HL1 : Hid ((rn 1 q).2.length ≤ maxLen) := Lib.hid (rn_max HL.out)
      have htr : (rn 1 q).1 = true → rv 1 q = 0 := rn_true
      have H1 : Hid (rv 1 q = 1 → At (parse true b) (rdMany (rdShip true) (rdMid fr d) (8 - (k + 1)) (D ++ [⟨true, sg32 (rv 4 (rn 1 q)), sg32 (rv 4 (rn 4 (rn 1 q))), sg32 (rv 4 (rn 4 (rn 4 (rn 1 q)))), sg32 (rv 4 (rn 4 (rn 4 (rn 4 (rn 1 q))))), rv 1 (rn 4 (rn 4 (rn 4 (rn 4 (rn 1 q))))), rv 4 (rn 1 (rn 4 (rn 4 (rn 4 (rn 4 (rn 1 q))))))⟩])) (rn 4 (rn 1 (rn 4 (rn 4 (rn 4 (rn 4 (rn 1 q)))))))) := Lib.hid (fun hf => At.ship1 HG2.out hf)
      have H2 : Hid (¬ rv 1 q = 1 → At (parse true b) (rdMany (rdShip true) (rdMid fr d) (8 - (k + 1)) (D ++ [zShp])) ((rn 1 q).1 || decide (1 < rv 1 q), (rn 1 q).2)) := Lib.hid (fun hf => At.ship0 HG2.out hf)
      have hf8 : rv 1 q < 256 := rv_lt 1 q
      generalize rn 1 q = q1 at *
      generalize rv 1 q = f at *
      clear HL HG2
      obtain ⟨c, S1⟩ := q1
      dsimp only at htr
      by_cases hf : f = 1
      · obtain rfl : c = false := by cases c with | true => have := htr rfl; omega | false => rfl
        subst hf
        clear htr H2 hf8
        go_wp2_with (first | (refine wb_cell H rfl 1 4 _ rfl _ 1 rfl _ _ rfl Try.isAgg4 (.bool false) rfl ?_) | (refine wb_put H rfl 1 4 _ _ rfl _ 1 rfl _ _ rfl (.bool false) rfl 1 info4 rfl (Nat.le_of_ble_eq_true rfl) rfl (rC (false, S1)) rfl ?_; clear H; intro w H))
        replace H : Sb [] W0 w [(s, (stateC ⟨⟨fr, d, (D ++ zShp :: List.replicate (8 - (k + 1)) zShp), []⟩, 0, (List.replicate 8 ⟨0, 0⟩)⟩ (.slice none 0 0)), 35), (r, rC (false, S1), 101), (p, zC, 35)] [] := H
        refine (r4_step (false, S1) H 1 r rfl HL1.out).mono ?_
        rintro e w' ⟨rfl, hS⟩
        replace H : Sb [] W0 w' [(s, (stateC ⟨⟨fr, d, (D ++ zShp :: List.replicate (8 - (k + 1)) zShp), []⟩, 0, (List.replicate 8 ⟨0, 0⟩)⟩ (.slice none 0 0)), 35), (r, rC (rn 4 (false, S1)), 101), (p, zC, 35)] [] := hS
        clear hS
        go_wp2_with (first | (refine wl_build rfl 24 _ rfl ((shipL ⟨true, sg32 (rv 4 (false, S1)), 0, 0, 0, 0, 0⟩).toArray) (build24 _) ?_) | (refine wb_alloc H rfl 24 rfl _ Try.zeroValue24 ?_; clear H; intro x w H; replace H : Sb [] W0 w [(x, (shipL zShp).toArray, 24), (s, (stateC ⟨⟨fr, d, (D ++ zShp :: List.replicate (8 - (k + 1)) zShp), []⟩, 0, (List.replicate 8 ⟨0, 0⟩)⟩ (.slice none 0 0)), 35), (r, rC (rn 4 (false, S1)), 101), (p, zC, 35)] [] := H) | (refine wb_put H rfl 0 24 _ _ rfl _ 0 rfl _ _ rfl (.agg (shipL ⟨true, sg32 (rv 4 (false, S1)), 0, 0, 0, 0, 0⟩).toArray) rfl 7 info24 rfl (Nat.le_of_ble_eq_true rfl) rfl ((shipL ⟨true, sg32 (rv 4 (false, S1)), 0, 0, 0, 0, 0⟩).toArray) rfl ?_; clear H; intro w H))
        replace H : Sb [] W0 w [(x, (shipL ⟨true, sg32 (rv 4 (false, S1)), 0, 0, 0, 0, 0⟩).toArray, 24), (s, (stateC ⟨⟨fr, d, (D ++ zShp :: List.replicate (8 - (k + 1)) zShp), []⟩, 0, (List.replicate 8 ⟨0, 0⟩)⟩ (.slice none 0 0)), 35), (r, rC (rn 4 (false, S1)), 101), (p, zC, 35)] [] := H
        refine (r4_step (rn 4 (false, S1)) H 2 r rfl (rn_max HL1.out)).mono ?_
        rintro e w' ⟨rfl, hS⟩
        replace H : Sb [] W0 w' [(x, (shipL ⟨true, sg32 (rv 4 (false, S1)), 0, 0, 0, 0, 0⟩).toArray, 24), (s, (stateC ⟨⟨fr, d, (D ++ zShp :: List.replicate (8 - (k + 1)) zShp), []⟩, 0, (List.replicate 8 ⟨0, 0⟩)⟩ (.slice none 0 0)), 35), (r, rC (rn 4 (rn 4 (false, S1))), 101), (p, zC, 35)] [] := hS
        clear hS
        go_wp2_with (refine wb_put H rfl 0 21 _ _ rfl _ 2 rfl _ _ rfl (.int .i32 (sg32 (rv 4 (rn 4 (false, S1))))) rfl 1 info21 rfl (Nat.le_of_ble_eq_true rfl) rfl ((shipL ⟨true, sg32 (rv 4 (false, S1)), sg32 (rv 4 (rn 4 (false, S1))), 0, 0, 0, 0⟩).toArray) rfl ?_; clear H; intro w H)
        replace H : Sb [] W0 w [(x, (shipL ⟨true, sg32 (rv 4 (false, S1)), sg32 (rv 4 (rn 4 (false, S1))), 0, 0, 0, 0⟩).toArray, 24), (s, (stateC ⟨⟨fr, d, (D ++ zShp :: List.replicate (8 - (k + 1)) zShp), []⟩, 0, (List.replicate 8 ⟨0, 0⟩)⟩ (.slice none 0 0)), 35), (r, rC (rn 4 (rn 4 (false, S1))), 101), (p, zC, 35)] [] := H
        refine (r4_step (rn 4 (rn 4 (false, S1))) H 2 r rfl (rn_max (rn_max HL1.out))).mono ?_
        rintro e w' ⟨rfl, hS⟩
        replace H : Sb [] W0 w' [(x, (shipL ⟨true, sg32 (rv 4 (false, S1)), sg32 (rv 4 (rn 4 (false, S1))), 0, 0, 0, 0⟩).toArray, 24), (s, (stateC ⟨⟨fr, d, (D ++ zShp :: List.replicate (8 - (k + 1)) zShp), []⟩, 0, (List.replicate 8 ⟨0, 0⟩)⟩ (.slice none 0 0)), 35), (r, rC (rn 4 (rn 4 (rn 4 (false, S1)))), 101), (p, zC, 35)] [] := hS
        clear hS
        go_wp2_with (refine wb_put H rfl 0 21 _ _ rfl _ 3 rfl _ _ rfl (.int .i32 (sg32 (rv 4 (rn 4 (rn 4 (false, S1)))))) rfl 1 info21 rfl (Nat.le_of_ble_eq_true rfl) rfl ((shipL ⟨true, sg32 (rv 4 (false, S1)), sg32 (rv 4 (rn 4 (false, S1))), sg32 (rv 4 (rn 4 (rn 4 (false, S1)))), 0, 0, 0⟩).toArray) rfl ?_; clear H; intro w H)
        replace H : Sb [] W0 w [(x, (shipL ⟨true, sg32 (rv 4 (false, S1)), sg32 (rv 4 (rn 4 (false, S1))), sg32 (rv 4 (rn 4 (rn 4 (false, S1)))), 0, 0, 0⟩).toArray, 24), (s, (stateC ⟨⟨fr, d, (D ++ zShp :: List.replicate (8 - (k + 1)) zShp), []⟩, 0, (List.replicate 8 ⟨0, 0⟩)⟩ (.slice none 0 0)), 35), (r, rC (rn 4 (rn 4 (rn 4 (false, S1)))), 101), (p, zC, 35)] [] := H
        refine (r4_step (rn 4 (rn 4 (rn 4 (false, S1)))) H 2 r rfl (rn_max (rn_max (rn_max HL1.out)))).mono ?_
        rintro e w' ⟨rfl, hS⟩
        replace H : Sb [] W0 w' [(x, (shipL ⟨true, sg32 (rv 4 (false, S1)), sg32 (rv 4 (rn 4 (false, S1))), sg32 (rv 4 (rn 4 (rn 4 (false, S1)))), 0, 0, 0⟩).toArray, 24), (s, (stateC ⟨⟨fr, d, (D ++ zShp :: List.replicate (8 - (k + 1)) zShp), []⟩, 0, (List.replicate 8 ⟨0, 0⟩)⟩ (.slice none 0 0)), 35), (r, rC (rn 4 (rn 4 (rn 4 (rn 4 (false, S1))))), 101), (p, zC, 35)] [] := hS
        clear hS
        go_wp2_with (refine wb_put H rfl 0 21 _ _ rfl _ 4 rfl _ _ rfl (.int .i32 (sg32 (rv 4 (rn 4 (rn 4 (rn 4 (false, S1))))))) rfl 1 info21 rfl (Nat.le_of_ble_eq_true rfl) rfl ((shipL ⟨true, sg32 (rv 4 (false, S1)), sg32 (rv 4 (rn 4 (false, S1))), sg32 (rv 4 (rn 4 (rn 4 (false, S1)))), sg32 (rv 4 (rn 4 (rn 4 (rn 4 (false, S1))))), 0, 0⟩).toArray) rfl ?_; clear H; intro w H)
        replace H : Sb [] W0 w [(x, (shipL ⟨true, sg32 (rv 4 (false, S1)), sg32 (rv 4 (rn 4 (false, S1))), sg32 (rv 4 (rn 4 (rn 4 (false, S1)))), sg32 (rv 4 (rn 4 (rn 4 (rn 4 (false, S1))))), 0, 0⟩).toArray, 24), (s, (stateC ⟨⟨fr, d, (D ++ zShp :: List.replicate (8 - (k + 1)) zShp), []⟩, 0, (List.replicate 8 ⟨0, 0⟩)⟩ (.slice none 0 0)), 35), (r, rC (rn 4 (rn 4 (rn 4 (rn 4 (false, S1))))), 101), (p, zC, 35)] [] := H
        refine (ri_step (rn 4 (rn 4 (rn 4 (rn 4 (false, S1))))) H 2 r rfl (rn_max (rn_max (rn_max (rn_max HL1.out)))) 1 (by decide) (by decide) 1 rfl).mono ?_
        rintro e w' ⟨rfl, hS⟩
        replace H : Sb [] W0 w' [(x, (shipL ⟨true, sg32 (rv 4 (false, S1)), sg32 (rv 4 (rn 4 (false, S1))), sg32 (rv 4 (rn 4 (rn 4 (false, S1)))), sg32 (rv 4 (rn 4 (rn 4 (rn 4 (false, S1))))), 0, 0⟩).toArray, 24), (s, (stateC ⟨⟨fr, d, (D ++ zShp :: List.replicate (8 - (k + 1)) zShp), []⟩, 0, (List.replicate 8 ⟨0, 0⟩)⟩ (.slice none 0 0)), 35), (r, rC (rn 1 (rn 4 (rn 4 (rn 4 (rn 4 (false, S1)))))), 101), (p, zC, 35)] [] := hS
        clear hS
        go_wp2_with (refine wb_put H rfl 0 3 _ _ rfl _ 5 rfl _ _ rfl (.int .i64 (((rv 1 (rn 4 (rn 4 (rn 4 (rn 4 (false, S1))))) : Nat) : Int))) rfl 1 info3 rfl (Nat.le_of_ble_eq_true rfl) rfl ((shipL ⟨true, sg32 (rv 4 (false, S1)), sg32 (rv 4 (rn 4 (false, S1))), sg32 (rv 4 (rn 4 (rn 4 (false, S1)))), sg32 (rv 4 (rn 4 (rn 4 (rn 4 (false, S1))))), ((rv 1 (rn 4 (rn 4 (rn 4 (rn 4 (false, S1))))) : Nat) : Int), 0⟩).toArray) rfl ?_; clear H; intro w H)
        replace H : Sb [] W0 w [(x, (shipL ⟨true, sg32 (rv 4 (false, S1)), sg32 (rv 4 (rn 4 (false, S1))), sg32 (rv 4 (rn 4 (rn 4 (false, S1)))), sg32 (rv 4 (rn 4 (rn 4 (rn 4 (false, S1))))), ((rv 1 (rn 4 (rn 4 (rn 4 (rn 4 (false, S1))))) : Nat) : Int), 0⟩).toArray, 24), (s, (stateC ⟨⟨fr, d, (D ++ zShp :: List.replicate (8 - (k + 1)) zShp), []⟩, 0, (List.replicate 8 ⟨0, 0⟩)⟩ (.slice none 0 0)), 35), (r, rC (rn 1 (rn 4 (rn 4 (rn 4 (rn 4 (false, S1)))))), 101), (p, zC, 35)] [] := H
        refine (ri_step (rn 1 (rn 4 (rn 4 (rn 4 (rn 4 (false, S1)))))) H 2 r rfl (rn_max (rn_max (rn_max (rn_max (rn_max HL1.out))))) 4 (by decide) (by decide) 4 rfl).mono ?_
        rintro e w' ⟨rfl, hS⟩
        replace H : Sb [] W0 w' [(x, (shipL ⟨true, sg32 (rv 4 (false, S1)), sg32 (rv 4 (rn 4 (false, S1))), sg32 (rv 4 (rn 4 (rn 4 (false, S1)))), sg32 (rv 4 (rn 4 (rn 4 (rn 4 (false, S1))))), ((rv 1 (rn 4 (rn 4 (rn 4 (rn 4 (false, S1))))) : Nat) : Int), 0⟩).toArray, 24), (s, (stateC ⟨⟨fr, d, (D ++ zShp :: List.replicate (8 - (k + 1)) zShp), []⟩, 0, (List.replicate 8 ⟨0, 0⟩)⟩ (.slice none 0 0)), 35), (r, rC (rn 4 (rn 1 (rn 4 (rn 4 (rn 4 (rn 4 (false, S1))))))), 101), (p, zC, 35)] [] := hS
        clear hS
        have G1 := Lib.hid (sc_putShip (fr := fr) (d := d) (ver := 0) (L := []) (T := List.replicate 8 ⟨0, 0⟩) (sl := .slice none 0 0) D (List.replicate (8 - (k + 1)) zShp) zShp ⟨true, sg32 (rv 4 (false, S1)), sg32 (rv 4 (rn 4 (false, S1))), sg32 (rv 4 (rn 4 (rn 4 (false, S1)))), sg32 (rv 4 (rn 4 (rn 4 (rn 4 (false, S1))))), ((rv 1 (rn 4 (rn 4 (rn 4 (rn 4 (false, S1))))) : Nat) : Int), ((rv 4 (rn 1 (rn 4 (rn 4 (rn 4 (rn 4 (false, S1)))))) : Nat) : Int)⟩ k hDl.out)
        have hft : 2 + k * 7 + 7 ≤ (stateC ⟨⟨fr, d, (D ++ zShp :: List.replicate (8 - (k + 1)) zShp), []⟩, 0, (List.replicate 8 ⟨0, 0⟩)⟩ (.slice none 0 0)).size := by rw [st_size (Hs8.out _) (by simp)]; omega
        go_wp2_with (first | (refine wb_put H rfl 0 3 _ _ rfl _ 6 rfl _ _ rfl (.int .i64 (((rv 4 (rn 1 (rn 4 (rn 4 (rn 4 (rn 4 (false, S1)))))) : Nat) : Int))) rfl 1 info3 rfl (Nat.le_of_ble_eq_true rfl) rfl ((shipL ⟨true, sg32 (rv 4 (false, S1)), sg32 (rv 4 (rn 4 (false, S1))), sg32 (rv 4 (rn 4 (rn 4 (false, S1)))), sg32 (rv 4 (rn 4 (rn 4 (rn 4 (false, S1))))), ((rv 1 (rn 4 (rn 4 (rn 4 (rn 4 (false, S1))))) : Nat) : Int), ((rv 4 (rn 1 (rn 4 (rn 4 (rn 4 (rn 4 (false, S1)))))) : Nat) : Int)⟩).toArray) rfl ?_; clear H; intro w H; replace H : Sb [] W0 w [(x, (shipL ⟨true, sg32 (rv 4 (false, S1)), sg32 (rv 4 (rn 4 (false, S1))), sg32 (rv 4 (rn 4 (rn 4 (false, S1)))), sg32 (rv 4 (rn 4 (rn 4 (rn 4 (false, S1))))), ((rv 1 (rn 4 (rn 4 (rn 4 (rn 4 (false, S1))))) : Nat) : Int), ((rv 4 (rn 1 (rn 4 (rn 4 (rn 4 (rn 4 (false, S1)))))) : Nat) : Int)⟩).toArray, 24), (s, (stateC ⟨⟨fr, d, (D ++ zShp :: List.replicate (8 - (k + 1)) zShp), []⟩, 0, (List.replicate 8 ⟨0, 0⟩)⟩ (.slice none 0 0)), 35), (r, rC (rn 4 (rn 1 (rn 4 (rn 4 (rn 4 (rn 4 (false, S1))))))), 101), (p, zC, 35)] [] := H) | (refine wb_whole H rfl 0 24 _ rfl _ rfl ((shipL ⟨true, sg32 (rv 4 (false, S1)), sg32 (rv 4 (rn 4 (false, S1))), sg32 (rv 4 (rn 4 (rn 4 (false, S1)))), sg32 (rv 4 (rn 4 (rn 4 (rn 4 (false, S1))))), ((rv 1 (rn 4 (rn 4 (rn 4 (rn 4 (false, S1))))) : Nat) : Int), ((rv 4 (rn 1 (rn 4 (rn 4 (rn 4 (rn 4 (false, S1)))))) : Nat) : Int)⟩).toArray) rfl _ Try.underlying24 rfl 7 info24 rfl ?_) | (refine wb_put H rfl 1 24 _ _ rfl _ (2 + k * 7) rfl _ _ rfl (.agg ((shipL ⟨true, sg32 (rv 4 (false, S1)), sg32 (rv 4 (rn 4 (false, S1))), sg32 (rv 4 (rn 4 (rn 4 (false, S1)))), sg32 (rv 4 (rn 4 (rn 4 (rn 4 (false, S1))))), ((rv 1 (rn 4 (rn 4 (rn 4 (rn 4 (false, S1))))) : Nat) : Int), ((rv 4 (rn 1 (rn 4 (rn 4 (rn 4 (rn 4 (false, S1)))))) : Nat) : Int)⟩).toArray)) rfl 7 info24 rfl hft rfl _ G1.out ?_; clear H; intro w H))
        replace H : Sb [] W0 w [(s, (stateC ⟨⟨fr, d, (D ++ ⟨true, sg32 (rv 4 (false, S1)), sg32 (rv 4 (rn 4 (false, S1))), sg32 (rv 4 (rn 4 (rn 4 (false, S1)))), sg32 (rv 4 (rn 4 (rn 4 (rn 4 (false, S1))))), ((rv 1 (rn 4 (rn 4 (rn 4 (rn 4 (false, S1))))) : Nat) : Int), ((rv 4 (rn 1 (rn 4 (rn 4 (rn 4 (rn 4 (false, S1)))))) : Nat) : Int)⟩ :: List.replicate (8 - (k + 1)) zShp), []⟩, 0, (List.replicate 8 ⟨0, 0⟩)⟩ (.slice none 0 0)), 35), (r, rC (rn 4 (rn 1 (rn 4 (rn 4 (rn 4 (rn 4 (false, S1))))))), 101), (p, zC, 35)] [] := H.tail
        exact ⟨⟨k + 1, D ++ [⟨true, sg32 (rv 4 (false, S1)), sg32 (rv 4 (rn 4 (false, S1))), sg32 (rv 4 (rn 4 (rn 4 (false, S1)))), sg32 (rv 4 (rn 4 (rn 4 (rn 4 (false, S1))))), ((rv 1 (rn 4 (rn 4 (rn 4 (rn 4 (false, S1))))) : Nat) : Int), ((rv 4 (rn 1 (rn 4 (rn 4 (rn 4 (rn 4 (false, S1)))))) : Nat) : Int)⟩], (rn 4 (rn 1 (rn 4 (rn 4 (rn 4 (rn 4 (false, S1))))))), hlt, rfl, Lib.hid (by rw [List.append_assoc]; exact H), Lib.hid ((rn_max (rn_max (rn_max (rn_max (rn_max (rn_max HL1.out))))))), Lib.hid ⟨by rw [List.length_append, hDl.out]; rfl, H1.out trivial⟩⟩, by simp only [intOf]; omega⟩
      · have hf' : ¬ (f : Int) = 1 := by omega
        have H3 := Lib.hid (H2.out hf)
        clear H1 H2
        cases c with
        | true =>
          have hf0 : f = 0 := htr rfl
          subst hf0
          clear htr hf' hf hf8
          go_wp2_with (first | (refine wb_cell H rfl 1 4 _ rfl _ 1 rfl _ _ rfl Try.isAgg4 (.bool true) rfl ?_) | (refine wb_put H rfl 1 4 _ _ rfl _ 1 rfl _ _ rfl (.bool true) rfl 1 info4 rfl (Nat.le_of_ble_eq_true rfl) rfl (rC (true, S1)) rfl ?_; clear H; intro w H))
          replace H : Sb [] W0 w [(s, (stateC ⟨⟨fr, d, (D ++ zShp :: List.replicate (8 - (k + 1)) zShp), []⟩, 0, (List.replicate 8 ⟨0, 0⟩)⟩ (.slice none 0 0)), 35), (r, rC (true, S1), 101), (p, zC, 35)] [] := H
          exact ⟨⟨k + 1, D ++ [zShp], (true, S1), hlt, rfl, Lib.hid (by rw [List.append_assoc]; exact H), HL1, Lib.hid ⟨by rw [List.length_append, hDl.out]; rfl, H3.out⟩⟩, by simp only [intOf]; omega⟩
        | false =>
          by_cases hf1 : 1 < f
          · have hf1' : (1 : Int) < (f : Int) := by omega
            have e3 : (false || decide (1 < f)) = true := by simp [hf1]
            rw [e3] at H3
            clear htr e3
            go_wp2_with (first | (refine wb_cell H rfl 1 4 _ rfl _ 1 rfl _ _ rfl Try.isAgg4 (.bool false) rfl ?_) | (refine wb_put H rfl 1 4 _ _ rfl _ 1 rfl _ _ rfl (.bool true) rfl 1 info4 rfl (Nat.le_of_ble_eq_true rfl) rfl (rC (true, S1)) rfl ?_; clear H; intro w H))
            replace H : Sb [] W0 w [(s, (stateC ⟨⟨fr, d, (D ++ zShp :: List.replicate (8 - (k + 1)) zShp), []⟩, 0, (List.replicate 8 ⟨0, 0⟩)⟩ (.slice none 0 0)), 35), (r, rC (true, S1), 101), (p, zC, 35)] [] := H
            exact ⟨⟨k + 1, D ++ [zShp], (true, S1), hlt, rfl, Lib.hid (by rw [List.append_assoc]; exact H), HL1, Lib.hid ⟨by rw [List.length_append, hDl.out]; rfl, H3.out⟩⟩, by simp only [intOf]; omega⟩
          · obtain rfl : f = 0 := by omega
            have e3 : (false || decide (1 < 0)) = false := rfl
            rw [e3] at H3
            clear htr hf' hf hf8 e3
            go_wp2_with (first | (refine wb_cell H rfl 1 4 _ rfl _ 1 rfl _ _ rfl Try.isAgg4 (.bool false) rfl ?_) | (refine wb_put H rfl 1 4 _ _ rfl _ 1 rfl _ _ rfl (.bool false) rfl 1 info4 rfl (Nat.le_of_ble_eq_true rfl) rfl (rC (false, S1)) rfl ?_; clear H; intro w H))
            replace H : Sb [] W0 w [(s, (stateC ⟨⟨fr, d, (D ++ zShp :: List.replicate (8 - (k + 1)) zShp), []⟩, 0, (List.replicate 8 ⟨0, 0⟩)⟩ (.slice none 0 0)), 35), (r, rC (false, S1), 101), (p, zC, 35)] [] := H
            exact ⟨⟨k + 1, D ++ [zShp], (false, S1), hlt, rfl, Lib.hid (by rw [List.append_assoc]; exact H), HL1, Lib.hid ⟨by rw [List.length_append, hDl.out]; rfl, H3.out⟩⟩, by simp only [intOf]; omega⟩
    · obtain rfl : k = 8 := by omega
      have H := HB.out
      rw [show 8 - 8 = 0 from rfl, List.replicate_zero, List.append_nil] at H
      have HD8 := Lib.hid HG.out.1
      have HG2 : Hid (At (parse true b) (rdMid fr d D) q) := Lib.hid HG.out.2
      clear HB HG
      go_wp2_with fail
      refine (ri_step q H 1 r rfl HL.out 1 (by decide) (by decide) 1 rfl).mono ?_
      rintro e w' ⟨rfl, hS⟩
      replace H : Sb [] W0 w' [(s, (stateC ⟨⟨fr, d, D, []⟩, 0, (List.replicate 8 ⟨0, 0⟩)⟩ (.slice none 0 0)), 35), (r, rC (rn 1 q), 101), (p, zC, 35)] [] := hS
      clear hS
      have HL1 : Hid ((rn 1 q).2.length ≤ maxLen) := Lib.hid (rn_max HL.out)
      have HG3 : Hid (At (parse true b) (rdMany rdShot (fun L b => rdEnd ⟨fr, d, D, L⟩ b) (rv 1 q) []) (rn 1 q)) := Lib.hid (At.mid HG2.out)
      have hn8 : rv 1 q < 256 := rv_lt 1 q
      have HB := Lib.hid H
      generalize rn 1 q = q1 at *
      generalize rv 1 q = n at *
      clear H HL HG2
      go_wp2_with fail
      go_loopw [10] (fun x W => ∃ (m : Nat) (L : List Sht) (q : Rst) (sl : Value), m ≤ n ∧ x = .int .i64 m ∧ Hid (Sb [] W0 W [(s, (stateC ⟨⟨fr, d, D, L⟩, 0, (List.replicate 8 ⟨0, 0⟩)⟩ sl), 35), (r, rC q, 101), (p, zC, 35)] [(sl, L)]) ∧ Hid (q.2.length ≤ maxLen) ∧ Hid (L.length = m ∧ At (parse true b) (rdMany rdShot (fun L b => rdEnd ⟨fr, d, D, L⟩ b) (n - m) L) q)) (fun x _ => n - (intOf x).toNat)
      case atStart => exact ⟨0, [], q1, .slice none 0 0, Nat.zero_le _, rfl, Lib.hid (Sb.nilRow HB.out), HL1, Lib.hid ⟨rfl, HG3.out⟩⟩
      case round =>
        clear HB HL1 HG3
        obtain ⟨m, L, q, sl, hm, rfl, HB, HL, HG⟩ := hrel
        obtain ⟨c, S1⟩ := q
        go_upto_region 20 with fail
        go_cut [77] (fun v wx => v = .bool (decide (m < n) && !c) ∧ wr = wx)
        case first =>
          have H := HB.out
          clear HB HG HL
          by_cases hlt : m < n
          · cases c with
            | true =>
              go_wp2_with (first | (refine wb_cell H rfl 1 4 _ rfl _ 1 rfl _ _ rfl Try.isAgg4 (.bool true) rfl ?_))
              go_meet
              exact ⟨by simp, rfl⟩
            | false =>
              go_wp2_with (first | (refine wb_cell H rfl 1 4 _ rfl _ 1 rfl _ _ rfl Try.isAgg4 (.bool false) rfl ?_))
              go_meet
              exact ⟨by simp [hlt], rfl⟩
          · go_wp2_with fail
            go_meet
            exact ⟨by simp [hlt], rfl⟩
        case rest =>
          obtain ⟨rfl, rfl⟩ := hcut
          by_cases hgo : m < n ∧ c = false
          · obtain ⟨hlt, rfl⟩ := hgo
            rw [show (decide (m < n) && !false) = true by simp [hlt]]
            have H := HB.out
            obtain ⟨ads, cap, hsl⟩ := own_form (H.rows _ (List.mem_cons_self ..))
            dsimp only at hsl
            subst hsl
            have HLm := Lib.hid HG.out.1
            have HG2 : Hid (At (parse true b) (rdMany rdShot (fun L b => rdEnd ⟨fr, d, D, L⟩ b) (n - (m + 1) + 1) L) (false, S1)) := Lib.hid (by rw [show n - (m + 1) + 1 = n - m by omega]; exact HG.out.2)
            have HG4 := Lib.hid (At.shot HG2.out)
            have Hs58 := Lib.hid (sc_shots (s := ⟨⟨fr, d, D, L⟩, 0, List.replicate 8 ⟨0, 0⟩⟩) (sl := .slice ads L.length cap) HD8.out)
            clear HB HG HG2
            go_wp2_with fail
            refine (ri_step (false, S1) H 1 r rfl HL.out 1 (by decide) (by decide) 1 rfl).mono ?_
            rintro e w' ⟨rfl, hS⟩
            replace H : Sb [] W0 w' [(s, (stateC ⟨⟨fr, d, D, L⟩, 0, (List.replicate 8 ⟨0, 0⟩)⟩ (.slice ads L.length cap)), 35), (r, rC (rn 1 (false, S1)), 101), (p, zC, 35)] [((.slice ads L.length cap), L)] := hS
            clear hS
            go_wp2_with (first | (refine wl_build rfl 79 _ rfl ((shotL ⟨((rv 1 (false, S1) : Nat) : Int), 0, 0, 0, 0, 0⟩).toArray) (build79 _) ?_) | (refine wb_alloc H rfl 79 rfl _ Try.zeroValue79 ?_; clear H; intro x w H; replace H : Sb [] W0 w [(x, (shotL ⟨0, 0, 0, 0, 0, 0⟩).toArray, 79), (s, (stateC ⟨⟨fr, d, D, L⟩, 0, (List.replicate 8 ⟨0, 0⟩)⟩ (.slice ads L.length cap)), 35), (r, rC (rn 1 (false, S1)), 101), (p, zC, 35)] [((.slice ads L.length cap), L)] := H) | (refine wb_put H rfl 0 79 _ _ rfl _ 0 rfl _ _ rfl (.agg ((shotL ⟨((rv 1 (false, S1) : Nat) : Int), 0, 0, 0, 0, 0⟩).toArray)) rfl 6 info79w rfl (Nat.le_of_ble_eq_true rfl) rfl ((shotL ⟨((rv 1 (false, S1) : Nat) : Int), 0, 0, 0, 0, 0⟩).toArray) rfl ?_; clear H; intro w H))
            replace H : Sb [] W0 w [(x, (shotL ⟨((rv 1 (false, S1) : Nat) : Int), 0, 0, 0, 0, 0⟩).toArray, 79), (s, (stateC ⟨⟨fr, d, D, L⟩, 0, (List.replicate 8 ⟨0, 0⟩)⟩ (.slice ads L.length cap)), 35), (r, rC (rn 1 (false, S1)), 101), (p, zC, 35)] [((.slice ads L.length cap), L)] := H
            refine (r4_step (rn 1 (false, S1)) H 2 r rfl (rn_max HL.out)).mono ?_
            rintro e w' ⟨rfl, hS⟩
            replace H : Sb [] W0 w' [(x, (shotL ⟨((rv 1 (false, S1) : Nat) : Int), 0, 0, 0, 0, 0⟩).toArray, 79), (s, (stateC ⟨⟨fr, d, D, L⟩, 0, (List.replicate 8 ⟨0, 0⟩)⟩ (.slice ads L.length cap)), 35), (r, rC (rn 4 (rn 1 (false, S1))), 101), (p, zC, 35)] [((.slice ads L.length cap), L)] := hS
            clear hS
            go_wp2_with (refine wb_put H rfl 0 21 _ _ rfl _ 1 rfl _ _ rfl (.int .i32 (sg32 (rv 4 (rn 1 (false, S1))))) rfl 1 info21 rfl (Nat.le_of_ble_eq_true rfl) rfl ((shotL ⟨((rv 1 (false, S1) : Nat) : Int), sg32 (rv 4 (rn 1 (false, S1))), 0, 0, 0, 0⟩).toArray) rfl ?_; clear H; intro w H)
            replace H : Sb [] W0 w [(x, (shotL ⟨((rv 1 (false, S1) : Nat) : Int), sg32 (rv 4 (rn 1 (false, S1))), 0, 0, 0, 0⟩).toArray, 79), (s, (stateC ⟨⟨fr, d, D, L⟩, 0, (List.replicate 8 ⟨0, 0⟩)⟩ (.slice ads L.length cap)), 35), (r, rC (rn 4 (rn 1 (false, S1))), 101), (p, zC, 35)] [((.slice ads L.length cap), L)] := H
            refine (r4_step (rn 4 (rn 1 (false, S1))) H 2 r rfl (rn_max (rn_max HL.out))).mono ?_
            rintro e w' ⟨rfl, hS⟩
            replace H : Sb [] W0 w' [(x, (shotL ⟨((rv 1 (false, S1) : Nat) : Int), sg32 (rv 4 (rn 1 (false, S1))), 0, 0, 0, 0⟩).toArray, 79), (s, (stateC ⟨⟨fr, d, D, L⟩, 0, (List.replicate 8 ⟨0, 0⟩)⟩ (.slice ads L.length cap)), 35), (r, rC (rn 4 (rn 4 (rn 1 (false, S1)))), 101), (p, zC, 35)] [((.slice ads L.length cap), L)] := hS
            clear hS
            go_wp2_with (refine wb_put H rfl 0 21 _ _ rfl _ 2 rfl _ _ rfl (.int .i32 (sg32 (rv 4 (rn 4 (rn 1 (false, S1)))))) rfl 1 info21 rfl (Nat.le_of_ble_eq_true rfl) rfl ((shotL ⟨((rv 1 (false, S1) : Nat) : Int), sg32 (rv 4 (rn 1 (false, S1))), sg32 (rv 4 (rn 4 (rn 1 (false, S1)))), 0, 0, 0⟩).toArray) rfl ?_; clear H; intro w H)
            replace H : Sb [] W0 w [(x, (shotL ⟨((rv 1 (false, S1) : Nat) : Int), sg32 (rv 4 (rn 1 (false, S1))), sg32 (rv 4 (rn 4 (rn 1 (false, S1)))), 0, 0, 0⟩).toArray, 79), (s, (stateC ⟨⟨fr, d, D, L⟩, 0, (List.replicate 8 ⟨0, 0⟩)⟩ (.slice ads L.length cap)), 35), (r, rC (rn 4 (rn 4 (rn 1 (false, S1)))), 101), (p, zC, 35)] [((.slice ads L.length cap), L)] := H
            refine (r4_step (rn 4 (rn 4 (rn 1 (false, S1)))) H 2 r rfl (rn_max (rn_max (rn_max HL.out)))).mono ?_
            rintro e w' ⟨rfl, hS⟩
            replace H : Sb [] W0 w' [(x, (shotL ⟨((rv 1 (false, S1) : Nat) : Int), sg32 (rv 4 (rn 1 (false, S1))), sg32 (rv 4 (rn 4 (rn 1 (false, S1)))), 0, 0, 0⟩).toArray, 79), (s, (stateC ⟨⟨fr, d, D, L⟩, 0, (List.replicate 8 ⟨0, 0⟩)⟩ (.slice ads L.length cap)), 35), (r, rC (rn 4 (rn 4 (rn 4 (rn 1 (false, S1))))), 101), (p, zC, 35)] [((.slice ads L.length cap), L)] := hS
            clear hS
            go_wp2_with (refine wb_put H rfl 0 21 _ _ rfl _ 3 rfl _ _ rfl (.int .i32 (sg32 (rv 4 (rn 4 (rn 4 (rn 1 (false, S1))))))) rfl 1 info21 rfl (Nat.le_of_ble_eq_true rfl) rfl ((shotL ⟨((rv 1 (false, S1) : Nat) : Int), sg32 (rv 4 (rn 1 (false, S1))), sg32 (rv 4 (rn 4 (rn 1 (false, S1)))), sg32 (rv 4 (rn 4 (rn 4 (rn 1 (false, S1))))), 0, 0⟩).toArray) rfl ?_; clear H; intro w H)
            replace H : Sb [] W0 w [(x, (shotL ⟨((rv 1 (false, S1) : Nat) : Int), sg32 (rv 4 (rn 1 (false, S1))), sg32 (rv 4 (rn 4 (rn 1 (false, S1)))), sg32 (rv 4 (rn 4 (rn 4 (rn 1 (false, S1))))), 0, 0⟩).toArray, 79), (s, (stateC ⟨⟨fr, d, D, L⟩, 0, (List.replicate 8 ⟨0, 0⟩)⟩ (.slice ads L.length cap)), 35), (r, rC (rn 4 (rn 4 (rn 4 (rn 1 (false, S1))))), 101), (p, zC, 35)] [((.slice ads L.length cap), L)] := H
            refine (r4_step (rn 4 (rn 4 (rn 4 (rn 1 (false, S1))))) H 2 r rfl (rn_max (rn_max (rn_max (rn_max HL.out))))).mono ?_
            rintro e w' ⟨rfl, hS⟩
            replace H : Sb [] W0 w' [(x, (shotL ⟨((rv 1 (false, S1) : Nat) : Int), sg32 (rv 4 (rn 1 (false, S1))), sg32 (rv 4 (rn 4 (rn 1 (false, S1)))), sg32 (rv 4 (rn 4 (rn 4 (rn 1 (false, S1))))), 0, 0⟩).toArray, 79), (s, (stateC ⟨⟨fr, d, D, L⟩, 0, (List.replicate 8 ⟨0, 0⟩)⟩ (.slice ads L.length cap)), 35), (r, rC (rn 4 (rn 4 (rn 4 (rn 4 (rn 1 (false, S1)))))), 101), (p, zC, 35)] [((.slice ads L.length cap), L)] := hS
            clear hS
            go_wp2_with (refine wb_put H rfl 0 21 _ _ rfl _ 4 rfl _ _ rfl (.int .i32 (sg32 (rv 4 (rn 4 (rn 4 (rn 4 (rn 1 (false, S1)))))))) rfl 1 info21 rfl (Nat.le_of_ble_eq_true rfl) rfl ((shotL ⟨((rv 1 (false, S1) : Nat) : Int), sg32 (rv 4 (rn 1 (false, S1))), sg32 (rv 4 (rn 4 (rn 1 (false, S1)))), sg32 (rv 4 (rn 4 (rn 4 (rn 1 (false, S1))))), sg32 (rv 4 (rn 4 (rn 4 (rn 4 (rn 1 (false, S1)))))), 0⟩).toArray) rfl ?_; clear H; intro w H)
            replace H : Sb [] W0 w [(x, (shotL ⟨((rv 1 (false, S1) : Nat) : Int), sg32 (rv 4 (rn 1 (false, S1))), sg32 (rv 4 (rn 4 (rn 1 (false, S1)))), sg32 (rv 4 (rn 4 (rn 4 (rn 1 (false, S1))))), sg32 (rv 4 (rn 4 (rn 4 (rn 4 (rn 1 (false, S1)))))), 0⟩).toArray, 79), (s, (stateC ⟨⟨fr, d, D, L⟩, 0, (List.replicate 8 ⟨0, 0⟩)⟩ (.slice ads L.length cap)), 35), (r, rC (rn 4 (rn 4 (rn 4 (rn 4 (rn 1 (false, S1)))))), 101), (p, zC, 35)] [((.slice ads L.length cap), L)] := H
            refine (ri_step (rn 4 (rn 4 (rn 4 (rn 4 (rn 1 (false, S1)))))) H 2 r rfl (rn_max (rn_max (rn_max (rn_max (rn_max HL.out))))) 1 (by decide) (by decide) 1 rfl).mono ?_
            rintro e w' ⟨rfl, hS⟩
            replace H : Sb [] W0 w' [(x, (shotL ⟨((rv 1 (false, S1) : Nat) : Int), sg32 (rv 4 (rn 1 (false, S1))), sg32 (rv 4 (rn 4 (rn 1 (false, S1)))), sg32 (rv 4 (rn 4 (rn 4 (rn 1 (false, S1))))), sg32 (rv 4 (rn 4 (rn 4 (rn 4 (rn 1 (false, S1)))))), 0⟩).toArray, 79), (s, (stateC ⟨⟨fr, d, D, L⟩, 0, (List.replicate 8 ⟨0, 0⟩)⟩ (.slice ads L.length cap)), 35), (r, rC (rn 1 (rn 4 (rn 4 (rn 4 (rn 4 (rn 1 (false, S1))))))), 101), (p, zC, 35)] [((.slice ads L.length cap), L)] := hS
            clear hS
            obtain ⟨z, hz⟩ : ∃ z : Sht, z = (⟨((rv 1 (false, S1) : Nat) : Int), sg32 (rv 4 (rn 1 (false, S1))), sg32 (rv 4 (rn 4 (rn 1 (false, S1)))), sg32 (rv 4 (rn 4 (rn 4 (rn 1 (false, S1))))), sg32 (rv 4 (rn 4 (rn 4 (rn 4 (rn 1 (false, S1)))))), ((rv 1 (rn 4 (rn 4 (rn 4 (rn 4 (rn 1 (false, S1)))))) : Nat) : Int)⟩ : Sht) := ⟨_, rfl⟩
            have HG5 : Hid (At (parse true b) (rdMany rdShot (fun L b => rdEnd ⟨fr, d, D, L⟩ b) (n - (m + 1)) (L ++ [z])) (rn 1 (rn 4 (rn 4 (rn 4 (rn 4 (rn 1 (false, S1)))))))) := Lib.hid (by rw [hz]; exact HG4.out)
            have HLn : Hid ((rn 1 (rn 4 (rn 4 (rn 4 (rn 4 (rn 1 (false, S1))))))).2.length ≤ maxLen) := Lib.hid ((rn_max (rn_max (rn_max (rn_max (rn_max (rn_max HL.out)))))))
            clear HG4
            obtain ⟨zo, zx, zy, zu, zv, zl⟩ := z
            obtain ⟨i0, hi, hz0, hz1, hz2⟩ := info_shot
            have HNh : Hid (∀ w, Sb [] W0 w [(x, #[.int .i64 zo, .int .i32 zx, .int .i32 zy, .int .i32 zu, .int .i32 zv, .int .i64 zl], 79), (s, (stateC ⟨⟨fr, d, D, L⟩, 0, (List.replicate 8 ⟨0, 0⟩)⟩ (.slice ads L.length cap)), 35), (r, rC (rn 1 (rn 4 (rn 4 (rn 4 (rn 4 (rn 1 (false, S1))))))), 101), (p, zC, 35)] [((.slice ads L.length cap), L)] → Sb [] W0 (w.alloc (.cells #[.int .i64 zo, .int .i32 zx, .int .i32 zy, .int .i32 zu, .int .i32 zv, .int .i64 zl] 79)) [(w.heap.size, #[.int .i64 zo, .int .i32 zx, .int .i32 zy, .int .i32 zu, .int .i32 zv, .int .i64 zl], 79), (x, #[.int .i64 zo, .int .i32 zx, .int .i32 zy, .int .i32 zu, .int .i32 zv, .int .i64 zl], 79), (s, (stateC ⟨⟨fr, d, D, L⟩, 0, (List.replicate 8 ⟨0, 0⟩)⟩ (.slice ads L.length cap)), 35), (r, rC (rn 1 (rn 4 (rn 4 (rn 4 (rn 4 (rn 1 (false, S1))))))), 101), (p, zC, 35)] [((.slice ads L.length cap), L)]) := Lib.hid (fun w H => H.new #[.int .i64 zo, .int .i32 zx, .int .i32 zy, .int .i32 zu, .int .i32 zv, .int .i64 zl] 79)
            have Hnews : Hid (∀ (w : World) j u, (shotL (⟨zo, zx, zy, zu, zv, zl⟩ : Sht))[j]? = some u → (w.alloc (.cells #[.int .i64 zo, .int .i32 zx, .int .i32 zy, .int .i32 zu, .int .i32 zv, .int .i64 zl] 79)).cell? ((⟨w.heap.size, 0, none⟩ : Addr).add j) = some u) := Lib.hid (fun w j u hu => by
              have a1 : (⟨w.heap.size, 0, none⟩ : Addr).add j = ⟨w.heap.size, j, none⟩ := by unfold Addr.add; split <;> simp_all
              rw [a1, cell_new]
              show (shotL (⟨zo, zx, zy, zu, zv, zl⟩ : Sht)).toArray[j]? = some u
              rw [List.getElem?_toArray]
              exact hu)
            have Hone : Hid (∀ u ∈ shotL (⟨zo, zx, zy, zu, zv, zl⟩ : Sht), u.oneCell' = true) := Lib.hid (fun u hu => cellsL_one [(⟨zo, zx, zy, zu, zv, zl⟩ : Sht)] u (by simpa [cellsL] using hu))
            have hmx : L.length + 1 ≤ maxLen := by have := HLm.out; unfold maxLen; omega
            have hbt : (L.length + 1) * 32 ≤ 140737488355328 := by have := HLm.out; omega
            go_wp2_with (first | (refine wb_put H rfl 0 3 _ _ rfl _ 5 rfl _ _ rfl (.int .i64 (((rv 1 (rn 4 (rn 4 (rn 4 (rn 4 (rn 1 (false, S1)))))) : Nat) : Int))) rfl 1 info3 rfl (Nat.le_of_ble_eq_true rfl) rfl #[.int .i64 zo, .int .i32 zx, .int .i32 zy, .int .i32 zu, .int .i32 zv, .int .i64 zl] (by injection hz with a1 a2 a3 a4 a5 a6; subst a1 a2 a3 a4 a5 a6; rfl) ?_; clear H; intro w H; replace H : Sb [] W0 w [(x, #[.int .i64 zo, .int .i32 zx, .int .i32 zy, .int .i32 zu, .int .i32 zv, .int .i64 zl], 79), (s, (stateC ⟨⟨fr, d, D, L⟩, 0, (List.replicate 8 ⟨0, 0⟩)⟩ (.slice ads L.length cap)), 35), (r, rC (rn 1 (rn 4 (rn 4 (rn 4 (rn 4 (rn 1 (false, S1))))))), 101), (p, zC, 35)] [((.slice ads L.length cap), L)] := H) | (refine wb_cell H rfl 1 26 _ rfl _ 58 rfl _ _ rfl Try.isAgg26 (.slice ads L.length cap) Hs58.out ?_) | (refine wb_whole H rfl 0 79 _ rfl _ rfl #[.int .i64 zo, .int .i32 zx, .int .i32 zy, .int .i32 zu, .int .i32 zv, .int .i64 zl] rfl _ Try.underlying79 rfl 6 info79w rfl ?_) | (at_builtin; refine wpList_append_own_at _ rfl _ _ 26 rfl 0 79 i0 (.agg #[.int .i64 0, .int .i32 0, .int .i32 0, .int .i32 0, .int .i32 0, .int .i64 0]) 6 32 Try.underlying26 hi hz0 hz1 hz2 rfl (by decide) _ L.length (cellsL L) rfl ((HNh.out _ H).rows _ (List.mem_cons_self ..)) ⟨w.heap.size, 0, none⟩ 1 1 (shotL (⟨zo, zx, zy, zu, zv, zl⟩ : Sht)) rfl rfl (Hnews.out _) Hone.out hmx hbt (Nat.zero_le _) ?_; intro v' w9 hown' hgrow hnil' hblk; have hon9 := own_snoc hown'; have H9 := (HNh.out _ H).append 0 (.slice ads L.length cap) v' L (L ++ [(⟨zo, zx, zy, zu, zv, zl⟩ : Sht)]) rfl hon9 hgrow hblk; obtain ⟨ad9, c9, hv9⟩ := own_form hon9; rw [show (L ++ [(⟨zo, zx, zy, zu, zv, zl⟩ : Sht)]).length = L.length + 1 by simp] at hv9; subst hv9; clear hown' hgrow hnil' hblk hon9) | (refine wb_put H9 rfl 2 26 _ _ rfl _ 58 rfl _ _ rfl (.slice ad9 (L.length + 1) c9) rfl 1 info26 rfl (by rw [st_size HD8.out (by simp)]; omega) rfl (stateC ⟨⟨fr, d, D, (L ++ [(⟨zo, zx, zy, zu, zv, zl⟩ : Sht)])⟩, 0, (List.replicate 8 ⟨0, 0⟩)⟩ (.slice ad9 (L.length + 1) c9)) (sc_putShots HD8.out _) ?_; clear H9; intro w9 H9))
            replace H9 : Sb [] W0 w9 [(s, (stateC ⟨⟨fr, d, D, (L ++ [(⟨zo, zx, zy, zu, zv, zl⟩ : Sht)])⟩, 0, (List.replicate 8 ⟨0, 0⟩)⟩ (.slice ad9 (L.length + 1) c9)), 35), (r, rC (rn 1 (rn 4 (rn 4 (rn 4 (rn 4 (rn 1 (false, S1))))))), 101), (p, zC, 35)] [(.slice ad9 (L.length + 1) c9, L ++ [(⟨zo, zx, zy, zu, zv, zl⟩ : Sht)])] := H9.tail.tail
            exact ⟨⟨m + 1, L ++ [(⟨zo, zx, zy, zu, zv, zl⟩ : Sht)], (rn 1 (rn 4 (rn 4 (rn 4 (rn 4 (rn 1 (false, S1))))))), _, hlt, rfl, Lib.hid H9, HLn, Lib.hid ⟨by have := HLm.out; simp; omega, HG5.out⟩⟩, by simp only [intOf]; omega⟩
          · have e0 : (decide (m < n) && !c) = false := by cases c <;> simp_all
            rw [e0]
            have HE : Hid (At (parse true b) (rdEnd ⟨fr, d, D, L⟩) (c, S1)) := Lib.hid (by
              by_cases hc : c = true
              · exact At.bad HG.out.2 hc
              · have hmn : n - m = 0 := by
                  have : ¬ m < n := fun h => hgo ⟨h, by simpa using hc⟩
                  omega
                have := HG.out.2
                rw [hmn] at this
                exact this)
            have HLm := Lib.hid (show L.length ≤ 256 by have := HG.out.1; omega)
            have H := HB.out
            clear HB HG e0 hgo
            go_wp2_with fail
            refine (ri_step (c, S1) H 1 r rfl HL.out 4 (by decide) (by decide) 4 rfl).mono ?_
            rintro e w' ⟨rfl, hS⟩
            replace H : Sb [] W0 w' [(s, (stateC ⟨⟨fr, d, D, L⟩, 0, (List.replicate 8 ⟨0, 0⟩)⟩ sl), 35), (r, rC (rn 4 (c, S1)), 101), (p, zC, 35)] [(sl, L)] := hS
            clear hS
            go_wp2_with (refine wb_put H rfl 0 3 _ _ rfl _ 59 rfl _ _ rfl (.int .i64 (rv 4 (c, S1))) rfl 1 info3 rfl (by rw [st_size HD8.out (by simp)]; omega) rfl ((stateC ⟨⟨fr, d, D, L⟩, (rv 4 (c, S1)), (List.replicate 8 ⟨0, 0⟩)⟩ sl)) (sc_putVer HD8.out _) ?_; clear H; intro w H)
            have HB : Hid (Sb [] W0 w [(s, (stateC ⟨⟨fr, d, D, L⟩, (rv 4 (c, S1)), (List.replicate 8 ⟨0, 0⟩)⟩ sl), 35), (r, rC (rn 4 (c, S1)), 101), (p, zC, 35)] [(sl, L)]) := Lib.hid H
            have HG3 : Hid (At (parse true b) (rdMany rdSeat (fun T b => some (⟨⟨fr, d, D, L⟩, rv 4 (c, S1), T⟩, b)) 8 []) (rn 4 (c, S1))) := Lib.hid (At.tail HE.out)
            have HL1 : Hid ((rn 4 (c, S1)).2.length ≤ maxLen) := Lib.hid ((rn_max HL.out))
            generalize rn 4 (c, S1) = q2 at *
            generalize rv 4 (c, S1) = ver at *
            clear H HL HE
            go_loopw [12] (fun i W => ∃ (k : Nat) (T : List Seat) (q : Rst), k ≤ 8 ∧ i = .int .i64 k ∧ Hid (Sb [] W0 W [(s, (stateC ⟨⟨fr, d, D, L⟩, ver, (T ++ List.replicate (8 - k) ⟨0, 0⟩)⟩ sl), 35), (r, rC q, 101), (p, zC, 35)] [(sl, L)]) ∧ Hid (q.2.length ≤ maxLen) ∧ Hid (T.length = k ∧ At (parse true b) (rdMany rdSeat (fun T b => some (⟨⟨fr, d, D, L⟩, ver, T⟩, b)) (8 - k) T) q)) (fun i _ => 8 - (intOf i).toNat)
            case atStart => exact ⟨0, [], q2, Nat.zero_le _, rfl, HB, HL1, Lib.hid ⟨rfl, HG3.out⟩⟩
            case round =>
              clear HB HG3 HL1
              obtain ⟨k, T, q, hk, rfl, HB, HL, HG⟩ := hrel
              by_cases hlt : k < 8
              · have hrep := rep_cons k hlt (⟨0, 0⟩ : Seat)
                have H := HB.out
                rw [hrep] at H
                have HG2 : Hid (At (parse true b) (rdMany rdSeat (fun T b => some (⟨⟨fr, d, D, L⟩, ver, T⟩, b)) (8 - (k + 1) + 1) T) q) := Lib.hid (by rw [show 8 - (k + 1) + 1 = 8 - k by omega]; exact HG.out.2)
                have Hs8 : Hid (∀ z : Seat, (T ++ z :: List.replicate (8 - (k + 1)) ⟨0, 0⟩).length = 8) := Lib.hid (fun z => by have := HG.out.1; simp; omega)
                have hDl := Lib.hid HG.out.1
                have HG4 := Lib.hid (At.seat HG2.out)
                clear HB hrep HG HG2
                go_wp2_with fail
                refine (ri_step q H 1 r rfl HL.out 1 (by decide) (by decide) 1 rfl).mono ?_
                rintro e w' ⟨rfl, hS⟩
                replace H : Sb [] W0 w' [(s, (stateC ⟨⟨fr, d, D, L⟩, ver, (T ++ ⟨0, 0⟩ :: List.replicate (8 - (k + 1)) ⟨0, 0⟩)⟩ sl), 35), (r, rC (rn 1 q), 101), (p, zC, 35)] [(sl, L)] := hS
                clear hS
                have hp8 : rv 1 q < 256 := rv_lt 1 q
                have HL1 : Hid ((rn 1 q).2.length ≤ maxLen) := Lib.hid (rn_max HL.out)
                generalize rn 1 q = q1 at *
                generalize rv 1 q = pe at *
                clear HL
                have G1 := Lib.hid (sc_putPeer (fr := fr) (d := d) (ver := ver) (L := L) (sl := sl) HD8.out T (List.replicate (8 - (k + 1)) ⟨0, 0⟩) ⟨0, 0⟩ ((pe : Int) - 1) k hDl.out)
                have G2 := Lib.hid (sc_putGen (fr := fr) (d := d) (ver := ver) (L := L) (sl := sl) HD8.out T (List.replicate (8 - (k + 1)) ⟨0, 0⟩) ⟨(pe : Int) - 1, 0⟩ (rv 2 q1) k hDl.out)
                have hft : 60 + k * 2 + 1 ≤ (stateC ⟨⟨fr, d, D, L⟩, ver, (T ++ ⟨0, 0⟩ :: List.replicate (8 - (k + 1)) ⟨0, 0⟩)⟩ sl).size := by rw [st_size HD8.out (Hs8.out _)]; omega
                have hft2 : 60 + k * 2 + 1 + 1 ≤ (stateC ⟨⟨fr, d, D, L⟩, ver, (T ++ ⟨(pe : Int) - 1, 0⟩ :: List.replicate (8 - (k + 1)) ⟨0, 0⟩)⟩ sl).size := by rw [st_size HD8.out (Hs8.out _)]; omega
                go_wp2_with (refine wb_put H rfl 0 3 _ _ rfl _ (60 + k * 2) rfl _ _ rfl (.int .i64 ((pe : Int) - 1)) rfl 1 info3 rfl hft rfl _ G1.out ?_; clear H; intro w H)
                replace H : Sb [] W0 w [(s, (stateC ⟨⟨fr, d, D, L⟩, ver, (T ++ ⟨(pe : Int) - 1, 0⟩ :: List.replicate (8 - (k + 1)) ⟨0, 0⟩)⟩ sl), 35), (r, rC q1, 101), (p, zC, 35)] [(sl, L)] := H
                refine (ri_step q1 H 1 r rfl HL1.out 2 (by decide) (by decide) 2 rfl).mono ?_
                rintro e w' ⟨rfl, hS⟩
                replace H : Sb [] W0 w' [(s, (stateC ⟨⟨fr, d, D, L⟩, ver, (T ++ ⟨(pe : Int) - 1, 0⟩ :: List.replicate (8 - (k + 1)) ⟨0, 0⟩)⟩ sl), 35), (r, rC (rn 2 q1), 101), (p, zC, 35)] [(sl, L)] := hS
                clear hS
                go_wp2_with (refine wb_put H rfl 0 3 _ _ rfl _ (60 + k * 2 + 1) rfl _ _ rfl (.int .i64 (rv 2 q1)) rfl 1 info3 rfl hft2 rfl _ G2.out ?_; clear H; intro w H)
                replace H : Sb [] W0 w [(s, (stateC ⟨⟨fr, d, D, L⟩, ver, (T ++ ⟨(pe : Int) - 1, rv 2 q1⟩ :: List.replicate (8 - (k + 1)) ⟨0, 0⟩)⟩ sl), 35), (r, rC (rn 2 q1), 101), (p, zC, 35)] [(sl, L)] := H
                exact ⟨⟨k + 1, T ++ [⟨(pe : Int) - 1, rv 2 q1⟩], rn 2 q1, hlt, rfl, Lib.hid (by rw [List.append_assoc]; exact H), Lib.hid (rn_max HL1.out), Lib.hid ⟨by rw [List.length_append, hDl.out]; rfl, HG4.out⟩⟩, by simp only [intOf]; omega⟩
              · obtain rfl : k = 8 := by omega
                have H := HB.out
                rw [show 8 - 8 = 0 from rfl, List.replicate_zero, List.append_nil] at H
                have HT8 := Lib.hid HG.out.1
                have HG2 : Hid (At (parse true b) (fun b => some ((⟨⟨fr, d, D, L⟩, ver, T⟩ : Ste), b)) q) := Lib.hid HG.out.2
                have Hsz := Lib.hid (st_size (fr := fr) (d := d) (ver := ver) (L := L) (sl := sl) HD8.out HT8.out)
                clear HB HG HL
                go_wp2_with fail
                refine (rend_b q H 1 r rfl).mono ?_; rintro e w' ⟨rfl, rfl⟩
                have BAD : Hid (getF b = none → ∀ (w : World) (cs : Array Value) (tmps : Array Value) (_ : Sb [] W0 w [(s, cs, 35), (r, rC q, 101), (p, zC, 35)] [(sl, L)]), tmps.getD 2 undef = .pointer (some ⟨p, 0, none⟩) → tmps.getD 3 undef = .int .i64 2 → bodyPost Try.prog Try.f20 (GetPost b W0) Exit.ret { tmps := tmps, defers := [] } w) := Lib.hid (fun hg w cs tmps H h2 h3 => by
                  refine bodyPost_ret (v := .tuple #[.agg zC, .int .i64 2]) ?_ rfl ⟨H.below, by rw [hg]⟩
                  exact res20 h2 h3 (H.holds _ (List.mem_cons_of_mem _ (List.mem_cons_of_mem _ (List.mem_cons_self ..)))) zC_size)
                cases hE : (!q.1 && q.2.isEmpty) with
                | false =>
                  have hgn := At.no HG2.out hE
                  clear HG2
                  go_wp2_with (first | (refine wl_build rfl 35 _ rfl zC (by kernel_rfl) ?_) | (refine wb_put H rfl 2 35 _ _ rfl _ 0 rfl _ _ rfl (.agg zC) rfl 76 info35 zC_size (Nat.le_of_ble_eq_true rfl) zC_one zC (splice_all _ _ rfl) ?_; clear H; intro w H))
                  exact BAD.out hgn _ _ _ H rfl rfl
                | true =>
                  have hp := At.done HG2.out hE
                  have hfit : (⟨⟨fr, d, D, L⟩, ver, T⟩ : Ste).fits := parse_fits hp
                  have hyes := At.yes HG2.out hE
                  have hin : ShotsIn wr sl L := (H.rows _ (List.mem_cons_self ..)).shotsIn
                  have HONE := Lib.hid (sc_one (s := ⟨⟨fr, d, D, L⟩, ver, T⟩) hin)
                  have HM := Lib.hid (rmayS_b ⟨⟨fr, d, D, L⟩, ver, T⟩ sl wr hfit.wf HT8.out hin.w)
                  clear hp hfit hin HG2
                  go_wp2_with (refine wb_whole H rfl 0 35 _ rfl _ rfl ((stateC ⟨⟨fr, d, D, L⟩, ver, T⟩ sl)) rfl _ Try.underlying35 rfl 76 info35 Hsz.out ?_)
                  refine HM.out.mono ?_; rintro e w' ⟨rfl, hb⟩
                  replace H := H.call hb
                  clear hb HM
                  cases hm : mayS ⟨⟨fr, d, D, L⟩, ver, T⟩ with
                  | false =>
                    rw [hm] at hyes
                    have hgn : getF b = none := by simpa using hyes
                    clear hyes
                    go_wp2_with (first | (refine wl_build rfl 35 _ rfl zC (by kernel_rfl) ?_) | (refine wb_put H rfl 2 35 _ _ rfl _ 0 rfl _ _ rfl (.agg zC) rfl 76 info35 zC_size (Nat.le_of_ble_eq_true rfl) zC_one zC (splice_all _ _ rfl) ?_; clear H; intro w H))
                    exact BAD.out hgn _ _ _ H rfl rfl
                  | true =>
                    rw [hm] at hyes
                    have hgs : getF b = some ⟨⟨fr, d, D, L⟩, ver, T⟩ := by simpa using hyes
                    clear hyes BAD
                    have Hspl : Hid (splice zC 0 (Value.cells (.agg (stateC ⟨⟨fr, d, D, L⟩, ver, T⟩ sl))).toList = (stateC ⟨⟨fr, d, D, L⟩, ver, T⟩ sl)) := Lib.hid (splice_all _ _ (by rw [Value.cells, Hsz.out]; rfl))
                    go_wp2_with (first | (refine wb_whole H rfl 0 35 _ rfl _ rfl ((stateC ⟨⟨fr, d, D, L⟩, ver, T⟩ sl)) rfl _ Try.underlying35 rfl 76 info35 Hsz.out ?_) | (refine wb_put H rfl 2 35 _ _ rfl _ 0 rfl _ _ rfl (.agg (stateC ⟨⟨fr, d, D, L⟩, ver, T⟩ sl)) rfl 76 info35 Hsz.out (Nat.le_of_ble_eq_true rfl) HONE.out _ Hspl.out ?_; clear H; intro w H))
                    replace H : Sb [] W0 w [(s, (stateC ⟨⟨fr, d, D, L⟩, ver, T⟩ sl), 35), (r, rC q, 101), (p, (stateC ⟨⟨fr, d, D, L⟩, ver, T⟩ sl), 35)] [(sl, L)] := H
                    refine bodyPost_ret (v := .tuple #[.agg (stateC ⟨⟨fr, d, D, L⟩, ver, T⟩ sl), .int .i64 0]) ?_ rfl ⟨H.below, ?_⟩
                    · exact res20 rfl rfl (H.holds _ (List.mem_cons_of_mem _ (List.mem_cons_of_mem _ (List.mem_cons_self ..)))) Hsz.out
                    · rw [hgs]
                      exact ⟨sl, rfl, H.rows _ (List.mem_cons_self ..), fun k hk => (H.rge _ (List.mem_cons_self ..) k hk).resolve_right (by simp)⟩
end Go.Proofs.Ytijnfeigoggaeaa.game
