/- The document's answer: which games may be. game.Same, over games that are the same, with ships, without shots. The document's answer: whom a shot hits; a ship more. The document's answer: two games that are the same in numbers are the same. -/
import Derived.Test.YtdopfonebpklkaaGreatFoldRuns09
import Derived.Test.YtdopfonebpklkaaGreatFoldRuns13
import Derived.Test.YtdopfonebpklkaaGreatFoldRuns08
namespace Go.Proofs.YtdopfonebpklkaaGreat.game
open Go.ChangeShapes Go.WideShapes Go.ChangeAt Go.RowKit dice
set_option maxRecDepth 100000

/-- Shots, where they lie ahead of the call: an address. -/
def ShotsAt (W : World) (ad : Option Addr) (L : List Sht) : Prop :=
  0 < L.length → ∃ g o, ad = some ⟨g, o, none⟩ ∧ g < W.heap.size ∧ ∀ j v, (cellsL L)[j]? = some v → W.cell? ⟨g, o + j, none⟩ = some v
theorem ShotsIn.form {W : World} {sl : Value} {L : List Sht} (h : ShotsIn W sl L) : ∃ ad c, sl = .slice ad L.length c ∧ ShotsAt W ad L := by
  rcases h with ⟨rfl, rfl⟩ | ⟨g, o, c, rfl, hg, hc⟩
  · exact ⟨none, 0, rfl, fun h => absurd h (by simp)⟩
  · exact ⟨_, c, rfl, fun _ => ⟨g, o, rfl, hg, hc⟩⟩
theorem range6 {w : World} {g o : Nat} {s : Sht} (h : ShotAt w g o s) : w.rangeAt g o [.int .i64 s.owner, .int .i32 s.x, .int .i32 s.y, .int .i32 s.vx, .int .i32 s.vy, .int .i64 s.left] := fun j v hv => by
  match j, hv with
  | 0, hv => cases hv; exact h.owner
  | 1, hv => cases hv; exact h.x
  | 2, hv => cases hv; exact h.y
  | 3, hv => cases hv; exact h.vx
  | 4, hv => cases hv; exact h.vy
  | 5, hv => cases hv; exact h.left
  | j + 6, hv => simp at hv
set_option maxHeartbeats 8000000 in
theorem rmayG (g : Gme) (sl : Value) (w0' : World) (hg : g.ok) (hin : ShotsIn w0' sl g.L) :
    Calls Tryz.prog 60 #[.agg (gameC g.fr g.d g.S sl)] w0' fun e w' => e = .returned (.bool true) ∧ Below w0'.heap.size w0' w' := by
  obtain ⟨ad, c, rfl, hat⟩ := hin.form
  have f0 := hg.f0
  have f1 := hg.f1
  have hm := hg.most
  have HS := Lib.hid hg.s8
  have HO := Lib.hid hg.ships
  have HL := Lib.hid hg.shots
  have Hat := Lib.hid hat
  have H := Sb.start w0'
  clear hg hin hat
  obtain ⟨fr, d, S, L⟩ := g
  dsimp only at *
  have Hs58 := Lib.hid (gc_shots (fr := fr) (d := d) (S := S) (sl := .slice ad L.length c) HS.out)
  have q0 : decide (fr < 0) = false := decide_eq_false (by omega)
  have q1 : decide (1048576 < fr) = false := decide_eq_false (by omega)
  have q2 : decide (32 < (L.length : Int)) = false := decide_eq_false (by omega)
  go_enter Tryz.func60, Tryz.ntmps60
  go_wp2_with (first | (refine wb_box H rfl 28 _ rfl (gameC fr d S (.slice ad L.length c)) rfl ?_; clear H; intro b1 w H) | (refine wb_cell H rfl 0 3 _ rfl _ 0 rfl _ _ rfl Tryz.isAgg3 (.int .i64 fr) rfl ?_) | (refine wb_cell H rfl 0 26 _ rfl _ 58 rfl _ _ rfl Tryz.isAgg26 (.slice ad L.length c) Hs58.out ?_))
  have H' := H
  clear H
  go_loopw [3] (fun i W => ∃ k : Nat, k ≤ 8 ∧ i = .int .i64 k ∧ Hid (Sb [] w0' W [(b1, gameC fr d S (.slice ad L.length c), 28)] [])) (fun i _ => 8 - (intOf i).toNat)
  case atStart => exact ⟨0, Nat.zero_le _, rfl, Lib.hid H'⟩
  case round =>
    clear H'
    obtain ⟨k, hk, rfl, HB⟩ := hrel
    by_cases hlt : k < 8
    · obtain ⟨t, ht⟩ : ∃ t, S[k]? = some t := ⟨S[k]'(by rw [HS.out]; exact hlt), List.getElem?_eq_getElem _⟩
      have hok := HO.out t (List.mem_of_getElem? ht)
      have CX := Lib.hid (fun (j : Nat) (v : Value) hv => gc_at (fr := fr) (d := d) (sl := .slice ad L.length c) k j t v ht hv)
      have H := HB.out
      clear HB ht
      obtain ⟨o, x, y, vx, vy, cl, sc⟩ := t
      unfold Shp.ok OkShip at hok
      dsimp only at hok
      have hb : 0 ≤ x ∧ x < 16777216 ∧ 0 ≤ y ∧ y < 16777216 ∧ -524288 ≤ vx ∧ vx ≤ 524288 ∧ -524288 ≤ vy ∧ vy ≤ 524288 ∧ 0 ≤ cl ∧ cl ≤ 10 ∧ 0 ≤ sc ∧ sc ≤ 1073741824 := by split at hok <;> omega
      obtain ⟨x0, x1, y0, y1, u0, u1, v0, v1, c0, c1, s0, s1⟩ := hb
      have I1 := Lib.hid (fun w => rin_any x w x0 x1)
      have I2 := Lib.hid (fun w => rin_any y w y0 y1)
      have I3 := Lib.hid (fun w => rslow_any vx 524288 w (.inl rfl) u0 u1)
      have I4 := Lib.hid (fun w => rslow_any vy 524288 w (.inl rfl) v0 v1)
      cases o
      · rw [if_neg (by simp)] at hok
        obtain ⟨rfl, rfl, rfl, rfl, rfl, rfl⟩ := hok
        go_wp2_with (first | (refine wb_part H rfl 0 24 _ rfl _ (2 + k * 7) rfl _ _ rfl _ Tryz.underlying24 rfl 7 info24 [.bool false, .int .i32 0, .int .i32 0, .int .i32 0, .int .i32 0, .int .i64 0, .int .i64 0] CX.out rfl ?_) | (refine wb_alloc H rfl 24 rfl _ Tryz.zeroValue24 ?_; clear H; intro b4 w H) | (refine wb_put H rfl 0 24 _ _ rfl _ 0 rfl _ _ rfl (.agg #[.bool false, .int .i32 0, .int .i32 0, .int .i32 0, .int .i32 0, .int .i64 0, .int .i64 0]) rfl 7 info24 rfl (Nat.le_of_ble_eq_true rfl) rfl #[.bool false, .int .i32 0, .int .i32 0, .int .i32 0, .int .i32 0, .int .i64 0, .int .i64 0] rfl ?_; clear H; intro w H) | (refine wb_cell H rfl 0 4 _ rfl _ 0 rfl _ _ rfl Tryz.isAgg4 (.bool false) rfl ?_) | (refine wb_whole H rfl 0 24 _ rfl _ rfl #[.bool false, .int .i32 0, .int .i32 0, .int .i32 0, .int .i32 0, .int .i64 0, .int .i64 0] rfl _ Tryz.underlying24 rfl 7 info24 rfl ?_) | (refine wb_cell H rfl 0 21 _ rfl _ 1 rfl _ _ rfl Tryz.isAgg21 (.int .i32 0) rfl ?_))
        refine (I1.out _).mono ?_; rintro e w' ⟨rfl, rfl⟩
        go_wp2_with (refine wb_cell H rfl 0 21 _ rfl _ 2 rfl _ _ rfl Tryz.isAgg21 (.int .i32 0) rfl ?_)
        refine (I2.out _).mono ?_; rintro e w' ⟨rfl, rfl⟩
        go_wp2_with (refine wb_cell H rfl 0 21 _ rfl _ 3 rfl _ _ rfl Tryz.isAgg21 (.int .i32 0) rfl ?_)
        refine (I3.out _).mono ?_; rintro e w' ⟨rfl, rfl⟩
        go_wp2_with (refine wb_cell H rfl 0 21 _ rfl _ 4 rfl _ _ rfl Tryz.isAgg21 (.int .i32 0) rfl ?_)
        refine (I4.out _).mono ?_; rintro e w' ⟨rfl, rfl⟩
        go_wp2_with (first | (refine wb_cell H rfl 0 3 _ rfl _ 5 rfl _ _ rfl Tryz.isAgg3 (.int .i64 0) rfl ?_) | (refine wb_cell H rfl 0 3 _ rfl _ 6 rfl _ _ rfl Tryz.isAgg3 (.int .i64 0) rfl ?_))
        have H2 : Sb [] w0' w [(b4, #[.bool false, .int .i32 0, .int .i32 0, .int .i32 0, .int .i32 0, .int .i64 0, .int .i64 0], 24), (b1, gameC fr d S (.slice ad L.length c), 28)] [] := H
        exact ⟨⟨k + 1, hlt, rfl, Lib.hid H2.tail⟩, by simp only [intOf]; omega⟩
      · clear hok
        have z0 : decide (cl < 0) = false := decide_eq_false (by omega)
        have z1 : decide (10 < cl) = false := decide_eq_false (by omega)
        have z2 : decide (sc < 0) = false := decide_eq_false (by omega)
        have z3 : decide (1073741824 < sc) = false := decide_eq_false (by omega)
        go_wp2_with (first | (refine wb_part H rfl 0 24 _ rfl _ (2 + k * 7) rfl _ _ rfl _ Tryz.underlying24 rfl 7 info24 [.bool true, .int .i32 x, .int .i32 y, .int .i32 vx, .int .i32 vy, .int .i64 cl, .int .i64 sc] CX.out rfl ?_) | (refine wb_alloc H rfl 24 rfl _ Tryz.zeroValue24 ?_; clear H; intro b4 w H) | (refine wb_put H rfl 0 24 _ _ rfl _ 0 rfl _ _ rfl (.agg #[.bool true, .int .i32 x, .int .i32 y, .int .i32 vx, .int .i32 vy, .int .i64 cl, .int .i64 sc]) rfl 7 info24 rfl (Nat.le_of_ble_eq_true rfl) rfl #[.bool true, .int .i32 x, .int .i32 y, .int .i32 vx, .int .i32 vy, .int .i64 cl, .int .i64 sc] rfl ?_; clear H; intro w H) | (refine wb_cell H rfl 0 4 _ rfl _ 0 rfl _ _ rfl Tryz.isAgg4 (.bool true) rfl ?_) | (refine wb_cell H rfl 0 21 _ rfl _ 1 rfl _ _ rfl Tryz.isAgg21 (.int .i32 x) rfl ?_))
        refine (I1.out _).mono ?_; rintro e w' ⟨rfl, rfl⟩
        go_wp2_with (refine wb_cell H rfl 0 21 _ rfl _ 2 rfl _ _ rfl Tryz.isAgg21 (.int .i32 y) rfl ?_)
        refine (I2.out _).mono ?_; rintro e w' ⟨rfl, rfl⟩
        go_wp2_with (refine wb_cell H rfl 0 21 _ rfl _ 3 rfl _ _ rfl Tryz.isAgg21 (.int .i32 vx) rfl ?_)
        refine (I3.out _).mono ?_; rintro e w' ⟨rfl, rfl⟩
        go_wp2_with (refine wb_cell H rfl 0 21 _ rfl _ 4 rfl _ _ rfl Tryz.isAgg21 (.int .i32 vy) rfl ?_)
        refine (I4.out _).mono ?_; rintro e w' ⟨rfl, rfl⟩
        go_wp2_with (first | (refine wb_cell H rfl 0 3 _ rfl _ 5 rfl _ _ rfl Tryz.isAgg3 (.int .i64 cl) rfl ?_) | (refine wb_cell H rfl 0 3 _ rfl _ 6 rfl _ _ rfl Tryz.isAgg3 (.int .i64 sc) rfl ?_))
        have H2 : Sb [] w0' w [(b4, #[.bool true, .int .i32 x, .int .i32 y, .int .i32 vx, .int .i32 vy, .int .i64 cl, .int .i64 sc], 24), (b1, gameC fr d S (.slice ad L.length c), 28)] [] := H
        exact ⟨⟨k + 1, hlt, rfl, Lib.hid H2.tail⟩, by simp only [intOf]; omega⟩
    · obtain rfl : k = 8 := by omega
      rw [show ((8 : Nat) : Int) = 8 from rfl]
      go_wp2_with fail
      go_loopw [5] (fun i W => ∃ k : Nat, k ≤ L.length ∧ i = .int .i64 k ∧ Hid (Sb [] w0' W [(b1, gameC fr d S (.slice ad L.length c), 28)] [])) (fun i _ => L.length - (intOf i).toNat)
      case atStart => exact ⟨0, Nat.zero_le _, rfl, HB⟩
      case round =>
        clear HB
        obtain ⟨k, hk, rfl, HB⟩ := hrel
        by_cases hlt : k < L.length
        · obtain ⟨gi, oi, had, hgi, hcs⟩ := Hat.out (by omega)
          subst had
          obtain ⟨s, hs⟩ : ∃ s, L[k]? = some s := ⟨L[k], List.getElem?_eq_getElem hlt⟩
          have hok := HL.out s (List.mem_of_getElem? hs)
          have R6 := Lib.hid (range6 (shot_at hcs k s hs))
          have Hg := Lib.hid hgi
          have H := HB.out
          clear HB hcs hs hgi
          obtain ⟨o, x, y, vx, vy, lf⟩ := s
          obtain ⟨o0, o1, x0, x1, y0, y1, u0, u1, v0, v1, l0, l1⟩ := hok
          dsimp only at *
          have I1 := Lib.hid (fun w => rin_any x w x0 x1)
          have I2 := Lib.hid (fun w => rin_any y w y0 y1)
          have I3 := Lib.hid (fun w => rslow_any vx 393216 w (.inr rfl) u0 u1)
          have I4 := Lib.hid (fun w => rslow_any vy 393216 w (.inr rfl) v0 v1)
          have z0 : decide (o < 0) = false := decide_eq_false (by omega)
          have z1 : decide (8 ≤ o) = false := decide_eq_false (by omega)
          have z2 : decide (lf < 1) = false := decide_eq_false (by omega)
          have z3 : decide (24 < lf) = false := decide_eq_false (by omega)
          go_wp2_with (first | (refine wb_cell H rfl 0 26 _ rfl _ 58 rfl _ _ rfl Tryz.isAgg26 (.slice (some ⟨gi, oi, none⟩) L.length c) Hs58.out ?_) | (refine wb_oldRow H rfl 93 _ rfl gi (oi + k * 6) rfl [.int .i64 o, .int .i32 x, .int .i32 y, .int .i32 vx, .int .i32 vy, .int .i64 lf] Hg.out R6.out _ Tryz.underlying93 rfl info79s ?_) | (refine wb_alloc H rfl 93 rfl _ Tryz.zeroValue93 ?_; clear H; intro b6 w H) | (refine wb_put H rfl 0 93 _ _ rfl _ 0 rfl _ _ rfl (.agg #[.int .i64 o, .int .i32 x, .int .i32 y, .int .i32 vx, .int .i32 vy, .int .i64 lf]) rfl 6 info79s rfl (Nat.le_of_ble_eq_true rfl) rfl #[.int .i64 o, .int .i32 x, .int .i32 y, .int .i32 vx, .int .i32 vy, .int .i64 lf] rfl ?_; clear H; intro w H) | (refine wb_cell H rfl 0 3 _ rfl _ 0 rfl _ _ rfl Tryz.isAgg3 (.int .i64 o) rfl ?_) | (refine wb_cell H rfl 0 21 _ rfl _ 1 rfl _ _ rfl Tryz.isAgg21 (.int .i32 x) rfl ?_))
          refine (I1.out _).mono ?_; rintro e w' ⟨rfl, rfl⟩
          go_wp2_with (refine wb_cell H rfl 0 21 _ rfl _ 2 rfl _ _ rfl Tryz.isAgg21 (.int .i32 y) rfl ?_)
          refine (I2.out _).mono ?_; rintro e w' ⟨rfl, rfl⟩
          go_wp2_with (refine wb_cell H rfl 0 21 _ rfl _ 3 rfl _ _ rfl Tryz.isAgg21 (.int .i32 vx) rfl ?_)
          refine (I3.out _).mono ?_; rintro e w' ⟨rfl, rfl⟩
          go_wp2_with (refine wb_cell H rfl 0 21 _ rfl _ 4 rfl _ _ rfl Tryz.isAgg21 (.int .i32 vy) rfl ?_)
          refine (I4.out _).mono ?_; rintro e w' ⟨rfl, rfl⟩
          go_wp2_with (refine wb_cell H rfl 0 3 _ rfl _ 5 rfl _ _ rfl Tryz.isAgg3 (.int .i64 lf) rfl ?_)
          have H2 : Sb [] w0' w [(b6, #[.int .i64 o, .int .i32 x, .int .i32 y, .int .i32 vx, .int .i32 vy, .int .i64 lf], 93), (b1, gameC fr d S (.slice (some ⟨gi, oi, none⟩) L.length c), 28)] [] := H
          exact ⟨⟨k + 1, hlt, rfl, Lib.hid H2.tail⟩, by simp only [intOf]; omega⟩
        · obtain rfl : k = L.length := by omega
          have H := HB.out
          clear HB
          go_wp2_with (refine wb_cell H rfl 0 26 _ rfl _ 58 rfl _ _ rfl Tryz.isAgg26 (.slice ad L.length c) Hs58.out ?_)
          go_ret
          exact ⟨rfl, H.below⟩
end Go.Proofs.YtdopfonebpklkaaGreat.game
namespace Go.Proofs.YtdopfonebpklkaaGreat.game
open Go.ChangeShapes Go.WideShapes Go.ChangeAt Go.RowKit dice
set_option maxRecDepth 100000

theorem cells24 : Tryz.prog.cellsOf 24 = 7 := by kernel_rfl
theorem cells25 : Tryz.prog.cellsOf 25 = 56 := by kernel_rfl
theorem cells4 : Tryz.prog.cellsOf 4 = 1 := by kernel_rfl
theorem cells21 : Tryz.prog.cellsOf 21 = 1 := by kernel_rfl
theorem cells3 : Tryz.prog.cellsOf 3 = 1 := by kernel_rfl
def litsS (t : Shp) : List Lit := [.bool t.on, .int .i32 t.x, .int .i32 t.y, .int .i32 t.vx, .int .i32 t.vy, .int .i64 t.cool, .int .i64 t.score]
theorem wf32 {a : Int} (h0 : -2147483648 ≤ a) (h1 : a ≤ 2147483647) : (Lit.int .i32 a).wf = true := by
  simp [Lit.wf, IntKind.min, IntKind.max, IntKind.signed, IntKind.bits]
  omega
theorem wf64 {a : Int} (h0 : -9223372036854775808 ≤ a) (h1 : a ≤ 9223372036854775807) : (Lit.int .i64 a).wf = true := by
  simp [Lit.wf, IntKind.min, IntKind.max, IntKind.signed, IntKind.bits]
  omega
theorem kl4 (d : Nat) (b : Bool) : Tryz.prog.keyLits (d + 1) 4 [.bool b] = some [.bool b] := by
  unfold Program.keyLits
  rw [Tryz.underlying4]
theorem kl21 (d : Nat) (a : Int) (h : (Lit.int .i32 a).wf = true) : Tryz.prog.keyLits (d + 1) 21 [.int .i32 a] = some [.int .i32 a] := by
  unfold Program.keyLits
  rw [Tryz.underlying21]
  simp only [h, and_self, if_true]
theorem kl3 (d : Nat) (a : Int) (h : (Lit.int .i64 a).wf = true) : Tryz.prog.keyLits (d + 1) 3 [.int .i64 a] = some [.int .i64 a] := by
  unfold Program.keyLits
  rw [Tryz.underlying3]
  simp only [h, and_self, if_true]
theorem kl24 (d : Nat) (t : Shp) (h : t.ok) : Tryz.prog.keyLits (d + 2) 24 (shipL t) = some (litsS t) := by
  have hb : (Lit.int .i32 t.x).wf = true ∧ (Lit.int .i32 t.y).wf = true ∧ (Lit.int .i32 t.vx).wf = true ∧ (Lit.int .i32 t.vy).wf = true ∧ (Lit.int .i64 t.cool).wf = true ∧ (Lit.int .i64 t.score).wf = true := by
    unfold Shp.ok OkShip at h
    split at h <;> exact ⟨wf32 (by omega) (by omega), wf32 (by omega) (by omega), wf32 (by omega) (by omega), wf32 (by omega) (by omega), wf64 (by omega) (by omega), wf64 (by omega) (by omega)⟩
  obtain ⟨h1, h2, h3, h4, h5, h6⟩ := hb
  have k0 := kl4 d t.on
  have k1 := kl21 d t.x h1
  have k2 := kl21 d t.y h2
  have k3 := kl21 d t.vx h3
  have k4 := kl21 d t.vy h4
  have k5 := kl3 d t.cool h5
  have k6 := kl3 d t.score h6
  show Tryz.prog.keyLits ((d + 1) + 1) 24 (shipL t) = some (litsS t)
  unfold Program.keyLits
  rw [Tryz.underlying24]
  simp only [cells24, shipL, List.length_cons, List.length_nil, cells4, cells21, cells3, List.mapM_cons, List.mapM_nil, List.drop_succ_cons, List.drop_zero, List.take_succ_cons, List.take_zero, k0, k1, k2, k3, k4, k5, k6]
  rw [if_pos ⟨trivial, by decide +kernel⟩]
  rfl
def litsAll (S : List Shp) : List Lit := S.flatMap litsS
theorem kl25 (d : Nat) (S : List Shp) (h8 : S.length = 8) (h : ∀ t ∈ S, t.ok) : Tryz.prog.keyLits (d + 3) 25 (shipsL S) = some (litsAll S) := by
  match S, h8 with
  | [t0, t1, t2, t3, t4, t5, t6, t7], _ =>
    have k0 := kl24 d t0 (h t0 (by simp))
    have k1 := kl24 d t1 (h t1 (by simp))
    have k2 := kl24 d t2 (h t2 (by simp))
    have k3 := kl24 d t3 (h t3 (by simp))
    have k4 := kl24 d t4 (h t4 (by simp))
    have k5 := kl24 d t5 (h t5 (by simp))
    have k6 := kl24 d t6 (h t6 (by simp))
    have k7 := kl24 d t7 (h t7 (by simp))
    show Tryz.prog.keyLits ((d + 2) + 1) 25 (shipsL _) = some (litsAll _)
    unfold Program.keyLits
    rw [Tryz.underlying25]
    have hr : List.range 8 = [0, 1, 2, 3, 4, 5, 6, 7] := rfl
    have e0 : ((shipsL [t0, t1, t2, t3, t4, t5, t6, t7]).drop (0 * 7)).take 7 = shipL t0 := rfl
    have e1 : ((shipsL [t0, t1, t2, t3, t4, t5, t6, t7]).drop (1 * 7)).take 7 = shipL t1 := rfl
    have e2 : ((shipsL [t0, t1, t2, t3, t4, t5, t6, t7]).drop (2 * 7)).take 7 = shipL t2 := rfl
    have e3 : ((shipsL [t0, t1, t2, t3, t4, t5, t6, t7]).drop (3 * 7)).take 7 = shipL t3 := rfl
    have e4 : ((shipsL [t0, t1, t2, t3, t4, t5, t6, t7]).drop (4 * 7)).take 7 = shipL t4 := rfl
    have e5 : ((shipsL [t0, t1, t2, t3, t4, t5, t6, t7]).drop (5 * 7)).take 7 = shipL t5 := rfl
    have e6 : ((shipsL [t0, t1, t2, t3, t4, t5, t6, t7]).drop (6 * 7)).take 7 = shipL t6 := rfl
    have e7 : ((shipsL [t0, t1, t2, t3, t4, t5, t6, t7]).drop (7 * 7)).take 7 = shipL t7 := rfl
    simp only [cells25, cells24, length_shipsL, hr, List.mapM_cons, List.mapM_nil, e0, e1, e2, e3, e4, e5, e6, e7, k0, k1, k2, k3, k4, k5, k6, k7, List.length_cons, List.length_nil]
    rfl
theorem formed25 (S : List Shp) (h8 : S.length = 8) : (Value.agg (shipsL S).toArray).formed Tryz.prog 25 = true := by
  unfold Value.formed
  rw [Tryz.underlying25]
  simp [cells25, length_shipsL, h8]
theorem eq25S (W : World) (S : List Shp) (h8 : S.length = 8) (h : ∀ t ∈ S, t.ok) : (Op.equalIn 10000 25 (.agg (shipsL S).toArray) (.agg (shipsL S).toArray)).run Tryz.prog W = .ok true W := by
  obtain ⟨r, h, hr⟩ := run_equalIn_deep (P := Tryz.prog) 9990 10 25 (by kernel_rfl) W 10 10 (.agg (shipsL S).toArray) (.agg (shipsL S).toArray) (litsAll S) (litsAll S) (formed25 S h8) (formed25 S h8) (kl25 7 S h8 h) (kl25 7 S h8 h)
  rw [hr.2 rfl] at h
  exact h
end Go.Proofs.YtdopfonebpklkaaGreat.game
namespace Go.Proofs.YtdopfonebpklkaaGreat.game
open Go.ChangeShapes Go.WideShapes Go.ChangeAt Go.RowKit dice
set_option maxRecDepth 100000

def hitV (s : Sht) (S : List Shp) : Int := match firstHit s S with
  | some k => k
  | none => -1
set_option maxHeartbeats 8000000 in
theorem rhit_any (fr d : Int) (S : List Shp) (sl : Value) (s : Sht) (w0' : World) (hS : S.length = 8) (hok : ∀ t ∈ S, t.ok) (o0 : 0 ≤ s.owner) (hx : 0 ≤ s.x ∧ s.x < 16777216) (hy : 0 ≤ s.y ∧ s.y < 16777216) :
    Calls Tryz.prog 104 #[.agg (gameC fr d S sl), .agg #[.int .i64 s.owner, .int .i32 s.x, .int .i32 s.y, .int .i32 s.vx, .int .i32 s.vy, .int .i64 s.left]] w0' fun e w' => e = .returned (.int .i64 (hitV s S)) ∧ Below w0'.heap.size w0' w' := by
  have HS := Lib.hid hS
  have HO := Lib.hid hok
  have H := Sb.start w0'
  obtain ⟨ow, how⟩ : ∃ ow : Nat, s.owner = ow := ⟨s.owner.toNat, by omega⟩
  have How := Lib.hid how
  have HX := Lib.hid hx
  have HY := Lib.hid hy
  have HP0 : ∀ k t, passes s k t = (!t.on || ((k : Int) == s.owner) || !hitsI s.x s.y t.x t.y) := fun k t => rfl
  have HPD := Lib.hid HP0
  rw [how]
  clear hS hok how hx hy HP0 o0
  go_enter Tryz.func104, Tryz.ntmps104
  go_wp2_with (first | (refine wb_box H rfl 28 _ rfl (gameC fr d S sl) rfl ?_; clear H; intro b2 w H) | (refine wb_box H rfl 93 _ rfl #[.int .i64 ow, .int .i32 s.x, .int .i32 s.y, .int .i32 s.vx, .int .i32 s.vy, .int .i64 s.left] rfl ?_; clear H; intro b3 w H))
  have H' := H
  clear H
  go_loopw [5] (fun i W => ∃ k : Nat, k ≤ 8 ∧ i = .int .i64 k ∧ Hid (∀ j, j < k → passes s j (S.getD j zShp) = true) ∧ Hid (Sb [] w0' W [(b3, #[.int .i64 ow, .int .i32 s.x, .int .i32 s.y, .int .i32 s.vx, .int .i32 s.vy, .int .i64 s.left], 93), (b2, gameC fr d S sl, 28)] [])) (fun i _ => 8 - (intOf i).toNat)
  case atStart => exact ⟨0, Nat.zero_le _, rfl, Lib.hid (fun j hj => by omega), Lib.hid H'⟩
  case round =>
    clear H'
    obtain ⟨k, hk, rfl, HP, HB⟩ := hrel
    by_cases hlt : k < 8
    · obtain ⟨t, ht⟩ : ∃ t, S[k]? = some t := ⟨S[k]'(by rw [HS.out]; exact hlt), List.getElem?_eq_getElem _⟩
      have hbg := HB.out.holds _ (List.mem_cons_of_mem _ (List.mem_cons_self ..))
      have hbp := HB.out.holds _ (List.mem_cons_self ..)
      have con : wr.cell? ⟨b2, 2 + k * 7, none⟩ = some (.bool t.on) := (cell_of_row _ _ _ _ _ _ hbg).trans (gc_at0 k t ht)
      have cx : wr.cell? ⟨b2, 2 + k * 7 + 1, none⟩ = some (.int .i32 t.x) := (cell_of_row _ _ _ _ _ _ hbg).trans (gc_at k 1 t _ ht rfl)
      have cy : wr.cell? ⟨b2, 2 + k * 7 + 2, none⟩ = some (.int .i32 t.y) := (cell_of_row _ _ _ _ _ _ hbg).trans (gc_at k 2 t _ ht rfl)
      have so : wr.cell? ⟨b3, 0, none⟩ = some (.int .i64 ow) := cell_of_row _ _ 0 _ _ _ hbp
      have sx : wr.cell? ⟨b3, 1, none⟩ = some (.int .i32 s.x) := cell_of_row _ _ 1 _ _ _ hbp
      have sy : wr.cell? ⟨b3, 2, none⟩ = some (.int .i32 s.y) := cell_of_row _ _ 2 _ _ _ hbp
      have hg : S.getD k zShp = t := by rw [List.getD_eq_getElem?_getD, ht]; rfl
      have Hg := Lib.hid hg
      have Htk := Lib.hid (HO.out t (List.mem_of_getElem? ht))
      clear hbg hbp ht hg
      have HPn : passes s k t = true → Hid (∀ j, j < k + 1 → passes s j (S.getD j zShp) = true) := fun h => Lib.hid (fun j hj => by
        by_cases e : j = k
        · rw [e, Hg.out]; exact h
        · exact HP.out j (by omega))
      by_cases hon : t.on = true
      · by_cases hko : k = ow
        · have HP' := HPn (by rw [HPD.out, How.out, hko]; simp)
          have hqk : ((k : Int) != (ow : Int)) = false := by rw [hko]; simp
          rw [hon] at con
          clear hon hko HPn
          go_wp2_with fail
          go_quiet (fail)
          have HB' := Lib.hid (HB.out.call (below_drewN (Below.refl _ _) nq))
          clear HB con cx cy so sx sy
          go_wp2_with fail
          exact ⟨⟨k + 1, hlt, rfl, HP', HB'⟩, by simp only [intOf]; omega⟩
        · have hqk : ((k : Int) != (ow : Int)) = true := by rw [bne_iff_ne]; omega
          have hqk' : ((k : Int) == (ow : Int)) = false := beq_eq_false_iff_ne.2 (by omega)
          have Hqk' := Lib.hid hqk'
          have hok : 0 ≤ t.x ∧ t.x < 16777216 ∧ 0 ≤ t.y ∧ t.y < 16777216 := by
            have := Htk.out
            unfold Shp.ok OkShip at this
            rw [if_pos hon] at this
            omega
          obtain ⟨q, hq⟩ : ∃ q, hitsI s.x s.y t.x t.y = q := ⟨_, rfl⟩
          have Hq := Lib.hid hq
          have HH : Hid (∀ w, Calls Tryz.prog 132 #[.int .i32 s.x, .int .i32 s.y, .int .i32 t.x, .int .i32 t.y] w fun e w' => e = .returned (.bool q) ∧ w' = w) := Lib.hid (fun w => (rhits_any s.x s.y t.x t.y w HX.out HY.out ⟨hok.1, hok.2.1⟩ ⟨hok.2.2.1, hok.2.2.2⟩).mono fun e w' h => ⟨by rw [← hq]; exact h.1, h.2.symm⟩)
          rw [hon] at con
          have Hon := Lib.hid hon
          clear hq hon hko hok hqk'
          cases q
          · have HP' := HPn (by rw [HPD.out, Hq.out]; simp)
            clear HPn
            go_wp2_with fail
            go_quiet ((go_at_call_of 132 (Value.int .i32 s.x); exact Calls.quiet_of_same (HH.out _)))
            have HB' := Lib.hid (HB.out.call (below_drewN (Below.refl _ _) nq))
            clear HB con cx cy so sx sy
            go_wp2_with fail
            exact ⟨⟨k + 1, hlt, rfl, HP', HB'⟩, by simp only [intOf]; omega⟩
          · clear HPn
            have hgt : passes s k t = false := by rw [HPD.out, How.out, Hqk'.out, Hq.out, Hon.out]; rfl
            have hfirst : hitV s S = k := by
              unfold hitV
              have : firstHit s S = some k := by
                unfold firstHit
                rw [List.find?_range_eq_some]
                exact ⟨by rw [Hg.out, hgt]; rfl, List.mem_range.2 hlt, fun j hj => by rw [HP.out j hj]; rfl⟩
              rw [this]
            have Hf := Lib.hid hfirst
            clear hgt hfirst
            go_wp2_with fail
            go_quiet ((go_at_call_of 132 (Value.int .i32 s.x); exact Calls.quiet_of_same (HH.out _)))
            have H := HB.out.call (below_drewN (Below.refl _ _) nq)
            clear HB con cx cy so sx sy
            go_wp2_with fail
            go_ret
            exact ⟨by rw [Hf.out]; rfl, H.below⟩
      · have hon' : t.on = false := by simpa using hon
        have HP' := HPn (by rw [HPD.out, hon']; rfl)
        rw [hon'] at con
        clear hon hon' HPn
        go_wp2_with fail
        go_quiet (fail)
        have HB' := Lib.hid (HB.out.call (below_drewN (Below.refl _ _) nq))
        clear HB con cx cy so sx sy
        go_wp2_with fail
        exact ⟨⟨k + 1, hlt, rfl, HP', HB'⟩, by simp only [intOf]; omega⟩
    · obtain rfl : k = 8 := by omega
      have hf : hitV s S = -1 := by
        unfold hitV
        have : firstHit s S = none := by
          unfold firstHit
          rw [List.find?_eq_none]
          intro j hj
          rw [HP.out j (List.mem_range.1 hj)]
          simp
        rw [this]
      have Hf := Lib.hid hf
      clear hf
      go_wp2_with fail
      go_ret
      exact ⟨by rw [Hf.out]; rfl, HB.out.below⟩
theorem rnew_zS (s : ByteArray) (w : World) (hs : s.size ≤ maxLen) (D : Int) (hd : seed s.data.toList = D) :
    Calls Tryz.prog 68 #[.string s] w fun e w' => e = .returned (.agg (gameC 0 D zS (.slice none 0 0))) ∧ Below w.heap.size w w' := by
  have HSd := Lib.hid (fun w => rseed_any s w hs)
  rw [hd] at HSd
  have H := Sb.start w
  clear hd
  go_enter Tryz.func68, Tryz.ntmps68
  go_wp2_with (first | (refine wb_alloc H rfl 28 rfl _ Tryz.zeroValue28 ?_; clear H; intro b2 w H))
  refine (HSd.out _).mono ?_; rintro e w' ⟨rfl, rfl⟩
  go_wp2_with (refine wb_put H rfl 0 28 _ _ rfl _ 0 rfl _ _ rfl (.agg (gameC 0 D zS (.slice none 0 0))) rfl 59 info28 rfl (Nat.le_of_ble_eq_true rfl) rfl (gameC 0 D zS (.slice none 0 0)) rfl ?_; clear H; intro w H)
  refine bodyPost_ret (v := .agg (gameC 0 D zS (.slice none 0 0))) ?_ rfl ⟨rfl, H.below⟩
  exact res1 rfl rfl (H.holds _ (List.mem_cons_self ..)) rfl
set_option maxHeartbeats 8000000 in
/-- The reference's Spawn keeps the slice that came in. -/
theorem rspawn_any (g : Gme) (k : Nat) (t : Shp) (sl : Value) (w0' : World) (hg : g.ok) (hk : k < 8) (ht : g.S[k]? = some t) (hoff : t.on = false) (hin : ShotsIn w0' sl g.L) :
    Calls Tryz.prog 57 #[.agg (gameC g.fr g.d g.S sl), .int .i64 k] w0' fun e w' => e = .returned (.tuple #[.agg (gameC g.fr (next (next g.d)) (spawnG g k).S sl), .int .i64 0]) ∧ Below w0'.heap.size w0' w' := by
  have HM := Lib.hid (fun w h => rmayG g sl w hg h)
  have HS := Lib.hid hg.s8
  have HI := Lib.hid hin
  have HONE := Lib.hid (fun (fr d : Int) (S : List Shp) => show (Value.cells (.agg (gameC fr d S sl))).toList.all (·.oneCell') = true by
    have := gc_one (fr := fr) (d := d) (S := S) (sl := sl) (slOne hin)
    simpa [Value.cells] using this)
  have Hc := Lib.hid (gc_at0 (fr := g.fr) (d := g.d) (sl := sl) k t ht)
  rw [hoff] at Hc
  have H := Sb.start w0'
  unfold spawnG
  clear hg ht hin hoff
  obtain ⟨fr, d, S, L⟩ := g
  dsimp only at *
  have G1 := Lib.hid (gc_ship (fr := fr) (d := next (next d)) (S := S) (sl := sl) k ⟨true, px d, py d, 0, 0, 0, 0⟩ (by rw [HS.out]; exact hk))
  have HS2 : Hid ((S.set k ⟨true, px d, py d, 0, 0, 0, 0⟩).length = 8) := Lib.hid (by rw [List.length_set]; exact HS.out)
  generalize hS2 : S.set k ⟨true, px d, py d, 0, 0, 0, 0⟩ = S2 at *
  clear hS2
  go_enter Tryz.func57, Tryz.ntmps57
  go_wp2_with (first | (refine wb_box H rfl 28 _ rfl (gameC fr d S sl) rfl ?_; clear H; intro b2 w H) | (refine wb_alloc H rfl 28 rfl _ Tryz.zeroValue28 ?_; clear H; intro b4 w H) | (refine wb_whole H rfl 1 28 _ rfl _ rfl _ rfl _ Tryz.underlying28 rfl 59 info28 (gc_size HS.out) ?_))
  refine (HM.out _ (HI.out.later H.below)).mono ?_; rintro e w' ⟨rfl, hb⟩
  replace H := H.call hb
  clear hb
  have q1 : decide ((k : Int) < 0) = false := decide_eq_false (by omega)
  have q2 : decide (8 ≤ (k : Int)) = false := decide_eq_false (by omega)
  go_wp2_with (first | (refine wb_cell H rfl 1 4 _ rfl _ (2 + k * 7) rfl _ _ rfl Tryz.isAgg4 (.bool false) Hc.out ?_) | (refine wb_cell H rfl 1 22 _ rfl _ 1 rfl _ _ rfl Tryz.isAgg22 (.int .u64 d) rfl ?_))
  refine (rplace_any d _).mono ?_; rintro e w' ⟨rfl, rfl⟩
  go_wp2_with (first | (refine wb_put H rfl 1 22 _ _ rfl _ 1 rfl _ _ rfl (.int .u64 (next (next d))) rfl 1 info22 rfl (by rw [gc_size HS.out]; omega) rfl _ (gc_setDice _) ?_; clear H; intro w H) | (refine wb_put H rfl 1 24 _ _ rfl _ (2 + k * 7) rfl _ _ rfl (.agg #[.bool true, .int .i32 (px d), .int .i32 (py d), .int .i32 0, .int .i32 0, .int .i64 0, .int .i64 0]) rfl 7 info24 rfl (by rw [gc_size HS.out]; omega) rfl _ G1.out ?_; clear H; intro w H) | (refine wb_whole H rfl 1 28 _ rfl _ rfl (gameC fr (next (next d)) S2 sl) rfl _ Tryz.underlying28 rfl 59 info28 (gc_size HS2.out) ?_) | (refine wb_put H rfl 0 28 _ _ rfl _ 0 rfl _ _ rfl (.agg (gameC fr (next (next d)) S2 sl)) rfl 59 info28 (gc_size HS2.out) (Nat.le_of_ble_eq_true rfl) (HONE.out _ _ _) (gameC fr (next (next d)) S2 sl) (splice_all _ _ (by rw [show (Value.cells (.agg (gameC fr (next (next d)) S2 sl))).size = 59 from gc_size HS2.out]; rfl)) ?_; clear H; intro w H))
  refine bodyPost_ret (v := .tuple #[.agg (gameC fr (next (next d)) S2 sl), .int .i64 0]) ?_ rfl ⟨rfl, H.below⟩
  exact res2 rfl rfl rfl (H.holds _ (List.mem_cons_self ..)) (gc_size HS2.out)
end Go.Proofs.YtdopfonebpklkaaGreat.game
namespace Go.Proofs.YtdopfonebpklkaaGreat.game
open Go.ChangeShapes Go.WideShapes Go.ChangeAt Go.RowKit dice
set_option maxRecDepth 100000

theorem gc_ships {fr d : Int} {S : List Shp} {sl : Value} : ∀ j v, (shipsL S)[j]? = some v → (gameC fr d S sl)[2 + j]? = some v := fun j v h => by
  unfold gameC
  have hl := (List.getElem?_eq_some_iff.1 h).1
  rw [List.getElem?_toArray, show 2 + j = j + 1 + 1 by omega, List.getElem?_cons_succ, List.getElem?_cons_succ, List.getElem?_append_left hl]
  exact h
set_option maxHeartbeats 8000000 in
theorem rsame_any (g : Gme) (sl1 sl2 : Value) (w0' : World) (hg : g.ok) (hin1 : ShotsIn w0' sl1 g.L) (hin2 : ShotsIn w0' sl2 g.L) :
    Calls Tryz.prog 62 #[.agg (gameC g.fr g.d g.S sl1), .agg (gameC g.fr g.d g.S sl2)] w0' fun e w' => e = .returned (.bool true) ∧ Below w0'.heap.size w0' w' := by
  obtain ⟨ad1, c1, rfl, hat1⟩ := hin1.form
  obtain ⟨ad2, c2, rfl, hat2⟩ := hin2.form
  have hm := hg.most
  have HS := Lib.hid hg.s8
  have HE := Lib.hid (fun W => eq25S W g.S hg.s8 hg.ships)
  have HA1 := Lib.hid hat1
  have HA2 := Lib.hid hat2
  have H := Sb.start w0'
  clear hg hin1 hin2 hat1 hat2
  obtain ⟨fr, d, S, L⟩ := g
  dsimp only at *
  have Hs1 := Lib.hid (gc_shots (fr := fr) (d := d) (S := S) (sl := .slice ad1 L.length c1) HS.out)
  have Hs2 := Lib.hid (gc_shots (fr := fr) (d := d) (S := S) (sl := .slice ad2 L.length c2) HS.out)
  have Hl := Lib.hid (show (shipsL S).length = 56 by rw [length_shipsL, HS.out])
  have Hp1 := Lib.hid (fun j v h => gc_ships (fr := fr) (d := d) (S := S) (sl := .slice ad1 L.length c1) j v h)
  have Hp2 := Lib.hid (fun j v h => gc_ships (fr := fr) (d := d) (S := S) (sl := .slice ad2 L.length c2) j v h)
  obtain ⟨ss, hss⟩ : ∃ ss, shipsL S = ss := ⟨_, rfl⟩
  rw [hss] at Hl Hp1 Hp2 HE
  clear hss
  have he := HE.out
  go_enter Tryz.func62, Tryz.ntmps62
  go_wp2_with (first | (refine wb_box H rfl 28 _ rfl (gameC fr d S (.slice ad1 L.length c1)) rfl ?_; clear H; intro b2 w H) | (refine wb_box H rfl 28 _ rfl (gameC fr d S (.slice ad2 L.length c2)) rfl ?_; clear H; intro b3 w H) | (refine wb_cell H rfl 1 3 _ rfl _ 0 rfl _ _ rfl Tryz.isAgg3 (.int .i64 fr) rfl ?_) | (refine wb_cell H rfl 0 3 _ rfl _ 0 rfl _ _ rfl Tryz.isAgg3 (.int .i64 fr) rfl ?_) | (refine wb_cell H rfl 1 22 _ rfl _ 1 rfl _ _ rfl Tryz.isAgg22 (.int .u64 d) rfl ?_) | (refine wb_cell H rfl 0 22 _ rfl _ 1 rfl _ _ rfl Tryz.isAgg22 (.int .u64 d) rfl ?_) | (refine wb_part H rfl 1 25 _ rfl _ 2 rfl _ _ rfl _ Tryz.underlying25 rfl 56 info25 ss Hp1.out Hl.out ?_) | (refine wb_part H rfl 0 25 _ rfl _ 2 rfl _ _ rfl _ Tryz.underlying25 rfl 56 info25 ss Hp2.out Hl.out ?_) | (refine wb_cell H rfl 1 26 _ rfl _ 58 rfl _ _ rfl Tryz.isAgg26 (.slice ad1 L.length c1) Hs1.out ?_) | (refine wb_cell H rfl 0 26 _ rfl _ 58 rfl _ _ rfl Tryz.isAgg26 (.slice ad2 L.length c2) Hs2.out ?_))
  have H' : Sb [] w0' w [(b3, gameC fr d S (.slice ad2 L.length c2), 28), (b2, gameC fr d S (.slice ad1 L.length c1), 28)] [] := H
  clear H he
  go_loopw [5] (fun i W => ∃ k : Nat, k ≤ L.length ∧ i = .int .i64 k ∧ Hid (Sb [] w0' W [(b3, gameC fr d S (.slice ad2 L.length c2), 28), (b2, gameC fr d S (.slice ad1 L.length c1), 28)] [])) (fun i _ => L.length - (intOf i).toNat)
  case atStart => exact ⟨0, Nat.zero_le _, rfl, Lib.hid H'⟩
  case round =>
    clear H'
    obtain ⟨k, hk, rfl, HB⟩ := hrel
    by_cases hlt : k < L.length
    · obtain ⟨g1, o1, had1, hg1, hc1⟩ := HA1.out (by omega)
      obtain ⟨g2, o2, had2, hg2, hc2⟩ := HA2.out (by omega)
      subst had1
      subst had2
      obtain ⟨s, hs⟩ : ∃ s, L[k]? = some s := ⟨L[k], List.getElem?_eq_getElem hlt⟩
      have old1 := fun j v h => (HB.out.old rfl (p := ⟨g1, o1 + j, none⟩) hg1).trans (hc1 j v h)
      have old2 := fun j v h => (HB.out.old rfl (p := ⟨g2, o2 + j, none⟩) hg2).trans (hc2 j v h)
      obtain ⟨p0, p1, p2, p3, p4, p5⟩ := shot_at old1 k s hs
      obtain ⟨r0, r1, r2, r3, r4, r5⟩ := shot_at old2 k s hs
      have k3 := (cell_of_row _ _ 58 _ _ _ (HB.out.holds _ (List.mem_cons_self ..))).trans Hs2.out
      have k2 := (cell_of_row _ _ 58 _ _ _ (HB.out.holds _ (List.mem_cons_of_mem _ (List.mem_cons_self ..)))).trans Hs1.out
      clear old1 old2 hc1 hc2 hs
      go_wp2_with fail
      go_quiet (fail)
      have HB' := Lib.hid (HB.out.call (below_drewN (Below.refl _ _) nq))
      clear HB p0 p1 p2 p3 p4 p5 r0 r1 r2 r3 r4 r5 k2 k3
      go_wp2_with fail
      exact ⟨⟨k + 1, hlt, rfl, HB'⟩, by simp only [intOf]; omega⟩
    · obtain rfl : k = L.length := by omega
      have H := HB.out
      clear HB
      go_wp2_with (refine wb_cell H rfl 1 26 _ rfl _ 58 rfl _ _ rfl Tryz.isAgg26 (.slice ad1 L.length c1) Hs1.out ?_)
      go_ret
      exact ⟨rfl, H.below⟩
end Go.Proofs.YtdopfonebpklkaaGreat.game
