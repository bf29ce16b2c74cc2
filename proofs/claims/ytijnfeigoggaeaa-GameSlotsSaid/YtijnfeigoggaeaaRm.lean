/- The document's answer: which games may be. -/
import Derived.Test.YtijnfeigoggaeaaRe
import Derived.Test.YtijnfeigoggaeaaWo
namespace Go.Proofs.Ytijnfeigoggaeaa.game
open Go.ChangeShapes Go.WideShapes Go.ChangeAt Go.RowKit dice
set_option maxRecDepth 100000

/-- Shots, where they lie ahead of the call: an address. -/
def ShotsAt (W : World) (ad : Option Addr) (L : List Sht) : Prop :=
  0 < L.length → ∃ g o, ad = some ⟨g, o, none⟩ ∧ g < W.heap.size ∧ ∀ j v, (cellsL L)[j]? = some v → W.cell? ⟨g, o + j, none⟩ = some v
theorem ShotsIn.form {W : World} {sl : Value} {L : List Sht} (h : ShotsIn W sl L) : ∃ ad c, sl = .slice ad L.length c ∧ ShotsAt W ad L := by
  rcases h with ⟨rfl, rfl⟩ | ⟨g, o, c, rfl, hg, hc⟩
  · exact ⟨none, 0, rfl, fun h => absurd h (by simp)⟩
  · exact ⟨_, c, rfl, fun _ => ⟨g, o, rfl, hg, hc⟩⟩
theorem range6 {w : World} {g o : Nat} {s : Sht} (h : ShotAt w g o s) : w.rangeAt g o [.int .i64 s.owner, .int .i32 s.x, .int .i32 s.y, .int .i32 s.vx, .int .i32 s.vy, .int .i64 s.left] := fun j v hv => by
  match j, hv with
  | 0, hv => cases hv; exact h.owner
  | 1, hv => cases hv; exact h.x
  | 2, hv => cases hv; exact h.y
  | 3, hv => cases hv; exact h.vx
  | 4, hv => cases hv; exact h.vy
  | 5, hv => cases hv; exact h.left
  | j + 6, hv => simp at hv
set_option maxHeartbeats 8000000 in
theorem rmayG (g : Gme) (sl : Value) (w0' : World) (hg : g.ok) (hin : ShotsIn w0' sl g.L) :
    Calls Try.prog 49 #[.agg (gameC g.fr g.d g.S sl)] w0' fun e w' => e = .returned (.bool true) ∧ Below w0'.heap.size w0' w' := by
  obtain ⟨ad, c, rfl, hat⟩ := hin.form
  have f0 := hg.f0
  have f1 := hg.f1
  have hm := hg.most
  have HS := Lib.hid hg.s8
  have HO := Lib.hid hg.ships
  have HL := Lib.hid hg.shots
  have Hat := Lib.hid hat
  have H := Sb.start w0'
  clear hg hin hat
  obtain ⟨fr, d, S, L⟩ := g
  dsimp only at *
  have Hs58 := Lib.hid (gc_shots (fr := fr) (d := d) (S := S) (sl := .slice ad L.length c) HS.out)
  have q0 : decide (fr < 0) = false := decide_eq_false (by omega)
  have q1 : decide (1048576 < fr) = false := decide_eq_false (by omega)
  have q2 : decide (32 < (L.length : Int)) = false := decide_eq_false (by omega)
  go_enter Try.func49, Try.ntmps49
  go_wp2_with (first | (refine wb_box H rfl 28 _ rfl (gameC fr d S (.slice ad L.length c)) rfl ?_; clear H; intro b1 w H) | (refine wb_cell H rfl 0 3 _ rfl _ 0 rfl _ _ rfl Try.isAgg3 (.int .i64 fr) rfl ?_) | (refine wb_cell H rfl 0 26 _ rfl _ 58 rfl _ _ rfl Try.isAgg26 (.slice ad L.length c) Hs58.out ?_))
  have H' := H
  clear H
  go_loopw [3] (fun i W => ∃ k : Nat, k ≤ 8 ∧ i = .int .i64 k ∧ Hid (Sb [] w0' W [(b1, gameC fr d S (.slice ad L.length c), 28)] [])) (fun i _ => 8 - (intOf i).toNat)
  case atStart => exact ⟨0, Nat.zero_le _, rfl, Lib.hid H'⟩
  case round =>
    clear H'
    obtain ⟨k, hk, rfl, HB⟩ := hrel
    by_cases hlt : k < 8
    · obtain ⟨t, ht⟩ : ∃ t, S[k]? = some t := ⟨S[k]'(by rw [HS.out]; exact hlt), List.getElem?_eq_getElem _⟩
      have hok := HO.out t (List.mem_of_getElem? ht)
      have CX := Lib.hid (fun (j : Nat) (v : Value) hv => gc_at (fr := fr) (d := d) (sl := .slice ad L.length c) k j t v ht hv)
      have H := HB.out
      clear HB ht
      obtain ⟨o, x, y, vx, vy, cl, sc⟩ := t
      unfold Shp.ok OkShip at hok
      dsimp only at hok
      have hb : 0 ≤ x ∧ x < 16777216 ∧ 0 ≤ y ∧ y < 16777216 ∧ -524288 ≤ vx ∧ vx ≤ 524288 ∧ -524288 ≤ vy ∧ vy ≤ 524288 ∧ 0 ≤ cl ∧ cl ≤ 10 ∧ 0 ≤ sc ∧ sc ≤ 1073741824 := by split at hok <;> omega
      obtain ⟨x0, x1, y0, y1, u0, u1, v0, v1, c0, c1, s0, s1⟩ := hb
      have I1 := Lib.hid (fun w => rin_any x w x0 x1)
      have I2 := Lib.hid (fun w => rin_any y w y0 y1)
      have I3 := Lib.hid (fun w => rslow_any vx 524288 w (.inl rfl) u0 u1)
      have I4 := Lib.hid (fun w => rslow_any vy 524288 w (.inl rfl) v0 v1)
      cases o
      · rw [if_neg (by simp)] at hok
        obtain ⟨rfl, rfl, rfl, rfl, rfl, rfl⟩ := hok
        go_wp2_with (first | (refine wb_part H rfl 0 24 _ rfl _ (2 + k * 7) rfl _ _ rfl _ Try.underlying24 rfl 7 info24 [.bool false, .int .i32 0, .int .i32 0, .int .i32 0, .int .i32 0, .int .i64 0, .int .i64 0] CX.out rfl ?_) | (refine wb_alloc H rfl 24 rfl _ Try.zeroValue24 ?_; clear H; intro b4 w H) | (refine wb_put H rfl 0 24 _ _ rfl _ 0 rfl _ _ rfl (.agg #[.bool false, .int .i32 0, .int .i32 0, .int .i32 0, .int .i32 0, .int .i64 0, .int .i64 0]) rfl 7 info24 rfl (Nat.le_of_ble_eq_true rfl) rfl #[.bool false, .int .i32 0, .int .i32 0, .int .i32 0, .int .i32 0, .int .i64 0, .int .i64 0] rfl ?_; clear H; intro w H) | (refine wb_cell H rfl 0 4 _ rfl _ 0 rfl _ _ rfl Try.isAgg4 (.bool false) rfl ?_) | (refine wb_whole H rfl 0 24 _ rfl _ rfl #[.bool false, .int .i32 0, .int .i32 0, .int .i32 0, .int .i32 0, .int .i64 0, .int .i64 0] rfl _ Try.underlying24 rfl 7 info24 rfl ?_) | (refine wb_cell H rfl 0 21 _ rfl _ 1 rfl _ _ rfl Try.isAgg21 (.int .i32 0) rfl ?_))
        refine (I1.out _).mono ?_; rintro e w' ⟨rfl, rfl⟩
        go_wp2_with (refine wb_cell H rfl 0 21 _ rfl _ 2 rfl _ _ rfl Try.isAgg21 (.int .i32 0) rfl ?_)
        refine (I2.out _).mono ?_; rintro e w' ⟨rfl, rfl⟩
        go_wp2_with (refine wb_cell H rfl 0 21 _ rfl _ 3 rfl _ _ rfl Try.isAgg21 (.int .i32 0) rfl ?_)
        refine (I3.out _).mono ?_; rintro e w' ⟨rfl, rfl⟩
        go_wp2_with (refine wb_cell H rfl 0 21 _ rfl _ 4 rfl _ _ rfl Try.isAgg21 (.int .i32 0) rfl ?_)
        refine (I4.out _).mono ?_; rintro e w' ⟨rfl, rfl⟩
        go_wp2_with (first | (refine wb_cell H rfl 0 3 _ rfl _ 5 rfl _ _ rfl Try.isAgg3 (.int .i64 0) rfl ?_) | (refine wb_cell H rfl 0 3 _ rfl _ 6 rfl _ _ rfl Try.isAgg3 (.int .i64 0) rfl ?_))
        have H2 : Sb [] w0' w [(b4, #[.bool false, .int .i32 0, .int .i32 0, .int .i32 0, .int .i32 0, .int .i64 0, .int .i64 0], 24), (b1, gameC fr d S (.slice ad L.length c), 28)] [] := H
        exact ⟨⟨k + 1, hlt, rfl, Lib.hid H2.tail⟩, by simp only [intOf]; omega⟩
      · clear hok
        have z0 : decide (cl < 0) = false := decide_eq_false (by omega)
        have z1 : decide (10 < cl) = false := decide_eq_false (by omega)
        have z2 : decide (sc < 0) = false := decide_eq_false (by omega)
        have z3 : decide (1073741824 < sc) = false := decide_eq_false (by omega)
        go_wp2_with (first | (refine wb_part H rfl 0 24 _ rfl _ (2 + k * 7) rfl _ _ rfl _ Try.underlying24 rfl 7 info24 [.bool true, .int .i32 x, .int .i32 y, .int .i32 vx, .int .i32 vy, .int .i64 cl, .int .i64 sc] CX.out rfl ?_) | (refine wb_alloc H rfl 24 rfl _ Try.zeroValue24 ?_; clear H; intro b4 w H) | (refine wb_put H rfl 0 24 _ _ rfl _ 0 rfl _ _ rfl (.agg #[.bool true, .int .i32 x, .int .i32 y, .int .i32 vx, .int .i32 vy, .int .i64 cl, .int .i64 sc]) rfl 7 info24 rfl (Nat.le_of_ble_eq_true rfl) rfl #[.bool true, .int .i32 x, .int .i32 y, .int .i32 vx, .int .i32 vy, .int .i64 cl, .int .i64 sc] rfl ?_; clear H; intro w H) | (refine wb_cell H rfl 0 4 _ rfl _ 0 rfl _ _ rfl Try.isAgg4 (.bool true) rfl ?_) | (refine wb_cell H rfl 0 21 _ rfl _ 1 rfl _ _ rfl Try.isAgg21 (.int .i32 x) rfl ?_))
        refine (I1.out _).mono ?_; rintro e w' ⟨rfl, rfl⟩
        go_wp2_with (refine wb_cell H rfl 0 21 _ rfl _ 2 rfl _ _ rfl Try.isAgg21 (.int .i32 y) rfl ?_)
        refine (I2.out _).mono ?_; rintro e w' ⟨rfl, rfl⟩
        go_wp2_with (refine wb_cell H rfl 0 21 _ rfl _ 3 rfl _ _ rfl Try.isAgg21 (.int .i32 vx) rfl ?_)
        refine (I3.out _).mono ?_; rintro e w' ⟨rfl, rfl⟩
        go_wp2_with (refine wb_cell H rfl 0 21 _ rfl _ 4 rfl _ _ rfl Try.isAgg21 (.int .i32 vy) rfl ?_)
        refine (I4.out _).mono ?_; rintro e w' ⟨rfl, rfl⟩
        go_wp2_with (first | (refine wb_cell H rfl 0 3 _ rfl _ 5 rfl _ _ rfl Try.isAgg3 (.int .i64 cl) rfl ?_) | (refine wb_cell H rfl 0 3 _ rfl _ 6 rfl _ _ rfl Try.isAgg3 (.int .i64 sc) rfl ?_))
        have H2 : Sb [] w0' w [(b4, #[.bool true, .int .i32 x, .int .i32 y, .int .i32 vx, .int .i32 vy, .int .i64 cl, .int .i64 sc], 24), (b1, gameC fr d S (.slice ad L.length c), 28)] [] := H
        exact ⟨⟨k + 1, hlt, rfl, Lib.hid H2.tail⟩, by simp only [intOf]; omega⟩
    · obtain rfl : k = 8 := by omega
      rw [show ((8 : Nat) : Int) = 8 from rfl]
      go_wp2_with fail
      go_loopw [5] (fun i W => ∃ k : Nat, k ≤ L.length ∧ i = .int .i64 k ∧ Hid (Sb [] w0' W [(b1, gameC fr d S (.slice ad L.length c), 28)] [])) (fun i _ => L.length - (intOf i).toNat)
      case atStart => exact ⟨0, Nat.zero_le _, rfl, HB⟩
      case round =>
        clear HB
        obtain ⟨k, hk, rfl, HB⟩ := hrel
        by_cases hlt : k < L.length
        · obtain ⟨gi, oi, had, hgi, hcs⟩ := Hat.out (by omega)
          subst had
          obtain ⟨s, hs⟩ : ∃ s, L[k]? = some s := ⟨L[k], List.getElem?_eq_getElem hlt⟩
          have hok := HL.out s (List.mem_of_getElem? hs)
          have R6 := Lib.hid (range6 (shot_at hcs k s hs))
          have Hg := Lib.hid hgi
          have H := HB.out
          clear HB hcs hs hgi
          obtain ⟨o, x, y, vx, vy, lf⟩ := s
          obtain ⟨o0, o1, x0, x1, y0, y1, u0, u1, v0, v1, l0, l1⟩ := hok
          dsimp only at *
          have I1 := Lib.hid (fun w => rin_any x w x0 x1)
          have I2 := Lib.hid (fun w => rin_any y w y0 y1)
          have I3 := Lib.hid (fun w => rslow_any vx 393216 w (.inr rfl) u0 u1)
          have I4 := Lib.hid (fun w => rslow_any vy 393216 w (.inr rfl) v0 v1)
          have z0 : decide (o < 0) = false := decide_eq_false (by omega)
          have z1 : decide (8 ≤ o) = false := decide_eq_false (by omega)
          have z2 : decide (lf < 1) = false := decide_eq_false (by omega)
          have z3 : decide (24 < lf) = false := decide_eq_false (by omega)
          go_wp2_with (first | (refine wb_cell H rfl 0 26 _ rfl _ 58 rfl _ _ rfl Try.isAgg26 (.slice (some ⟨gi, oi, none⟩) L.length c) Hs58.out ?_) | (refine wb_oldRow H rfl 79 _ rfl gi (oi + k * 6) rfl [.int .i64 o, .int .i32 x, .int .i32 y, .int .i32 vx, .int .i32 vy, .int .i64 lf] Hg.out R6.out _ Try.underlying79 rfl info79s ?_) | (refine wb_alloc H rfl 79 rfl _ Try.zeroValue79 ?_; clear H; intro b6 w H) | (refine wb_put H rfl 0 79 _ _ rfl _ 0 rfl _ _ rfl (.agg #[.int .i64 o, .int .i32 x, .int .i32 y, .int .i32 vx, .int .i32 vy, .int .i64 lf]) rfl 6 info79s rfl (Nat.le_of_ble_eq_true rfl) rfl #[.int .i64 o, .int .i32 x, .int .i32 y, .int .i32 vx, .int .i32 vy, .int .i64 lf] rfl ?_; clear H; intro w H) | (refine wb_cell H rfl 0 3 _ rfl _ 0 rfl _ _ rfl Try.isAgg3 (.int .i64 o) rfl ?_) | (refine wb_cell H rfl 0 21 _ rfl _ 1 rfl _ _ rfl Try.isAgg21 (.int .i32 x) rfl ?_))
          refine (I1.out _).mono ?_; rintro e w' ⟨rfl, rfl⟩
          go_wp2_with (refine wb_cell H rfl 0 21 _ rfl _ 2 rfl _ _ rfl Try.isAgg21 (.int .i32 y) rfl ?_)
          refine (I2.out _).mono ?_; rintro e w' ⟨rfl, rfl⟩
          go_wp2_with (refine wb_cell H rfl 0 21 _ rfl _ 3 rfl _ _ rfl Try.isAgg21 (.int .i32 vx) rfl ?_)
          refine (I3.out _).mono ?_; rintro e w' ⟨rfl, rfl⟩
          go_wp2_with (refine wb_cell H rfl 0 21 _ rfl _ 4 rfl _ _ rfl Try.isAgg21 (.int .i32 vy) rfl ?_)
          refine (I4.out _).mono ?_; rintro e w' ⟨rfl, rfl⟩
          go_wp2_with (refine wb_cell H rfl 0 3 _ rfl _ 5 rfl _ _ rfl Try.isAgg3 (.int .i64 lf) rfl ?_)
          have H2 : Sb [] w0' w [(b6, #[.int .i64 o, .int .i32 x, .int .i32 y, .int .i32 vx, .int .i32 vy, .int .i64 lf], 79), (b1, gameC fr d S (.slice (some ⟨gi, oi, none⟩) L.length c), 28)] [] := H
          exact ⟨⟨k + 1, hlt, rfl, Lib.hid H2.tail⟩, by simp only [intOf]; omega⟩
        · obtain rfl : k = L.length := by omega
          have H := HB.out
          clear HB
          go_wp2_with (refine wb_cell H rfl 0 26 _ rfl _ 58 rfl _ _ rfl Try.isAgg26 (.slice ad L.length c) Hs58.out ?_)
          go_ret
          exact ⟨rfl, H.below⟩
end Go.Proofs.Ytijnfeigoggaeaa.game
