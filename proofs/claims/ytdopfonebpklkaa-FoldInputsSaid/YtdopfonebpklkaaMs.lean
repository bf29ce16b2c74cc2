/- Which ships may be: game.mayShip, and slices.ContainsFunc over eight of them. -/
import Derived.Test.YtdopfonebpklkaaDice
import Derived.Lib.Hide
namespace Go.Proofs.Ytdopfonebpklkaa.game
open Go.ChangeShapes Go.WideShapes Go.ChangeAt Go.RowKit dice
set_option maxRecDepth 100000

/-- A ship that may be: none, or one on the field. -/
def OkShip (on : Bool) (x y vx vy cool score : Int) : Prop :=
  if on = true then (0 ≤ x ∧ x < 16777216 ∧ 0 ≤ y ∧ y < 16777216 ∧ -524288 ≤ vx ∧ vx ≤ 524288 ∧ -524288 ≤ vy ∧ vy ≤ 524288 ∧ 0 ≤ cool ∧ cool ≤ 10 ∧ 0 ≤ score ∧ score ≤ 1073741824)
  else (x = 0 ∧ y = 0 ∧ vx = 0 ∧ vy = 0 ∧ cool = 0 ∧ score = 0)

theorem on_in (a : Int) (w : World) (h : 0 ≤ a) (h' : a < 16777216) :
    Calls Try.prog 64 #[.int .i32 a] w fun e w' => e = .returned (.bool true) ∧ w = w' := by
  go_enter Try.func64, Try.ntmps64
  go_wp2
  go_ret
  exact ⟨rfl, rfl⟩
theorem size_in (a : Int) (w : World) (h : -524288 ≤ a) (h' : a ≤ 524288) :
    Calls Try.prog 65 #[.int .i32 a, .int .i32 524288] w fun e w' => e = .returned (.bool true) ∧ w = w' := by
  go_enter Try.func65, Try.ntmps65
  go_wp2
  go_ret
  exact ⟨rfl, rfl⟩
theorem mayShip_on (x y vx vy cool score : Int) (w : World) (h : OkShip true x y vx vy cool score) :
    Calls Try.prog 44 #[.agg #[.bool true, .int .i32 x, .int .i32 y, .int .i32 vx, .int .i32 vy, .int .i64 cool, .int .i64 score]] w fun e w' => e = .returned (.bool true) ∧ Below w.heap.size w w' := by
  unfold OkShip at h
  rw [if_pos rfl] at h
  obtain ⟨h1, h2, h3, h4, h5, h6, h7, h8, h9, h10, h11, h12⟩ := h
  have Hx := Lib.hid (fun w => on_in x w h1 h2)
  have Hy := Lib.hid (fun w => on_in y w h3 h4)
  have Hu := Lib.hid (fun w => size_in vx w h5 h6)
  have Hv := Lib.hid (fun w => size_in vy w h7 h8)
  clear h1 h2 h3 h4 h5 h6 h7 h8
  go_enter Try.func44, Try.ntmps44
  go_wp2_with fail
  refine (Hx.out _).mono ?_; rintro e w' ⟨rfl, rfl⟩
  go_wp2_with fail
  refine (Hy.out _).mono ?_; rintro e w' ⟨rfl, rfl⟩
  go_wp2_with fail
  refine (Hu.out _).mono ?_; rintro e w' ⟨rfl, rfl⟩
  go_wp2_with fail
  refine (Hv.out _).mono ?_; rintro e w' ⟨rfl, rfl⟩
  go_wp2_with fail
  go_ret
  exact ⟨rfl, by repeat (first | exact Below.refl _ _ | apply Below.drew | (refine Below.alloc ?_ (by simp) _))⟩
theorem mayShip_off (w : World) :
    Calls Try.prog 44 #[.agg #[.bool false, .int .i32 0, .int .i32 0, .int .i32 0, .int .i32 0, .int .i64 0, .int .i64 0]] w fun e w' => e = .returned (.bool true) ∧ Below w.heap.size w w' := by
  go_enter Try.func44, Try.ntmps44
  go_wp2_with fail
  go_ret
  exact ⟨rfl, by repeat (first | exact Below.refl _ _ | apply Below.drew | (refine Below.alloc ?_ (by simp) _))⟩
theorem mayShip_any (on : Bool) (x y vx vy cool score : Int) (w : World) (h : OkShip on x y vx vy cool score) :
    Calls Try.prog 44 #[.agg #[.bool on, .int .i32 x, .int .i32 y, .int .i32 vx, .int .i32 vy, .int .i64 cool, .int .i64 score]] w fun e w' => e = .returned (.bool true) ∧ Below w.heap.size w w' := by
  cases on with
  | true => exact mayShip_on x y vx vy cool score w h
  | false =>
    unfold OkShip at h
    rw [if_neg (by decide)] at h
    obtain ⟨rfl, rfl, rfl, rfl, rfl, rfl⟩ := h
    exact mayShip_off w
theorem not_any (on : Bool) (x y vx vy cool score : Int) (w : World) (h : OkShip on x y vx vy cool score) :
    Calls Try.prog 43 #[.agg #[.bool on, .int .i32 x, .int .i32 y, .int .i32 vx, .int .i32 vy, .int .i64 cool, .int .i64 score]] w fun e w' => e = .returned (.bool false) ∧ Below w.heap.size w w' := by
  have H := Lib.hid (fun w => mayShip_any on x y vx vy cool score w h)
  clear h
  go_enter Try.func43, Try.ntmps43
  go_wp2_with fail
  refine (H.out _).mono ?_; rintro e w' ⟨rfl, hg⟩
  have HG := Lib.hid ((((Below.refl w.heap.size w).alloc (Nat.le_refl _) _)).trans (hg.mono (by simp)))
  clear hg
  go_wp2_with fail
  go_ret
  exact ⟨rfl, HG.out⟩
structure ShipAt (W : World) (b o : Nat) (on : Bool) (x y vx vy cool score : Int) : Prop where
  on : W.cell? ⟨b, o, none⟩ = some (.bool on)
  x : W.cell? ⟨b, o + 1, none⟩ = some (.int .i32 x)
  y : W.cell? ⟨b, o + 2, none⟩ = some (.int .i32 y)
  vx : W.cell? ⟨b, o + 3, none⟩ = some (.int .i32 vx)
  vy : W.cell? ⟨b, o + 4, none⟩ = some (.int .i32 vy)
  cool : W.cell? ⟨b, o + 5, none⟩ = some (.int .i64 cool)
  score : W.cell? ⟨b, o + 6, none⟩ = some (.int .i64 score)
def ShipsAt (W : World) (b o : Nat) : Prop := ∀ k, k < 8 → ∃ on x y vx vy cool score, ShipAt W b (o + k * 7) on x y vx vy cool score ∧ OkShip on x y vx vy cool score
theorem ShipsAt.later {W W' : World} {b o : Nat} (h : ShipsAt W b o) (hg : Below W.heap.size W W') : ShipsAt W' b o := fun k hk => by
  obtain ⟨on, x, y, vx, vy, cool, score, hs, ho⟩ := h k hk
  have c : ∀ {p : Addr} {v : Value}, W.cell? p = some v → W'.cell? p = some v := fun {p v} e => (hg.cell (World.block_lt_of_cell? W _ e)).trans e
  exact ⟨on, x, y, vx, vy, cool, score, ⟨c hs.on, c hs.x, c hs.y, c hs.vx, c hs.vy, c hs.cool, c hs.score⟩, ho⟩
theorem index_none (b : Nat) (w : World) (h : ShipsAt w b 2) :
    Calls Try.prog 63 #[.slice (some ⟨b, 2, none⟩) 8 8, .func (.func 43) #[] #[]] w fun e w' => e = .returned (.int .i64 (-1)) ∧ Below w.heap.size w w' := by
  have H := Lib.hid h
  clear h
  go_enter Try.func63, Try.ntmps63
  go_wp2_with fail
  go_loopw [8] (fun i W => ∃ k : Nat, k ≤ 8 ∧ i = .int .i64 k ∧ Hid (Below w.heap.size w W)) (fun i _ => 8 - (intOf i).toNat)
  case atStart => exact ⟨0, Nat.zero_le _, rfl, Lib.hid (Below.refl _ _)⟩
  case round =>
    obtain ⟨k, hk, rfl, HG⟩ := hrel
    by_cases hlt : k < 8
    · obtain ⟨on, x, y, vx, vy, cool, score, hs, ho⟩ := (H.out.later HG.out) k hlt
      obtain ⟨c0, c1, c2, c3, c4, c5, c6⟩ := hs
      have HC := Lib.hid (fun w => not_any on x y vx vy cool score w ho)
      clear ho
      go_wp2_with fail
      refine (HC.out _).mono ?_; rintro e w' ⟨rfl, hg⟩
      have HG' := Lib.hid (HG.out.trans (hg.mono HG.out.size))
      clear hg
      go_wp2_with fail
      exact ⟨⟨k + 1, hlt, rfl, HG'⟩, by simp only [intOf]; omega⟩
    · obtain rfl : k = 8 := by omega
      go_wp2_with fail
      go_ret
      exact ⟨rfl, HG.out⟩
end Go.Proofs.Ytdopfonebpklkaa.game
