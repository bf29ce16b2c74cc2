/- game.May, over games without shots. -/
import Derived.Test.YtdopfonebpklkaaMs
import Derived.Deep.WholeRow
namespace Go.Proofs.Ytdopfonebpklkaa.game
open Go.ChangeShapes Go.WideShapes Go.ChangeAt Go.RowKit dice
set_option maxRecDepth 100000

theorem contains_none (b : Nat) (w : World) (h : ShipsAt w b 2) :
    Calls Try.prog 42 #[.slice (some ⟨b, 2, none⟩) 8 8, .func (.func 43) #[] #[]] w fun e w' => e = .returned (.bool false) ∧ Below w.heap.size w w' := by
  have H := Lib.hid (index_none b w h)
  clear h
  go_enter Try.func42, Try.ntmps42
  go_wp2_with fail
  refine H.out.mono ?_; rintro e w' ⟨rfl, hg⟩
  have HG := Lib.hid hg
  clear hg
  go_wp2_with fail
  go_ret
  exact ⟨rfl, HG.out⟩
theorem indexShots_nil (f : Value) (w : World) : Calls Try.prog 66 #[.slice none 0 0, f] w fun e w' => e = .returned (.int .i64 (-1)) ∧ w = w' := by
  go_enter Try.func66, Try.ntmps66
  go_wp2_with fail
  go_loop [8] (fun i => i = .int .i64 0) (fun _ => 0)
  case atStart => rfl
  case round =>
    subst hrel
    go_wp2_with fail
    go_ret
    exact ⟨rfl, rfl⟩
theorem containsShots_nil (f : Value) (w : World) : Calls Try.prog 45 #[.slice none 0 0, f] w fun e w' => e = .returned (.bool false) ∧ w = w' := by
  go_enter Try.func45, Try.ntmps45
  go_wp2_with fail
  refine (indexShots_nil f w).mono ?_; rintro e w' ⟨rfl, rfl⟩
  go_wp2_with fail
  go_ret
  exact ⟨rfl, rfl⟩
/-- A game's cells, where it has no shots. -/
structure Gm (cs : Array Value) (fr d : Int) : Prop where
  size : cs.size = 59
  one : cs.all (·.oneCell') = true
  frame : cs[0]? = some (.int .i64 fr)
  dice : cs[1]? = some (.int .u64 d)
  shots : cs[58]? = some (.slice none 0 0)
  ships : ∀ k, k < 8 → ∃ on x y vx vy cool score, cs[2 + k * 7]? = some (.bool on) ∧ cs[2 + k * 7 + 1]? = some (.int .i32 x) ∧ cs[2 + k * 7 + 2]? = some (.int .i32 y) ∧ cs[2 + k * 7 + 3]? = some (.int .i32 vx) ∧ cs[2 + k * 7 + 4]? = some (.int .i32 vy) ∧ cs[2 + k * 7 + 5]? = some (.int .i64 cool) ∧ cs[2 + k * 7 + 6]? = some (.int .i64 score) ∧ OkShip on x y vx vy cool score
theorem cell_new (w : World) (cs : Array Value) (t : TypeId) (j : Nat) : (w.alloc (.cells cs t)).cell? ⟨w.heap.size, j, none⟩ = cs[j]? := cell_of_row _ _ j cs t (0, 0) (heap_alloc_last w _)
theorem Gm.shipsAt {cs : Array Value} {fr d : Int} (h : Gm cs fr d) (w : World) : ShipsAt (w.alloc (.cells cs 33)) w.heap.size 2 := fun k hk => by
  obtain ⟨on, x, y, vx, vy, cool, score, h0, h1, h2, h3, h4, h5, h6, ho⟩ := h.ships k hk
  exact ⟨on, x, y, vx, vy, cool, score, ⟨(cell_new ..).trans h0, (cell_new ..).trans h1, (cell_new ..).trans h2, (cell_new ..).trans h3, (cell_new ..).trans h4, (cell_new ..).trans h5, (cell_new ..).trans h6⟩, ho⟩

theorem may_any (cs : Array Value) (fr d : Int) (w : World) (h : Gm cs fr d) (h0 : 0 ≤ fr) (h1 : fr ≤ 1048576) :
    Calls Try.prog 30 #[.agg cs] w fun e w' => e = .returned (.bool true) ∧ Below w.heap.size w w' := by
  have hf := (cell_new w cs 33 0).trans h.frame
  have hs := (cell_new w cs 33 58).trans h.shots
  have HS := Lib.hid (h.shipsAt w)
  have HB := Lib.hid ((Below.refl w.heap.size w).alloc (Nat.le_refl _) (.cells cs 33))
  have hsz : (w.alloc (.cells cs 33)).heap.size = w.heap.size + 1 := by simp
  clear h
  go_enter Try.func30, Try.ntmps30
  go_wp2_with fail
  refine (contains_none w.heap.size _ HS.out).mono ?_; rintro e w' ⟨rfl, hg⟩
  have hs2 := (hg.cell (p := ⟨w.heap.size, 58, none⟩) (by simp)).trans hs
  have HB2 := Lib.hid (HB.out.trans (hg.mono (by omega)))
  clear hg hs hf hsz
  go_wp2_with fail
  refine (containsShots_nil _ _).mono ?_; rintro e w' ⟨rfl, rfl⟩
  go_wp2_with fail
  go_ret
  exact ⟨rfl, HB2.out⟩
theorem may_neg (cs : Array Value) (fr : Int) (w : World) (hfr : cs[0]? = some (.int .i64 fr)) (h0 : fr < 0) :
    Calls Try.prog 30 #[.agg cs] w fun e w' => e = .returned (.bool false) ∧ Below w.heap.size w w' := by
  have hf := (cell_new w cs 33 0).trans hfr
  have HB := Lib.hid ((Below.refl w.heap.size w).alloc (Nat.le_refl _) (.cells cs 33))
  clear hfr
  go_enter Try.func30, Try.ntmps30
  go_wp2_with fail
  go_ret
  exact ⟨rfl, HB.out⟩
end Go.Proofs.Ytdopfonebpklkaa.game
