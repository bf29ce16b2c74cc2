/- The document's answer: dice, the field. -/
import Derived.Test.YtdopfonebpklkaaPu
import Derived.Deep.RegionWith
import Derived.BigQuiet
namespace Go.Proofs.Ytdopfonebpklkaa.game
open Go.ChangeShapes Go.WideShapes Go.ChangeAt Go.RowKit dice
set_option maxRecDepth 100000

theorem rin_any (a : Int) (w : World) (h0 : 0 ≤ a) (h1 : a < 16777216) : Calls Try.prog 27 #[.int .i32 a] w fun e w' => e = .returned (.bool true) ∧ w = w' := by
  go_enter Try.func27, Try.ntmps27
  go_wp2
  go_ret
  exact ⟨rfl, rfl⟩
theorem rslow_any (a m : Int) (w : World) (hm : m = 524288 ∨ m = 393216) (h0 : -m ≤ a) (h1 : a ≤ m) : Calls Try.prog 28 #[.int .i32 a, .int .i32 m] w fun e w' => e = .returned (.bool true) ∧ w = w' := by
  rcases hm with rfl | rfl
  all_goals
    go_enter Try.func28, Try.ntmps28
    go_wp2
    go_ret
    exact ⟨rfl, rfl⟩
def signI (a : Int) : Int := if 0 < a then 1 else if a < 0 then -1 else 0
theorem sign_side (a : Int) : signI a * 6 * 65536 = sideI a := by unfold signI sideI; split <;> (try split) <;> rfl
theorem sign_bd (a : Int) : -1 ≤ signI a ∧ signI a ≤ 1 := by unfold signI; split <;> (try split) <;> omega
end Go.Proofs.Ytdopfonebpklkaa.game
