/- told of layer 6: the program tells what the document says of a few. -/
import Derived.Test.YtdopfonebpklkaaSt
namespace Go.Proofs.Ytdopfonebpklkaa.game
open Go.ChangeShapes Go.WideShapes Go.ChangeAt Go.RowKit dice
set_option maxRecDepth 100000

theorem new_gq (s : ByteArray) (w : World) (hs : s.size ≤ maxLen) (d : Int) (hd : seed s.data.toList = d) :
    Calls Try.prog 11 #[.string s] w fun e w' => e = .returned (.agg (gq 0 d false 0 0)) ∧ Below w.heap.size w w' := by
  subst hd
  exact new_any s w hs
theorem okPlaced (d : Int) : OkShip true (px d) (py d) 0 0 0 0 := by
  have hx := px_bd d
  have hy := py_bd d
  unfold OkShip
  rw [if_pos rfl]
  omega
end Go.Proofs.Ytdopfonebpklkaa.game
