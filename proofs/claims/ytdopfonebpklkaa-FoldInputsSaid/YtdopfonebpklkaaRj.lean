/- The document's answer: Same, over any two states. -/
import Derived.Test.YtdopfonebpklkaaRp
namespace Go.Proofs.Ytdopfonebpklkaa.game
open Go.ChangeShapes Go.WideShapes Go.ChangeAt Go.RowKit dice
set_option maxRecDepth 100000

theorem ste_eq {s u : Ste} : s = u ↔ s.g = u.g ∧ s.ver = u.ver ∧ s.T = u.T := by
  constructor
  · rintro rfl; exact ⟨rfl, rfl, rfl⟩
  · obtain ⟨a, b, c⟩ := s
    obtain ⟨a', b', c'⟩ := u
    rintro ⟨h1, h2, h3⟩
    dsimp only at h1 h2 h3
    rw [h1, h2, h3]
end Go.Proofs.Ytdopfonebpklkaa.game
