/- The game that the laws begin with: ships of a mask. -/
import Derived.Test.YtdopfonebpklkaaIn
import Derived.Test.YtdopfonebpklkaaTd
namespace Go.Proofs.Ytdopfonebpklkaa.game
open Go.ChangeShapes Go.WideShapes Go.ChangeAt Go.RowKit dice
set_option maxRecDepth 100000

def maskB (mask : Int) (k : Nat) : Bool := bits .and .i64 (mask / 2 ^ k) 1 == 1
def g0 (D : Int) : Gme := ⟨0, D, zS, []⟩
def playTo (mask : Int) (g : Gme) : Nat → Gme
  | 0 => g
  | n + 1 => if maskB mask n = true then spawnG (playTo mask g n) n else playTo mask g n
theorem spawned_ok (d : Int) : (⟨true, px d, py d, 0, 0, 0, 0⟩ : Shp).ok := by
  have := px_bd d
  have := py_bd d
  unfold Shp.ok OkShip
  rw [if_pos rfl]
  dsimp only
  omega
theorem spawnG_ok {g : Gme} (k : Nat) (h : g.ok) : (spawnG g k).ok := by
  refine ⟨h.f0, h.f1, by unfold spawnG; dsimp only; rw [List.length_set]; exact h.s8, fun t ht => ?_, h.shots, h.most⟩
  rcases List.mem_or_eq_of_mem_set ht with a | a
  · exact h.ships t a
  · rw [a]; exact spawned_ok _
theorem g0_ok (D : Int) : (g0 D).ok := ⟨by unfold g0; dsimp only; omega, by unfold g0; dsimp only; omega, rfl, zS_ok, fun s hs => by simp [g0] at hs, by simp [g0]⟩
theorem playTo_ok (mask : Int) (D : Int) : ∀ n, (playTo mask (g0 D) n).ok
  | 0 => g0_ok D
  | n + 1 => by
    unfold playTo
    split
    · exact spawnG_ok n (playTo_ok mask D n)
    · exact playTo_ok mask D n
theorem playTo_L (mask : Int) (D : Int) : ∀ n, (playTo mask (g0 D) n).L = [] ∧ (playTo mask (g0 D) n).fr = 0
  | 0 => ⟨rfl, rfl⟩
  | n + 1 => by
    unfold playTo
    split
    · exact playTo_L mask D n
    · exact playTo_L mask D n
/-- Which ships are there behind n slots. -/
theorem playTo_on (mask : Int) (D : Int) : ∀ (n j : Nat), j < 8 → n ≤ 8 → ∃ t, (playTo mask (g0 D) n).S[j]? = some t ∧ t.on = (decide (j < n) && maskB mask j) ∧ t.score = 0
  | 0, j, hj, _ => by
    refine ⟨zShp, ?_, by simp [zShp], rfl⟩
    show zS[j]? = some zShp
    unfold zS
    rw [List.getElem?_replicate, if_pos hj]
  | n + 1, j, hj, hn => by
    obtain ⟨t, h1, h2, h3⟩ := playTo_on mask D n j hj (by omega)
    unfold playTo
    by_cases hm : maskB mask n = true
    · rw [if_pos hm]
      by_cases e : n = j
      · subst e
        refine ⟨⟨true, px (playTo mask (g0 D) n).d, py (playTo mask (g0 D) n).d, 0, 0, 0, 0⟩, List.getElem?_set_self (List.getElem?_eq_some_iff.1 h1).1, ?_, rfl⟩
        simp [hm]
      · refine ⟨t, ?_, ?_, h3⟩
        · show ((playTo mask (g0 D) n).S.set n _)[j]? = _
          rw [List.getElem?_set_ne e, h1]
        · rw [h2]
          have : decide (j < n + 1) = decide (j < n) := by
            by_cases h : j < n
            · rw [decide_eq_true h, decide_eq_true (by omega)]
            · rw [decide_eq_false h, decide_eq_false (by omega)]
          rw [this]
    · rw [if_neg hm]
      refine ⟨t, h1, ?_, h3⟩
      rw [h2]
      by_cases e : n = j
      · subst e
        have : maskB mask n = false := by simpa using hm
        simp [this]
      · have : decide (j < n + 1) = decide (j < n) := by
          by_cases h : j < n
          · rw [decide_eq_true h, decide_eq_true (by omega)]
          · rw [decide_eq_false h, decide_eq_false (by omega)]
        rw [this]
theorem Sb.oneRow {Hs : List Nat} {W0 w : World} {l : List Blk} {r : RowS} {R : List RowS} (h : Sb Hs W0 w l (r :: R)) : Sb Hs W0 w l [r] :=
  ⟨h.os, h.tape, h.output, h.size, h.fr, h.holds, h.ge, h.nd, fun q hq => h.rows q (by rw [List.mem_singleton.1 hq]; exact List.mem_cons_self ..), fun q hq => h.rge q (by rw [List.mem_singleton.1 hq]; exact List.mem_cons_self ..),
    fun q hq => h.apart q (by rw [List.mem_singleton.1 hq]; exact List.mem_cons_self ..), by simp⟩
def PlayPost (mask D : Int) (w : World) (e : Ending) (w' : World) : Prop :=
  (∃ ad c, e = .returned (.tuple #[.agg (gameC 0 (playTo mask (g0 D) 8).d (playTo mask (g0 D) 8).S (.slice ad 0 c)), .bool true]) ∧ Own w' 0 (.slice ad 0 c) [] ∧ ∀ k, (Value.slice ad 0 c).ownBlock = some k → w.heap.size ≤ k) ∧ Below w.heap.size w w'
theorem own_nil_in {w : World} {B : Nat} {sl : Value} (h : Own w B sl []) : ShotsIn w sl [] := h.shotsIn
end Go.Proofs.Ytdopfonebpklkaa.game
