/- game.Same, over games that are the same, with ships, without shots. -/
import Derived.Test.YtijnfeigoggaeaaSn
namespace Go.Proofs.Ytijnfeigoggaeaa.game
open Go.ChangeShapes Go.WideShapes Go.ChangeAt Go.RowKit dice
set_option maxRecDepth 100000

theorem cells24 : Try.prog.cellsOf 24 = 7 := by kernel_rfl
theorem cells25 : Try.prog.cellsOf 25 = 56 := by kernel_rfl
theorem cells4 : Try.prog.cellsOf 4 = 1 := by kernel_rfl
theorem cells21 : Try.prog.cellsOf 21 = 1 := by kernel_rfl
theorem cells3 : Try.prog.cellsOf 3 = 1 := by kernel_rfl
def litsS (t : Shp) : List Lit := [.bool t.on, .int .i32 t.x, .int .i32 t.y, .int .i32 t.vx, .int .i32 t.vy, .int .i64 t.cool, .int .i64 t.score]
theorem wf32 {a : Int} (h0 : -2147483648 ≤ a) (h1 : a ≤ 2147483647) : (Lit.int .i32 a).wf = true := by
  simp [Lit.wf, IntKind.min, IntKind.max, IntKind.signed, IntKind.bits]
  omega
theorem wf64 {a : Int} (h0 : -9223372036854775808 ≤ a) (h1 : a ≤ 9223372036854775807) : (Lit.int .i64 a).wf = true := by
  simp [Lit.wf, IntKind.min, IntKind.max, IntKind.signed, IntKind.bits]
  omega
theorem kl4 (d : Nat) (b : Bool) : Try.prog.keyLits (d + 1) 4 [.bool b] = some [.bool b] := by
  unfold Program.keyLits
  rw [Try.underlying4]
theorem kl21 (d : Nat) (a : Int) (h : (Lit.int .i32 a).wf = true) : Try.prog.keyLits (d + 1) 21 [.int .i32 a] = some [.int .i32 a] := by
  unfold Program.keyLits
  rw [Try.underlying21]
  simp only [h, and_self, if_true]
theorem kl3 (d : Nat) (a : Int) (h : (Lit.int .i64 a).wf = true) : Try.prog.keyLits (d + 1) 3 [.int .i64 a] = some [.int .i64 a] := by
  unfold Program.keyLits
  rw [Try.underlying3]
  simp only [h, and_self, if_true]
theorem kl24 (d : Nat) (t : Shp) (h : t.ok) : Try.prog.keyLits (d + 2) 24 (shipL t) = some (litsS t) := by
  have hb : (Lit.int .i32 t.x).wf = true ∧ (Lit.int .i32 t.y).wf = true ∧ (Lit.int .i32 t.vx).wf = true ∧ (Lit.int .i32 t.vy).wf = true ∧ (Lit.int .i64 t.cool).wf = true ∧ (Lit.int .i64 t.score).wf = true := by
    unfold Shp.ok OkShip at h
    split at h <;> exact ⟨wf32 (by omega) (by omega), wf32 (by omega) (by omega), wf32 (by omega) (by omega), wf32 (by omega) (by omega), wf64 (by omega) (by omega), wf64 (by omega) (by omega)⟩
  obtain ⟨h1, h2, h3, h4, h5, h6⟩ := hb
  have k0 := kl4 d t.on
  have k1 := kl21 d t.x h1
  have k2 := kl21 d t.y h2
  have k3 := kl21 d t.vx h3
  have k4 := kl21 d t.vy h4
  have k5 := kl3 d t.cool h5
  have k6 := kl3 d t.score h6
  show Try.prog.keyLits ((d + 1) + 1) 24 (shipL t) = some (litsS t)
  unfold Program.keyLits
  rw [Try.underlying24]
  simp only [cells24, shipL, List.length_cons, List.length_nil, cells4, cells21, cells3, List.mapM_cons, List.mapM_nil, List.drop_succ_cons, List.drop_zero, List.take_succ_cons, List.take_zero, k0, k1, k2, k3, k4, k5, k6]
  rw [if_pos ⟨trivial, by decide +kernel⟩]
  rfl
def litsAll (S : List Shp) : List Lit := S.flatMap litsS
theorem kl25 (d : Nat) (S : List Shp) (h8 : S.length = 8) (h : ∀ t ∈ S, t.ok) : Try.prog.keyLits (d + 3) 25 (shipsL S) = some (litsAll S) := by
  match S, h8 with
  | [t0, t1, t2, t3, t4, t5, t6, t7], _ =>
    have k0 := kl24 d t0 (h t0 (by simp))
    have k1 := kl24 d t1 (h t1 (by simp))
    have k2 := kl24 d t2 (h t2 (by simp))
    have k3 := kl24 d t3 (h t3 (by simp))
    have k4 := kl24 d t4 (h t4 (by simp))
    have k5 := kl24 d t5 (h t5 (by simp))
    have k6 := kl24 d t6 (h t6 (by simp))
    have k7 := kl24 d t7 (h t7 (by simp))
    show Try.prog.keyLits ((d + 2) + 1) 25 (shipsL _) = some (litsAll _)
    unfold Program.keyLits
    rw [Try.underlying25]
    have hr : List.range 8 = [0, 1, 2, 3, 4, 5, 6, 7] := rfl
    have e0 : ((shipsL [t0, t1, t2, t3, t4, t5, t6, t7]).drop (0 * 7)).take 7 = shipL t0 := rfl
    have e1 : ((shipsL [t0, t1, t2, t3, t4, t5, t6, t7]).drop (1 * 7)).take 7 = shipL t1 := rfl
    have e2 : ((shipsL [t0, t1, t2, t3, t4, t5, t6, t7]).drop (2 * 7)).take 7 = shipL t2 := rfl
    have e3 : ((shipsL [t0, t1, t2, t3, t4, t5, t6, t7]).drop (3 * 7)).take 7 = shipL t3 := rfl
    have e4 : ((shipsL [t0, t1, t2, t3, t4, t5, t6, t7]).drop (4 * 7)).take 7 = shipL t4 := rfl
    have e5 : ((shipsL [t0, t1, t2, t3, t4, t5, t6, t7]).drop (5 * 7)).take 7 = shipL t5 := rfl
    have e6 : ((shipsL [t0, t1, t2, t3, t4, t5, t6, t7]).drop (6 * 7)).take 7 = shipL t6 := rfl
    have e7 : ((shipsL [t0, t1, t2, t3, t4, t5, t6, t7]).drop (7 * 7)).take 7 = shipL t7 := rfl
    simp only [cells25, cells24, length_shipsL, hr, List.mapM_cons, List.mapM_nil, e0, e1, e2, e3, e4, e5, e6, e7, k0, k1, k2, k3, k4, k5, k6, k7, List.length_cons, List.length_nil]
    rfl
theorem formed25 (S : List Shp) (h8 : S.length = 8) : (Value.agg (shipsL S).toArray).formed Try.prog 25 = true := by
  unfold Value.formed
  rw [Try.underlying25]
  simp [cells25, length_shipsL, h8]
theorem eq25S (W : World) (S : List Shp) (h8 : S.length = 8) (h : ∀ t ∈ S, t.ok) : (Op.equalIn 10000 25 (.agg (shipsL S).toArray) (.agg (shipsL S).toArray)).run Try.prog W = .ok true W := by
  obtain ⟨r, h, hr⟩ := run_equalIn_deep (P := Try.prog) 9990 10 25 (by kernel_rfl) W 10 10 (.agg (shipsL S).toArray) (.agg (shipsL S).toArray) (litsAll S) (litsAll S) (formed25 S h8) (formed25 S h8) (kl25 7 S h8 h) (kl25 7 S h8 h)
  rw [hr.2 rfl] at h
  exact h
end Go.Proofs.Ytijnfeigoggaeaa.game
