/- image.Get's deferred closure: it turns the reader's panic into an error. -/
import Derived.Test.YtijnfeigoggaeaaRn
import Derived.Defers
import Derived.Recover
namespace Go.Proofs.Ytijnfeigoggaeaa.game
open Go.ChangeShapes Go.WideShapes Go.ChangeAt Go.RowKit dice
set_option maxRecDepth 100000

theorem assert_no (W : World) : (Instr.typeAssert .nilIface 20 92 true).run Try.prog W = .ok (.tuple #[.agg #[], .bool false]) W := by kernel_rfl
theorem assert_yes (W : World) (v : Value) : (Instr.typeAssert (.iface 92 v) 20 92 true).run Try.prog W = .ok (.tuple #[v, .bool true]) W := by kernel_rfl
def zC : Array Value := #[.int .i64 0, .int .u64 0, .bool false, .int .i32 0, .int .i32 0, .int .i32 0, .int .i32 0, .int .i64 0, .int .i64 0, .bool false, .int .i32 0, .int .i32 0, .int .i32 0, .int .i32 0, .int .i64 0, .int .i64 0, .bool false, .int .i32 0, .int .i32 0, .int .i32 0, .int .i32 0, .int .i64 0, .int .i64 0, .bool false, .int .i32 0, .int .i32 0, .int .i32 0, .int .i32 0, .int .i64 0, .int .i64 0, .bool false, .int .i32 0, .int .i32 0, .int .i32 0, .int .i32 0, .int .i64 0, .int .i64 0, .bool false, .int .i32 0, .int .i32 0, .int .i32 0, .int .i32 0, .int .i64 0, .int .i64 0, .bool false, .int .i32 0, .int .i32 0, .int .i32 0, .int .i32 0, .int .i64 0, .int .i64 0, .bool false, .int .i32 0, .int .i32 0, .int .i32 0, .int .i32 0, .int .i64 0, .int .i64 0, .slice none 0 0, .int .i64 0, .int .i64 0, .int .i64 0, .int .i64 0, .int .i64 0, .int .i64 0, .int .i64 0, .int .i64 0, .int .i64 0, .int .i64 0, .int .i64 0, .int .i64 0, .int .i64 0, .int .i64 0, .int .i64 0, .int .i64 0, .int .i64 0]
theorem zC_size : zC.size = 76 := rfl
theorem zC_one : zC.toList.all (·.oneCell') = true := by decide +kernel
set_option maxHeartbeats 2000000 in
theorem catch_idle (p q : Addr) (w : World) :
    CallsD Try.prog 53 #[.pointer (some p), .pointer (some q)] .returning w fun e u' w' => e = .returned (.tuple #[]) ∧ u' = .returning ∧ w' = w.alloc (.cells #[] 92) := by
  refine callsD_of_wpS Try.func53 rfl fun c₀ cs hu => ?_
  apply wpS_seq
  apply wpS_region
  simp [wpOpsS, go_sem, recoverD, hu, Try.ntmps53, Exit.thenS, assert_no]
  refine wpS_of_wp ?_
  go_wp2_with fail
  cases c₀
  simp_all [bodyPostS, results, Try.results53]
set_option maxHeartbeats 2000000 in
theorem catch_panicking (p q : Nat) (cs : Array Value) (e0 : Value) (w : World) (hcs : cs.size = 76) (H0 : Sb [p, q] w w [(p, cs, 35), (q, #[e0], 3)] []) :
    CallsD Try.prog 53 #[.pointer (some ⟨p, 0, none⟩), .pointer (some ⟨q, 0, none⟩)] (.panicking wrongP) w fun e u' w' => e = .returned (.tuple #[]) ∧ u' = .panicking [{ v := .iface 92 (.agg #[]), recovered := true }] ∧ Sb [p, q] w w' [(p, zC, 35), (q, #[.int .i64 2], 3)] [] := by
  refine callsD_of_wpS Try.func53 rfl fun c₀ css hu => ?_
  unfold wrongP at hu
  have H := H0.new #[] 92
  have Hcs := Lib.hid hcs
  clear H0 hcs
  apply wpS_seq
  apply wpS_region
  simp [wpOpsS, go_sem, recoverD, hu, Try.ntmps53, Exit.thenS, assert_yes]
  refine wpS_of_wp ?_
  generalize w.alloc (.cells #[] 92) = w1 at *
  go_wp2_with (first | (refine wb_put H rfl 1 35 _ _ rfl _ 0 rfl _ _ rfl (.agg zC) rfl 76 info35 zC_size (by rw [Hcs.out]; exact Nat.le_refl _) zC_one zC (splice_all _ _ (by rw [Hcs.out]; rfl)) ?_; clear H; intro w2 H) | (refine wb_put H rfl 2 3 _ _ rfl _ 0 rfl _ _ rfl (.int .i64 2) rfl 1 info3 rfl (Nat.le_of_ble_eq_true rfl) rfl _ rfl ?_; clear H; intro w2 H))
  cases c₀
  simp_all [bodyPostS, results, Try.results53]
  exact H.tail
end Go.Proofs.Ytijnfeigoggaeaa.game
