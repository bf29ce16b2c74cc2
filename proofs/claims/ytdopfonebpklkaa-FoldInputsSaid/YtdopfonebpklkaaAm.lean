/- field.Aim; the way of a shot. -/
import Derived.Test.YtdopfonebpklkaaFd
import Derived.Deep.RegionWith
import Derived.BigQuiet
namespace Go.Proofs.Ytdopfonebpklkaa.game
open Go.ChangeShapes Go.WideShapes Go.ChangeAt Go.RowKit dice
set_option maxRecDepth 100000

def sideI (a : Int) : Int := if 0 < a then 393216 else if a < 0 then -393216 else 0
theorem side_any (a : Int) (w : World) : Calls Try.prog 74 #[.int .i8 a] w fun e w' => e = .returned (.int .i32 (sideI a)) ∧ w' = w := by
  by_cases h1 : 0 < a
  · have e : sideI a = 393216 := by unfold sideI; rw [if_pos h1]
    have E := Lib.hid e
    clear e
    go_enter Try.func74, Try.ntmps74
    go_wp2_with fail
    go_ret
    exact ⟨ret_int E.out.symm, rfl⟩
  · by_cases h2 : a < 0
    · have e : sideI a = -393216 := by unfold sideI; rw [if_neg h1, if_pos h2]
      have E := Lib.hid e
      clear e
      go_enter Try.func74, Try.ntmps74
      go_wp2_with fail
      go_ret
      exact ⟨ret_int E.out.symm, rfl⟩
    · have e : sideI a = 0 := by unfold sideI; rw [if_neg h1, if_neg h2]
      have E := Lib.hid e
      clear e
      go_enter Try.func74, Try.ntmps74
      go_wp2_with fail
      go_ret
      exact ⟨ret_int E.out.symm, rfl⟩
theorem bdN {B : Nat} {a w : World} (h : Below B a w) (n : Nat) : Below B a (w.drewN n) := ⟨h.os, h.tape, h.output, h.size, h.block⟩
theorem aim_any (x y b : Int) (w : World) (h : x ≠ 0 ∨ y ≠ 0) :
    Calls Try.prog 61 #[.agg #[.int .i8 x, .int .i8 y, .int .u8 b]] w fun e w' => e = .returned (.tuple #[.int .i32 (sideI x), .int .i32 (sideI y)]) ∧ Below w.heap.size w w' := by
  have HX := Lib.hid (side_any x)
  have HY := Lib.hid (side_any y)
  have hs : ((sideI x == 0) = false) ∨ ((sideI x == 0) = true ∧ (sideI y == 0) = false) := by
    unfold sideI
    by_cases hx : x = 0
    · rcases h with h | h
      · exact absurd hx h
      · right
        subst hx
        refine ⟨rfl, ?_⟩
        by_cases hy : 0 < y
        · rw [if_pos hy]; rfl
        · rw [if_neg hy, if_pos (by omega)]; rfl
    · left
      by_cases hx1 : 0 < x
      · rw [if_pos hx1]; rfl
      · rw [if_neg hx1, if_pos (by omega)]; rfl
  clear h
  by_cases hxy : x = y
  · subst hxy
    generalize sideI x = sx at *
    have h0 : (sx == 0) = false := by
      rcases hs with h | ⟨h, h'⟩
      · exact h
      · exact h'
    clear hs
    go_enter Try.func61, Try.ntmps61
    go_wp2_with fail
    go_quiet ((go_at_call_of 74 (Value.int .i8 x); exact Calls.quiet_of_same (HX.out _)))
    go_wp2_with fail
    go_ret2
    exact ⟨rfl, by repeat (first | exact Below.refl _ _ | apply Below.drew | (refine bdN ?_ _) | (refine Below.alloc ?_ (by simp) _))⟩
  · have hxy' : y ≠ x := fun e => hxy e.symm
    generalize sideI x = sx at *
    generalize sideI y = sy at *
    rcases hs with h0 | ⟨h0, h1⟩
    all_goals
      go_enter Try.func61, Try.ntmps61
      go_wp2_with fail
      go_quiet (first | ((go_at_call_of 74 (Value.int .i8 x); exact Calls.quiet_of_same (HX.out _))) | ((go_at_call_of 74 (Value.int .i8 y); exact Calls.quiet_of_same (HY.out _))))
      go_wp2_with fail
      go_ret2
      exact ⟨rfl, by repeat (first | exact Below.refl _ _ | apply Below.drew | (refine bdN ?_ _) | (refine Below.alloc ?_ (by simp) _))⟩
end Go.Proofs.Ytdopfonebpklkaa.game
