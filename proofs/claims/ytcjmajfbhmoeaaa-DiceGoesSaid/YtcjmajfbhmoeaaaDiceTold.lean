/- What the laws of layer 4 ask first of a few fixed inputs is true. -/
import Derived.Test.YtcjmajfbhmoeaaaDice
import Derived.WalkSmall
namespace Go.Proofs.Ytcjmajfbhmoeaaa.dice
open Go.ChangeShapes Go.WideShapes Go.ChangeAt Go.RowKit

theorem next_odd (d : Int) : (next d) % 2 ≠ d % 2 := by
  unfold next; omega
theorem inv (c : Int) (hc : 0 ≤ c) (hc' : c ≤ 18446744073709551615) : (next c - 1442695040888963407) * 13877824140714322085 % 18446744073709551616 = c := by
  unfold next
  rw [Int.mul_emod, Int.sub_emod, Int.emod_emod_of_dvd _ (Int.dvd_refl _), ← Int.sub_emod, Int.add_sub_cancel, ← Int.mul_emod, Int.mul_assoc]
  rw [Int.mul_emod, show (6364136223846793005 * 13877824140714322085 : Int) % 18446744073709551616 = 1 from by decide +kernel]
  omega
theorem next_inj (c d : Int) (hc : 0 ≤ c) (hc' : c ≤ 18446744073709551615) (hd : 0 ≤ d) (hd' : d ≤ 18446744073709551615) (h : next c = next d) : c = d := by
  rw [← inv c hc hc', ← inv d hd hd', h]
theorem pick01 : pick 0 1 = 0 := by unfold pick next; omega
theorem next0 : next 0 = 1442695040888963407 := by unfold next; omega
theorem seed0 : seed [] = 14695981039346656037 := rfl
theorem seedA : seed [97] = 12638187200555641996 := by decide +kernel

theorem told_any (w : World) : Calls Try.prog 10 #[] w fun e w' => e = .returned (.bool true) ∧ w = w' := by
  go_enter Try.func10, Try.ntmps10
  go_wp2_with fail
  refine (pick_in _ _ _ (by omega) (by omega)).mono ?_; rintro e w' ⟨rfl, rfl⟩
  rw [pick01, next0]
  go_wp2_with fail
  refine (pick_out _ _ _ (by omega)).mono ?_; rintro e w' ⟨rfl, rfl⟩
  go_wp2_with fail
  refine (next_any _ _).mono ?_; rintro e w' ⟨rfl, rfl⟩
  rw [next0]
  go_wp2_with fail
  refine (seed_any _ _ (by decide)).mono ?_; rintro e w' ⟨rfl, rfl⟩
  rw [show seed ({ data := #[] } : ByteArray).data.toList = 14695981039346656037 from seed0]
  go_wp2_with fail
  refine (seed_any _ _ (by decide)).mono ?_; rintro e w' ⟨rfl, rfl⟩
  rw [show seed ({ data := #[97] } : ByteArray).data.toList = 12638187200555641996 from seedA]
  go_wp2_with fail
  go_ret
  exact ⟨rfl, rfl⟩
end Go.Proofs.Ytcjmajfbhmoeaaa.dice
