/- 'DiceSeeds': the walk of the law, by the length of the text. -/
import Derived.Test.YtcjmajfbhmoeaaaDiceTold
import Derived.WalkLawsBesides
import Derived.Laws.BytesArg
import Derived.Deep.RegionWith
import Derived.Deep.DrawnRows
import Derived.Deep.DeepCutAuto
namespace Go.Proofs.Ytcjmajfbhmoeaaa.dice
open Go.ChangeShapes Go.WideShapes Go.ChangeAt Go.RowKit
def one (a : Int) : ByteArray := strOfNums [a]
theorem one_size (a : Int) : (one a).size = 1 := rfl
theorem conv (W : World) (b : Nat) (a : Int) (h : W.cell? ⟨b, 0, none⟩ = some (.int .u8 a)) : (convert 27 9 (.slice (some ⟨b, 0, none⟩) 1 1)).run Try.prog W = .ok (.string (one a)) W :=
  run_convert_bytes_arg W 27 5 Try.underlying27 Try.underlying5 b 0 1 1 [a] rfl (fun i hi => by obtain rfl : i = 0 := by omega
                                                                                                exact h) 9 Try.underlying9
def seedI (h a : Int) : Int := IntKind.u64.wrap (bits .xor .u64 h a * 1099511628211)
theorem seedI_eq (h a : Int) (a0 : 0 ≤ a ∧ a ≤ 255) : seedStep h (UInt8.ofNat a.toNat) = seedI h a := by
  unfold seedStep seedI
  rw [show ((UInt8.ofNat a.toNat).toNat : Int) = a by simp; omega, IntWalk.u64_in a (by omega)]
theorem seed_cat (s : ByteArray) (a : Int) (w : World) (hs : s.size ≤ 100) (a0 : 0 ≤ a ∧ a ≤ 255) :
    Calls Try.prog 12 #[.string (s ++ one a)] w fun e w' => e = .returned (.int .u64 (seedI (seed s.data.toList) a)) ∧ w = w' := by
  refine (seed_any _ _ ?_).mono ?_
  · unfold maxLen; rw [ByteArray.size_append, one_size]; omega
  · rintro e w' ⟨rfl, rfl⟩
    refine ⟨ret_int ?_, rfl⟩
    rw [← seedI_eq _ _ a0]
    rw [ByteArray.data_append, Array.toList_append]; exact seed_snoc _ _ _
theorem seedStep_bd (h : Int) (c : UInt8) : 0 ≤ seedStep h c ∧ seedStep h c ≤ 18446744073709551615 := by
  unfold seedStep; rw [IntKind.wrap_u64]; omega
theorem seedFrom_bd (l : List UInt8) : ∀ (h : Int), 0 ≤ h ∧ h ≤ 18446744073709551615 → 0 ≤ seedFrom h l ∧ seedFrom h l ≤ 18446744073709551615 := by
  induction l with
  | nil => intro h hh; exact hh
  | cons c l ih => intro h _; exact ih _ (seedStep_bd h c)
theorem seed_bd (l : List UInt8) : 0 ≤ seed l ∧ seed l ≤ 18446744073709551615 := seedFrom_bd l _ (by omega)
theorem invS (x : Int) (hc : 0 ≤ x) (hc' : x < 18446744073709551616) : IntKind.u64.wrap (x * 1099511628211) * 14886173955864302971 % 18446744073709551616 = x := by
  rw [IntKind.wrap_u64, Int.mul_emod, Int.emod_emod_of_dvd _ (Int.dvd_refl _), ← Int.mul_emod, Int.mul_assoc]
  rw [Int.mul_emod, show (1099511628211 * 14886173955864302971 : Int) % 18446744073709551616 = 1 from by decide +kernel]
  omega
theorem xor_inj (h a b : Int) (hh : 0 ≤ h ∧ h ≤ 18446744073709551615) (ha : 0 ≤ a ∧ a ≤ 255) (hb : 0 ≤ b ∧ b ≤ 255) (he : seedI h a = seedI h b) : a = b := by
  unfold seedI at he
  rw [u64_xor h a hh.1 (by omega) ha.1 (by omega), u64_xor h b hh.1 (by omega) hb.1 (by omega)] at he
  have l1 : h.toNat ^^^ a.toNat < 2 ^ 64 := Nat.xor_lt_two_pow (by omega) (by omega)
  have l2 : h.toNat ^^^ b.toNat < 2 ^ 64 := Nat.xor_lt_two_pow (by omega) (by omega)
  have e := invS ((h.toNat ^^^ a.toNat : Nat) : Int) (by omega) (by omega)
  rw [he, invS ((h.toNat ^^^ b.toNat : Nat) : Int) (by omega) (by omega)] at e
  have e2 : h.toNat ^^^ b.toNat = h.toNat ^^^ a.toNat := by omega
  have e3 := congrArg (fun x => h.toNat ^^^ x) e2
  simp only [← Nat.xor_assoc, Nat.xor_self, Nat.zero_xor] at e3
  omega
attribute [local go_sem ↓] Go.wp_at_zero Go.wp_at_succ
set_option maxHeartbeats 4000000 in
theorem seedsWalk (a b : Int) (s : ByteArray) (w : World) (a0 : 0 ≤ a ∧ a ≤ 255) (b0 : 0 ≤ b ∧ b ≤ 255) (hs : s.size ≤ 100) (q : Bool) (hq : (a == b) = q) (hq' : (seedI (seed s.data.toList) a == seedI (seed s.data.toList) b) = q) : Calls Try.prog 4 #[.int .u8 a, .int .u8 b, .string s] w fun e w' => e = .returned (.bool true) ∧ Grown w w' := by
  have hc := conv
  have h1 := one_size a
  have h2 := one_size b
  go_enter Try.func4, Try.ntmps4
  go_upto_region 3 with fail
  go_cut [7, 8] (fun x y wx => x = .int .u64 (seedI (seed s.data.toList) a) ∧ y = .int .u64 (seedI (seed s.data.toList) b) ∧ Grown w wx)
  case first =>
    go_region_with (first | (go_at_call 12; (with_reducible refine (seed_cat _ a _ hs a0).mono ?_); rintro e w' ⟨rfl, rfl⟩) | (go_at_call 12; (with_reducible refine (seed_cat _ b _ hs b0).mono ?_); rintro e w' ⟨rfl, rfl⟩))
    all_goals (go_wp2_with fail; go_meet; exact ⟨rfl, rfl, by repeat (first | exact Grown.refl _ | apply Grown.drew | apply Grown.alloc)⟩)
  case rest =>
    obtain ⟨rfl, rfl, hg⟩ := hcut
    clear hc h1 h2
    go_wp2_with fail
    refine (told_any _).mono ?_; rintro e w' ⟨rfl, rfl⟩
    go_wp2_with fail
    refine (seed_any _ _ (by unfold maxLen; omega)).mono ?_; rintro e w' ⟨rfl, rfl⟩
    cases q
    all_goals
      go_wp2_with fail
      go_ret
      exact ⟨congrArg (fun b => Ending.returned (Value.bool b)) (beq_self_eq_true (seedI (seed s.data.toList) a)), hg⟩
theorem seedsLong (a b : Int) (s : ByteArray) (w : World) (hs : ¬ s.size ≤ 100) (hs' : s.size ≤ 9223372036854775807) : Calls Try.prog 4 #[.int .u8 a, .int .u8 b, .string s] w fun e w' => e = .returned (.bool true) ∧ Grown w w' := by
  go_enter Try.func4, Try.ntmps4
  go_wp2_with fail
  refine (told_any _).mono ?_; rintro e w' ⟨rfl, rfl⟩
  go_wp2_with fail
  go_ret
  exact ⟨rfl, Grown.refl _⟩
end Go.Proofs.Ytcjmajfbhmoeaaa.dice
