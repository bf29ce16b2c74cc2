/- (*chunk.Gather).Put where it takes nothing, Got's closure: contracts for the laws of layer 18. -/
import Derived.Test.YtkoplojnfijllaaDoorPt
namespace Go.Proofs.YtkoplojnfijllaaDoor.chunk
open Go.ChangeShapes Go.WideShapes Go.ChangeAt Go.RowKit

/-- What a Gather takes. -/
def Ga.takes (s : Ga) (m : Int) (n : Nat) : Bool := decide (0 ≤ m) && decide (m < s.of) && !s.has m.toNat && decide (1 ≤ n) && decide (n ≤ 64) && (decide ((s.of : Int) - 1 ≤ m) || decide (64 ≤ n))

theorem put_nil (m : Int) (ad : Option Addr) (n c : Nat) (w : World) : Calls Tryd.prog 14 #[.pointer none, .int .i64 m, .slice ad n c] w fun e w' => e = .returned (.bool false) ∧ w = w' := by
  go_enter Tryd.func14, Tryd.ntmps14
  go_wp2_with fail
  go_ret
  exact ⟨rfl, rfl⟩

set_option maxHeartbeats 1000000 in
theorem put_no (G C A : Nat) (s : Ga) (w : World) (hL : Lies w G C A s) (hs : s.ok) (m : Int) (ad : Option Addr) (n c : Nat) (hm : n ≤ 9223372036854775807) (h : s.takes m n = false) :
    Calls Tryd.prog 14 #[.pointer (some ⟨G, 0, none⟩), .int .i64 m, .slice ad n c] w fun e w' => e = .returned (.bool false) ∧ w = w' := by
  have h0 := hL.c0
  have ho := hs.of2
  have ho1 := hs.of1
  by_cases h1 : m < 0
  · clear hL hs h
    go_enter Tryd.func14, Tryd.ntmps14
    go_wp2_with fail
    go_ret
    exact ⟨rfl, rfl⟩
  by_cases h2 : (s.of : Int) ≤ m
  · clear hL hs h
    go_enter Tryd.func14, Tryd.ntmps14
    go_wp2_with fail
    go_ret
    exact ⟨rfl, rfl⟩
  obtain ⟨k, rfl⟩ := Int.eq_ofNat_of_zero_le (show 0 ≤ m by omega)
  have hk : k < s.of := by omega
  have hh := has_in G C A s w hL hs k hk
  have HH := Lib.hid hh
  clear hh hL
  cases hb : s.has k with
  | true =>
    rw [hb] at HH
    clear hs h hb
    go_enter Tryd.func14, Tryd.ntmps14
    go_wp2_with (go_at_call 24; refine HH.out.mono ?_; rintro e w' ⟨rfl, rfl⟩)
    go_ret
    exact ⟨rfl, rfl⟩
  | false =>
    rw [hb] at HH
    have hr : n < 1 ∨ 64 < n ∨ (k : Int) < (s.of : Int) - 1 ∧ n < 64 := by
      unfold Ga.takes at h
      simp [hb, show (k : Int) < (s.of : Int) by omega] at h
      omega
    clear hs h hb
    by_cases h3 : (n : Int) < 1
    · clear hr
      go_enter Tryd.func14, Tryd.ntmps14
      go_wp2_with (go_at_call 24; refine HH.out.mono ?_; rintro e w' ⟨rfl, rfl⟩)
      go_ret
      exact ⟨rfl, rfl⟩
    by_cases h4 : 64 < (n : Int)
    · clear hr
      go_enter Tryd.func14, Tryd.ntmps14
      go_wp2_with (go_at_call 24; refine HH.out.mono ?_; rintro e w' ⟨rfl, rfl⟩)
      go_ret
      exact ⟨rfl, rfl⟩
    have h5 : (k : Int) < (s.of : Int) - 1 := by omega
    have h6 : (n : Int) < 64 := by omega
    clear hr
    go_enter Tryd.func14, Tryd.ntmps14
    go_wp2_with (go_at_call 24; refine HH.out.mono ?_; rintro e w' ⟨rfl, rfl⟩)
    go_ret
    exact ⟨rfl, rfl⟩

theorem takes_iff (s : Ga) (k n : Nat) : s.takes k n = true ↔ k < s.of ∧ s.has k = false ∧ 1 ≤ n ∧ n ≤ 64 ∧ (k < s.of - 1 → 64 ≤ n) := by
  unfold Ga.takes
  rw [Int.toNat_natCast]
  cases s.has k <;> simp <;> omega
end Go.Proofs.YtkoplojnfijllaaDoor.chunk
