/- few: its contract for 'ChunkPlays'; how the law's list of pieces lies. -/
import Derived.Test.YtkoplojnfijllaaDoorIv
namespace Go.Proofs.YtkoplojnfijllaaDoor.chunk
open Go.ChangeShapes Go.WideShapes Go.ChangeAt Go.RowKit
set_option maxRecDepth 100000

/-- One of the law's pieces: right, number, where its bytes lie, and the bytes. -/
structure OpAt (W : World) (b o : Nat) (r : Bool) (n : Int) (ad : Option Addr) (c : Nat) (l : List UInt8) : Prop where
  right : W.cell? ⟨b, o, none⟩ = some (.bool r)
  num : W.cell? ⟨b, o + 1, none⟩ = some (.int .i64 n)
  bytes : W.cell? ⟨b, o + 2, none⟩ = some (.slice ad l.length c)
  dat : l = [] ∨ ∃ bb bo, ad = some ⟨bb, bo, none⟩ ∧ BsAt W bb bo l
def OpsAt (W : World) (b o n : Nat) : Prop := ∀ i, i < n → ∃ r m ad c l, OpAt W b (o + i * 3) r m ad c l
def FewPost (b o n : Nat) (w : World) (e : Ending) (w' : World) : Prop :=
  (∃ q : Bool, e = .returned (.bool q) ∧ (q = true ↔ n ≤ 80 ∧ ∀ i r m ad c l, i < n → OpAt w b (o + i * 3) r m ad c l → l.length ≤ 100)) ∧ w = w'
theorem few_any (b o n c : Nat) (w : World) (hO : OpsAt w b o n) (hn : n ≤ 9223372036854775807) :
    Calls Tryd.prog 7 #[.slice (some ⟨b, o, none⟩) n c] w (FewPost b o n w) := by
  have HO := Lib.hid hO
  clear hO
  go_enter Tryd.func7, Tryd.ntmps7
  go_wp2_with fail
  go_loop [3] (fun i => ∃ k : Nat, k ≤ n ∧ i = .int .i64 k ∧ Hid (∀ i r m ad c l, i < k → OpAt w b (o + i * 3) r m ad c l → l.length ≤ 100)) (fun i => n - (intOf i).toNat)
  case atStart => exact ⟨0, Nat.zero_le _, rfl, Lib.hid (fun i _ _ _ _ _ h => by omega)⟩
  case round =>
    obtain ⟨k, hk, rfl, HL⟩ := hrel
    by_cases hlt : k < n
    · obtain ⟨r, m, ad, c1, l, h⟩ := HO.out k hlt
      have hb := h.bytes
      have HA := Lib.hid h
      clear h
      by_cases hl : l.length ≤ 100
      · go_wp2_with fail
        refine ⟨⟨k + 1, hlt, rfl, Lib.hid (fun i r' m' ad' c' l' hi hA => ?_)⟩, by simp only [intOf]; omega⟩
        by_cases hik : i = k
        · subst hik
          have e := hb.symm.trans hA.bytes
          injection e with e
          injection e with _ e _
          omega
        · exact HL.out i r' m' ad' c' l' (by omega) hA
      · go_wp2_with fail
        go_ret
        exact ⟨⟨false, rfl, ⟨fun h => (by cases h), fun h => absurd (h.2 k _ _ _ _ _ hlt HA.out) hl⟩⟩, rfl⟩
    · obtain rfl : k = n := by omega
      go_wp2_with fail
      go_ret
      exact ⟨⟨decide ((k : Int) ≤ 80), rfl, ⟨fun h => ⟨by have := of_decide_eq_true h; omega, fun i r m ad c l hi hA => HL.out i r m ad c l hi hA⟩, fun h => decide_eq_true (by have := h.1; omega)⟩⟩, rfl⟩
theorem few_nil (c : Nat) (ad : Option Addr) (w : World) : Calls Tryd.prog 7 #[.slice ad 0 c] w fun e w' => e = .returned (.bool true) ∧ w = w' := by
  go_enter Tryd.func7, Tryd.ntmps7
  go_wp2_with fail
  go_loop [3] (fun i => i = .int .i64 0) (fun _ => 0)
  case atStart => rfl
  case round =>
    subst hrel
    go_wp2_with fail
    go_ret
    exact ⟨rfl, rfl⟩
end Go.Proofs.YtkoplojnfijllaaDoor.chunk
