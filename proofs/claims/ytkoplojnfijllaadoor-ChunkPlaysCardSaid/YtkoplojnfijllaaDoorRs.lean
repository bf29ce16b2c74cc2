/- The reference's Split: its contract for 'ChunkPlays'. -/
import Derived.Test.YtkoplojnfijllaaDoorRb
import Derived.Outline
namespace Go.Proofs.YtkoplojnfijllaaDoor.chunk
open Go.ChangeShapes Go.WideShapes Go.ChangeAt Go.RowKit
set_option maxRecDepth 100000

theorem rsplit_none (w : World) : Calls Tryd.prog 10 #[.string (strOf [])] w fun e w' => e = .returned (.tuple #[.slice none 0 0, .int .i64 1]) ∧ w = w' := by
  have hs : (strOf []).size = 0 := rfl
  go_enter Tryd.func10, Tryd.ntmps10
  go_wp2_with fail
  go_ret2
  exact ⟨rfl, rfl⟩
def pieceV (l : List UInt8) (i : Nat) : Value := .string (strOf (piece l i))
def RSplit (l : List UInt8) (w : World) (e : Ending) (w' : World) : Prop :=
  ∃ g cap, e = .returned (.tuple #[.slice (some ⟨g, 0, none⟩) (pieces l.length) cap, .int .i64 0]) ∧ w'.ownsRow w.heap.size 9 1 (.slice (some ⟨g, 0, none⟩) (pieces l.length) cap) (pieces l.length) ((List.range (pieces l.length)).map (pieceV l)) ∧ Below w.heap.size w w'
theorem strOf_extract (l : List UInt8) (a b : Nat) : (strOf l).extract a b = strOf ((l.drop a).take (b - a)) := by
  apply ByteArray.ext
  simp [strOf, ByteArray.data_extract]
theorem ext_last (l : List UInt8) (m : Nat) (h : l.length < 64 * m + 64) : (strOf l).extract (64 * m) l.length = strOf (piece l m) := by
  rw [strOf_extract]; unfold piece
  congr 1
  rw [List.take_of_length_le (by simp), List.take_of_length_le (by simp; omega)]
theorem ext_mid (l : List UInt8) (m : Nat) (_h : 64 * m + 64 ≤ l.length) : (strOf l).extract (64 * m) (if 64 * (m : Int) + 64 < (l.length : Int) then 64 * (m : Int) + 64 else (l.length : Int)).toNat = strOf (piece l m) := by
  rw [strOf_extract]; unfold piece
  rw [show (if 64 * (m : Int) + 64 < (l.length : Int) then 64 * (m : Int) + 64 else (l.length : Int)).toNat - 64 * m = 64 by split <;> omega]
set_option maxHeartbeats 2000000 in
theorem rsplit_some (l : List UInt8) (w : World) (h1 : 1 ≤ l.length) (h2 : l.length ≤ 2500) : Calls Tryd.prog 10 #[.string (strOf l)] w (RSplit l w) := by
  have hs := strOf_size l
  have h1' : ¬ (l.length : Int) < 1 := by omega
  have h2' : ¬ 4194240 < (l.length : Int) := by omega
  obtain ⟨i0, hi, hz0, hz1, hz2⟩ := info_parts info9
  go_enter Tryd.func10, Tryd.ntmps10
  go_wp2_with fail
  go_loopw [4, 5] (fun o i wr => ∃ m : Nat, m ≤ pieces l.length ∧ i = .int .i64 (64 * m : Nat) ∧ Hid (wr.ownsRow w.heap.size 9 1 o m ((List.range m).map (pieceV l))) ∧ Hid (0 < m → o ≠ .slice none 0 0) ∧ Hid (Below w.heap.size w wr)) (fun _ i _ => 64 * pieces l.length - (intOf i).toNat)
  case atStart => exact ⟨0, Nat.zero_le _, rfl, ⟨rfl, .inl ⟨rfl, rfl⟩⟩, fun h => absurd h (by omega), Below.refl _ _⟩
  case round =>
    obtain ⟨m, hm, rfl, hO, hne, hB⟩ := hrel
    by_cases hmk : m < pieces l.length
    · have hlt : (64 * m : Nat) < (l.length : Int) := by unfold pieces at hmk; omega
      have hp40 : pieces l.length ≤ 40 := by unfold pieces; omega
      by_cases hla : (l.length : Int) < 64 * m + 64
      · go_wp2_with (at_builtin; refine wpList_append_own _ rfl _ _ 29 rfl w.heap.size 9 i0 (.string ⟨#[]⟩) 1 16 Tryd.underlying29 hi hz0 hz1 hz2 rfl (by decide) _ _ _ rfl (hO.out.alloc _) ⟨wr.heap.size, 0, none⟩ 1 1 [_] rfl rfl (cell_one_new _ _ _) (by simp [Value.oneCell']) (by unfold maxLen; omega) (by omega) (by have := hB.out.size; simp; omega) ?_; intro v' w1 hown' hgrow hnil'; have Hown := Lib.hid hown'; have Hgrow := Lib.hid hgrow; have Hnil := Lib.hid hnil'; clear hown' hgrow hnil')
        have hB' : Below w.heap.size w w1 := (hB.out.alloc hB.out.size _).grown Hgrow.out (by have := hB.out.size; simp; omega) (fun j hj => (hO.out.lt j hj).1)
        have ho := Hown.out
        rw [ext_last l m (by omega)] at ho
        refine ⟨⟨m + 1, hmk, congrArg _ (by omega), ?_, Lib.hid (fun _ h => by have := (Hnil.out.1 h).2; cases this), hB'⟩, by simp only [intOf]; omega⟩
        have e : (List.range (m + 1)).map (pieceV l) = (List.range m).map (pieceV l) ++ [pieceV l m] := by rw [List.range_succ, List.map_append]; rfl
        rw [e]; exact ho
      · have hla2 : (64 * (m : Int) + 64) ≤ (l.length : Int) := by omega
        go_wp2_with (at_builtin; refine wpList_append_own _ rfl _ _ 29 rfl w.heap.size 9 i0 (.string ⟨#[]⟩) 1 16 Tryd.underlying29 hi hz0 hz1 hz2 rfl (by decide) _ _ _ rfl (hO.out.alloc _) ⟨wr.heap.size, 0, none⟩ 1 1 [_] rfl rfl (cell_one_new _ _ _) (by simp [Value.oneCell']) (by unfold maxLen; omega) (by omega) (by have := hB.out.size; simp; omega) ?_; intro v' w1 hown' hgrow hnil'; have Hown := Lib.hid hown'; have Hgrow := Lib.hid hgrow; have Hnil := Lib.hid hnil'; clear hown' hgrow hnil')
        have hB' : Below w.heap.size w w1 := (hB.out.alloc hB.out.size _).grown Hgrow.out (by have := hB.out.size; simp; omega) (fun j hj => (hO.out.lt j hj).1)
        have ho := Hown.out
        rw [ext_mid l m (by omega)] at ho
        refine ⟨⟨m + 1, hmk, congrArg _ (by omega), ?_, Lib.hid (fun _ h => by have := (Hnil.out.1 h).2; cases this), hB'⟩, by simp only [intOf]; omega⟩
        have e : (List.range (m + 1)).map (pieceV l) = (List.range m).map (pieceV l) ++ [pieceV l m] := by rw [List.range_succ, List.map_append]; rfl
        rw [e]; exact ho
    · obtain rfl : m = pieces l.length := by omega
      have hge : ¬ ((64 * pieces l.length : Nat) : Int) < (l.length : Int) := by unfold pieces; omega
      go_wp2_with fail
      go_ret2
      have hp := pieces_bd l.length h1
      obtain ⟨g, cap, rfl⟩ := ownsRow_some hO.out (hne.out hp)
      exact ⟨g, cap, rfl, hO.out, hB.out⟩
end Go.Proofs.YtkoplojnfijllaaDoor.chunk
