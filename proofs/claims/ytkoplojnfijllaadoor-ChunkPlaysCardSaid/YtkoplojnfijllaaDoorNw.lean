/- chunk.New, slices.Clone, math/bits.TrailingZeros64: contracts for the laws of layer 18. -/
import Derived.Test.YtkoplojnfijllaaDoorLf
import Derived.Deep.OwnRows
import Derived.Laws.OwnMore
import Derived.RegionTactic
import Derived.Deep.RegionHeld3
import Derived.Shelf.Spec.TrailingZeros
import Derived.Maps.AppendAt
namespace Go.Proofs.YtkoplojnfijllaaDoor.chunk
open Go.ChangeShapes Go.WideShapes Go.ChangeAt Go.RowKit
theorem info32 : (Tryd.prog.info? 32).map (fun i => (i.zero, i.size, i.bytes)) = some (some (.int .u64 0), 1, 8) := by kernel_rfl
theorem info22 : (Tryd.prog.info? 22).map (fun i => (i.zero, i.size, i.bytes)) = some (some (.slice none 0 0), 1, 24) := by kernel_rfl
theorem info5 : (Tryd.prog.info? 5).map (fun i => (i.zero, i.size, i.bytes)) = some (some (.int .u8 0), 1, 1) := by kernel_rfl
def zeros (n : Nat) : Array Value := madeCells #[.int .u64 0] n
def nils (n : Nat) : Array Value := madeCells #[.slice none 0 0] n
theorem mk61 (k : Nat) (h : k ≤ 65535) (w : World) : (Instr.makeSlice 61 (.int .i64 ((k : Int) / 64 + 1)) (.int .i64 ((k : Int) / 64 + 1))).run Tryd.prog w = .ok (.slice (some ⟨w.heap.size, 0, none⟩) (k / 64 + 1) (k / 64 + 1)) (w.alloc (.cells (zeros (k / 64 + 1)) 32)) := by
  rw [show ((k : Int) / 64 + 1) = ((k / 64 + 1 : Nat) : Int) by omega]
  exact run_make_row' (P := Tryd.prog) 61 32 (.int .u64 0) 8 Tryd.underlying61 info32 rfl .i64 .i64 _ (by omega) (by omega) w
theorem mk26 (k : Nat) (h : k ≤ 65535) (w : World) : (Instr.makeSlice 26 (.int .i64 k) (.int .i64 k)).run Tryd.prog w = .ok (.slice (some ⟨w.heap.size, 0, none⟩) k k) (w.alloc (.cells (nils k) 22)) := by
  exact run_make_row' (P := Tryd.prog) 26 22 (.slice none 0 0) 24 Tryd.underlying26 info22 rfl .i64 .i64 k (by omega) (by omega) w

/-- A Gather that has nothing yet. -/
def fresh (of : Nat) (sum : Int) : Ga := ⟨of, sum, List.replicate (of / 64 + 1) 0, List.replicate of (.slice none 0 0), 0⟩
theorem fresh_ok (of : Nat) (sum : Int) (h1 : 1 ≤ of) (h2 : of ≤ 65535) : (fresh of sum).ok :=
  ⟨h1, h2, by simp [fresh], by simp [fresh], by simp [fresh], Nat.zero_le _⟩
def Made (of : Nat) (sum : Int) (w : World) (e : Ending) (w' : World) : Prop :=
  ∃ G C A, e = .returned (.pointer (some ⟨G, 0, none⟩)) ∧ w.heap.size ≤ G ∧ w.heap.size ≤ C ∧ w.heap.size ≤ A ∧ Lies w' G C A (fresh of sum) ∧ Below w.heap.size w w'

theorem zeros_eq (n : Nat) : zeros n = ((List.replicate n 0).map (fun x : Nat => Value.int .u64 (x : Int))).toArray := by
  apply Array.ext'
  rw [zeros, toList_madeCells_one]; simp
theorem nils_eq (n : Nat) : nils n = (List.replicate n (Value.slice none 0 0)).toArray := by
  apply Array.ext'
  rw [nils, toList_madeCells_one]

theorem alloc3 (w : World) (a b c : Obj) : (((w.alloc a).alloc b).alloc c).drew.heap[w.heap.size]? = some a ∧ (((w.alloc a).alloc b).alloc c).drew.heap[w.heap.size + 1]? = some b ∧ (((w.alloc a).alloc b).alloc c).drew.heap[w.heap.size + 1 + 1]? = some c := by
  have h1 := heap_alloc_new w a
  have h2 := heap_alloc_new (w.alloc a) b
  have h3 := heap_alloc_new ((w.alloc a).alloc b) c
  simp only [World.size_alloc] at h2 h3
  refine ⟨?_, ?_, h3⟩
  · exact ((Below.heap_alloc _ _ _ (by simp; omega)).trans (Below.heap_alloc _ _ _ (by simp))).trans h1
  · exact (Below.heap_alloc _ _ _ (by simp)).trans h2

theorem new_in (of : Nat) (sum : Int) (w : World) (h1 : 1 ≤ of) (h2 : of ≤ 65535) :
    Calls Tryd.prog 12 #[.int .i64 of, .int .u64 sum] w (Made of sum w) := by
  have m1 := mk61 of h2
  have m2 := mk26 of h2
  go_enter Tryd.func12, Tryd.ntmps12
  go_wp2_with fail
  go_region
  · go_wp2_with fail
    go_ret
    obtain ⟨e1, e2, e3⟩ := alloc3 w (.cells (zeros (of / 64 + 1)) 32) (.cells (nils of) 22) (.cells #[.int .i64 of, .int .u64 sum, .slice (some ⟨w.heap.size, 0, none⟩) (of / 64 + 1) (of / 64 + 1), .slice (some ⟨w.heap.size + 1, 0, none⟩) of of, .int .i64 0] 63)
    refine ⟨w.heap.size + 1 + 1, w.heap.size, w.heap.size + 1, rfl, by omega, by omega, by omega, ⟨?_, ?_, ?_, by omega, by omega, by omega⟩, ((((Below.refl _ w).alloc (Nat.le_refl _) _).alloc (by simp) _).alloc (by simp; omega) _).drew⟩
    · rw [e3]; simp [fresh]
    · rw [e1, zeros_eq]; rfl
    · rw [e2, nils_eq]; rfl
  · go_wp2_with fail
    go_ret
    obtain ⟨e1, e2, e3⟩ := alloc3 w (.cells (nils of) 22) (.cells (zeros (of / 64 + 1)) 32) (.cells #[.int .i64 of, .int .u64 sum, .slice (some ⟨w.heap.size + 1, 0, none⟩) (of / 64 + 1) (of / 64 + 1), .slice (some ⟨w.heap.size, 0, none⟩) of of, .int .i64 0] 63)
    refine ⟨w.heap.size + 1 + 1, w.heap.size + 1, w.heap.size, rfl, by omega, by omega, by omega, ⟨?_, ?_, ?_, by omega, by omega, by omega⟩, ((((Below.refl _ w).alloc (Nat.le_refl _) _).alloc (by simp) _).alloc (by simp; omega) _).drew⟩
    · rw [e3]; simp [fresh]
    · rw [e2, zeros_eq]; rfl
    · rw [e1, nils_eq]; rfl

theorem new_out (of : Int) (sum : Int) (w : World) (h : of < 1 ∨ 65535 < of) :
    Calls Tryd.prog 12 #[.int .i64 of, .int .u64 sum] w fun e w' => e = .returned (.pointer none) ∧ w = w' := by
  by_cases h1 : of < 1
  · clear h
    go_enter Tryd.func12, Tryd.ntmps12
    go_wp2_with fail
    go_ret
    exact ⟨rfl, rfl⟩
  · have h2 : 65535 < of := by omega
    clear h
    go_enter Tryd.func12, Tryd.ntmps12
    go_wp2_with fail
    go_ret
    exact ⟨rfl, rfl⟩

/-- Bytes that lie behind a slice. -/
def bytesOf (l : List UInt8) : List Value := l.map fun b => Value.int .u8 (b.toNat : Int)
structure BsAt (w : World) (b o : Nat) (l : List UInt8) : Prop where
  cell : ∀ j u, (bytesOf l)[j]? = some u → w.cell? ((⟨b, o, none⟩ : Addr).add j) = some u
theorem bytes_one (l : List UInt8) : ∀ u ∈ bytesOf l, u.oneCell' = true := by
  intro u hu; obtain ⟨b, _, rfl⟩ := List.mem_map.1 hu; rfl
def Cloned (l : List UInt8) (w : World) (e : Ending) (w' : World) : Prop :=
  ∃ g cap, e = .returned (.slice (some ⟨g, 0, none⟩) l.length cap) ∧ w'.ownsRow w.heap.size 5 1 (.slice (some ⟨g, 0, none⟩) l.length cap) l.length (bytesOf l) ∧ Below w.heap.size w w'

theorem ownsRow_some {w : World} {base e size n : Nat} {v : Value} {xs : List Value} (h : w.ownsRow base e size v n xs) (hv : v ≠ .slice none 0 0) : ∃ g cap, v = .slice (some ⟨g, 0, none⟩) n cap := by
  rcases h.2 with ⟨rfl, _⟩ | ⟨g, cap, cur, rfl, _⟩
  · exact absurd rfl hv
  · exact ⟨g, cap, rfl⟩
theorem length_bytes (l : List UInt8) : (bytesOf l).length = l.length := by simp [bytesOf]

set_option maxHeartbeats 400000 in
theorem clone_any (b o c : Nat) (l : List UInt8) (w : World) (hc : BsAt w b o l) (hl : l.length ≤ 1000000) :
    Calls Tryd.prog 23 #[.slice (some ⟨b, o, none⟩) l.length c] w (Cloned l w) := by
  obtain ⟨i0, hi, hz0, hz1, hz2⟩ := info_parts info5
  have hnil := fun wx => Lib.run_eql_slice_nil (P := Tryd.prog) wx
  have hown := World.ownsRow_made (base := w.heap.size) (e := 5) (size := 1) w #[] 0 (Nat.le_refl _) (Nat.zero_le _) rfl
  have hm : 0 + l.length ≤ maxLen := by unfold maxLen; omega
  have hb : (0 + l.length) * 1 ≤ 140737488355328 := by omega
  have hn : ∀ j u, (bytesOf l)[j]? = some u → (w.alloc (.cells #[] 5)).cell? ((⟨b, o, none⟩ : Addr).add j) = some u := fun j u hu => by
    have := hc.cell j u hu
    exact ((Below.alloc (Below.refl _ w) (Nat.le_refl _) (.cells #[] 5)).cell (p := (⟨b, o, none⟩ : Addr).add j) (World.block_lt_of_cell? w _ this)).trans this
  go_enter Tryd.func23, Tryd.ntmps23
  go_wp2_with (at_builtin; refine wpList_append_own _ rfl _ _ 22 rfl w.heap.size 5 i0 (.int .u8 0) 1 1 Tryd.underlying22 hi hz0 hz1 hz2 rfl (by decide) _ _ _ rfl hown ⟨b, o, none⟩ l.length c (bytesOf l) rfl (by rw [length_bytes]; omega) hn (bytes_one l) hm hb (by simp) ?_; intro v' w1 hown' hgrow hnil')
  go_ret
  have hv : v' ≠ .slice none 0 0 := fun h => by have := hnil'.1 h; cases this.1
  obtain ⟨g, cap, rfl⟩ := ownsRow_some hown' hv
  have hb' : Below w.heap.size w w1 := ((Below.refl _ w).alloc (Nat.le_refl _) _).grown hgrow (by simp) (fun k hk => by cases hk; exact Nat.le_refl _)
  refine ⟨g, cap, ?_, ?_, hb'⟩
  · simp
  · simpa using hown'

/-! ### math/bits.TrailingZeros64: its table as the program lays it -/
def Tab (w : World) : Prop := ∀ j, j < Lib.deBruijn64tab.length → w.cell? ⟨0, j, none⟩ = some (.int .u8 (Lib.deBruijn64tab.getD j 0))
theorem tz_core (x k idx : Nat) (w : World) (hx0 : ((x : Int) == 0) = false)
    (key : IntKind.u64.wrap (bits BinOp.and IntKind.u64 (x : Int) (IntKind.u64.wrap (-(x : Int))) * 285870213051353865) / 288230376151711744 = (idx : Int))
    (hi : idx < 64) (hk : k < 64) (hcell : w.cell? ⟨0, idx, none⟩ = some (.int .u8 k)) :
    Calls Tryd.prog 25 #[.int .u64 x] w fun e w' => e = .returned (.int .i64 k) ∧ w = w' := by
  go_enter Tryd.func25, Tryd.ntmps25
  go_wp2_with (simp only [key])
  go_ret
  exact ⟨rfl, rfl⟩
theorem tz_zero (w : World) : Calls Tryd.prog 25 #[.int .u64 0] w fun e w' => e = .returned (.int .i64 64) ∧ w = w' := by
  go_enter Tryd.func25, Tryd.ntmps25
  go_wp2
  go_ret
  exact ⟨rfl, rfl⟩
theorem tz_any (x : Nat) (hx : x < 18446744073709551616) (w : World) (hT : Tab w) :
    Calls Tryd.prog 25 #[.int .u64 x] w fun e w' => e = .returned (.int .i64 (Lib.ctz 64 x)) ∧ w = w' := by
  by_cases hx0 : x = 0
  · subst hx0
    exact tz_zero w
  · obtain ⟨hlow, hk⟩ := Lib.lowest_bit 64 x hx0 hx
    obtain ⟨hi, htab⟩ := Lib.deBruijn64_at _ hk
    have hcell := hT _ hi
    rw [htab] at hcell
    exact tz_core x _ _ w (by simp; omega) (tz64_key x _ hx hx0 hlow) hi hk hcell
end Go.Proofs.YtkoplojnfijllaaDoor.chunk
