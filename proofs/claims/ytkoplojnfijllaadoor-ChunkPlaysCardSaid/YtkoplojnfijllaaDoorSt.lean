/- chunk.Split: its contract, for the laws of layer 18. -/
import Derived.Test.YtkoplojnfijllaaDoorSp
namespace Go.Proofs.YtkoplojnfijllaaDoor.chunk
open Go.ChangeShapes Go.WideShapes Go.ChangeAt Go.RowKit

def Collected (b L : Nat) (w : World) (e : Ending) (w' : World) : Prop :=
  ∃ v, e = .returned v ∧ w'.ownsRow w.heap.size 22 1 v (pieces L) ((List.range (pieces L)).map (winV b L)) ∧ Below w.heap.size w w'
theorem appendSeq (Bs Bn b L cap : Nat) (hL : L ≤ 5000000) (hLc : L ≤ cap) (w : World) (hBs : Bs < w.heap.size) (hBn : Bn < w.heap.size)
    (hcs : w.cell? ⟨Bs, 0, none⟩ = some (.slice (some ⟨b, 0, none⟩) L cap)) (hcn : w.cell? ⟨Bn, 0, none⟩ = some (.int .i64 64)) :
    Calls Tryd.prog 29 #[.slice none 0 0, .func (.func 30) #[] #[.pointer (some ⟨Bs, 0, none⟩), .pointer (some ⟨Bn, 0, none⟩)]] w (Collected b L w) :=
  callsIn_wide.1 (appendSeq_in 2 (by omega) Bs Bn b L cap hL hLc w hBs hBn hcs hcn)
theorem collect (Bs Bn b L cap : Nat) (hL : L ≤ 5000000) (hLc : L ≤ cap) (w : World) (hBs : Bs < w.heap.size) (hBn : Bn < w.heap.size)
    (hcs : w.cell? ⟨Bs, 0, none⟩ = some (.slice (some ⟨b, 0, none⟩) L cap)) (hcn : w.cell? ⟨Bn, 0, none⟩ = some (.int .i64 64)) :
    Calls Tryd.prog 21 #[.func (.func 30) #[] #[.pointer (some ⟨Bs, 0, none⟩), .pointer (some ⟨Bn, 0, none⟩)]] w (Collected b L w) := by
  have H := Lib.hid (appendSeq Bs Bn b L cap hL hLc w hBs hBn hcs hcn)
  clear hcs hcn
  go_enter Tryd.func21, Tryd.ntmps21
  go_wp2_with fail
  refine H.out.mono ?_
  rintro e w1 ⟨v, rfl, hown, hbel⟩
  have HO := Lib.hid hown
  have HB := Lib.hid hbel
  clear hown hbel
  go_wp2_with fail
  go_ret
  exact ⟨v, rfl, HO.out, HB.out⟩
theorem chunkSeq (v : Value) (ad : Option Addr) (L cap : Nat) (hv : v = .slice ad L cap) (w : World) :
    Calls Tryd.prog 22 #[v, .int .i64 64] w fun e w' => e = .returned (.func (.func 30) #[] #[.pointer (some ⟨w.heap.size, 0, none⟩), .pointer (some ⟨w.heap.size + 1, 0, none⟩)]) ∧ (w.alloc (.cells #[v] 22)).alloc (.cells #[.int .i64 64] 3) = w' := by
  subst hv
  go_enter Tryd.func22, Tryd.ntmps22
  go_wp2_with fail
  go_ret
  exact ⟨rfl, rfl⟩

/-- The pieces lie in block g, each in its turn; the bytes lie in block b. -/
def SplitPost (l : List UInt8) (w : World) (e : Ending) (w' : World) : Prop :=
  ∃ g cap b, e = .returned (.tuple #[.slice (some ⟨g, 0, none⟩) (pieces l.length) cap, .int .i64 0]) ∧ w.heap.size ≤ g ∧ w.heap.size ≤ b ∧
    w'.ownsRow w.heap.size 22 1 (.slice (some ⟨g, 0, none⟩) (pieces l.length) cap) (pieces l.length) ((List.range (pieces l.length)).map (winV b l.length)) ∧ BsAt w' b 0 l ∧ Below w.heap.size w w'

theorem split_none (ad : Option Addr) (n c : Nat) (w : World) (h : n = 0 ∨ 4194240 < n) (h' : n ≤ 9223372036854775807) :
    Calls Tryd.prog 9 #[.slice ad n c] w fun e w' => e = .returned (.tuple #[.slice none 0 0, .int .i64 1]) ∧ w = w' := by
  rcases h with h | h
  · subst h
    go_enter Tryd.func9, Tryd.ntmps9
    go_wp2_with fail
    go_ret2
    exact ⟨rfl, rfl⟩
  · have h0 : ((n : Int) == 0) = false := beq_eq_false_iff_ne.2 (by omega)
    have h1 : 4194240 < (n : Int) := by omega
    clear h
    go_enter Tryd.func9, Tryd.ntmps9
    go_wp2_with fail
    go_ret2
    exact ⟨rfl, rfl⟩

theorem ownsRow_cap {w : World} {base e size n g cap : Nat} {xs : List Value} (h : w.ownsRow base e size (.slice (some ⟨g, 0, none⟩) n cap) n xs) : n ≤ cap := by
  rcases h.2 with ⟨h1, _⟩ | ⟨g', cap', cur, h1, _, _, h2, _⟩
  · cases h1
  · cases h1; exact h2
set_option maxHeartbeats 400000 in
theorem split_some (b o c : Nat) (l : List UInt8) (w : World) (hc : BsAt w b o l) (h0 : 0 < l.length) (hl : l.length ≤ 1000000) :
    Calls Tryd.prog 9 #[.slice (some ⟨b, o, none⟩) l.length c] w (SplitPost l w) := by
  have hz : ((l.length : Int) == 0) = false := beq_eq_false_iff_ne.2 (by omega)
  have h1 : ¬ 4194240 < (l.length : Int) := by omega
  have HC := Lib.hid hc
  clear hc
  go_enter Tryd.func9, Tryd.ntmps9
  go_wp2_with fail
  refine (clone_any b o c l _ HC.out hl).mono ?_; rintro e w1 ⟨g, cap, rfl, hown, hbel⟩
  have hcap : l.length ≤ cap := ownsRow_cap hown
  have hg := hown.lt g rfl
  have HO := Lib.hid hown
  have HB := Lib.hid hbel
  clear hown hbel
  go_wp2_with fail
  refine (chunkSeq _ _ _ _ rfl _).mono ?_; rintro e w' ⟨rfl, rfl⟩
  go_wp2_with fail
  have hBel : Below w1.heap.size w1 ((w1.alloc (.cells #[.slice (some ⟨g, 0, none⟩) l.length cap] 22)).alloc (.cells #[.int .i64 64] 3)) := ((Below.refl _ w1).alloc (Nat.le_refl _) _).alloc (by simp) _
  refine (collect w1.heap.size (w1.heap.size + 1) g l.length cap (by omega) hcap _ (by simp; omega) (by simp) (by simp) (by simp)).mono ?_
  rintro e w2 ⟨v, rfl, hrow, hbel2⟩
  have hne : v ≠ .slice none 0 0 := fun e => by
    subst e
    have h := hrow.1
    rcases hrow.2 with ⟨_, h2⟩ | ⟨_, _, _, h2, _⟩
    · unfold pieces at h2; omega
    · cases h2
  obtain ⟨gg, cc, rfl⟩ := ownsRow_some hrow hne
  have hgg := hrow.lt gg rfl
  have hB2 : Below w1.heap.size w1 w2 := hBel.trans (hbel2.mono (by simp; omega))
  have HR := Lib.hid hrow
  have HB2 := Lib.hid hB2
  clear hrow hbel2 hBel hB2 hne
  go_wp2_with fail
  go_ret2
  have hs := HB.out.size
  simp at hgg
  refine ⟨gg, cc, g, rfl, by omega, hg.1, ownsRow_base HR.out (by simp; omega), ⟨fun j u hu => ?_⟩, HB.out.trans (HB2.out.mono hs)⟩
  exact cell_later HB2.out (HO.out.cells (g := g) rfl j u hu)
end Go.Proofs.YtkoplojnfijllaaDoor.chunk
