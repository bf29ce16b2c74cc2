/- The law's own piece as what is put, for 'ChunkPlays': string(x), Put(n, x) of one of the list's pieces. -/
import Derived.Test.YtkoplojnfijllaaDoorPq
import Derived.Laws.BytesString
namespace Go.Proofs.YtkoplojnfijllaaDoor.chunk
open Go.ChangeShapes Go.WideShapes Go.ChangeAt Go.RowKit

theorem conv_nil (W : World) : (convert 22 9 (.slice none 0 0)).run Tryd.prog W = .ok (.string ⟨#[]⟩) W := by
  rw [run_convert_bytes_string W 22 9 5 none 0 0 Tryd.underlying22 Tryd.underlying5 Tryd.underlying9]
  rfl
theorem op_conv {w W : World} {b o : Nat} {r : Bool} {m : Int} {ad : Option Addr} {c : Nat} {xl : List UInt8} (h : OpAt w b o r m ad c xl) (hw : Below w.heap.size w W) : (convert 22 9 (.slice ad xl.length c)).run Tryd.prog W = .ok (.string (strOf xl)) W := by
  rcases h.dat with rfl | ⟨bb, bo, rfl, hb⟩
  · cases ad with
    | none =>
      show (convert 22 9 (.slice none 0 c)).run Tryd.prog W = .ok (.string ⟨#[]⟩) W
      rw [run_convert_bytes_string W 22 9 5 none 0 c Tryd.underlying22 Tryd.underlying5 Tryd.underlying9]; rfl
    | some a => exact run_convert_bytes_back (P := Tryd.prog) W 22 9 5 a c [] Tryd.underlying22 Tryd.underlying5 Tryd.underlying9 (fun j hj => by cases hj)
  · exact conv_any bb bo _ c xl W rfl (hb.later hw)
theorem op_put {w W : World} {b o n4 g b2 : Nat} {r : Bool} {m : Int} {ad : Option Addr} {c : Nat} {xl l : List UInt8} {G C A R D S k : Nat} {sum : Int} {f g' : Nat → Bool} {parts parts' : Nat → List UInt8} {mm : Int} {q : Bool} (h : OpAt w b o r m ad c xl)
    (hS : ∀ x, x < n4 → ¬ (x = G ∨ x = C ∨ x = A) ∧ ¬ (x = D ∨ x = S)) (hn : w.heap.size ≤ n4) (hh : Half w.heap.size G C A R D S k sum w f g' parts parts' W) (hq : fits k f mm xl.length = q) (hg : g < n4) (hb2 : b2 < n4) (he : Env W g b2 l) (hx1 : xl.length ≤ 100) :
    Calls Tryd.prog 14 #[.pointer (some ⟨G, 0, none⟩), .int .i64 mm, .slice ad xl.length c] W fun e W' => e = .returned (.bool q) ∧ Hid (Half w.heap.size G C A R D S k sum w (putG f mm q) g' (withG parts mm xl q) parts' W') ∧ Hid (Env W' g b2 l) := by
  by_cases hx : xl = []
  · subst hx
    have hf : q = false := by rw [← hq]; unfold fits; simp
    subst hf
    obtain ⟨s, hgd, h1, h2, h3⟩ := hh.prog
    refine (good_put_none hgd mm ad c).mono ?_
    rintro e W' ⟨rfl, rfl⟩
    exact ⟨rfl, hh, he⟩
  · obtain ⟨bb, bo, rfl, hb⟩ := h.dat.resolve_left hx
    have hlt : bb < w.heap.size := by
      have h0 : 0 < xl.length := List.length_pos_iff.2 hx
      exact World.block_lt_of_cell? w _ (hb.cell 0 _ (List.getElem?_eq_getElem (by rw [length_bytes]; exact h0)))
    have := half_put hh mm bb bo c xl (by omega) (hb.later hh.below) (hS bb (by omega)).1
    rw [hq] at this
    exact this.mono fun e W' ⟨h1, h2, h3⟩ => ⟨h1, h2, he.fr h3 (hS g hg).1 (hS b2 hb2).1⟩
/-- What a piece x does: Put of both Gathers answers alike; string(x). -/
structure Puts (w : World) (G C A R D S k : Nat) (sum : Int) (f : Nat → Bool) (parts : Nat → List UInt8) (g b : Nat) (l : List UInt8) (mm : Int) (ax : Option Addr) (nx cx : Nat) (px : List UInt8) (q : Bool) : Prop where
  put : ∀ g' parts' W, Half w.heap.size G C A R D S k sum w f g' parts parts' W → Env W g b l → Calls Tryd.prog 14 #[.pointer (some ⟨G, 0, none⟩), .int .i64 mm, .slice ax nx cx] W fun e W' => e = .returned (.bool q) ∧ Hid (Half w.heap.size G C A R D S k sum w (putG f mm q) g' (withG parts mm px q) parts' W') ∧ Hid (Env W' g b l)
  rput : ∀ f' parts' W, Half w.heap.size G C A R D S k sum w f' f parts' parts W → Env W g b l → Calls Tryd.prog 15 #[.pointer (some ⟨R, 0, none⟩), .int .i64 mm, .string (strOf px)] W fun e W' => e = .returned (.bool q) ∧ Hid (Half w.heap.size G C A R D S k sum w f' (putG f mm q) parts' (withG parts mm px q) W') ∧ Hid (Env W' g b l)
  conv : ∀ W, Below w.heap.size w W → Env W g b l → (convert 22 9 (.slice ax nx cx)).run Tryd.prog W = .ok (.string (strOf px)) W
  fit : fits k f mm px.length = q
theorem puts_row {w : World} {n4 G C A R D S : Nat} {sum : Int} {f : Nat → Bool} {parts : Nat → List UInt8} {g b : Nat} {l : List UInt8} (hp2 : pieces l.length ≤ 40) (hS : ∀ x, x < n4 → ¬ (x = G ∨ x = C ∨ x = A) ∧ ¬ (x = D ∨ x = S)) (hg : g < n4) (hb : b < n4) (t : Nat) :
    Puts w G C A R D S (pieces l.length) sum f parts g b l t (some ⟨b, 64 * t, none⟩) (wlen l.length t) (wlen l.length t) (piece l t) (fits (pieces l.length) f t (piece l t).length) := by
  have hpl := piece_len l t
  refine ⟨fun g' parts' W hh he => ?_, fun f' parts' W hh he => ?_, fun W _ he => ?_, rfl⟩
  · have := half_put hh t b (64 * t) (wlen l.length t) (piece l t) (by rw [hpl]; unfold wlen; split <;> omega) (he.dat.piece t) (hS b hb).1
    rw [hpl] at this
    rw [hpl]
    exact this.mono fun e W' ⟨h1, h2, h3⟩ => ⟨h1, h2, he.fr h3 (hS g hg).1 (hS b hb).1⟩
  · have := half_rput hh (by omega) t (piece l t)
    exact this.mono fun e W' ⟨h1, h2, h3⟩ => ⟨h1, h2, he.fr h3 (hS g hg).2 (hS b hb).2⟩
  · exact conv_any b (64 * t) _ _ (piece l t) W hpl.symm (he.dat.piece t)
theorem puts_op {w : World} {n4 G C A R D S : Nat} {sum : Int} {f : Nat → Bool} {parts : Nat → List UInt8} {g b : Nat} {l : List UInt8} (hp2 : pieces l.length ≤ 40) (hS : ∀ x, x < n4 → ¬ (x = G ∨ x = C ∨ x = A) ∧ ¬ (x = D ∨ x = S)) (hn : w.heap.size ≤ n4) (hg : g < n4) (hb : b < n4)
    {ob oo : Nat} {r : Bool} {m : Int} {ad : Option Addr} {c : Nat} {xl : List UInt8} (h : OpAt w ob oo r m ad c xl) (hx : xl.length ≤ 100) (mm : Int) :
    Puts w G C A R D S (pieces l.length) sum f parts g b l mm ad xl.length c xl (fits (pieces l.length) f mm xl.length) := by
  refine ⟨fun g' parts' W hh he => op_put h hS hn hh rfl hg hb he hx, fun f' parts' W hh he => ?_, fun W hw _ => op_conv h hw, rfl⟩
  exact (half_rput hh (by omega) mm xl).mono fun e W' ⟨h1, h2, h3⟩ => ⟨h1, h2, he.fr h3 (hS g hg).2 (hS b hb).2⟩
/-- The law's pieces, each of at most 100 bytes. -/
def ShortAt (W : World) (b o n : Nat) : Prop := ∀ i, i < n → ∃ r m ad c l, OpAt W b (o + i * 3) r m ad c l ∧ l.length ≤ 100
/-- The law's list: a nil one, or pieces that lie in a row. -/
def ListAt (W : World) (ad : Option Addr) (n : Nat) : Prop := 0 < n → ∃ b o, ad = some ⟨b, o, none⟩ ∧ b < W.heap.size ∧ ShortAt W b o n
end Go.Proofs.YtkoplojnfijllaaDoor.chunk
