/- The pieces of a text, and what a law of layer 18 holds of them while it goes on. -/
import Derived.Test.YtkoplojnfijllaaDoorGd
namespace Go.Proofs.YtkoplojnfijllaaDoor.chunk
open Go.ChangeShapes Go.WideShapes Go.ChangeAt Go.RowKit

def piece (l : List UInt8) (i : Nat) : List UInt8 := (l.drop (64 * i)).take 64
theorem piece_len (l : List UInt8) (i : Nat) : (piece l i).length = wlen l.length i := by
  unfold piece wlen; rw [List.length_take, List.length_drop]; split <;> omega
theorem wlen_bd (L i : Nat) (h : i < pieces L) : 1 ≤ wlen L i ∧ wlen L i ≤ 64 ∧ (i < pieces L - 1 → 64 ≤ wlen L i) := by
  unfold pieces at *; unfold wlen; split <;> omega
theorem pieces_bd (L : Nat) (h : 0 < L) : 1 ≤ pieces L := by unfold pieces; omega
theorem flat_pieces (l : List UInt8) : ∀ k, ((List.range k).map (piece l)).flatten = l.take (64 * k)
  | 0 => by simp
  | k + 1 => by
    rw [List.range_succ, List.map_append, List.flatten_append, flat_pieces l k]
    simp only [List.map_cons, List.map_nil, List.flatten_cons, List.flatten_nil, List.append_nil]
    unfold piece
    rw [show 64 * (k + 1) = 64 * k + 64 by omega, List.take_add]
theorem flat_all (l : List UInt8) : ((List.range (pieces l.length)).map (piece l)).flatten = l := by
  rw [flat_pieces, List.take_of_length_le (by unfold pieces; omega)]
theorem BsAt.piece {w : World} {b : Nat} {l : List UInt8} (h : BsAt w b 0 l) (i : Nat) : BsAt w b (64 * i) (piece l i) := by
  refine ⟨fun j u hu => ?_⟩
  have hj : j < (chunk.piece l i).length := by
    rcases Nat.lt_or_ge j (chunk.piece l i).length with h1 | h1
    · exact h1
    · rw [List.getElem?_eq_none (by rw [length_bytes]; exact h1)] at hu; cases hu
  have hl := hj
  rw [piece_len] at hl
  have hw : wlen l.length i ≤ l.length - 64 * i := by unfold wlen; split <;> omega
  have e : (bytesOf l)[64 * i + j]? = some u := by
    rw [← hu]
    unfold bytesOf chunk.piece
    rw [List.getElem?_map, List.getElem?_map, List.getElem?_take, List.getElem?_drop, if_pos]
    unfold wlen at hl; split at hl <;> omega
  have := h.cell _ u e
  have a1 : (⟨b, 0, none⟩ : Addr).add (64 * i + j) = ⟨b, 64 * i + j, none⟩ := by unfold Addr.add; split <;> simp_all
  have a2 : (⟨b, 64 * i, none⟩ : Addr).add j = ⟨b, 64 * i + j, none⟩ := by unfold Addr.add; split <;> simp_all
  rw [a2, ← a1]; exact this

/-- The pieces lie in the row g, their bytes in b. -/
structure Env (w : World) (g b : Nat) (l : List UInt8) : Prop where
  rows : ∀ i, i < pieces l.length → w.cell? ⟨g, i, none⟩ = some (winV b l.length i)
  dat : BsAt w b 0 l
theorem Env.fr {S : Nat → Prop} {w w' : World} {g b : Nat} {l : List UInt8} (h : Env w g b l) (hf : Fr S w w') (hg : ¬ S g) (hb : ¬ S b) : Env w' g b l :=
  ⟨fun i hi => (World.cell?_of_block (w := w) (a := ⟨g, i, none⟩) (hf.block g (World.block_lt_of_cell? w _ (h.rows i hi)) hg)).trans (h.rows i hi), h.dat.fr hf hb⟩
theorem Env.later {w w' : World} {g b : Nat} {l : List UInt8} (h : Env w g b l) (hb : Below w.heap.size w w') : Env w' g b l :=
  h.fr (S := fun _ => False) (Fr.of_below hb) id id
theorem Env.of {w' : World} {base g b cap : Nat} {l : List UInt8} (h : w'.ownsRow base 22 1 (.slice (some ⟨g, 0, none⟩) (pieces l.length) cap) (pieces l.length) ((List.range (pieces l.length)).map (winV b l.length))) (hb : BsAt w' b 0 l) : Env w' g b l := by
  refine ⟨fun i hi => ?_, hb⟩
  have := h.cells (g := g) rfl i (winV b l.length i) (by simp [hi])
  have a1 : (⟨g, 0, none⟩ : Addr).add i = ⟨g, i, none⟩ := by unfold Addr.add; split <;> simp_all
  rwa [a1] at this

/-- Put, over a Gather in order. -/
def PutDone (B0 G C A : Nat) (s : Ga) (parts : Nat → List UInt8) (m : Int) (pl : List UInt8) (w : World) (e : Ending) (w' : World) : Prop :=
  (s.takes m pl.length = true ∧ (∃ v, e = .returned (.bool true) ∧ Good w' B0 G C A (s.put m.toNat v) (with_ parts m.toNat pl)) ∧ Fr (fun j => j = G ∨ j = C ∨ j = A) w w') ∨ (s.takes m pl.length = false ∧ e = .returned (.bool false) ∧ w = w')
theorem good_put {w : World} {B0 G C A : Nat} {s : Ga} {parts : Nat → List UInt8} (h : Good w B0 G C A s parts) (m : Int) (b o c n : Nat) (pl : List UInt8) (hn : n = pl.length) (hp : pl.length ≤ 9223372036854775807) (hb : BsAt w b o pl) (hbS : ¬ (b = G ∨ b = C ∨ b = A)) (hB : B0 ≤ w.heap.size) :
    Calls Tryd.prog 14 #[.pointer (some ⟨G, 0, none⟩), .int .i64 m, .slice (some ⟨b, o, none⟩) n c] w (PutDone B0 G C A s parts m pl w) := by
  subst hn
  cases ht : s.takes m pl.length with
  | false =>
    exact (put_no G C A s w h.lies h.ok m _ _ _ hp ht).mono fun e w' ⟨a, b⟩ => .inr ⟨ht, a, b⟩
  | true =>
    have h0 : 0 ≤ m := by
      unfold Ga.takes at ht; simp at ht; omega
    obtain ⟨k, rfl⟩ := Int.eq_ofNat_of_zero_le h0
    obtain ⟨hk, hh, h1, h64, hl⟩ := (takes_iff s k pl.length).1 ht
    have hlt : s.n < s.of := by rw [h.count]; exact countP_lt s.has s.of k hk hh
    refine (put_in G C A s w h.lies h.ok k hk hh hlt b o c pl hb hbS h1 h64 hl).mono fun e w' hp => .inl ⟨ht, ?_⟩
    obtain ⟨v, he, hg, hf⟩ := h.put k hk hh pl e hB hp
    exact ⟨⟨v, he, hg⟩, hf⟩
/-- Put of a nil or an empty slice. -/
theorem good_put_none {w : World} {B0 G C A : Nat} {s : Ga} {parts : Nat → List UInt8} (h : Good w B0 G C A s parts) (m : Int) (ad : Option Addr) (c : Nat) :
    Calls Tryd.prog 14 #[.pointer (some ⟨G, 0, none⟩), .int .i64 m, .slice ad 0 c] w fun e w' => e = .returned (.bool false) ∧ w = w' :=
  put_no G C A s w h.lies h.ok m _ _ _ (by omega) (by unfold Ga.takes; simp)

theorem conv_any (b o n c : Nat) (l : List UInt8) (W : World) (hn : n = l.length) (hb : BsAt W b o l) : (convert 22 9 (.slice (some ⟨b, o, none⟩) n c)).run Tryd.prog W = .ok (.string (strOf l)) W := by
  subst hn
  refine run_convert_bytes_back (P := Tryd.prog) W 22 9 5 ⟨b, o, none⟩ c l Tryd.underlying22 Tryd.underlying5 Tryd.underlying9 (fun j hj => ?_)
  exact hb.cell j _ (by simp [bytesOf, List.getElem?_eq_getElem hj])

/-- make([]byte, n) -/
def zb (n : Nat) : Array Value := madeCells #[.int .u8 0] n
theorem mk22 (n : Nat) (h : n ≤ 1000000) (w : World) : (Instr.makeSlice 22 (.int .i64 (n : Int)) (.int .i64 (n : Int))).run Tryd.prog w = .ok (.slice (some ⟨w.heap.size, 0, none⟩) n n) (w.alloc (.cells (zb n) 5)) :=
  run_make_row' (P := Tryd.prog) 22 5 (.int .u8 0) 1 Tryd.underlying22 info5 rfl .i64 .i64 n (by omega) (by omega) w
theorem zb_bytes (n : Nat) (w : World) : BsAt (w.alloc (.cells (zb n) 5)) w.heap.size 0 (List.replicate n 0) := by
  refine ⟨fun j u hu => ?_⟩
  have e : bytesOf (List.replicate n 0) = (zb n).toList := by rw [zb, toList_madeCells_one]; simp [bytesOf]
  rw [e] at hu
  have a1 : (⟨w.heap.size, 0, none⟩ : Addr).add j = ⟨w.heap.size, j, none⟩ := by unfold Addr.add; split <;> simp_all
  rw [a1]
  have := heap_alloc_new w (.cells (zb n) 5)
  simp only [World.cell?, this]
  simpa using hu
end Go.Proofs.YtkoplojnfijllaaDoor.chunk
