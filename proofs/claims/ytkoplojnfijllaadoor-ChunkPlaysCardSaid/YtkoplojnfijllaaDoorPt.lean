/- (*chunk.Gather).Put: its contract, for the laws of layer 18. -/
import Derived.Test.YtkoplojnfijllaaDoorNw
import Derived.Deep.RegionWith
import Derived.Deep.RegionHeld3
import Derived.WalkSpells
import Derived.Deep.DrawnRows
import Derived.Outline
namespace Go.Proofs.YtkoplojnfijllaaDoor.chunk
open Go.ChangeShapes Go.WideShapes Go.ChangeAt Go.RowKit

/-- Of the old blocks only those of S may have turned. -/
structure Fr (S : Nat → Prop) (w w' : World) : Prop where
  os : w'.os = w.os
  tape : w'.tape = w.tape
  output : w'.output = w.output
  size : w.heap.size ≤ w'.heap.size
  block : ∀ k, k < w.heap.size → ¬ S k → w'.heap[k]? = w.heap[k]?
theorem Fr.of_below {S : Nat → Prop} {w w' : World} (h : Below w.heap.size w w') : Fr S w w' := ⟨h.os, h.tape, h.output, h.size, fun k hk _ => h.block k hk⟩
theorem Fr.refl (S : Nat → Prop) (w : World) : Fr S w w := ⟨rfl, rfl, rfl, Nat.le_refl _, fun _ _ _ => rfl⟩
theorem Fr.trans {S : Nat → Prop} {a b c : World} (h : Fr S a b) (k : Fr S b c) : Fr S a c :=
  ⟨k.os.trans h.os, k.tape.trans h.tape, k.output.trans h.output, Nat.le_trans h.size k.size, fun j hj hs => (k.block j (Nat.lt_of_lt_of_le hj h.size) hs).trans (h.block j hj hs)⟩
theorem size_setCell (w : World) (a : Addr) (v : Value) : (w.setCell a v).heap.size = w.heap.size := by simp
theorem Fr.setCell {S : Nat → Prop} {a w : World} (h : Fr S a w) {p : Addr} (hp : S p.block) (u : Value) : Fr S a (w.setCell p u) :=
  ⟨h.os, h.tape, h.output, by rw [size_setCell]; exact h.size, fun k hk hs => (Below.heap_setCell w p u k (fun e => hs (e ▸ hp))).trans (h.block k hk hs)⟩
theorem Fr.drew {S : Nat → Prop} {a w : World} (h : Fr S a w) : Fr S a w.drew := ⟨h.os, h.tape, h.output, h.size, h.block⟩
theorem Fr.below {S : Nat → Prop} {B : Nat} {w w' : World} (h : Fr S w w') (hB : B ≤ w.heap.size) (hS : ∀ k, S k → B ≤ k) : Below B w w' :=
  ⟨h.os, h.tape, h.output, h.size, fun k hk => h.block k (Nat.lt_of_lt_of_le hk hB) (fun hs => by have := hS k hs; omega)⟩

theorem heap_setCell_at {w : World} {b o : Nat} {c : Array Value} {t : TypeId} (h : w.heap[b]? = some (.cells c t (0, 0))) (u : Value) :
    (w.setCell ⟨b, o, none⟩ u).heap[b]? = some (.cells (c.setIfInBounds o u) t (0, 0)) := by
  unfold World.setCell
  simp only [Array.getElem?_modify]
  simp [h]
theorem Lies.below {B : Nat} {w w' : World} {G C A : Nat} {s : Ga} (h : Lies w G C A s) (hb : Below B w w') (g : G < B) (c : C < B) (a : A < B) : Lies w' G C A s :=
  ⟨(hb.block G g).trans h.head, (hb.block C c).trans h.words, (hb.block A a).trans h.pieces, h.gc, h.ga, h.ca⟩
theorem Lies.lt {w : World} {G C A : Nat} {s : Ga} (h : Lies w G C A s) : G < w.heap.size ∧ C < w.heap.size ∧ A < w.heap.size :=
  ⟨(Array.getElem?_eq_some_iff.1 h.head).1, (Array.getElem?_eq_some_iff.1 h.words).1, (Array.getElem?_eq_some_iff.1 h.pieces).1⟩

def Ga.put (s : Ga) (k : Nat) (v : Value) : Ga := { s with xs := s.xs.set (k / 64) (s.word (k / 64) ||| 2 ^ (k % 64)), ps := s.ps.set k v, n := s.n + 1 }
def PutYes (G C A : Nat) (s : Ga) (k : Nat) (l : List UInt8) (w : World) (e : Ending) (w' : World) : Prop :=
  ∃ g cap, e = .returned (.bool true) ∧ w.heap.size ≤ g ∧ Lies w' G C A (s.put k (.slice (some ⟨g, 0, none⟩) l.length cap)) ∧ w'.ownsRow w.heap.size 5 1 (.slice (some ⟨g, 0, none⟩) l.length cap) l.length (bytesOf l) ∧ Fr (fun j => j = G ∨ j = C ∨ j = A) w w'

theorem or_word (x j : Nat) (hx : x < 18446744073709551616) (hj : j < 64) : bits BinOp.or IntKind.u64 (x : Int) (IntKind.u64.wrap (2 ^ j)) = ((x ||| 2 ^ j : Nat) : Int) := by
  have h2 : 2 ^ j < 2 ^ 64 := Nat.pow_lt_pow_of_lt (by decide) hj
  have e : ((2 : Int) ^ j) = ((2 ^ j : Nat) : Int) := by simp
  rw [e]
  generalize 2 ^ j = p at *
  rw [IntWalk.u64_in _ (by omega), u64_or_nat x _ hx (by omega)]

theorem BsAt.fr {S : Nat → Prop} {w w' : World} {b o : Nat} {l : List UInt8} (h : BsAt w b o l) (hf : Fr S w w') (hS : ¬ S b) : BsAt w' b o l :=
  ⟨fun j u hu => by
    have h1 := h.cell j u hu
    have h2 : ((⟨b, o, none⟩ : Addr).add j).block = b := by unfold Addr.add; split <;> rfl
    have h3 := World.block_lt_of_cell? w _ h1
    rw [h2] at h3
    exact (World.cell?_of_block (w := w) (a := (⟨b, o, none⟩ : Addr).add j) (by rw [h2]; exact hf.block b h3 hS)).trans h1⟩

def orWord (s : Ga) (k : Nat) : Nat := s.word (k / 64) ||| 2 ^ (k % 64)
/-- The Gather behind the first store. -/
def Ga.bit (s : Ga) (k : Nat) : Ga := { s with xs := s.xs.set (k / 64) (orWord s k) }
theorem set_map (xs : List Nat) (i x : Nat) : ((xs.map (fun x : Nat => Value.int .u64 (x : Int))).toArray).setIfInBounds i (.int .u64 (x : Int)) = ((xs.set i x).map (fun x : Nat => Value.int .u64 (x : Int))).toArray := by
  apply Array.ext'; simp [List.map_set]
theorem Lies.bit {w : World} {G C A : Nat} {s : Ga} (h : Lies w G C A s) (k : Nat) : Lies (w.setCell ⟨C, k / 64, none⟩ (.int .u64 (orWord s k : Nat))) G C A (s.bit k) :=
  ⟨by rw [Below.heap_setCell _ _ _ _ h.gc, h.head]; simp [Ga.bit], by rw [heap_setCell_at h.words, set_map]; rfl, by rw [Below.heap_setCell _ _ _ _ (Ne.symm h.ca)]; exact h.pieces, h.gc, h.ga, h.ca⟩
theorem Lies.piece {w : World} {G C A : Nat} {s : Ga} (h : Lies w G C A s) (k : Nat) (v : Value) : Lies (w.setCell ⟨A, k, none⟩ v) G C A { s with ps := s.ps.set k v } :=
  ⟨by rw [Below.heap_setCell _ _ _ _ h.ga]; exact h.head, by rw [Below.heap_setCell _ _ _ _ h.ca]; exact h.words, by rw [heap_setCell_at h.pieces]; simp, h.gc, h.ga, h.ca⟩
theorem Lies.count {w : World} {G C A : Nat} {s : Ga} (h : Lies w G C A s) (n : Nat) : Lies (w.setCell ⟨G, 4, none⟩ (.int .i64 n)) G C A { s with n := n } :=
  ⟨by rw [heap_setCell_at h.head]; rfl, by rw [Below.heap_setCell _ _ _ _ (Ne.symm h.gc)]; exact h.words, by rw [Below.heap_setCell _ _ _ _ (Ne.symm h.ga)]; exact h.pieces, h.gc, h.ga, h.ca⟩
theorem Lies.hole {w : World} {G C A : Nat} {s : Ga} (h : Lies w G C A s) (hs : s.ps.length = s.of) (k : Nat) (hk : k < s.of) : w.cell? ⟨A, k, none⟩ = some (s.ps[k]'(by omega)) := by
  simp [World.cell?, h.pieces, List.getElem?_eq_getElem (show k < s.ps.length by omega)]

theorem cell_other (w : World) (p q : Addr) (v : Value) (h : q.block ≠ p.block) : (w.setCell p v).cell? q = w.cell? q :=
  World.cell?_of_block (w := w) (Below.heap_setCell w p v q.block h)
theorem ownsRow_set {w : World} {base e size n : Nat} {v : Value} {xs : List Value} (h : w.ownsRow base e size v n xs) (p : Addr) (u : Value) (hv : v.ownBlock ≠ some p.block) : (w.setCell p u).ownsRow base e size v n xs :=
  h.kept (row := some p.block) ⟨rfl, rfl, rfl, by rw [size_setCell]; exact Nat.le_refl _, fun k _ hne => Below.heap_setCell w p u k (fun e => hne (by rw [e]))⟩ (.inr hv)
theorem ownsRow_base {w : World} {base base' e size n : Nat} {v : Value} {xs : List Value} (h : w.ownsRow base e size v n xs) (hb : base' ≤ base) : w.ownsRow base' e size v n xs :=
  ⟨h.1, h.2.imp id fun ⟨g, cap, cur, hv, hg, r⟩ => ⟨g, cap, cur, hv, Nat.le_trans hb hg, r⟩⟩
theorem Lies.hidden {w w' : World} {G C A : Nat} {s : Ga} (h : Lies w G C A s) (hb : Below w.heap.size w w') (k : Nat) : w'.frozen? ⟨A, k, none⟩ = false := by
  simp [World.frozen?, (hb.block A h.lt.2.2).trans h.pieces]
set_option maxHeartbeats 1000000 in
theorem put_in (G C A : Nat) (s : Ga) (w : World) (hL : Lies w G C A s) (hs : s.ok) (k : Nat) (hk : k < s.of) (hn : s.has k = false) (hn2 : s.n < s.of)
    (b o c : Nat) (l : List UInt8) (hb : BsAt w b o l) (hbS : ¬ (b = G ∨ b = C ∨ b = A)) (h1 : 1 ≤ l.length) (h64 : l.length ≤ 64) (hlast : k < s.of - 1 → 64 ≤ l.length) :
    Calls Tryd.prog 14 #[.pointer (some ⟨G, 0, none⟩), .int .i64 k, .slice (some ⟨b, o, none⟩) l.length c] w (PutYes G C A s k l w) := by
  have h0 := hL.c0
  have h2 := hL.c2
  have ho := hs.of2
  have hlen := hs.len
  have hi : k / 64 < s.xs.length := by omega
  have hw := hL.word (k / 64) hi
  have hx := hs.word (k / 64)
  have hof1 := hs.of1
  have f1 : w.frozen? ⟨C, k / 64, none⟩ = false := by simp [World.frozen?, hL.words]
  have hor := or_word (s.word (k / 64)) (k % 64) hx (by omega)
  have Hor := Lib.hid hor
  have hh := has_in G C A s w hL hs k hk
  rw [hn] at hh
  have HH := Lib.hid hh
  have L1 := hL.bit k
  have F1 : Fr (fun j => j = G ∨ j = C ∨ j = A) w (w.setCell ⟨C, k / 64, none⟩ (.int .u64 (orWord s k : Nat))) := (Fr.refl _ w).setCell (p := ⟨C, k / 64, none⟩) (Or.inr (Or.inl rfl)) _
  have B1 := hb.fr F1 hbS
  have HF := Lib.hid F1
  have HB := Lib.hid B1
  have HL := Lib.hid L1
  clear hh F1 B1 L1 hb hbS hL hor
  have hq : ((k : Int) < (s.of : Int) - 1 ∧ 64 ≤ (l.length : Int)) ∨ ¬ (k : Int) < (s.of : Int) - 1 := by
    by_cases h : k < s.of - 1
    · exact .inl ⟨by omega, by have := hlast h; omega⟩
    · exact .inr (by omega)
  have hlen : l.length ≤ 1000000 := by omega
  clear hlast
  rcases hq with ⟨hk1, hl⟩ | hk1
  all_goals
    go_enter Tryd.func14, Tryd.ntmps14
    go_wp2_with (go_at_call 24; refine HH.out.mono ?_; rintro e w' ⟨rfl, rfl⟩)
    rw [Hor.out]
    change Code.wp _ _ _ _ (w.setCell ⟨C, k / 64, none⟩ (.int .u64 (orWord s k : Nat)))
    generalize w.setCell ⟨C, k / 64, none⟩ (.int .u64 (orWord s k : Nat)) = W1 at *
    have g3 := HL.out.c3
    have gh := HL.out.hole hs.lenp k hk
    have hd : Hid (BsAt W1.drew b o l) := ⟨HB.out.cell⟩
    have hL2 : Hid (Lies W1.drew G C A (s.bit k)) := ⟨HL.out.head, HL.out.words, HL.out.pieces, HL.out.gc, HL.out.ga, HL.out.ca⟩
    have hga := HL.out.ga
    go_region_held3 (fun w' => w'.cell? ⟨G, 3, none⟩ = some (.slice (some ⟨A, 0, none⟩) s.of s.of)) (first | exact g3 | exact cell_later hbel g3 | exact (cell_other _ ⟨A, k, none⟩ ⟨G, 3, none⟩ _ hga).trans (cell_later hbel g3) | go_keep) (first | (go_at_call 23; refine (clone_any b o c l _ hd.out hlen).mono ?_; rintro e w2 ⟨g, cap, rfl, hown, hbel⟩; have gh2 := cell_later hbel gh; have gf2 := (Lies.hidden hL2.out hbel k)))
    have L3 := ((hL2.out.below hbel hL2.out.lt.1 hL2.out.lt.2.1 hL2.out.lt.2.2).piece k (.slice (some ⟨g, 0, none⟩) l.length cap))
    have hg := (hown.lt g rfl)
    have hgA : g ≠ A := fun e => by have := hL2.out.lt.2.2; omega
    have hgG : g ≠ G := fun e => by have := hL2.out.lt.1; omega
    have O3 : (w2.setCell ⟨A, k, none⟩ (.slice (some ⟨g, 0, none⟩) l.length cap)).ownsRow w.heap.size 5 1 (.slice (some ⟨g, 0, none⟩) l.length cap) l.length (bytesOf l) := ownsRow_set (ownsRow_base hown (by have := HF.out.size; exact this)) _ _ (fun e => hgA (by cases e; rfl))
    have F3 : Fr (fun j => j = G ∨ j = C ∨ j = A) w (w2.setCell ⟨A, k, none⟩ (.slice (some ⟨g, 0, none⟩) l.length cap)) := (HF.out.trans ((Fr.drew (Fr.refl _ _)).trans (Fr.of_below hbel))).setCell (p := ⟨A, k, none⟩) (Or.inr (Or.inr rfl)) _
    have hbase : w.heap.size ≤ g := by have := HF.out.size; have h : W1.heap.size ≤ g := hg.1; omega
    generalize w2.setCell ⟨A, k, none⟩ (.slice (some ⟨g, 0, none⟩) l.length cap) = W3 at *
    have c4 := L3.c4
    have f4 : W3.frozen? ⟨G, 4, none⟩ = false := by simp [World.frozen?, L3.head]
    have HL3 := Lib.hid L3
    have HO3 := Lib.hid O3
    have HF3 := Lib.hid F3
    clear L3 O3 F3 hown hbel gh2 gf2 g3 gh
    change W3.cell? ⟨G, 4, none⟩ = some (.int .i64 s.n) at c4
    go_wp2_with fail
    go_ret
    exact ⟨g, cap, rfl, hbase, HL3.out.count (s.n + 1), ownsRow_set HO3.out _ _ (fun e => hgG (by cases e; rfl)), HF3.out.setCell (p := ⟨G, 4, none⟩) (Or.inl rfl) _⟩
end Go.Proofs.YtkoplojnfijllaaDoor.chunk
