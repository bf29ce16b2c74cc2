/- 'ChunkPlays': what the guards leave out; the law's list of pieces as it comes in. -/
import Derived.Test.YtkoplojnfijllaaDoorOz
import Derived.Test.YtkoplojnfijllaaDoorOp
import Derived.Outline
import Derived.Deep.Slices
import Derived.Deep.Fields
import Derived.ChangeSame
namespace Go.Proofs.YtkoplojnfijllaaDoor.chunk
open Go.ChangeShapes Go.WideShapes Go.ChangeAt Go.RowKit Go.Deep
set_option maxRecDepth 100000

theorem playsLong (ad : Option Addr) (n bc : Nat) (l : Value) (r : Bool) (w : World) (hT : Tab w) (h0 : 0 < w.heap.size) (hn : 2500 < n) :
    Calls Tryd.prog 3 #[.slice ad n bc, l, .bool r] w fun e w' => e = .returned (.bool true) ∧ Below w.heap.size w w' := by
  have HT := Lib.hid (told_any w hT h0)
  have h1 : 2500 < (n : Int) := by omega
  clear hT
  go_enter Tryd.func3, Tryd.ntmps3
  go_wp2_with fail
  refine HT.out.mono ?_; rintro e w' ⟨rfl, hb⟩
  have HB := Lib.hid hb
  clear hb
  go_wp2_with fail
  go_ret
  exact ⟨rfl, HB.out⟩
theorem playsMany (ad lad : Option Addr) (n bc ln lc : Nat) (r : Bool) (w : World) (hT : Tab w) (h0 : 0 < w.heap.size) (hn : n ≤ 2500)
    (hfew : Calls Tryd.prog 7 #[.slice lad ln lc] w fun e w' => e = .returned (.bool false) ∧ w = w') :
    Calls Tryd.prog 3 #[.slice ad n bc, .slice lad ln lc, .bool r] w fun e w' => e = .returned (.bool true) ∧ Below w.heap.size w w' := by
  have HT := Lib.hid (told_any w hT h0)
  have HF := Lib.hid hfew
  have h1 : ¬ 2500 < (n : Int) := by omega
  clear hT hfew
  go_enter Tryd.func3, Tryd.ntmps3
  go_wp2_with fail
  refine HF.out.mono ?_; rintro e w' ⟨rfl, rfl⟩
  go_wp2_with fail
  refine HT.out.mono ?_; rintro e w' ⟨rfl, hb⟩
  have HB := Lib.hid hb
  clear hb
  go_wp2_with fail
  go_ret
  exact ⟨rfl, HB.out⟩
theorem conv_empty (ad : Option Addr) (c : Nat) (W : World) : (convert 22 9 (.slice ad 0 c)).run Tryd.prog W = .ok (.string ⟨#[]⟩) W := by
  cases ad with
  | none => rw [run_convert_bytes_string W 22 9 5 none 0 c Tryd.underlying22 Tryd.underlying5 Tryd.underlying9]; rfl
  | some a => exact run_convert_bytes_back (P := Tryd.prog) W 22 9 5 a c [] Tryd.underlying22 Tryd.underlying5 Tryd.underlying9 (fun j hj => by cases hj)
theorem playsEmpty (ad lad : Option Addr) (bc ln lc : Nat) (r : Bool) (w : World) (hT : Tab w) (h0 : 0 < w.heap.size)
    (hfew : Calls Tryd.prog 7 #[.slice lad ln lc] w fun e w' => e = .returned (.bool true) ∧ w = w') :
    Calls Tryd.prog 3 #[.slice ad 0 bc, .slice lad ln lc, .bool r] w fun e w' => e = .returned (.bool true) ∧ Below w.heap.size w w' := by
  have HT := Lib.hid (told_any w hT h0)
  have HF := Lib.hid hfew
  clear hT hfew
  go_enter Tryd.func3, Tryd.ntmps3
  go_wp2_with fail
  refine HF.out.mono ?_; rintro e w' ⟨rfl, rfl⟩
  go_wp2_with fail
  refine (split_none ad 0 bc w (Or.inl rfl) (by omega)).mono ?_; rintro e w' ⟨rfl, rfl⟩
  have hc := conv_empty ad bc w
  go_wp2_with fail
  refine (rsplit_none w).mono ?_; rintro e w' ⟨rfl, rfl⟩
  clear hc
  go_wp2_with fail
  refine HT.out.mono ?_; rintro e w' ⟨rfl, hb⟩
  have HB := Lib.hid hb
  clear hb
  go_wp2_with fail
  go_ret
  exact ⟨rfl, HB.out⟩

theorem cells40 : Tryd.prog.cellsOf 40 = 3 := by kernel_rfl
/-- The law's list of pieces, as it comes in. -/
theorem open_ops {H : Type} {enc : TypeId × Value → H} {W : World} {a0 : Option Addr} {len cap : Nat} {d : DataW H} {ps : List MemPlace} (h : DataW.Trod enc Tryd.prog W 0 (fun _ => true) true 23 (.slice a0 len cap) d ps) :
    len ≤ maxLen ∧ (0 < len → ∃ b o, a0 = some ⟨b, o, none⟩ ∧ b < W.heap.size ∧ OpsAt W b o len) := by
  obtain ⟨fuel, hf⟩ := h
  rcases open_slice Tryd.underlying23 hf with ⟨hcs, hx⟩ | ⟨a, len', cap', m, n, D, Pl, hcs, _, hl, hm, hmm, hx, hel⟩
  · simp [Value.cells] at hcs
    obtain ⟨rfl, rfl, rfl⟩ := hcs
    exact ⟨Nat.zero_le _, fun h => absurd h (by omega)⟩
  · simp [Value.cells] at hcs
    obtain ⟨rfl, rfl, rfl⟩ := hcs
    simp only [if_true] at hmm
    refine ⟨by omega, fun h0 => ?_⟩
    rw [cells40] at hel
    have hone : ∀ i, i < len → ∃ r m ad c l, W.cell? (a.add (i * 3)) = some (.bool r) ∧ W.cell? (a.add (i * 3 + 1)) = some (.int .i64 m) ∧ W.cell? (a.add (i * 3 + 2)) = some (.slice ad l.length c) ∧ (l = [] ∨ ∃ bb bo, ad = some ⟨bb, bo, none⟩ ∧ BsAt W bb bo l) := by
      intro i hi
      obtain ⟨cs', hc, ht⟩ := hel i (by omega)
      obtain ⟨xs, n', _, _, hlen, hxl, hfs⟩ := DataW.trod_struct Tryd.underlying40 ht
      rw [cells40] at hlen
      obtain ⟨_, _, hat⟩ := World.cells?_some hc
      match cs', hlen with
      | [c0, c1, c2], _ =>
        have e0 := hfs 0 _ rfl
        have e1 := hfs 1 _ rfl
        have e2 := hfs 2 _ rfl
        have g0 : W.cell? (a.add (i * 3)) = some c0 := by have := hat 0 (by omega); rw [add_add] at this; simpa using this
        have g1 : W.cell? (a.add (i * 3 + 1)) = some c1 := by have := hat 1 (by omega); rw [add_add] at this; simpa using this
        have g2 : W.cell? (a.add (i * 3 + 2)) = some c2 := by have := hat 2 (by omega); rw [add_add] at this; simpa using this
        rw [g0, g1, g2]
        have hx0 : xs[0]? = some (xs[0]'(by rw [hxl]; decide)) := List.getElem?_eq_getElem _
        have hx1 : xs[1]? = some (xs[1]'(by rw [hxl]; decide)) := List.getElem?_eq_getElem _
        have hx2 : xs[2]? = some (xs[2]'(by rw [hxl]; decide)) := List.getElem?_eq_getElem _
        rw [hx0] at e0
        rw [hx1] at e1
        rw [hx2] at e2
        have f0 : DataW.trod enc Tryd.prog W 0 (fun _ => true) true n' 4 [c0] = some _ := e0
        have f1 : DataW.trod enc Tryd.prog W 0 (fun _ => true) true n' 3 [c1] = some _ := e1
        have f2 : DataW.trod enc Tryd.prog W 0 (fun _ => true) true n' 22 [c2] = some _ := e2
        obtain ⟨r, hr, _⟩ := DataW.trod_bool Tryd.underlying4 f0
        obtain ⟨m, hm', _⟩ := DataW.trod_int Tryd.underlying3 f1
        have hr' : c0 = .bool r := by simpa using hr
        have hm2 : c1 = .int .i64 m := by simpa using hm'
        subst hr' hm2
        rcases open_ints Tryd.underlying22 Tryd.underlying5 cells5 f2 with ⟨hcs, _⟩ | ⟨a', len', cap', zs, hcs, _⟩
        · have : c2 = .slice none 0 0 := by simpa using hcs
          subst this
          exact ⟨r, m, none, 0, [], rfl, rfl, rfl, .inl rfl⟩
        · have : c2 = .slice (some a') len' cap' := by simpa using hcs
          subst this
          obtain ⟨_, hb⟩ := open_bytes ⟨n', f2⟩
          by_cases h0' : 0 < len'
          · obtain ⟨bb, bo, l, ha, hl', hbs⟩ := hb h0'
            exact ⟨r, m, some a', cap', l, rfl, rfl, by rw [hl'], .inr ⟨bb, bo, ha, hbs⟩⟩
          · obtain rfl : len' = 0 := by omega
            exact ⟨r, m, some a', cap', [], rfl, rfl, rfl, .inl rfl⟩
    obtain ⟨b, o, spot⟩ := a
    obtain ⟨r0, m0, ad0, c0, l0, h00, _⟩ := hone 0 (by omega)
    have hspot : spot = none := by simpa [Addr.add] using World.cell?_spot h00
    subst hspot
    have a1 : ∀ i, (⟨b, o, none⟩ : Addr).add i = ⟨b, o + i, none⟩ := fun i => by unfold Addr.add; split <;> simp_all
    refine ⟨b, o, rfl, ?_, fun i hi => ?_⟩
    · have := World.block_lt_of_cell? W _ h00
      rw [a1] at this; exact this
    · obtain ⟨r, m, ad, c, l, h1, h2, h3, h4⟩ := hone i hi
      rw [a1] at h1 h2 h3
      exact ⟨r, m, ad, c, l, h1, by rw [Nat.add_assoc]; exact h2, by rw [Nat.add_assoc]; exact h3, h4⟩
end Go.Proofs.YtkoplojnfijllaaDoor.chunk
