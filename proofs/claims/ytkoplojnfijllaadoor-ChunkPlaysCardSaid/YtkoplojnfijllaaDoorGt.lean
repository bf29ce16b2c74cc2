/- (*chunk.Gather).Got: its contract, for the laws of layer 18. -/
import Derived.Test.YtkoplojnfijllaaDoorPn
import Derived.Outline
namespace Go.Proofs.YtkoplojnfijllaaDoor.chunk
open Go.ChangeShapes Go.WideShapes Go.ChangeAt Go.RowKit

/-- The bits of those beyond n, as far as the i-th. -/
def seenTo (s : Ga) (n : Nat) : Nat → Nat
  | 0 => 0
  | i + 1 => if s.has (n + 1 + i) then seenTo s n i ||| 2 ^ i else seenTo s n i
theorem seenTo_lt (s : Ga) (n : Nat) : ∀ i, seenTo s n i < 2 ^ i
  | 0 => by simp [seenTo]
  | i + 1 => by
    have h := seenTo_lt s n i
    have hp : 2 ^ i < 2 ^ (i + 1) := Nat.pow_lt_pow_of_lt (by decide) (by omega)
    unfold seenTo
    split
    · exact Nat.or_lt_two_pow (by omega) hp
    · omega
theorem Lies.fr {S : Nat → Prop} {w w' : World} {G C A : Nat} {s : Ga} (h : Lies w G C A s) (hf : Fr S w w') (g : ¬ S G) (c : ¬ S C) (a : ¬ S A) : Lies w' G C A s :=
  ⟨(hf.block G h.lt.1 g).trans h.head, (hf.block C h.lt.2.1 c).trans h.words, (hf.block A h.lt.2.2 a).trans h.pieces, h.gc, h.ga, h.ca⟩

/-- The cells of Got's own: the receiver, n, seen. -/
structure Own3 (W : World) (B G : Nat) (n : Nat) (x : Nat) : Prop where
  g : W.heap[B]? = some (.cells #[.pointer (some ⟨G, 0, none⟩)] 34 (0, 0))
  n : W.heap[B + 1]? = some (.cells #[.int .i64 n] 3 (0, 0))
  x : W.heap[B + 1 + 1]? = some (.cells #[.int .u32 x] 43 (0, 0))
theorem Own3.cg {W : World} {B G n x : Nat} (h : Own3 W B G n x) : W.cell? ⟨B, 0, none⟩ = some (.pointer (some ⟨G, 0, none⟩)) := by simp [World.cell?, h.g]
theorem Own3.cn {W : World} {B G n x : Nat} (h : Own3 W B G n x) : W.cell? ⟨B + 1, 0, none⟩ = some (.int .i64 n) := by simp [World.cell?, h.n]
theorem Own3.cx {W : World} {B G n x : Nat} (h : Own3 W B G n x) : W.cell? ⟨B + 1 + 1, 0, none⟩ = some (.int .u32 x) := by simp [World.cell?, h.x]
theorem Own3.fx {W : World} {B G n x : Nat} (h : Own3 W B G n x) : W.frozen? ⟨B + 1 + 1, 0, none⟩ = false := by simp [World.frozen?, h.x]
theorem Own3.set {W : World} {B G n x : Nat} (h : Own3 W B G n x) (y : Nat) : Own3 (W.setCell ⟨B + 1 + 1, 0, none⟩ (.int .u32 y)) B G n y :=
  ⟨by rw [Below.heap_setCell _ _ _ _ (by simp; omega)]; exact h.g, by rw [Below.heap_setCell _ _ _ _ (by simp)]; exact h.n, by rw [heap_setCell_at h.x]; rfl⟩

theorem own3_start (w : World) (G N : Nat) : Own3 (((w.alloc (.cells #[.pointer (some ⟨G, 0, none⟩)] 34)).alloc (.cells #[.int .i64 (N : Nat)] 3)).alloc (.cells #[.int .u32 0] 43)) w.heap.size G N 0 := by
  obtain ⟨a, b, c⟩ := alloc3 w (.cells #[.pointer (some ⟨G, 0, none⟩)] 34) (.cells #[.int .i64 (N : Nat)] 3) (.cells #[.int .u32 0] 43)
  exact ⟨a, b, c⟩
theorem or_u32 (x i : Nat) (hx : x < 2 ^ i) (hi : i < 32) : bits BinOp.or IntKind.u32 (x : Int) (2 ^ i % 4294967296) = ((x ||| 2 ^ i : Nat) : Int) := by
  have h2 : 2 ^ i < 2 ^ 32 := Nat.pow_lt_pow_of_lt (by decide) hi
  have e : ((2 : Int) ^ i) = ((2 ^ i : Nat) : Int) := by simp
  rw [e]
  generalize 2 ^ i = p at *
  rw [Int.emod_eq_of_lt (by omega) (by omega), u32_or_nat x _ (by omega) (by omega)]

def Noted (G C A B n i : Nat) (s : Ga) (W : World) (e : Ending) (W' : World) : Prop :=
  (∃ v, e = .returned v) ∧ Own3 W' B G n (seenTo s n (i + 1)) ∧ Lies W' G C A s ∧ Fr (fun j => j = B + 1 + 1) W W'

set_option maxHeartbeats 1000000 in
theorem note_any (G C A B n i : Nat) (s : Ga) (W : World) (hL : Lies W G C A s) (hs : s.ok) (hi : i < 32) (hn : n ≤ 65535) (hO : Own3 W B G n (seenTo s n i)) (hG : G < B) (hC : C < B) (hA : A < B) :
    Calls Tryd.prog 26 #[.int .i64 i, .pointer (some ⟨B, 0, none⟩), .pointer (some ⟨B + 1, 0, none⟩), .pointer (some ⟨B + 1 + 1, 0, none⟩)] W (Noted G C A B n i s W) := by
  have h1 := hO.cg
  have h2 := hO.cn
  have h3 := hO.cx
  have f3 := hO.fx
  have hh := has_any G C A s W hL hs ((n : Int) + 1 + i)
  rw [show (decide (0 ≤ (n : Int) + 1 + i) && s.has ((n : Int) + 1 + i).toNat) = s.has (n + 1 + i) by rw [decide_eq_true (by omega), Bool.true_and]; congr 1] at hh
  have HH := Lib.hid hh
  have HL := Lib.hid hL
  have HO := Lib.hid hO
  have hlt := seenTo_lt s n i
  have Hor := Lib.hid (or_u32 (seenTo s n i) i hlt hi)
  have hi64 : i ≤ 64 := by omega
  clear hh hL hO hlt
  cases hb : s.has (n + 1 + i) with
  | true =>
    rw [hb] at HH
    go_enter Tryd.func26, Tryd.ntmps26
    go_wp2_with (go_at_call 24; refine HH.out.mono ?_; rintro e w' ⟨rfl, rfl⟩)
    rw [Hor.out]
    go_end0
    have hF : Fr (fun j => j = B + 1 + 1) W (W.setCell ⟨B + 1 + 1, 0, none⟩ (.int .u32 (seenTo s n i ||| 2 ^ i : Nat))) := (Fr.refl (fun j => j = B + 1 + 1) W).setCell (p := ⟨B + 1 + 1, 0, none⟩) rfl _
    have e : seenTo s n (i + 1) = seenTo s n i ||| 2 ^ i := by rw [seenTo, hb, if_pos rfl]
    refine ⟨⟨_, rfl⟩, ?_, HL.out.fr hF (by omega) (by omega) (by omega), hF⟩
    rw [e]
    exact HO.out.set _
  | false =>
    rw [hb] at HH
    go_enter Tryd.func26, Tryd.ntmps26
    go_wp2_with (go_at_call 24; refine HH.out.mono ?_; rintro e w' ⟨rfl, rfl⟩)
    go_end0
    have e : seenTo s n (i + 1) = seenTo s n i := by rw [seenTo, hb]; rfl
    refine ⟨⟨_, rfl⟩, ?_, HL.out, Fr.refl _ W⟩
    rw [e]
    exact HO.out

/-! ### the first word that is not full -/
theorem ctz_lt (x : Nat) (h0 : x ≠ 0) (h : x < 18446744073709551616) : Lib.ctz 64 x < 64 := (Lib.lowest_bit 64 x h0 h).2
/-- ctz is the first bit that is set. -/
theorem ctzFrom_bit : ∀ (f x : Nat), 0 < x → x < 2 ^ f → x.testBit (Lib.ctzFrom f x) = true ∧ ∀ j, j < Lib.ctzFrom f x → x.testBit j = false
  | 0, x, h0, h => by simp at h; omega
  | f + 1, x, h0, h => by
    unfold Lib.ctzFrom
    split
    · rename_i h1
      exact ⟨by rw [Nat.testBit_zero]; simp [h1], fun j hj => by omega⟩
    · rename_i h1
      have hx : x / 2 < 2 ^ f := by rw [Nat.pow_succ] at h; omega
      obtain ⟨a, b⟩ := ctzFrom_bit f (x / 2) (by omega) hx
      refine ⟨by rw [Nat.add_comm 1, Nat.testBit_succ]; exact a, fun j hj => ?_⟩
      cases j with
      | zero => rw [Nat.testBit_zero]; simp; omega
      | succ j => rw [Nat.testBit_succ]; exact b j (by omega)
theorem ctz_bit (x : Nat) (h0 : x ≠ 0) (h : x < 18446744073709551616) : x.testBit (Lib.ctz 64 x) = true ∧ ∀ j, j < Lib.ctz 64 x → x.testBit j = false := by
  unfold Lib.ctz; rw [if_neg h0]; exact ctzFrom_bit 64 x (by omega) (by omega)
/-- of a word's complement -/
theorem not_bit (x j : Nat) (h : x < 18446744073709551616) (hj : j < 64) : (18446744073709551615 - x).testBit j = !x.testBit j := by
  have e : 18446744073709551615 - x = 2 ^ 64 - (x + 1) := by omega
  rw [e, Nat.testBit_two_pow_sub_succ (by omega), decide_eq_true hj, Bool.true_and]
theorem full_bit (j : Nat) (hj : j < 64) : (18446744073709551615 : Nat).testBit j = true := by
  have := not_bit 0 j (by omega) hj
  simpa using this

/-- The number of those that came from the first one on. -/
structure Front (s : Ga) (n : Nat) : Prop where
  all : ∀ j, j < n → s.has j = true
  none : s.has n = false
theorem Front.le {s : Ga} {n : Nat} (h : Front s n) : n ≤ s.of := by
  rcases Nat.lt_or_ge s.of n with hl | hl
  · have := h.all s.of hl
    unfold Ga.has at this
    rw [decide_eq_false (by omega)] at this
    cases this
  · exact hl
theorem Front.uniq {s : Ga} {n m : Nat} (h : Front s n) (k : Front s m) : n = m := by
  rcases Nat.lt_trichotomy n m with hl | hl | hl
  · have := k.all n hl; rw [h.none] at this; cases this
  · exact hl
  · have := h.all m hl; rw [k.none] at this; cases this

/-- The words hold no bit beyond the pieces. -/
def Ga.tidy (s : Ga) : Prop := ∀ k, s.of ≤ k → (s.word (k / 64)).testBit (k % 64) = false
theorem has_word (s : Ga) (ht : s.tidy) (k : Nat) : s.has k = (s.word (k / 64)).testBit (k % 64) := by
  unfold Ga.has
  by_cases h : k < s.of
  · rw [decide_eq_true h, Bool.true_and]
  · rw [decide_eq_false h, ht k (by omega)]; rfl
theorem front_full (s : Ga) (ht : s.tidy) (i : Nat) (h : ∀ j, j < 64 * i → s.has j = true) (hw : s.word i = 18446744073709551615) : ∀ j, j < 64 * (i + 1) → s.has j = true := by
  intro j hj
  by_cases h1 : j < 64 * i
  · exact h j h1
  · rw [has_word s ht, show j / 64 = i by omega, hw]; exact full_bit _ (by omega)
theorem front_stop (s : Ga) (ht : s.tidy) (hs : s.ok) (i : Nat) (h : ∀ j, j < 64 * i → s.has j = true) (hw : s.word i ≠ 18446744073709551615) : Front s (64 * i + Lib.ctz 64 (18446744073709551615 - s.word i)) := by
  have hx := hs.word i
  have hc := ctz_bit (18446744073709551615 - s.word i) (by omega) (by omega)
  have hl := ctz_lt (18446744073709551615 - s.word i) (by omega) (by omega)
  generalize Lib.ctz 64 (18446744073709551615 - s.word i) = c at *
  have hb := hc.1
  rw [not_bit _ _ hx hl] at hb
  refine ⟨fun j hj => ?_, ?_⟩
  · by_cases h1 : j < 64 * i
    · exact h j h1
    · have := hc.2 (j - 64 * i) (by omega)
      rw [not_bit _ _ hx (by omega)] at this
      rw [has_word s ht, show j / 64 = i by omega, show j % 64 = j - 64 * i by omega]
      simpa using this
  · rw [has_word s ht, show (64 * i + c) / 64 = i by omega, show (64 * i + c) % 64 = c by omega]
    simpa using hb
theorem not_full_last (s : Ga) (ht : s.tidy) (h : ∀ j, j < 64 * (s.of / 64 + 1) → s.has j = true) : False := by
  have := h s.of (by omega)
  rw [has_word s ht, ht s.of (Nat.le_refl _)] at this
  cases this

def GotPost (s : Ga) (w : World) (e : Ending) (w' : World) : Prop :=
  ∃ n, Front s n ∧ e = .returned (.tuple #[.int .i64 n, .int .u32 (seenTo s n 32)]) ∧ Below w.heap.size w w'

theorem not_word (x : Nat) (hx : x < 18446744073709551616) : bits BinOp.xor IntKind.u64 IntKind.u64.max (x : Int) = ((18446744073709551615 - x : Nat) : Int) := by
  have e : IntKind.u64.max = ((18446744073709551615 : Nat) : Int) := by decide +kernel
  rw [e, u64_xor_nat _ _ (by omega) hx]
  congr 1
  apply Nat.eq_of_testBit_eq
  intro j
  rw [Nat.testBit_xor]
  by_cases hj : j < 64
  · rw [full_bit j hj, not_bit x j hx hj, Bool.true_xor]
  · have hp : 18446744073709551616 ≤ 2 ^ j := Nat.le_trans (by decide) (Nat.pow_le_pow_right (by decide) (show 64 ≤ j by omega))
    rw [Nat.testBit_lt_two_pow (by omega), Nat.testBit_lt_two_pow (by omega), Nat.testBit_lt_two_pow (by omega)]; rfl
theorem Tab.below {B : Nat} {w w' : World} (h : Tab w) (hb : Below B w w') (h0 : 0 < B) : Tab w' := fun j hj => (hb.cell (p := ⟨0, j, none⟩) h0).trans (h j hj)
set_option maxHeartbeats 2000000 in
theorem got_any (G C A : Nat) (s : Ga) (w : World) (hL : Lies w G C A s) (hs : s.ok) (ht : s.tidy) (hT : Tab w) :
    Calls Tryd.prog 16 #[.pointer (some ⟨G, 0, none⟩)] w (GotPost s w) := by
  have h2 := hL.c2
  have hlt0 := hL.lt
  have hlen := hs.len
  have ho := hs.of2
  have HL := Lib.hid hL
  have HT := Lib.hid hT
  have Hlen := Lib.hid hlen
  clear hL hT hlen
  go_enter Tryd.func16, Tryd.ntmps16
  go_wp2_with fail
  have hword : ∀ k N, k < s.xs.length → ((w.alloc (.cells #[.pointer (some ⟨G, 0, none⟩)] 34)).alloc (.cells #[.int .i64 N] 3)).cell? ⟨C, k, none⟩ = some (.int .u64 (s.word k : Nat)) := fun k N hk => cell_later (((Below.refl w.heap.size w).alloc (Nat.le_refl _) _).alloc (by simp) _) (HL.out.word k hk)
  have HW := Lib.hid hword
  have HTb : Hid (∀ N : Nat, Tab ((w.alloc (.cells #[.pointer (some ⟨G, 0, none⟩)] 34)).alloc (.cells #[.int .i64 N] 3))) := fun N => HT.out.below (((Below.refl w.heap.size w).alloc (Nat.le_refl _) _).alloc (by simp) _) (by omega)
  clear hword
  go_loopw [5, 6, 17] (fun _ _ i wr => ∃ k N : Nat, k ≤ s.xs.length ∧ i = .int .i64 k ∧ wr = (w.alloc (.cells #[.pointer (some ⟨G, 0, none⟩)] 34)).alloc (.cells #[.int .i64 N] 3) ∧ (∀ j, j < 64 * k → s.has j = true)) (fun _ _ i _ => s.xs.length - (intOf i).toNat)
  case atStart => exact ⟨0, 0, Nat.zero_le _, rfl, rfl, fun j hj => by omega⟩
  case round =>
    obtain ⟨k, N, hk, rfl, rfl, hf⟩ := hrel
    have HF := Lib.hid hf
    clear hf
    by_cases hlt : k < s.xs.length
    · have hw := HW.out k N hlt
      have hx := hs.word k
      have hk2 : k ≤ 1024 := by have := Hlen.out; omega
      have hsg : IntKind.u64.signed = false := rfl
      go_wp2_with fail
      rw [not_word _ hx]
      have hc : Lib.ctz 64 (18446744073709551615 - s.word k) ≤ 64 := by
        by_cases h0 : 18446744073709551615 - s.word k = 0
        · rw [h0]; decide
        · have := ctz_lt _ h0 (by omega); omega
      have hst := fun h => front_stop s ht hs k HF.out h
      have HST := Lib.hid hst
      clear hst
      refine (tz_any _ (by omega) _ (HTb.out N)).mono ?_; rintro e w' ⟨rfl, rfl⟩
      generalize Lib.ctz 64 (18446744073709551615 - s.word k) = c at *
      go_wp2_with fail
      · have hne : (((s.word k : Nat) : Int) != 18446744073709551615) = true := by assumption
        have hfr : Hid (Front s (64 * k + c)) := HST.out (by have := hne; simp at this; omega)
        generalize (((s.word k : Nat) : Int) != 18446744073709551615) = q at *
        subst hne
        have hle := hfr.out.le
        have hO : Own3 (((w.alloc (.cells #[.pointer (some ⟨G, 0, none⟩)] 34)).alloc (.cells #[.int .i64 (64 * k + c)] 3)).alloc (.cells #[.int .u32 0] 43)) w.heap.size G (64 * k + c) (seenTo s (64 * k + c) 0) := own3_start w G (64 * k + c)
        have hB : Below w.heap.size w (((w.alloc (.cells #[.pointer (some ⟨G, 0, none⟩)] 34)).alloc (.cells #[.int .i64 (64 * k + c)] 3)).alloc (.cells #[.int .u32 0] 43)) := (((Below.refl w.heap.size w).alloc (Nat.le_refl _) _).alloc (by simp) _).alloc (by simp; omega) _
        have HO := Lib.hid hO
        have HB := Lib.hid hB
        clear hO hB hw hx hk2 hsg HST
        go_loopw [9, 32] (fun _ i wr => ∃ m : Nat, m ≤ 32 ∧ i = .int .i64 m ∧ Hid (Own3 wr w.heap.size G (64 * k + c) (seenTo s (64 * k + c) m)) ∧ Hid (Below w.heap.size w wr)) (fun _ i _ => 32 - (intOf i).toNat)
        case atStart => exact ⟨0, by omega, rfl, HO, HB⟩
        case round =>
          obtain ⟨m, hm, rfl, hO, hB⟩ := hrel
          by_cases hm32 : m < 32
          · have hL := HL.out.below hB.out hlt0.1 hlt0.2.1 hlt0.2.2
            have HLr := Lib.hid hL
            clear hL
            go_wp2_with (go_at_call 26; refine (note_any G C A w.heap.size (64 * k + c) m s wr HLr.out hs hm32 (by omega) hO.out hlt0.1 hlt0.2.1 hlt0.2.2).mono ?_; rintro e w' ⟨⟨v, rfl⟩, hO', hL', hF'⟩)
            go_roundw
            case rel => exact ⟨m + 1, by omega, by go_num, hO', hB.out.trans (hF'.below hB.out.size (by omega))⟩
            case measure => simp [intOf]; omega
          · obtain rfl : m = 32 := by omega
            have c1 := hO.out.cn
            have c2 := hO.out.cx
            go_wp2_with fail
            go_quiet (fail)
            go_wp2_with fail
            go_ret2
            exact ⟨64 * k + c, hfr.out, rfl, below_drewN hB.out _⟩
      · have heq : (((s.word k : Nat) : Int) != 18446744073709551615) = false := by assumption
        refine ⟨⟨k + 1, 64 * k + c, by omega, by go_num, rfl, ?_⟩, by simp [intOf]; omega⟩
        exact front_full s ht k HF.out (by have := heq; simp at this; omega)
    · exfalso
      exact not_full_last s ht (by have h1 := Hlen.out; have h2 := HF.out; rw [show s.of / 64 + 1 = k by omega]; exact h2)

theorem got_nil (w : World) : Calls Tryd.prog 16 #[.pointer none] w fun e w' => e = .returned (.tuple #[.int .i64 0, .int .u32 0]) ∧ w.alloc (.cells #[.pointer none] 34) = w' := by
  go_enter Tryd.func16, Tryd.ntmps16
  go_wp2_with fail
  go_ret2
  exact ⟨rfl, rfl⟩
end Go.Proofs.YtkoplojnfijllaaDoor.chunk
