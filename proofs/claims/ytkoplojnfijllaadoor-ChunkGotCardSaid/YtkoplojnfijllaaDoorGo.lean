/- 'ChunkGot': the walk of the law. -/
import Derived.Test.YtkoplojnfijllaaDoorCm
import Derived.Outline
import Derived.Deep.RegionHeld3
namespace Go.Proofs.YtkoplojnfijllaaDoor.chunk
open Go.ChangeShapes Go.WideShapes Go.ChangeAt Go.RowKit
set_option maxRecDepth 100000

theorem draw_60 (a : Int) : ∃ k : Nat, 1 + wrap64 ((IntKind.u64.wrap a).tmod 60) = (k : Int) ∧ 1 ≤ k ∧ k ≤ 60 := by
  have h : 0 ≤ wrap64 ((IntKind.u64.wrap a).tmod 60) ∧ wrap64 ((IntKind.u64.wrap a).tmod 60) < 60 := by
    rw [IntKind.wrap_u64, Int.tmod_eq_emod_of_nonneg (by omega)]; unfold wrap64; omega
  exact ⟨(1 + wrap64 ((IntKind.u64.wrap a).tmod 60)).toNat, by omega, by omega, by omega⟩

theorem bit_u32 (x m : Nat) (hx : x < 4294967296) : (bits BinOp.and IntKind.u32 ((x : Int) / 2 ^ m) 1 == 1) = x.testBit m := by
  have e : ((x : Int) / 2 ^ m) = ((x / 2 ^ m : Nat) : Int) := by simp
  have h1 : (1 : Int) = ((1 : Nat) : Int) := rfl
  rw [e, h1, u32_and_nat _ _ (Nat.lt_of_le_of_lt (Nat.div_le_self _ _) hx) (by omega), Nat.and_one_is_mod, Nat.testBit_eq_decide_div_mod_eq]
  generalize x / 2 ^ m = y
  by_cases h : y % 2 = 1
  · simp [h]
  · have : y % 2 = 0 := by omega
    simp [this]

theorem full_iff {q : Bool} {a k : Nat} {f : Nat → Bool} (ha : a ≤ k) (hq : q = true ↔ a = k) (hall : ∀ j, j < a → f j = true) (hstop : a < k → f a = false) : q = true ↔ ∀ j, j < k → f j = true := by
  rw [hq]
  constructor
  · intro h j hj; exact hall j (by omega)
  · intro h
    rcases Nat.lt_or_ge a k with hlt | hge
    · have h1 := hstop hlt; rw [h a hlt] at h1; cases h1
    · omega

set_option maxHeartbeats 4000000 in
theorem gotWalk (of_ : Int) (on oc : Nat) (oad : Option Addr) (w : World) (hT : Tab w) (h0 : 0 < w.heap.size) (hon : on ≤ maxLen)
    (hO : 0 < on → ∃ ob oo, oad = some ⟨ob, oo, none⟩ ∧ ob < w.heap.size ∧ ∀ i, i < on → ∃ z, w.cell? ⟨ob, oo + i, none⟩ = some (.int .i64 z)) :
    Calls Tryd.prog 6 #[.int .i64 of_, .slice oad on oc] w fun e w' => e = .returned (.bool true) ∧ Below w.heap.size w w' := by
  obtain ⟨k, hk, hk1, hk60⟩ := draw_60 of_
  have hmk : (Instr.makeSlice 22 (.int .i64 (64 * (k : Int))) (.int .i64 (64 * (k : Int)))).run Tryd.prog w = .ok (.slice (some ⟨w.heap.size, 0, none⟩) (64 * k) (64 * k)) (w.alloc (.cells (zb (64 * k)) 5)) := by
    have := mk22 (64 * k) (by omega) w
    rwa [Int.natCast_mul] at this
  have HT := Lib.hid hT
  have HO := Lib.hid hO
  unfold maxLen at hon
  clear hT hO
  go_enter Tryd.func6, Tryd.ntmps6
  go_wp2_with fail
  have hB1 : Below w.heap.size w (w.alloc (.cells (zb (64 * k)) 5)) := (Below.refl _ w).alloc (Nat.le_refl _) _
  have hb1 := zb_bytes (64 * k) w
  clear hmk hk
  generalize w.alloc (.cells (zb (64 * k)) 5) = w1 at *
  have hl : (List.replicate (64 * k) (0 : UInt8)).length = 64 * k := by simp
  have hpl : pieces (64 * k) = k := by unfold pieces; omega
  have hs := split_some w.heap.size 0 (64 * k) (List.replicate (64 * k) 0) w1 hb1 (by rw [hl]; omega) (by rw [hl]; omega)
  have Hb1 := Lib.hid hb1
  have HB1 := Lib.hid hB1
  clear hb1 hB1
  generalize List.replicate (64 * k) (0 : UInt8) = l at *
  rw [hl] at hs
  have Hl := Lib.hid hl
  have Hpl := Lib.hid hpl
  have Hpl2 : Hid (pieces l.length = k) := Lib.hid (by rw [hl]; exact hpl)
  clear hl hpl
  refine hs.mono ?_; rintro e w2 ⟨g, cap, b, rfl, hg, hb, hrow, hdat, hbel⟩
  have hE := Env.of hrow hdat
  have hgl := World.block_lt_of_cell? w2 _ (hE.rows 0 (by rw [Hl.out, Hpl.out]; omega))
  have hbl := World.block_lt_of_cell? w2 _ (hE.dat.cell 0 _ (List.getElem?_eq_getElem (by rw [length_bytes, Hl.out]; omega)))
  have HE := Lib.hid hE
  have HB := Lib.hid (HB1.out.trans (hbel.mono HB1.out.size))
  have hconv := conv_any w.heap.size 0 (64 * k) (64 * k) l w2 Hl.out.symm (Hb1.out.later hbel)
  rw [Hl.out, Hpl.out]
  clear hE hrow hdat hbel hs Hb1 HB1
  go_wp2_with fail
  refine (refSeed_any (strOf l) w2 (by rw [strOf_size, Hl.out]; unfold maxLen; omega)).mono ?_; rintro e w' ⟨rfl, rfl⟩
  rw [strOf_list]
  generalize seed l = sum
  clear hconv
  go_wp2_with fail
  refine (new_in k sum w2 (by omega) (by omega)).mono ?_; rintro e w3 ⟨G, C, A, rfl, hG, hC, hA, hL, hbel⟩
  rw [← Hpl.out, ← Hl.out] at hL
  have hI := inv_new (HB.out.trans (hbel.mono HB.out.size)) (Nat.le_refl _) (HE.out.later hbel) hL (by rw [Hl.out]; omega) (by rw [Hl.out]; omega) hgl hbl hG hC hA HB.out.size
  have hGl := hL.lt
  have hI3 : Inv w.heap.size w2.heap.size g b G C A l sum w (fun _ => false) (w3.alloc (.cells (falses k) 4)) := hI.later ((Below.refl _ _).alloc (Nat.le_refl _) _)
  have HD := Lib.hid (Came.start k w3)
  have hmk := mk54 k (by omega) w3
  have hsz3 := hbel.size
  have hw3 : w.heap.size ≤ w3.heap.size := Nat.le_trans HB.out.size hbel.size
  have hgl3 : g < w3.heap.size := Nat.lt_of_lt_of_le hgl hbel.size
  have hbl3 : b < w3.heap.size := Nat.lt_of_lt_of_le hbl hbel.size
  have HI := Lib.hid hI3
  clear hL hbel hI hI3 hG hC hA hgl hbl hg hb HE HB hsz3
  obtain ⟨D, hD⟩ : ∃ D, D = w3.heap.size := ⟨_, rfl⟩
  rw [← hD] at hw3 hgl3 hbl3 hGl hmk HD
  clear hD
  go_wp2_with fail
  generalize w3.alloc (.cells (falses k) 4) = w4 at *
  clear hmk
  go_loopw [11] (fun i W => ∃ (j : Nat) (f : Nat → Bool), j ≤ on ∧ j ≤ 60 ∧ i = .int .i64 j ∧ Hid (Inv w.heap.size w2.heap.size g b G C A l sum w f W) ∧ Hid (Came D k f W)) (fun i _ => 60 - (intOf i).toNat)
  case atStart => exact ⟨0, _, Nat.zero_le _, Nat.zero_le _, rfl, HI, HD⟩
  case round =>
    clear HI HD
    obtain ⟨j, f, hj, hj6, rfl, HF, HD⟩ := hrel
    have hx : (j < on ∧ j < 60) ∨ j = on ∨ (j < on ∧ j = 60) := by omega
    rcases hx with ⟨hlt, h60⟩ | hex
    · obtain ⟨ob, oo, rfl, hob, hz⟩ := HO.out (by omega)
      obtain ⟨z, hz⟩ := hz j hlt
      have hzc := (HF.out.below.cell (p := ⟨ob, oo + j, none⟩) hob).trans hz
      obtain ⟨n, hn, hnp⟩ := mod_len z k (by omega) (by omega)
      have hrow := HF.out.env.rows n (by rw [Hl.out, Hpl.out]; exact hnp)
      have hbd : Below wr.heap.size wr wr.drew := (Below.refl _ _).drew
      have HFd := Lib.hid (HF.out.later hbd)
      have HDd := Lib.hid (HD.out.later hbd)
      have hIp := inv_put HFd.out n (by rw [Hl.out, Hpl.out]; exact hnp)
      unfold winV at hrow
      unfold winV at hIp
      rw [Hl.out] at hrow hIp
      have hcm := HD.out.cell n hnp
      have hbf : ((!f n) == f n) = false := by cases f n <;> rfl
      have HP := Lib.hid hIp
      have HO' := HO
      have HE2 : Hid (∀ W', Inv w.heap.size w2.heap.size g b G C A l sum w (putF f n) W' → W'.cell? ⟨g, n, none⟩ = some (.slice (some ⟨b, 64 * n, none⟩) (wlen (64 * k) n) (wlen (64 * k) n))) := fun W' h => by
        have h := h.env.rows n (by rw [Hl.out, Hpl.out]; exact hnp)
        unfold winV at h; rw [Hl.out] at h; exact h
      clear hz hIp HO hbd
      go_wp2_with fail
      go_region_held3 (fun w' => w'.cell? ⟨g, n, none⟩ = some (.slice (some ⟨b, 64 * n, none⟩) (wlen (64 * k) n) (wlen (64 * k) n)) ∧ w'.cell? ⟨D, n, none⟩ = some (.bool (f n))) (first | exact ⟨hrow, hcm⟩ | exact ⟨hrow2, hcm2⟩ | go_keep) (first | (go_at_call 14; refine HP.out.mono ?_; rintro e w6 ⟨rfl, hI6, hFr6⟩; have hD6 := HDd.out.fr hFr6 (by omega); have hrow2 := HE2.out w6 hI6; have hcm2 := hD6.cell n hnp))
      have hfz6 := hD6.frozen n
      have hD7 := hD6.set n
      have hI7 := hI6.setD (n := n) hD6 hw3 (by omega) (by omega) (by omega) (by omega) (by omega) (.bool true)
      have HD6 := Lib.hid hD6
      have HI7 := Lib.hid hI7
      have HD7 := Lib.hid hD7
      clear hD6 hI6 hFr6 hrow hrow2 hI7 hD7 HP HFd HDd HE2 HF HD hcm hzc hn
      go_wp2_with fail
      generalize w6.setCell ⟨D, n, none⟩ (.bool true) = w7 at *
      clear hfz6 hcm2 HD6 hbf
      generalize putF f n = f7 at *
      go_loop [13] (fun i => ∃ a : Nat, a ≤ k ∧ i = .int .i64 a ∧ Hid (∀ j, j < a → f7 j = true)) (fun i => k - (intOf i).toNat)
      case atStart => exact ⟨0, Nat.zero_le _, rfl, Lib.hid (fun j hj => by omega)⟩
      case round =>
        obtain ⟨a, ha, rfl, HA⟩ := hrel
        have hca : (a < k ∧ f7 a = true) ∨ (a < k ∧ f7 a = false) ∨ a = k := by
          rcases Nat.lt_or_ge a k with h | h
          · cases hb : f7 a
            · exact .inr (.inl ⟨h, rfl⟩)
            · exact .inl ⟨h, rfl⟩
          · exact .inr (.inr (by omega))
        rcases hca with ⟨hak, hfa⟩ | hex
        · have hcell := HD7.out.cell a hak
          rw [hfa] at hcell
          go_wp2_with fail
          refine ⟨⟨a + 1, hak, rfl, Lib.hid (fun j hj => ?_)⟩, by simp only [intOf]; omega⟩
          by_cases hja : j = a
          · rw [hja]; exact hfa
          · exact HA.out j (by omega)
        · have HStop : Hid (a < k → f7 a = false) := fun h => by rcases hex with h' | h'; exact h'.2; omega
          have hq : ∃ q : Bool, ((a : Int) == (k : Int)) = q ∧ (q = true ↔ a = k) := ⟨_, rfl, by rw [beq_iff_eq]; omega⟩
          obtain ⟨q, hq, hqa⟩ := hq
          have Hqa := Lib.hid hqa
          clear hqa
          have hGot := inv_got HI7.out (HT.out.below HI7.out.below h0) a (by rw [Hl.out, Hpl.out]; exact ha) HA.out (by rw [Hl.out, Hpl.out]; exact HStop.out)
          have HGot := Lib.hid hGot
          clear hGot
          have hc2 : (a < k ∧ w7.cell? ⟨D, a, none⟩ = some (.bool false)) ∨ ¬ (a : Int) < (k : Int) := by
            rcases hex with ⟨hak, hfa⟩ | hak
            · have hcell := HD7.out.cell a hak
              rw [hfa] at hcell
              exact .inl ⟨hak, hcell⟩
            · exact .inr (by omega)
          clear hex
          rcases hc2 with ⟨hak, hcell⟩ | hak
          all_goals go_wp2_with fail
          all_goals
            refine HGot.out.mono ?_; rintro e w8 ⟨x, hx, rfl, hbits, hbel, hI8⟩
            have HD8 := Lib.hid (HD7.out.later hbel)
            have HI8 := Lib.hid hI8
            have Hbits := Lib.hid hbits
            clear hbits hbel hI8 HGot
            go_wp2_with fail
            refine (inv_full HI8.out q (by rw [Hl.out, Hpl.out]; exact full_iff ha Hqa.out HA.out HStop.out)).mono ?_; rintro e w9 ⟨rfl, qq, rfl⟩
            have HI9 := Lib.hid (HI8.out.later (below_drewN (Below.refl _ _) qq))
            have HD9 := Lib.hid (HD8.out.later (below_drewN (Below.refl _ _) qq))
            generalize w8.drewN qq = w9 at *
            clear HI8 HD8
            go_wp2_with fail
            go_loop [16] (fun i => ∃ m : Nat, m ≤ 32 ∧ i = .int .i64 m) (fun i => 32 - (intOf i).toNat)
            case atStart => exact ⟨0, by omega, rfl⟩
            case round =>
              obtain ⟨m, hm, rfl⟩ := hrel
              by_cases hm32 : m < 32
              · have hm0 : (0 : Int) ≤ (m : Int) := by omega
                have hm64 : (m : Int) ≤ 64 := by omega
                by_cases hin : a + 1 + m < k
                · have hcell := HD9.out.cell (a + 1 + m) hin
                  have hi1 : (a : Int) + 1 + m < k := by omega
                  have hbit := bit_u32 x m hx
                  rw [Hbits.out m hm32, Hpl2.out, decide_eq_true hin, Bool.true_and] at hbit
                  go_wp2_with fail
                  all_goals exact ⟨⟨m + 1, hm32, rfl⟩, by simp only [intOf]; omega⟩
                · have hi1 : ¬ (a : Int) + 1 + m < k := by omega
                  have hbit := bit_u32 x m hx
                  rw [Hbits.out m hm32, Hpl2.out, decide_eq_false hin, Bool.false_and] at hbit
                  go_wp2_with fail
                  all_goals exact ⟨⟨m + 1, hm32, rfl⟩, by simp only [intOf]; omega⟩
              · obtain rfl : m = 32 := by omega
                go_wp2_with fail
                exact ⟨⟨j + 1, f7, hlt, h60, rfl, HI9, HD9⟩, by simp only [intOf]; omega⟩
    · clear HO
      rcases hex with rfl | ⟨hlt, rfl⟩
      all_goals
        go_wp2_with fail
        refine (told_any _ (HT.out.below HF.out.below h0) (Nat.lt_of_lt_of_le h0 HF.out.below.size)).mono ?_; rintro e w5 ⟨rfl, hbel⟩
        have HB5 := Lib.hid (HF.out.below.trans (hbel.mono HF.out.below.size))
        clear hbel
        go_wp2_with fail
        go_ret
        exact ⟨rfl, HB5.out⟩
end Go.Proofs.YtkoplojnfijllaaDoor.chunk
