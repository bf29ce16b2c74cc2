/- 'ChunkOrders': the walk of the law. -/
import Derived.Test.YtkoplojnfijllaaDoorRg
import Derived.Outline
import Derived.Deep.QuietTactic
import Derived.BigQuiet
namespace Go.Proofs.YtkoplojnfijllaaDoor.chunk
open Go.BigFrame Go.ChangeShapes Go.WideShapes Go.ChangeAt Go.RowKit
set_option maxRecDepth 100000

theorem ordersOut (ad : Option Addr) (n bc : Nat) (ord : Value) (at_ c : Int) (w : World) (hT : Tab w) (h0 : 0 < w.heap.size) (hn : n < 1 ∨ 2000 < n) :
    Calls Tryd.prog 4 #[.slice ad n bc, ord, .int .i64 at_, .int .u8 c] w fun e w' => e = .returned (.bool true) ∧ Below w.heap.size w w' := by
  have HT := Lib.hid (told_any w hT h0)
  clear hT
  rcases hn with hn | hn
  · have h1 : (n : Int) < 1 := by omega
    go_enter Tryd.func4, Tryd.ntmps4
    go_wp2_with fail
    refine HT.out.mono ?_; rintro e w' ⟨rfl, hb⟩
    have HB := Lib.hid hb
    clear hb
    go_wp2_with fail
    go_ret
    exact ⟨rfl, HB.out⟩
  · have h1 : ¬ (n : Int) < 1 := by omega
    have h2 : 2000 < (n : Int) := by omega
    clear hn
    go_enter Tryd.func4, Tryd.ntmps4
    go_wp2_with fail
    refine HT.out.mono ?_; rintro e w' ⟨rfl, hb⟩
    have HB := Lib.hid hb
    clear hb
    go_wp2_with fail
    go_ret
    exact ⟨rfl, HB.out⟩

theorem y_cell {w : World} {g : Nat} {l : List UInt8} (h : ∀ j u, (bytesOf l)[j]? = some u → w.cell? ((⟨g, 0, none⟩ : Addr).add j) = some u) (k : Nat) (hk : k < l.length) : w.cell? ⟨g, k, none⟩ = some (.int .u8 (l[k].toNat : Int)) := by
  have := h k _ (by unfold bytesOf; rw [List.getElem?_map, List.getElem?_eq_getElem hk]; rfl)
  have a1 : (⟨g, 0, none⟩ : Addr).add k = ⟨g, k, none⟩ := by unfold Addr.add; split <;> simp_all
  rwa [a1] at this

def xorB (b : UInt8) (c : Int) : UInt8 := UInt8.ofNat (b.toNat ^^^ c.toNat)
theorem xor_val (b : UInt8) (c : Int) (h0 : 0 ≤ c) (h1 : c < 256) : bits BinOp.xor .u8 (b.toNat : Int) c = ((xorB b c).toNat : Int) := by
  have hb : b.toNat < 256 := b.toNat_lt
  rw [u8_xor _ _ (by omega) (by omega) h0 h1]
  unfold xorB
  rw [UInt8.toNat_ofNat_of_lt' (Nat.xor_lt_two_pow (n := 8) hb (by omega))]
  rfl

structure Last (w : World) (gy bb bo : Nat) (l l' : List UInt8) (W : World) : Prop where
  below : Below w.heap.size w W
  y : BsAt W gy 0 l'
  b : BsAt W bb bo l
  tab : Tab W
theorem Last.later {w : World} {gy bb bo : Nat} {l l' : List UInt8} {W W' : World} (h : Last w gy bb bo l l' W) (hb : Below W.heap.size W W') : Last w gy bb bo l l' W' :=
  ⟨h.below.trans (hb.mono h.below.size), h.y.later hb, h.b.later hb, h.tab.below hb (World.block_lt_of_cell? W _ (h.tab 0 (by decide)))⟩
theorem Last.drew {w : World} {gy bb bo : Nat} {l l' : List UInt8} {W : World} (h : Hid (Last w gy bb bo l l' W)) : Hid (Last w gy bb bo l l' W.drew) := h.out.later (Below.refl _ _).drew

set_option maxHeartbeats 4000000 in
theorem ordersIn (bb bo bc on oc : Nat) (oad : Option Addr) (at_ c : Int) (l : List UInt8) (w : World) (hT : Tab w) (h0 : 0 < w.heap.size) (hb : BsAt w bb bo l) (hl : 1 ≤ l.length) (hl2 : l.length ≤ 2000) (hon : on ≤ maxLen)
    (hO : 0 < on → ∃ ob oo, oad = some ⟨ob, oo, none⟩ ∧ ob < w.heap.size ∧ ∀ i, i < on → ∃ z, w.cell? ⟨ob, oo + i, none⟩ = some (.int .i64 z)) (hc : 0 ≤ c ∧ c < 256) :
    Calls Tryd.prog 4 #[.slice (some ⟨bb, bo, none⟩) l.length bc, .slice oad on oc, .int .i64 at_, .int .u8 c] w fun e w' => e = .returned (.bool true) ∧ Below w.heap.size w w' := by
  have hp := pieces_bd l.length hl
  have hp2 : pieces l.length ≤ 32 := by unfold pieces; omega
  have HT := Lib.hid hT
  have Hb := Lib.hid hb
  have HO := Lib.hid hO
  unfold maxLen at hon
  have hx1 : ¬ (l.length : Int) < 1 := by omega
  have hx2 : ¬ 2000 < (l.length : Int) := by omega
  have hbb : bb < w.heap.size := World.block_lt_of_cell? w _ (hb.cell 0 _ (List.getElem?_eq_getElem (by rw [length_bytes]; omega)))
  clear hT hb hO
  go_enter Tryd.func4, Tryd.ntmps4
  go_wp2_with fail
  refine (split_some bb bo bc l w Hb.out (by omega) (by omega)).mono ?_; rintro e w2 ⟨g, cap, b, rfl, hg, hb, hrow, hdat, hbel⟩
  have hE := Env.of hrow hdat
  have Hb2 := Lib.hid (Hb.out.later hbel)
  have hgl := World.block_lt_of_cell? w2 _ (hE.rows 0 hp)
  have hbl := World.block_lt_of_cell? w2 _ (hE.dat.cell 0 _ (List.getElem?_eq_getElem (by rw [length_bytes]; omega)))
  have HE := Lib.hid hE
  have HB := Lib.hid hbel
  clear hE hrow hdat hbel
  have hconv := conv_any bb bo l.length bc l w2 rfl Hb2.out
  go_wp2_with fail
  refine (refSeed_any (strOf l) w2 (by rw [strOf_size]; unfold maxLen; omega)).mono ?_; rintro e w' ⟨rfl, rfl⟩
  rw [strOf_list]
  generalize hsum : seed l = sum
  have Hsum := Lib.hid hsum
  clear hsum hconv
  go_wp2_with fail
  refine (new_in (pieces l.length) sum w2 (by omega) (by omega)).mono ?_; rintro e w3 ⟨G, C, A, rfl, hG, hC, hA, hL, hbel⟩
  have hI := inv_new (HB.out.trans (hbel.mono HB.out.size)) (Nat.le_refl _) (HE.out.later hbel) hL (by omega) (by omega) hgl hbl hG hC hA HB.out.size
  have HI : Hid (Inv w.heap.size w2.heap.size g b G C A l sum w (fun _ => false) w3) := hI
  clear hL hbel hI hG hC hA hgl hbl hg hb HE Hb2 HB
  go_wp2_with fail
  go_loopw [12] (fun i W => ∃ (k : Nat) (f : Nat → Bool), k ≤ on ∧ k ≤ 60 ∧ i = .int .i64 k ∧ Hid (Inv w.heap.size w2.heap.size g b G C A l sum w f W)) (fun i _ => 60 - (intOf i).toNat)
  case atStart => exact ⟨0, _, Nat.zero_le _, Nat.zero_le _, rfl, HI⟩
  case round =>
    obtain ⟨k, f, hk, hk6, rfl, HF⟩ := hrel
    have hx : (k < on ∧ k < 60) ∨ k = on ∨ (k < on ∧ k = 60) := by omega
    rcases hx with ⟨hlt, h60⟩ | hex
    · obtain ⟨ob, oo, rfl, hob, hz⟩ := HO.out (by omega)
      obtain ⟨z, hz⟩ := hz k hlt
      have hzc := (HF.out.below.cell (p := ⟨ob, oo + k, none⟩) hob).trans hz
      obtain ⟨n, hn, hnp⟩ := mod_len z (pieces l.length) (by omega) (by omega)
      have hrow := HF.out.env.rows n hnp
      have hIp := inv_put HF.out n hnp
      unfold winV at hrow
      unfold winV at hIp
      have HP := Lib.hid hIp
      have HO' := HO
      clear hz hIp HO
      go_wp2_with fail
      refine HP.out.mono ?_; rintro e W' ⟨rfl, hI, _⟩
      have HI' := Lib.hid hI
      clear hI HP HO'
      go_wp2_with fail
      exact ⟨⟨k + 1, _, hlt, h60, rfl, HI'⟩, by simp only [intOf]; omega⟩
    · clear HO
      rcases hex with rfl | ⟨hlt, rfl⟩
      all_goals go_wp2_with fail
      all_goals
        go_loopw [14] (fun i W => ∃ (m : Nat) (f : Nat → Bool), m ≤ pieces l.length ∧ i = .int .i64 m ∧ Hid (∀ j, j < m → f j = true) ∧ Hid (Inv w.heap.size w2.heap.size g b G C A l sum w f W)) (fun i _ => pieces l.length - (intOf i).toNat)
        case atStart => exact ⟨0, _, Nat.zero_le _, rfl, Lib.hid (fun j hj => by omega), HF⟩
        case round =>
          clear HF
          obtain ⟨m, f2, hm, rfl, HA, HF⟩ := hrel
          by_cases hlt : m < pieces l.length
          · have hrow := HF.out.env.rows m hlt
            have hIp := inv_put HF.out m hlt
            unfold winV at hrow
            unfold winV at hIp
            have HP := Lib.hid hIp
            clear hIp
            go_wp2_with fail
            refine HP.out.mono ?_; rintro e W' ⟨rfl, hI, _⟩
            have HI' := Lib.hid hI
            clear hI HP
            go_wp2_with fail
            refine ⟨⟨m + 1, _, hlt, rfl, Lib.hid (fun j hj => ?_), HI'⟩, by simp only [intOf]; omega⟩
            unfold putF
            by_cases hjm : j = m
            · simp [hjm]
            · simp [HA.out j (by omega)]
          · obtain rfl : m = pieces l.length := by omega
            go_wp2_with fail
            refine (inv_bytes HF.out (by omega) (by omega) HA.out).mono ?_; rintro e W4 ⟨hbel, hI, hif⟩
            rw [if_pos Hsum.out] at hif
            obtain ⟨gd, cd, rfl, hd⟩ := hif
            have HI4 := Lib.hid hI
            have Hd := Lib.hid hd
            clear hbel hI hd HF
            go_wp2_with fail
            refine (inv_full HI4.out true ⟨fun _ => HA.out, fun _ => rfl⟩).mono ?_; rintro e W5 ⟨rfl, q, rfl⟩
            have HI5 := Lib.hid (HI4.out.later (below_drewN (Below.refl _ _) q))
            have hd5 : BsAt (W4.drewN q) gd 0 l := ⟨fun j u hu => by simpa using Hd.out.cell j u hu⟩
            generalize W4.drewN q = W5 at *
            have hb5 := Hb.out.later HI5.out.below
            have hc1 := conv_any gd 0 l.length cd l W5 rfl hd5
            have hc2 := conv_any bb bo l.length bc l W5 rfl hb5
            obtain ⟨k2, hk2, hk2l⟩ := mod_len at_ l.length (by omega) (by omega)
            have Hb5 := Lib.hid hb5
            clear hd5 hb5 HI4 Hd
            obtain ⟨i0, hi, hz0, hz1, hz2⟩ := info_parts info5
            have hown := World.ownsRow_made (base := W5.heap.size) (e := 5) (size := 1) W5 #[] 0 (Nat.le_refl _) (Nat.zero_le _) rfl
            have hm : 0 + l.length ≤ maxLen := by unfold maxLen; omega
            have hbt : (0 + l.length) * 1 ≤ 140737488355328 := by omega
            have hnn : ∀ j u, (bytesOf l)[j]? = some u → (W5.alloc (.cells #[] 5)).cell? ((⟨bb, bo, none⟩ : Addr).add j) = some u := fun j u hu => by
              have := Hb5.out.cell j u hu
              exact ((Below.alloc (Below.refl _ W5) (Nat.le_refl _) (.cells #[] 5)).cell (p := (⟨bb, bo, none⟩ : Addr).add j) (World.block_lt_of_cell? W5 _ this)).trans this
            have Hown := Lib.hid hown
            have Hnn := Lib.hid hnn
            clear hown hnn
            go_wp2_with (at_builtin; refine wpList_append_own _ rfl _ _ 22 rfl W5.heap.size 5 i0 (.int .u8 0) 1 1 Tryd.underlying22 hi hz0 hz1 hz2 rfl (by decide) _ _ _ rfl Hown.out ⟨bb, bo, none⟩ l.length bc (bytesOf l) rfl (by rw [length_bytes]; omega) Hnn.out (bytes_one l) hm hbt (by simp) ?_; intro v' w6 hown' hgrow hnil'; obtain ⟨gy, cy, hvy⟩ := ownsRow_some hown' (fun h => by have := hnil'.1 h; cases this.1); subst hvy; rw [Nat.zero_add, List.nil_append] at hown'; have hyc := hown'.cells (g := gy) rfl; have hyz := hown'.frozenAt k2; have Ho6 := Lib.hid hown'; have hbg : Below W5.heap.size W5 w6 := ((Below.refl _ W5).alloc (Nat.le_refl _) _).grown hgrow (by simp) (fun k hk => by cases hk; exact Nat.le_refl _); have Hg6 := Lib.hid hbg; have Hy6 := Lib.hid hyc; have hld := y_cell hyc k2 hk2l; clear hown' hgrow hnil' hyc hbg)
            have hxv := xor_val (l[k2]) c hc.1 hc.2
            have h7 : BsAt (w6.setCell ⟨gy, k2, none⟩ (.int .u8 (bits BinOp.xor .u8 (l[k2].toNat : Int) c))) gy 0 (l.set k2 (xorB l[k2] c)) := BsAt.set ⟨Hy6.out⟩ k2 _ _ (by rw [hxv]) hk2l
            have hB7 := Hg6.out.setCell (p := ⟨gy, k2, none⟩) (Ho6.out.lt gy rfl).1 (.int .u8 (bits BinOp.xor .u8 (l[k2].toNat : Int) c))
            generalize w6.setCell ⟨gy, k2, none⟩ (.int .u8 (bits BinOp.xor .u8 (l[k2].toNat : Int) c)) = w7 at *
            have hlen : (l.set k2 (xorB l[k2] c)).length = l.length := List.length_set
            generalize l.set k2 (xorB l[k2] c) = l' at *
            have HB7 := Lib.hid (HI5.out.below.trans (hB7.mono HI5.out.size'))
            have hs := split_some gy 0 cy l' w7 h7 (by omega) (by omega)
            have H7 := Lib.hid h7
            rw [hlen] at hs
            clear Hy6 hxv h7 hB7 Ho6 Hg6 Hnn Hown hld hyz hi hz0 hz1 hz2 HI5 Hb5
            refine hs.mono ?_; rintro e w8 ⟨g', cap', b', rfl, hg', hb', hrow, hdat, hbel⟩
            have hE := Env.of hrow hdat
            have hB8 := HB7.out.trans (hbel.mono HB7.out.size)
            have hgl := World.block_lt_of_cell? w8 _ (hE.rows 0 (by rw [hlen]; omega))
            have hbl := World.block_lt_of_cell? w8 _ (hE.dat.cell 0 _ (List.getElem?_eq_getElem (by rw [length_bytes]; omega)))
            have HE := Lib.hid hE
            have HB8 := Lib.hid hB8
            have H8 := Lib.hid (H7.out.later hbel)
            have hconv := conv_any bb bo l.length bc l w8 rfl (Hb.out.later hB8)
            rw [hlen]
            clear hE hrow hdat hbel hs H7 HB7 hB8
            go_wp2_with fail
            refine (refSeed_any (strOf l) w8 (by rw [strOf_size]; unfold maxLen; omega)).mono ?_; rintro e w' ⟨rfl, rfl⟩
            rw [strOf_list, Hsum.out]
            clear hconv
            go_wp2_with fail
            refine (new_in (pieces l.length) sum w8 (by omega) (by omega)).mono ?_; rintro e w9 ⟨G', C', A', rfl, hG, hC, hA, hL, hbel⟩
            rw [← hlen] at hL
            have hI := inv_new (HB8.out.trans (hbel.mono HB8.out.size)) (Nat.le_refl _) (HE.out.later hbel) hL (by omega) (by omega) hgl hbl hG hC hA HB8.out.size
            have HI9 : Hid (Inv w.heap.size w8.heap.size g' b' G' C' A' l' sum w (fun _ => false) w9) := hI
            have hgy8 := World.block_lt_of_cell? w8 _ (H8.out.cell 0 _ (List.getElem?_eq_getElem (by rw [length_bytes]; omega)))
            have hgy8' : gy < w8.heap.size := hgy8
            have H9 := Lib.hid (H8.out.later hbel)
            clear hL hbel hI hG hC hA hgl hbl hg' hb' HE H8 HB8
            go_wp2_with fail
            go_loopw [22] (fun i W => ∃ m : Nat, m ≤ pieces l.length ∧ i = .int .i64 m ∧ Hid (Inv w.heap.size w8.heap.size g' b' G' C' A' l' sum w (fun j => decide (j < m)) W) ∧ Hid (BsAt W gy 0 l')) (fun i _ => pieces l.length - (intOf i).toNat)
            case atStart => exact ⟨0, Nat.zero_le _, rfl, by have e : (fun j : Nat => decide (j < 0)) = fun _ => false := (by funext j; simp); rw [e]; exact HI9, H9⟩
            case round =>
              clear HI9 H9
              obtain ⟨m, hm, rfl, HF, HY⟩ := hrel
              by_cases hlt : m < pieces l.length
              · have hrow := HF.out.env.rows m (by rw [hlen]; exact hlt)
                have hIp := inv_put HF.out m (by rw [hlen]; exact hlt)
                unfold winV at hrow
                unfold winV at hIp
                rw [hlen] at hrow hIp
                have HP := Lib.hid hIp
                clear hIp
                go_wp2_with fail
                refine HP.out.mono ?_; rintro e W' ⟨he, hI, hFr⟩
                have e1 : (!(decide (m < m))) = true := by simp
                rw [e1] at he
                subst he
                have e2 : putF (fun j => decide (j < m)) m = fun j => decide (j < m + 1) := by funext j; unfold putF; by_cases h1 : j = m <;> by_cases h2 : j < m <;> simp [h1, h2] <;> omega
                rw [e2] at hI
                have HI' := Lib.hid hI
                have HY' := Lib.hid (HY.out.fr hFr (by have := HF.out.hG; have := HF.out.hC; have := HF.out.hA; omega))
                clear hI HP hFr e2 e1
                go_wp2_with fail
                exact ⟨⟨m + 1, hlt, rfl, HI', HY'⟩, by simp only [intOf]; omega⟩
              · obtain rfl : m = pieces l.length := by omega
                go_wp2_with fail
                refine (inv_bytes HF.out (by omega) (by omega) (fun k hk => by rw [hlen] at hk; simp [hk])).mono ?_; rintro e W10 ⟨hbel, hI, hif⟩
                have HB10 := Lib.hid hI.below
                have HY10 := Lib.hid (HY.out.later hbel)
                clear hbel hI HF HY
                have hY8 : gy < w8.heap.size := hgy8'
                have hLast : Hid (Last w gy bb bo l l' W10) := ⟨HB10.out, HY10.out, Hb.out.later HB10.out, HT.out.below HB10.out h0⟩
                have hcy : ∀ W, Hid (Last w gy bb bo l l' W) → (convert 22 9 (.slice (some ⟨gy, 0, none⟩) l.length cy)).run Tryd.prog W = .ok (.string (strOf l')) W := fun W h => conv_any gy 0 l.length cy l' W hlen.symm h.out.y
                have hcb : ∀ W, Hid (Last w gy bb bo l l' W) → (convert 22 9 (.slice (some ⟨bb, bo, none⟩) l.length bc)).run Tryd.prog W = .ok (.string (strOf l)) W := fun W h => conv_any bb bo l.length bc l W rfl h.out.b
                have HTold : Hid (∀ W, Hid (Last w gy bb bo l l' W) → Calls Tryd.prog 8 #[] W fun e w' => e = .returned (.bool true) ∧ Hid (Last w gy bb bo l l' w')) := fun W h => (told_any W h.out.tab (Nat.lt_of_lt_of_le h0 h.out.below.size)).mono fun e w' ⟨a, b⟩ => ⟨a, h.out.later b⟩
                have HS1 : Hid (∀ W, Calls Tryd.prog 11 #[.string (strOf l)] W fun e w' => e = .returned (.int .u64 sum) ∧ w' = W) := fun W => (refSeed_any (strOf l) W (by rw [strOf_size]; unfold maxLen; omega)).mono fun e w' ⟨a, b⟩ => ⟨by rw [a, strOf_list, Hsum.out], b.symm⟩
                have HS2 : Hid (∀ W, Calls Tryd.prog 11 #[.string (strOf l')] W fun e w' => e = .returned (.int .u64 (seed l')) ∧ w' = W) := fun W => (refSeed_any (strOf l') W (by rw [strOf_size]; unfold maxLen; omega)).mono fun e w' ⟨a, b⟩ => ⟨by rw [a, strOf_list], b.symm⟩
                by_cases hse : seed l' = sum
                · rw [if_pos hse] at hif
                  obtain ⟨gd', cd', rfl, _⟩ := hif
                  rw [hse] at HS2
                  go_wp2_with fail
                  refine wp_region_call_quiet (by kernel_rfl) (by kernel_rfl) (by kernel_rfl) (by kernel_rfl) rfl rfl call8 ?_
                  refine (HTold.out W10.drew (Last.drew hLast)).mono ?_; rintro e W11 ⟨rfl, hL⟩
                  refine ⟨.bool true, rfl, fun K hK => ?_⟩
                  have hcy1 : ∀ n, (convert 22 9 (.slice (some ⟨gy, 0, none⟩) l.length cy)).run Tryd.prog (W11.drewN n) = .ok (.string (strOf l')) (W11.drewN n) := fun n => hcy _ (hL.out.later (below_drewN (Below.refl _ _) n))
                  have hcb1 : ∀ n, (convert 22 9 (.slice (some ⟨bb, bo, none⟩) l.length bc)).run Tryd.prog (W11.drewN n) = .ok (.string (strOf l)) (W11.drewN n) := fun n => hcb _ (hL.out.later (below_drewN (Below.refl _ _) n))
                  clear hcy hcb
                  go_simp
                  refine hK _ ?_
                  clear hK K
                  repeat (go_big_quiet_step ((first | (go_at_call_of 11 (Value.string (strOf l')); exact Calls.quiet_of_same (HS2.out _)) | (go_at_call_of 11 (Value.string (strOf l)); exact Calls.quiet_of_same (HS1.out _)))))
                  refine wpQuiet_nil ?_
                  intro _ hw'
                  obtain ⟨nq, rfl⟩ := hw'
                  go_wp2_with fail
                  go_ret
                  exact ⟨rfl, below_drewN hL.out.below _⟩
                · rw [if_neg hse] at hif
                  subst hif
                  go_wp2_with fail
                  refine wp_region_call_quiet (by kernel_rfl) (by kernel_rfl) (by kernel_rfl) (by kernel_rfl) rfl rfl call8 ?_
                  refine (HTold.out W10.drew (Last.drew hLast)).mono ?_; rintro e W11 ⟨rfl, hL⟩
                  refine ⟨.bool true, rfl, fun K hK => ?_⟩
                  have hcy1 : ∀ n, (convert 22 9 (.slice (some ⟨gy, 0, none⟩) l.length cy)).run Tryd.prog (W11.drewN n) = .ok (.string (strOf l')) (W11.drewN n) := fun n => hcy _ (hL.out.later (below_drewN (Below.refl _ _) n))
                  have hcb1 : ∀ n, (convert 22 9 (.slice (some ⟨bb, bo, none⟩) l.length bc)).run Tryd.prog (W11.drewN n) = .ok (.string (strOf l)) (W11.drewN n) := fun n => hcb _ (hL.out.later (below_drewN (Below.refl _ _) n))
                  clear hcy hcb
                  go_simp
                  refine hK _ ?_
                  clear hK K
                  repeat (go_big_quiet_step ((first | (go_at_call_of 11 (Value.string (strOf l')); exact Calls.quiet_of_same (HS2.out _)) | (go_at_call_of 11 (Value.string (strOf l)); exact Calls.quiet_of_same (HS1.out _)))))
                  refine wpQuiet_nil ?_
                  intro _ hw'
                  obtain ⟨nq, rfl⟩ := hw'
                  go_wp2_with fail
                  go_ret
                  exact ⟨by show Ending.returned (Value.bool (!(seed l' == sum))) = _; rw [beq_eq_false_iff_ne.2 hse]; rfl, below_drewN hL.out.below _⟩
end Go.Proofs.YtkoplojnfijllaaDoor.chunk
