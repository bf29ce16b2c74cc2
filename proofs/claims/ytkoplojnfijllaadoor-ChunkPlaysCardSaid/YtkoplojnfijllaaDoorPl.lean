/- 'ChunkPlays': the walk of the law. -/
import Derived.Test.YtkoplojnfijllaaDoorOz
import Derived.Outline
import Derived.Deep.DeepCutAuto
import Derived.Deep.LoopGhost
import Derived.BigQuiet
import Derived.Deep.RegionHeld3
namespace Go.Proofs.YtkoplojnfijllaaDoor.chunk
open Go.ChangeShapes Go.WideShapes Go.ChangeAt Go.RowKit
set_option maxRecDepth 100000

set_option maxHeartbeats 4000000 in
theorem playsIn (bb bo bc ln lc : Nat) (lad : Option Addr) (right : Bool) (l : List UInt8) (w : World) (hT : Tab w) (h0 : 0 < w.heap.size) (hb : BsAt w bb bo l) (hl : 1 ≤ l.length) (hl2 : l.length ≤ 2500)
    (hL : ListAt w lad ln) (hln : ln ≤ 80)
    (hfew : Calls Tryd.prog 7 #[.slice lad ln lc] w fun e w' => e = .returned (.bool true) ∧ w = w') :
    Calls Tryd.prog 3 #[.slice (some ⟨bb, bo, none⟩) l.length bc, .slice lad ln lc, .bool right] w fun e w' => e = .returned (.bool true) ∧ Below w.heap.size w w' := by
  have hp := pieces_bd l.length hl
  have hp2 : pieces l.length ≤ 40 := by unfold pieces; omega
  have HT := Lib.hid hT
  have Hb := Lib.hid hb
  have HL := Lib.hid hL
  have HF := Lib.hid hfew
  have hx2 : ¬ 2500 < (l.length : Int) := by omega
  clear hT hb hL hfew
  go_enter Tryd.func3, Tryd.ntmps3
  go_wp2_with fail
  refine HF.out.mono ?_; rintro e w' ⟨rfl, rfl⟩
  go_wp2_with fail
  refine (split_some bb bo bc l w Hb.out (by omega) (by omega)).mono ?_; rintro e w2 ⟨g, cap, b, rfl, hg, hb, hrow, hdat, hbel⟩
  have hE := Env.of hrow hdat
  have hgl := World.block_lt_of_cell? w2 _ (hE.rows 0 hp)
  have hbl := World.block_lt_of_cell? w2 _ (hE.dat.cell 0 _ (List.getElem?_eq_getElem (by rw [length_bytes]; omega)))
  have hconv := conv_any bb bo l.length bc l w2 rfl (Hb.out.later hbel)
  have HE := Lib.hid hE
  have HB := Lib.hid hbel
  clear hE hrow hdat hbel HF
  go_wp2_with fail
  refine (rsplit_some l w2 hl hl2).mono ?_; rintro e w3 ⟨gt, capt, rfl, hrow3, hbel3⟩
  have hE3 := HE.out.later hbel3
  have HR3 := Lib.hid hrow3
  have HE3 := Lib.hid hE3
  have HB3 := Lib.hid (HB.out.trans (hbel3.mono HB.out.size))
  clear hrow3 hE3 hbel3 HE hconv
  go_wp2_with fail
  go_loopw [11] (fun i W => ∃ k q : Nat, k ≤ pieces l.length ∧ i = .int .i64 k ∧ W = w3.drewN q) (fun i _ => pieces l.length - (intOf i).toNat)
  case atStart => exact ⟨0, 0, Nat.zero_le _, rfl, rfl⟩
  case round =>
    obtain ⟨k, q, hk, rfl, rfl⟩ := hrel
    by_cases hlt : k < pieces l.length
    · have HEq := Lib.hid (HE3.out.later (below_drewN (Below.refl _ _) q))
      have hrow := HEq.out.rows k hlt
      have hstr : (w3.drewN q).cell? ⟨gt, k, none⟩ = some (.string (strOf (piece l k))) := by
        have := HR3.out.cells (g := gt) rfl k (pieceV l k) (by simp [hlt])
        have a1 : (⟨gt, 0, none⟩ : Addr).add k = ⟨gt, k, none⟩ := by unfold Addr.add; split <;> simp_all
        rw [a1] at this; simpa [pieceV] using this
      unfold winV at hrow
      obtain ⟨wq, hwq⟩ : ∃ wq, w3.drewN q = wq := ⟨_, rfl⟩
      rw [hwq] at hrow hstr HEq ⊢
      have Hwq := Lib.hid hwq
      clear hwq
      have hcv : ∀ n, (convert 22 9 (.slice (some ⟨b, 64 * k, none⟩) (wlen l.length k) (wlen l.length k))).run Tryd.prog (wq.drewN n) = .ok (.string (strOf (piece l k))) (wq.drewN n) := fun n =>
        conv_any b (64 * k) _ _ (piece l k) _ (piece_len l k).symm ((HEq.out.later (below_drewN (Below.refl _ _) n)).dat.piece k)
      go_wp2_with fail
      go_quiet (fail)
      go_wp2_with fail
      exact ⟨⟨k + 1, _, hlt, rfl, by rw [← Hwq.out, World.drewN_drewN]⟩, by simp only [intOf]; omega⟩
    · obtain rfl : k = pieces l.length := by omega
      have HE4 := Lib.hid (HE3.out.later (below_drewN (Below.refl _ _) q))
      have HB4 := Lib.hid (below_drewN HB3.out q)
      generalize w3.drewN q = w4 at *
      clear HE3 HB3 HR3
      have hconv := conv_any bb bo l.length bc l w4 rfl (Hb.out.later HB4.out)
      go_wp2_with fail
      refine (refSeed_any (strOf l) w4 (by rw [strOf_size]; unfold maxLen; omega)).mono ?_; rintro e w' ⟨rfl, rfl⟩
      rw [strOf_list]
      clear hconv
      obtain ⟨sum, hsum⟩ : ∃ sum : Int, (if right then seed l else IntKind.u64.wrap (seed l + 1)) = sum := ⟨_, rfl⟩
      have Hsum := Lib.hid hsum
      clear hsum
      have hw4 : w.heap.size ≤ w4.heap.size := HB4.out.size
      have hgl4 : g < w4.heap.size := World.block_lt_of_cell? w4 _ (HE4.out.rows 0 hp)
      have hbl4 := World.block_lt_of_cell? w4 _ (HE4.out.dat.cell 0 _ (List.getElem?_eq_getElem (by rw [length_bytes]; omega)))
      have hbl4' : b < w4.heap.size := hbl4
      clear hbl4 hgl hbl hg hb
      go_upto_if 79 with fail
      go_cut [12] (fun v wx => v = .int .u64 sum ∧ w4 = wx)
      case first =>
        cases right
        · have hs1 : IntKind.u64.wrap (seed l + 1) = sum := Hsum.out
          go_wp2_with fail
          go_meet
          exact ⟨by first | rfl | exact congrArg _ hs1, rfl⟩
        · go_wp2_with fail
          go_meet
          exact ⟨by first | rfl | exact congrArg _ Hsum.out, rfl⟩
      case rest =>
        obtain ⟨rfl, rfl⟩ := hcut
        go_wp2_with fail
        refine (new_in (pieces l.length) sum w4 (by omega) (by omega)).mono ?_; rintro e w5 ⟨G, C, A, rfl, hG, hC, hA, hLi, hbel5⟩
        have hlt5 := hLi.lt
        have hB5 := HB4.out.trans (hbel5.mono HB4.out.size)
        have hE5 := HE4.out.later hbel5
        have hgd := fresh_good (B0 := w.heap.size) hLi hp (by omega) (Nat.le_trans HB4.out.size hG) (Nat.le_trans HB4.out.size hC) (Nat.le_trans HB4.out.size hA)
        have Hgd := Lib.hid hgd
        have HB5 := Lib.hid hB5
        have HE5 := Lib.hid hE5
        have hs5 := hbel5.size
        clear hLi hbel5 hB5 hE5 hgd HE4
        go_wp2_with fail
        refine (rnew_in (pieces l.length) sum w5 hp (by omega)).mono ?_; rintro e w6 ⟨R, D, S, rfl, hR, hD, hS, hRL, hbel6⟩
        have hB6 := HB5.out.trans (hbel6.mono HB5.out.size)
        have hw5 := HB5.out.size
        have hBo : Both w.heap.size G C A R D S (pieces l.length) sum w (fun _ => false) (fun _ => []) w6 :=
          ⟨hB6, Nat.le_refl _, ⟨_, Hgd.out.fr hbel6, rfl, rfl, fun j _ => fresh_has _ _ j⟩, hRL, ⟨by omega, by omega, by omega, by omega⟩, ⟨by omega, by omega, by omega, by omega⟩, ⟨by omega, by omega, by omega, by omega⟩⟩
        have HBo := Lib.hid hBo
        have HE6 := Lib.hid (HE5.out.later hbel6)
        have hSG : ∀ x, x < w4.heap.size → ¬ (x = G ∨ x = C ∨ x = A) ∧ ¬ (x = D ∨ x = S) := fun x hx => by omega
        have HSG := Lib.hid hSG
        clear hRL hbel6 hB6 hBo hSG Hgd HB5 HE5 hG hC hA hR hD hS hs5 hw5 hlt5
        go_wp2_with fail
        go_loopg [15] ln (fun gk i W => ∃ (j : Nat) (f : Nat → Bool) (parts : Nat → List UInt8), j + gk = ln ∧ i = .int .i64 j ∧ Hid (Both w.heap.size G C A R D S (pieces l.length) sum w f parts W) ∧ Hid (Sm f parts) ∧ Hid (Env W g b l))
        case atStart => exact ⟨0, _, _, Nat.zero_add _, rfl, HBo, Lib.hid (fun j => ⟨Nat.zero_le _, fun h => by cases h⟩), HE6⟩
        case round =>
          clear HBo HE6
          obtain ⟨j, f, parts, hj, rfl, HBo, HSm, HE⟩ := hrel
          by_cases hlt : j < ln
          · obtain ⟨ob, oo, rfl, hob, hops⟩ := HL.out (by omega)
            obtain ⟨r, m, ad, c, xl, hop, hxl⟩ := hops j hlt
            have hq1 := (HBo.out.below.cell (p := ⟨ob, oo + j * 3, none⟩) hob).trans hop.right
            have hq2 := (HBo.out.below.cell (p := ⟨ob, oo + j * 3 + 1, none⟩) hob).trans hop.num
            have hq3 := (HBo.out.below.cell (p := ⟨ob, oo + j * 3 + 2, none⟩) hob).trans hop.bytes
            have Hop := Lib.hid hop
            clear hop hops
            obtain ⟨nn, hnn0, hnb⟩ := mod_len m (pieces l.length + 2) (by omega) (by omega)
            have hnn : wrap64 ((IntKind.u64.wrap m).tmod ((pieces l.length : Int) + 2)) = (nn : Int) := by simpa using hnn0
            clear hnn0
            go_wp2_with fail
            go_quiet (fail)
            have HBq := Lib.hid (HBo.out.later (below_drewN (Below.refl _ _) nq))
            have HEq := Lib.hid (HE.out.later (below_drewN (Below.refl _ _) nq))
            have hq1q : (wr.drewN nq).cell? ⟨ob, oo + j * 3, none⟩ = some (.bool r) := by simpa using hq1
            generalize wr.drewN nq = w7 at *
            clear HBo HE hq1 hq2 hq3 hnn
            obtain ⟨mm, hmm⟩ : ∃ mm : Int, (nn : Int) - 1 = mm := ⟨_, rfl⟩
            have hm1 : -1 ≤ mm := by omega
            have hm2 : mm ≤ (pieces l.length : Int) := by omega
            rw [hmm]
            clear hmm hnb
            go_upto_region 24 with fail
            go_cut [134] (fun v wx => (∃ q0 : Bool, v = .bool q0 ∧ (q0 = true → ∃ t : Nat, mm = t ∧ t < pieces l.length)) ∧ w7 = wx)
            case first =>
              cases r
              · go_wp2_with fail
                go_meet
                exact ⟨⟨false, rfl, fun h => by cases h⟩, rfl⟩
              · by_cases h1 : 0 ≤ mm
                · by_cases h2 : mm < (pieces l.length : Int)
                  · go_wp2_with fail
                    go_meet
                    exact ⟨⟨true, rfl, fun _ => ⟨mm.toNat, by omega, by omega⟩⟩, rfl⟩
                  · go_wp2_with fail
                    go_meet
                    exact ⟨⟨false, rfl, fun h => by cases h⟩, rfl⟩
                · go_wp2_with fail
                  go_meet
                  exact ⟨⟨false, rfl, fun h => by cases h⟩, rfl⟩
            case rest =>
              obtain ⟨⟨q0, rfl, hq0⟩, rfl⟩ := hcut
              have Hq0 := Lib.hid hq0
              clear hq0 hq1q
              go_upto_if 134 with fail
              go_cut [17] (fun x wx => ∃ (ax : Option Addr) (nx cx : Nat) (px : List UInt8) (q : Bool), x = .slice ax nx cx ∧ Hid (Puts w G C A R D S (pieces l.length) sum f parts g b l mm ax nx cx px q) ∧ w7 = wx)
              case first =>
                cases q0
                · go_wp2_with fail
                  go_meet
                  exact ⟨ad, xl.length, c, xl, _, rfl, puts_op hp2 HSG.out hw4 hgl4 hbl4' Hop.out hxl mm, rfl⟩
                · obtain ⟨t, rfl, ht⟩ := Hq0.out rfl
                  have hrow := HEq.out.rows t ht
                  unfold winV at hrow
                  go_wp2_with fail
                  go_meet
                  exact ⟨_, _, _, piece l t, _, rfl, puts_row hp2 HSG.out hgl4 hbl4' t, rfl⟩
              case rest =>
                obtain ⟨ax, nx, cx, px, q, rfl, HPu, rfl⟩ := hcut
                have hb0 : Below w7.heap.size w7 w7.drew := (Below.refl _ _).drew
                have hH0 : Hid (Half w.heap.size G C A R D S (pieces l.length) sum w f f parts parts w7.drew) := (HBq.out.later hb0).half
                have hE0 : Hid (Env w7.drew g b l) := HEq.out.later hb0
                have hc0 := HPu.out.conv _ hH0.out.below hE0.out
                clear hb0
                go_wp2_with fail
                go_region_held3 (fun w' => (convert 22 9 (.slice ax nx cx)).run Tryd.prog w' = .ok (.string (strOf px)) w') (first | exact hc8 | exact hc9 | exact hc0) (first | (go_at_call 14; refine (HPu.out.put _ _ _ hH9.out hE9.out).mono ?_; rintro e w8 ⟨rfl, hH8, hE8⟩; have hc8 := HPu.out.conv _ hH8.out.below hE8.out) | (go_at_call 14; refine (HPu.out.put _ _ _ hH0.out hE0.out).mono ?_; rintro e w8 ⟨rfl, hH8, hE8⟩; have hc8 := HPu.out.conv _ hH8.out.below hE8.out) | (go_at_call 15; refine (HPu.out.rput _ _ _ hH8.out hE8.out).mono ?_; rintro e w9 ⟨rfl, hH9, hE9⟩; have hc9 := HPu.out.conv _ hH9.out.below hE9.out) | (go_at_call 15; refine (HPu.out.rput _ _ _ hH0.out hE0.out).mono ?_; rintro e w9 ⟨rfl, hH9, hE9⟩; have hc9 := HPu.out.conv _ hH9.out.below hE9.out))
                have HBn : Hid (Both w.heap.size G C A R D S (pieces l.length) sum w (putG f mm q) (withG parts mm px q) w9) := Lib.hid hH9.out.both
                have HEn := hE9
                have HSn : Hid (Sm (putG f mm q) (withG parts mm px q)) := by have := HSm.out.put (pieces l.length) mm px; rw [HPu.out.fit] at this; exact this
                clear hH0 hE0 hc0 hH8 hE8 hc8 hH9 hE9 hc9 HPu HBq HEq HSm Hq0
                generalize putG f mm q = f2 at *
                generalize withG parts mm px q = parts2 at *
                go_wp2_with fail
                obtain ⟨n, hn⟩ := front_ex f2 (pieces l.length)
                have Hn := Lib.hid hn
                have HTq := Lib.hid (HT.out.below HBn.out.below h0)
                clear hn
                refine (both_got HBn.out HTq.out n Hn.out).mono ?_; rintro e w10 ⟨rfl, hB10, hbel10⟩
                have HB10 := Lib.hid hB10
                have HE10 := Lib.hid (HEn.out.later hbel10)
                clear hB10 hbel10 HBn HEn HTq
                go_wp2_with fail
                refine (both_rgot HB10.out (by omega) n Hn.out).mono ?_; rintro e w' ⟨rfl, rfl⟩
                go_wp2_with fail
                refine (both_bytes HB10.out hp (by omega) HSn.out n Hn.out).mono ?_; rintro e w11 ⟨hbel11, hB11, hby⟩
                have HB11 := Lib.hid hB11
                have HE11 := Lib.hid (HE10.out.later hbel11)
                clear hB11 hbel11 HB10 HE10
                have hle := Hn.out.le
                rcases hby with ⟨rfl, hse, gd, cd, rfl, hbs⟩ | ⟨rfl, hse, rfl⟩ | ⟨hnk, rfl⟩
                all_goals go_wp2_with fail
                · refine (rbytes_full R D S (pieces l.length) sum f2 parts2 w11 HB11.out.ref (by omega) Hn.out.all (by have := partsTo_bd HSn.out (pieces l.length); omega)).mono ?_; rintro e w' ⟨⟨m2, rfl⟩, hif⟩
                  rw [if_pos hse] at hif
                  subst hif
                  have hc1 := conv_any gd 0 _ cd (partsTo parts2 (pieces l.length)) (w11.drewN m2) rfl ⟨fun j u hu => by simpa using hbs.cell j u hu⟩
                  have HB12 := Lib.hid (HB11.out.later (below_drewN (Below.refl _ _) m2))
                  have HE12 := Lib.hid (HE11.out.later (below_drewN (Below.refl _ _) m2))
                  generalize w11.drewN m2 = w12 at *
                  clear HB11 HE11 hbs hse
                  go_wp2_with fail
                  refine (both_full HB12.out _ Hn.out true (by simp)).mono ?_; rintro e w' ⟨rfl, m3, rfl⟩
                  go_wp2_with fail
                  go_roundg (gk - 1)
                  case measure => omega
                  case rel => exact ⟨j + 1, f2, parts2, by omega, rfl, HB12.out.later (below_drewN (Below.refl _ _) m3), HSn, HE12.out.later (below_drewN (Below.refl _ _) m3)⟩
                · refine (rbytes_full R D S (pieces l.length) sum f2 parts2 w11 HB11.out.ref (by omega) Hn.out.all (by have := partsTo_bd HSn.out (pieces l.length); omega)).mono ?_; rintro e w' ⟨⟨m2, rfl⟩, hif⟩
                  rw [if_neg hse] at hif
                  subst hif
                  have HB12 := Lib.hid (HB11.out.later (below_drewN (Below.refl _ _) m2))
                  have HE12 := Lib.hid (HE11.out.later (below_drewN (Below.refl _ _) m2))
                  generalize w11.drewN m2 = w12 at *
                  clear HB11 HE11 hse
                  have hcn := conv_nil w12
                  go_wp2_with fail
                  refine (both_full HB12.out _ Hn.out true (by simp)).mono ?_; rintro e w' ⟨rfl, m3, rfl⟩
                  go_wp2_with fail
                  go_roundg (gk - 1)
                  case measure => omega
                  case rel => exact ⟨j + 1, f2, parts2, by omega, rfl, HB12.out.later (below_drewN (Below.refl _ _) m3), HSn, HE12.out.later (below_drewN (Below.refl _ _) m3)⟩
                · refine (rbytes_part R D S (pieces l.length) sum f2 parts2 w11 HB11.out.ref (by omega) n hnk Hn.out.all (Hn.out.stop hnk)).mono ?_; rintro e w' ⟨rfl, rfl⟩
                  have hcn := conv_nil w11
                  have hnq : ((n : Int) == ((pieces l.length : Nat) : Int)) = false := beq_eq_false_iff_ne.2 (by omega)
                  go_wp2_with fail
                  refine (both_full HB11.out n Hn.out false hnq).mono ?_; rintro e w' ⟨rfl, m3, rfl⟩
                  go_wp2_with fail
                  go_roundg (gk - 1)
                  case measure => omega
                  case rel => exact ⟨j + 1, f2, parts2, by omega, rfl, HB11.out.later (below_drewN (Below.refl _ _) m3), HSn, HE11.out.later (below_drewN (Below.refl _ _) m3)⟩
          · obtain rfl : j = ln := by omega
            go_wp2_with fail
            refine (told_any _ (HT.out.below HBo.out.below h0) (Nat.lt_of_lt_of_le h0 HBo.out.below.size)).mono ?_; rintro e w7 ⟨rfl, hbel⟩
            have HB7 := Lib.hid (HBo.out.below.trans (hbel.mono HBo.out.below.size))
            clear hbel
            go_wp2_with fail
            go_ret
            exact ⟨rfl, HB7.out⟩
end Go.Proofs.YtkoplojnfijllaaDoor.chunk
