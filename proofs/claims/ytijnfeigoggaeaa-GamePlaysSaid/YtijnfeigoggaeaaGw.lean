/- 'GamePlays': the walk of the law. -/
import Derived.Test.YtijnfeigoggaeaaRx
import Derived.Test.YtijnfeigoggaeaaAw
import Derived.Test.YtijnfeigoggaeaaRz
namespace Go.Proofs.Ytijnfeigoggaeaa.game
open Go.ChangeShapes Go.WideShapes Go.ChangeAt Go.RowKit dice
set_option maxRecDepth 100000

theorem Sb.twoRows {Hs : List Nat} {W0 w : World} {l : List Blk} {r1 r2 : RowS} {R : List RowS} (h : Sb Hs W0 w l (r1 :: r2 :: R)) : Sb Hs W0 w l [r1, r2] := by
  have sub : ∀ q ∈ [r1, r2], q ∈ r1 :: r2 :: R := fun q hq => by
    simp at hq ⊢
    rcases hq with h | h
    · exact .inl h
    · exact .inr (.inl h)
  refine ⟨h.os, h.tape, h.output, h.size, h.fr, h.holds, h.ge, h.nd, fun q hq => h.rows q (sub q hq), fun q hq => h.rge q (sub q hq), fun q hq => h.apart q (sub q hq), ?_⟩
  have := h.rnd
  rw [List.pairwise_cons] at this ⊢
  exact ⟨fun q hq => this.1 q (by rw [List.mem_singleton.1 hq]; exact List.mem_cons_self ..), by simp⟩
set_option maxHeartbeats 16000000 in
theorem playsWalk (s : ByteArray) (mask : Int) (I : List Inp) (ad0 : Option Addr) (c0 : Nat) (w0' : World) (hs : s.size ≤ 20) (hn : I.length ≤ 120) (hI : ∀ i ∈ I, i.ok) (hin : InsAt w0' ad0 I) :
    Calls Try.prog 7 #[.string s, .int .i64 mask, .slice ad0 I.length c0] w0' fun e w' => e = .returned (.bool true) ∧ Below w0'.heap.size w0' w' := by
  obtain ⟨D, hD⟩ : ∃ D, seed s.data.toList = D := ⟨_, rfl⟩
  have hsm : s.size ≤ maxLen := by unfold maxLen; omega
  have HN := Lib.hid (fun w => new_zS s w hsm D hD)
  have HRN := Lib.hid (fun w => rnew_zS s w hsm D hD)
  have HI := Lib.hid hI
  have Hin := Lib.hid hin
  have H := Sb.start w0'
  clear hD hI hin hsm
  go_enter Try.func7, Try.ntmps7
  go_wp2_with fail
  refine (HN.out _).mono ?_; rintro e w2 ⟨rfl, hb⟩
  replace H := H.call hb
  clear hb HN
  go_wp2_with fail
  refine (HRN.out _).mono ?_; rintro e w3 ⟨rfl, hb⟩
  replace H := H.call hb
  clear hb HRN
  have tok1 : True := trivial
  go_wp2_with (first | (clear tok1; refine wb_alloc H rfl 28 rfl _ Try.zeroValue28 ?_; clear H; intro b7 w9 H) | (refine wb_alloc H rfl 28 rfl _ Try.zeroValue28 ?_; clear H; intro b8 w9 H) | (refine wb_put H rfl 0 28 _ _ rfl _ 0 rfl _ _ rfl (.agg (gameC 0 D zS (.slice none 0 0))) rfl 59 info28 (rfl) (Nat.le_of_ble_eq_true rfl) gcv_one (gameC 0 D zS (.slice none 0 0)) (splice_all _ _ (by rw [show (Value.cells (.agg (gameC 0 D zS (.slice none 0 0)))).size = 59 from rfl]; rfl)) ?_; clear H; intro w9 H) | (refine wb_put H rfl 1 28 _ _ rfl _ 0 rfl _ _ rfl (.agg (gameC 0 D zS (.slice none 0 0))) rfl 59 info28 (rfl) (Nat.le_of_ble_eq_true rfl) gcv_one (gameC 0 D zS (.slice none 0 0)) (splice_all _ _ (by rw [show (Value.cells (.agg (gameC 0 D zS (.slice none 0 0)))).size = 59 from rfl]; rfl)) ?_; clear H; intro w9 H))
  have H' : Sb [] w0' w9 [(b8, gameC 0 D zS (.slice none 0 0), 28), (b7, gameC 0 D zS (.slice none 0 0), 28)] [(.slice none 0 0, [])] := H.addRow (.slice none 0 0) [] (World.ownsRow_nil _ _ _ _) (Below.refl _ _) (fun k hk => by cases hk)
  clear H
  go_loopw [9] (fun i W => ∃ (k : Nat) (ad : Option Addr) (c : Nat), k ≤ 8 ∧ i = .int .i64 k ∧ Hid (Sb [] w0' W [(b8, gameC 0 (playTo mask (g0 D) k).d (playTo mask (g0 D) k).S (.slice none 0 0), 28), (b7, gameC 0 (playTo mask (g0 D) k).d (playTo mask (g0 D) k).S (.slice ad 0 c), 28)] [(.slice ad 0 c, [])])) (fun i _ => 8 - (intOf i).toNat)
  case atStart => exact ⟨0, none, 0, Nat.zero_le _, rfl, Lib.hid H'⟩
  case round =>
    clear H'
    obtain ⟨k, ad, c, hk, rfl, HB⟩ := hrel
    by_cases hlt : k < 8
    · have hok := playTo_ok mask D k
      obtain ⟨hL, hfr⟩ := playTo_L mask D k
      obtain ⟨t, ht, hon, _⟩ := playTo_on mask D k k hlt (by omega)
      have hoff : t.on = false := by rw [hon]; simp
      by_cases hm : maskB mask k = true
      · have hq : (bits BinOp.and IntKind.i64 (mask / 2 ^ k) 1 == 1) = true := hm
        have hnext : playTo mask (g0 D) (k + 1) = spawnG (playTo mask (g0 D) k) k := by rw [playTo, if_pos hm]
        have HN := Lib.hid hnext
        have HX := Lib.hid (fun w h => spawn_any (playTo mask (g0 D) k) k t (.slice ad 0 c) w hok hlt ht hoff (by rw [hL]; exact h))
        have HX2 := Lib.hid (fun w => rspawn_any (playTo mask (g0 D) k) k t (.slice none 0 0) w hok hlt ht hoff (by rw [hL]; exact .inl ⟨rfl, rfl⟩))
        have HOK := Lib.hid (spawnG_ok k hok)
        rw [hfr] at HX HX2
        have HL : Hid ((spawnG (playTo mask (g0 D) k) k).L = [] ∧ (spawnG (playTo mask (g0 D) k) k).fr = 0) := Lib.hid ⟨hL, hfr⟩
        have Hd : Hid (next (next (playTo mask (g0 D) k).d) = (spawnG (playTo mask (g0 D) k) k).d) := Lib.hid rfl
        have HS8 := Lib.hid hok.s8
        clear hok hL hfr ht hon hoff hm hnext
        generalize playTo mask (g0 D) k = gk at *
        have H := HB.out
        go_wp2_with (refine wb_whole H rfl 1 28 _ rfl _ rfl (gameC 0 gk.d gk.S (.slice ad 0 c)) rfl _ Try.underlying28 rfl 59 info28 (gc_size HS8.out) ?_)
        refine (HX.out _ (Own.shotsIn (H.rows _ (List.mem_cons_self ..)))).mono ?_; rintro e w5 ⟨⟨sl', rfl, hown, hfr⟩, hb⟩
        rw [HL.out.1] at hown
        rw [HL.out.2]
        obtain ⟨ad', c', rfl⟩ := own_form hown
        replace H := H.addRow _ [] hown hb hfr
        clear hown hfr hb HB HX
        have HS8' := Lib.hid HOK.out.s8
        rw [Hd.out] at HX2
        rw [← HN.out] at HS8' HX2 ⊢
        generalize hgn : playTo mask (g0 D) (k + 1) = gn at *
        have Hgn := Lib.hid hgn
        clear hgn
        go_wp2_with (first | (refine wb_put H rfl 1 28 _ _ rfl _ 0 rfl _ _ rfl (.agg (gameC 0 gn.d gn.S (.slice ad' 0 c'))) rfl 59 info28 (gc_size HS8'.out) (by rw [gc_size HS8.out]; omega) gcv_one (gameC 0 gn.d gn.S (.slice ad' 0 c')) (splice_all _ _ (by rw [gc_size HS8.out]; exact (gc_size HS8'.out).symm)) ?_; clear H; intro w9 H) | (refine wb_whole H rfl 0 28 _ rfl _ rfl (gameC 0 gk.d gk.S (.slice none 0 0)) rfl _ Try.underlying28 rfl 59 info28 (gc_size HS8.out) ?_))
        refine (HX2.out _).mono ?_; rintro e w6 ⟨rfl, hb⟩
        replace H := H.call hb
        clear hb HX2
        go_wp2_with (refine wb_put H rfl 0 28 _ _ rfl _ 0 rfl _ _ rfl (.agg (gameC 0 gn.d gn.S (.slice none 0 0))) rfl 59 info28 (gc_size HS8'.out) (by rw [gc_size HS8.out]; omega) gcv_one (gameC 0 gn.d gn.S (.slice none 0 0)) (splice_all _ _ (by rw [gc_size HS8.out]; exact (gc_size HS8'.out).symm)) ?_; clear H; intro w9 H)
        have H2 : Sb [] w0' w9 [(b8, gameC 0 gn.d gn.S (.slice none 0 0), 28), (b7, gameC 0 gn.d gn.S (.slice ad' 0 c'), 28)] [(.slice ad' 0 c', [])] := H.oneRow
        exact ⟨⟨k + 1, ad', c', hlt, rfl, Lib.hid (by rw [Hgn.out]; exact H2)⟩, by simp only [intOf]; omega⟩
      · have hmf : maskB mask k = false := by simpa using hm
        have hq : (bits BinOp.and IntKind.i64 (mask / 2 ^ k) 1 == 1) = false := hmf
        have hnext : playTo mask (g0 D) (k + 1) = playTo mask (g0 D) k := by rw [playTo, if_neg hm]
        rw [← hnext] at HB
        clear hm hmf hok hL hfr ht hon hoff hnext
        go_wp2_with fail
        exact ⟨⟨k + 1, ad, c, hlt, rfl, HB⟩, by simp only [intOf]; omega⟩
    · obtain rfl : k = 8 := by omega
      rw [show ((8 : Nat) : Int) = 8 from rfl]
      have hok := playTo_ok mask D 8
      obtain ⟨hL, hfr⟩ := playTo_L mask D 8
      generalize playTo mask (g0 D) 8 = g8 at *
      have HK := Lib.hid (And.intro hok hfr)
      have H' : Sb [] w0' wr [(b8, gameC g8.fr g8.d g8.S (.slice none g8.L.length 0), 28), (b7, gameC g8.fr g8.d g8.S (.slice ad g8.L.length c), 28)] [(.slice none g8.L.length 0, g8.L), (.slice ad g8.L.length c, g8.L)] := by
        rw [hL, hfr]
        exact HB.out.addRow (.slice none 0 0) [] (World.ownsRow_nil _ _ _ _) (Below.refl _ _) (fun k hk => by cases hk)
      clear HB hok hL hfr
      go_wp2_with fail
      go_loopw [10] (fun i W => ∃ (k : Nat) (g : Gme) (ad1 : Option Addr) (c1 : Nat) (ad2 : Option Addr) (c2 : Nat), k ≤ I.length ∧ i = .int .i64 k ∧ Hid (g.ok ∧ g.fr = k) ∧ Hid (Sb [] w0' W [(b8, gameC g.fr g.d g.S (.slice ad2 g.L.length c2), 28), (b7, gameC g.fr g.d g.S (.slice ad1 g.L.length c1), 28)] [(.slice ad2 g.L.length c2, g.L), (.slice ad1 g.L.length c1, g.L)])) (fun i _ => I.length - (intOf i).toNat)
      case atStart => exact ⟨0, g8, ad, c, none, 0, Nat.zero_le _, rfl, HK, Lib.hid H'⟩
      case round =>
        clear H' HK
        obtain ⟨k, g, ad1, c1, ad2, c2, hk, rfl, HK, HB⟩ := hrel
        have HS8 := Lib.hid HK.out.1.s8
        by_cases hlt : k < I.length
        · obtain ⟨gi, oi, had, hgi, hcs⟩ := Hin.out (by omega)
          subst had
          have Hg := Lib.hid hgi
          have Hcs := Lib.hid hcs
          have H := HB.out
          clear HB hgi hcs
          go_wp2_with (refine wb_alloc H rfl 61 rfl _ Try.zeroValue61 ?_; clear H; intro b11 w9 H)
          have H' : Sb [] w0' w9 [(b11, insC zI, 61), (b8, gameC g.fr g.d g.S (.slice ad2 g.L.length c2), 28), (b7, gameC g.fr g.d g.S (.slice ad1 g.L.length c1), 28)] [(.slice ad2 g.L.length c2, g.L), (.slice ad1 g.L.length c1, g.L)] := H
          clear H
          go_loopw [12] (fun i W => ∃ (j : Nat) (J : List Inp), j ≤ 8 ∧ i = .int .i64 j ∧ Hid (J.length = 8 ∧ ∀ i ∈ J, i.ok) ∧ Hid (Sb [] w0' W [(b11, insC J, 61), (b8, gameC g.fr g.d g.S (.slice ad2 g.L.length c2), 28), (b7, gameC g.fr g.d g.S (.slice ad1 g.L.length c1), 28)] [(.slice ad2 g.L.length c2, g.L), (.slice ad1 g.L.length c1, g.L)])) (fun i _ => 8 - (intOf i).toNat)
          case atStart => exact ⟨0, zI, Nat.zero_le _, rfl, Lib.hid ⟨rfl, zI_ok⟩, Lib.hid H'⟩
          case round =>
            clear H'
            obtain ⟨j, J, hj, rfl, HJ, HB⟩ := hrel
            by_cases hj8 : j < 8
            · obtain ⟨m, hm⟩ : ∃ m : Nat, ((k : Int) + 3 * (j : Int)) % (I.length : Int) = m := ⟨(((k : Int) + 3 * (j : Int)) % (I.length : Int)).toNat, by have := Int.emod_nonneg ((k : Int) + 3 * (j : Int)) (show (I.length : Int) ≠ 0 by omega); omega⟩
              have hm2 : m < I.length := by have := Int.emod_lt_of_pos ((k : Int) + 3 * (j : Int)) (show (0 : Int) < I.length by omega); omega
              obtain ⟨i, hi⟩ : ∃ i, I[m]? = some i := ⟨I[m], List.getElem?_eq_getElem hm2⟩
              have hiok := HI.out i (List.mem_of_getElem? hi)
              have Hat := Lib.hid (inp_at Hcs.out m i hi)
              have HIP := Lib.hid (ins_put J j i (by rw [HJ.out.1]; exact hj8))
              have HIS := Lib.hid (show (insC J).size = 24 by rw [insC_size, HJ.out.1])
              have H := HB.out
              clear HB hi
              go_wp2_with (first | (refine wb_oldRow H rfl 60 _ rfl gi (oi + m * 3) rfl [.int .i8 i.x, .int .i8 i.y, .int .u8 i.b] Hg.out (range3 Hat.out) _ Try.underlying60 rfl info60s ?_) | (refine wb_put H rfl 0 60 _ _ rfl _ (j * 3) rfl _ _ rfl (.agg #[.int .i8 i.x, .int .i8 i.y, .int .u8 i.b]) rfl 3 info60s rfl (by rw [HIS.out]; omega) rfl (insC (J.set j i)) HIP.out ?_; clear H; intro w9 H))
              exact ⟨⟨j + 1, J.set j i, hj8, rfl, Lib.hid ⟨by rw [List.length_set]; exact HJ.out.1, fun u hu => by
                rcases List.mem_or_eq_of_mem_set hu with h | h
                · exact HJ.out.2 u h
                · rw [h]; exact hiok⟩, Lib.hid H⟩, by simp only [intOf]; omega⟩
            · obtain rfl : j = 8 := by omega
              rw [show ((8 : Nat) : Int) = 8 from rfl]
              have H := HB.out
              have HIS := Lib.hid (show (insC J).size = 24 by rw [insC_size, HJ.out.1])
              have hfr1 : g.fr < 1048576 := by rw [HK.out.2]; omega
              have HX := Lib.hid (fun w h => step_any g J (.slice ad1 g.L.length c1) w HK.out.1 hfr1 HJ.out.1 HJ.out.2 h)
              have HX2 := Lib.hid (fun w h => rstep_any g J (.slice ad2 g.L.length c2) w HK.out.1 hfr1 HJ.out.1 HJ.out.2 h)
              have HOK := Lib.hid (stepG_ok J HK.out.1 hfr1)
              have HFR : Hid ((stepG g J).fr = g.fr + 1) := Lib.hid rfl
              clear HB hfr1
              generalize stepG g J = g2 at *
              have HS82 := Lib.hid HOK.out.s8
              go_wp2_with (first | (refine wb_whole H rfl 2 28 _ rfl _ rfl (gameC g.fr g.d g.S (.slice ad1 g.L.length c1)) rfl _ Try.underlying28 rfl 59 info28 (gc_size HS8.out) ?_) | (refine wb_whole H rfl 0 61 _ rfl _ rfl (insC J) rfl _ Try.underlying61 rfl 24 info61 HIS.out ?_))
              refine (HX.out _ (Own.shotsIn (H.rows _ (List.mem_cons_of_mem _ (List.mem_cons_self ..))))).mono ?_; rintro e w5 ⟨⟨sl3, rfl, hown, hfr⟩, hb⟩
              obtain ⟨ad3, c3, rfl⟩ := own_form hown
              replace H := H.addRow _ g2.L hown hb hfr
              clear hown hb hfr HX
              go_wp2_with (first | (refine wb_alloc H rfl 28 rfl _ Try.zeroValue28 ?_; clear H; intro b13 w9 H) | (refine wb_put H rfl 0 28 _ _ rfl _ 0 rfl _ _ rfl (.agg (gameC g2.fr g2.d g2.S (.slice ad3 g2.L.length c3))) rfl 59 info28 (gc_size HS82.out) (Nat.le_of_ble_eq_true rfl) gcv_one (gameC g2.fr g2.d g2.S (.slice ad3 g2.L.length c3)) (splice_all _ _ (by rw [show (Value.cells (.agg (gameC g2.fr g2.d g2.S (.slice ad3 g2.L.length c3)))).size = 59 from gc_size HS82.out]; rfl)) ?_; clear H; intro w9 H) | (refine wb_whole H rfl 2 28 _ rfl _ rfl (gameC g.fr g.d g.S (.slice ad2 g.L.length c2)) rfl _ Try.underlying28 rfl 59 info28 (gc_size HS8.out) ?_) | (refine wb_whole H rfl 1 61 _ rfl _ rfl (insC J) rfl _ Try.underlying61 rfl 24 info61 HIS.out ?_))
              refine (HX2.out _ (Own.shotsIn (H.rows _ (List.mem_cons_of_mem _ (List.mem_cons_self ..))))).mono ?_; rintro e w6 ⟨⟨sl4, rfl, hown, hfr⟩, hb⟩
              obtain ⟨ad4, c4, rfl⟩ := own_form hown
              replace H := H.addRow _ g2.L hown hb hfr
              clear hown hb hfr HX2
              go_wp2_with (first | (refine wb_alloc H rfl 28 rfl _ Try.zeroValue28 ?_; clear H; intro b15 w9 H) | (refine wb_put H rfl 0 28 _ _ rfl _ 0 rfl _ _ rfl (.agg (gameC g2.fr g2.d g2.S (.slice ad4 g2.L.length c4))) rfl 59 info28 (gc_size HS82.out) (Nat.le_of_ble_eq_true rfl) gcv_one (gameC g2.fr g2.d g2.S (.slice ad4 g2.L.length c4)) (splice_all _ _ (by rw [show (Value.cells (.agg (gameC g2.fr g2.d g2.S (.slice ad4 g2.L.length c4)))).size = 59 from gc_size HS82.out]; rfl)) ?_; clear H; intro w9 H) | (refine wb_whole H rfl 0 28 _ rfl _ rfl (gameC g2.fr g2.d g2.S (.slice ad4 g2.L.length c4)) rfl _ Try.underlying28 rfl 59 info28 (gc_size HS82.out) ?_) | (refine wb_whole H rfl 1 28 _ rfl _ rfl (gameC g2.fr g2.d g2.S (.slice ad3 g2.L.length c3)) rfl _ Try.underlying28 rfl 59 info28 (gc_size HS82.out) ?_))
              refine (rsame_any g2 _ _ _ HOK.out (Own.shotsIn (H.rows _ (List.mem_cons_of_mem _ (List.mem_cons_self ..)))) (Own.shotsIn (H.rows _ (List.mem_cons_self ..)))).mono ?_; rintro e w7 ⟨rfl, hb⟩
              replace H := H.call hb
              clear hb
              go_wp2_with fail
              replace H : Sb [] w0' w7 [(b15, gameC g2.fr g2.d g2.S (.slice ad4 g2.L.length c4), 28), (b13, gameC g2.fr g2.d g2.S (.slice ad3 g2.L.length c3), 28), (b11, insC J, 61), (b8, gameC g.fr g.d g.S (.slice ad2 g.L.length c2), 28), (b7, gameC g.fr g.d g.S (.slice ad1 g.L.length c1), 28)] [(.slice ad4 g2.L.length c4, g2.L), (.slice ad3 g2.L.length c3, g2.L), (.slice ad2 g.L.length c2, g.L), (.slice ad1 g.L.length c1, g.L)] := H
              obtain ⟨T, hT⟩ : ∃ T, rowF b13 0 (gameC g2.fr g2.d g2.S (.slice ad3 g2.L.length c3)).toList 2 ++ rowF b15 0 (gameC g2.fr g2.d g2.S (.slice ad4 g2.L.length c4)).toList 3 = T := ⟨_, rfl⟩
              have HTd : ∀ t ∈ T, t.2.2 = 2 ∨ t.2.2 = 3 := fun t ht => by
                rw [← hT] at ht
                rcases List.mem_append.1 ht with h | h
                · exact .inl (rowF_d t h)
                · exact .inr (rowF_d t h)
              have HTk : ∀ k, k < 2 → ∀ t ∈ T, t.2.2 ≠ k := fun k hk t ht => by rcases HTd t ht with h | h <;> rw [h] <;> omega
              have HTh : ∀ w : World, w.rangeAt b13 0 (gameC g2.fr g2.d g2.S (.slice ad3 g2.L.length c3)).toList → w.rangeAt b15 0 (gameC g2.fr g2.d g2.S (.slice ad4 g2.L.length c4)).toList → ∀ t ∈ T, w.cell? t.1 = some t.2.1 := fun w h1 h2 t ht => by
                rw [← hT] at ht
                rcases List.mem_append.1 ht with h | h
                · exact rowF_holds h1 t h
                · exact rowF_holds h2 t h
              have HM1 : ∀ j v, ((gameC g2.fr g2.d g2.S (.slice ad3 g2.L.length c3)).toList)[j]? = some v → ((⟨b13, 0 + j, none⟩ : Addr), v, 2) ∈ T := fun j v hv => by rw [← hT]; exact List.mem_append_left _ (mem_rowF hv)
              have HM2 : ∀ j v, ((gameC g2.fr g2.d g2.S (.slice ad4 g2.L.length c4)).toList)[j]? = some v → ((⟨b15, 0 + j, none⟩ : Addr), v, 3) ∈ T := fun j v hv => by rw [← hT]; exact List.mem_append_right _ (mem_rowF hv)
              clear hT
              replace H := H.call ((Below.refl _ w7).drew)
              refine Gs_start (T := T) (n := 4) (by kernel_rfl) rfl (fun t ht _ => HTh _ (H.range (List.mem_cons_of_mem _ (List.mem_cons_self ..))) (H.range (List.mem_cons_self ..)) t ht) ?_
              replace H : Sb [] w0' ({ w7 with drawn := w7.drawn + 1 } : World) _ _ := H
              generalize ({ w7 with drawn := w7.drawn + 1 } : World) = w at *
              refine Gs_loadRow 0 2 (fun d _ _ _ _ h => by cases d <;> exact h) (by kernel_rfl) rfl _ _ rfl rfl (some 95) rfl (by kernel_rfl) (by kernel_rfl) (HTk 0 (by omega)) b13 0 rfl _ HM1 (by kernel_rfl) _ Try.underlying28 rfl (by rw [Array.length_toList, gc_size HS82.out]; exact info28) ?_
              rw [Array.toArray_toList]
              simp only [Act.put, List.setIfInBounds_toArray, List.set_cons_succ, List.set_cons_zero]
              refine Gs_loadRow 1 3 (fun d _ _ _ _ h => by cases d <;> exact h) (by kernel_rfl) rfl _ _ rfl rfl (some 96) rfl (by kernel_rfl) (by kernel_rfl) (HTk 1 (by omega)) b15 0 rfl _ HM2 (by kernel_rfl) _ Try.underlying28 rfl (by rw [Array.length_toList, gc_size HS82.out]; exact info28) ?_
              rw [Array.toArray_toList]
              simp only [Act.put, List.setIfInBounds_toArray, List.set_cons_succ, List.set_cons_zero]
              refine Gs_one 2 rfl (by kernel_rfl) ?_
              refine wb_put H rfl 4 28 _ _ rfl _ 0 rfl _ _ rfl (.agg (gameC g2.fr g2.d g2.S (.slice ad3 g2.L.length c3))) rfl 59 info28 (gc_size HS82.out) (by rw [gc_size HS8.out]; omega) gcv_one (gameC g2.fr g2.d g2.S (.slice ad3 g2.L.length c3)) (splice_all _ _ (by rw [gc_size HS8.out]; exact (gc_size HS82.out).symm)) ?_
              clear H
              intro w9 H
              refine ⟨fun t ht _ => HTh _ (H.range (List.mem_cons_of_mem _ (List.mem_cons_self ..))) (H.range (List.mem_cons_self ..)) t ht, ?_⟩
              refine Gs_end 3 (by kernel_rfl) (fun t ht => by rcases HTd t ht with h | h <;> rw [h] <;> rfl) (by kernel_rfl) rfl ?_
              simp only [List.drop_succ_cons, List.drop_zero, Act.put]
              go_wp2_with (refine wb_put H rfl 3 28 _ _ rfl _ 0 rfl _ _ rfl (.agg (gameC g2.fr g2.d g2.S (.slice ad4 g2.L.length c4))) rfl 59 info28 (gc_size HS82.out) (by rw [gc_size HS8.out]; omega) gcv_one (gameC g2.fr g2.d g2.S (.slice ad4 g2.L.length c4)) (splice_all _ _ (by rw [gc_size HS8.out]; exact (gc_size HS82.out).symm)) ?_; clear H; intro w9 H)
              have H2 : Sb [] w0' w9 [(b15, gameC g2.fr g2.d g2.S (.slice ad4 g2.L.length c4), 28), (b13, gameC g2.fr g2.d g2.S (.slice ad3 g2.L.length c3), 28), (b11, insC J, 61), (b8, gameC g2.fr g2.d g2.S (.slice ad4 g2.L.length c4), 28), (b7, gameC g2.fr g2.d g2.S (.slice ad3 g2.L.length c3), 28)] [(.slice ad4 g2.L.length c4, g2.L), (.slice ad3 g2.L.length c3, g2.L), (.slice ad2 g.L.length c2, g.L), (.slice ad1 g.L.length c1, g.L)] := H
              exact ⟨⟨k + 1, g2, ad3, c3, ad4, c4, hlt, rfl, Lib.hid ⟨HOK.out, by rw [HFR.out, HK.out.2]; rfl⟩, Lib.hid H2.tail.tail.tail.twoRows⟩, by simp only [intOf]; omega⟩
        · obtain rfl : k = I.length := by omega
          have H := HB.out
          clear HB
          go_wp2_with fail
          refine (told_any _).mono ?_; rintro e w5 ⟨rfl, hb⟩
          replace H := H.call hb
          clear hb
          go_wp2_with (first | (refine wb_whole H rfl 1 28 _ rfl _ rfl (gameC g.fr g.d g.S (.slice ad1 g.L.length c1)) rfl _ Try.underlying28 rfl 59 info28 (gc_size HS8.out) ?_) | (refine wb_whole H rfl 0 28 _ rfl _ rfl (gameC g.fr g.d g.S (.slice ad2 g.L.length c2)) rfl _ Try.underlying28 rfl 59 info28 (gc_size HS8.out) ?_))
          refine (rsame_any g _ _ _ HK.out.1 (Own.shotsIn (H.rows _ (List.mem_cons_of_mem _ (List.mem_cons_self ..)))) (Own.shotsIn (H.rows _ (List.mem_cons_self ..)))).mono ?_; rintro e w7 ⟨rfl, hb⟩
          replace H := H.call hb
          clear hb
          go_wp2_with fail
          go_ret
          exact ⟨rfl, H.below⟩
theorem playsBig (s : ByteArray) (mask : Int) (n : Nat) (ad : Option Addr) (c : Nat) (w0' : World) (h : 20 < s.size ∨ 120 < n) :
    Calls Try.prog 7 #[.string s, .int .i64 mask, .slice ad n c] w0' fun e w' => e = .returned (.bool true) ∧ Below w0'.heap.size w0' w' := by
  rcases Nat.lt_or_ge 20 s.size with h1 | h1
  · clear h
    go_enter Try.func7, Try.ntmps7
    go_wp2_with fail
    refine (told_any _).mono ?_; rintro e w5 ⟨rfl, hb⟩
    go_wp2_with fail
    go_ret
    exact ⟨rfl, hb⟩
  · have h2 : 120 < n := by omega
    clear h
    go_enter Try.func7, Try.ntmps7
    go_wp2_with fail
    refine (told_any _).mono ?_; rintro e w5 ⟨rfl, hb⟩
    go_wp2_with fail
    go_ret
    exact ⟨rfl, hb⟩
end Go.Proofs.Ytijnfeigoggaeaa.game
