/- image.Put: a state's bytes. -/
import Derived.Test.YtijnfeigoggaeaaSi
namespace Go.Proofs.Ytijnfeigoggaeaa.game
open Go.ChangeShapes Go.WideShapes Go.ChangeAt Go.RowKit dice
set_option maxRecDepth 100000

theorem num_step {Hs : List Nat} {w0 w : World} {l : List Blk} {v : Value} {bs : List UInt8} (H : Sw Hs w0 w l v bs) (i g : Nat) (hi : l[i]? = some (g, #[v], 85)) (N : Int) (n k : Nat) (hN : N = (n : Int)) (hn : n < 18446744073709551616) (hk : k ≤ 8) (hl : bs.length ≤ 100000) (kk : Int) (hkk : kk = (k : Int)) :
    Calls Try.prog 47 #[.pointer (some ⟨g, 0, none⟩), .int .u64 N, .int .i64 kk] w fun e w' => e = .returned (.tuple #[]) ∧ ∃ v', Sw Hs w0 w' (l.set i (g, #[v'], 85)) v' (bs ++ numB k n) := by
  subst hN hkk
  refine (num_any g k n v bs w hn hk hl (H.hand g _ 85 (List.mem_of_getElem? hi))).mono ?_
  rintro e w' ⟨rfl, v', hS⟩
  exact ⟨rfl, v', H.back i g _ _ 85 hi hS⟩
theorem quad_step {Hs : List Nat} {w0 w : World} {l : List Blk} {v : Value} {bs : List UInt8} (H : Sw Hs w0 w l v bs) (i j g b : Nat) (L : List Int) (hi : l[i]? = some (g, #[v], 85)) (hj : l[j]? = some (b, (L.map (Value.int .i32)).toArray, 21)) (hij : i ≠ j) (hL : L.length ≤ 8) (hl : bs.length ≤ 50000) (c n : Nat) (hn : n = L.length) :
    Calls Try.prog 48 #[.pointer (some ⟨g, 0, none⟩), .slice (some ⟨b, 0, none⟩) n c] w fun e w' => e = .returned (.tuple #[]) ∧ ∃ v', Sw Hs w0 w' (l.set i (g, #[v'], 85)) v' (bs ++ quadB L) := by
  subst hn
  have hm := List.mem_of_getElem? hj
  have hne : b ≠ g := fun e => by
    have h1 : (l.map (·.1))[i]? = some g := by rw [List.getElem?_map, hi]; rfl
    have h2 : (l.map (·.1))[j]? = some g := by rw [List.getElem?_map, hj]; simp [e]
    exact hij ((List.getElem?_inj (by simpa using (List.getElem?_eq_some_iff.1 hi).1) H.st.nd).1 (h1.trans h2.symm))
  refine (quad_any g b L v bs w hL hl (H.hand g _ 85 (List.mem_of_getElem? hi)) (H.st.holds _ hm) (fun h => ?_) c).mono ?_
  · rcases List.mem_cons.1 h with e | e
    · exact hne e
    · exact H.apart _ hm (mem_ownB.1 e)
  · rintro e w' ⟨rfl, v', hS⟩
    exact ⟨rfl, v', H.back i g _ _ 85 hi hS⟩
theorem put_no (s : Ste) (sl : Value) (w0 : World) (hg : s.g.wf) (t8 : s.T.length = 8) (hin : ShotsW w0 sl s.g.L) (hm : mayS s = false) :
    Calls Try.prog 16 #[.agg (stateC s sl)] w0 fun e w' => e = .returned (.tuple #[.slice none 0 0, .int .i64 1]) ∧ Below w0.heap.size w0 w' := by
  have H := Sb.start w0
  have HM := Lib.hid (fun w h => mayS_b s sl w hg t8 h)
  have HI := Lib.hid hin
  have Hz := Lib.hid (sc_size (sl := sl) hg.s8 t8)
  rw [hm] at HM
  clear hg t8 hin hm
  generalize stateC s sl = cs at *
  go_enter Try.func16, Try.ntmps16
  go_wp2_with (first | (refine wb_box H rfl 35 _ rfl cs rfl ?_; clear H; intro b1 w H) | (refine wb_whole H rfl 0 35 _ rfl _ rfl cs rfl _ Try.underlying35 rfl 76 info35 Hz.out ?_))
  refine (HM.out _ (HI.out.later H.below)).mono ?_; rintro e w' ⟨rfl, hb⟩
  replace H := H.call hb
  clear hb
  go_wp2_with fail
  exact bodyPost_ret (results_tmp2 rfl _ _ _) rfl ⟨rfl, H.below⟩
theorem seatsBad_all : ∀ (T : List Seat) (m : Nat), seatsBad m T = false → ∀ q ∈ T, seatBad q = false
  | [], _, _, q, hq => by simp at hq
  | s :: T, m, h, q, hq => by
    unfold seatsBad at h
    simp only [Bool.or_eq_false_iff] at h
    rcases List.mem_cons.1 hq with rfl | hq
    · exact h.1.1
    · exact seatsBad_all T _ h.2 q hq
theorem seat_bd {q : Seat} (h : seatBad q = false) : -1 ≤ q.peer ∧ q.peer ≤ 11 ∧ 0 ≤ q.gen ∧ q.gen ≤ 60000 := by
  unfold seatBad at h
  simp only [Bool.or_eq_false_iff, decide_eq_false_iff_not] at h
  omega
theorem mayS_seats {s : Ste} (h : mayS s = true) : 0 ≤ s.ver ∧ s.ver ≤ 1073741824 ∧ ∀ q ∈ s.T, -1 ≤ q.peer ∧ q.peer ≤ 11 ∧ 0 ≤ q.gen ∧ q.gen ≤ 60000 := by
  unfold mayS mayR at h
  simp only [Bool.and_eq_true, decide_eq_true_eq, Bool.not_eq_true'] at h
  exact ⟨h.1.2.1, h.1.2.2.1, fun q hq => seat_bd (seatsBad_all _ _ h.1.2.2.2 q hq)⟩
set_option maxHeartbeats 8000000 in
theorem put_ok (s : Ste) (sl : Value) (w0 : World) (hg : s.g.wf) (t8 : s.T.length = 8) (hin : ShotsW w0 sl s.g.L) (hm : mayS s = true) :
    Calls Try.prog 16 #[.agg (stateC s sl)] w0 fun e w' => ∃ v, e = .returned (.tuple #[v, .int .i64 0]) ∧ w'.ownsRow w0.heap.size 5 1 v (img s).length (vb (img s)) ∧ Below w0.heap.size w0 w' := by
  obtain ⟨ad, c, rfl⟩ := hin.form
  obtain ⟨sl, hsl⟩ : ∃ sl, Value.slice ad s.g.L.length c = sl := ⟨_, rfl⟩
  rw [hsl] at hin ⊢
  have Hsl := Lib.hid hsl.symm
  clear hsl
  obtain ⟨e0, e1, hseat⟩ := mayS_seats hm
  have Hseat := Lib.hid hseat
  clear hseat
  have H := Sb.start w0
  have HM := Lib.hid (fun w h => mayS_b s sl w hg t8 h)
  have HI := Lib.hid hin
  have Hz := Lib.hid (sc_size (sl := sl) hg.s8 t8)
  have H8 := Lib.hid hg.s8
  have T8 := Lib.hid t8
  have HS := Lib.hid (fun j v h => sc_ships (s := s) (sl := sl) j v h)
  have H0 := Lib.hid (sc_fr (s := s) (sl := sl))
  have H1 := Lib.hid (sc_d (s := s) (sl := sl))
  have H58 := Lib.hid (sc_shots (s := s) (sl := sl) hg.s8)
  have H59 := Lib.hid (sc_ver (s := s) (sl := sl) hg.s8)
  have HQ := Lib.hid (fun j v h => sc_seats (s := s) (sl := sl) hg.s8 j v h)
  have Hl := Lib.hid (show (shipsL s.g.S).length = 56 by rw [length_shipsL, hg.s8])
  have Hls := Lib.hid (show (seatsL s.T).length = 16 by rw [length_seatsL, t8])
  rw [hm] at HM
  have hgok : s.g.ok := (Gme.may_ok hg.s8).1 (by unfold mayS at hm; simp only [Bool.and_eq_true] at hm; exact hm.1.1)
  have hd0 : 0 ≤ s.g.d ∧ s.g.d < 18446744073709551616 := by
    have := hg.d
    simp [Lit.wf, IntKind.min, IntKind.max, IntKind.signed, IntKind.bits] at this
    omega
  have f0 := hgok.f0
  have f1 := hgok.f1
  obtain ⟨d0, d1⟩ := hd0
  have HP := Lib.hid hgok
  clear hg t8 hin hm hgok
  unfold img
  generalize stateC s sl = cs at *
  obtain ⟨⟨fr, d, S, L⟩, ver, T⟩ := s
  dsimp only at *
  go_enter Try.func16, Try.ntmps16
  go_wp2_with (first | (refine wb_box H rfl 35 _ rfl cs rfl ?_; clear H; intro b1 w H) | (refine wb_whole H rfl 0 35 _ rfl _ rfl cs rfl _ Try.underlying35 rfl 76 info35 Hz.out ?_))
  refine (HM.out _ (HI.out.later H.below)).mono ?_; rintro e w' ⟨rfl, hb⟩
  replace H := H.call hb
  clear hb HM
  go_wp2_with (first | (refine wb_box H rfl 85 _ rfl #[.slice none 0 0] rfl ?_; clear H; intro b w H) | (refine wb_cell H rfl 1 3 _ rfl _ 0 rfl _ _ rfl Try.isAgg3 (.int .i64 fr) H0.out ?_))
  refine (num_step (Sw.nil H) 0 b rfl _ fr.toNat 4 (by omega) (by omega) (by decide) (by decide) _ rfl).mono ?_; rintro e w' ⟨rfl, v1, hS⟩
  clear H
  have H := hS
  clear hS
  go_wp2_with (refine wb_cell H.st rfl 1 22 _ rfl _ 1 rfl _ _ rfl Try.isAgg22 (.int .u64 d) H1.out ?_)
  refine (num_step H 0 b rfl _ d.toNat 8 (by omega) (by omega) (by decide) (by simp [length_numB]) _ rfl).mono ?_; rintro e w' ⟨rfl, v2, hS⟩
  replace H := hS
  clear hS
  go_wp2_with (refine wb_part H.st rfl 1 25 _ rfl _ 2 rfl _ _ rfl _ Try.underlying25 rfl 56 info25 (shipsL S) HS.out Hl.out ?_)
  have H' : Sw [] w0 w' [(b, #[v2], 85), (b1, cs, 35)] v2 ([] ++ numB 4 fr.toNat ++ numB 8 d.toNat) := H
  have hpre : ([] ++ numB 4 fr.toNat ++ numB 8 d.toNat).length = 12 := by simp [length_numB]
  generalize hP0 : [] ++ numB 4 fr.toNat ++ numB 8 d.toNat = P0 at *
  have HP0 := Lib.hid hP0
  have Hpre := Lib.hid hpre
  clear H hP0 hpre f0 f1 d0 d1 H1 H0
  go_loopw [30] (fun i W => ∃ (k : Nat) (v : Value) (bs : List UInt8), k ≤ 8 ∧ i = .int .i64 k ∧ Hid (Sw [] w0 W [(b, #[v], 85), (b1, cs, 35)] v bs) ∧ Hid (bs = P0 ++ (S.take k).flatMap shipB ∧ bs.length ≤ 12 + 22 * k)) (fun i _ => 8 - (intOf i).toNat)
  case atStart => exact ⟨0, v2, P0, Nat.zero_le _, rfl, Lib.hid H', Lib.hid ⟨by simp, by rw [Hpre.out]; omega⟩⟩
  case round =>
    clear H'
    obtain ⟨k, v, bs, hk, rfl, HB, HA⟩ := hrel
    by_cases hlt : k < 8
    · obtain ⟨t, ht⟩ : ∃ t, S[k]? = some t := ⟨S[k]'(by rw [H8.out]; exact hlt), List.getElem?_eq_getElem _⟩
      have HX := Lib.hid (ships_extract ht)
      have htok := HP.out.ships t (List.mem_of_getElem? ht)
      have Hsn : Hid ((S.take (k + 1)).flatMap shipB = (S.take k).flatMap shipB ++ shipB t) := Lib.hid (by
        obtain ⟨hk', e⟩ := List.getElem?_eq_some_iff.1 ht
        rw [List.take_succ_eq_append_getElem hk', e, List.flatMap_append]; simp)
      have H := HB.out
      have hl := HA.out.2
      clear HB ht
      obtain ⟨o, x, y, vx, vy, cl, sc⟩ := t
      have Hlen := Lib.hid hl
      cases o
      · clear htok hl
        go_wp2_with (first | (refine wl_index rfl 25 24 8 _ _ rfl Try.underlying25 Try.isAgg24 7 info24 (shipsL S).toArray rfl k _ rfl hlt _ HX.out ?_) | (refine sw_alloc H rfl 24 rfl _ Try.zeroValue24 ?_; clear H; intro b4 w H) | (refine sw_put H rfl 0 24 _ _ rfl _ 0 rfl _ _ rfl (.agg #[.bool false, .int .i32 x, .int .i32 y, .int .i32 vx, .int .i32 vy, .int .i64 cl, .int .i64 sc]) rfl 7 info24 rfl (Nat.le_of_ble_eq_true rfl) rfl #[.bool false, .int .i32 x, .int .i32 y, .int .i32 vx, .int .i32 vy, .int .i64 cl, .int .i64 sc] rfl ?_; clear H; intro w H) | (refine wb_cell H.st rfl 0 4 _ rfl _ 0 rfl _ _ rfl Try.isAgg4 (.bool false) rfl ?_))
        replace H : Sw [] w0 w [(b4, #[.bool false, .int .i32 x, .int .i32 y, .int .i32 vx, .int .i32 vy, .int .i64 cl, .int .i64 sc], 24), (b, #[v], 85), (b1, cs, 35)] v bs := H
        refine (num_step H 1 b rfl _ 0 1 rfl (by decide) (by decide) (by have := Hlen.out; omega) _ rfl).mono ?_; rintro e w' ⟨rfl, v3, hS⟩
        have H3 := Lib.hid hS.tail
        clear H hS
        go_wp2_with fail
        exact ⟨⟨k + 1, v3, _, hlt, rfl, H3, Lib.hid ⟨by rw [HA.out.1, Hsn.out, List.append_assoc]; rfl, by rw [List.length_append, length_numB]; have := Hlen.out; omega⟩⟩, by simp only [intOf]; omega⟩
      · have hb : 0 ≤ cl ∧ cl ≤ 10 ∧ 0 ≤ sc ∧ sc ≤ 1073741824 := by
          unfold Shp.ok OkShip at htok
          rw [if_pos rfl] at htok
          dsimp only at htok
          omega
        obtain ⟨c0, c1, s0, s1⟩ := hb
        clear htok hl
        go_wp2_with (first | (refine wl_index rfl 25 24 8 _ _ rfl Try.underlying25 Try.isAgg24 7 info24 (shipsL S).toArray rfl k _ rfl hlt _ HX.out ?_) | (refine sw_alloc H rfl 24 rfl _ Try.zeroValue24 ?_; clear H; intro b4 w H) | (refine sw_put H rfl 0 24 _ _ rfl _ 0 rfl _ _ rfl (.agg #[.bool true, .int .i32 x, .int .i32 y, .int .i32 vx, .int .i32 vy, .int .i64 cl, .int .i64 sc]) rfl 7 info24 rfl (Nat.le_of_ble_eq_true rfl) rfl #[.bool true, .int .i32 x, .int .i32 y, .int .i32 vx, .int .i32 vy, .int .i64 cl, .int .i64 sc] rfl ?_; clear H; intro w H) | (refine wb_cell H.st rfl 0 4 _ rfl _ 0 rfl _ _ rfl Try.isAgg4 (.bool true) rfl ?_))
        replace H : Sw [] w0 w [(b4, #[.bool true, .int .i32 x, .int .i32 y, .int .i32 vx, .int .i32 vy, .int .i64 cl, .int .i64 sc], 24), (b, #[v], 85), (b1, cs, 35)] v bs := H
        refine (num_step H 1 b rfl _ 1 1 rfl (by decide) (by decide) (by have := Hlen.out; omega) _ rfl).mono ?_; rintro e w' ⟨rfl, v3, hS⟩
        replace H : Sw [] w0 w' [(b4, #[.bool true, .int .i32 x, .int .i32 y, .int .i32 vx, .int .i32 vy, .int .i64 cl, .int .i64 sc], 24), (b, #[v3], 85), (b1, cs, 35)] v3 (bs ++ numB 1 1) := hS
        clear hS
        have HN := Lib.hid (H.new #[.int .i32 x, .int .i32 y, .int .i32 vx, .int .i32 vy] 21)
        go_wp2_with (first | (refine wb_cell H.st rfl 0 21 _ rfl _ 1 rfl _ _ rfl Try.isAgg21 (.int .i32 x) rfl ?_) | (refine wb_cell H.st rfl 0 21 _ rfl _ 2 rfl _ _ rfl Try.isAgg21 (.int .i32 y) rfl ?_) | (refine wb_cell H.st rfl 0 21 _ rfl _ 3 rfl _ _ rfl Try.isAgg21 (.int .i32 vx) rfl ?_) | (refine wb_cell H.st rfl 0 21 _ rfl _ 4 rfl _ _ rfl Try.isAgg21 (.int .i32 vy) rfl ?_))
        refine (quad_step HN.out 2 0 b _ [x, y, vx, vy] rfl rfl (by decide) (Nat.le_of_ble_eq_true rfl) (by rw [List.length_append, length_numB]; have := Hlen.out; omega) _ _ rfl).mono ?_; rintro e w' ⟨rfl, v4, hS⟩
        replace hS := hS.tail
        replace H : Sw [] w0 w' [(b4, #[.bool true, .int .i32 x, .int .i32 y, .int .i32 vx, .int .i32 vy, .int .i64 cl, .int .i64 sc], 24), (b, #[v4], 85), (b1, cs, 35)] v4 (bs ++ numB 1 1 ++ quadB [x, y, vx, vy]) := hS
        clear hS HN
        go_wp2_with (refine wb_cell H.st rfl 0 3 _ rfl _ 5 rfl _ _ rfl Try.isAgg3 (.int .i64 cl) rfl ?_)
        refine (num_step H 1 b rfl _ cl.toNat 1 (by omega) (by omega) (by decide) (by rw [List.length_append, List.length_append, length_numB, length_quadB]; have := Hlen.out; simp; omega) _ rfl).mono ?_; rintro e w' ⟨rfl, v5, hS⟩
        replace H : Sw [] w0 w' [(b4, #[.bool true, .int .i32 x, .int .i32 y, .int .i32 vx, .int .i32 vy, .int .i64 cl, .int .i64 sc], 24), (b, #[v5], 85), (b1, cs, 35)] v5 (bs ++ numB 1 1 ++ quadB [x, y, vx, vy] ++ numB 1 cl.toNat) := hS
        clear hS
        go_wp2_with (refine wb_cell H.st rfl 0 3 _ rfl _ 6 rfl _ _ rfl Try.isAgg3 (.int .i64 sc) rfl ?_)
        refine (num_step H 1 b rfl _ sc.toNat 4 (by omega) (by omega) (by decide) (by rw [List.length_append, List.length_append, List.length_append, length_numB, length_numB, length_quadB]; have := Hlen.out; simp; omega) _ rfl).mono ?_; rintro e w' ⟨rfl, v6, hS⟩
        have H6 := Lib.hid hS.tail
        clear H hS
        go_wp2_with fail
        exact ⟨⟨k + 1, v6, _, hlt, rfl, H6, Lib.hid ⟨by rw [HA.out.1, Hsn.out]; simp [shipB, quadB], by simp only [List.length_append, length_numB, length_quadB]; have := Hlen.out; simp; omega⟩⟩, by simp only [intOf]; omega⟩
    · obtain rfl : k = 8 := by omega
      have hbs : bs = P0 ++ S.flatMap shipB := by rw [HA.out.1, List.take_of_length_le (by rw [H8.out]; decide)]
      have hln : bs.length ≤ 188 := by have := HA.out.2; omega
      have H := HB.out
      have hsl := Hsl.out
      subst hsl
      have hLn : (L.length : Int) ≤ 32 := by have := HP.out.most; dsimp only at this; omega
      have Hbs := Lib.hid hbs
      have Hln := Lib.hid hln
      clear HB HA hbs hln
      go_wp2_with (refine wb_cell H.st rfl 1 26 _ rfl _ 58 rfl _ _ rfl Try.isAgg26 (.slice ad L.length c) H58.out ?_)
      refine (num_step H 0 b rfl _ L.length 1 rfl (by omega) (by decide) (by have := Hln.out; omega) _ rfl).mono ?_; rintro e w' ⟨rfl, v3, hS⟩
      replace H : Sw [] w0 w' [(b, #[v3], 85), (b1, cs, 35)] v3 (bs ++ numB 1 L.length) := hS
      clear hS
      have hP2 : (bs ++ numB 1 L.length).length ≤ 189 := by rw [List.length_append, length_numB]; have := Hln.out; omega
      generalize hP1 : bs ++ numB 1 L.length = P1 at *
      have HP1 := Lib.hid hP1
      have HP2 := Lib.hid hP2
      clear hP1 hP2
      go_wp2_with (refine wb_cell H.st rfl 1 26 _ rfl _ 58 rfl _ _ rfl Try.isAgg26 (.slice ad L.length c) H58.out ?_)
      have H' := Lib.hid H
      clear H
      go_loopw [73] (fun i W => ∃ (k : Nat) (v : Value) (bs : List UInt8), k ≤ L.length ∧ i = .int .i64 k ∧ Hid (Sw [] w0 W [(b, #[v], 85), (b1, cs, 35)] v bs) ∧ Hid (bs = P1 ++ (L.take k).flatMap shotB ∧ bs.length ≤ 189 + 18 * k)) (fun i _ => L.length - (intOf i).toNat)
      case atStart => exact ⟨0, v3, P1, Nat.zero_le _, rfl, H', Lib.hid ⟨by simp, by have := HP2.out; omega⟩⟩
      case round =>
        clear H'
        obtain ⟨k, v, bs, hk, rfl, HB, HA⟩ := hrel
        by_cases hlt : k < L.length
        · obtain ⟨t, ht⟩ : ∃ t, L[k]? = some t := ⟨L[k], List.getElem?_eq_getElem hlt⟩
          obtain ⟨gi, oi, had, hgi, hcs⟩ : ∃ gi oi, ad = some ⟨gi, oi, none⟩ ∧ gi < w0.heap.size ∧ ∀ j v, (cellsL L)[j]? = some v → w0.cell? ⟨gi, oi + j, none⟩ = some v := by
            rcases HI.out with ⟨e, _⟩ | ⟨gi, oi, c', e, hgi, hc⟩
            · rw [e] at hlt; exact absurd hlt (Nat.not_lt_zero _)
            · injection e with e1 e2 e3
              exact ⟨gi, oi, e1, hgi, hc⟩
          subst had
          have htok := HP.out.shots t (List.mem_of_getElem? ht)
          have hA : ShotAt wr gi (oi + k * 6) t := shot_at (fun j v hv => (World.cell?_of_block (HB.out.st.fr gi hgi (by simp))).trans (hcs j v hv)) k t ht
          have Hsn : Hid ((L.take (k + 1)).flatMap shotB = (L.take k).flatMap shotB ++ shotB t) := Lib.hid (by
            obtain ⟨hk', e⟩ := List.getElem?_eq_some_iff.1 ht
            rw [List.take_succ_eq_append_getElem hk', e, List.flatMap_append]; simp)
          have H := HB.out
          have hl := HA.out.2
          clear HB ht hcs
          obtain ⟨o, x, y, vx, vy, lf⟩ := t
          obtain ⟨c0, c1, c2, c3, c4, c5⟩ := hA
          obtain ⟨o0, o1, _, _, _, _, _, _, _, _, l0, l1⟩ := htok
          dsimp only at *
          have Hlen := Lib.hid hl
          have hkn := hLn
          clear hl
          go_wp2_with (first | (refine sw_alloc H rfl 79 rfl _ Try.zeroValue79 ?_; clear H; intro b4 w H) | (refine sw_put H rfl 0 79 _ _ rfl _ 0 rfl _ _ rfl (.agg #[.int .i64 o, .int .i32 x, .int .i32 y, .int .i32 vx, .int .i32 vy, .int .i64 lf]) rfl 6 info79s rfl (Nat.le_of_ble_eq_true rfl) rfl #[.int .i64 o, .int .i32 x, .int .i32 y, .int .i32 vx, .int .i32 vy, .int .i64 lf] rfl ?_; clear H; intro w H) | (refine wb_cell H.st rfl 0 3 _ rfl _ 0 rfl _ _ rfl Try.isAgg3 (.int .i64 o) rfl ?_))
          replace H : Sw [] w0 w [(b4, #[.int .i64 o, .int .i32 x, .int .i32 y, .int .i32 vx, .int .i32 vy, .int .i64 lf], 79), (b, #[v], 85), (b1, cs, 35)] v bs := H
          refine (num_step H 1 b rfl _ o.toNat 1 (by omega) (by omega) (by decide) (by have := Hlen.out; omega) _ rfl).mono ?_; rintro e w' ⟨rfl, v4, hS⟩
          replace H : Sw [] w0 w' [(b4, #[.int .i64 o, .int .i32 x, .int .i32 y, .int .i32 vx, .int .i32 vy, .int .i64 lf], 79), (b, #[v4], 85), (b1, cs, 35)] v4 (bs ++ numB 1 o.toNat) := hS
          clear hS
          have HN := Lib.hid (H.new #[.int .i32 x, .int .i32 y, .int .i32 vx, .int .i32 vy] 21)
          go_wp2_with (first | (refine wb_cell H.st rfl 0 21 _ rfl _ 1 rfl _ _ rfl Try.isAgg21 (.int .i32 x) rfl ?_) | (refine wb_cell H.st rfl 0 21 _ rfl _ 2 rfl _ _ rfl Try.isAgg21 (.int .i32 y) rfl ?_) | (refine wb_cell H.st rfl 0 21 _ rfl _ 3 rfl _ _ rfl Try.isAgg21 (.int .i32 vx) rfl ?_) | (refine wb_cell H.st rfl 0 21 _ rfl _ 4 rfl _ _ rfl Try.isAgg21 (.int .i32 vy) rfl ?_))
          refine (quad_step HN.out 2 0 b _ [x, y, vx, vy] rfl rfl (by decide) (Nat.le_of_ble_eq_true rfl) (by rw [List.length_append, length_numB]; have := Hlen.out; omega) _ _ rfl).mono ?_; rintro e w' ⟨rfl, v5, hS⟩
          replace hS := hS.tail
          replace H : Sw [] w0 w' [(b4, #[.int .i64 o, .int .i32 x, .int .i32 y, .int .i32 vx, .int .i32 vy, .int .i64 lf], 79), (b, #[v5], 85), (b1, cs, 35)] v5 (bs ++ numB 1 o.toNat ++ quadB [x, y, vx, vy]) := hS
          clear hS HN
          go_wp2_with (refine wb_cell H.st rfl 0 3 _ rfl _ 5 rfl _ _ rfl Try.isAgg3 (.int .i64 lf) rfl ?_)
          refine (num_step H 1 b rfl _ lf.toNat 1 (by omega) (by omega) (by decide) (by rw [List.length_append, List.length_append, length_numB, length_quadB]; have := Hlen.out; simp; omega) _ rfl).mono ?_; rintro e w' ⟨rfl, v6, hS⟩
          have H6 := Lib.hid hS.tail
          clear H hS
          go_wp2_with fail
          exact ⟨⟨k + 1, v6, _, hlt, rfl, H6, Lib.hid ⟨by rw [HA.out.1, Hsn.out]; simp [shotB, quadB], by simp only [List.length_append, length_numB, length_quadB]; have := Hlen.out; simp; omega⟩⟩, by simp only [intOf]; omega⟩
        · obtain rfl : k = L.length := by omega
          have hbs : bs = P1 ++ L.flatMap shotB := by rw [HA.out.1, List.take_length]
          have hln : bs.length ≤ 800 := by have := HA.out.2; omega
          have H := HB.out
          have Hbs2 := Lib.hid hbs
          have Hln2 := Lib.hid hln
          clear HB HA hbs hln
          go_wp2_with (refine wb_cell H.st rfl 1 3 _ rfl _ 59 rfl _ _ rfl Try.isAgg3 (.int .i64 ver) H59.out ?_)
          refine (num_step H 0 b rfl _ ver.toNat 4 (by omega) (by omega) (by decide) (by have := Hln2.out; omega) _ rfl).mono ?_; rintro e w' ⟨rfl, v4, hS⟩
          replace H : Sw [] w0 w' [(b, #[v4], 85), (b1, cs, 35)] v4 (bs ++ numB 4 ver.toNat) := hS
          clear hS
          have hP4 : (bs ++ numB 4 ver.toNat).length ≤ 804 := by rw [List.length_append, length_numB]; have := Hln2.out; omega
          generalize hP3 : bs ++ numB 4 ver.toNat = P3 at *
          have HP3 := Lib.hid hP3
          have HP4 := Lib.hid hP4
          clear hP3 hP4 e0 e1
          go_wp2_with (refine wb_part H.st rfl 1 31 _ rfl _ 60 rfl _ _ rfl _ Try.underlying31 rfl 16 info31 (seatsL T) HQ.out Hls.out ?_)
          have H' := Lib.hid H
          clear H
          go_loopw [108] (fun i W => ∃ (k : Nat) (v : Value) (bs : List UInt8), k ≤ 8 ∧ i = .int .i64 k ∧ Hid (Sw [] w0 W [(b, #[v], 85), (b1, cs, 35)] v bs) ∧ Hid (bs = P3 ++ (T.take k).flatMap seatB ∧ bs.length ≤ 804 + 3 * k)) (fun i _ => 8 - (intOf i).toNat)
          case atStart => exact ⟨0, v4, P3, Nat.zero_le _, rfl, H', Lib.hid ⟨by simp, by have := HP4.out; omega⟩⟩
          case round =>
            clear H'
            obtain ⟨k, v, bs, hk, rfl, HB, HA⟩ := hrel
            by_cases hlt : k < 8
            · obtain ⟨t, ht⟩ : ∃ t, T[k]? = some t := ⟨T[k]'(by rw [T8.out]; exact hlt), List.getElem?_eq_getElem _⟩
              have HX := Lib.hid (seats_extract ht)
              obtain ⟨p0, p1, g0, g1⟩ := Hseat.out t (List.mem_of_getElem? ht)
              have Hsn : Hid ((T.take (k + 1)).flatMap seatB = (T.take k).flatMap seatB ++ seatB t) := Lib.hid (by
                obtain ⟨hk', e⟩ := List.getElem?_eq_some_iff.1 ht
                rw [List.take_succ_eq_append_getElem hk', e, List.flatMap_append]; simp)
              have H := HB.out
              have hl := HA.out.2
              clear HB ht
              obtain ⟨p, g⟩ := t
              dsimp only at p0 p1 g0 g1
              have Hlen := Lib.hid hl
              clear hl
              go_wp2_with (first | (refine wl_index rfl 31 30 8 _ _ rfl Try.underlying31 Try.isAgg30 2 info30 (seatsL T).toArray rfl k _ rfl hlt _ HX.out ?_) | (refine sw_alloc H rfl 30 rfl _ Try.zeroValue30 ?_; clear H; intro b4 w H) | (refine sw_put H rfl 0 30 _ _ rfl _ 0 rfl _ _ rfl (.agg #[.int .i64 p, .int .i64 g]) rfl 2 info30 rfl (Nat.le_of_ble_eq_true rfl) rfl #[.int .i64 p, .int .i64 g] rfl ?_; clear H; intro w H) | (refine wb_cell H.st rfl 0 3 _ rfl _ 0 rfl _ _ rfl Try.isAgg3 (.int .i64 p) rfl ?_))
              replace H : Sw [] w0 w [(b4, #[.int .i64 p, .int .i64 g], 30), (b, #[v], 85), (b1, cs, 35)] v bs := H
              refine (num_step H 1 b rfl _ (p + 1).toNat 1 (by omega) (by omega) (by decide) (by have := Hlen.out; omega) _ rfl).mono ?_; rintro e w' ⟨rfl, v5, hS⟩
              replace H : Sw [] w0 w' [(b4, #[.int .i64 p, .int .i64 g], 30), (b, #[v5], 85), (b1, cs, 35)] v5 (bs ++ numB 1 (p + 1).toNat) := hS
              clear hS
              go_wp2_with (refine wb_cell H.st rfl 0 3 _ rfl _ 1 rfl _ _ rfl Try.isAgg3 (.int .i64 g) rfl ?_)
              refine (num_step H 1 b rfl _ g.toNat 2 (by omega) (by omega) (by decide) (by rw [List.length_append, length_numB]; have := Hlen.out; omega) _ rfl).mono ?_; rintro e w' ⟨rfl, v6, hS⟩
              have H6 := Lib.hid hS.tail
              clear H hS
              go_wp2_with fail
              exact ⟨⟨k + 1, v6, _, hlt, rfl, H6, Lib.hid ⟨by rw [HA.out.1, Hsn.out]; simp [seatB], by simp only [List.length_append, length_numB]; have := Hlen.out; omega⟩⟩, by simp only [intOf]; omega⟩
            · obtain rfl : k = 8 := by omega
              have H := HB.out
              have hfin : bs = numB 4 fr.toNat ++ (numB 8 d.toNat ++ (List.flatMap shipB S ++ (numB 1 L.length ++ (List.flatMap shotB L ++ (numB 4 ver.toNat ++ List.flatMap seatB T))))) := by
                rw [HA.out.1, List.take_of_length_le (by rw [T8.out]; decide), ← HP3.out, Hbs2.out, ← HP1.out, Hbs.out, ← HP0.out]
                simp
              have Hfin := Lib.hid hfin
              clear HB hfin
              go_wp2_with (refine wb_cell H.st rfl 0 36 _ rfl _ 0 rfl _ _ rfl Try.isAgg36 v rfl ?_)
              refine bodyPost_ret (results_tmp2 rfl _ _ _) rfl ⟨v, rfl, ?_, H.st.below⟩
              rw [← Hfin.out]
              refine ⟨H.row.1, ?_⟩
              rcases H.row.2 with a | ⟨g, cap, cur, hv, _, r⟩
              · exact .inl a
              · refine .inr ⟨g, cap, cur, hv, ?_, r⟩
                rcases H.ge g (by rw [hv]; rfl) with a | a
                · exact a
                · simp at a
end Go.Proofs.Ytijnfeigoggaeaa.game
