/- 'GameAlone': the walk of the law. -/
import Derived.Test.YtijnfeigoggaeaaAp
import Derived.Test.YtijnfeigoggaeaaWo
import Derived.Deep.RegionWith
import Derived.BigQuiet
namespace Go.Proofs.Ytijnfeigoggaeaa.game
open Go.ChangeShapes Go.WideShapes Go.ChangeAt Go.RowKit dice
set_option maxRecDepth 100000

theorem flat_put (I : List Inp) (k : Nat) (i : Inp) (hk : k < I.length) : (I.set k i).flatMap inpL = (I.flatMap inpL).take (k * 3) ++ inpL i ++ (I.flatMap inpL).drop (k * 3 + 3) := by
  induction I generalizing k with
  | nil => simp at hk
  | cons t I ih =>
    cases k with
    | zero => simp [inpL]
    | succ k =>
      have := ih k (by simpa using hk)
      rw [List.set_cons_succ, List.flatMap_cons, this, List.flatMap_cons]
      have hl : (inpL t).length = 3 := rfl
      rw [show (k + 1) * 3 + 3 = (inpL t).length + (k * 3 + 3) by rw [hl]; omega, show (k + 1) * 3 = (inpL t).length + k * 3 by rw [hl]; omega, List.take_length_add_append, List.drop_length_add_append]
      simp
theorem length_flat (I : List Inp) : (I.flatMap inpL).length = I.length * 3 := by
  induction I with
  | nil => rfl
  | cons i I ih => rw [List.flatMap_cons, List.length_append, ih, List.length_cons]; simp only [inpL, List.length_cons, List.length_nil]; omega
theorem ins_put (I : List Inp) (k : Nat) (i : Inp) (hk : k < I.length) : splice (insC I) (k * 3) (inpL i) = insC (I.set k i) := by
  have hL := length_flat I
  have e : I.flatMap inpL = (I.flatMap inpL).take (k * 3) ++ ((I.flatMap inpL).drop (k * 3)).take 3 ++ (I.flatMap inpL).drop (k * 3 + 3) := by
    rw [List.append_assoc, show (I.flatMap inpL).drop (k * 3 + 3) = ((I.flatMap inpL).drop (k * 3)).drop 3 by rw [List.drop_drop], List.take_append_drop, List.take_append_drop]
  have g : insC I = ((I.flatMap inpL).take (k * 3) ++ ((I.flatMap inpL).drop (k * 3)).take 3 ++ (I.flatMap inpL).drop (k * 3 + 3)).toArray := by
    unfold insC
    rw [← e]
  rw [g]
  have hk3 : k * 3 = ((I.flatMap inpL).take (k * 3)).length := by simp [hL]; omega
  conv => lhs; arg 2; rw [hk3]
  rw [splice_many _ _ _ _ (by simp [inpL, hL]; omega)]
  unfold insC
  rw [flat_put I k i hk]
theorem insC_size (I : List Inp) : (insC I).size = I.length * 3 := by
  unfold insC
  rw [List.size_toArray, length_flat]
theorem info61 : (Try.prog.info? 61).map (·.size) = some 24 := by kernel_rfl
theorem stickMay (i : Inp) (w : World) (q : Bool) (hq : (decide (-127 ≤ i.x) && decide (-127 ≤ i.y)) = q) :
    Calls Try.prog 42 #[.agg #[.int .i8 i.x, .int .i8 i.y, .int .u8 i.b]] w fun e w' => e = .returned (.bool q) ∧ Below w.heap.size w w' := by
  by_cases hx : -127 ≤ i.x
  · by_cases hy : -127 ≤ i.y
    · have E : Hid (q = true) := Lib.hid (by rw [← hq, decide_eq_true hx, decide_eq_true hy]; rfl)
      clear hq
      go_enter Try.func42, Try.ntmps42
      go_wp2_with fail
      go_ret
      exact ⟨by rw [E.out]; rfl, (Below.refl _ _).alloc (Nat.le_refl _) _⟩
    · have E : Hid (q = false) := Lib.hid (by rw [← hq, decide_eq_true hx, decide_eq_false hy]; rfl)
      clear hq
      go_enter Try.func42, Try.ntmps42
      go_wp2_with fail
      go_ret
      exact ⟨by rw [E.out]; rfl, (Below.refl _ _).alloc (Nat.le_refl _) _⟩
  · have E : Hid (q = false) := Lib.hid (by rw [← hq, decide_eq_false hx]; rfl)
    clear hq
    go_enter Try.func42, Try.ntmps42
    go_wp2_with fail
    go_ret
    exact ⟨by rw [E.out]; rfl, (Below.refl _ _).alloc (Nat.le_refl _) _⟩
theorem modN (a : Int) (n : Nat) (h0 : 0 < n) (h : n ≤ 1000000) : ∃ k : Nat, wrap64 ((IntKind.u64.wrap a).tmod (n : Int)) = (k : Int) ∧ k < n := by
  have h : 0 ≤ wrap64 ((IntKind.u64.wrap a).tmod n) ∧ wrap64 ((IntKind.u64.wrap a).tmod n) < n := by
    rw [IntKind.wrap_u64, Int.tmod_eq_emod_of_nonneg (by omega)]
    have h1 := Int.emod_nonneg (a % 18446744073709551616) (show (n : Int) ≠ 0 by omega)
    have h2 := Int.emod_lt_of_pos (a % 18446744073709551616) (show (0 : Int) < n by omega)
    unfold wrap64; omega
  exact ⟨(wrap64 ((IntKind.u64.wrap a).tmod n)).toNat, by omega, by omega⟩
set_option maxHeartbeats 8000000 in
theorem aloneWalk (s : ByteArray) (sl : Int) (I : List Inp) (ad : Option Addr) (c : Nat) (w0' : World) (hs : s.size ≤ 20) (hn : I.length ≤ 80) (hI : ∀ i ∈ I, i.ok) (hin : InsAt w0' ad I) (k : Nat) (hk8 : k < 8) (hk : wrap64 ((IntKind.u64.wrap sl).tmod 8) = (k : Int)) :
    Calls Try.prog 11 #[.string s, .int .i64 sl, .slice ad I.length c] w0' fun e w' => e = .returned (.bool true) ∧ Below w0'.heap.size w0' w' := by
  obtain ⟨D, hD⟩ : ∃ D, seed s.data.toList = D := ⟨_, rfl⟩
  have hsm : s.size ≤ maxLen := by unfold maxLen; omega
  have HN := Lib.hid (fun w => new_zS s w hsm D hD)
  have HSd := Lib.hid (fun w => seed_any s w hsm)
  rw [hD] at HSd
  have HSp := Lib.hid (fun w h => spawn_any (g0 D) k zShp (.slice none 0 0) w (g0_ok D) hk8 (by show zS[k]? = _; unfold zS; rw [List.getElem?_replicate, if_pos hk8]) rfl h)
  have HI := Lib.hid hI
  have Hin := Lib.hid hin
  have H := Sb.start w0'
  have hst : stepG = stepG := rfl
  clear hD hI hin hsm hst
  go_enter Try.func11, Try.ntmps11
  go_wp2_with fail
  refine (HN.out _).mono ?_; rintro e w2 ⟨rfl, hb⟩
  replace H := H.call hb
  clear hb HN
  go_wp2_with fail
  refine (HSp.out _ (.inl ⟨rfl, rfl⟩)).mono ?_; rintro e w3 ⟨⟨sl3, rfl, hown, hfr⟩, hb⟩
  unfold spawnG g0 at hown ⊢
  dsimp only at hown ⊢
  obtain ⟨ad3, c3, rfl⟩ := own_form hown
  replace H := H.addRow _ [] hown hb hfr
  clear hown hb hfr HSp
  have HS8 : ∀ t : Shp, Hid ((zS.set k t).length = 8) := fun t => Lib.hid (by rw [List.length_set]; rfl)
  have HG := Lib.hid (fun (fr d : Int) (t : Shp) (ad : Option Addr) (n c : Nat) => gc_size (fr := fr) (d := d) (sl := .slice ad n c) (HS8 t).out)
  have HC := Lib.hid (fun (fr d : Int) (t : Shp) (sl : Value) (j : Nat) (v : Value) hv => gc_at (fr := fr) (d := d) (sl := sl) k j t v (List.getElem?_set_self (l := zS) (by show k < 8; exact hk8)) hv)
  clear HS8
  go_wp2_with (first | (refine wb_alloc H rfl 28 rfl _ Try.zeroValue28 ?_; clear H; intro b8 w9 H) | (refine wb_put H rfl 0 28 _ _ rfl _ 0 rfl _ _ rfl (.agg (gameC 0 (next (next D)) (zS.set k ⟨true, px D, py D, 0, 0, 0, 0⟩) (.slice ad3 0 c3))) rfl 59 info28 (HG.out ..) (Nat.le_of_ble_eq_true rfl) gcv_one (gameC 0 (next (next D)) (zS.set k ⟨true, px D, py D, 0, 0, 0, 0⟩) (.slice ad3 0 c3)) (splice_all _ _ (by rw [show (Value.cells (.agg (gameC 0 (next (next D)) (zS.set k ⟨true, px D, py D, 0, 0, 0, 0⟩) (.slice ad3 0 c3)))).size = 59 from HG.out ..]; rfl)) ?_; clear H; intro w9 H))
  refine (HSd.out _).mono ?_; rintro e w4 ⟨rfl, rfl⟩
  go_wp2_with fail
  refine (place_any D _).mono ?_; rintro e w5 ⟨rfl, hb⟩
  replace H := H.call hb
  clear hb
  have H' : Sb [] w0' w5 [(b8, gameC 0 (next (next D)) (zS.set k ⟨true, px D, py D, 0, 0, 0, 0⟩) (.slice ad3 0 c3), 28)] [(.slice ad3 0 c3, [])] := H
  clear H
  have H := H'
  go_wp2_with (first | (refine wb_cell H rfl 0 21 _ rfl _ (2 + k * 7 + 1) rfl _ _ rfl Try.isAgg21 (.int .i32 (px D)) (HC.out _ _ _ _ 1 _ rfl) ?_) | (refine wb_cell H rfl 0 21 _ rfl _ (2 + k * 7 + 2) rfl _ _ rfl Try.isAgg21 (.int .i32 (py D)) (HC.out _ _ _ _ 2 _ rfl) ?_) | (refine wb_cell H rfl 0 22 _ rfl _ 1 rfl _ _ rfl Try.isAgg22 (.int .u64 (next (next D))) rfl ?_))
  have px0 := px_bd D
  have py0 := py_bd D
  go_loopw [17, 10, 11, 13, 14, 15, 16] (fun vi vX vY vvx vvy vc vm W => ∃ (j : Nat) (x y vx vy cool : Int) (made : Nat) (L : List Sht) (ad1 : Option Addr) (c1 : Nat), j ≤ I.length ∧ made ≤ j ∧ vi = .int .i64 j ∧ vX = .int .i32 x ∧ vY = .int .i32 y ∧ vvx = .int .i32 vx ∧ vvy = .int .i32 vy ∧ vc = .int .i64 cool ∧ vm = .int .i64 made ∧ (0 ≤ x ∧ x < 16777216) ∧ (0 ≤ y ∧ y < 16777216) ∧ (-524288 ≤ vx ∧ vx ≤ 524288) ∧ (-524288 ≤ vy ∧ vy ≤ 524288) ∧ (0 ≤ cool ∧ cool ≤ 10) ∧ Hid (InvA k cool made L) ∧ Hid (Sb [] w0' W [(b8, gameC j (next (next D)) (zS.set k ⟨true, x, y, vx, vy, cool, 0⟩) (.slice ad1 L.length c1), 28)] [(.slice ad1 L.length c1, L)])) (fun vi _ _ _ _ _ _ _ => I.length - (intOf vi).toNat)
  case atStart => exact ⟨0, px D, py D, 0, 0, 0, 0, [], ad3, c3, Nat.zero_le _, Nat.le_refl _, rfl, rfl, rfl, rfl, rfl, rfl, rfl, by omega, by omega, by omega, by omega, by omega, Lib.hid ⟨by simp, by simp, by simp, List.Pairwise.nil, by simp⟩, Lib.hid H'⟩
  case round =>
    clear H' px0 py0
    obtain ⟨j, x, y, vx, vy, cool, made, L, ad1, c1, hj, hmd, rfl, rfl, rfl, rfl, rfl, rfl, rfl, hx, hy, hvx, hvy, hcl, HA, HB⟩ := hrel
    by_cases hlt : j < I.length
    · obtain ⟨gi, oi, had, hgi, hcs⟩ := Hin.out (by omega)
      subst had
      have H := HB.out
      obtain ⟨i, hi⟩ : ∃ i, I[j]? = some i := ⟨I[j], List.getElem?_eq_getElem hlt⟩
      have hat := inp_at hcs j i hi
      have hiok := HI.out i (List.mem_of_getElem? hi)
      have Hat := Lib.hid hat
      have Hg := Lib.hid hgi
      clear hcs hi hgi HB hat
      obtain ⟨q, hq⟩ : ∃ q, (decide (-127 ≤ i.x) && decide (-127 ≤ i.y)) = q := ⟨_, rfl⟩
      have HM := Lib.hid (fun w => stickMay i w q hq)
      have Hq := Lib.hid hq
      clear hq
      go_wp2_with (refine wb_oldRow H rfl 60 _ rfl gi (oi + j * 3) rfl [.int .i8 i.x, .int .i8 i.y, .int .u8 i.b] Hg.out (range3 Hat.out) _ Try.underlying60 rfl info60s ?_)
      refine (HM.out _).mono ?_; rintro e w6 ⟨rfl, hb⟩
      replace H := H.call hb
      clear hb HM
      cases q
      · go_wp2_with fail
        refine (told_any _).mono ?_; rintro e w7 ⟨rfl, hb⟩
        replace H := H.call hb
        clear hb
        go_wp2_with fail
        go_ret
        exact ⟨rfl, H.below⟩
      · have hxy : -127 ≤ i.x ∧ -127 ≤ i.y := by
          have := Hq.out
          simp at this
          exact this
        have hP := aloneP (j : Int) (next (next D)) x y vx vy cool made k L i hk8 hxy.1 hxy.2 hcl.1 hcl.2 HA.out
        have hok : Gme.ok ⟨(j : Int), next (next D), zS.set k ⟨true, x, y, vx, vy, cool, 0⟩, L⟩ := ⟨by dsimp only; omega, by dsimp only; omega, by dsimp only; rw [List.length_set]; rfl, fun t ht => by
          rcases List.mem_or_eq_of_mem_set ht with h | h
          · exact zS_ok t h
          · rw [h]; unfold Shp.ok OkShip; rw [if_pos rfl]; dsimp only; omega, HA.out.ok, by have := HA.out.three hcl.2; dsimp only; omega⟩
        have HX := Lib.hid (fun w hin => step_any ⟨(j : Int), next (next D), zS.set k ⟨true, x, y, vx, vy, cool, 0⟩, L⟩ (zI.set k i) (.slice ad1 L.length c1) w hok (by dsimp only; omega) (by rw [List.length_set]; rfl) (fun u hu => by
          rcases List.mem_or_eq_of_mem_set hu with h | h
          · exact zI_ok u h
          · rw [h]; exact hiok) hin)
        obtain ⟨L', hst, hA'⟩ := hP
        rw [hst] at HX
        dsimp only at HX
        have HIP := Lib.hid (ins_put zI k i (by show k < 8; exact hk8))
        have HIS := Lib.hid (fun (i : Inp) => show (insC (zI.set k i)).size = 24 by rw [insC_size, List.length_set]; rfl)
        have HA' := Lib.hid hA'
        have P1 := Lib.hid (fun w => push_any vx i.x w hvx.1 hvx.2 hiok.x0 hiok.x1)
        have P2 := Lib.hid (fun w => push_any vy i.y w hvy.1 hvy.2 hiok.y0 hiok.y1)
        have b1 := pushI_bd vx i.x
        have b2 := pushI_bd vy i.y
        clear hok hst hA' HA
        go_wp2_with (first | (refine wb_alloc H rfl 61 rfl _ Try.zeroValue61 ?_; clear H; intro b18 w9 H) | (refine wb_oldRow H rfl 60 _ rfl gi (oi + j * 3) rfl [.int .i8 i.x, .int .i8 i.y, .int .u8 i.b] Hg.out (range3 Hat.out) _ Try.underlying60 rfl info60s ?_) | (refine wb_put H rfl 0 60 _ _ rfl _ (k * 3) rfl _ _ rfl (.agg #[.int .i8 i.x, .int .i8 i.y, .int .u8 i.b]) rfl 3 info60s rfl (show k * 3 + 3 ≤ 24 by omega) rfl (insC (zI.set k i)) HIP.out ?_; clear H; intro w9 H) | (refine wb_whole H rfl 1 28 _ rfl _ rfl (gameC j (next (next D)) (zS.set k ⟨true, x, y, vx, vy, cool, 0⟩) (.slice ad1 L.length c1)) rfl _ Try.underlying28 rfl 59 info28 (HG.out ..) ?_) | (refine wb_whole H rfl 0 61 _ rfl _ rfl (insC (zI.set k i)) rfl _ Try.underlying61 rfl 24 info61 (HIS.out i) ?_))
        refine (HX.out _ (Own.shotsIn (H.rows _ (List.mem_cons_self ..)))).mono ?_; rintro e w10 ⟨⟨sl2, rfl, hown, hfr⟩, hb⟩
        dsimp only at hown ⊢
        obtain ⟨ad2, c2, rfl⟩ := own_form hown
        replace H := H.addRow _ L' hown hb hfr
        clear hown hb hfr HX
        generalize hvx' : pushI vx i.x = vx' at *
        generalize hvy' : pushI vy i.y = vy' at *
        have hm1 := mv_bd x vx'
        have hm2 := mv_bd y vy'
        have P3 := Lib.hid (fun w => move_any x vx' w (by omega) (by omega) (by omega) (by omega))
        have P4 := Lib.hid (fun w => move_any y vy' w (by omega) (by omega) (by omega) (by omega))
        clear hvx' hvy'
        generalize mv x vx' = x' at *
        generalize mv y vy' = y' at *
        go_wp2_with (first | (refine wb_alloc H rfl 28 rfl _ Try.zeroValue28 ?_; clear H; intro b19 w9 H) | (refine wb_put H rfl 0 28 _ _ rfl _ 0 rfl _ _ rfl (.agg (gameC ((j : Int) + 1) (next (next D)) (zS.set k ⟨true, x', y', vx', vy', coolA cool i.b, 0⟩) (.slice ad2 L'.length c2))) rfl 59 info28 (HG.out ..) (Nat.le_of_ble_eq_true rfl) gcv_one (gameC ((j : Int) + 1) (next (next D)) (zS.set k ⟨true, x', y', vx', vy', coolA cool i.b, 0⟩) (.slice ad2 L'.length c2)) (splice_all _ _ (by rw [show (Value.cells (.agg (gameC ((j : Int) + 1) (next (next D)) (zS.set k ⟨true, x', y', vx', vy', coolA cool i.b, 0⟩) (.slice ad2 L'.length c2)))).size = 59 from HG.out ..]; rfl)) ?_; clear H; intro w9 H))
        have kx := (H.old rfl (p := ⟨gi, oi + j * 3, none⟩) Hg.out).trans Hat.out.x
        have ky := (H.old rfl (p := ⟨gi, oi + j * 3 + 1, none⟩) Hg.out).trans Hat.out.y
        go_quiet (first | ((go_at_call_of 38 (Value.int .i32 vx); exact Calls.quiet_of_same ((P1.out _).mono fun _ _ h => ⟨h.1, h.2.symm⟩))) | ((go_at_call_of 38 (Value.int .i32 vy); exact Calls.quiet_of_same ((P2.out _).mono fun _ _ h => ⟨h.1, h.2.symm⟩))))
        replace H := H.call (below_drewN (Below.refl _ _) nq)
        clear kx ky
        go_wp2_with fail
        refine (P3.out _).mono ?_; rintro e w' ⟨rfl, rfl⟩
        go_wp2_with fail
        refine (P4.out _).mono ?_; rintro e w' ⟨rfl, rfl⟩
        clear P1 P2 P3 P4
        have hbit : bits .and .u8 i.b 1 = i.b % 2 := bits_mask .u8 8 (by decide) wraps_u8 1 (by decide) i.b (by have := hiok.b0; omega) (by have := hiok.b1; omega)
        have hcl0 := hcl.1
        have hcl1 := hcl.2
        by_cases hc : 0 < cool
        · have e1 : coolA cool i.b = cool - 1 := by unfold coolA; rw [if_pos hc]
          have e2 : madeA cool i.b made = made := by unfold madeA; rw [if_pos hc]
          rw [e1] at H HA'
          rw [e2] at HA'
          have hfew := HA'.out.few
          have CX := Lib.hid (fun (jj : Nat) (v : Value) hv => HC.out ((j : Int) + 1) (next (next D)) ⟨true, x', y', vx', vy', cool - 1, 0⟩ (.slice ad2 L'.length c2) jj v hv)
          clear e1 e2
          go_wp2_with (first | (refine wb_oldCell H rfl 5 _ rfl gi (oi + j * 3 + 2) rfl (.int .u8 i.b) Hg.out Hat.out.b Try.isAgg5 ?_) | (refine wb_part H rfl 0 24 _ rfl _ (2 + k * 7) rfl _ _ rfl _ Try.underlying24 rfl 7 info24 [.bool true, .int .i32 x', .int .i32 y', .int .i32 vx', .int .i32 vy', .int .i64 (cool - 1), .int .i64 0] CX.out rfl ?_) | (refine wb_alloc H rfl 24 rfl _ Try.zeroValue24 ?_; clear H; intro b21 w9 H) | (refine wb_put H rfl 0 24 _ _ rfl _ 0 rfl _ _ rfl (.agg #[.bool true, .int .i32 x', .int .i32 y', .int .i32 vx', .int .i32 vy', .int .i64 (cool - 1), .int .i64 0]) rfl 7 info24 rfl (Nat.le_of_ble_eq_true rfl) rfl #[.bool true, .int .i32 x', .int .i32 y', .int .i32 vx', .int .i32 vy', .int .i64 (cool - 1), .int .i64 0] rfl ?_; clear H; intro w9 H) | (refine wb_cell H rfl 0 21 _ rfl _ 1 rfl _ _ rfl Try.isAgg21 (.int .i32 x') rfl ?_) | (refine wb_cell H rfl 0 21 _ rfl _ 2 rfl _ _ rfl Try.isAgg21 (.int .i32 y') rfl ?_) | (refine wb_cell H rfl 0 21 _ rfl _ 3 rfl _ _ rfl Try.isAgg21 (.int .i32 vx') rfl ?_) | (refine wb_cell H rfl 0 21 _ rfl _ 4 rfl _ _ rfl Try.isAgg21 (.int .i32 vy') rfl ?_) | (refine wb_cell H rfl 0 3 _ rfl _ 5 rfl _ _ rfl Try.isAgg3 (.int .i64 (cool - 1)) rfl ?_) | (refine wb_cell H rfl 0 3 _ rfl _ 6 rfl _ _ rfl Try.isAgg3 (.int .i64 0) rfl ?_) | (refine wb_cell H rfl 1 26 _ rfl _ 58 rfl _ _ rfl Try.isAgg26 (.slice ad2 L'.length c2) (gc_shots (by rw [List.length_set]; rfl)) ?_) | (refine wb_whole H rfl 1 28 _ rfl _ rfl (gameC ((j : Int) + 1) (next (next D)) (zS.set k ⟨true, x', y', vx', vy', cool - 1, 0⟩) (.slice ad2 L'.length c2)) rfl _ Try.underlying28 rfl 59 info28 (HG.out ..) ?_) | (refine wb_put H rfl 3 28 _ _ rfl _ 0 rfl _ _ rfl (.agg (gameC ((j : Int) + 1) (next (next D)) (zS.set k ⟨true, x', y', vx', vy', cool - 1, 0⟩) (.slice ad2 L'.length c2))) rfl 59 info28 (HG.out ..) (by rw [HG.out]; omega) gcv_one (gameC ((j : Int) + 1) (next (next D)) (zS.set k ⟨true, x', y', vx', vy', cool - 1, 0⟩) (.slice ad2 L'.length c2)) (splice_all _ (gameC ((j : Int) + 1) (next (next D)) (zS.set k ⟨true, x', y', vx', vy', cool - 1, 0⟩) (.slice ad2 L'.length c2)) (by rw [HG.out, HG.out])) ?_; clear H; intro w9 H))
          have H2 : Sb [] w0' w9 [(b21, #[.bool true, .int .i32 x', .int .i32 y', .int .i32 vx', .int .i32 vy', .int .i64 (cool - 1), .int .i64 0], 24), (b19, gameC ((j : Int) + 1) (next (next D)) (zS.set k ⟨true, x', y', vx', vy', cool - 1, 0⟩) (.slice ad2 L'.length c2), 28), (b18, insC (zI.set k i), 61), (b8, gameC ((j : Int) + 1) (next (next D)) (zS.set k ⟨true, x', y', vx', vy', cool - 1, 0⟩) (.slice ad2 L'.length c2), 28)] [(.slice ad2 L'.length c2, L'), (.slice ad1 L.length c1, L)] := H
          exact ⟨⟨j + 1, x', y', vx', vy', cool - 1, made, L', ad2, c2, hlt, by omega, rfl, rfl, rfl, rfl, rfl, rfl, by first | rfl | go_num, hm1, hm2, b1, b2, by omega, HA', Lib.hid H2.tail.tail.tail.oneRow⟩, by simp only [intOf]; omega⟩
        · have hz : cool = 0 := by omega
          subst hz
          by_cases hb : i.b % 2 = 1
          · have e1 : coolA 0 i.b = 10 := by unfold coolA; rw [if_neg hc, if_pos hb]
            have e2 : madeA 0 i.b made = made + 1 := by unfold madeA; rw [if_neg hc, if_pos hb]
            rw [e1] at H HA'
            rw [e2] at HA'
            have hfew := HA'.out.few
            have CX := Lib.hid (fun (jj : Nat) (v : Value) hv => HC.out ((j : Int) + 1) (next (next D)) ⟨true, x', y', vx', vy', 10, 0⟩ (.slice ad2 L'.length c2) jj v hv)
            clear e1 e2
            have hqb : (i.b % 2 == 1) = true := beq_iff_eq.2 hb
            have Hb := Lib.hid hb
            clear hb
            go_wp2_with (first | (refine wb_oldCell H rfl 5 _ rfl gi (oi + j * 3 + 2) rfl (.int .u8 i.b) Hg.out Hat.out.b Try.isAgg5 ?_) | (refine wb_part H rfl 0 24 _ rfl _ (2 + k * 7) rfl _ _ rfl _ Try.underlying24 rfl 7 info24 [.bool true, .int .i32 x', .int .i32 y', .int .i32 vx', .int .i32 vy', .int .i64 (10), .int .i64 0] CX.out rfl ?_) | (refine wb_alloc H rfl 24 rfl _ Try.zeroValue24 ?_; clear H; intro b21 w9 H) | (refine wb_put H rfl 0 24 _ _ rfl _ 0 rfl _ _ rfl (.agg #[.bool true, .int .i32 x', .int .i32 y', .int .i32 vx', .int .i32 vy', .int .i64 (10), .int .i64 0]) rfl 7 info24 rfl (Nat.le_of_ble_eq_true rfl) rfl #[.bool true, .int .i32 x', .int .i32 y', .int .i32 vx', .int .i32 vy', .int .i64 (10), .int .i64 0] rfl ?_; clear H; intro w9 H) | (refine wb_cell H rfl 0 21 _ rfl _ 1 rfl _ _ rfl Try.isAgg21 (.int .i32 x') rfl ?_) | (refine wb_cell H rfl 0 21 _ rfl _ 2 rfl _ _ rfl Try.isAgg21 (.int .i32 y') rfl ?_) | (refine wb_cell H rfl 0 21 _ rfl _ 3 rfl _ _ rfl Try.isAgg21 (.int .i32 vx') rfl ?_) | (refine wb_cell H rfl 0 21 _ rfl _ 4 rfl _ _ rfl Try.isAgg21 (.int .i32 vy') rfl ?_) | (refine wb_cell H rfl 0 3 _ rfl _ 5 rfl _ _ rfl Try.isAgg3 (.int .i64 (10)) rfl ?_) | (refine wb_cell H rfl 0 3 _ rfl _ 6 rfl _ _ rfl Try.isAgg3 (.int .i64 0) rfl ?_) | (refine wb_cell H rfl 1 26 _ rfl _ 58 rfl _ _ rfl Try.isAgg26 (.slice ad2 L'.length c2) (gc_shots (by rw [List.length_set]; rfl)) ?_) | (refine wb_whole H rfl 1 28 _ rfl _ rfl (gameC ((j : Int) + 1) (next (next D)) (zS.set k ⟨true, x', y', vx', vy', 10, 0⟩) (.slice ad2 L'.length c2)) rfl _ Try.underlying28 rfl 59 info28 (HG.out ..) ?_) | (refine wb_put H rfl 3 28 _ _ rfl _ 0 rfl _ _ rfl (.agg (gameC ((j : Int) + 1) (next (next D)) (zS.set k ⟨true, x', y', vx', vy', 10, 0⟩) (.slice ad2 L'.length c2))) rfl 59 info28 (HG.out ..) (by rw [HG.out]; omega) gcv_one (gameC ((j : Int) + 1) (next (next D)) (zS.set k ⟨true, x', y', vx', vy', 10, 0⟩) (.slice ad2 L'.length c2)) (splice_all _ (gameC ((j : Int) + 1) (next (next D)) (zS.set k ⟨true, x', y', vx', vy', 10, 0⟩) (.slice ad2 L'.length c2)) (by rw [HG.out, HG.out])) ?_; clear H; intro w9 H))
            have H2 : Sb [] w0' w9 [(b21, #[.bool true, .int .i32 x', .int .i32 y', .int .i32 vx', .int .i32 vy', .int .i64 (10), .int .i64 0], 24), (b19, gameC ((j : Int) + 1) (next (next D)) (zS.set k ⟨true, x', y', vx', vy', 10, 0⟩) (.slice ad2 L'.length c2), 28), (b18, insC (zI.set k i), 61), (b8, gameC ((j : Int) + 1) (next (next D)) (zS.set k ⟨true, x', y', vx', vy', 10, 0⟩) (.slice ad2 L'.length c2), 28)] [(.slice ad2 L'.length c2, L'), (.slice ad1 L.length c1, L)] := H
            exact ⟨⟨j + 1, x', y', vx', vy', 10, made + 1, L', ad2, c2, hlt, by omega, rfl, rfl, rfl, rfl, rfl, rfl, by first | rfl | go_num, hm1, hm2, b1, b2, by omega, HA', Lib.hid H2.tail.tail.tail.oneRow⟩, by simp only [intOf]; omega⟩
          · have e1 : coolA 0 i.b = 0 := by unfold coolA; rw [if_neg hc, if_neg hb]
            have e2 : madeA 0 i.b made = made := by unfold madeA; rw [if_neg hc, if_neg hb]
            rw [e1] at H HA'
            rw [e2] at HA'
            have hfew := HA'.out.few
            have CX := Lib.hid (fun (jj : Nat) (v : Value) hv => HC.out ((j : Int) + 1) (next (next D)) ⟨true, x', y', vx', vy', 0, 0⟩ (.slice ad2 L'.length c2) jj v hv)
            clear e1 e2
            have hqb : (i.b % 2 == 1) = false := beq_eq_false_iff_ne.2 hb
            have Hb := Lib.hid hb
            clear hb
            go_wp2_with (first | (refine wb_oldCell H rfl 5 _ rfl gi (oi + j * 3 + 2) rfl (.int .u8 i.b) Hg.out Hat.out.b Try.isAgg5 ?_) | (refine wb_part H rfl 0 24 _ rfl _ (2 + k * 7) rfl _ _ rfl _ Try.underlying24 rfl 7 info24 [.bool true, .int .i32 x', .int .i32 y', .int .i32 vx', .int .i32 vy', .int .i64 (0), .int .i64 0] CX.out rfl ?_) | (refine wb_alloc H rfl 24 rfl _ Try.zeroValue24 ?_; clear H; intro b21 w9 H) | (refine wb_put H rfl 0 24 _ _ rfl _ 0 rfl _ _ rfl (.agg #[.bool true, .int .i32 x', .int .i32 y', .int .i32 vx', .int .i32 vy', .int .i64 (0), .int .i64 0]) rfl 7 info24 rfl (Nat.le_of_ble_eq_true rfl) rfl #[.bool true, .int .i32 x', .int .i32 y', .int .i32 vx', .int .i32 vy', .int .i64 (0), .int .i64 0] rfl ?_; clear H; intro w9 H) | (refine wb_cell H rfl 0 21 _ rfl _ 1 rfl _ _ rfl Try.isAgg21 (.int .i32 x') rfl ?_) | (refine wb_cell H rfl 0 21 _ rfl _ 2 rfl _ _ rfl Try.isAgg21 (.int .i32 y') rfl ?_) | (refine wb_cell H rfl 0 21 _ rfl _ 3 rfl _ _ rfl Try.isAgg21 (.int .i32 vx') rfl ?_) | (refine wb_cell H rfl 0 21 _ rfl _ 4 rfl _ _ rfl Try.isAgg21 (.int .i32 vy') rfl ?_) | (refine wb_cell H rfl 0 3 _ rfl _ 5 rfl _ _ rfl Try.isAgg3 (.int .i64 (0)) rfl ?_) | (refine wb_cell H rfl 0 3 _ rfl _ 6 rfl _ _ rfl Try.isAgg3 (.int .i64 0) rfl ?_) | (refine wb_cell H rfl 1 26 _ rfl _ 58 rfl _ _ rfl Try.isAgg26 (.slice ad2 L'.length c2) (gc_shots (by rw [List.length_set]; rfl)) ?_) | (refine wb_whole H rfl 1 28 _ rfl _ rfl (gameC ((j : Int) + 1) (next (next D)) (zS.set k ⟨true, x', y', vx', vy', 0, 0⟩) (.slice ad2 L'.length c2)) rfl _ Try.underlying28 rfl 59 info28 (HG.out ..) ?_) | (refine wb_put H rfl 3 28 _ _ rfl _ 0 rfl _ _ rfl (.agg (gameC ((j : Int) + 1) (next (next D)) (zS.set k ⟨true, x', y', vx', vy', 0, 0⟩) (.slice ad2 L'.length c2))) rfl 59 info28 (HG.out ..) (by rw [HG.out]; omega) gcv_one (gameC ((j : Int) + 1) (next (next D)) (zS.set k ⟨true, x', y', vx', vy', 0, 0⟩) (.slice ad2 L'.length c2)) (splice_all _ (gameC ((j : Int) + 1) (next (next D)) (zS.set k ⟨true, x', y', vx', vy', 0, 0⟩) (.slice ad2 L'.length c2)) (by rw [HG.out, HG.out])) ?_; clear H; intro w9 H))
            have H2 : Sb [] w0' w9 [(b21, #[.bool true, .int .i32 x', .int .i32 y', .int .i32 vx', .int .i32 vy', .int .i64 (0), .int .i64 0], 24), (b19, gameC ((j : Int) + 1) (next (next D)) (zS.set k ⟨true, x', y', vx', vy', 0, 0⟩) (.slice ad2 L'.length c2), 28), (b18, insC (zI.set k i), 61), (b8, gameC ((j : Int) + 1) (next (next D)) (zS.set k ⟨true, x', y', vx', vy', 0, 0⟩) (.slice ad2 L'.length c2), 28)] [(.slice ad2 L'.length c2, L'), (.slice ad1 L.length c1, L)] := H
            exact ⟨⟨j + 1, x', y', vx', vy', 0, made, L', ad2, c2, hlt, by omega, rfl, rfl, rfl, rfl, rfl, rfl, by first | rfl | go_num, hm1, hm2, b1, b2, by omega, HA', Lib.hid H2.tail.tail.tail.oneRow⟩, by simp only [intOf]; omega⟩
    · obtain rfl : j = I.length := by omega
      have H := HB.out
      have h3 := HA.out.three hcl.2
      clear HB
      go_wp2_with fail
      refine (told_any _).mono ?_; rintro e w5 ⟨rfl, hb⟩
      replace H := H.call hb
      clear hb
      go_wp2_with (first | (refine wb_cell H rfl 0 26 _ rfl _ 58 rfl _ _ rfl Try.isAgg26 (.slice ad1 L.length c1) (gc_shots (by rw [List.length_set]; rfl)) ?_) | (refine wb_cell H rfl 0 22 _ rfl _ 1 rfl _ _ rfl Try.isAgg22 (.int .u64 (next (next D))) rfl ?_))
      go_ret
      exact ⟨rfl, H.below⟩
theorem aloneBig (s : ByteArray) (sl : Int) (n : Nat) (ad : Option Addr) (c : Nat) (w0' : World) (h : 20 < s.size ∨ 80 < n) :
    Calls Try.prog 11 #[.string s, .int .i64 sl, .slice ad n c] w0' fun e w' => e = .returned (.bool true) ∧ Below w0'.heap.size w0' w' := by
  rcases Nat.lt_or_ge 20 s.size with h1 | h1
  · clear h
    go_enter Try.func11, Try.ntmps11
    go_wp2_with fail
    refine (told_any _).mono ?_; rintro e w5 ⟨rfl, hb⟩
    go_wp2_with fail
    go_ret
    exact ⟨rfl, hb⟩
  · have h2 : 80 < n := by omega
    clear h
    go_enter Try.func11, Try.ntmps11
    go_wp2_with fail
    refine (told_any _).mono ?_; rintro e w5 ⟨rfl, hb⟩
    go_wp2_with fail
    go_ret
    exact ⟨rfl, hb⟩
end Go.Proofs.Ytijnfeigoggaeaa.game
