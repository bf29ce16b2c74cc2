/- 'GameMay': the walk of the law. -/
import Derived.Test.YtijnfeigoggaeaaMp
import Derived.Test.YtijnfeigoggaeaaRv
import Derived.Deep.DeepCutAuto
import Derived.BigRegion
namespace Go.Proofs.Ytijnfeigoggaeaa.game
open Go.ChangeShapes Go.WideShapes Go.ChangeAt Go.RowKit dice
set_option maxRecDepth 100000

def InsAt (W : World) (ad : Option Addr) (I : List Inp) : Prop :=
  0 < I.length → ∃ g o, ad = some ⟨g, o, none⟩ ∧ g < W.heap.size ∧ ∀ j v, (I.flatMap inpL)[j]? = some v → W.cell? ⟨g, o + j, none⟩ = some v
theorem Sb.old {Hs : List Nat} {W0 w : World} {l : List Blk} {R : List RowS} (h : Sb Hs W0 w l R) (hn : Hs = []) {p : Addr} (hp : p.block < W0.heap.size) : w.cell? p = W0.cell? p := by
  subst hn
  exact h.below.cell hp
set_option maxHeartbeats 8000000 in
theorem mayWalk (s : ByteArray) (mask : Int) (I : List Inp) (ad : Option Addr) (c : Nat) (w0' : World) (hs : s.size ≤ 20) (hn : I.length ≤ 100) (hI : ∀ i ∈ I, i.ok) (hin : InsAt w0' ad I) :
    Calls Try.prog 8 #[.string s, .int .i64 mask, .slice ad I.length c] w0' fun e w' => e = .returned (.bool true) ∧ Below w0'.heap.size w0' w' := by
  obtain ⟨D, hD⟩ : ∃ D, seed s.data.toList = D := ⟨_, rfl⟩
  have HP := Lib.hid (playNil s mask D w0' (by unfold maxLen; omega) hD)
  have HI := Lib.hid hI
  have Hin := Lib.hid hin
  have H := Sb.start w0'
  clear hD hI hin
  go_enter Try.func8, Try.ntmps8
  go_wp2_with fail
  refine HP.out.mono ?_; rintro e w2 ⟨⟨ad0, c0, rfl, hown, hfr⟩, hb⟩
  replace H := H.addRow _ [] hown hb hfr
  clear hown hfr hb HP
  have hok := playTo_ok mask D 8
  obtain ⟨hL, hfr⟩ := playTo_L mask D 8
  have hon : ∀ j, j < 8 → ∃ t, (playTo mask (g0 D) 8).S[j]? = some t ∧ t.on = maskB mask j := fun j hj => by
    obtain ⟨t, h1, h2, _⟩ := playTo_on mask D 8 j hj (Nat.le_refl _)
    exact ⟨t, h1, by rw [h2, decide_eq_true hj]; rfl⟩
  generalize playTo mask (g0 D) 8 = g8 at *
  have HK := Lib.hid (And.intro hok (And.intro hfr hon))
  have HL := Lib.hid hL
  have HG8 : Hid ((gameC 0 g8.d g8.S (.slice ad0 0 c0)).size = 59) := Lib.hid (gc_size hok.s8)
  clear hok hfr hon hL
  go_wp2_with (first | (refine wb_alloc H rfl 28 rfl _ Try.zeroValue28 ?_; clear H; intro b7 w9 H) | (refine wb_put H rfl 0 28 _ _ rfl _ 0 rfl _ _ rfl (.agg (gameC 0 g8.d g8.S (.slice ad0 0 c0))) rfl 59 info28 HG8.out (Nat.le_of_ble_eq_true rfl) gcv_one (gameC 0 g8.d g8.S (.slice ad0 0 c0)) (splice_all _ (gameC 0 g8.d g8.S (.slice ad0 0 c0)) (by rw [HG8.out]; rfl)) ?_; clear H; intro w9 H))
  have H' : Sb [] w0' w9 [(b7, gameC g8.fr g8.d g8.S (.slice ad0 g8.L.length c0), 28)] [(.slice ad0 g8.L.length c0, g8.L)] := by
    rw [HL.out, HK.out.2.1]
    exact H
  clear H HL HG8
  go_loopw [9] (fun i W => ∃ (k : Nat) (g : Gme) (ad1 : Option Addr) (c1 : Nat), k ≤ I.length ∧ i = .int .i64 k ∧ Hid (g.ok ∧ g.fr = k ∧ ∀ j, j < 8 → ∃ t, g.S[j]? = some t ∧ t.on = maskB mask j) ∧ Hid (Sb [] w0' W [(b7, gameC g.fr g.d g.S (.slice ad1 g.L.length c1), 28)] [(.slice ad1 g.L.length c1, g.L)])) (fun i _ => I.length - (intOf i).toNat)
  case atStart => exact ⟨0, g8, ad0, c0, Nat.zero_le _, rfl, HK, Lib.hid H'⟩
  case round =>
    clear H' HK
    obtain ⟨k, g, ad1, c1, hk, rfl, HK, HB⟩ := hrel
    by_cases hlt : k < I.length
    · obtain ⟨gi, oi, had, hgi, hcs⟩ := Hin.out (by omega)
      subst had
      have H := HB.out
      have hat := fun j i (h : I[j]? = some i) => inp_at hcs j i h
      obtain ⟨i1, hi1⟩ : ∃ i, I[k]? = some i := ⟨I[k], List.getElem?_eq_getElem hlt⟩
      obtain ⟨m, hm⟩ : ∃ m : Nat, (I.length : Int) - 1 - k = m := ⟨I.length - 1 - k, by omega⟩
      obtain ⟨q, hq⟩ : ∃ q : Nat, (I.length : Int) / 2 = q := ⟨I.length / 2, by omega⟩
      have hm2 : m < I.length := by omega
      have hq2 : q < I.length := by omega
      obtain ⟨i2, hi2⟩ : ∃ i, I[m]? = some i := ⟨I[m], List.getElem?_eq_getElem hm2⟩
      obtain ⟨i3, hi3⟩ : ∃ i, I[q]? = some i := ⟨I[q], List.getElem?_eq_getElem hq2⟩
      obtain ⟨i0, hi0⟩ : ∃ i, I[0]? = some i := ⟨I[0], List.getElem?_eq_getElem (by omega)⟩
      have HX := Lib.hid (fun w hin => step_any g [i1, i2, i0, i1, i1, i3, i1, i0] (.slice ad1 g.L.length c1) w HK.out.1 (by rw [HK.out.2.1]; omega) rfl (fun i hi => by
        have m1 := HI.out i1 (List.mem_of_getElem? hi1)
        have m2 := HI.out i2 (List.mem_of_getElem? hi2)
        have m3 := HI.out i3 (List.mem_of_getElem? hi3)
        have m0 := HI.out i0 (List.mem_of_getElem? hi0)
        simp only [List.mem_cons, List.not_mem_nil, or_false] at hi
        rcases hi with rfl | rfl | rfl | rfl | rfl | rfl | rfl | rfl <;> assumption) hin)
      have HOK := Lib.hid (stepG_ok [i1, i2, i0, i1, i1, i3, i1, i0] HK.out.1 (by rw [HK.out.2.1]; omega))
      have HGR := Lib.hid (stepG_grows [i1, i2, i0, i1, i1, i3, i1, i0] HK.out.1)
      have HFR : Hid ((stepG g [i1, i2, i0, i1, i1, i3, i1, i0]).fr = g.fr + 1) := Lib.hid rfl
      have Hhi1 := Lib.hid hi1
      have Hhi2 := Lib.hid hi2
      have Hhi3 := Lib.hid hi3
      have Hhi0 := Lib.hid hi0
      have hcs' : ∀ j v, (I.flatMap inpL)[j]? = some v → wr.cell? ⟨gi, oi + j, none⟩ = some v := fun j v hv => (H.old rfl (p := ⟨gi, oi + j, none⟩) hgi).trans (hcs j v hv)
      have Hcs := Lib.hid hcs'
      clear HB hi1 hi2 hi3 hi0 hat hcs hcs' hgi
      go_upto_region 9 with fail
      go_cut [10, 11] (fun v e wx => ∃ b ad2 c2, v = .pointer (some ⟨b, 0, none⟩) ∧ e = .int .i64 0 ∧ Hid (Sb [] w0' wx [(b, gameC (stepG g [i1, i2, i0, i1, i1, i3, i1, i0]).fr (stepG g [i1, i2, i0, i1, i1, i3, i1, i0]).d (stepG g [i1, i2, i0, i1, i1, i3, i1, i0]).S (.slice ad2 (stepG g [i1, i2, i0, i1, i1, i3, i1, i0]).L.length c2), 28), (b7, gameC g.fr g.d g.S (.slice ad1 g.L.length c1), 28)] [(.slice ad2 (stepG g [i1, i2, i0, i1, i1, i3, i1, i0]).L.length c2, (stepG g [i1, i2, i0, i1, i1, i3, i1, i0]).L), (.slice ad1 g.L.length c1, g.L)]))
      case first =>
        have hcd : ({ wr with drawn := wr.drawn + 1 } : World).rangeAt gi oi (I.flatMap inpL) := fun j v hv => Hcs.out j v hv
        have e0 := (H.call ((Below.refl _ wr).drew)).range (List.mem_cons_self ..)
        obtain ⟨T, hT⟩ : ∃ T, rowF b7 0 (gameC g.fr g.d g.S (.slice ad1 g.L.length c1)).toList 43 ++ rowF gi oi (I.flatMap inpL) 43 = T := ⟨_, rfl⟩
        have HTd : ∀ t ∈ T, t.2.2 = 43 := fun t ht => by
          rw [← hT] at ht
          rcases List.mem_append.1 ht with h | h <;> exact rowF_d t h
        have HTk : ∀ k, 43 ≠ k → ∀ t ∈ T, t.2.2 ≠ k := fun k hk t ht => by rw [HTd t ht]; exact hk
        refine Gs_start (T := T) (n := 45) (by kernel_rfl) rfl ?_ ?_
        · intro t ht _
          rw [← hT] at ht
          rcases List.mem_append.1 ht with h | h
          · exact rowF_holds e0 t h
          · exact rowF_holds hcd t h
        clear e0 hcd
        subst hT
        replace H : Sb [] w0' ({ wr with drawn := wr.drawn + 1 } : World) _ _ := H.call ((Below.refl _ wr).drew)
        generalize ({ wr with drawn := wr.drawn + 1 } : World) = w at *
        refine Gs_loadRow 0 43 (fun d _ _ _ _ h => by cases d <;> exact h) (by kernel_rfl) rfl _ _ rfl rfl (some 37) rfl (by kernel_rfl) (by kernel_rfl) (HTk _ (by decide)) b7 0 rfl _ (fun j v hv => List.mem_append_left _ (mem_rowF hv)) (by kernel_rfl) _ Try.underlying28 rfl (by rw [Array.length_toList, gc_size HK.out.1.s8]; exact info28) ?_
        rw [Array.toArray_toList]
        simp only [Act.put, List.setIfInBounds_toArray, List.set_cons_succ, List.set_cons_zero]
        refine Gs_move 1 (fun d _ _ _ _ h => by cases d <;> exact h) (by kernel_rfl) rfl _ rfl rfl (some 38) rfl (by kernel_rfl) (by kernel_rfl) (HTk _ (by decide)) (.slice _ _ _) rfl ?_
        simp only [Act.put, List.setIfInBounds_toArray, List.set_cons_succ, List.set_cons_zero]
        refine Gs_move 2 (fun d _ _ _ _ h => by cases d <;> exact h) (by kernel_rfl) rfl _ rfl rfl (some 39) rfl (by kernel_rfl) (by kernel_rfl) (HTk _ (by decide)) (.int _ _) rfl ?_
        simp only [Act.put, List.setIfInBounds_toArray, List.set_cons_succ, List.set_cons_zero]
        refine Gs_bin 3 (fun d _ _ _ _ h => by cases d <;> exact h) (by kernel_rfl) rfl rfl (some 40) rfl (by kernel_rfl) (by kernel_rfl) (HTk _ (by decide)) (.pointer (some ⟨gi, oi + k * 3, none⟩)) (fun w => by go_simp; try (intro h; omega)) ?_
        simp only [Act.put, List.setIfInBounds_toArray, List.set_cons_succ, List.set_cons_zero]
        refine Gs_loadRow 4 43 (fun d _ _ _ _ h => by cases d <;> exact h) (by kernel_rfl) rfl _ _ rfl rfl (some 41) rfl (by kernel_rfl) (by kernel_rfl) (HTk _ (by decide)) gi (oi + k * 3) rfl [.int .i8 i1.x, .int .i8 i1.y, .int .u8 i1.b] (fun j v hv => List.mem_append_right _ (by have := mem_rowF (b := gi) (o := oi) (d := 43) (insL_at I k j i1 v Hhi1.out hv); simpa [Nat.add_assoc] using this)) (by kernel_rfl) _ Try.underlying60 rfl info60s ?_
        simp only [Act.put, List.setIfInBounds_toArray, List.set_cons_succ, List.set_cons_zero]
        refine Gs_move 5 (fun d _ _ _ _ h => by cases d <;> exact h) (by kernel_rfl) rfl _ rfl rfl (some 42) rfl (by kernel_rfl) (by kernel_rfl) (HTk _ (by decide)) (.slice _ _ _) rfl ?_
        simp only [Act.put, List.setIfInBounds_toArray, List.set_cons_succ, List.set_cons_zero]
        refine Gs_move 6 (fun d _ _ _ _ h => by cases d <;> exact h) (by kernel_rfl) rfl _ rfl rfl (some 43) rfl (by kernel_rfl) (by kernel_rfl) (HTk _ (by decide)) (.slice _ _ _) rfl ?_
        simp only [Act.put, List.setIfInBounds_toArray, List.set_cons_succ, List.set_cons_zero]
        refine Gs_bin 7 (fun d _ _ _ _ h => by cases d <;> exact h) (by kernel_rfl) rfl rfl (some 44) rfl (by kernel_rfl) (by kernel_rfl) (HTk _ (by decide)) (.int .i64 I.length) (fun w => by go_simp) ?_
        simp only [Act.put, List.setIfInBounds_toArray, List.set_cons_succ, List.set_cons_zero]
        refine Gs_bin 8 (fun d _ _ _ _ h => by cases d <;> exact h) (by kernel_rfl) rfl rfl (some 45) rfl (by kernel_rfl) (by kernel_rfl) (HTk _ (by decide)) (.int .i64 ((I.length : Int) - 1)) (fun w => by go_simp; try (rw [IntKind.wrap_i64]; omega)) ?_
        simp only [Act.put, List.setIfInBounds_toArray, List.set_cons_succ, List.set_cons_zero]
        refine Gs_move 9 (fun d _ _ _ _ h => by cases d <;> exact h) (by kernel_rfl) rfl _ rfl rfl (some 46) rfl (by kernel_rfl) (by kernel_rfl) (HTk _ (by decide)) (.int _ _) rfl ?_
        simp only [Act.put, List.setIfInBounds_toArray, List.set_cons_succ, List.set_cons_zero]
        refine Gs_bin 10 (fun d _ _ _ _ h => by cases d <;> exact h) (by kernel_rfl) rfl rfl (some 47) rfl (by kernel_rfl) (by kernel_rfl) (HTk _ (by decide)) (.int .i64 m) (fun w => by go_simp; try (rw [IntKind.wrap_i64]; omega)) ?_
        simp only [Act.put, List.setIfInBounds_toArray, List.set_cons_succ, List.set_cons_zero]
        refine Gs_bin 11 (fun d _ _ _ _ h => by cases d <;> exact h) (by kernel_rfl) rfl rfl (some 48) rfl (by kernel_rfl) (by kernel_rfl) (HTk _ (by decide)) (.pointer (some ⟨gi, oi + m * 3, none⟩)) (fun w => by go_simp; try (intro h; omega)) ?_
        simp only [Act.put, List.setIfInBounds_toArray, List.set_cons_succ, List.set_cons_zero]
        refine Gs_loadRow 12 43 (fun d _ _ _ _ h => by cases d <;> exact h) (by kernel_rfl) rfl _ _ rfl rfl (some 49) rfl (by kernel_rfl) (by kernel_rfl) (HTk _ (by decide)) gi (oi + m * 3) rfl [.int .i8 i2.x, .int .i8 i2.y, .int .u8 i2.b] (fun j v hv => List.mem_append_right _ (by have := mem_rowF (b := gi) (o := oi) (d := 43) (insL_at I m j i2 v Hhi2.out hv); simpa [Nat.add_assoc] using this)) (by kernel_rfl) _ Try.underlying60 rfl info60s ?_
        simp only [Act.put, List.setIfInBounds_toArray, List.set_cons_succ, List.set_cons_zero]
        refine Gs_move 13 (fun d _ _ _ _ h => by cases d <;> exact h) (by kernel_rfl) rfl _ rfl rfl (some 50) rfl (by kernel_rfl) (by kernel_rfl) (HTk _ (by decide)) (.slice _ _ _) rfl ?_
        simp only [Act.put, List.setIfInBounds_toArray, List.set_cons_succ, List.set_cons_zero]
        refine Gs_bin 14 (fun d _ _ _ _ h => by cases d <;> exact h) (by kernel_rfl) rfl rfl (some 51) rfl (by kernel_rfl) (by kernel_rfl) (HTk _ (by decide)) (.pointer (some ⟨gi, oi, none⟩)) (fun w => by go_simp; intro h; exact absurd hlt (by rw [h]; simp)) ?_
        simp only [Act.put, List.setIfInBounds_toArray, List.set_cons_succ, List.set_cons_zero]
        refine Gs_loadRow 15 43 (fun d _ _ _ _ h => by cases d <;> exact h) (by kernel_rfl) rfl _ _ rfl rfl (some 52) rfl (by kernel_rfl) (by kernel_rfl) (HTk _ (by decide)) gi (oi) rfl [.int .i8 i0.x, .int .i8 i0.y, .int .u8 i0.b] (fun j v hv => List.mem_append_right _ (by have := mem_rowF (b := gi) (o := oi) (d := 43) (insL_at I 0 j i0 v Hhi0.out hv); simpa [Nat.add_assoc] using this)) (by kernel_rfl) _ Try.underlying60 rfl info60s ?_
        simp only [Act.put, List.setIfInBounds_toArray, List.set_cons_succ, List.set_cons_zero]
        refine Gs_move 16 (fun d _ _ _ _ h => by cases d <;> exact h) (by kernel_rfl) rfl _ rfl rfl (some 53) rfl (by kernel_rfl) (by kernel_rfl) (HTk _ (by decide)) (.slice _ _ _) rfl ?_
        simp only [Act.put, List.setIfInBounds_toArray, List.set_cons_succ, List.set_cons_zero]
        refine Gs_move 17 (fun d _ _ _ _ h => by cases d <;> exact h) (by kernel_rfl) rfl _ rfl rfl (some 54) rfl (by kernel_rfl) (by kernel_rfl) (HTk _ (by decide)) (.int _ _) rfl ?_
        simp only [Act.put, List.setIfInBounds_toArray, List.set_cons_succ, List.set_cons_zero]
        refine Gs_bin 18 (fun d _ _ _ _ h => by cases d <;> exact h) (by kernel_rfl) rfl rfl (some 55) rfl (by kernel_rfl) (by kernel_rfl) (HTk _ (by decide)) (.pointer (some ⟨gi, oi + k * 3, none⟩)) (fun w => by go_simp; try (intro h; omega)) ?_
        simp only [Act.put, List.setIfInBounds_toArray, List.set_cons_succ, List.set_cons_zero]
        refine Gs_loadRow 19 43 (fun d _ _ _ _ h => by cases d <;> exact h) (by kernel_rfl) rfl _ _ rfl rfl (some 56) rfl (by kernel_rfl) (by kernel_rfl) (HTk _ (by decide)) gi (oi + k * 3) rfl [.int .i8 i1.x, .int .i8 i1.y, .int .u8 i1.b] (fun j v hv => List.mem_append_right _ (by have := mem_rowF (b := gi) (o := oi) (d := 43) (insL_at I k j i1 v Hhi1.out hv); simpa [Nat.add_assoc] using this)) (by kernel_rfl) _ Try.underlying60 rfl info60s ?_
        simp only [Act.put, List.setIfInBounds_toArray, List.set_cons_succ, List.set_cons_zero]
        refine Gs_move 20 (fun d _ _ _ _ h => by cases d <;> exact h) (by kernel_rfl) rfl _ rfl rfl (some 57) rfl (by kernel_rfl) (by kernel_rfl) (HTk _ (by decide)) (.slice _ _ _) rfl ?_
        simp only [Act.put, List.setIfInBounds_toArray, List.set_cons_succ, List.set_cons_zero]
        refine Gs_move 21 (fun d _ _ _ _ h => by cases d <;> exact h) (by kernel_rfl) rfl _ rfl rfl (some 58) rfl (by kernel_rfl) (by kernel_rfl) (HTk _ (by decide)) (.int _ _) rfl ?_
        simp only [Act.put, List.setIfInBounds_toArray, List.set_cons_succ, List.set_cons_zero]
        refine Gs_bin 22 (fun d _ _ _ _ h => by cases d <;> exact h) (by kernel_rfl) rfl rfl (some 59) rfl (by kernel_rfl) (by kernel_rfl) (HTk _ (by decide)) (.pointer (some ⟨gi, oi + k * 3, none⟩)) (fun w => by go_simp; try (intro h; omega)) ?_
        simp only [Act.put, List.setIfInBounds_toArray, List.set_cons_succ, List.set_cons_zero]
        refine Gs_loadRow 23 43 (fun d _ _ _ _ h => by cases d <;> exact h) (by kernel_rfl) rfl _ _ rfl rfl (some 60) rfl (by kernel_rfl) (by kernel_rfl) (HTk _ (by decide)) gi (oi + k * 3) rfl [.int .i8 i1.x, .int .i8 i1.y, .int .u8 i1.b] (fun j v hv => List.mem_append_right _ (by have := mem_rowF (b := gi) (o := oi) (d := 43) (insL_at I k j i1 v Hhi1.out hv); simpa [Nat.add_assoc] using this)) (by kernel_rfl) _ Try.underlying60 rfl info60s ?_
        simp only [Act.put, List.setIfInBounds_toArray, List.set_cons_succ, List.set_cons_zero]
        refine Gs_move 24 (fun d _ _ _ _ h => by cases d <;> exact h) (by kernel_rfl) rfl _ rfl rfl (some 61) rfl (by kernel_rfl) (by kernel_rfl) (HTk _ (by decide)) (.slice _ _ _) rfl ?_
        simp only [Act.put, List.setIfInBounds_toArray, List.set_cons_succ, List.set_cons_zero]
        refine Gs_move 25 (fun d _ _ _ _ h => by cases d <;> exact h) (by kernel_rfl) rfl _ rfl rfl (some 62) rfl (by kernel_rfl) (by kernel_rfl) (HTk _ (by decide)) (.slice _ _ _) rfl ?_
        simp only [Act.put, List.setIfInBounds_toArray, List.set_cons_succ, List.set_cons_zero]
        refine Gs_bin 26 (fun d _ _ _ _ h => by cases d <;> exact h) (by kernel_rfl) rfl rfl (some 63) rfl (by kernel_rfl) (by kernel_rfl) (HTk _ (by decide)) (.int .i64 I.length) (fun w => by go_simp) ?_
        simp only [Act.put, List.setIfInBounds_toArray, List.set_cons_succ, List.set_cons_zero]
        refine Gs_bin 27 (fun d _ _ _ _ h => by cases d <;> exact h) (by kernel_rfl) rfl rfl (some 64) rfl (by kernel_rfl) (by kernel_rfl) (HTk _ (by decide)) (.int .i64 q) (fun w => by go_simp; rw [IntKind.wrap_i64]; omega) ?_
        simp only [Act.put, List.setIfInBounds_toArray, List.set_cons_succ, List.set_cons_zero]
        refine Gs_bin 28 (fun d _ _ _ _ h => by cases d <;> exact h) (by kernel_rfl) rfl rfl (some 65) rfl (by kernel_rfl) (by kernel_rfl) (HTk _ (by decide)) (.pointer (some ⟨gi, oi + q * 3, none⟩)) (fun w => by go_simp; try (intro h; omega)) ?_
        simp only [Act.put, List.setIfInBounds_toArray, List.set_cons_succ, List.set_cons_zero]
        refine Gs_loadRow 29 43 (fun d _ _ _ _ h => by cases d <;> exact h) (by kernel_rfl) rfl _ _ rfl rfl (some 66) rfl (by kernel_rfl) (by kernel_rfl) (HTk _ (by decide)) gi (oi + q * 3) rfl [.int .i8 i3.x, .int .i8 i3.y, .int .u8 i3.b] (fun j v hv => List.mem_append_right _ (by have := mem_rowF (b := gi) (o := oi) (d := 43) (insL_at I q j i3 v Hhi3.out hv); simpa [Nat.add_assoc] using this)) (by kernel_rfl) _ Try.underlying60 rfl info60s ?_
        simp only [Act.put, List.setIfInBounds_toArray, List.set_cons_succ, List.set_cons_zero]
        refine Gs_move 30 (fun d _ _ _ _ h => by cases d <;> exact h) (by kernel_rfl) rfl _ rfl rfl (some 67) rfl (by kernel_rfl) (by kernel_rfl) (HTk _ (by decide)) (.slice _ _ _) rfl ?_
        simp only [Act.put, List.setIfInBounds_toArray, List.set_cons_succ, List.set_cons_zero]
        refine Gs_move 31 (fun d _ _ _ _ h => by cases d <;> exact h) (by kernel_rfl) rfl _ rfl rfl (some 68) rfl (by kernel_rfl) (by kernel_rfl) (HTk _ (by decide)) (.int _ _) rfl ?_
        simp only [Act.put, List.setIfInBounds_toArray, List.set_cons_succ, List.set_cons_zero]
        refine Gs_bin 32 (fun d _ _ _ _ h => by cases d <;> exact h) (by kernel_rfl) rfl rfl (some 69) rfl (by kernel_rfl) (by kernel_rfl) (HTk _ (by decide)) (.pointer (some ⟨gi, oi + k * 3, none⟩)) (fun w => by go_simp; try (intro h; omega)) ?_
        simp only [Act.put, List.setIfInBounds_toArray, List.set_cons_succ, List.set_cons_zero]
        refine Gs_loadRow 33 43 (fun d _ _ _ _ h => by cases d <;> exact h) (by kernel_rfl) rfl _ _ rfl rfl (some 70) rfl (by kernel_rfl) (by kernel_rfl) (HTk _ (by decide)) gi (oi + k * 3) rfl [.int .i8 i1.x, .int .i8 i1.y, .int .u8 i1.b] (fun j v hv => List.mem_append_right _ (by have := mem_rowF (b := gi) (o := oi) (d := 43) (insL_at I k j i1 v Hhi1.out hv); simpa [Nat.add_assoc] using this)) (by kernel_rfl) _ Try.underlying60 rfl info60s ?_
        simp only [Act.put, List.setIfInBounds_toArray, List.set_cons_succ, List.set_cons_zero]
        refine Gs_move 34 (fun d _ _ _ _ h => by cases d <;> exact h) (by kernel_rfl) rfl _ rfl rfl (some 71) rfl (by kernel_rfl) (by kernel_rfl) (HTk _ (by decide)) (.slice _ _ _) rfl ?_
        simp only [Act.put, List.setIfInBounds_toArray, List.set_cons_succ, List.set_cons_zero]
        refine Gs_bin 35 (fun d _ _ _ _ h => by cases d <;> exact h) (by kernel_rfl) rfl rfl (some 72) rfl (by kernel_rfl) (by kernel_rfl) (HTk _ (by decide)) (.pointer (some ⟨gi, oi, none⟩)) (fun w => by go_simp; intro h; exact absurd hlt (by rw [h]; simp)) ?_
        simp only [Act.put, List.setIfInBounds_toArray, List.set_cons_succ, List.set_cons_zero]
        refine Gs_loadRow 36 43 (fun d _ _ _ _ h => by cases d <;> exact h) (by kernel_rfl) rfl _ _ rfl rfl (some 73) rfl (by kernel_rfl) (by kernel_rfl) (HTk _ (by decide)) gi (oi) rfl [.int .i8 i0.x, .int .i8 i0.y, .int .u8 i0.b] (fun j v hv => List.mem_append_right _ (by have := mem_rowF (b := gi) (o := oi) (d := 43) (insL_at I 0 j i0 v Hhi0.out hv); simpa [Nat.add_assoc] using this)) (by kernel_rfl) _ Try.underlying60 rfl info60s ?_
        simp only [Act.put, List.setIfInBounds_toArray, List.set_cons_succ, List.set_cons_zero]
        refine Gs_bin 37 (fun d _ _ _ _ h => by cases d <;> exact h) (by kernel_rfl) rfl rfl (some 74) rfl (by kernel_rfl) (by kernel_rfl) (HTk _ (by decide)) (.agg #[.int .i8 i1.x, .int .i8 i1.y, .int .u8 i1.b, .int .i8 i2.x, .int .i8 i2.y, .int .u8 i2.b, .int .i8 i0.x, .int .i8 i0.y, .int .u8 i0.b, .int .i8 i1.x, .int .i8 i1.y, .int .u8 i1.b, .int .i8 i1.x, .int .i8 i1.y, .int .u8 i1.b, .int .i8 i3.x, .int .i8 i3.y, .int .u8 i3.b, .int .i8 i1.x, .int .i8 i1.y, .int .u8 i1.b, .int .i8 i0.x, .int .i8 i0.y, .int .u8 i0.b]) (fun w => by go_simp) ?_
        simp only [Act.put, List.setIfInBounds_toArray, List.set_cons_succ, List.set_cons_zero]
        refine Gs_two 38 42 rfl rfl (some 75) rfl rfl rfl (some 10) rfl (by kernel_rfl) 31 #[.agg (gameC g.fr g.d g.S (.slice ad1 g.L.length c1)), .agg #[.int .i8 i1.x, .int .i8 i1.y, .int .u8 i1.b, .int .i8 i2.x, .int .i8 i2.y, .int .u8 i2.b, .int .i8 i0.x, .int .i8 i0.y, .int .u8 i0.b, .int .i8 i1.x, .int .i8 i1.y, .int .u8 i1.b, .int .i8 i1.x, .int .i8 i1.y, .int .u8 i1.b, .int .i8 i3.x, .int .i8 i3.y, .int .u8 i3.b, .int .i8 i1.x, .int .i8 i1.y, .int .u8 i1.b, .int .i8 i0.x, .int .i8 i0.y, .int .u8 i0.b]] (by go_simp) (HX.out _ (Own.shotsIn (H.rows _ (List.mem_cons_self ..)))) (.pointer (some ⟨w.heap.size, 0, none⟩)) (.cells #[.int .i64 0, .int .u64 0, .bool false, .int .i32 0, .int .i32 0, .int .i32 0, .int .i32 0, .int .i64 0, .int .i64 0, .bool false, .int .i32 0, .int .i32 0, .int .i32 0, .int .i32 0, .int .i64 0, .int .i64 0, .bool false, .int .i32 0, .int .i32 0, .int .i32 0, .int .i32 0, .int .i64 0, .int .i64 0, .bool false, .int .i32 0, .int .i32 0, .int .i32 0, .int .i32 0, .int .i64 0, .int .i64 0, .bool false, .int .i32 0, .int .i32 0, .int .i32 0, .int .i32 0, .int .i64 0, .int .i64 0, .bool false, .int .i32 0, .int .i32 0, .int .i32 0, .int .i32 0, .int .i64 0, .int .i64 0, .bool false, .int .i32 0, .int .i32 0, .int .i32 0, .int .i32 0, .int .i64 0, .int .i64 0, .bool false, .int .i32 0, .int .i32 0, .int .i32 0, .int .i32 0, .int .i64 0, .int .i64 0, .slice none 0 0] 28) (by go_simp) ?_ ?_
        · rintro e w5 ⟨⟨sl2, rfl, hown, hfr⟩, hb⟩
          generalize hg2 : stepG g [i1, i2, i0, i1, i1, i3, i1, i0] = g2 at *
          obtain ⟨ad2, c2, rfl⟩ := own_form hown
          refine ⟨_, rfl, hb, ?_⟩
          replace H := H.addRow _ g2.L hown hb hfr
          clear hown hb hfr
          have HGS := Lib.hid (gc_size (fr := g2.fr) (d := g2.d) (S := g2.S) (sl := .slice ad2 g2.L.length c2) HOK.out.s8)
          simp only [Act.put, List.setIfInBounds_toArray, List.set_cons_succ, List.set_cons_zero]
          refine Gs_move 39 (fun d _ _ _ _ h => by cases d <;> exact h) (by kernel_rfl) rfl _ rfl rfl (some 36) rfl (by kernel_rfl) (by kernel_rfl) (HTk _ (by decide)) (.tuple _) rfl ?_
          simp only [Act.put, List.setIfInBounds_toArray, List.set_cons_succ, List.set_cons_zero]
          refine Gs_bin 40 (fun d _ _ _ _ h => by cases d <;> exact h) (by kernel_rfl) rfl rfl (some 76) rfl (by kernel_rfl) (by kernel_rfl) (HTk _ (by decide)) (.agg (gameC g2.fr g2.d g2.S (.slice ad2 g2.L.length c2))) (fun w => by go_simp) ?_
          simp only [Act.put, List.setIfInBounds_toArray, List.set_cons_succ, List.set_cons_zero]
          refine Gs_bin 41 (fun d _ _ _ _ h => by cases d <;> exact h) (by kernel_rfl) rfl rfl (some 77) rfl (by kernel_rfl) (by kernel_rfl) (HTk _ (by decide)) (.int .i64 0) (fun w => by go_simp) ?_
          simp only [Act.put, List.setIfInBounds_toArray, List.set_cons_succ, List.set_cons_zero]
          refine Gs_alloc 42 rfl rfl (some 10) rfl (by kernel_rfl) (.pointer (some ⟨w5.heap.size, 0, none⟩)) (.cells #[.int .i64 0, .int .u64 0, .bool false, .int .i32 0, .int .i32 0, .int .i32 0, .int .i32 0, .int .i64 0, .int .i64 0, .bool false, .int .i32 0, .int .i32 0, .int .i32 0, .int .i32 0, .int .i64 0, .int .i64 0, .bool false, .int .i32 0, .int .i32 0, .int .i32 0, .int .i32 0, .int .i64 0, .int .i64 0, .bool false, .int .i32 0, .int .i32 0, .int .i32 0, .int .i32 0, .int .i64 0, .int .i64 0, .bool false, .int .i32 0, .int .i32 0, .int .i32 0, .int .i32 0, .int .i64 0, .int .i64 0, .bool false, .int .i32 0, .int .i32 0, .int .i32 0, .int .i32 0, .int .i64 0, .int .i64 0, .bool false, .int .i32 0, .int .i32 0, .int .i32 0, .int .i32 0, .int .i64 0, .int .i64 0, .bool false, .int .i32 0, .int .i32 0, .int .i32 0, .int .i32 0, .int .i64 0, .int .i64 0, .slice none 0 0] 28) (by go_simp) ?_
          replace H := H.new #[.int .i64 0, .int .u64 0, .bool false, .int .i32 0, .int .i32 0, .int .i32 0, .int .i32 0, .int .i64 0, .int .i64 0, .bool false, .int .i32 0, .int .i32 0, .int .i32 0, .int .i32 0, .int .i64 0, .int .i64 0, .bool false, .int .i32 0, .int .i32 0, .int .i32 0, .int .i32 0, .int .i64 0, .int .i64 0, .bool false, .int .i32 0, .int .i32 0, .int .i32 0, .int .i32 0, .int .i64 0, .int .i64 0, .bool false, .int .i32 0, .int .i32 0, .int .i32 0, .int .i32 0, .int .i64 0, .int .i64 0, .bool false, .int .i32 0, .int .i32 0, .int .i32 0, .int .i32 0, .int .i64 0, .int .i64 0, .bool false, .int .i32 0, .int .i32 0, .int .i32 0, .int .i32 0, .int .i64 0, .int .i64 0, .bool false, .int .i32 0, .int .i32 0, .int .i32 0, .int .i32 0, .int .i64 0, .int .i64 0, .slice none 0 0] 28
          simp only [Act.put, List.setIfInBounds_toArray, List.set_cons_succ, List.set_cons_zero]
          refine Gs_tail 43 (by kernel_rfl) HTd (by kernel_rfl) rfl ?_
          simp only [List.drop_succ_cons, List.drop_zero]
          go_wp2_with (refine wb_put H rfl 0 28 _ _ rfl _ 0 rfl _ _ rfl (.agg (gameC g2.fr g2.d g2.S (.slice ad2 g2.L.length c2))) rfl 59 info28 HGS.out (Nat.le_of_ble_eq_true rfl) gcv_one (gameC g2.fr g2.d g2.S (.slice ad2 g2.L.length c2)) (splice_all _ (gameC g2.fr g2.d g2.S (.slice ad2 g2.L.length c2)) (by rw [HGS.out]; rfl)) ?_; clear H; intro w9 H)
          go_meet
          exact ⟨_, ad2, c2, rfl, rfl, Lib.hid H⟩
        · replace H := H.new #[.int .i64 0, .int .u64 0, .bool false, .int .i32 0, .int .i32 0, .int .i32 0, .int .i32 0, .int .i64 0, .int .i64 0, .bool false, .int .i32 0, .int .i32 0, .int .i32 0, .int .i32 0, .int .i64 0, .int .i64 0, .bool false, .int .i32 0, .int .i32 0, .int .i32 0, .int .i32 0, .int .i64 0, .int .i64 0, .bool false, .int .i32 0, .int .i32 0, .int .i32 0, .int .i32 0, .int .i64 0, .int .i64 0, .bool false, .int .i32 0, .int .i32 0, .int .i32 0, .int .i32 0, .int .i64 0, .int .i64 0, .bool false, .int .i32 0, .int .i32 0, .int .i32 0, .int .i32 0, .int .i64 0, .int .i64 0, .bool false, .int .i32 0, .int .i32 0, .int .i32 0, .int .i32 0, .int .i64 0, .int .i64 0, .bool false, .int .i32 0, .int .i32 0, .int .i32 0, .int .i32 0, .int .i64 0, .int .i64 0, .slice none 0 0] 28
          simp only [Act.put, List.setIfInBounds_toArray, List.set_cons_succ, List.set_cons_zero]
          refine Gs_callB 38 rfl rfl (some 75) rfl (by kernel_rfl) 31 #[.agg (gameC g.fr g.d g.S (.slice ad1 g.L.length c1)), .agg #[.int .i8 i1.x, .int .i8 i1.y, .int .u8 i1.b, .int .i8 i2.x, .int .i8 i2.y, .int .u8 i2.b, .int .i8 i0.x, .int .i8 i0.y, .int .u8 i0.b, .int .i8 i1.x, .int .i8 i1.y, .int .u8 i1.b, .int .i8 i1.x, .int .i8 i1.y, .int .u8 i1.b, .int .i8 i3.x, .int .i8 i3.y, .int .u8 i3.b, .int .i8 i1.x, .int .i8 i1.y, .int .u8 i1.b, .int .i8 i0.x, .int .i8 i0.y, .int .u8 i0.b]] (by go_simp) (HX.out _ (Own.shotsIn (H.rows _ (List.mem_cons_self ..)))) ?_
          rintro e w5 ⟨⟨sl2, rfl, hown, hfr⟩, hb⟩
          generalize hg2 : stepG g [i1, i2, i0, i1, i1, i3, i1, i0] = g2 at *
          obtain ⟨ad2, c2, rfl⟩ := own_form hown
          refine ⟨_, rfl, hb, ?_⟩
          replace H := H.addRow _ g2.L hown hb hfr
          clear hown hb hfr
          have HGS := Lib.hid (gc_size (fr := g2.fr) (d := g2.d) (S := g2.S) (sl := .slice ad2 g2.L.length c2) HOK.out.s8)
          simp only [Act.put, List.setIfInBounds_toArray, List.set_cons_succ, List.set_cons_zero]
          refine Gs_move 39 (fun d _ _ _ _ h => by cases d <;> exact h) (by kernel_rfl) rfl _ rfl rfl (some 36) rfl (by kernel_rfl) (by kernel_rfl) (HTk _ (by decide)) (.tuple _) rfl ?_
          simp only [Act.put, List.setIfInBounds_toArray, List.set_cons_succ, List.set_cons_zero]
          refine Gs_bin 40 (fun d _ _ _ _ h => by cases d <;> exact h) (by kernel_rfl) rfl rfl (some 76) rfl (by kernel_rfl) (by kernel_rfl) (HTk _ (by decide)) (.agg (gameC g2.fr g2.d g2.S (.slice ad2 g2.L.length c2))) (fun w => by go_simp) ?_
          simp only [Act.put, List.setIfInBounds_toArray, List.set_cons_succ, List.set_cons_zero]
          refine Gs_bin 41 (fun d _ _ _ _ h => by cases d <;> exact h) (by kernel_rfl) rfl rfl (some 77) rfl (by kernel_rfl) (by kernel_rfl) (HTk _ (by decide)) (.int .i64 0) (fun w => by go_simp) ?_
          simp only [Act.put, List.setIfInBounds_toArray, List.set_cons_succ, List.set_cons_zero]
          refine Gs_tail 43 (by kernel_rfl) HTd (by kernel_rfl) rfl ?_
          simp only [List.drop_succ_cons, List.drop_zero]
          go_wp2_with (refine wb_put H rfl 0 28 _ _ rfl _ 0 rfl _ _ rfl (.agg (gameC g2.fr g2.d g2.S (.slice ad2 g2.L.length c2))) rfl 59 info28 HGS.out (Nat.le_of_ble_eq_true rfl) gcv_one (gameC g2.fr g2.d g2.S (.slice ad2 g2.L.length c2)) (splice_all _ (gameC g2.fr g2.d g2.S (.slice ad2 g2.L.length c2)) (by rw [HGS.out]; rfl)) ?_; clear H; intro w9 H)
          go_meet
          exact ⟨_, ad2, c2, rfl, rfl, Lib.hid H⟩
      case rest =>
        obtain ⟨b10, ad2, c2, rfl, rfl, HB2⟩ := hcut
        generalize stepG g [i1, i2, i0, i1, i1, i3, i1, i0] = g2 at *
        have H := HB2.out
        clear HB2 HX
        have HGS : Hid ((gameC g2.fr g2.d g2.S (.slice ad2 g2.L.length c2)).size = 59) := Lib.hid (gc_size HOK.out.s8)
        have HGS1 : Hid ((gameC g.fr g.d g.S (.slice ad1 g.L.length c1)).size = 59) := Lib.hid (gc_size HK.out.1.s8)
        have hf1 : g2.fr = g.fr + 1 := HFR.out
        have Hf1 := Lib.hid hf1
        clear hf1
        go_wp2_with (refine wb_whole H rfl 0 28 _ rfl _ rfl (gameC g2.fr g2.d g2.S (.slice ad2 g2.L.length c2)) rfl _ Try.underlying28 rfl 59 info28 HGS.out ?_)
        refine (mayG g2 _ _ HOK.out (Own.shotsIn (H.rows _ (List.mem_cons_self ..)))).mono ?_; rintro e w6 ⟨rfl, hb⟩
        replace H := H.call hb
        clear hb
        have hk1 : g.fr = k := HK.out.2.1
        have F2 : Hid ((gameC g2.fr g2.d g2.S (.slice ad2 g2.L.length c2))[0]? = some (.int .i64 ((k : Int) + 1))) := Lib.hid (by rw [gc_frame, Hf1.out, hk1])
        have F1 : Hid ((gameC g.fr g.d g.S (.slice ad1 g.L.length c1))[0]? = some (.int .i64 (k : Int))) := Lib.hid (by rw [gc_frame, hk1])
        clear hk1
        go_wp2_with (first | (refine wb_cell H rfl 0 3 _ rfl _ 0 rfl _ _ rfl Try.isAgg3 (.int .i64 ((k : Int) + 1)) F2.out ?_) | (refine wb_cell H rfl 1 3 _ rfl _ 0 rfl _ _ rfl Try.isAgg3 (.int .i64 (k : Int)) F1.out ?_))
        have HON := Lib.hid HK.out.2.2
        have HGR2 := Lib.hid HGR.out.2
        have H' := H
        clear H F1 F2
        go_loopw [12] (fun i W => ∃ j : Nat, j ≤ 8 ∧ i = .int .i64 j ∧ Hid (Sb [] w0' W [(b10, gameC g2.fr g2.d g2.S (.slice ad2 g2.L.length c2), 28), (b7, gameC g.fr g.d g.S (.slice ad1 g.L.length c1), 28)] [(.slice ad2 g2.L.length c2, g2.L), (.slice ad1 g.L.length c1, g.L)])) (fun i _ => 8 - (intOf i).toNat)
        case atStart => exact ⟨0, Nat.zero_le _, rfl, Lib.hid H'⟩
        case round =>
          clear H'
          obtain ⟨j, hj, rfl, HJ⟩ := hrel
          by_cases hj8 : j < 8
          · obtain ⟨t, ht, hto⟩ := HON.out j hj8
            obtain ⟨t', ht', hto', hts⟩ := HGR2.out j t ht
            have hb10 := HJ.out.holds _ (List.mem_cons_self ..)
            have hb7 := HJ.out.holds _ (List.mem_cons_of_mem _ (List.mem_cons_self ..))
            have c1o := (cell_of_row _ _ (2 + j * 7) _ _ _ hb10).trans (gc_at0 j t' ht')
            have c2o := (cell_of_row _ _ (2 + j * 7) _ _ _ hb7).trans (gc_at0 j t ht)
            have c1s := (cell_of_row _ _ (2 + j * 7 + 6) _ _ _ hb10).trans (gc_at j 6 t' _ ht' rfl)
            have c2s := (cell_of_row _ _ (2 + j * 7 + 6) _ _ _ hb7).trans (gc_at j 6 t _ ht rfl)
            rw [hto'] at c1o
            rw [hto] at c1o c2o
            have hlt2 : decide (t'.score < t.score) = false := decide_eq_false (by omega)
            generalize t'.score = s2 at *
            generalize t.score = s1 at *
            obtain ⟨o, ho⟩ : ∃ o, maskB mask j = o := ⟨_, rfl⟩
            rw [ho] at c1o c2o
            have hbq : (bits BinOp.and IntKind.i64 (mask / 2 ^ j) 1 == 1) = o := ho
            clear ht ht' hto hto' hts hb10 hb7 ho
            cases o
            all_goals
              go_wp2_with fail
              go_quiet (fail)
              have HJ' := Lib.hid (HJ.out.call (below_drewN (Below.refl _ _) nq))
              clear c1o c2o c1s c2s
              go_wp2_with fail
              exact ⟨⟨j + 1, hj8, rfl, HJ'⟩, by simp only [intOf]; omega⟩
          · obtain rfl : j = 8 := by omega
            have H := HJ.out
            clear HJ
            go_wp2_with (first | (refine wb_whole H rfl 0 28 _ rfl _ rfl (gameC g2.fr g2.d g2.S (.slice ad2 g2.L.length c2)) rfl _ Try.underlying28 rfl 59 info28 HGS.out ?_) | (refine wb_put H rfl 1 28 _ _ rfl _ 0 rfl _ _ rfl (.agg (gameC g2.fr g2.d g2.S (.slice ad2 g2.L.length c2))) rfl 59 info28 HGS.out (by rw [HGS1.out]; omega) gcv_one (gameC g2.fr g2.d g2.S (.slice ad2 g2.L.length c2)) (splice_all _ (gameC g2.fr g2.d g2.S (.slice ad2 g2.L.length c2)) (by rw [HGS1.out, HGS.out])) ?_; clear H; intro w9 H))
            have H2 : Sb [] w0' w9 [(b7, gameC g2.fr g2.d g2.S (.slice ad2 g2.L.length c2), 28)] [(.slice ad2 g2.L.length c2, g2.L)] := Sb.oneRow (Sb.tail (x := (b10, _, 28)) H)
            have hk1 := HK.out.2.1
            exact ⟨⟨k + 1, g2, ad2, c2, hlt, rfl, Lib.hid ⟨HOK.out, by rw [Hf1.out, hk1]; rfl, fun j hj => by
              obtain ⟨t, ht, hto⟩ := HON.out j hj
              obtain ⟨t', ht', hto', _⟩ := HGR2.out j t ht
              exact ⟨t', ht', hto'.trans hto⟩⟩, Lib.hid H2⟩, by simp only [intOf]; omega⟩
    · obtain rfl : k = I.length := by omega
      have H := HB.out
      clear HB
      go_wp2_with fail
      refine (told_any _).mono ?_; rintro e w5 ⟨rfl, hb⟩
      replace H := H.call hb
      clear hb
      go_wp2_with fail
      go_ret
      exact ⟨rfl, H.below⟩
theorem mayBig (s : ByteArray) (mask : Int) (n : Nat) (ad : Option Addr) (c : Nat) (w0' : World) (h : 20 < s.size ∨ 100 < n) :
    Calls Try.prog 8 #[.string s, .int .i64 mask, .slice ad n c] w0' fun e w' => e = .returned (.bool true) ∧ Below w0'.heap.size w0' w' := by
  rcases Nat.lt_or_ge 20 s.size with h1 | h1
  · clear h
    go_enter Try.func8, Try.ntmps8
    go_wp2_with fail
    refine (told_any _).mono ?_; rintro e w5 ⟨rfl, hb⟩
    go_wp2_with fail
    go_ret
    exact ⟨rfl, hb⟩
  · have h2 : 100 < n := by omega
    clear h
    go_enter Try.func8, Try.ntmps8
    go_wp2_with fail
    refine (told_any _).mono ?_; rintro e w5 ⟨rfl, hb⟩
    go_wp2_with fail
    go_ret
    exact ⟨rfl, hb⟩
end Go.Proofs.Ytijnfeigoggaeaa.game
