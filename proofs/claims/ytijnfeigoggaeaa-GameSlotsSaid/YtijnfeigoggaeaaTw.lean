/- 'GameSlots': the walk of the law. -/
import Derived.Test.YtijnfeigoggaeaaTp
import Derived.Deep.DeepCutAuto
import Derived.BigRegion
namespace Go.Proofs.Ytijnfeigoggaeaa.game
open Go.ChangeShapes Go.WideShapes Go.ChangeAt Go.RowKit dice
set_option maxRecDepth 100000

theorem hdI_get {I : List Inp} {j : Nat} {i : Inp} (h : I[j]? = some i) : hdI (I.drop j) = i := hdI_drop h
set_option maxHeartbeats 16000000 in
theorem slotsWalk (s : ByteArray) (mask : Int) (I : List Inp) (ad0 : Option Addr) (c0 : Nat) (w0' : World) (hs : s.size ≤ 20) (hn : I.length ≤ 30) (hI : ∀ i ∈ I, i.ok) (hin : InsAt w0' ad0 I) :
    Calls Try.prog 9 #[.string s, .int .i64 mask, .slice ad0 I.length c0] w0' fun e w' => e = .returned (.bool true) ∧ Below w0'.heap.size w0' w' := by
  obtain ⟨D, hD⟩ : ∃ D, seed s.data.toList = D := ⟨_, rfl⟩
  have HP := Lib.hid (playNil s mask D w0' (by unfold maxLen; omega) hD)
  have HI := Lib.hid hI
  have Hin := Lib.hid hin
  have H := Sb.start w0'
  clear hD hI hin
  go_enter Try.func9, Try.ntmps9
  go_wp2_with fail
  refine HP.out.mono ?_; rintro e w2 ⟨⟨ad, c, rfl, hown, hfr⟩, hb⟩
  replace H := H.addRow _ [] hown hb hfr
  clear hown hfr hb HP
  have hok := playTo_ok mask D 8
  obtain ⟨hL, hfr⟩ := playTo_L mask D 8
  have hon : ∀ j, j < 8 → ∃ t, (playTo mask (g0 D) 8).S[j]? = some t ∧ t.on = maskB mask j := fun j hj => by
    obtain ⟨t, h1, h2, _⟩ := playTo_on mask D 8 j hj (Nat.le_refl _)
    exact ⟨t, h1, by rw [h2, decide_eq_true hj]; rfl⟩
  generalize playTo mask (g0 D) 8 = g8 at *
  have HK := Lib.hid (And.intro hok (And.intro hfr (And.intro hL hon)))
  have HS8 := Lib.hid hok.s8
  clear hok hfr hon hL
  have tok1 : True := trivial
  go_wp2_with (first | (clear tok1; refine wb_alloc H rfl 28 rfl _ Try.zeroValue28 ?_; clear H; intro b7 w9 H) | (refine wb_alloc H rfl 28 rfl _ Try.zeroValue28 ?_; clear H; intro b9 w9 H) | (refine wb_put H rfl 0 28 _ _ rfl _ 0 rfl _ _ rfl (.agg (gameC 0 g8.d g8.S (.slice ad 0 c))) rfl 59 info28 (gc_size HS8.out) (Nat.le_of_ble_eq_true rfl) gcv_one (gameC 0 g8.d g8.S (.slice ad 0 c)) (splice_all _ _ (by rw [show (Value.cells (.agg (gameC 0 g8.d g8.S (.slice ad 0 c)))).size = 59 from gc_size HS8.out]; rfl)) ?_; clear H; intro w9 H) | (refine wb_whole H rfl 0 28 _ rfl _ rfl (gameC 0 g8.d g8.S (.slice ad 0 c)) rfl _ Try.underlying28 rfl 59 info28 (gc_size HS8.out) ?_))
  have H' : Sb [] w0' w9 [(b9, gameC g8.fr g8.d g8.S (.slice ad 0 c), 28), (b7, gameC g8.fr g8.d g8.S (.slice ad 0 c), 28)] [(.slice ad 0 c, [])] := by
    rw [HK.out.2.1]
    exact H
  clear H HS8
  go_loopw [10] (fun i W => ∃ (k : Nat) (g : Gme) (ad1 : Option Addr) (c1 : Nat) (ad2 : Option Addr) (c2 : Nat) (R : List RowS), k ≤ I.length ∧ i = .int .i64 k ∧ Hid (g.ok ∧ g.fr = k ∧ g.L = [] ∧ ∀ j, j < 8 → ∃ t, g.S[j]? = some t ∧ t.on = maskB mask j) ∧ Hid ((.slice ad1 0 c1, []) ∈ R ∧ (.slice ad2 0 c2, []) ∈ R) ∧ Hid (Sb [] w0' W [(b9, gameC g.fr g.d g.S (.slice ad2 0 c2), 28), (b7, gameC g.fr g.d g.S (.slice ad1 0 c1), 28)] R)) (fun i _ => I.length - (intOf i).toNat)
  case atStart => exact ⟨0, g8, ad, c, ad, c, _, Nat.zero_le _, rfl, HK, Lib.hid ⟨List.mem_cons_self .., List.mem_cons_self ..⟩, Lib.hid H'⟩
  case round =>
    clear H' HK
    obtain ⟨k, g, ad1, c1, ad2, c2, R, hk, rfl, HK, HM, HB⟩ := hrel
    have HS8 := Lib.hid HK.out.1.s8
    by_cases hlt : k < I.length
    · obtain ⟨gi, oi, had, hgi, hcs⟩ := Hin.out (by omega)
      subst had
      have Hg := Lib.hid hgi
      have Hcs := Lib.hid hcs
      have H := HB.out
      obtain ⟨i1, hi1⟩ : ∃ i, I[k]? = some i := ⟨I[k], List.getElem?_eq_getElem hlt⟩
      have Hat1 := Lib.hid (inp_at hcs k i1 hi1)
      have hi1ok := HI.out i1 (List.mem_of_getElem? hi1)
      clear HB hgi hcs hi1
      have tok1 : True := trivial
      go_wp2_with (first | (clear tok1; refine wb_alloc H rfl 61 rfl _ Try.zeroValue61 ?_; clear H; intro b11 w9 H) | (refine wb_alloc H rfl 61 rfl _ Try.zeroValue61 ?_; clear H; intro b12 w9 H))
      have H' : Sb [] w0' w9 [(b12, insC zI, 61), (b11, insC zI, 61), (b9, gameC g.fr g.d g.S (.slice ad2 0 c2), 28), (b7, gameC g.fr g.d g.S (.slice ad1 0 c1), 28)] R := H
      clear H
      go_loopw [13] (fun i W => ∃ (j : Nat) (J1 J2 : List Inp), j ≤ 8 ∧ i = .int .i64 j ∧ Hid (J1.length = 8 ∧ J2.length = 8 ∧ (∀ i ∈ J1, i.ok ∧ i.b = 0) ∧ (∀ i ∈ J2, i.ok) ∧ ∀ n, n < j → (∃ i, J1[n]? = some i ∧ i.x = i1.x) ∧ (maskB mask n = true → J2[n]? = J1[n]?)) ∧ Hid (Sb [] w0' W [(b12, insC J2, 61), (b11, insC J1, 61), (b9, gameC g.fr g.d g.S (.slice ad2 0 c2), 28), (b7, gameC g.fr g.d g.S (.slice ad1 0 c1), 28)] R)) (fun i _ => 8 - (intOf i).toNat)
      case atStart => exact ⟨0, zI, zI, Nat.zero_le _, rfl, Lib.hid ⟨rfl, rfl, fun i hi => ⟨zI_ok i hi, by rw [List.eq_of_mem_replicate hi]; rfl⟩, zI_ok, fun n hn => by omega⟩, Lib.hid H'⟩
      case round =>
        clear H'
        obtain ⟨j, J1, J2, hj, rfl, HJ, HB⟩ := hrel
        by_cases hj8 : j < 8
        · obtain ⟨m, hm⟩ : ∃ m : Nat, ((k : Int) + (j : Int)) % (I.length : Int) = m := ⟨(((k : Int) + (j : Int)) % (I.length : Int)).toNat, by have := Int.emod_nonneg ((k : Int) + (j : Int)) (show (I.length : Int) ≠ 0 by omega); omega⟩
          have hm2 : m < I.length := by have := Int.emod_lt_of_pos ((k : Int) + (j : Int)) (show (0 : Int) < I.length by omega); omega
          obtain ⟨i2, hi2⟩ : ∃ i, I[m]? = some i := ⟨I[m], List.getElem?_eq_getElem hm2⟩
          have hi2ok := HI.out i2 (List.mem_of_getElem? hi2)
          have Hat2 := Lib.hid (inp_at Hcs.out m i2 hi2)
          have HIP1 := Lib.hid (ins_put J1 j ⟨i1.x, i2.y, 0⟩ (by rw [HJ.out.1]; exact hj8))
          have HIP2 := Lib.hid (ins_put J2 j ⟨i1.x, i2.y, 0⟩ (by rw [HJ.out.2.1]; exact hj8))
          have HIS1 := Lib.hid (show (insC J1).size = 24 by rw [insC_size, HJ.out.1])
          have HIS2 := Lib.hid (show (insC J2).size = 24 by rw [insC_size, HJ.out.2.1])
          have hiok : (⟨i1.x, i2.y, 0⟩ : Inp).ok := ⟨hi1ok.x0, hi1ok.x1, hi2ok.y0, hi2ok.y1, by dsimp only; omega, by dsimp only; omega⟩
          have H := HB.out
          clear HB hi2
          go_wp2_with fail
          have e1 := (H.old rfl (p := ⟨gi, oi + k * 3, none⟩) Hg.out).trans Hat1.out.x
          have e2 := (H.old rfl (p := ⟨gi, oi + m * 3 + 1, none⟩) Hg.out).trans Hat2.out.y
          refine Gs_start (T := [((⟨gi, oi + k * 3, none⟩ : Addr), Value.int .i8 i1.x, 17), (⟨gi, oi + m * 3 + 1, none⟩, .int .i8 i2.y, 17)]) (n := 18) (by kernel_rfl) rfl ?_ ?_
          · intro t ht _
            simp at ht
            rcases ht with rfl | rfl
            · exact e1
            · exact e2
          clear e1 e2
          replace H : Sb [] w0' ({ wr with drawn := wr.drawn + 1 } : World) _ _ := H.call ((Below.refl _ wr).drew)
          generalize ({ wr with drawn := wr.drawn + 1 } : World) = w at *
          refine Gs_move 0 (fun d _ _ _ _ h => by cases d <;> exact h) (by kernel_rfl) rfl _ rfl rfl (some 50) rfl (by kernel_rfl) (by kernel_rfl) (HTof rfl) (.slice _ _ _) rfl ?_
          simp only [Act.put, List.setIfInBounds_toArray, List.set_cons_succ, List.set_cons_zero]
          refine Gs_move 1 (fun d _ _ _ _ h => by cases d <;> exact h) (by kernel_rfl) rfl _ rfl rfl (some 51) rfl (by kernel_rfl) (by kernel_rfl) (HTof rfl) (.int _ _) rfl ?_
          simp only [Act.put, List.setIfInBounds_toArray, List.set_cons_succ, List.set_cons_zero]
          refine Gs_bin 2 (fun d _ _ _ _ h => by cases d <;> exact h) (by kernel_rfl) rfl rfl (some 52) rfl (by kernel_rfl) (by kernel_rfl) (HTof rfl) (.pointer (some ⟨gi, oi + k * 3, none⟩)) (fun w => by go_simp; try (intro h; omega)) ?_
          simp only [Act.put, List.setIfInBounds_toArray, List.set_cons_succ, List.set_cons_zero]
          refine Gs_field 3 (fun d _ _ _ _ h => by cases d <;> exact h) (by kernel_rfl) rfl _ _ _ rfl rfl (some 53) rfl (by kernel_rfl) (by kernel_rfl) (HTof rfl) _ _ rfl (fieldAt60_0 _ _) ?_
          simp only [Act.put, List.setIfInBounds_toArray, List.set_cons_succ, List.set_cons_zero]
          refine Gs_load 4 17 (fun d _ _ _ _ h => by cases d <;> exact h) (by kernel_rfl) rfl _ _ rfl rfl (some 54) rfl (by kernel_rfl) (by kernel_rfl) (HTof rfl) _ rfl Try.isAgg58 _ (List.Mem.head _) (by kernel_rfl) ?_
          simp only [Act.put, List.setIfInBounds_toArray, List.set_cons_succ, List.set_cons_zero]
          refine Gs_move 5 (fun d _ _ _ _ h => by cases d <;> exact h) (by kernel_rfl) rfl _ rfl rfl (some 55) rfl (by kernel_rfl) (by kernel_rfl) (HTof rfl) (.slice _ _ _) rfl ?_
          simp only [Act.put, List.setIfInBounds_toArray, List.set_cons_succ, List.set_cons_zero]
          refine Gs_move 6 (fun d _ _ _ _ h => by cases d <;> exact h) (by kernel_rfl) rfl _ rfl rfl (some 56) rfl (by kernel_rfl) (by kernel_rfl) (HTof rfl) (.int _ _) rfl ?_
          simp only [Act.put, List.setIfInBounds_toArray, List.set_cons_succ, List.set_cons_zero]
          refine Gs_move 7 (fun d _ _ _ _ h => by cases d <;> exact h) (by kernel_rfl) rfl _ rfl rfl (some 57) rfl (by kernel_rfl) (by kernel_rfl) (HTof rfl) (.int _ _) rfl ?_
          simp only [Act.put, List.setIfInBounds_toArray, List.set_cons_succ, List.set_cons_zero]
          refine Gs_bin 8 (fun d _ _ _ _ h => by cases d <;> exact h) (by kernel_rfl) rfl rfl (some 58) rfl (by kernel_rfl) (by kernel_rfl) (HTof rfl) (.int .i64 ((k : Int) + j)) (fun w => by go_simp; try (rw [IntKind.wrap_i64]; omega)) ?_
          simp only [Act.put, List.setIfInBounds_toArray, List.set_cons_succ, List.set_cons_zero]
          refine Gs_move 9 (fun d _ _ _ _ h => by cases d <;> exact h) (by kernel_rfl) rfl _ rfl rfl (some 59) rfl (by kernel_rfl) (by kernel_rfl) (HTof rfl) (.slice _ _ _) rfl ?_
          simp only [Act.put, List.setIfInBounds_toArray, List.set_cons_succ, List.set_cons_zero]
          refine Gs_bin 10 (fun d _ _ _ _ h => by cases d <;> exact h) (by kernel_rfl) rfl rfl (some 60) rfl (by kernel_rfl) (by kernel_rfl) (HTof rfl) (.int .i64 I.length) (fun w => by go_simp) ?_
          simp only [Act.put, List.setIfInBounds_toArray, List.set_cons_succ, List.set_cons_zero]
          refine Gs_bin 11 (fun d _ _ _ _ h => by cases d <;> exact h) (by kernel_rfl) rfl rfl (some 61) rfl (by kernel_rfl) (by kernel_rfl) (HTof rfl) (.int .i64 m) (fun w => by go_simp; rw [if_neg (show ¬ I = [] from fun h => absurd hlt (by rw [h]; simp)), Int.tmod_eq_emod_of_nonneg (by omega), hm]) ?_
          simp only [Act.put, List.setIfInBounds_toArray, List.set_cons_succ, List.set_cons_zero]
          refine Gs_bin 12 (fun d _ _ _ _ h => by cases d <;> exact h) (by kernel_rfl) rfl rfl (some 62) rfl (by kernel_rfl) (by kernel_rfl) (HTof rfl) (.pointer (some ⟨gi, oi + m * 3, none⟩)) (fun w => by go_simp; try (intro h; omega)) ?_
          simp only [Act.put, List.setIfInBounds_toArray, List.set_cons_succ, List.set_cons_zero]
          refine Gs_field 13 (fun d _ _ _ _ h => by cases d <;> exact h) (by kernel_rfl) rfl _ _ _ rfl rfl (some 63) rfl (by kernel_rfl) (by kernel_rfl) (HTof rfl) _ _ rfl (fieldAt60_1 _ _) ?_
          simp only [Act.put, List.setIfInBounds_toArray, List.set_cons_succ, List.set_cons_zero]
          refine Gs_load 14 17 (fun d _ _ _ _ h => by cases d <;> exact h) (by kernel_rfl) rfl _ _ rfl rfl (some 64) rfl (by kernel_rfl) (by kernel_rfl) (HTof rfl) _ rfl Try.isAgg58 _ (List.Mem.tail _ (List.Mem.head _)) (by kernel_rfl) ?_
          simp only [Act.put, List.setIfInBounds_toArray, List.set_cons_succ, List.set_cons_zero]
          refine Gs_bin 15 (fun d _ _ _ _ h => by cases d <;> exact h) (by kernel_rfl) rfl rfl (some 65) rfl (by kernel_rfl) (by kernel_rfl) (HTof rfl) (.agg #[.int .i8 i1.x, .int .i8 i2.y, .int .u8 0]) (fun w => by go_simp) ?_
          simp only [Act.put, List.setIfInBounds_toArray, List.set_cons_succ, List.set_cons_zero]
          refine Gs_alloc 16 rfl rfl (some 14) rfl (by kernel_rfl) (.pointer (some ⟨w.heap.size, 0, none⟩)) (.cells #[.int .i8 0, .int .i8 0, .int .u8 0] 60) (by go_simp) ?_
          simp only [Act.put, List.setIfInBounds_toArray, List.set_cons_succ, List.set_cons_zero]
          refine Gs_tail' 17 (by kernel_rfl) rfl (by kernel_rfl) rfl ?_
          simp only [List.drop_succ_cons, List.drop_zero]
          replace H := H.new #[.int .i8 0, .int .i8 0, .int .u8 0] 60
          generalize hb14 : w.heap.size = b14 at *
          generalize w.alloc (.cells #[.int .i8 0, .int .i8 0, .int .u8 0] 60) = w9 at *
          clear hb14
          have hJ1 : ∀ n, n < j + 1 → ∃ i, (J1.set j ⟨i1.x, i2.y, 0⟩)[n]? = some i ∧ i.x = i1.x := fun n hn => by
            by_cases e : j = n
            · subst e
              exact ⟨_, List.getElem?_set_self (by rw [HJ.out.1]; exact hj8), rfl⟩
            · rw [List.getElem?_set_ne e]
              exact (HJ.out.2.2.2.2 n (by omega)).1
          have hJok1 : ∀ u ∈ J1.set j ⟨i1.x, i2.y, 0⟩, u.ok ∧ u.b = 0 := fun u hu => by
            rcases List.mem_or_eq_of_mem_set hu with h | h
            · exact HJ.out.2.2.1 u h
            · rw [h]; exact ⟨hiok, rfl⟩
          have Hj := Lib.hid (And.intro hJ1 hJok1)
          clear hJ1 hJok1
          by_cases hmk : maskB mask j = true
          · have hq : (bits BinOp.and IntKind.i64 (mask / 2 ^ j) 1 == 1) = true := hmk
            clear hmk
            go_wp2_with (first | (refine wb_put H rfl 0 60 _ _ rfl _ 0 rfl _ _ rfl (.agg #[.int .i8 i1.x, .int .i8 i2.y, .int .u8 0]) rfl 3 info60s rfl (Nat.le_of_ble_eq_true rfl) rfl #[.int .i8 i1.x, .int .i8 i2.y, .int .u8 0] rfl ?_; clear H; intro w9 H) | (refine wb_whole H rfl 0 60 _ rfl _ rfl #[.int .i8 i1.x, .int .i8 i2.y, .int .u8 0] rfl _ Try.underlying60 rfl 3 info60s rfl ?_) | (refine wb_put H rfl 2 60 _ _ rfl _ (j * 3) rfl _ _ rfl (.agg #[.int .i8 i1.x, .int .i8 i2.y, .int .u8 0]) rfl 3 info60s rfl (by rw [HIS1.out]; omega) rfl (insC (J1.set j ⟨i1.x, i2.y, 0⟩)) HIP1.out ?_; clear H; intro w9 H) | (refine wb_put H rfl 1 60 _ _ rfl _ (j * 3) rfl _ _ rfl (.agg #[.int .i8 i1.x, .int .i8 i2.y, .int .u8 0]) rfl 3 info60s rfl (by rw [HIS2.out]; omega) rfl (insC (J2.set j ⟨i1.x, i2.y, 0⟩)) HIP2.out ?_; clear H; intro w9 H))
            have H2 : Sb [] w0' w9 [(b14, #[.int .i8 i1.x, .int .i8 i2.y, .int .u8 0], 60), (b12, insC (J2.set j ⟨i1.x, i2.y, 0⟩), 61), (b11, insC (J1.set j ⟨i1.x, i2.y, 0⟩), 61), (b9, gameC g.fr g.d g.S (.slice ad2 0 c2), 28), (b7, gameC g.fr g.d g.S (.slice ad1 0 c1), 28)] R := H
            exact ⟨⟨j + 1, J1.set j ⟨i1.x, i2.y, 0⟩, J2.set j ⟨i1.x, i2.y, 0⟩, hj8, rfl, Lib.hid ⟨by rw [List.length_set]; exact HJ.out.1, by rw [List.length_set]; exact HJ.out.2.1, Hj.out.2, fun u hu => by
              rcases List.mem_or_eq_of_mem_set hu with h | h
              · exact HJ.out.2.2.2.1 u h
              · rw [h]; exact hiok, fun n hn => ⟨Hj.out.1 n hn, fun hmn => by
              by_cases e : j = n
              · subst e
                rw [List.getElem?_set_self (by rw [HJ.out.2.1]; exact hj8), List.getElem?_set_self (by rw [HJ.out.1]; exact hj8)]
              · rw [List.getElem?_set_ne e, List.getElem?_set_ne e]
                exact (HJ.out.2.2.2.2 n (by omega)).2 hmn⟩⟩, Lib.hid H2.tail⟩, by simp only [intOf]; omega⟩
          · have hmf : maskB mask j = false := by simpa using hmk
            have hq : (bits BinOp.and IntKind.i64 (mask / 2 ^ j) 1 == 1) = false := hmf
            have Hmf := Lib.hid hmf
            clear hmk hmf
            go_wp2_with (first | (refine wb_put H rfl 0 60 _ _ rfl _ 0 rfl _ _ rfl (.agg #[.int .i8 i1.x, .int .i8 i2.y, .int .u8 0]) rfl 3 info60s rfl (Nat.le_of_ble_eq_true rfl) rfl #[.int .i8 i1.x, .int .i8 i2.y, .int .u8 0] rfl ?_; clear H; intro w9 H) | (refine wb_whole H rfl 0 60 _ rfl _ rfl #[.int .i8 i1.x, .int .i8 i2.y, .int .u8 0] rfl _ Try.underlying60 rfl 3 info60s rfl ?_) | (refine wb_put H rfl 2 60 _ _ rfl _ (j * 3) rfl _ _ rfl (.agg #[.int .i8 i1.x, .int .i8 i2.y, .int .u8 0]) rfl 3 info60s rfl (by rw [HIS1.out]; omega) rfl (insC (J1.set j ⟨i1.x, i2.y, 0⟩)) HIP1.out ?_; clear H; intro w9 H))
            have H2 : Sb [] w0' w9 [(b14, #[.int .i8 i1.x, .int .i8 i2.y, .int .u8 0], 60), (b12, insC J2, 61), (b11, insC (J1.set j ⟨i1.x, i2.y, 0⟩), 61), (b9, gameC g.fr g.d g.S (.slice ad2 0 c2), 28), (b7, gameC g.fr g.d g.S (.slice ad1 0 c1), 28)] R := H
            exact ⟨⟨j + 1, J1.set j ⟨i1.x, i2.y, 0⟩, J2, hj8, rfl, Lib.hid ⟨by rw [List.length_set]; exact HJ.out.1, HJ.out.2.1, Hj.out.2, HJ.out.2.2.2.1, fun n hn => ⟨Hj.out.1 n hn, fun hmn => by
              by_cases e : j = n
              · subst e
                rw [Hmf.out] at hmn
                cases hmn
              · rw [List.getElem?_set_ne e]
                exact (HJ.out.2.2.2.2 n (by omega)).2 hmn⟩⟩, Lib.hid H2.tail⟩, by simp only [intOf]; omega⟩
        · obtain rfl : j = 8 := by omega
          rw [show ((8 : Nat) : Int) = 8 from rfl]
          have H := HB.out
          have HIS := Lib.hid (fun (J : List Inp) (h : J.length = 8) => show (insC J).size = 24 by rw [insC_size, h])
          have HJ1 := HJ.out.1
          have HJ2 := HJ.out.2.1
          have hfr1 : g.fr < 1048576 := by rw [HK.out.2.1]; omega
          have hL := HK.out.2.2.1
          have hcong : stepG g J2 = stepG g J1 := stepG_congr g J2 J1 (fun n t ht hon => by
            have hn8 : n < 8 := by have := (List.getElem?_eq_some_iff.1 ht).1; rw [HK.out.1.s8] at this; exact this
            obtain ⟨t0, ht0, hton⟩ := HK.out.2.2.2 n hn8
            rw [ht] at ht0
            cases ht0
            rw [hon] at hton
            obtain ⟨⟨i, hi, _⟩, h2⟩ := HJ.out.2.2.2.2 n hn8
            have := h2 hton.symm
            rw [hdI_get hi, hdI_get (this.trans hi)])
          have HX := Lib.hid (fun w h => step_any g J1 (.slice ad1 0 c1) w HK.out.1 hfr1 HJ.out.1 (fun i hi => (HJ.out.2.2.1 i hi).1) h)
          have HX2 := Lib.hid (fun w h => step_any g J2 (.slice ad2 0 c2) w HK.out.1 hfr1 HJ.out.2.1 HJ.out.2.2.2.1 h)
          rw [hcong] at HX2
          have HOK := Lib.hid (stepG_ok J1 HK.out.1 hfr1)
          have hqt := stepG_quiet g J1 hL (fun i hi => (HJ.out.2.2.1 i hi).2)
          have HFR : Hid ((stepG g J1).fr = g.fr + 1) := Lib.hid rfl
          have HGR := Lib.hid (stepG_grows J1 HK.out.1)
          rw [hL] at HX HX2
          have HQ := Lib.hid hqt.2
          have hL2 := hqt.1
          clear HB hfr1 hcong hqt hL
          generalize stepG g J1 = g2 at *
          unfold StepOut at HX HX2
          rw [hL2] at HX HX2
          have HL2 := Lib.hid hL2
          clear hL2
          have HS82 := Lib.hid HOK.out.s8
          go_wp2_with (first | (refine wb_whole H rfl 3 28 _ rfl _ rfl (gameC g.fr g.d g.S (.slice ad1 0 c1)) rfl _ Try.underlying28 rfl 59 info28 (gc_size HS8.out) ?_) | (refine wb_whole H rfl 1 61 _ rfl _ rfl (insC J1) rfl _ Try.underlying61 rfl 24 info61 (HIS.out J1 HJ1) ?_))
          refine (HX.out _ (Own.shotsIn (H.rows _ HM.out.1))).mono ?_; rintro e w5 ⟨⟨sl3, rfl, hown, hfr⟩, hb⟩
          obtain ⟨ad3, c3, rfl⟩ := own_form hown
          replace H := H.addRow _ [] hown hb hfr
          clear hown hb hfr HX
          go_wp2_with (first | (refine wb_alloc H rfl 28 rfl _ Try.zeroValue28 ?_; clear H; intro b15 w9 H) | (refine wb_put H rfl 0 28 _ _ rfl _ 0 rfl _ _ rfl (.agg (gameC g2.fr g2.d g2.S (.slice ad3 0 c3))) rfl 59 info28 (gc_size HS82.out) (Nat.le_of_ble_eq_true rfl) gcv_one (gameC g2.fr g2.d g2.S (.slice ad3 0 c3)) (splice_all _ _ (by rw [show (Value.cells (.agg (gameC g2.fr g2.d g2.S (.slice ad3 0 c3)))).size = 59 from gc_size HS82.out]; rfl)) ?_; clear H; intro w9 H) | (refine wb_whole H rfl 3 28 _ rfl _ rfl (gameC g.fr g.d g.S (.slice ad2 0 c2)) rfl _ Try.underlying28 rfl 59 info28 (gc_size HS8.out) ?_) | (refine wb_whole H rfl 1 61 _ rfl _ rfl (insC J2) rfl _ Try.underlying61 rfl 24 info61 (HIS.out J2 HJ2) ?_))
          refine (HX2.out _ (Own.shotsIn (H.rows _ (List.mem_cons_of_mem _ HM.out.2)))).mono ?_; rintro e w6 ⟨⟨sl4, rfl, hown, hfr⟩, hb⟩
          obtain ⟨ad4, c4, rfl⟩ := own_form hown
          replace H := H.addRow _ [] hown hb hfr
          clear hown hb hfr HX2
          go_wp2_with (first | (refine wb_alloc H rfl 28 rfl _ Try.zeroValue28 ?_; clear H; intro b17 w9 H) | (refine wb_put H rfl 0 28 _ _ rfl _ 0 rfl _ _ rfl (.agg (gameC g2.fr g2.d g2.S (.slice ad4 0 c4))) rfl 59 info28 (gc_size HS82.out) (Nat.le_of_ble_eq_true rfl) gcv_one (gameC g2.fr g2.d g2.S (.slice ad4 0 c4)) (splice_all _ _ (by rw [show (Value.cells (.agg (gameC g2.fr g2.d g2.S (.slice ad4 0 c4)))).size = 59 from gc_size HS82.out]; rfl)) ?_; clear H; intro w9 H) | (refine wb_whole H rfl 0 28 _ rfl _ rfl (gameC g2.fr g2.d g2.S (.slice ad4 0 c4)) rfl _ Try.underlying28 rfl 59 info28 (gc_size HS82.out) ?_) | (refine wb_whole H rfl 1 28 _ rfl _ rfl (gameC g2.fr g2.d g2.S (.slice ad3 0 c3)) rfl _ Try.underlying28 rfl 59 info28 (gc_size HS82.out) ?_))
          refine (same_zero g2 _ _ _ _ _ HOK.out).mono ?_; rintro e w7 ⟨rfl, hb⟩
          replace H := H.call hb
          clear hb
          go_wp2_with fail
          obtain ⟨R', hR'⟩ : ∃ R', (Value.slice ad4 0 c4, ([] : List Sht)) :: (Value.slice ad3 0 c3, []) :: R = R' := ⟨_, rfl⟩
          have HM' : Hid ((Value.slice ad3 0 c3, ([] : List Sht)) ∈ R' ∧ (Value.slice ad4 0 c4, ([] : List Sht)) ∈ R') := Lib.hid (by rw [← hR']; exact ⟨List.mem_cons_of_mem _ (List.mem_cons_self ..), List.mem_cons_self ..⟩)
          have H' : Sb [] w0' w7 [(b17, gameC g2.fr g2.d g2.S (.slice ad4 0 c4), 28), (b15, gameC g2.fr g2.d g2.S (.slice ad3 0 c3), 28), (b12, insC J2, 61), (b11, insC J1, 61), (b9, gameC g.fr g.d g.S (.slice ad2 0 c2), 28), (b7, gameC g.fr g.d g.S (.slice ad1 0 c1), 28)] R' := by rw [← hR']; exact H
          clear H hR' HM
          generalize R' = R at *
          go_loopw [19] (fun i W => ∃ (j : Nat), j ≤ 8 ∧ i = .int .i64 j ∧ Hid (Sb [] w0' W [(b17, gameC g2.fr g2.d g2.S (.slice ad4 0 c4), 28), (b15, gameC g2.fr g2.d g2.S (.slice ad3 0 c3), 28), (b12, insC J2, 61), (b11, insC J1, 61), (b9, gameC g.fr g.d g.S (.slice ad2 0 c2), 28), (b7, gameC g.fr g.d g.S (.slice ad1 0 c1), 28)] R)) (fun i _ => 8 - (intOf i).toNat)
          case atStart => exact ⟨0, Nat.zero_le _, rfl, Lib.hid H'⟩
          case round =>
            clear H'
            obtain ⟨j, hj, rfl, HB⟩ := hrel
            by_cases hj8 : j < 8
            · obtain ⟨t, ht, hto⟩ := HK.out.2.2.2 j hj8
              obtain ⟨t', ht', hpu⟩ := HQ.out j t ht
              obtain ⟨⟨ij, hij, hijx⟩, _⟩ := HJ.out.2.2.2.2 j hj8
              have hijok := (HJ.out.2.2.1 ij (List.mem_of_getElem? hij)).1
              rw [hdI_get hij] at hpu
              have htok := HK.out.1.ships t (List.mem_of_getElem? ht)
              have htok' := HOK.out.ships t' (List.mem_of_getElem? ht')
              have CT := Lib.hid (fun (n : Nat) (v : Value) hv => gc_at (fr := g.fr) (d := g.d) (sl := .slice ad1 0 c1) j n t v ht hv)
              have CU := Lib.hid (fun (n : Nat) (v : Value) hv => gc_at (fr := g2.fr) (d := g2.d) (sl := .slice ad3 0 c3) j n t' v ht' hv)
              have CI := Lib.hid (ins_part J1 j ij hij)
              have Hpu := Lib.hid hpu
              have Hok := Lib.hid (And.intro htok (And.intro htok' hijok))
              have H := HB.out
              clear HB ht ht' hto hpu hij hijx htok htok' hijok
              go_upto_region 25 with fail
              go_cut [20, 21] (fun v u wx => ∃ b20 b21, v = .pointer (some ⟨b20, 0, none⟩) ∧ u = .pointer (some ⟨b21, 0, none⟩) ∧ Hid (Sb [] w0' wx [(b21, #[.bool t'.on, .int .i32 t'.x, .int .i32 t'.y, .int .i32 t'.vx, .int .i32 t'.vy, .int .i64 t'.cool, .int .i64 t'.score], 24), (b20, #[.bool t.on, .int .i32 t.x, .int .i32 t.y, .int .i32 t.vx, .int .i32 t.vy, .int .i64 t.cool, .int .i64 t.score], 24), (b17, gameC g2.fr g2.d g2.S (.slice ad4 0 c4), 28), (b15, gameC g2.fr g2.d g2.S (.slice ad3 0 c3), 28), (b12, insC J2, 61), (b11, insC J1, 61), (b9, gameC g.fr g.d g.S (.slice ad2 0 c2), 28), (b7, gameC g.fr g.d g.S (.slice ad1 0 c1), 28)] R))
              case first =>
                have hr7 : ∀ w : World, w.heap[b7]? = some (.cells (gameC g.fr g.d g.S (.slice ad1 0 c1)) 28 (0, 0)) → w.rangeAt b7 (2 + j * 7) [.bool t.on, .int .i32 t.x, .int .i32 t.y, .int .i32 t.vx, .int .i32 t.vy, .int .i64 t.cool, .int .i64 t.score] := fun w h n v hv => (cell_of_row w b7 (2 + j * 7 + n) _ _ _ h).trans (CT.out n v hv)
                have hr15 : ∀ w : World, w.heap[b15]? = some (.cells (gameC g2.fr g2.d g2.S (.slice ad3 0 c3)) 28 (0, 0)) → w.rangeAt b15 (2 + j * 7) [.bool t'.on, .int .i32 t'.x, .int .i32 t'.y, .int .i32 t'.vx, .int .i32 t'.vy, .int .i64 t'.cool, .int .i64 t'.score] := fun w h n v hv => (cell_of_row w b15 (2 + j * 7 + n) _ _ _ h).trans (CU.out n v hv)
                obtain ⟨T, hT⟩ : ∃ T, rowF b7 (2 + j * 7) [.bool t.on, .int .i32 t.x, .int .i32 t.y, .int .i32 t.vx, .int .i32 t.vy, .int .i64 t.cool, .int .i64 t.score] 10 ++ rowF b15 (2 + j * 7) [.bool t'.on, .int .i32 t'.x, .int .i32 t'.y, .int .i32 t'.vx, .int .i32 t'.vy, .int .i64 t'.cool, .int .i64 t'.score] 11 = T := ⟨_, rfl⟩
                have HTd : ∀ t ∈ T, t.2.2 = 10 ∨ t.2.2 = 11 := fun t ht => by
                  rw [← hT] at ht
                  rcases List.mem_append.1 ht with h | h
                  · exact .inl (rowF_d t h)
                  · exact .inr (rowF_d t h)
                have HTk : ∀ k, k < 10 → ∀ t ∈ T, t.2.2 ≠ k := fun k hk t ht => by rcases HTd t ht with h | h <;> rw [h] <;> omega
                have HTh : ∀ w : World, w.rangeAt b7 (2 + j * 7) [.bool t.on, .int .i32 t.x, .int .i32 t.y, .int .i32 t.vx, .int .i32 t.vy, .int .i64 t.cool, .int .i64 t.score] → w.rangeAt b15 (2 + j * 7) [.bool t'.on, .int .i32 t'.x, .int .i32 t'.y, .int .i32 t'.vx, .int .i32 t'.vy, .int .i64 t'.cool, .int .i64 t'.score] → ∀ t ∈ T, w.cell? t.1 = some t.2.1 := fun w h1 h2 t ht => by
                  rw [← hT] at ht
                  rcases List.mem_append.1 ht with h | h
                  · exact rowF_holds h1 t h
                  · exact rowF_holds h2 t h
                have HM1 : ∀ n v, ([.bool t.on, .int .i32 t.x, .int .i32 t.y, .int .i32 t.vx, .int .i32 t.vy, .int .i64 t.cool, .int .i64 t.score] : List Value)[n]? = some v → ((⟨b7, 2 + j * 7 + n, none⟩ : Addr), v, 10) ∈ T := fun n v hv => by rw [← hT]; exact List.mem_append_left _ (mem_rowF hv)
                have HM2 : ∀ n v, ([.bool t'.on, .int .i32 t'.x, .int .i32 t'.y, .int .i32 t'.vx, .int .i32 t'.vy, .int .i64 t'.cool, .int .i64 t'.score] : List Value)[n]? = some v → ((⟨b15, 2 + j * 7 + n, none⟩ : Addr), v, 11) ∈ T := fun n v hv => by rw [← hT]; exact List.mem_append_right _ (mem_rowF hv)
                have HR7 := hr7
                have HR15 := hr15
                clear hT hr7 hr15
                replace H := H.call ((Below.refl _ wr).drew)
                refine Gs_start (T := T) (n := 12) (by kernel_rfl) rfl (fun t ht _ => HTh _ (HR7 _ (H.holds (b7, gameC g.fr g.d g.S (.slice ad1 0 c1), 28) (by simp))) (HR15 _ (H.holds (b15, gameC g2.fr g2.d g2.S (.slice ad3 0 c3), 28) (by simp))) t ht) ?_
                replace H : Sb [] w0' ({ wr with drawn := wr.drawn + 1 } : World) _ _ := H
                generalize ({ wr with drawn := wr.drawn + 1 } : World) = w at *
                refine Gs_move 0 (fun d _ _ _ _ h => by cases d <;> exact h) (by kernel_rfl) rfl _ rfl rfl (some 106) rfl (by kernel_rfl) (by kernel_rfl) (HTk 0 (by omega)) (.int _ _) rfl ?_
                simp only [Act.put, List.setIfInBounds_toArray, List.set_cons_succ, List.set_cons_zero]
                refine Gs_field 1 (fun d _ _ _ _ h => by cases d <;> exact h) (by kernel_rfl) rfl _ _ _ rfl rfl (some 107) rfl (by kernel_rfl) (by kernel_rfl) (HTk 1 (by omega)) _ _ rfl (fieldAt28_2 _ _) ?_
                simp only [Act.put, List.setIfInBounds_toArray, List.set_cons_succ, List.set_cons_zero]
                refine Gs_bin 2 (fun d _ _ _ _ h => by cases d <;> exact h) (by kernel_rfl) rfl rfl (some 108) rfl (by kernel_rfl) (by kernel_rfl) (HTk 2 (by omega)) (.pointer (some ⟨b7, 2 + j * 7, none⟩)) (fun w => by go_simp; try (intro h; omega)) ?_
                simp only [Act.put, List.setIfInBounds_toArray, List.set_cons_succ, List.set_cons_zero]
                refine Gs_loadRow 3 10 (fun d _ _ _ _ h => by cases d <;> exact h) (by kernel_rfl) rfl _ _ rfl rfl (some 109) rfl (by kernel_rfl) (by kernel_rfl) (HTk 3 (by omega)) b7 (2 + j * 7) rfl [.bool t.on, .int .i32 t.x, .int .i32 t.y, .int .i32 t.vx, .int .i32 t.vy, .int .i64 t.cool, .int .i64 t.score] HM1 (by kernel_rfl) _ Try.underlying24 rfl info24 ?_
                simp only [Act.put, List.setIfInBounds_toArray, List.set_cons_succ, List.set_cons_zero]
                refine Gs_move 4 (fun d _ _ _ _ h => by cases d <;> exact h) (by kernel_rfl) rfl _ rfl rfl (some 110) rfl (by kernel_rfl) (by kernel_rfl) (HTk 4 (by omega)) (.int _ _) rfl ?_
                simp only [Act.put, List.setIfInBounds_toArray, List.set_cons_succ, List.set_cons_zero]
                refine Gs_field 5 (fun d _ _ _ _ h => by cases d <;> exact h) (by kernel_rfl) rfl _ _ _ rfl rfl (some 111) rfl (by kernel_rfl) (by kernel_rfl) (HTk 5 (by omega)) _ _ rfl (fieldAt28_2 _ _) ?_
                simp only [Act.put, List.setIfInBounds_toArray, List.set_cons_succ, List.set_cons_zero]
                refine Gs_bin 6 (fun d _ _ _ _ h => by cases d <;> exact h) (by kernel_rfl) rfl rfl (some 112) rfl (by kernel_rfl) (by kernel_rfl) (HTk 6 (by omega)) (.pointer (some ⟨b15, 2 + j * 7, none⟩)) (fun w => by go_simp; try (intro h; omega)) ?_
                simp only [Act.put, List.setIfInBounds_toArray, List.set_cons_succ, List.set_cons_zero]
                refine Gs_loadRow 7 11 (fun d _ _ _ _ h => by cases d <;> exact h) (by kernel_rfl) rfl _ _ rfl rfl (some 113) rfl (by kernel_rfl) (by kernel_rfl) (HTk 7 (by omega)) b15 (2 + j * 7) rfl [.bool t'.on, .int .i32 t'.x, .int .i32 t'.y, .int .i32 t'.vx, .int .i32 t'.vy, .int .i64 t'.cool, .int .i64 t'.score] HM2 (by kernel_rfl) _ Try.underlying24 rfl info24 ?_
                simp only [Act.put, List.setIfInBounds_toArray, List.set_cons_succ, List.set_cons_zero]
                refine Gs_fresh2 8 9 rfl rfl (some 20) rfl rfl rfl (some 21) rfl (by kernel_rfl) (.pointer (some ⟨w.heap.size, 0, none⟩)) (.cells #[.bool false, .int .i32 0, .int .i32 0, .int .i32 0, .int .i32 0, .int .i64 0, .int .i64 0] 24) (by go_simp) (.pointer (some ⟨w.heap.size, 0, none⟩)) (.cells #[.bool false, .int .i32 0, .int .i32 0, .int .i32 0, .int .i32 0, .int .i64 0, .int .i64 0] 24) (by go_simp) ?_ ?_
                · replace H := H.new #[.bool false, .int .i32 0, .int .i32 0, .int .i32 0, .int .i32 0, .int .i64 0, .int .i64 0] 24
                  simp only [Act.put, List.setIfInBounds_toArray, List.set_cons_succ, List.set_cons_zero]
                  refine Gs_alloc 9 rfl rfl (some 21) rfl (by kernel_rfl) (.pointer (some ⟨(w.alloc (.cells #[.bool false, .int .i32 0, .int .i32 0, .int .i32 0, .int .i32 0, .int .i64 0, .int .i64 0] 24)).heap.size, 0, none⟩)) (.cells #[.bool false, .int .i32 0, .int .i32 0, .int .i32 0, .int .i32 0, .int .i64 0, .int .i64 0] 24) (by go_simp) ?_
                  simp only [Act.put, List.setIfInBounds_toArray, List.set_cons_succ, List.set_cons_zero]
                  replace H := H.new #[.bool false, .int .i32 0, .int .i32 0, .int .i32 0, .int .i32 0, .int .i64 0, .int .i64 0] 24
                  generalize hbb : (w.alloc (.cells #[.bool false, .int .i32 0, .int .i32 0, .int .i32 0, .int .i32 0, .int .i64 0, .int .i64 0] 24)).heap.size = bb at *
                  generalize hba : w.heap.size = ba at *
                  generalize (w.alloc (.cells #[.bool false, .int .i32 0, .int .i32 0, .int .i32 0, .int .i32 0, .int .i64 0, .int .i64 0] 24)).alloc (.cells #[.bool false, .int .i32 0, .int .i32 0, .int .i32 0, .int .i32 0, .int .i64 0, .int .i64 0] 24) = w8 at *
                  clear hba hbb
                  refine Gs_one 10 rfl (by kernel_rfl) ?_
                  refine wb_put H rfl 1 24 _ _ rfl _ 0 rfl _ _ rfl (.agg #[.bool t.on, .int .i32 t.x, .int .i32 t.y, .int .i32 t.vx, .int .i32 t.vy, .int .i64 t.cool, .int .i64 t.score]) rfl 7 info24 rfl (Nat.le_of_ble_eq_true rfl) rfl #[.bool t.on, .int .i32 t.x, .int .i32 t.y, .int .i32 t.vx, .int .i32 t.vy, .int .i64 t.cool, .int .i64 t.score] rfl ?_
                  clear H
                  intro w9 H
                  refine ⟨fun t0 ht _ => HTh _ (HR7 _ (H.holds (b7, gameC g.fr g.d g.S (.slice ad1 0 c1), 28) (by simp))) (HR15 _ (H.holds (b15, gameC g2.fr g2.d g2.S (.slice ad3 0 c3), 28) (by simp))) t0 ht, ?_⟩
                  refine Gs_end 11 (by kernel_rfl) (fun t0 ht => by rcases HTd t0 ht with h | h <;> rw [h] <;> rfl) (by kernel_rfl) rfl ?_
                  simp only [List.drop_succ_cons, List.drop_zero, Act.put]
                  go_wp2_with (refine wb_put H rfl 0 24 _ _ rfl _ 0 rfl _ _ rfl (.agg #[.bool t'.on, .int .i32 t'.x, .int .i32 t'.y, .int .i32 t'.vx, .int .i32 t'.vy, .int .i64 t'.cool, .int .i64 t'.score]) rfl 7 info24 rfl (Nat.le_of_ble_eq_true rfl) rfl #[.bool t'.on, .int .i32 t'.x, .int .i32 t'.y, .int .i32 t'.vx, .int .i32 t'.vy, .int .i64 t'.cool, .int .i64 t'.score] rfl ?_; clear H; intro w9 H)
                  go_meet
                  exact ⟨_, _, rfl, rfl, Lib.hid H⟩
                · replace H := H.new #[.bool false, .int .i32 0, .int .i32 0, .int .i32 0, .int .i32 0, .int .i64 0, .int .i64 0] 24
                  simp only [Act.put, List.setIfInBounds_toArray, List.set_cons_succ, List.set_cons_zero]
                  refine Gs_alloc 8 rfl rfl (some 20) rfl (by kernel_rfl) (.pointer (some ⟨(w.alloc (.cells #[.bool false, .int .i32 0, .int .i32 0, .int .i32 0, .int .i32 0, .int .i64 0, .int .i64 0] 24)).heap.size, 0, none⟩)) (.cells #[.bool false, .int .i32 0, .int .i32 0, .int .i32 0, .int .i32 0, .int .i64 0, .int .i64 0] 24) (by go_simp) ?_
                  simp only [Act.put, List.setIfInBounds_toArray, List.set_cons_succ, List.set_cons_zero]
                  replace H := H.new #[.bool false, .int .i32 0, .int .i32 0, .int .i32 0, .int .i32 0, .int .i64 0, .int .i64 0] 24
                  generalize hbb : (w.alloc (.cells #[.bool false, .int .i32 0, .int .i32 0, .int .i32 0, .int .i32 0, .int .i64 0, .int .i64 0] 24)).heap.size = bb at *
                  generalize hba : w.heap.size = ba at *
                  generalize (w.alloc (.cells #[.bool false, .int .i32 0, .int .i32 0, .int .i32 0, .int .i32 0, .int .i64 0, .int .i64 0] 24)).alloc (.cells #[.bool false, .int .i32 0, .int .i32 0, .int .i32 0, .int .i32 0, .int .i64 0, .int .i64 0] 24) = w8 at *
                  clear hba hbb
                  refine Gs_one 10 rfl (by kernel_rfl) ?_
                  refine wb_put H rfl 0 24 _ _ rfl _ 0 rfl _ _ rfl (.agg #[.bool t.on, .int .i32 t.x, .int .i32 t.y, .int .i32 t.vx, .int .i32 t.vy, .int .i64 t.cool, .int .i64 t.score]) rfl 7 info24 rfl (Nat.le_of_ble_eq_true rfl) rfl #[.bool t.on, .int .i32 t.x, .int .i32 t.y, .int .i32 t.vx, .int .i32 t.vy, .int .i64 t.cool, .int .i64 t.score] rfl ?_
                  clear H
                  intro w9 H
                  refine ⟨fun t0 ht _ => HTh _ (HR7 _ (H.holds (b7, gameC g.fr g.d g.S (.slice ad1 0 c1), 28) (by simp))) (HR15 _ (H.holds (b15, gameC g2.fr g2.d g2.S (.slice ad3 0 c3), 28) (by simp))) t0 ht, ?_⟩
                  refine Gs_end 11 (by kernel_rfl) (fun t0 ht => by rcases HTd t0 ht with h | h <;> rw [h] <;> rfl) (by kernel_rfl) rfl ?_
                  simp only [List.drop_succ_cons, List.drop_zero, Act.put]
                  go_wp2_with (refine wb_put H rfl 1 24 _ _ rfl _ 0 rfl _ _ rfl (.agg #[.bool t'.on, .int .i32 t'.x, .int .i32 t'.y, .int .i32 t'.vx, .int .i32 t'.vy, .int .i64 t'.cool, .int .i64 t'.score]) rfl 7 info24 rfl (Nat.le_of_ble_eq_true rfl) rfl #[.bool t'.on, .int .i32 t'.x, .int .i32 t'.y, .int .i32 t'.vx, .int .i32 t'.vy, .int .i64 t'.cool, .int .i64 t'.score] rfl ?_; clear H; intro w9 H)
                  go_meet
                  exact ⟨_, _, rfl, rfl, Lib.hid (Sb.swap2 H)⟩
              case rest =>
                obtain ⟨b20, b21, rfl, rfl, HB⟩ := hcut
                clear H CT CU
                have h21 := HB.out.holds _ (List.mem_cons_self ..)
                have h20 := HB.out.holds _ (List.mem_cons_of_mem _ (List.mem_cons_self ..))
                have h11 := HB.out.holds (b11, insC J1, 61) (by simp)
                have k0 : wc.cell? ⟨b20, 0, none⟩ = some (.bool t.on) := cell_of_row _ _ 0 _ _ _ h20
                have k1 : wc.cell? ⟨b20, 1, none⟩ = some (.int .i32 t.x) := cell_of_row _ _ 1 _ _ _ h20
                have k2 : wc.cell? ⟨b20, 2, none⟩ = some (.int .i32 t.y) := cell_of_row _ _ 2 _ _ _ h20
                have k3 : wc.cell? ⟨b20, 3, none⟩ = some (.int .i32 t.vx) := cell_of_row _ _ 3 _ _ _ h20
                have u1 : wc.cell? ⟨b21, 1, none⟩ = some (.int .i32 t'.x) := cell_of_row _ _ 1 _ _ _ h21
                have u2 : wc.cell? ⟨b21, 2, none⟩ = some (.int .i32 t'.y) := cell_of_row _ _ 2 _ _ _ h21
                have u3 : wc.cell? ⟨b21, 3, none⟩ = some (.int .i32 t'.vx) := cell_of_row _ _ 3 _ _ _ h21
                have u4 : wc.cell? ⟨b21, 4, none⟩ = some (.int .i32 t'.vy) := cell_of_row _ _ 4 _ _ _ h21
                have v0 : wc.cell? ⟨b11, j * 3, none⟩ = some (.int .i8 ij.x) := (cell_of_row _ _ (j * 3) _ _ _ h11).trans (CI.out 0 _ rfl)
                clear h21 h20 h11 CI
                by_cases hon : t.on = true
                · obtain ⟨p1, p2, p3⟩ := Hpu.out hon
                  obtain ⟨htok, htok', hijok⟩ := Hok.out
                  unfold Shp.ok OkShip at htok htok'
                  rw [if_pos hon] at htok
                  have hb' : -2147483648 ≤ t'.vx ∧ t'.vx ≤ 2147483647 ∧ -2147483648 ≤ t'.vy ∧ t'.vy ≤ 2147483647 := by split at htok' <;> omega
                  have tx : -128 ≤ tameI ij.x ∧ tameI ij.x ≤ 127 := by have := hijok.x0; have := hijok.x1; unfold tameI; omega
                  have M1 := Lib.hid (fun w => move_any t.x t'.vx w (by omega) (by omega) (by omega) (by omega))
                  have M2 := Lib.hid (fun w => move_any t.y t'.vy w (by omega) (by omega) (by omega) (by omega))
                  have M3 := Lib.hid (fun w => ltame_any ij.x w hijok.x0 hijok.x1)
                  have M4 := Lib.hid (fun w => push_any t.vx (tameI ij.x) w (by omega) (by omega) tx.1 tx.2)
                  rw [← p2] at M1
                  rw [← p3] at M2
                  rw [← p1] at M4
                  rw [hon] at k0
                  clear p1 p2 p3 htok htok' hijok hb' tx hon
                  generalize t.x = a1 at *
                  generalize t.y = a2 at *
                  generalize t.vx = a3 at *
                  generalize t'.x = d1 at *
                  generalize t'.y = d2 at *
                  generalize t'.vx = d3 at *
                  generalize t'.vy = d4 at *
                  generalize tameI ij.x = tj at *
                  go_wp2_with fail
                  go_quiet (first | ((go_at_call 39; exact Calls.quiet_of_same ((M3.out _).mono fun _ _ h => ⟨h.1, h.2.symm⟩))) | ((go_at_call 38; exact Calls.quiet_of_same ((M4.out _).mono fun _ _ h => ⟨h.1, h.2.symm⟩))) | ((go_at_call_of 37 (Value.int .i32 a1); exact Calls.quiet_of_same ((M1.out _).mono fun _ _ h => ⟨h.1, h.2.symm⟩))) | ((go_at_call_of 37 (Value.int .i32 a2); exact Calls.quiet_of_same ((M2.out _).mono fun _ _ h => ⟨h.1, h.2.symm⟩))))
                  have HB' := Lib.hid (HB.out.call (below_drewN (Below.refl _ _) nq))
                  clear k0 k1 k2 k3 u1 u2 u3 u4 v0 HB
                  go_wp2_with fail
                  exact ⟨⟨j + 1, hj8, rfl, Lib.hid HB'.out.tail.tail⟩, by simp only [intOf]; omega⟩
                · have hof : t.on = false := by simpa using hon
                  rw [hof] at k0
                  clear hon hof
                  go_wp2_with fail
                  go_quiet (fail)
                  have HB' := Lib.hid (HB.out.call (below_drewN (Below.refl _ _) nq))
                  clear k0 k1 k2 k3 u1 u2 u3 u4 v0 HB
                  go_wp2_with fail
                  exact ⟨⟨j + 1, hj8, rfl, Lib.hid HB'.out.tail.tail⟩, by simp only [intOf]; omega⟩
            · obtain rfl : j = 8 := by omega
              have H := HB.out
              clear HB
              go_wp2_with fail
              obtain ⟨T, hT⟩ : ∃ T, rowF b15 0 (gameC g2.fr g2.d g2.S (.slice ad3 0 c3)).toList 2 ++ rowF b17 0 (gameC g2.fr g2.d g2.S (.slice ad4 0 c4)).toList 3 = T := ⟨_, rfl⟩
              have HTd : ∀ t ∈ T, t.2.2 = 2 ∨ t.2.2 = 3 := fun t ht => by
                rw [← hT] at ht
                rcases List.mem_append.1 ht with h | h
                · exact .inl (rowF_d t h)
                · exact .inr (rowF_d t h)
              have HTk : ∀ k, k < 2 → ∀ t ∈ T, t.2.2 ≠ k := fun k hk t ht => by rcases HTd t ht with h | h <;> rw [h] <;> omega
              have HTh : ∀ w : World, w.rangeAt b15 0 (gameC g2.fr g2.d g2.S (.slice ad3 0 c3)).toList → w.rangeAt b17 0 (gameC g2.fr g2.d g2.S (.slice ad4 0 c4)).toList → ∀ t ∈ T, w.cell? t.1 = some t.2.1 := fun w h1 h2 t ht => by
                rw [← hT] at ht
                rcases List.mem_append.1 ht with h | h
                · exact rowF_holds h1 t h
                · exact rowF_holds h2 t h
              have HM1 : ∀ j v, ((gameC g2.fr g2.d g2.S (.slice ad3 0 c3)).toList)[j]? = some v → ((⟨b15, 0 + j, none⟩ : Addr), v, 2) ∈ T := fun j v hv => by rw [← hT]; exact List.mem_append_left _ (mem_rowF hv)
              have HM2 : ∀ j v, ((gameC g2.fr g2.d g2.S (.slice ad4 0 c4)).toList)[j]? = some v → ((⟨b17, 0 + j, none⟩ : Addr), v, 3) ∈ T := fun j v hv => by rw [← hT]; exact List.mem_append_right _ (mem_rowF hv)
              clear hT
              replace H := H.call ((Below.refl _ wr).drew)
              refine Gs_start (T := T) (n := 4) (by kernel_rfl) rfl (fun t ht _ => HTh _ (H.range (List.mem_cons_of_mem _ (List.mem_cons_self ..))) (H.range (List.mem_cons_self ..)) t ht) ?_
              replace H : Sb [] w0' ({ wr with drawn := wr.drawn + 1 } : World) _ _ := H
              generalize ({ wr with drawn := wr.drawn + 1 } : World) = w at *
              refine Gs_loadRow 0 2 (fun d _ _ _ _ h => by cases d <;> exact h) (by kernel_rfl) rfl _ _ rfl rfl (some 149) rfl (by kernel_rfl) (by kernel_rfl) (HTk 0 (by omega)) b15 0 rfl _ HM1 (by kernel_rfl) _ Try.underlying28 rfl (by rw [Array.length_toList, gc_size HS82.out]; exact info28) ?_
              rw [Array.toArray_toList]
              simp only [Act.put, List.setIfInBounds_toArray, List.set_cons_succ, List.set_cons_zero]
              refine Gs_loadRow 1 3 (fun d _ _ _ _ h => by cases d <;> exact h) (by kernel_rfl) rfl _ _ rfl rfl (some 150) rfl (by kernel_rfl) (by kernel_rfl) (HTk 1 (by omega)) b17 0 rfl _ HM2 (by kernel_rfl) _ Try.underlying28 rfl (by rw [Array.length_toList, gc_size HS82.out]; exact info28) ?_
              rw [Array.toArray_toList]
              simp only [Act.put, List.setIfInBounds_toArray, List.set_cons_succ, List.set_cons_zero]
              refine Gs_one 2 rfl (by kernel_rfl) ?_
              refine wb_put H rfl 5 28 _ _ rfl _ 0 rfl _ _ rfl (.agg (gameC g2.fr g2.d g2.S (.slice ad3 0 c3))) rfl 59 info28 (gc_size HS82.out) (by rw [gc_size HS8.out]; omega) gcv_one (gameC g2.fr g2.d g2.S (.slice ad3 0 c3)) (splice_all _ _ (by rw [gc_size HS8.out]; exact (gc_size HS82.out).symm)) ?_
              clear H
              intro w9 H
              refine ⟨fun t ht _ => HTh _ (H.range (List.mem_cons_of_mem _ (List.mem_cons_self ..))) (H.range (List.mem_cons_self ..)) t ht, ?_⟩
              refine Gs_end 3 (by kernel_rfl) (fun t ht => by rcases HTd t ht with h | h <;> rw [h] <;> rfl) (by kernel_rfl) rfl ?_
              simp only [List.drop_succ_cons, List.drop_zero, Act.put]
              go_wp2_with (refine wb_put H rfl 4 28 _ _ rfl _ 0 rfl _ _ rfl (.agg (gameC g2.fr g2.d g2.S (.slice ad4 0 c4))) rfl 59 info28 (gc_size HS82.out) (by rw [gc_size HS8.out]; omega) gcv_one (gameC g2.fr g2.d g2.S (.slice ad4 0 c4)) (splice_all _ _ (by rw [gc_size HS8.out]; exact (gc_size HS82.out).symm)) ?_; clear H; intro w9 H)
              have H2 : Sb [] w0' w9 [(b17, gameC g2.fr g2.d g2.S (.slice ad4 0 c4), 28), (b15, gameC g2.fr g2.d g2.S (.slice ad3 0 c3), 28), (b12, insC J2, 61), (b11, insC J1, 61), (b9, gameC g2.fr g2.d g2.S (.slice ad4 0 c4), 28), (b7, gameC g2.fr g2.d g2.S (.slice ad3 0 c3), 28)] R := H
              exact ⟨⟨k + 1, g2, ad3, c3, ad4, c4, R, hlt, rfl, Lib.hid ⟨HOK.out, by rw [HFR.out, HK.out.2.1]; rfl, HL2.out, fun n hn => by
                obtain ⟨t, ht, hto⟩ := HK.out.2.2.2 n hn
                obtain ⟨t', ht', ho', _⟩ := HGR.out.2 n t ht
                exact ⟨t', ht', ho'.trans hto⟩⟩, HM', Lib.hid H2.tail.tail.tail.tail⟩, by simp only [intOf]; omega⟩
    · obtain rfl : k = I.length := by omega
      have H := HB.out
      have Hs58 := Lib.hid (gc_shots (fr := g.fr) (d := g.d) (sl := .slice ad1 0 c1) HS8.out)
      clear HB
      go_wp2_with fail
      refine (told_any _).mono ?_; rintro e w5 ⟨rfl, hb⟩
      replace H := H.call hb
      clear hb
      go_wp2_with (refine wb_cell H rfl 1 26 _ rfl _ 58 rfl _ _ rfl Try.isAgg26 (.slice ad1 0 c1) Hs58.out ?_)
      go_ret
      exact ⟨rfl, H.below⟩
theorem slotsBig (s : ByteArray) (mask : Int) (n : Nat) (ad : Option Addr) (c : Nat) (w0' : World) (h : 20 < s.size ∨ 30 < n) :
    Calls Try.prog 9 #[.string s, .int .i64 mask, .slice ad n c] w0' fun e w' => e = .returned (.bool true) ∧ Below w0'.heap.size w0' w' := by
  rcases Nat.lt_or_ge 20 s.size with h1 | h1
  · clear h
    go_enter Try.func9, Try.ntmps9
    go_wp2_with fail
    refine (told_any _).mono ?_; rintro e w5 ⟨rfl, hb⟩
    go_wp2_with fail
    go_ret
    exact ⟨rfl, hb⟩
  · have h2 : 30 < n := by omega
    clear h
    go_enter Try.func9, Try.ntmps9
    go_wp2_with fail
    refine (told_any _).mono ?_; rintro e w5 ⟨rfl, hb⟩
    go_wp2_with fail
    go_ret
    exact ⟨rfl, hb⟩
end Go.Proofs.Ytijnfeigoggaeaa.game
