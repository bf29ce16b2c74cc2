/- The document's answer: a frame, over any game that may be. -/
import Derived.Test.YtdopfonebpklkaaGreatFoldRuns17
import Derived.Deep.DeepCutAuto
import Derived.BigRegion
import Derived.Laws.AppendOwnNone
namespace Go.Proofs.YtdopfonebpklkaaGreat.game
open Go.ChangeShapes Go.WideShapes Go.ChangeAt Go.RowKit dice
set_option maxRecDepth 100000

theorem own_empty (w : World) : Own (w.alloc (.cells #[] 93)) 0 (.slice (some ⟨w.heap.size, 0, none⟩) 0 0) [] :=
  ⟨rfl, .inr ⟨w.heap.size, 0, #[], rfl, Nat.zero_le _, heap_alloc_last w _, Nat.le_refl _, by unfold maxLen; omega, rfl, rfl⟩⟩
theorem add_n (g o j : Nat) : (⟨g, o, none⟩ : Addr).add j = ⟨g, o + j, none⟩ := by unfold Addr.add; split <;> simp_all
theorem cellsL_sng (s : Sht) : cellsL [s] = shotL s := by simp [cellsL]
set_option maxHeartbeats 16000000 in
theorem rstepAll (fr d : Int) (S0 : List Shp) (L0 : List Sht) (I : List Inp) (ad : Option Addr) (c : Nat) (w0' : World) (hS : S0.length = 8) (hok : ∀ t ∈ S0, t.ok) (hI8 : I.length = 8) (hI : ∀ i ∈ I, i.ok) (hL : ∀ s ∈ L0, OkShot s) (hn : L0.length ≤ 32)
    (h0 : 0 ≤ fr) (h1 : fr < 1048576) (hin : ShotsIn w0' (.slice ad L0.length c) L0) :
    Calls Tryz.prog 58 #[.agg (gameC fr d S0 (.slice ad L0.length c)), .agg (insC I)] w0' (StepOut (stepG ⟨fr, d, S0, L0⟩ I) w0') := by
  have HS0 := Lib.hid hS
  have HM := Lib.hid (fun w (hw : ShotsIn w (.slice ad L0.length c) L0) => rmayG ⟨fr, d, S0, L0⟩ (.slice ad L0.length c) w ⟨h0, by dsimp only; omega, hS, hok, hL, hn⟩ hw)
  have HI := Lib.hid hin
  have Hsh := Lib.hid (gc_shots (fr := fr) (d := d) (sl := .slice ad L0.length c) hS)
  have hq : (fr == 1048576) = false := beq_eq_false_iff_ne.2 (by omega)
  have HO0 := Lib.hid hok
  have HL0 := Lib.hid hL
  have Hn0 := Lib.hid hn
  have HI8 := Lib.hid hI8
  have HIk := Lib.hid hI
  have H := Sb.start w0'
  clear hS hok hI8 hI hL hn hin
  obtain ⟨i0, hi, hz0, hz1, hz2⟩ := info_shot
  go_enter Tryz.func58, Tryz.ntmps58
  go_wp2_with (first | (refine wb_box H rfl 28 _ rfl (gameC fr d S0 (.slice ad L0.length c)) rfl ?_; clear H; intro b2 w H) | (refine wb_box H rfl 40 _ rfl (insC I) rfl ?_; clear H; intro b3 w H) | (refine wb_alloc H rfl 28 rfl _ Tryz.zeroValue28 ?_; clear H; intro b4 w H) | (refine wb_whole H rfl 2 28 _ rfl _ rfl (gameC fr d S0 (.slice ad L0.length c)) rfl _ Tryz.underlying28 rfl 59 info28 (gc_size HS0.out) ?_))
  refine (HM.out _ (HI.out.later H.below)).mono ?_; rintro e w' ⟨rfl, hb⟩
  replace H := H.call hb
  clear hb HM
  obtain ⟨Z4, hZ4, H'⟩ : ∃ Z4 : Array Value, Z4.size = 59 ∧ Sb [] w0' w' [(b4, Z4, 28), (b3, insC I, 40), (b2, gameC fr d S0 (.slice ad L0.length c), 28)] [] := ⟨_, rfl, H⟩
  have HZ4 := Lib.hid hZ4
  clear H hZ4
  have H := H'
  clear H'
  go_upto_region 6 with (first | (refine wb_cell H rfl 2 3 _ rfl _ (0) rfl _ _ rfl Tryz.isAgg3 (.int .i64 fr) rfl ?_) | (refine wb_whole H rfl 2 28 _ rfl _ rfl (gameC fr d S0 (.slice ad L0.length c)) rfl _ Tryz.underlying28 rfl 59 info28 (gc_size HS0.out) ?_) | (refine wb_alloc H rfl 28 rfl _ Tryz.zeroValue28 ?_; clear H; intro b6 w H) | (refine wb_put H rfl 0 28 _ _ rfl _ 0 rfl _ _ rfl (.agg (gameC fr d S0 (.slice ad L0.length c))) rfl 59 info28 (gc_size HS0.out) (Nat.le_of_ble_eq_true rfl) gcv_one (gameC fr d S0 (.slice ad L0.length c)) (splice_all _ _ (by rw [show (Value.cells (.agg (gameC fr d S0 (.slice ad L0.length c)))).size = 59 from gc_size HS0.out]; rfl)) ?_; clear H; intro w H))
  replace H : Sb [] w0' w [(b6, gameC fr d S0 (.slice ad L0.length c), 28), (b4, Z4, 28), (b3, insC I, 40), (b2, gameC fr d S0 (.slice ad L0.length c), 28)] [] := H
  simp only [Act.put, List.setIfInBounds_toArray, List.set_cons_succ, List.set_cons_zero]
  go_cut [31] (fun v wx => ∃ ad0 c0, v = .slice ad0 L0.length c0 ∧ Hid (Sb [] w0' wx [(b6, gameC fr d S0 (.slice ad0 L0.length c0), 28), (b4, Z4, 28), (b3, insC I, 40), (b2, gameC fr d S0 (.slice ad L0.length c), 28)] [(.slice ad0 L0.length c0, L0)]))
  case first =>
    have HE := H.addRow _ [] (own_empty w) ((Below.refl _ _).alloc (Nat.le_refl _) _) (fun k hk => by cases hk; exact Nat.le_refl _)
    have hrow := HE.rows _ (List.mem_cons_self ..)
    have Hrow := Lib.hid hrow
    have HEh := Lib.hid HE
    rcases HI.out with ⟨hnil, e⟩ | ⟨g, o, c', e, hg, hc⟩
    · injection e with e1 e2 e3
      subst hnil
      subst e1
      subst e3
      clear hrow e2 H
      go_wp2_with (first | (refine wb_cell HE rfl 3 26 _ rfl _ 58 rfl _ _ rfl Tryz.isAgg26 (.slice none 0 0) Hsh.out ?_) | (at_builtin; refine wpList_append_own_none rfl _ _ 26 rfl 0 93 i0 6 Tryz.underlying26 hi _ 0 [] rfl Hrow.out rfl ?_) | (refine wb_put HE rfl 0 26 _ _ rfl _ 58 rfl _ _ rfl (.slice (some ⟨w.heap.size, 0, none⟩) 0 0) rfl 1 info26 rfl (by rw [gc_size HS0.out]; omega) rfl _ (gc_setShots HS0.out _) ?_; clear HE; intro w9 HE))
      go_meet
      exact ⟨some ⟨w.heap.size, 0, none⟩, 0, rfl, Lib.hid HE⟩
    · injection e with e1 e2 e3
      subst e1
      subst e3
      have hnews := fun j u h => (HE.old rfl (p := ⟨g, o + j, none⟩) hg).trans (hc j u h)
      have Hnews : Hid (∀ j u, (cellsL L0)[j]? = some u → (w.alloc (.cells #[] 93)).cell? ((⟨g, o, none⟩ : Addr).add j) = some u) := Lib.hid (fun j u hu => by
        rw [add_n]; exact hnews j u hu)
      have Hone := Lib.hid (cellsL_one L0)
      have hmx : 0 + L0.length ≤ maxLen := by have := Hn0.out; unfold maxLen; omega
      have hbt : (0 + L0.length) * 32 ≤ 140737488355328 := by have := Hn0.out; omega
      have Hlen := Lib.hid (length_cellsL L0)
      clear hrow hnews hc e2 hg H
      go_wp2_with (first | (refine wb_cell HE rfl 3 26 _ rfl _ 58 rfl _ _ rfl Tryz.isAgg26 (.slice (some ⟨g, o, none⟩) L0.length c) Hsh.out ?_) | (at_builtin; refine wpList_append_own_at _ rfl _ _ 26 rfl 0 93 i0 (.agg #[.int .i64 0, .int .i32 0, .int .i32 0, .int .i32 0, .int .i32 0, .int .i64 0]) 6 32 Tryz.underlying26 hi hz0 hz1 hz2 rfl (by decide) _ 0 [] rfl Hrow.out ⟨g, o, none⟩ L0.length c (cellsL L0) rfl Hlen.out Hnews.out Hone.out hmx hbt (Nat.zero_le _) ?_; intro v' w9 hown' hgrow hnil' hblk; rw [Nat.zero_add, List.nil_append] at hown'; have H9 := HEh.out.append 0 _ v' [] L0 rfl hown' hgrow hblk; obtain ⟨ad9, c9, hv9⟩ := own_form (w := w9) (B := 0) (L := L0) hown'; subst hv9; clear hown' hgrow hnil' hblk) | (refine wb_put H9 rfl 0 26 _ _ rfl _ 58 rfl _ _ rfl (.slice ad9 L0.length c9) rfl 1 info26 rfl (by rw [gc_size HS0.out]; omega) rfl _ (gc_setShots HS0.out _) ?_; clear H9; intro w9 H9))
      go_meet
      exact ⟨ad9, c9, rfl, Lib.hid H9⟩
  case rest =>
    obtain ⟨ad0, c0, rfl, HB0⟩ := hcut
    have H' := HB0.out
    clear HB0 H HI
    go_wp2_with fail
    go_loopw [7] (fun i W => ∃ (k : Nat) (S : List Shp) (L : List Sht) (adk : Option Addr) (ck : Nat), k ≤ 8 ∧ i = .int .i64 k ∧ Hid (sailL 0 S0 I L0 = ⟨S ++ (sailL k (S0.drop k) (I.drop k) L).ships, (sailL k (S0.drop k) (I.drop k) L).out⟩) ∧ Hid (S.length = k ∧ (∀ s ∈ L, OkShot s) ∧ L.length ≤ 32) ∧ Hid (Sb [] w0' W [(b6, gameC fr d (S ++ S0.drop k) (.slice adk L.length ck), 28), (b4, Z4, 28), (b3, insC I, 40), (b2, gameC fr d S0 (.slice ad L0.length c), 28)] [(.slice adk L.length ck, L)])) (fun i _ => 8 - (intOf i).toNat)
    case atStart => exact ⟨0, [], L0, ad0, c0, Nat.zero_le _, rfl, Lib.hid rfl, Lib.hid ⟨rfl, HL0.out, Hn0.out⟩, Lib.hid H'⟩
    case round =>
      clear H'
      obtain ⟨k, S, L, adk, ck, hk, rfl, HE, HK, HB⟩ := hrel
      by_cases hlt : k < 8
      · obtain ⟨t, ht⟩ : ∃ t, S0[k]? = some t := ⟨S0[k]'(by rw [HS0.out]; exact hlt), List.getElem?_eq_getElem _⟩
        obtain ⟨i, hi'⟩ : ∃ i, I[k]? = some i := ⟨I[k]'(by rw [HI8.out]; exact hlt), List.getElem?_eq_getElem _⟩
        have hdr : S0.drop k = t :: S0.drop (k + 1) := by rw [List.drop_eq_getElem_cons (List.getElem?_eq_some_iff.1 ht).1, (List.getElem?_eq_some_iff.1 ht).2]
        have hSk : S.length = k := HK.out.1
        have htk : (S ++ S0.drop k)[k]? = some t := by rw [List.getElem?_append_right (by omega), hSk, Nat.sub_self, hdr]; rfl
        have hlen : (S ++ S0.drop k).length = 8 := by rw [List.length_append, List.length_drop, HS0.out, hSk]; omega
        have htok := HO0.out t (List.mem_of_getElem? ht)
        have hiok := HIk.out i (List.mem_of_getElem? hi')
        have hset : ∀ t', (S ++ S0.drop k).set k t' = (S ++ [t']) ++ S0.drop (k + 1) := fun t' => by
          rw [List.set_append_right _ _ (by omega), hSk, Nat.sub_self, hdr, List.set_cons_zero, List.append_assoc]; rfl
        have hE := HE.out
        rw [hdr, sailL_cons, hdI_drop hi', tail_drop] at hE
        have Hlen := Lib.hid hlen
        have Hset := Lib.hid hset
        have Hsk := Lib.hid hSk
        have HR := fun hon => Lib.hid (sailF_ok (k := k) (i := i) hlt htok hon HK.out.2.1 HK.out.2.2)
        have HBn : Hid (S ++ S0.drop k = (S ++ [t]) ++ S0.drop (k + 1)) := Lib.hid (by rw [List.append_assoc, List.singleton_append, ← hdr])
        have CX := Lib.hid (fun (j : Nat) (v : Value) hv => gc_at (fr := fr) (d := d) (sl := .slice adk L.length ck) k j t v htk hv)
        have Hp := Lib.hid (ins_part I k i hi')
        have H := HB.out
        have htm := List.mem_of_getElem? htk
        clear ht hi' hdr htk hlen hset hSk HB HE
        obtain ⟨on, x0, y0, u0, v0, cl, sc⟩ := t
        cases on
        · simp only [Bool.false_eq_true, if_false] at hE
          have HE2 := Lib.hid hE
          clear hE HR htok
          go_wp2_with (first | (refine wb_part H rfl 0 24 _ rfl _ (2 + k * 7) rfl _ _ rfl _ Tryz.underlying24 rfl 7 info24 [.bool false, .int .i32 x0, .int .i32 y0, .int .i32 u0, .int .i32 v0, .int .i64 cl, .int .i64 sc] CX.out rfl ?_) | (refine wb_alloc H rfl 24 rfl _ Tryz.zeroValue24 ?_; clear H; intro b8 w H) | (refine wb_put H rfl 0 24 _ _ rfl _ (0) rfl _ _ rfl (.agg #[.bool false, .int .i32 x0, .int .i32 y0, .int .i32 u0, .int .i32 v0, .int .i64 cl, .int .i64 sc]) rfl 7 info24 rfl (Nat.le_of_ble_eq_true rfl) rfl #[.bool false, .int .i32 x0, .int .i32 y0, .int .i32 u0, .int .i32 v0, .int .i64 cl, .int .i64 sc] rfl ?_; clear H; intro w H) | (refine wb_cell H rfl 0 4 _ rfl _ (0) rfl _ _ rfl Tryz.isAgg4 (.bool false) rfl ?_))
          replace H : Sb [] w0' w [(b8, #[.bool false, .int .i32 x0, .int .i32 y0, .int .i32 u0, .int .i32 v0, .int .i64 cl, .int .i64 sc], 24), (b6, gameC fr d (S ++ S0.drop k) (.slice adk L.length ck), 28), (b4, Z4, 28), (b3, insC I, 40), (b2, gameC fr d S0 (.slice ad L0.length c), 28)] [(.slice adk L.length ck, L)] := H
          have H2 := H.tail
          rw [HBn.out] at H2
          exact ⟨⟨k + 1, S ++ [⟨false, x0, y0, u0, v0, cl, sc⟩], L, adk, ck, hlt, rfl, Lib.hid (by have := HE2.out; simpa using this), Lib.hid ⟨by simp [Hsk.out], HK.out.2.1, HK.out.2.2⟩, Lib.hid H2⟩, by simp only [intOf]; omega⟩
        · simp only [if_true] at hE
          have HE2 := Lib.hid hE
          have HR2 := HR rfl
          unfold Shp.ok OkShip at htok
          rw [if_pos rfl] at htok
          dsimp only at htok
          have M1 := Lib.hid (fun w => rtame_any i.x w hiok.x0 hiok.x1)
          have M2 := Lib.hid (fun w => rtame_any i.y w hiok.y0 hiok.y1)
          have tx : -128 ≤ tameI i.x ∧ tameI i.x ≤ 127 := by have := hiok.x0; have := hiok.x1; unfold tameI; omega
          have ty : -128 ≤ tameI i.y ∧ tameI i.y ≤ 127 := by have := hiok.y0; have := hiok.y1; unfold tameI; omega
          have M3 := Lib.hid (fun w => rpush_any u0 (tameI i.x) w (by omega) (by omega) tx.1 tx.2)
          have M4 := Lib.hid (fun w => rpush_any v0 (tameI i.y) w (by omega) (by omega) ty.1 ty.2)
          have p1 := pushI_bd u0 (tameI i.x)
          have p2 := pushI_bd v0 (tameI i.y)
          have hPT : pushT ⟨true, x0, y0, u0, v0, cl, sc⟩ i = ⟨true, mv x0 (pushI u0 (tameI i.x)), mv y0 (pushI v0 (tameI i.y)), pushI u0 (tameI i.x), pushI v0 (tameI i.y), cl, sc⟩ := rfl
          generalize pushI u0 (tameI i.x) = u at *
          generalize pushI v0 (tameI i.y) = v at *
          have M5 := Lib.hid (fun w => rmove_any x0 u w (by omega) (by omega) (by omega) (by omega))
          have M6 := Lib.hid (fun w => rmove_any y0 v w (by omega) (by omega) (by omega) (by omega))
          generalize mv x0 u = x at *
          generalize mv y0 v = y at *
          have HPT := Lib.hid hPT
          have c0' : 0 ≤ cl ∧ cl ≤ 10 := by omega
          have c00 := c0'.1
          have c01 := c0'.2
          have hbit : bits .and .u8 i.b 1 = i.b % 2 := bits_mask .u8 8 (by decide) wraps_u8 1 (by decide) i.b (by have := hiok.b0; omega) (by have := hiok.b1; omega)
          have Hs58 := Lib.hid (gc_shots (fr := fr) (d := d) (sl := .slice adk L.length ck) Hlen.out)
          have G0 := Lib.hid (fun (t' : Shp) (sl : Value) => gc_ship (fr := fr) (d := d) (S := S ++ S0.drop k) (sl := sl) k t' (by rw [Hlen.out]; exact hlt))
          clear hE HR htok hPT tx ty p1 p2 hiok c0'
          go_wp2_with (first | (refine wb_part H rfl 0 24 _ rfl _ (2 + k * 7) rfl _ _ rfl _ Tryz.underlying24 rfl 7 info24 [.bool true, .int .i32 x0, .int .i32 y0, .int .i32 u0, .int .i32 v0, .int .i64 cl, .int .i64 sc] CX.out rfl ?_) | (refine wb_alloc H rfl 24 rfl _ Tryz.zeroValue24 ?_; clear H; intro b8 w H) | (refine wb_put H rfl 0 24 _ _ rfl _ (0) rfl _ _ rfl (.agg #[.bool true, .int .i32 x0, .int .i32 y0, .int .i32 u0, .int .i32 v0, .int .i64 cl, .int .i64 sc]) rfl 7 info24 rfl (Nat.le_of_ble_eq_true rfl) rfl #[.bool true, .int .i32 x0, .int .i32 y0, .int .i32 u0, .int .i32 v0, .int .i64 cl, .int .i64 sc] rfl ?_; clear H; intro w H) | (refine wb_cell H rfl 0 4 _ rfl _ (0) rfl _ _ rfl Tryz.isAgg4 (.bool true) rfl ?_) | (refine wb_part H rfl 3 39 _ rfl _ (k * 3) rfl _ _ rfl _ Tryz.underlying39 rfl 3 info60s (inpL i) Hp.out rfl ?_) | (refine wb_alloc H rfl 39 rfl _ Tryz.zeroValue39 ?_; clear H; intro b9 w H) | (refine wb_put H rfl 0 39 _ _ rfl _ (0) rfl _ _ rfl (.agg #[.int .i8 i.x, .int .i8 i.y, .int .u8 i.b]) rfl 3 info60s rfl (Nat.le_of_ble_eq_true rfl) rfl (inpC i.x i.y i.b) rfl ?_; clear H; intro w H))
          replace H : Sb [] w0' w [(b9, inpC i.x i.y i.b, 39), (b8, #[.bool true, .int .i32 x0, .int .i32 y0, .int .i32 u0, .int .i32 v0, .int .i64 cl, .int .i64 sc], 24), (b6, gameC fr d (S ++ S0.drop k) (.slice adk L.length ck), 28), (b4, Z4, 28), (b3, insC I, 40), (b2, gameC fr d S0 (.slice ad L0.length c), 28)] [(.slice adk L.length ck, L)] := H
          have e0 := (H.call ((Below.refl _ _).drew)).holds
          refine Gs_start (T := [((⟨b9, 0, none⟩ : Addr), Value.int .i8 i.x, 7), ((⟨b9, 1, none⟩ : Addr), .int .i8 i.y, 7)]) (n := 10) (by kernel_rfl) rfl ?_ ?_
          · intro t ht _
            simp at ht
            rcases ht with rfl | rfl
            · exact cell_of_row _ _ 0 _ _ _ (e0 _ (List.mem_cons_self ..))
            · exact cell_of_row _ _ 1 _ _ _ (e0 _ (List.mem_cons_self ..))
          clear e0
          replace H : Sb [] w0' ({ w with drawn := w.drawn + 1 } : World) _ _ := H.call ((Below.refl _ w).drew)
          generalize ({ w with drawn := w.drawn + 1 } : World) = w at *
          refine Gs_field 0 (fun d _ _ _ _ h => by cases d <;> exact h) (by kernel_rfl) rfl _ _ _ rfl rfl (some 47) rfl (by kernel_rfl) (by kernel_rfl) (HTof rfl) _ _ rfl (fieldAt60_0 _ _) ?_
          simp only [Act.put, List.setIfInBounds_toArray, List.set_cons_succ, List.set_cons_zero]
          refine Gs_load 1 7 (fun d _ _ _ _ h => by cases d <;> exact h) (by kernel_rfl) rfl _ _ rfl rfl (some 48) rfl (by kernel_rfl) (by kernel_rfl) (HTof rfl) _ rfl Tryz.isAgg37 _ (List.Mem.head _) (by kernel_rfl) ?_
          simp only [Act.put, List.setIfInBounds_toArray, List.set_cons_succ, List.set_cons_zero]
          refine Gs_field 3 (fun d _ _ _ _ h => by cases d <;> exact h) (by kernel_rfl) rfl _ _ _ rfl rfl (some 50) rfl (by kernel_rfl) (by kernel_rfl) (HTof rfl) _ _ rfl (fieldAt60_1 _ _) ?_
          simp only [Act.put, List.setIfInBounds_toArray, List.set_cons_succ, List.set_cons_zero]
          refine Gs_load 4 7 (fun d _ _ _ _ h => by cases d <;> exact h) (by kernel_rfl) rfl _ _ rfl rfl (some 51) rfl (by kernel_rfl) (by kernel_rfl) (HTof rfl) _ rfl Tryz.isAgg37 _ (List.Mem.tail _ (List.Mem.head _)) (by kernel_rfl) ?_
          simp only [Act.put, List.setIfInBounds_toArray, List.set_cons_succ, List.set_cons_zero]
          refine Gs_call' 2 rfl rfl (some 49) rfl (by kernel_rfl) 100 #[.int .i8 i.x] (by go_simp) (.int .i8 (tameI i.x)) (M1.out _) ?_
          simp only [Act.put, List.setIfInBounds_toArray, List.set_cons_succ, List.set_cons_zero]
          refine Gs_field 6 (fun d _ _ _ _ h => by cases d <;> exact h) (by kernel_rfl) rfl _ _ _ rfl rfl (some 53) rfl (by kernel_rfl) (by kernel_rfl) (HTof rfl) _ _ rfl (fieldAt60_0 _ _) ?_
          simp only [Act.put, List.setIfInBounds_toArray, List.set_cons_succ, List.set_cons_zero]
          refine Gs_call' 5 rfl rfl (some 52) rfl (by kernel_rfl) 100 #[.int .i8 i.y] (by go_simp) (.int .i8 (tameI i.y)) (M2.out _) ?_
          simp only [Act.put, List.setIfInBounds_toArray, List.set_cons_succ, List.set_cons_zero]
          refine Gs_tail' 7 (by kernel_rfl) rfl (by kernel_rfl) rfl ?_
          simp only [List.drop_succ_cons, List.drop_zero]
          go_wp2_with (first | (refine wb_put H rfl 0 37 _ _ rfl _ (0) rfl _ _ rfl (.int .i8 (tameI i.x)) rfl 1 info58 rfl (Nat.le_of_ble_eq_true rfl) rfl _ rfl ?_; clear H; intro w H) | (refine wb_put H rfl 0 37 _ _ rfl _ (1) rfl _ _ rfl (.int .i8 (tameI i.y)) rfl 1 info58 rfl (Nat.le_of_ble_eq_true rfl) rfl _ rfl ?_; clear H; intro w H))
          replace H : Sb [] w0' w [(b9, inpC (tameI i.x) (tameI i.y) i.b, 39), (b8, #[.bool true, .int .i32 x0, .int .i32 y0, .int .i32 u0, .int .i32 v0, .int .i64 cl, .int .i64 sc], 24), (b6, gameC fr d (S ++ S0.drop k) (.slice adk L.length ck), 28), (b4, Z4, 28), (b3, insC I, 40), (b2, gameC fr d S0 (.slice ad L0.length c), 28)] [(.slice adk L.length ck, L)] := H
          have e0 := (H.call ((Below.refl _ _).drew)).holds
          refine Gs_start (T := [((⟨b8, 3, none⟩ : Addr), Value.int .i32 u0, 11), ((⟨b8, 4, none⟩ : Addr), .int .i32 v0, 11), ((⟨b9, 0, none⟩ : Addr), .int .i8 (tameI i.x), 11), ((⟨b9, 1, none⟩ : Addr), .int .i8 (tameI i.y), 9)]) (n := 14) (by kernel_rfl) rfl ?_ ?_
          · intro t ht _
            simp at ht
            rcases ht with rfl | rfl | rfl | rfl
            · exact cell_of_row _ _ 3 _ _ _ (e0 _ (List.mem_cons_of_mem _ (List.mem_cons_self ..)))
            · exact cell_of_row _ _ 4 _ _ _ (e0 _ (List.mem_cons_of_mem _ (List.mem_cons_self ..)))
            · exact cell_of_row _ _ 0 _ _ _ (e0 _ (List.mem_cons_self ..))
            · exact cell_of_row _ _ 1 _ _ _ (e0 _ (List.mem_cons_self ..))
          clear e0
          replace H : Sb [] w0' ({ w with drawn := w.drawn + 1 } : World) _ _ := H.call ((Below.refl _ w).drew)
          generalize ({ w with drawn := w.drawn + 1 } : World) = w at *
          refine Gs_field 0 (fun d _ _ _ _ h => by cases d <;> exact h) (by kernel_rfl) rfl _ _ _ rfl rfl (some 55) rfl (by kernel_rfl) (by kernel_rfl) (HTof rfl) _ _ rfl (fieldAt24_3 _ _) ?_
          simp only [Act.put, List.setIfInBounds_toArray, List.set_cons_succ, List.set_cons_zero]
          refine Gs_load 1 11 (fun d _ _ _ _ h => by cases d <;> exact h) (by kernel_rfl) rfl _ _ rfl rfl (some 56) rfl (by kernel_rfl) (by kernel_rfl) (HTof rfl) _ rfl Tryz.isAgg21 _ (List.Mem.head _) (by kernel_rfl) ?_
          simp only [Act.put, List.setIfInBounds_toArray, List.set_cons_succ, List.set_cons_zero]
          refine Gs_field 2 (fun d _ _ _ _ h => by cases d <;> exact h) (by kernel_rfl) rfl _ _ _ rfl rfl (some 57) rfl (by kernel_rfl) (by kernel_rfl) (HTof rfl) _ _ rfl (fieldAt60_0 _ _) ?_
          simp only [Act.put, List.setIfInBounds_toArray, List.set_cons_succ, List.set_cons_zero]
          refine Gs_load 3 11 (fun d _ _ _ _ h => by cases d <;> exact h) (by kernel_rfl) rfl _ _ rfl rfl (some 58) rfl (by kernel_rfl) (by kernel_rfl) (HTof rfl) _ rfl Tryz.isAgg37 _ (List.Mem.tail _ (List.Mem.tail _ (List.Mem.head _))) (by kernel_rfl) ?_
          simp only [Act.put, List.setIfInBounds_toArray, List.set_cons_succ, List.set_cons_zero]
          refine Gs_field 5 (fun d _ _ _ _ h => by cases d <;> exact h) (by kernel_rfl) rfl _ _ _ rfl rfl (some 60) rfl (by kernel_rfl) (by kernel_rfl) (HTof rfl) _ _ rfl (fieldAt24_4 _ _) ?_
          simp only [Act.put, List.setIfInBounds_toArray, List.set_cons_succ, List.set_cons_zero]
          refine Gs_load 6 11 (fun d _ _ _ _ h => by cases d <;> exact h) (by kernel_rfl) rfl _ _ rfl rfl (some 61) rfl (by kernel_rfl) (by kernel_rfl) (HTof rfl) _ rfl Tryz.isAgg21 _ (List.Mem.tail _ (List.Mem.head _)) (by kernel_rfl) ?_
          simp only [Act.put, List.setIfInBounds_toArray, List.set_cons_succ, List.set_cons_zero]
          refine Gs_field 7 (fun d _ _ _ _ h => by cases d <;> exact h) (by kernel_rfl) rfl _ _ _ rfl rfl (some 62) rfl (by kernel_rfl) (by kernel_rfl) (HTof rfl) _ _ rfl (fieldAt60_1 _ _) ?_
          simp only [Act.put, List.setIfInBounds_toArray, List.set_cons_succ, List.set_cons_zero]
          refine Gs_load 8 9 (fun d _ _ _ _ h => by cases d <;> exact h) (by kernel_rfl) rfl _ _ rfl rfl (some 63) rfl (by kernel_rfl) (by kernel_rfl) (HTof rfl) _ rfl Tryz.isAgg37 _ (List.Mem.tail _ (List.Mem.tail _ (List.Mem.tail _ (List.Mem.head _)))) (by kernel_rfl) ?_
          simp only [Act.put, List.setIfInBounds_toArray, List.set_cons_succ, List.set_cons_zero]
          refine Gs_call' 4 rfl rfl (some 59) rfl (by kernel_rfl) 101 #[.int .i32 u0, .int .i8 (tameI i.x)] (by go_simp) (.int .i32 u) (M3.out _) ?_
          simp only [Act.put, List.setIfInBounds_toArray, List.set_cons_succ, List.set_cons_zero]
          refine Gs_field 10 (fun d _ _ _ _ h => by cases d <;> exact h) (by kernel_rfl) rfl _ _ _ rfl rfl (some 65) rfl (by kernel_rfl) (by kernel_rfl) (HTof rfl) _ _ rfl (fieldAt24_3 _ _) ?_
          simp only [Act.put, List.setIfInBounds_toArray, List.set_cons_succ, List.set_cons_zero]
          refine Gs_call' 9 rfl rfl (some 64) rfl (by kernel_rfl) 101 #[.int .i32 v0, .int .i8 (tameI i.y)] (by go_simp) (.int .i32 v) (M4.out _) ?_
          simp only [Act.put, List.setIfInBounds_toArray, List.set_cons_succ, List.set_cons_zero]
          refine Gs_tail' 11 (by kernel_rfl) rfl (by kernel_rfl) rfl ?_
          simp only [List.drop_succ_cons, List.drop_zero]
          go_wp2_with (first | (refine wb_put H rfl 1 21 _ _ rfl _ (3) rfl _ _ rfl (.int .i32 u) rfl 1 info21 rfl (Nat.le_of_ble_eq_true rfl) rfl _ rfl ?_; clear H; intro w H) | (refine wb_put H rfl 1 21 _ _ rfl _ (4) rfl _ _ rfl (.int .i32 v) rfl 1 info21 rfl (Nat.le_of_ble_eq_true rfl) rfl _ rfl ?_; clear H; intro w H))
          replace H : Sb [] w0' w [(b9, inpC (tameI i.x) (tameI i.y) i.b, 39), (b8, #[.bool true, .int .i32 x0, .int .i32 y0, .int .i32 u, .int .i32 v, .int .i64 cl, .int .i64 sc], 24), (b6, gameC fr d (S ++ S0.drop k) (.slice adk L.length ck), 28), (b4, Z4, 28), (b3, insC I, 40), (b2, gameC fr d S0 (.slice ad L0.length c), 28)] [(.slice adk L.length ck, L)] := H
          have e0 := (H.call ((Below.refl _ _).drew)).holds
          refine Gs_start (T := [((⟨b8, 1, none⟩ : Addr), Value.int .i32 x0, 11), ((⟨b8, 3, none⟩ : Addr), .int .i32 u, 11), ((⟨b8, 2, none⟩ : Addr), .int .i32 y0, 11), ((⟨b8, 4, none⟩ : Addr), .int .i32 v, 11)]) (n := 14) (by kernel_rfl) rfl ?_ ?_
          · intro t ht _
            simp at ht
            rcases ht with rfl | rfl | rfl | rfl
            · exact cell_of_row _ _ 1 _ _ _ (e0 _ (List.mem_cons_of_mem _ (List.mem_cons_self ..)))
            · exact cell_of_row _ _ 3 _ _ _ (e0 _ (List.mem_cons_of_mem _ (List.mem_cons_self ..)))
            · exact cell_of_row _ _ 2 _ _ _ (e0 _ (List.mem_cons_of_mem _ (List.mem_cons_self ..)))
            · exact cell_of_row _ _ 4 _ _ _ (e0 _ (List.mem_cons_of_mem _ (List.mem_cons_self ..)))
          clear e0
          replace H : Sb [] w0' ({ w with drawn := w.drawn + 1 } : World) _ _ := H.call ((Below.refl _ w).drew)
          generalize ({ w with drawn := w.drawn + 1 } : World) = w at *
          refine Gs_field 0 (fun d _ _ _ _ h => by cases d <;> exact h) (by kernel_rfl) rfl _ _ _ rfl rfl (some 67) rfl (by kernel_rfl) (by kernel_rfl) (HTof rfl) _ _ rfl (fieldAt24_1 _ _) ?_
          simp only [Act.put, List.setIfInBounds_toArray, List.set_cons_succ, List.set_cons_zero]
          refine Gs_load 1 11 (fun d _ _ _ _ h => by cases d <;> exact h) (by kernel_rfl) rfl _ _ rfl rfl (some 68) rfl (by kernel_rfl) (by kernel_rfl) (HTof rfl) _ rfl Tryz.isAgg21 _ (List.Mem.head _) (by kernel_rfl) ?_
          simp only [Act.put, List.setIfInBounds_toArray, List.set_cons_succ, List.set_cons_zero]
          refine Gs_field 2 (fun d _ _ _ _ h => by cases d <;> exact h) (by kernel_rfl) rfl _ _ _ rfl rfl (some 69) rfl (by kernel_rfl) (by kernel_rfl) (HTof rfl) _ _ rfl (fieldAt24_3 _ _) ?_
          simp only [Act.put, List.setIfInBounds_toArray, List.set_cons_succ, List.set_cons_zero]
          refine Gs_load 3 11 (fun d _ _ _ _ h => by cases d <;> exact h) (by kernel_rfl) rfl _ _ rfl rfl (some 70) rfl (by kernel_rfl) (by kernel_rfl) (HTof rfl) _ rfl Tryz.isAgg21 _ (List.Mem.tail _ (List.Mem.head _)) (by kernel_rfl) ?_
          simp only [Act.put, List.setIfInBounds_toArray, List.set_cons_succ, List.set_cons_zero]
          refine Gs_field 5 (fun d _ _ _ _ h => by cases d <;> exact h) (by kernel_rfl) rfl _ _ _ rfl rfl (some 72) rfl (by kernel_rfl) (by kernel_rfl) (HTof rfl) _ _ rfl (fieldAt24_2 _ _) ?_
          simp only [Act.put, List.setIfInBounds_toArray, List.set_cons_succ, List.set_cons_zero]
          refine Gs_load 6 11 (fun d _ _ _ _ h => by cases d <;> exact h) (by kernel_rfl) rfl _ _ rfl rfl (some 73) rfl (by kernel_rfl) (by kernel_rfl) (HTof rfl) _ rfl Tryz.isAgg21 _ (List.Mem.tail _ (List.Mem.tail _ (List.Mem.head _))) (by kernel_rfl) ?_
          simp only [Act.put, List.setIfInBounds_toArray, List.set_cons_succ, List.set_cons_zero]
          refine Gs_field 7 (fun d _ _ _ _ h => by cases d <;> exact h) (by kernel_rfl) rfl _ _ _ rfl rfl (some 74) rfl (by kernel_rfl) (by kernel_rfl) (HTof rfl) _ _ rfl (fieldAt24_4 _ _) ?_
          simp only [Act.put, List.setIfInBounds_toArray, List.set_cons_succ, List.set_cons_zero]
          refine Gs_load 8 11 (fun d _ _ _ _ h => by cases d <;> exact h) (by kernel_rfl) rfl _ _ rfl rfl (some 75) rfl (by kernel_rfl) (by kernel_rfl) (HTof rfl) _ rfl Tryz.isAgg21 _ (List.Mem.tail _ (List.Mem.tail _ (List.Mem.tail _ (List.Mem.head _)))) (by kernel_rfl) ?_
          simp only [Act.put, List.setIfInBounds_toArray, List.set_cons_succ, List.set_cons_zero]
          refine Gs_call' 4 rfl rfl (some 71) rfl (by kernel_rfl) 102 #[.int .i32 x0, .int .i32 u] (by go_simp) (.int .i32 x) (M5.out _) ?_
          simp only [Act.put, List.setIfInBounds_toArray, List.set_cons_succ, List.set_cons_zero]
          refine Gs_field 10 (fun d _ _ _ _ h => by cases d <;> exact h) (by kernel_rfl) rfl _ _ _ rfl rfl (some 77) rfl (by kernel_rfl) (by kernel_rfl) (HTof rfl) _ _ rfl (fieldAt24_1 _ _) ?_
          simp only [Act.put, List.setIfInBounds_toArray, List.set_cons_succ, List.set_cons_zero]
          refine Gs_call' 9 rfl rfl (some 76) rfl (by kernel_rfl) 102 #[.int .i32 y0, .int .i32 v] (by go_simp) (.int .i32 y) (M6.out _) ?_
          simp only [Act.put, List.setIfInBounds_toArray, List.set_cons_succ, List.set_cons_zero]
          refine Gs_tail' 11 (by kernel_rfl) rfl (by kernel_rfl) rfl ?_
          simp only [List.drop_succ_cons, List.drop_zero]
          clear M1 M2 M3 M4 M5 M6
          by_cases hc : 0 < cl
          · have E : Hid (sailF k ⟨true, x0, y0, u0, v0, cl, sc⟩ i L = ⟨⟨true, x, y, u, v, cl - 1, sc⟩, L⟩) := Lib.hid (by unfold sailF; rw [if_pos hc, HPT.out])
            go_wp2_with (first | (refine wb_put H rfl 1 21 _ _ rfl _ (1) rfl _ _ rfl (.int .i32 x) rfl 1 info21 rfl (Nat.le_of_ble_eq_true rfl) rfl _ rfl ?_; clear H; intro w H) | (refine wb_put H rfl 1 21 _ _ rfl _ (2) rfl _ _ rfl (.int .i32 y) rfl 1 info21 rfl (Nat.le_of_ble_eq_true rfl) rfl _ rfl ?_; clear H; intro w H) | (refine wb_cell H rfl 1 3 _ rfl _ (5) rfl _ _ rfl Tryz.isAgg3 (.int .i64 cl) rfl ?_) | (refine wb_put H rfl 1 3 _ _ rfl _ (5) rfl _ _ rfl (.int .i64 (cl - 1)) rfl 1 info3 rfl (Nat.le_of_ble_eq_true rfl) rfl #[.bool true, .int .i32 x, .int .i32 y, .int .i32 u, .int .i32 v, .int .i64 (cl - 1), .int .i64 sc] rfl ?_; clear H; intro w H) | (refine wb_whole H rfl 1 24 _ rfl _ rfl (#[.bool true, .int .i32 x, .int .i32 y, .int .i32 u, .int .i32 v, .int .i64 (cl - 1), .int .i64 sc]) rfl _ Tryz.underlying24 rfl 7 info24 rfl ?_) | (refine wb_put H rfl 2 24 _ _ rfl _ (2 + k * 7) rfl _ _ rfl (.agg #[.bool true, .int .i32 x, .int .i32 y, .int .i32 u, .int .i32 v, .int .i64 (cl - 1), .int .i64 sc]) rfl 7 info24 rfl (by rw [gc_size Hlen.out]; omega) rfl _ (G0.out ⟨true, x, y, u, v, (cl - 1), sc⟩ (.slice adk L.length ck)) ?_; clear H; intro w H))
            have H1 : Sb [] w0' w [(b9, inpC (tameI i.x) (tameI i.y) i.b, 39), (b8, #[.bool true, .int .i32 x, .int .i32 y, .int .i32 u, .int .i32 v, .int .i64 (cl - 1), .int .i64 sc], 24), (b6, gameC fr d ((S ++ S0.drop k).set k ⟨true, x, y, u, v, (cl - 1), sc⟩) (.slice adk L.length ck), 28), (b4, Z4, 28), (b3, insC I, 40), (b2, gameC fr d S0 (.slice ad L0.length c), 28)] [(.slice adk L.length ck, L)] := H
            have H2 := H1.tail.tail
            rw [Hset.out] at H2
            exact ⟨⟨k + 1, S ++ [⟨true, x, y, u, v, (cl - 1), sc⟩], L, adk, ck, hlt, rfl, Lib.hid (by have := HE2.out; rw [E.out] at this; simpa using this), Lib.hid ⟨by simp [Hsk.out], by have := HR2.out.2.2.1; rw [E.out] at this; exact this, by have := HR2.out.2.2.2; rw [E.out] at this; exact this⟩, Lib.hid H2⟩, by simp only [intOf]; omega⟩
          · by_cases hb : i.b % 2 = 1
            · have hqb : (i.b % 2 == 1) = true := beq_iff_eq.2 hb
              have Hb := Lib.hid hb
              clear hb
              by_cases hl : L.length < 32
              · have E : Hid (sailF k ⟨true, x0, y0, u0, v0, cl, sc⟩ i L = ⟨⟨true, x, y, u, v, 10, sc⟩, L ++ [⟨k, x, y, aimX (tameI i.x) (tameI i.y), sideI (tameI i.y), 24⟩]⟩) := Lib.hid (by
                  unfold sailF shoots
                  rw [if_neg hc, if_pos (by rw [decide_eq_false hc, hqb, decide_eq_true hl]; rfl), HPT.out]
                  rfl)
                go_wp2_with (first | (refine wb_put H rfl 1 21 _ _ rfl _ (1) rfl _ _ rfl (.int .i32 x) rfl 1 info21 rfl (Nat.le_of_ble_eq_true rfl) rfl _ rfl ?_; clear H; intro w H) | (refine wb_put H rfl 1 21 _ _ rfl _ (2) rfl _ _ rfl (.int .i32 y) rfl 1 info21 rfl (Nat.le_of_ble_eq_true rfl) rfl _ rfl ?_; clear H; intro w H) | (refine wb_cell H rfl 1 3 _ rfl _ (5) rfl _ _ rfl Tryz.isAgg3 (.int .i64 cl) rfl ?_) | (refine wb_cell H rfl 0 5 _ rfl _ (2) rfl _ _ rfl Tryz.isAgg5 (.int .u8 i.b) rfl ?_) | (refine wb_cell H rfl 2 26 _ rfl _ (58) rfl _ _ rfl Tryz.isAgg26 (.slice adk L.length ck) Hs58.out ?_) | (refine wb_whole H rfl 0 39 _ rfl _ rfl (inpC (tameI i.x) (tameI i.y) i.b) rfl _ Tryz.underlying39 rfl 3 info60s rfl ?_))
                replace H : Sb [] w0' w [(b9, inpC (tameI i.x) (tameI i.y) i.b, 39), (b8, #[.bool true, .int .i32 x, .int .i32 y, .int .i32 u, .int .i32 v, .int .i64 cl, .int .i64 sc], 24), (b6, gameC fr d (S ++ S0.drop k) (.slice adk L.length ck), 28), (b4, Z4, 28), (b3, insC I, 40), (b2, gameC fr d S0 (.slice ad L0.length c), 28)] [(.slice adk L.length ck, L)] := H
                refine (raim_any _ _ _ _).mono ?_; rintro e w' ⟨rfl, hb⟩
                replace H := H.call hb
                clear hb
                generalize aimX (tameI i.x) (tameI i.y) = ax at *
                generalize sideI (tameI i.y) = ay at *
                generalize w' = w at *
                have HN := H.new #[.int .i64 k, .int .i32 x, .int .i32 y, .int .i32 ax, .int .i32 ay, .int .i64 24] 93
                have Hrow2 := Lib.hid (HN.rows _ (List.mem_cons_self ..))
                have Hnews : Hid (∀ j z, (shotL ⟨k, x, y, ax, ay, 24⟩)[j]? = some z → (w.alloc (.cells #[.int .i64 k, .int .i32 x, .int .i32 y, .int .i32 ax, .int .i32 ay, .int .i64 24] 93)).cell? ((⟨w.heap.size, 0, none⟩ : Addr).add j) = some z) := Lib.hid (fun j z hz => by
                  rw [add_n, Nat.zero_add, cell_new]
                  show (shotL ⟨k, x, y, ax, ay, 24⟩).toArray[j]? = some z
                  rw [List.getElem?_toArray]
                  exact hz)
                have Hone : Hid (∀ z ∈ shotL ⟨k, x, y, ax, ay, 24⟩, z.oneCell' = true) := Lib.hid (fun z hz => cellsL_one [⟨k, x, y, ax, ay, 24⟩] z (by simpa [cellsL] using hz))
                have hmx : L.length + 1 ≤ maxLen := by unfold maxLen; omega
                have hbt : (L.length + 1) * 32 ≤ 140737488355328 := by omega
                have HNh := Lib.hid HN
                clear HN
                go_wp2_with (first | (refine wb_cell H rfl 2 26 _ rfl _ (58) rfl _ _ rfl Tryz.isAgg26 (.slice adk L.length ck) Hs58.out ?_) | (refine wb_cell H rfl 1 21 _ rfl _ (1) rfl _ _ rfl Tryz.isAgg21 (.int .i32 x) rfl ?_) | (refine wb_cell H rfl 1 21 _ rfl _ (2) rfl _ _ rfl Tryz.isAgg21 (.int .i32 y) rfl ?_) | (at_builtin; refine wpList_append_own_at _ rfl _ _ 26 rfl 0 93 i0 (.agg #[.int .i64 0, .int .i32 0, .int .i32 0, .int .i32 0, .int .i32 0, .int .i64 0]) 6 32 Tryz.underlying26 hi hz0 hz1 hz2 rfl (by decide) _ L.length (cellsL L) rfl Hrow2.out ⟨w.heap.size, 0, none⟩ 1 1 (shotL ⟨k, x, y, ax, ay, 24⟩) rfl rfl Hnews.out Hone.out hmx hbt (Nat.zero_le _) ?_; clear H; intro v' w9 hown' hgrow hnil' hblk; have hon9 := own_snoc hown'; have H := HNh.out.append 0 (.slice adk L.length ck) v' L (L ++ [⟨k, x, y, ax, ay, 24⟩]) rfl hon9 hgrow hblk; obtain ⟨ad9, c9, hv9⟩ := own_form hon9; rw [show (L ++ [(⟨k, x, y, ax, ay, 24⟩ : Sht)]).length = L.length + 1 by simp] at hv9; subst hv9; clear hown' hgrow hnil' hblk hon9) | (refine wb_put H rfl 3 26 _ _ rfl _ 58 rfl _ _ rfl (.slice ad9 (L.length + 1) c9) rfl 1 info26 rfl (by rw [gc_size Hlen.out]; omega) rfl _ (gc_setShots Hlen.out _) ?_; clear H; intro w H) | (refine wb_put H rfl 2 3 _ _ rfl _ (5) rfl _ _ rfl (.int .i64 10) rfl 1 info3 rfl (Nat.le_of_ble_eq_true rfl) rfl #[.bool true, .int .i32 x, .int .i32 y, .int .i32 u, .int .i32 v, .int .i64 10, .int .i64 sc] rfl ?_; clear H; intro w H) | (refine wb_whole H rfl 2 24 _ rfl _ rfl (#[.bool true, .int .i32 x, .int .i32 y, .int .i32 u, .int .i32 v, .int .i64 10, .int .i64 sc]) rfl _ Tryz.underlying24 rfl 7 info24 rfl ?_) | (refine wb_put H rfl 3 24 _ _ rfl _ (2 + k * 7) rfl _ _ rfl (.agg #[.bool true, .int .i32 x, .int .i32 y, .int .i32 u, .int .i32 v, .int .i64 10, .int .i64 sc]) rfl 7 info24 rfl (by rw [gc_size Hlen.out]; omega) rfl _ (G0.out ⟨true, x, y, u, v, 10, sc⟩ (.slice ad9 (L.length + 1) c9)) ?_; clear H; intro w H))
                have H1 : Sb [] w0' w [(_, #[.int .i64 k, .int .i32 x, .int .i32 y, .int .i32 ax, .int .i32 ay, .int .i64 24], 93), (b9, inpC (tameI i.x) (tameI i.y) i.b, 39), (b8, #[.bool true, .int .i32 x, .int .i32 y, .int .i32 u, .int .i32 v, .int .i64 10, .int .i64 sc], 24), (b6, gameC fr d ((S ++ S0.drop k).set k ⟨true, x, y, u, v, 10, sc⟩) (.slice ad9 (L.length + 1) c9), 28), (b4, Z4, 28), (b3, insC I, 40), (b2, gameC fr d S0 (.slice ad L0.length c), 28)] [(.slice ad9 (L.length + 1) c9, L ++ [⟨k, x, y, ax, ay, 24⟩])] := H
                rw [show L.length + 1 = (L ++ [(⟨k, x, y, ax, ay, 24⟩ : Sht)]).length by simp] at H1
                have H2 := H1.tail.tail.tail
                rw [Hset.out] at H2
                exact ⟨⟨k + 1, S ++ [⟨true, x, y, u, v, 10, sc⟩], L ++ [⟨k, x, y, ax, ay, 24⟩], ad9, c9, hlt, rfl, Lib.hid (by have := HE2.out; rw [E.out] at this; simpa using this), Lib.hid ⟨by simp [Hsk.out], by have := HR2.out.2.2.1; rw [E.out] at this; exact this, by have := HR2.out.2.2.2; rw [E.out] at this; exact this⟩, Lib.hid H2⟩, by simp only [intOf]; omega⟩
              · have E : Hid (sailF k ⟨true, x0, y0, u0, v0, cl, sc⟩ i L = ⟨⟨true, x, y, u, v, cl, sc⟩, L⟩) := Lib.hid (by
                  unfold sailF shoots
                  rw [if_neg hc, if_neg (by rw [decide_eq_false hl]; simp), HPT.out])
                have hl2 : 32 ≤ L.length := by omega
                go_wp2_with (first | (refine wb_put H rfl 1 21 _ _ rfl _ (1) rfl _ _ rfl (.int .i32 x) rfl 1 info21 rfl (Nat.le_of_ble_eq_true rfl) rfl _ rfl ?_; clear H; intro w H) | (refine wb_put H rfl 1 21 _ _ rfl _ (2) rfl _ _ rfl (.int .i32 y) rfl 1 info21 rfl (Nat.le_of_ble_eq_true rfl) rfl _ rfl ?_; clear H; intro w H) | (refine wb_cell H rfl 1 3 _ rfl _ (5) rfl _ _ rfl Tryz.isAgg3 (.int .i64 cl) rfl ?_) | (refine wb_cell H rfl 0 5 _ rfl _ (2) rfl _ _ rfl Tryz.isAgg5 (.int .u8 i.b) rfl ?_) | (refine wb_cell H rfl 2 26 _ rfl _ (58) rfl _ _ rfl Tryz.isAgg26 (.slice adk L.length ck) Hs58.out ?_) | (refine wb_whole H rfl 1 24 _ rfl _ rfl (#[.bool true, .int .i32 x, .int .i32 y, .int .i32 u, .int .i32 v, .int .i64 cl, .int .i64 sc]) rfl _ Tryz.underlying24 rfl 7 info24 rfl ?_) | (refine wb_put H rfl 2 24 _ _ rfl _ (2 + k * 7) rfl _ _ rfl (.agg #[.bool true, .int .i32 x, .int .i32 y, .int .i32 u, .int .i32 v, .int .i64 cl, .int .i64 sc]) rfl 7 info24 rfl (by rw [gc_size Hlen.out]; omega) rfl _ (G0.out ⟨true, x, y, u, v, cl, sc⟩ (.slice adk L.length ck)) ?_; clear H; intro w H))
                have H1 : Sb [] w0' w [(b9, inpC (tameI i.x) (tameI i.y) i.b, 39), (b8, #[.bool true, .int .i32 x, .int .i32 y, .int .i32 u, .int .i32 v, .int .i64 cl, .int .i64 sc], 24), (b6, gameC fr d ((S ++ S0.drop k).set k ⟨true, x, y, u, v, cl, sc⟩) (.slice adk L.length ck), 28), (b4, Z4, 28), (b3, insC I, 40), (b2, gameC fr d S0 (.slice ad L0.length c), 28)] [(.slice adk L.length ck, L)] := H
                have H2 := H1.tail.tail
                rw [Hset.out] at H2
                exact ⟨⟨k + 1, S ++ [⟨true, x, y, u, v, cl, sc⟩], L, adk, ck, hlt, rfl, Lib.hid (by have := HE2.out; rw [E.out] at this; simpa using this), Lib.hid ⟨by simp [Hsk.out], by have := HR2.out.2.2.1; rw [E.out] at this; exact this, by have := HR2.out.2.2.2; rw [E.out] at this; exact this⟩, Lib.hid H2⟩, by simp only [intOf]; omega⟩
            · have hqb : (i.b % 2 == 1) = false := beq_eq_false_iff_ne.2 hb
              have E : Hid (sailF k ⟨true, x0, y0, u0, v0, cl, sc⟩ i L = ⟨⟨true, x, y, u, v, cl, sc⟩, L⟩) := Lib.hid (by
                unfold sailF shoots
                rw [if_neg hc, if_neg (by rw [hqb]; simp), HPT.out])
              clear hb
              go_wp2_with (first | (refine wb_put H rfl 1 21 _ _ rfl _ (1) rfl _ _ rfl (.int .i32 x) rfl 1 info21 rfl (Nat.le_of_ble_eq_true rfl) rfl _ rfl ?_; clear H; intro w H) | (refine wb_put H rfl 1 21 _ _ rfl _ (2) rfl _ _ rfl (.int .i32 y) rfl 1 info21 rfl (Nat.le_of_ble_eq_true rfl) rfl _ rfl ?_; clear H; intro w H) | (refine wb_cell H rfl 1 3 _ rfl _ (5) rfl _ _ rfl Tryz.isAgg3 (.int .i64 cl) rfl ?_) | (refine wb_cell H rfl 0 5 _ rfl _ (2) rfl _ _ rfl Tryz.isAgg5 (.int .u8 i.b) rfl ?_) | (refine wb_cell H rfl 2 26 _ rfl _ (58) rfl _ _ rfl Tryz.isAgg26 (.slice adk L.length ck) Hs58.out ?_) | (refine wb_whole H rfl 1 24 _ rfl _ rfl (#[.bool true, .int .i32 x, .int .i32 y, .int .i32 u, .int .i32 v, .int .i64 cl, .int .i64 sc]) rfl _ Tryz.underlying24 rfl 7 info24 rfl ?_) | (refine wb_put H rfl 2 24 _ _ rfl _ (2 + k * 7) rfl _ _ rfl (.agg #[.bool true, .int .i32 x, .int .i32 y, .int .i32 u, .int .i32 v, .int .i64 cl, .int .i64 sc]) rfl 7 info24 rfl (by rw [gc_size Hlen.out]; omega) rfl _ (G0.out ⟨true, x, y, u, v, cl, sc⟩ (.slice adk L.length ck)) ?_; clear H; intro w H))
              have H1 : Sb [] w0' w [(b9, inpC (tameI i.x) (tameI i.y) i.b, 39), (b8, #[.bool true, .int .i32 x, .int .i32 y, .int .i32 u, .int .i32 v, .int .i64 cl, .int .i64 sc], 24), (b6, gameC fr d ((S ++ S0.drop k).set k ⟨true, x, y, u, v, cl, sc⟩) (.slice adk L.length ck), 28), (b4, Z4, 28), (b3, insC I, 40), (b2, gameC fr d S0 (.slice ad L0.length c), 28)] [(.slice adk L.length ck, L)] := H
              have H2 := H1.tail.tail
              rw [Hset.out] at H2
              exact ⟨⟨k + 1, S ++ [⟨true, x, y, u, v, cl, sc⟩], L, adk, ck, hlt, rfl, Lib.hid (by have := HE2.out; rw [E.out] at this; simpa using this), Lib.hid ⟨by simp [Hsk.out], by have := HR2.out.2.2.1; rw [E.out] at this; exact this, by have := HR2.out.2.2.2; rw [E.out] at this; exact this⟩, Lib.hid H2⟩, by simp only [intOf]; omega⟩
      · obtain rfl : k = 8 := by omega
        rw [show ((8 : Nat) : Int) = 8 from rfl]
        have hd8 : S0.drop 8 = [] := List.drop_eq_nil_of_le (by rw [HS0.out]; exact Nat.le_refl _)
        have H := HB.out
        have hE := HE.out
        rw [hd8] at hE H
        rw [sailL_nil] at hE
        simp only [List.append_nil] at hE H
        have HG0 := Lib.hid hE
        have HSo := sailL_ok S0 0 I L0 (by rw [HS0.out]; exact Nat.le_refl _) HO0.out HL0.out Hn0.out
        rw [hE] at HSo
        have HS : Hid (S.length = 8) := Lib.hid HK.out.1
        have HO : Hid (∀ t ∈ S, t.ok) := Lib.hid HSo.2.1
        have HL : Hid (∀ s ∈ L, OkShot s) := Lib.hid HSo.2.2.1
        have Hn : Hid (L.length ≤ 32) := Lib.hid HSo.2.2.2
        have hn32 : L.length ≤ 32 := HSo.2.2.2
        replace H := H.addRow (.slice none 0 0) [] (World.ownsRow_nil _ _ _ _) (Below.refl _ _) (fun k hk => by cases hk)
        have H' := H
        clear hE hd8 HSo HB HE HK H
        go_wp2_with fail
        go_loopw [12, 13] (fun lv i W => ∃ (k : Nat) (dk : Int) (Sk : List Shp) (out : List Sht) (adv : Option Addr) (cv : Nat), k ≤ L.length ∧ i = .int .i64 k ∧ lv = .slice adv out.length cv ∧ Hid (flyAll d S L = ⟨(flyAll dk Sk (L.drop k)).dice, (flyAll dk Sk (L.drop k)).ships, out ++ (flyAll dk Sk (L.drop k)).out⟩) ∧ Hid (Sk.length = 8 ∧ (∀ t ∈ Sk, t.ok) ∧ out.length ≤ k) ∧ Hid (Sb [] w0' W [(b6, gameC fr dk Sk (.slice adk L.length ck), 28), (b4, Z4, 28), (b3, insC I, 40), (b2, gameC fr d S0 (.slice ad L0.length c), 28)] [(.slice adv out.length cv, out), (.slice adk L.length ck, L)])) (fun _ i _ => L.length - (intOf i).toNat)
        case atStart => exact ⟨0, d, S, [], none, 0, Nat.zero_le _, rfl, rfl, Lib.hid rfl, Lib.hid ⟨HS.out, HO.out, Nat.zero_le _⟩, Lib.hid H'⟩
        case round =>
          clear H'
          obtain ⟨k, dk, Sk, out, adv, cv, hk, rfl, rfl, HE, HK, HB⟩ := hrel
          have Hs58 := Lib.hid (gc_shots (fr := fr) (d := dk) (sl := .slice adk L.length ck) HK.out.1)
          by_cases hlt : k < L.length
          · obtain ⟨s, hs⟩ : ∃ s, L[k]? = some s := ⟨L[k], List.getElem?_eq_getElem hlt⟩
            have hdr : L.drop k = s :: L.drop (k + 1) := by rw [List.drop_eq_getElem_cons hlt, (List.getElem?_eq_some_iff.1 hs).2]
            have HE2 : Hid (flyAll d S L = ⟨(flyAll (flyF dk Sk s).dice (flyF dk Sk s).ships (L.drop (k + 1))).dice, (flyAll (flyF dk Sk s).dice (flyF dk Sk s).ships (L.drop (k + 1))).ships, (out ++ (if (flyF dk Sk s).stays = true then [flown s] else [])) ++ (flyAll (flyF dk Sk s).dice (flyF dk Sk s).ships (L.drop (k + 1))).out⟩) := Lib.hid (by
              have := HE.out
              rw [hdr] at this
              rw [this]
              simp only [flyAll, List.append_assoc])
            have hsok := HL.out s (List.mem_of_getElem? hs)
            have hkeep := flyF_keep dk Sk s HK.out.1 HK.out.2.1
            have hrow := HB.out.rows _ (List.mem_cons_of_mem _ (List.mem_cons_self ..))
            obtain ⟨A, hA, hcells⟩ : ∃ A, adk = some ⟨A, 0, none⟩ ∧ ShotAt wr A (0 + k * 6) s := by
              have hrow0 := hrow
              obtain ⟨_, ⟨e, hn⟩ | ⟨A, cap, cur, e, _, hg, _⟩⟩ := hrow
              · have hn' : L.length = 0 := hn
                omega
              · injection e with e1 e2 e3
                refine ⟨A, e1, shot_at (fun j v hv => ?_) k s hs⟩
                have := World.ownsRow.cells hrow0 (g := A) (by rw [e1]; rfl) j v hv
                rw [add_n] at this; exact this
            subst hA
            rw [Nat.zero_add] at hcells
            obtain ⟨q0, q1, q2, q3, q4, q5⟩ := hcells
            have H := HB.out
            have Hsok := Lib.hid hsok
            have Hkeep := Lib.hid hkeep
            have M1 := Lib.hid (fun w => rmove_any s.x s.vx w (by have := hsok.x0; omega) (by have := hsok.x1; omega) (by have := hsok.u0; omega) (by have := hsok.u1; omega))
            have M2 := Lib.hid (fun w => rmove_any s.y s.vy w (by have := hsok.y0; omega) (by have := hsok.y1; omega) (by have := hsok.v0; omega) (by have := hsok.v1; omega))
            have l0 := hsok.l0
            have l1 := hsok.l1
            clear hs hdr hsok hkeep hrow HE HB
            go_wp2_with (first | (refine wb_cell H rfl 0 26 _ rfl _ (58) rfl _ _ rfl Tryz.isAgg26 (.slice (some ⟨A, 0, none⟩) L.length ck) Hs58.out ?_) | (refine wb_alloc H rfl 93 rfl _ Tryz.zeroValue93 ?_; clear H; intro b14 w H) | (refine wb_put H rfl 0 93 _ _ rfl _ (0) rfl _ _ rfl (.agg #[.int .i64 s.owner, .int .i32 s.x, .int .i32 s.y, .int .i32 s.vx, .int .i32 s.vy, .int .i64 s.left]) rfl 6 info79s rfl (Nat.le_of_ble_eq_true rfl) rfl #[.int .i64 s.owner, .int .i32 s.x, .int .i32 s.y, .int .i32 s.vx, .int .i32 s.vy, .int .i64 s.left] rfl ?_; clear H; intro w H))
            replace H : Sb [] w0' w [(b14, #[.int .i64 s.owner, .int .i32 s.x, .int .i32 s.y, .int .i32 s.vx, .int .i32 s.vy, .int .i64 s.left], 93), (b6, gameC fr dk Sk (.slice (some ⟨A, 0, none⟩) L.length ck), 28), (b4, Z4, 28), (b3, insC I, 40), (b2, gameC fr d S0 (.slice ad L0.length c), 28)] [(.slice adv out.length cv, out), (.slice (some ⟨A, 0, none⟩) L.length ck, L)] := H
            clear q0 q1 q2 q3 q4 q5
            have e0 := (H.call ((Below.refl _ _).drew)).holds
            refine Gs_start (T := [((⟨b14, 1, none⟩ : Addr), Value.int .i32 s.x, 14), ((⟨b14, 3, none⟩ : Addr), .int .i32 s.vx, 14), ((⟨b14, 2, none⟩ : Addr), .int .i32 s.y, 14), ((⟨b14, 4, none⟩ : Addr), .int .i32 s.vy, 14), ((⟨b14, 5, none⟩ : Addr), .int .i64 s.left, 14)]) (n := 19) (by kernel_rfl) rfl ?_ ?_
            · intro t ht _
              simp at ht
              rcases ht with rfl | rfl | rfl | rfl | rfl
              · exact cell_of_row _ _ 1 _ _ _ (e0 _ (List.mem_cons_self ..))
              · exact cell_of_row _ _ 3 _ _ _ (e0 _ (List.mem_cons_self ..))
              · exact cell_of_row _ _ 2 _ _ _ (e0 _ (List.mem_cons_self ..))
              · exact cell_of_row _ _ 4 _ _ _ (e0 _ (List.mem_cons_self ..))
              · exact cell_of_row _ _ 5 _ _ _ (e0 _ (List.mem_cons_self ..))
            clear e0
            replace H : Sb [] w0' ({ w with drawn := w.drawn + 1 } : World) _ _ := H.call ((Below.refl _ w).drew)
            generalize ({ w with drawn := w.drawn + 1 } : World) = w at *
            refine Gs_field 0 (fun d _ _ _ _ h => by cases d <;> exact h) (by kernel_rfl) rfl _ _ _ rfl rfl (some 131) rfl (by kernel_rfl) (by kernel_rfl) (HTof rfl) _ _ rfl (fieldAt79_1 _ _) ?_
            simp only [Act.put, List.setIfInBounds_toArray, List.set_cons_succ, List.set_cons_zero]
            refine Gs_load 1 14 (fun d _ _ _ _ h => by cases d <;> exact h) (by kernel_rfl) rfl _ _ rfl rfl (some 132) rfl (by kernel_rfl) (by kernel_rfl) (HTof rfl) _ rfl Tryz.isAgg21 _ (List.Mem.head _) (by kernel_rfl) ?_
            simp only [Act.put, List.setIfInBounds_toArray, List.set_cons_succ, List.set_cons_zero]
            refine Gs_field 2 (fun d _ _ _ _ h => by cases d <;> exact h) (by kernel_rfl) rfl _ _ _ rfl rfl (some 133) rfl (by kernel_rfl) (by kernel_rfl) (HTof rfl) _ _ rfl (fieldAt79_3 _ _) ?_
            simp only [Act.put, List.setIfInBounds_toArray, List.set_cons_succ, List.set_cons_zero]
            refine Gs_load 3 14 (fun d _ _ _ _ h => by cases d <;> exact h) (by kernel_rfl) rfl _ _ rfl rfl (some 134) rfl (by kernel_rfl) (by kernel_rfl) (HTof rfl) _ rfl Tryz.isAgg21 _ (List.Mem.tail _ (List.Mem.head _)) (by kernel_rfl) ?_
            simp only [Act.put, List.setIfInBounds_toArray, List.set_cons_succ, List.set_cons_zero]
            refine Gs_field 5 (fun d _ _ _ _ h => by cases d <;> exact h) (by kernel_rfl) rfl _ _ _ rfl rfl (some 136) rfl (by kernel_rfl) (by kernel_rfl) (HTof rfl) _ _ rfl (fieldAt79_2 _ _) ?_
            simp only [Act.put, List.setIfInBounds_toArray, List.set_cons_succ, List.set_cons_zero]
            refine Gs_load 6 14 (fun d _ _ _ _ h => by cases d <;> exact h) (by kernel_rfl) rfl _ _ rfl rfl (some 137) rfl (by kernel_rfl) (by kernel_rfl) (HTof rfl) _ rfl Tryz.isAgg21 _ (List.Mem.tail _ (List.Mem.tail _ (List.Mem.head _))) (by kernel_rfl) ?_
            simp only [Act.put, List.setIfInBounds_toArray, List.set_cons_succ, List.set_cons_zero]
            refine Gs_field 7 (fun d _ _ _ _ h => by cases d <;> exact h) (by kernel_rfl) rfl _ _ _ rfl rfl (some 138) rfl (by kernel_rfl) (by kernel_rfl) (HTof rfl) _ _ rfl (fieldAt79_4 _ _) ?_
            simp only [Act.put, List.setIfInBounds_toArray, List.set_cons_succ, List.set_cons_zero]
            refine Gs_load 8 14 (fun d _ _ _ _ h => by cases d <;> exact h) (by kernel_rfl) rfl _ _ rfl rfl (some 139) rfl (by kernel_rfl) (by kernel_rfl) (HTof rfl) _ rfl Tryz.isAgg21 _ (List.Mem.tail _ (List.Mem.tail _ (List.Mem.tail _ (List.Mem.head _)))) (by kernel_rfl) ?_
            simp only [Act.put, List.setIfInBounds_toArray, List.set_cons_succ, List.set_cons_zero]
            refine Gs_field 10 (fun d _ _ _ _ h => by cases d <;> exact h) (by kernel_rfl) rfl _ _ _ rfl rfl (some 141) rfl (by kernel_rfl) (by kernel_rfl) (HTof rfl) _ _ rfl (fieldAt79_5 _ _) ?_
            simp only [Act.put, List.setIfInBounds_toArray, List.set_cons_succ, List.set_cons_zero]
            refine Gs_load 11 14 (fun d _ _ _ _ h => by cases d <;> exact h) (by kernel_rfl) rfl _ _ rfl rfl (some 142) rfl (by kernel_rfl) (by kernel_rfl) (HTof rfl) _ rfl Tryz.isAgg3 _ (List.Mem.tail _ (List.Mem.tail _ (List.Mem.tail _ (List.Mem.tail _ (List.Mem.head _))))) (by kernel_rfl) ?_
            simp only [Act.put, List.setIfInBounds_toArray, List.set_cons_succ, List.set_cons_zero]
            refine Gs_bin 12 (fun d _ _ _ _ h => by cases d <;> exact h) (by kernel_rfl) rfl rfl (some 143) rfl (by kernel_rfl) (by kernel_rfl) (HTof rfl) (.int .i64 (s.left - 1)) (fun w => by go_simp; rw [IntKind.wrap_i64]; omega) ?_
            simp only [Act.put, List.setIfInBounds_toArray, List.set_cons_succ, List.set_cons_zero]
            refine Gs_call' 4 rfl rfl (some 135) rfl (by kernel_rfl) 102 #[.int .i32 s.x, .int .i32 s.vx] (by go_simp) (.int .i32 (mv s.x s.vx)) (M1.out _) ?_
            simp only [Act.put, List.setIfInBounds_toArray, List.set_cons_succ, List.set_cons_zero]
            refine Gs_field 13 (fun d _ _ _ _ h => by cases d <;> exact h) (by kernel_rfl) rfl _ _ _ rfl rfl (some 144) rfl (by kernel_rfl) (by kernel_rfl) (HTof rfl) _ _ rfl (fieldAt79_1 _ _) ?_
            simp only [Act.put, List.setIfInBounds_toArray, List.set_cons_succ, List.set_cons_zero]
            refine Gs_call' 9 rfl rfl (some 140) rfl (by kernel_rfl) 102 #[.int .i32 s.y, .int .i32 s.vy] (by go_simp) (.int .i32 (mv s.y s.vy)) (M2.out _) ?_
            simp only [Act.put, List.setIfInBounds_toArray, List.set_cons_succ, List.set_cons_zero]
            refine Gs_tail' 14 (by kernel_rfl) rfl (by kernel_rfl) rfl ?_
            simp only [List.drop_succ_cons, List.drop_zero]
            by_cases hl0 : s.left - 1 = 0
            · have hq0 : (s.left - 1 == 0) = true := by rw [hl0]; rfl
              have EF : Hid (flyF dk Sk s = ⟨false, dk, Sk⟩) := Lib.hid (by unfold flyF; rw [if_pos (show (flown s).left = 0 from hl0)])
              clear hl0
              go_wp2_with (first | (refine wb_put H rfl 0 21 _ _ rfl _ (1) rfl _ _ rfl (.int .i32 (mv s.x s.vx)) rfl 1 info21 rfl (Nat.le_of_ble_eq_true rfl) rfl _ rfl ?_; clear H; intro w H) | (refine wb_put H rfl 0 21 _ _ rfl _ (2) rfl _ _ rfl (.int .i32 (mv s.y s.vy)) rfl 1 info21 rfl (Nat.le_of_ble_eq_true rfl) rfl _ rfl ?_; clear H; intro w H) | (refine wb_put H rfl 0 3 _ _ rfl _ (5) rfl _ _ rfl (.int .i64 (s.left - 1)) rfl 1 info3 rfl (Nat.le_of_ble_eq_true rfl) rfl #[.int .i64 s.owner, .int .i32 (mv s.x s.vx), .int .i32 (mv s.y s.vy), .int .i32 s.vx, .int .i32 s.vy, .int .i64 (s.left - 1)] rfl ?_; clear H; intro w H) | (refine wb_cell H rfl 0 3 _ rfl _ (5) rfl _ _ rfl Tryz.isAgg3 (.int .i64 (s.left - 1)) rfl ?_))
              have H2 : Sb [] w0' w [(b14, #[.int .i64 s.owner, .int .i32 (mv s.x s.vx), .int .i32 (mv s.y s.vy), .int .i32 s.vx, .int .i32 s.vy, .int .i64 (s.left - 1)], 93), (b6, gameC fr dk Sk (.slice (some ⟨A, 0, none⟩) L.length ck), 28), (b4, Z4, 28), (b3, insC I, 40), (b2, gameC fr d S0 (.slice ad L0.length c), 28)] [(.slice adv out.length cv, out), (.slice (some ⟨A, 0, none⟩) L.length ck, L)] := H
              exact ⟨⟨k + 1, dk, Sk, out, adv, cv, hlt, rfl, rfl, Lib.hid (by have := HE2.out; rw [EF.out] at this; simpa using this), Lib.hid ⟨HK.out.1, HK.out.2.1, by have := HK.out.2.2; omega⟩, Lib.hid H2.tail⟩, by simp only [intOf]; omega⟩
            · have hq0 : (s.left - 1 == 0) = false := beq_eq_false_iff_ne.2 hl0
              have Hl := Lib.hid hl0
              have m1 := mv_bd s.x s.vx
              have m2 := mv_bd s.y s.vy
              have HH := Lib.hid (fun w => rhit_any fr dk Sk (.slice (some ⟨A, 0, none⟩) L.length ck) (flown s) w HK.out.1 HK.out.2.1 Hsok.out.o0 m1 m2)
              clear hl0
              go_wp2_with (first | (refine wb_put H rfl 0 21 _ _ rfl _ (1) rfl _ _ rfl (.int .i32 (mv s.x s.vx)) rfl 1 info21 rfl (Nat.le_of_ble_eq_true rfl) rfl _ rfl ?_; clear H; intro w H) | (refine wb_put H rfl 0 21 _ _ rfl _ (2) rfl _ _ rfl (.int .i32 (mv s.y s.vy)) rfl 1 info21 rfl (Nat.le_of_ble_eq_true rfl) rfl _ rfl ?_; clear H; intro w H) | (refine wb_put H rfl 0 3 _ _ rfl _ (5) rfl _ _ rfl (.int .i64 (s.left - 1)) rfl 1 info3 rfl (Nat.le_of_ble_eq_true rfl) rfl #[.int .i64 s.owner, .int .i32 (mv s.x s.vx), .int .i32 (mv s.y s.vy), .int .i32 s.vx, .int .i32 s.vy, .int .i64 (s.left - 1)] rfl ?_; clear H; intro w H) | (refine wb_cell H rfl 0 3 _ rfl _ (5) rfl _ _ rfl Tryz.isAgg3 (.int .i64 (s.left - 1)) rfl ?_) | (refine wb_whole H rfl 1 28 _ rfl _ rfl (gameC fr dk Sk (.slice (some ⟨A, 0, none⟩) L.length ck)) rfl _ Tryz.underlying28 rfl 59 info28 (gc_size HK.out.1) ?_) | (refine wb_whole H rfl 0 93 _ rfl _ rfl (#[.int .i64 s.owner, .int .i32 (mv s.x s.vx), .int .i32 (mv s.y s.vy), .int .i32 s.vx, .int .i32 s.vy, .int .i64 (s.left - 1)]) rfl _ Tryz.underlying93 rfl 6 info79s rfl ?_))
              replace H : Sb [] w0' w [(b14, #[.int .i64 s.owner, .int .i32 (mv s.x s.vx), .int .i32 (mv s.y s.vy), .int .i32 s.vx, .int .i32 s.vy, .int .i64 (s.left - 1)], 93), (b6, gameC fr dk Sk (.slice (some ⟨A, 0, none⟩) L.length ck), 28), (b4, Z4, 28), (b3, insC I, 40), (b2, gameC fr d S0 (.slice ad L0.length c), 28)] [(.slice adv out.length cv, out), (.slice (some ⟨A, 0, none⟩) L.length ck, L)] := H
              refine (HH.out _).mono ?_; rintro e w' ⟨rfl, hb⟩
              replace H := H.call hb
              clear hb HH M1 M2
              generalize w' = w at *
              cases hf : firstHit (flown s) Sk with
              | none =>
                have EF : Hid (flyF dk Sk s = ⟨true, dk, Sk⟩) := Lib.hid (by unfold flyF; rw [if_neg (show ¬ (flown s).left = 0 from Hl.out), hf])
                have ev : hitV (flown s) Sk = -1 := by unfold hitV; rw [hf]
                rw [ev]
                clear hf ev
                have HN := H.new #[.int .i64 s.owner, .int .i32 (mv s.x s.vx), .int .i32 (mv s.y s.vy), .int .i32 s.vx, .int .i32 s.vy, .int .i64 (s.left - 1)] 93
                have Hrow2 := Lib.hid (HN.rows _ (List.mem_cons_self ..))
                have Hnews : Hid (∀ j u, (shotL (flown s))[j]? = some u → (w.alloc (.cells #[.int .i64 s.owner, .int .i32 (mv s.x s.vx), .int .i32 (mv s.y s.vy), .int .i32 s.vx, .int .i32 s.vy, .int .i64 (s.left - 1)] 93)).cell? ((⟨w.heap.size, 0, none⟩ : Addr).add j) = some u) := Lib.hid (fun j u hu => by
                  rw [add_n, Nat.zero_add, cell_new]
                  show (shotL (flown s)).toArray[j]? = some u
                  rw [List.getElem?_toArray]
                  exact hu)
                have Hone : Hid (∀ u ∈ shotL (flown s), u.oneCell' = true) := Lib.hid (fun u hu => cellsL_one [flown s] u (by simpa [cellsL] using hu))
                have hout := HK.out.2.2
                have hmx : out.length + 1 ≤ maxLen := by unfold maxLen; omega
                have hbt : (out.length + 1) * 32 ≤ 140737488355328 := by omega
                have HNh := Lib.hid HN
                clear HN
                go_wp2_with (first | (refine wb_whole H rfl 0 93 _ rfl _ rfl (#[.int .i64 s.owner, .int .i32 (mv s.x s.vx), .int .i32 (mv s.y s.vy), .int .i32 s.vx, .int .i32 s.vy, .int .i64 (s.left - 1)]) rfl _ Tryz.underlying93 rfl 6 info79s rfl ?_) | (at_builtin; refine wpList_append_own_at _ rfl _ _ 26 rfl 0 93 i0 (.agg #[.int .i64 0, .int .i32 0, .int .i32 0, .int .i32 0, .int .i32 0, .int .i64 0]) 6 32 Tryz.underlying26 hi hz0 hz1 hz2 rfl (by decide) _ out.length (cellsL out) rfl Hrow2.out ⟨w.heap.size, 0, none⟩ 1 1 (shotL (flown s)) rfl rfl Hnews.out Hone.out hmx hbt (Nat.zero_le _) ?_; clear H; intro v' w9 hown' hgrow hnil' hblk; have hon9 := own_snoc hown'; have H := HNh.out.append 0 (.slice adv out.length cv) v' out (out ++ [flown s]) rfl hon9 hgrow hblk; obtain ⟨ad9, c9, hv9⟩ := own_form hon9; subst hv9; clear hown' hgrow hnil' hblk hon9))
                have H2 : Sb [] _ _ [(_, #[.int .i64 s.owner, .int .i32 (mv s.x s.vx), .int .i32 (mv s.y s.vy), .int .i32 s.vx, .int .i32 s.vy, .int .i64 (s.left - 1)], 93), (b14, #[.int .i64 s.owner, .int .i32 (mv s.x s.vx), .int .i32 (mv s.y s.vy), .int .i32 s.vx, .int .i32 s.vy, .int .i64 (s.left - 1)], 93), (b6, gameC fr dk Sk (.slice (some ⟨A, 0, none⟩) L.length ck), 28), (b4, Z4, 28), (b3, insC I, 40), (b2, gameC fr d S0 (.slice ad L0.length c), 28)] [(.slice ad9 (out ++ [flown s]).length c9, out ++ [flown s]), (.slice (some ⟨A, 0, none⟩) L.length ck, L)] := H
                exact ⟨⟨k + 1, dk, Sk, out ++ [flown s], ad9, c9, hlt, rfl, by simp, Lib.hid (by have := HE2.out; rw [EF.out] at this; simpa using this), Lib.hid ⟨HK.out.1, HK.out.2.1, by simp; omega⟩, Lib.hid H2.tail.tail⟩, by simp only [intOf]; omega⟩
              | some kk =>
                have hkk8 : kk < 8 := List.mem_range.1 (List.mem_of_find?_eq_some hf)
                have ev : hitV (flown s) Sk = kk := by unfold hitV; rw [hf]
                rw [ev]
                obtain ⟨t, ht⟩ : ∃ t, Sk[kk]? = some t := ⟨Sk[kk]'(by rw [HK.out.1]; exact hkk8), List.getElem?_eq_getElem _⟩
                have htD : Sk.getD kk zShp = t := by rw [List.getD_eq_getElem?_getD, ht]; rfl
                obtain ⟨ow, how⟩ : ∃ ow : Nat, s.owner = ow := ⟨s.owner.toNat, by have := Hsok.out.o0; omega⟩
                have how8 : ow < 8 := by have := Hsok.out.o1; omega
                have hp := List.find?_some hf
                have hon : t.on = true ∧ kk ≠ ow := by
                  unfold passes at hp
                  rw [htD, show (flown s).owner = s.owner from rfl, how] at hp
                  simp at hp
                  exact ⟨hp.1.1, by have := hp.1.2; omega⟩
                have EF : Hid (flyF dk Sk s = ⟨false, next (next dk), hitS Sk kk ow (px dk) (py dk)⟩) := Lib.hid (by
                  unfold flyF
                  rw [if_neg (show ¬ (flown s).left = 0 from Hl.out), hf]
                  show (⟨false, _, hitS Sk kk s.owner.toNat _ _⟩ : FlyR) = _
                  rw [how]; rfl)
                have hhurt : hurt t (px dk) (py dk) = ⟨true, px dk, py dk, 0, 0, 0, t.score⟩ := by unfold hurt; rw [hon.1]
                obtain ⟨uu, huu⟩ : ∃ uu, Sk[ow]? = some uu := ⟨Sk[ow]'(by rw [HK.out.1]; exact how8), List.getElem?_eq_getElem _⟩
                have hu1 : (Sk.set kk ⟨true, px dk, py dk, 0, 0, 0, t.score⟩)[ow]? = some uu := by rw [List.getElem?_set_ne hon.2]; exact huu
                have hHit : hitS Sk kk ow (px dk) (py dk) = if uu.on = true then (Sk.set kk ⟨true, px dk, py dk, 0, 0, 0, t.score⟩).set ow (scored uu) else Sk.set kk ⟨true, px dk, py dk, 0, 0, 0, t.score⟩ := by
                  unfold hitS
                  rw [htD, hhurt]
                  have e1 : (Sk.set kk ⟨true, px dk, py dk, 0, 0, 0, t.score⟩).getD ow zShp = uu := by rw [List.getD_eq_getElem?_getD, hu1]; rfl
                  simp only [e1]
                have HHit := Lib.hid hHit
                have huok := HK.out.2.1 uu (List.mem_of_getElem? huu)
                have Gsc := Lib.hid (gc_at (fr := fr) (d := next (next dk)) (sl := .slice (some ⟨A, 0, none⟩) L.length ck) kk 6 t (.int .i64 t.score) ht rfl)
                have Gsh := Lib.hid (gc_ship (fr := fr) (d := next (next dk)) (S := Sk) (sl := .slice (some ⟨A, 0, none⟩) L.length ck) kk ⟨true, px dk, py dk, 0, 0, 0, t.score⟩ (by rw [HK.out.1]; exact hkk8))
                have HS1 : Hid ((Sk.set kk ⟨true, px dk, py dk, 0, 0, 0, t.score⟩).length = 8) := Lib.hid (by rw [List.length_set]; exact HK.out.1)
                generalize t.score = tsc at *
                have Gon := gc_at0 (fr := fr) (d := next (next dk)) (sl := .slice (some ⟨A, 0, none⟩) L.length ck) ow uu hu1
                have Gus := gc_at (fr := fr) (d := next (next dk)) (sl := .slice (some ⟨A, 0, none⟩) L.length ck) ow 6 uu (.int .i64 uu.score) hu1 rfl
                have Gset := Lib.hid (fun (uu' : Shp) v' (he : shipL uu' = (shipL uu).set 6 v') => gc_set (fr := fr) (d := next (next dk)) (sl := .slice (some ⟨A, 0, none⟩) L.length ck) ow 6 uu uu' v' hu1 (by omega) he)
                obtain ⟨S1, hS1⟩ : ∃ S1, Sk.set kk ⟨true, px dk, py dk, 0, 0, 0, tsc⟩ = S1 := ⟨_, rfl⟩
                rw [hS1] at HHit Gsh HS1 Gon Gus Gset
                have How := Lib.hid how
                clear hf ev ht htD hp hon hhurt huu hu1 hHit hS1 how
                have Hown : Hid ((#[.int .i64 s.owner, .int .i32 (mv s.x s.vx), .int .i32 (mv s.y s.vy), .int .i32 s.vx, .int .i32 s.vy, .int .i64 (s.left - 1)] : Array Value)[0]? = some (.int .i64 (ow : Int))) := Lib.hid (by show some (Value.int .i64 s.owner) = _; rw [How.out])
                go_wp2_with (refine wb_cell H rfl 1 22 _ rfl _ (1) rfl _ _ rfl Tryz.isAgg22 (.int .u64 dk) rfl ?_)
                refine (rplace_any dk _).mono ?_; rintro e w' ⟨rfl, rfl⟩
                by_cases huo : uu.on = true
                · rw [huo] at Gon
                  have huo' : 0 ≤ uu.score ∧ uu.score ≤ 1073741824 := by
                    unfold Shp.ok OkShip at huok
                    rw [if_pos huo] at huok
                    omega
                  have us0 := huo'.1
                  have us1 := huo'.2
                  have Huo := Lib.hid huo
                  obtain ⟨usc, husc⟩ : ∃ usc, uu.score = usc := ⟨_, rfl⟩
                  have Hsc := Lib.hid husc
                  rw [husc] at Gus us0 us1
                  have How14 := Hown
                  have Husc := Lib.hid Gus
                  have HGon := Lib.hid Gon
                  clear huo huo' huok husc Gus Gon
                  go_wp2_with (first | (refine wb_put H rfl 1 22 _ _ rfl _ 1 rfl _ _ rfl (.int .u64 (next (next dk))) rfl 1 info22 rfl (by rw [gc_size HK.out.1]; omega) rfl _ (gc_setDice _) ?_; clear H; intro w H) | (refine wb_cell H rfl 1 3 _ rfl _ (2 + kk * 7 + 6) rfl _ _ rfl Tryz.isAgg3 (.int .i64 tsc) Gsc.out ?_) | (refine wb_put H rfl 1 24 _ _ rfl _ (2 + kk * 7) rfl _ _ rfl (.agg #[.bool true, .int .i32 (px dk), .int .i32 (py dk), .int .i32 0, .int .i32 0, .int .i64 0, .int .i64 tsc]) rfl 7 info24 rfl (by rw [gc_size HK.out.1]; omega) rfl _ Gsh.out ?_; clear H; intro w H) | (refine wb_cell H rfl 0 3 _ rfl _ (0) rfl _ _ rfl Tryz.isAgg3 (.int .i64 (ow : Int)) Hown.out ?_) | (refine wb_cell H rfl 1 4 _ rfl _ (2 + ow * 7) rfl _ _ rfl Tryz.isAgg4 (.bool true) HGon.out ?_))
                  replace H : Sb [] w0' w [(b14, #[.int .i64 s.owner, .int .i32 (mv s.x s.vx), .int .i32 (mv s.y s.vy), .int .i32 s.vx, .int .i32 s.vy, .int .i64 (s.left - 1)], 93), (b6, gameC fr (next (next dk)) S1 (.slice (some ⟨A, 0, none⟩) L.length ck), 28), (b4, Z4, 28), (b3, insC I, 40), (b2, gameC fr d S0 (.slice ad L0.length c), 28)] [(.slice adv out.length cv, out), (.slice (some ⟨A, 0, none⟩) L.length ck, L)] := H
                  by_cases hmin : usc + 1 ≤ 1073741824
                  · have Gp := Lib.hid (Gset.out (scored uu) (.int .i64 (usc + 1)) (by unfold scored; rw [show min (uu.score + 1) 1073741824 = usc + 1 by rw [Hsc.out]; omega]; rfl))
                    have e0 := (H.call ((Below.refl _ _).drew)).holds
                    refine Gs_start (T := [((⟨b14, 0, none⟩ : Addr), Value.int .i64 (ow : Int), 13), ((⟨b6, 2 + ow * 7 + 6, none⟩ : Addr), .int .i64 usc, 13)]) (n := 14) (by kernel_rfl) rfl ?_ ?_
                    · intro t ht _
                      simp at ht
                      rcases ht with rfl | rfl
                      · exact (cell_of_row _ _ 0 _ _ _ (e0 _ (List.mem_cons_self ..))).trans How14.out
                      · exact (cell_of_row _ _ _ _ _ _ (e0 _ (List.mem_cons_of_mem _ (List.mem_cons_self ..)))).trans Husc.out
                    clear e0
                    replace H : Sb [] w0' ({ w with drawn := w.drawn + 1 } : World) _ _ := H.call ((Below.refl _ w).drew)
                    generalize ({ w with drawn := w.drawn + 1 } : World) = w at *
                    refine Gs_field 0 (fun d _ _ _ _ h => by cases d <;> exact h) (by kernel_rfl) rfl _ _ _ rfl rfl (some 185) rfl (by kernel_rfl) (by kernel_rfl) (HTof rfl) _ _ rfl (fieldAt79_0 _ _) ?_
                    simp only [Act.put, List.setIfInBounds_toArray, List.set_cons_succ, List.set_cons_zero]
                    refine Gs_load 1 13 (fun d _ _ _ _ h => by cases d <;> exact h) (by kernel_rfl) rfl _ _ rfl rfl (some 186) rfl (by kernel_rfl) (by kernel_rfl) (HTof rfl) _ rfl Tryz.isAgg3 _ (List.Mem.head _) (by kernel_rfl) ?_
                    simp only [Act.put, List.setIfInBounds_toArray, List.set_cons_succ, List.set_cons_zero]
                    refine Gs_field 2 (fun d _ _ _ _ h => by cases d <;> exact h) (by kernel_rfl) rfl _ _ _ rfl rfl (some 187) rfl (by kernel_rfl) (by kernel_rfl) (HTof rfl) _ _ rfl (fieldAt79_0 _ _) ?_
                    simp only [Act.put, List.setIfInBounds_toArray, List.set_cons_succ, List.set_cons_zero]
                    refine Gs_load 3 13 (fun d _ _ _ _ h => by cases d <;> exact h) (by kernel_rfl) rfl _ _ rfl rfl (some 188) rfl (by kernel_rfl) (by kernel_rfl) (HTof rfl) _ rfl Tryz.isAgg3 _ (List.Mem.head _) (by kernel_rfl) ?_
                    simp only [Act.put, List.setIfInBounds_toArray, List.set_cons_succ, List.set_cons_zero]
                    refine Gs_field 4 (fun d _ _ _ _ h => by cases d <;> exact h) (by kernel_rfl) rfl _ _ _ rfl rfl (some 189) rfl (by kernel_rfl) (by kernel_rfl) (HTof rfl) _ _ rfl (fieldAt28_2 _ _) ?_
                    simp only [Act.put, List.setIfInBounds_toArray, List.set_cons_succ, List.set_cons_zero]
                    refine Gs_bin 5 (fun d _ _ _ _ h => by cases d <;> exact h) (by kernel_rfl) rfl rfl (some 190) rfl (by kernel_rfl) (by kernel_rfl) (HTof rfl) (.pointer (some ⟨b6, 2 + ow * 7, none⟩)) (fun w => by go_simp; try (intro h; omega)) ?_
                    simp only [Act.put, List.setIfInBounds_toArray, List.set_cons_succ, List.set_cons_zero]
                    refine Gs_field 6 (fun d _ _ _ _ h => by cases d <;> exact h) (by kernel_rfl) rfl _ _ _ rfl rfl (some 191) rfl (by kernel_rfl) (by kernel_rfl) (HTof rfl) _ _ rfl (fieldAt24_6 _ _) ?_
                    simp only [Act.put, List.setIfInBounds_toArray, List.set_cons_succ, List.set_cons_zero]
                    refine Gs_load 7 13 (fun d _ _ _ _ h => by cases d <;> exact h) (by kernel_rfl) rfl _ _ rfl rfl (some 192) rfl (by kernel_rfl) (by kernel_rfl) (HTof rfl) _ rfl Tryz.isAgg3 _ (List.Mem.tail _ (List.Mem.head _)) (by kernel_rfl) ?_
                    simp only [Act.put, List.setIfInBounds_toArray, List.set_cons_succ, List.set_cons_zero]
                    refine Gs_bin 8 (fun d _ _ _ _ h => by cases d <;> exact h) (by kernel_rfl) rfl rfl (some 193) rfl (by kernel_rfl) (by kernel_rfl) (HTof rfl) (.int .i64 (usc + 1)) (fun w => by go_simp; try (rw [IntKind.wrap_i64]; omega)) ?_
                    simp only [Act.put, List.setIfInBounds_toArray, List.set_cons_succ, List.set_cons_zero]
                    refine Gs_bin 9 (fun d _ _ _ _ h => by cases d <;> exact h) (by kernel_rfl) rfl rfl (some 194) rfl (by kernel_rfl) (by kernel_rfl) (HTof rfl) (.int .i64 (usc + 1)) (fun w => by go_simp; try (intro h; omega)) ?_
                    simp only [Act.put, List.setIfInBounds_toArray, List.set_cons_succ, List.set_cons_zero]
                    refine Gs_field 10 (fun d _ _ _ _ h => by cases d <;> exact h) (by kernel_rfl) rfl _ _ _ rfl rfl (some 195) rfl (by kernel_rfl) (by kernel_rfl) (HTof rfl) _ _ rfl (fieldAt28_2 _ _) ?_
                    simp only [Act.put, List.setIfInBounds_toArray, List.set_cons_succ, List.set_cons_zero]
                    refine Gs_bin 11 (fun d _ _ _ _ h => by cases d <;> exact h) (by kernel_rfl) rfl rfl (some 196) rfl (by kernel_rfl) (by kernel_rfl) (HTof rfl) (.pointer (some ⟨b6, 2 + ow * 7, none⟩)) (fun w => by go_simp; try (intro h; omega)) ?_
                    simp only [Act.put, List.setIfInBounds_toArray, List.set_cons_succ, List.set_cons_zero]
                    refine Gs_field 12 (fun d _ _ _ _ h => by cases d <;> exact h) (by kernel_rfl) rfl _ _ _ rfl rfl (some 197) rfl (by kernel_rfl) (by kernel_rfl) (HTof rfl) _ _ rfl (fieldAt24_6 _ _) ?_
                    simp only [Act.put, List.setIfInBounds_toArray, List.set_cons_succ, List.set_cons_zero]
                    refine Gs_tail' 13 (by kernel_rfl) rfl (by kernel_rfl) rfl ?_
                    simp only [List.drop_succ_cons, List.drop_zero]
                    go_wp2_with (refine wb_put H rfl 1 3 _ _ rfl _ (2 + ow * 7 + 6) rfl _ _ rfl (.int .i64 (usc + 1)) rfl 1 info3 rfl (by rw [gc_size HS1.out]; omega) rfl _ Gp.out ?_; clear H; intro w H)
                    have H2 : Sb [] w0' w [(b14, #[.int .i64 s.owner, .int .i32 (mv s.x s.vx), .int .i32 (mv s.y s.vy), .int .i32 s.vx, .int .i32 s.vy, .int .i64 (s.left - 1)], 93), (b6, gameC fr (next (next dk)) (S1.set ow (scored uu)) (.slice (some ⟨A, 0, none⟩) L.length ck), 28), (b4, Z4, 28), (b3, insC I, 40), (b2, gameC fr d S0 (.slice ad L0.length c), 28)] [(.slice adv out.length cv, out), (.slice (some ⟨A, 0, none⟩) L.length ck, L)] := H
                    exact ⟨⟨k + 1, next (next dk), S1.set ow (scored uu), out, adv, cv, hlt, rfl, rfl, Lib.hid (by have := HE2.out; rw [EF.out, HHit.out, if_pos Huo.out] at this; simpa using this), Lib.hid ⟨by have := Hkeep.out.1; rw [EF.out, HHit.out, if_pos Huo.out] at this; exact this, by have := Hkeep.out.2; rw [EF.out, HHit.out, if_pos Huo.out] at this; exact this, by have := HK.out.2.2; omega⟩, Lib.hid H2.tail⟩, by simp only [intOf]; omega⟩
                  · have hmin2 : 1073741824 < usc + 1 := by omega
                    clear hmin
                    have Gp := Lib.hid (Gset.out (scored uu) (.int .i64 1073741824) (by unfold scored; rw [show min (uu.score + 1) 1073741824 = 1073741824 by rw [Hsc.out]; omega]; rfl))
                    have e0 := (H.call ((Below.refl _ _).drew)).holds
                    refine Gs_start (T := [((⟨b14, 0, none⟩ : Addr), Value.int .i64 (ow : Int), 13), ((⟨b6, 2 + ow * 7 + 6, none⟩ : Addr), .int .i64 usc, 13)]) (n := 14) (by kernel_rfl) rfl ?_ ?_
                    · intro t ht _
                      simp at ht
                      rcases ht with rfl | rfl
                      · exact (cell_of_row _ _ 0 _ _ _ (e0 _ (List.mem_cons_self ..))).trans How14.out
                      · exact (cell_of_row _ _ _ _ _ _ (e0 _ (List.mem_cons_of_mem _ (List.mem_cons_self ..)))).trans Husc.out
                    clear e0
                    replace H : Sb [] w0' ({ w with drawn := w.drawn + 1 } : World) _ _ := H.call ((Below.refl _ w).drew)
                    generalize ({ w with drawn := w.drawn + 1 } : World) = w at *
                    refine Gs_field 0 (fun d _ _ _ _ h => by cases d <;> exact h) (by kernel_rfl) rfl _ _ _ rfl rfl (some 185) rfl (by kernel_rfl) (by kernel_rfl) (HTof rfl) _ _ rfl (fieldAt79_0 _ _) ?_
                    simp only [Act.put, List.setIfInBounds_toArray, List.set_cons_succ, List.set_cons_zero]
                    refine Gs_load 1 13 (fun d _ _ _ _ h => by cases d <;> exact h) (by kernel_rfl) rfl _ _ rfl rfl (some 186) rfl (by kernel_rfl) (by kernel_rfl) (HTof rfl) _ rfl Tryz.isAgg3 _ (List.Mem.head _) (by kernel_rfl) ?_
                    simp only [Act.put, List.setIfInBounds_toArray, List.set_cons_succ, List.set_cons_zero]
                    refine Gs_field 2 (fun d _ _ _ _ h => by cases d <;> exact h) (by kernel_rfl) rfl _ _ _ rfl rfl (some 187) rfl (by kernel_rfl) (by kernel_rfl) (HTof rfl) _ _ rfl (fieldAt79_0 _ _) ?_
                    simp only [Act.put, List.setIfInBounds_toArray, List.set_cons_succ, List.set_cons_zero]
                    refine Gs_load 3 13 (fun d _ _ _ _ h => by cases d <;> exact h) (by kernel_rfl) rfl _ _ rfl rfl (some 188) rfl (by kernel_rfl) (by kernel_rfl) (HTof rfl) _ rfl Tryz.isAgg3 _ (List.Mem.head _) (by kernel_rfl) ?_
                    simp only [Act.put, List.setIfInBounds_toArray, List.set_cons_succ, List.set_cons_zero]
                    refine Gs_field 4 (fun d _ _ _ _ h => by cases d <;> exact h) (by kernel_rfl) rfl _ _ _ rfl rfl (some 189) rfl (by kernel_rfl) (by kernel_rfl) (HTof rfl) _ _ rfl (fieldAt28_2 _ _) ?_
                    simp only [Act.put, List.setIfInBounds_toArray, List.set_cons_succ, List.set_cons_zero]
                    refine Gs_bin 5 (fun d _ _ _ _ h => by cases d <;> exact h) (by kernel_rfl) rfl rfl (some 190) rfl (by kernel_rfl) (by kernel_rfl) (HTof rfl) (.pointer (some ⟨b6, 2 + ow * 7, none⟩)) (fun w => by go_simp; try (intro h; omega)) ?_
                    simp only [Act.put, List.setIfInBounds_toArray, List.set_cons_succ, List.set_cons_zero]
                    refine Gs_field 6 (fun d _ _ _ _ h => by cases d <;> exact h) (by kernel_rfl) rfl _ _ _ rfl rfl (some 191) rfl (by kernel_rfl) (by kernel_rfl) (HTof rfl) _ _ rfl (fieldAt24_6 _ _) ?_
                    simp only [Act.put, List.setIfInBounds_toArray, List.set_cons_succ, List.set_cons_zero]
                    refine Gs_load 7 13 (fun d _ _ _ _ h => by cases d <;> exact h) (by kernel_rfl) rfl _ _ rfl rfl (some 192) rfl (by kernel_rfl) (by kernel_rfl) (HTof rfl) _ rfl Tryz.isAgg3 _ (List.Mem.tail _ (List.Mem.head _)) (by kernel_rfl) ?_
                    simp only [Act.put, List.setIfInBounds_toArray, List.set_cons_succ, List.set_cons_zero]
                    refine Gs_bin 8 (fun d _ _ _ _ h => by cases d <;> exact h) (by kernel_rfl) rfl rfl (some 193) rfl (by kernel_rfl) (by kernel_rfl) (HTof rfl) (.int .i64 (usc + 1)) (fun w => by go_simp; try (rw [IntKind.wrap_i64]; omega)) ?_
                    simp only [Act.put, List.setIfInBounds_toArray, List.set_cons_succ, List.set_cons_zero]
                    refine Gs_bin 9 (fun d _ _ _ _ h => by cases d <;> exact h) (by kernel_rfl) rfl rfl (some 194) rfl (by kernel_rfl) (by kernel_rfl) (HTof rfl) (.int .i64 1073741824) (fun w => by go_simp; try (intro h; omega)) ?_
                    simp only [Act.put, List.setIfInBounds_toArray, List.set_cons_succ, List.set_cons_zero]
                    refine Gs_field 10 (fun d _ _ _ _ h => by cases d <;> exact h) (by kernel_rfl) rfl _ _ _ rfl rfl (some 195) rfl (by kernel_rfl) (by kernel_rfl) (HTof rfl) _ _ rfl (fieldAt28_2 _ _) ?_
                    simp only [Act.put, List.setIfInBounds_toArray, List.set_cons_succ, List.set_cons_zero]
                    refine Gs_bin 11 (fun d _ _ _ _ h => by cases d <;> exact h) (by kernel_rfl) rfl rfl (some 196) rfl (by kernel_rfl) (by kernel_rfl) (HTof rfl) (.pointer (some ⟨b6, 2 + ow * 7, none⟩)) (fun w => by go_simp; try (intro h; omega)) ?_
                    simp only [Act.put, List.setIfInBounds_toArray, List.set_cons_succ, List.set_cons_zero]
                    refine Gs_field 12 (fun d _ _ _ _ h => by cases d <;> exact h) (by kernel_rfl) rfl _ _ _ rfl rfl (some 197) rfl (by kernel_rfl) (by kernel_rfl) (HTof rfl) _ _ rfl (fieldAt24_6 _ _) ?_
                    simp only [Act.put, List.setIfInBounds_toArray, List.set_cons_succ, List.set_cons_zero]
                    refine Gs_tail' 13 (by kernel_rfl) rfl (by kernel_rfl) rfl ?_
                    simp only [List.drop_succ_cons, List.drop_zero]
                    go_wp2_with (refine wb_put H rfl 1 3 _ _ rfl _ (2 + ow * 7 + 6) rfl _ _ rfl (.int .i64 1073741824) rfl 1 info3 rfl (by rw [gc_size HS1.out]; omega) rfl _ Gp.out ?_; clear H; intro w H)
                    have H2 : Sb [] w0' w [(b14, #[.int .i64 s.owner, .int .i32 (mv s.x s.vx), .int .i32 (mv s.y s.vy), .int .i32 s.vx, .int .i32 s.vy, .int .i64 (s.left - 1)], 93), (b6, gameC fr (next (next dk)) (S1.set ow (scored uu)) (.slice (some ⟨A, 0, none⟩) L.length ck), 28), (b4, Z4, 28), (b3, insC I, 40), (b2, gameC fr d S0 (.slice ad L0.length c), 28)] [(.slice adv out.length cv, out), (.slice (some ⟨A, 0, none⟩) L.length ck, L)] := H
                    exact ⟨⟨k + 1, next (next dk), S1.set ow (scored uu), out, adv, cv, hlt, rfl, rfl, Lib.hid (by have := HE2.out; rw [EF.out, HHit.out, if_pos Huo.out] at this; simpa using this), Lib.hid ⟨by have := Hkeep.out.1; rw [EF.out, HHit.out, if_pos Huo.out] at this; exact this, by have := Hkeep.out.2; rw [EF.out, HHit.out, if_pos Huo.out] at this; exact this, by have := HK.out.2.2; omega⟩, Lib.hid H2.tail⟩, by simp only [intOf]; omega⟩
                · have huf : uu.on = false := by simpa using huo
                  rw [huf] at Gon
                  have Huo := Lib.hid huo
                  have HGon := Lib.hid Gon
                  clear huo huf huok Gon Gus
                  go_wp2_with (first | (refine wb_put H rfl 1 22 _ _ rfl _ 1 rfl _ _ rfl (.int .u64 (next (next dk))) rfl 1 info22 rfl (by rw [gc_size HK.out.1]; omega) rfl _ (gc_setDice _) ?_; clear H; intro w H) | (refine wb_cell H rfl 1 3 _ rfl _ (2 + kk * 7 + 6) rfl _ _ rfl Tryz.isAgg3 (.int .i64 tsc) Gsc.out ?_) | (refine wb_put H rfl 1 24 _ _ rfl _ (2 + kk * 7) rfl _ _ rfl (.agg #[.bool true, .int .i32 (px dk), .int .i32 (py dk), .int .i32 0, .int .i32 0, .int .i64 0, .int .i64 tsc]) rfl 7 info24 rfl (by rw [gc_size HK.out.1]; omega) rfl _ Gsh.out ?_; clear H; intro w H) | (refine wb_cell H rfl 0 3 _ rfl _ (0) rfl _ _ rfl Tryz.isAgg3 (.int .i64 (ow : Int)) Hown.out ?_) | (refine wb_cell H rfl 1 4 _ rfl _ (2 + ow * 7) rfl _ _ rfl Tryz.isAgg4 (.bool false) HGon.out ?_))
                  have H2 : Sb [] w0' w [(b14, #[.int .i64 s.owner, .int .i32 (mv s.x s.vx), .int .i32 (mv s.y s.vy), .int .i32 s.vx, .int .i32 s.vy, .int .i64 (s.left - 1)], 93), (b6, gameC fr (next (next dk)) S1 (.slice (some ⟨A, 0, none⟩) L.length ck), 28), (b4, Z4, 28), (b3, insC I, 40), (b2, gameC fr d S0 (.slice ad L0.length c), 28)] [(.slice adv out.length cv, out), (.slice (some ⟨A, 0, none⟩) L.length ck, L)] := H
                  exact ⟨⟨k + 1, next (next dk), S1, out, adv, cv, hlt, rfl, rfl, Lib.hid (by have := HE2.out; rw [EF.out, HHit.out, if_neg Huo.out] at this; simpa using this), Lib.hid ⟨by have := Hkeep.out.1; rw [EF.out, HHit.out, if_neg Huo.out] at this; exact this, by have := Hkeep.out.2; rw [EF.out, HHit.out, if_neg Huo.out] at this; exact this, by have := HK.out.2.2; omega⟩, Lib.hid H2.tail⟩, by simp only [intOf]; omega⟩
          · obtain rfl : k = L.length := by omega
            have H := HB.out
            have hfin : flyAll d S L = ⟨dk, Sk, out⟩ := by
              have := HE.out
              rw [List.drop_length] at this
              simpa [flyAll] using this
            have HG1 : Hid (stepG ⟨fr, d, S0, L0⟩ I = ⟨fr + 1, dk, Sk, out⟩) := Lib.hid (by unfold stepG; dsimp only; rw [HG0.out]; dsimp only; rw [hfin])
            clear hfin HE HB
            go_wp2_with (first | (refine wb_cell H rfl 0 26 _ rfl _ (58) rfl _ _ rfl Tryz.isAgg26 (.slice adk L.length ck) Hs58.out ?_) | (refine wb_put H rfl 0 26 _ _ rfl _ 58 rfl _ _ rfl (.slice adv out.length cv) rfl 1 info26 rfl (by rw [gc_size HK.out.1]; omega) rfl _ (gc_setShots HK.out.1 _) ?_; clear H; intro w H) | (refine wb_cell H rfl 0 3 _ rfl _ (0) rfl _ _ rfl Tryz.isAgg3 (.int .i64 fr) rfl ?_) | (refine wb_put H rfl 0 3 _ _ rfl _ 0 rfl _ _ rfl (.int .i64 (fr + 1)) rfl 1 info3 rfl (by rw [gc_size HK.out.1]; omega) rfl _ (gc_setFrame _) ?_; clear H; intro w H) | (refine wb_whole H rfl 0 28 _ rfl _ rfl (gameC (fr + 1) dk Sk (.slice adv out.length cv)) rfl _ Tryz.underlying28 rfl 59 info28 (gc_size HK.out.1) ?_) | (refine wb_put H rfl 1 28 _ _ rfl _ 0 rfl _ _ rfl (.agg (gameC (fr + 1) dk Sk (.slice adv out.length cv))) rfl 59 info28 (gc_size HK.out.1) (by rw [HZ4.out]; omega) gcv_one (gameC (fr + 1) dk Sk (.slice adv out.length cv)) (splice_all _ _ (by rw [HZ4.out]; exact (gc_size HK.out.1).symm)) ?_; clear H; intro w H))
            refine bodyPost_ret (v := .tuple #[.agg (gameC (fr + 1) dk Sk (.slice adv out.length cv)), .int .i64 0]) ?_ rfl ⟨⟨_, by rw [HG1.out], by rw [HG1.out]; exact H.rows _ (List.mem_cons_self ..), fun q hq => (H.rge _ (List.mem_cons_self ..) q hq).resolve_right (by simp)⟩, H.below⟩
            exact res2 rfl rfl rfl (H.holds _ (List.mem_cons_of_mem _ (List.mem_cons_self ..))) (gc_size HK.out.1)
/-- The reference's step of any game that may be. -/
theorem rstep_any (g : Gme) (I : List Inp) (sl : Value) (w : World) (hg : g.ok) (h1 : g.fr < 1048576) (hI8 : I.length = 8) (hI : ∀ i ∈ I, i.ok) (hin : ShotsIn w sl g.L) :
    Calls Tryz.prog 58 #[.agg (gameC g.fr g.d g.S sl), .agg (insC I)] w (StepOut (stepG g I) w) := by
  obtain ⟨ad, c, rfl, _⟩ := hin.form
  exact rstepAll g.fr g.d g.S g.L I ad c w hg.s8 hg.ships hI8 hI hg.shots hg.most hg.f0 h1 hin
end Go.Proofs.YtdopfonebpklkaaGreat.game
