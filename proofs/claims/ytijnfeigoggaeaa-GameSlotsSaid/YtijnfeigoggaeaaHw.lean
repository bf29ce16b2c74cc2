/- 'GameHit': the walk of the law. -/
import Derived.Test.YtijnfeigoggaeaaSx
import Derived.Test.YtijnfeigoggaeaaHp
import Derived.Test.YtijnfeigoggaeaaTd
namespace Go.Proofs.Ytijnfeigoggaeaa.game
open Go.ChangeShapes Go.WideShapes Go.ChangeAt Go.RowKit dice
set_option maxRecDepth 100000

theorem gq_zS (d : Int) : gq 0 d false 0 0 = gameC 0 d zS (.slice none 0 0) := rfl
theorem new_zS (s : ByteArray) (w : World) (hs : s.size ≤ maxLen) (d : Int) (hd : seed s.data.toList = d) :
    Calls Try.prog 27 #[.string s] w fun e w' => e = .returned (.agg (gameC 0 d zS (.slice none 0 0))) ∧ Below w.heap.size w w' := new_gq s w hs d hd
theorem Sb.noRows' {Hs : List Nat} {W0 w : World} {l : List Blk} {R : List RowS} (h : Sb Hs W0 w l R) : Sb Hs W0 w l [] :=
  ⟨h.os, h.tape, h.output, h.size, h.fr, h.holds, h.ge, h.nd, fun _ h => by simp at h, fun _ h => by simp at h, fun _ h => by simp at h, by simp⟩
/-- A whole ship is written. -/
theorem splice_many (a b c x : List Value) (h : x.length = b.length) : splice (a ++ b ++ c).toArray a.length x = (a ++ x ++ c).toArray := by
  unfold splice
  simp [h]
theorem shipsL_put (S : List Shp) (k : Nat) (s : Shp) (hk : k < S.length) : shipsL (S.set k s) = (shipsL S).take (k * 7) ++ shipL s ++ (shipsL S).drop (k * 7 + 7) := by
  induction S generalizing k with
  | nil => simp at hk
  | cons t S ih =>
    cases k with
    | zero => unfold shipsL; simp [shipL]
    | succ k =>
      have := ih k (by simpa using hk)
      unfold shipsL at *
      rw [List.set_cons_succ, List.flatMap_cons, this, List.flatMap_cons]
      have hl : (shipL t).length = 7 := rfl
      rw [show (k + 1) * 7 + 7 = (shipL t).length + (k * 7 + 7) by rw [hl]; omega, show (k + 1) * 7 = (shipL t).length + k * 7 by rw [hl]; omega, List.take_length_add_append, List.drop_length_add_append]
      simp
theorem gc_ship {fr d : Int} {S : List Shp} {sl : Value} (k : Nat) (s : Shp) (hk : k < S.length) : splice (gameC fr d S sl) (2 + k * 7) (shipL s) = gameC fr d (S.set k s) sl := by
  have hL := length_shipsL S
  have e : shipsL S = (shipsL S).take (k * 7) ++ ((shipsL S).drop (k * 7)).take 7 ++ (shipsL S).drop (k * 7 + 7) := by
    rw [List.append_assoc, show (shipsL S).drop (k * 7 + 7) = ((shipsL S).drop (k * 7)).drop 7 by rw [List.drop_drop], List.take_append_drop, List.take_append_drop]
  have g : gameC fr d S sl = ((.int .i64 fr :: .int .u64 d :: (shipsL S).take (k * 7)) ++ ((shipsL S).drop (k * 7)).take 7 ++ ((shipsL S).drop (k * 7 + 7) ++ [sl])).toArray := by
    unfold gameC
    conv => lhs; rw [e]
    simp
  rw [g, show 2 + k * 7 = (Value.int .i64 fr :: .int .u64 d :: (shipsL S).take (k * 7)).length by simp [hL]; omega, splice_many _ _ _ _ (by simp [shipL, hL]; omega)]
  unfold gameC
  rw [shipsL_put S k s hk]
  simp
theorem gcv_one {fr d : Int} {S : List Shp} {ad : Option Addr} {n c : Nat} : (Value.cells (.agg (gameC fr d S (.slice ad n c)))).toList.all (·.oneCell') = true := by
  have := gc_one (fr := fr) (d := d) (S := S) (sl := .slice ad n c) rfl
  simpa [Value.cells] using this
set_option maxHeartbeats 8000000 in
theorem hitWalk (x y a b sc : Int) (w0' : World) (hx : -2147483648 ≤ x ∧ x ≤ 2147483647) (hy : -2147483648 ≤ y ∧ y ≤ 2147483647) (i k : Nat) (hi8 : i < 8) (hk8 : k < 8) (hik : i ≠ k) (hi : wrap64 ((IntKind.u64.wrap a).tmod 8) = (i : Int)) (hk : wrap64 ((IntKind.u64.wrap b).tmod 8) = (k : Int))
    (n : Int) (hn : wrap64 ((IntKind.u64.wrap sc).tmod 1073741825) = n) (hn0 : 0 ≤ n) (hn1 : n ≤ 1073741824) :
    Calls Try.prog 13 #[.int .i32 x, .int .i32 y, .int .i64 a, .int .i64 b, .int .i64 sc] w0' fun e w' => e = .returned (.bool true) ∧ Below w0'.heap.size w0' w' := by
  obtain ⟨D, hD⟩ : ∃ D, seed [104] = D := ⟨_, rfl⟩
  have HD := Lib.hid hD
  have hq : ((i : Int) == (k : Int)) = false := beq_eq_false_iff_ne.2 (by omega)
  have H := Sb.start w0'
  have Hik := Lib.hid hik
  clear hD hik
  go_enter Try.func13, Try.ntmps13
  go_wp2_with fail
  refine (wrapPlace_any x _ hx.1 hx.2).mono ?_; rintro e w' ⟨rfl, rfl⟩
  go_wp2_with fail
  refine (wrapPlace_any y _ hy.1 hy.2).mono ?_; rintro e w' ⟨rfl, rfl⟩
  go_wp2_with fail
  refine (new_zS ⟨#[104]⟩ _ (by decide) D HD.out).mono ?_; rintro e w2 ⟨rfl, hb⟩
  replace H := H.call hb
  clear hb
  have hX : 0 ≤ x % 16777216 ∧ x % 16777216 < 16777216 := by omega
  have hY : 0 ≤ y % 16777216 ∧ y % 16777216 < 16777216 := by omega
  generalize x % 16777216 = X at *
  generalize y % 16777216 = Y at *
  go_wp2_with (first | (refine wb_alloc H rfl 28 rfl _ Try.zeroValue28 ?_; clear H; intro b15 w H) | (refine wb_put H rfl 0 28 _ _ rfl _ 0 rfl _ _ rfl (.agg (gameC 0 D zS (.slice none 0 0))) rfl 59 info28 rfl (Nat.le_of_ble_eq_true rfl) rfl (gameC 0 D zS (.slice none 0 0)) rfl ?_; clear H; intro w H))
  refine (move_any X 8388608 _ (by omega) (by omega) (by omega) (by omega)).mono ?_; rintro e w' ⟨rfl, rfl⟩
  have hZ8 : zS.length = 8 := rfl
  have G1 := Lib.hid (gc_ship (fr := 0) (d := D) (S := zS) (sl := .slice none 0 0) i ⟨true, mv X 8388608, Y, 0, 0, 0, n⟩ (by rw [hZ8]; exact hi8))
  have G2 := Lib.hid (gc_ship (fr := 0) (d := D) (S := zS.set i ⟨true, mv X 8388608, Y, 0, 0, 0, n⟩) (sl := .slice none 0 0) k ⟨true, X, Y, 5, 0, 4, 7⟩ (by rw [List.length_set, hZ8]; exact hk8))
  have HS8 : Hid (((zS.set i ⟨true, mv X 8388608, Y, 0, 0, 0, n⟩).set k ⟨true, X, Y, 5, 0, 4, 7⟩).length = 8) := Lib.hid (by rw [List.length_set, List.length_set]; rfl)
  have HZ8 : Hid (((zS.set i ⟨true, mv X 8388608, Y, 0, 0, 0, n⟩)).length = 8) := Lib.hid (by rw [List.length_set]; rfl)
  clear hZ8
  have hm := mv_bd X 8388608
  have HP := Lib.hid (hitP D X Y n i k hi8 hk8 Hik.out)
  obtain ⟨S1, hS1⟩ : ∃ S1, (zS.set i ⟨true, mv X 8388608, Y, 0, 0, 0, n⟩).set k ⟨true, X, Y, 5, 0, 4, 7⟩ = S1 := ⟨_, rfl⟩
  have HS1 := Lib.hid hS1
  rw [hS1] at G2 HS8 HP
  clear hS1
  go_wp2_with (first | (refine wb_put H rfl 0 24 _ _ rfl _ (2 + i * 7) rfl _ _ rfl (.agg #[.bool true, .int .i32 (mv X 8388608), .int .i32 Y, .int .i32 0, .int .i32 0, .int .i64 0, .int .i64 n]) rfl 7 info24 rfl (by rw [gc_size rfl]; omega) rfl _ G1.out ?_; clear H; intro w H) | (refine wb_put H rfl 0 24 _ _ rfl _ (2 + k * 7) rfl _ _ rfl (.agg #[.bool true, .int .i32 X, .int .i32 Y, .int .i32 5, .int .i32 0, .int .i64 4, .int .i64 7]) rfl 7 info24 rfl (by rw [gc_size HZ8.out]; omega) rfl _ G2.out ?_; clear H; intro w H) | (refine wb_put (H.new _ 79) rfl 1 26 _ _ rfl _ 58 rfl _ _ rfl (.slice (some ⟨w.heap.size, 0, none⟩) 1 1) rfl 1 info26 rfl (by rw [gc_size HS8.out]; omega) rfl _ (gc_setShots HS8.out _) ?_; clear H; intro w3 H3) | (refine wb_whole H3 rfl 1 28 _ rfl _ rfl (gameC 0 D S1 (.slice (some ⟨w.heap.size, 0, none⟩) 1 1)) rfl _ Try.underlying28 rfl 59 info28 (gc_size HS8.out) ?_))
  have hsh : ShotsIn w3 (.slice (some ⟨w.heap.size, 0, none⟩) 1 1) [⟨i, X, Y, 65536, 0, 9⟩] := .inr ⟨w.heap.size, 0, 1, rfl, H3.lt _ (List.mem_cons_self ..), fun j v hv => by
    have e := H3.holds _ (List.mem_cons_self ..)
    rw [Nat.zero_add, cell_of_row _ _ j _ _ _ e]
    show (cellsL [⟨i, X, Y, 65536, 0, 9⟩]).toArray[j]? = some v
    rw [List.getElem?_toArray]
    exact hv⟩
  have hok1 : ∀ t ∈ S1, t.ok := fun t ht => by
    rw [← HS1.out] at ht
    rcases List.mem_or_eq_of_mem_set ht with h | h
    · rcases List.mem_or_eq_of_mem_set h with h | h
      · exact zS_ok t h
      · rw [h]; unfold Shp.ok OkShip; rw [if_pos rfl]; dsimp only; omega
    · rw [h]; unfold Shp.ok OkShip; rw [if_pos rfl]; dsimp only; omega
  have hokL : ∀ s ∈ [(⟨i, X, Y, 65536, 0, 9⟩ : Sht)], OkShot s := fun s hs => by
    rw [List.mem_singleton.1 hs]
    exact ⟨by dsimp only; omega, by dsimp only; omega, hX.1, hX.2, hY.1, hY.2, by dsimp only; omega, by dsimp only; omega, by dsimp only; omega, by dsimp only; omega, by dsimp only; omega, by dsimp only; omega⟩
  have HM := Lib.hid (fun u hu => mayS_any _ 0 D _ 1 [⟨i, X, Y, 65536, 0, 9⟩] u (gc_gmS (fr := 0) (d := D) (sl := .slice (some ⟨w.heap.size, 0, none⟩) 1 1) HS8.out rfl hok1) hu hokL (by simp) (by omega) (by omega))
  have HST := Lib.hid (step_any ⟨0, D, S1, [⟨i, X, Y, 65536, 0, 9⟩]⟩ zI _ w3 ⟨by dsimp only; omega, by dsimp only; omega, HS8.out, hok1, hokL, by simp⟩ (by dsimp only; omega) rfl zI_ok hsh)
  obtain ⟨S', hstep, hS8', hSk, t, hti, hts⟩ := HP.out
  rw [hstep] at HST
  have HH := Lib.hid (And.intro hS8' (And.intro hSk (And.intro hti hts)))
  have Hsh := Lib.hid hsh
  clear hstep hS8' hSk hti hts HP hsh hok1 hokL
  go_wp2_with fail
  refine (HST.out).mono ?_; rintro e w5 ⟨⟨sl', rfl, hown, hfr⟩, hb⟩
  dsimp only at hown ⊢
  obtain ⟨ad', c', rfl⟩ := own_form hown
  have H := H3.call hb
  have Hsh5 := Lib.hid (Hsh.out.later hb)
  clear hown hb hfr HST H3 Hsh
  have HGS : Hid ((gameC 1 (next (next D)) S' (.slice ad' 0 c')).size = 59) := Lib.hid (gc_size HH.out.1)
  go_wp2_with (first | (refine wb_alloc H rfl 28 rfl _ Try.zeroValue28 ?_; clear H; intro b17 w9 H) | (refine wb_put H rfl 0 28 _ _ rfl _ 0 rfl _ _ rfl (.agg (gameC 1 (next (next D)) S' (.slice ad' 0 c'))) rfl 59 info28 HGS.out (Nat.le_of_ble_eq_true rfl) gcv_one (gameC 1 (next (next D)) S' (.slice ad' 0 c')) (splice_all _ (gameC 1 (next (next D)) S' (.slice ad' 0 c')) (by rw [HGS.out]; rfl)) ?_; clear H; intro w9 H) | (refine wb_cell H rfl 2 22 _ rfl _ 1 rfl _ _ rfl Try.isAgg22 (.int .u64 D) rfl ?_))
  refine (place_any D _).mono ?_; rintro e w6 ⟨rfl, hb⟩
  replace H := H.call hb
  clear hb
  go_wp2_with fail
  refine (told_any _).mono ?_; rintro e w7 ⟨rfl, hb⟩
  replace H := H.call hb
  clear hb
  go_wp2_with (refine wb_whole H rfl 2 28 _ rfl _ rfl (gameC 0 D S1 (.slice (some ⟨w.heap.size, 0, none⟩) 1 1)) rfl _ Try.underlying28 rfl 59 info28 (gc_size HS8.out) ?_)
  have H' : Sb [] w0' w7 [(b17, gameC 1 (next (next D)) S' (.slice ad' 0 c'), 28), (w.heap.size, #[.int .i64 i, .int .i32 X, .int .i32 Y, .int .i32 65536, .int .i32 0, .int .i64 9], 79), (b15, gameC 0 D S1 (.slice (some ⟨w.heap.size, 0, none⟩) 1 1), 28)] [] := H
  have hsh7 : ShotsIn w7 (.slice (some ⟨w.heap.size, 0, none⟩) 1 1) [⟨i, X, Y, 65536, 0, 9⟩] := .inr ⟨w.heap.size, 0, 1, rfl, H'.lt _ (List.mem_cons_of_mem _ (List.mem_cons_self ..)), fun j v hv => by
    have e := H'.holds _ (List.mem_cons_of_mem _ (List.mem_cons_self ..))
    rw [Nat.zero_add, cell_of_row _ _ j _ _ _ e]
    show (cellsL [⟨i, X, Y, 65536, 0, 9⟩]).toArray[j]? = some v
    rw [List.getElem?_toArray]
    exact hv⟩
  refine (HM.out _ hsh7).mono ?_; rintro e w10 ⟨rfl, hb⟩
  replace H := H'
  clear hsh7 H'
  replace H := H.call hb
  clear hb HM Hsh5
  obtain ⟨h8, hSk, hSi, hsc⟩ := HH.out
  have C1 := Lib.hid (gc_shots (fr := 1) (d := next (next D)) (sl := .slice ad' 0 c') h8)
  have C2 := Lib.hid (fun j v hv => gc_at (fr := 1) (d := next (next D)) (sl := .slice ad' 0 c') k j _ v hSk hv)
  have C3 := gc_at (fr := 1) (d := next (next D)) (sl := .slice ad' 0 c') i 6 _ (.int .i64 t.score) hSi rfl
  rw [hsc] at C3
  clear h8 hSk hSi hsc HH
  by_cases hmin : n + 1 ≤ 1073741824
  · rw [show min (n + 1) 1073741824 = n + 1 by omega] at C3
    have HC3 := Lib.hid C3
    clear C3
    go_wp2_with (first | (refine wb_cell H rfl 0 26 _ rfl _ 58 rfl _ _ rfl Try.isAgg26 (.slice ad' 0 c') C1.out ?_) | (refine wb_cell H rfl 0 22 _ rfl _ 1 rfl _ _ rfl Try.isAgg22 (.int .u64 (next (next D))) rfl ?_) | (refine wb_part H rfl 0 24 _ rfl _ (2 + k * 7) rfl _ _ rfl _ Try.underlying24 rfl 7 info24 [.bool true, .int .i32 (px D), .int .i32 (py D), .int .i32 0, .int .i32 0, .int .i64 0, .int .i64 7] C2.out rfl ?_) | (refine wb_cell H rfl 0 3 _ rfl _ (2 + i * 7 + 6) rfl _ _ rfl Try.isAgg3 (.int .i64 (n + 1)) HC3.out ?_))
    go_ret
    exact ⟨rfl, H.below⟩
  · obtain rfl : n = 1073741824 := by omega
    have HC3 := Lib.hid C3
    clear C3
    go_wp2_with (first | (refine wb_cell H rfl 0 26 _ rfl _ 58 rfl _ _ rfl Try.isAgg26 (.slice ad' 0 c') C1.out ?_) | (refine wb_cell H rfl 0 22 _ rfl _ 1 rfl _ _ rfl Try.isAgg22 (.int .u64 (next (next D))) rfl ?_) | (refine wb_part H rfl 0 24 _ rfl _ (2 + k * 7) rfl _ _ rfl _ Try.underlying24 rfl 7 info24 [.bool true, .int .i32 (px D), .int .i32 (py D), .int .i32 0, .int .i32 0, .int .i64 0, .int .i64 7] C2.out rfl ?_) | (refine wb_cell H rfl 0 3 _ rfl _ (2 + i * 7 + 6) rfl _ _ rfl Try.isAgg3 (.int .i64 1073741824) HC3.out ?_))
    go_ret
    exact ⟨rfl, H.below⟩
theorem hitSame (x y a b sc : Int) (w0' : World) (k : Nat) (hi : wrap64 ((IntKind.u64.wrap a).tmod 8) = (k : Int)) (hk : wrap64 ((IntKind.u64.wrap b).tmod 8) = (k : Int)) :
    Calls Try.prog 13 #[.int .i32 x, .int .i32 y, .int .i64 a, .int .i64 b, .int .i64 sc] w0' fun e w' => e = .returned (.bool true) ∧ Below w0'.heap.size w0' w' := by
  have hq : ((k : Int) == (k : Int)) = true := by simp
  go_enter Try.func13, Try.ntmps13
  go_wp2_with fail
  refine (told_any _).mono ?_; rintro e w7 ⟨rfl, hb⟩
  go_wp2_with fail
  go_ret
  exact ⟨rfl, hb⟩
end Go.Proofs.Ytijnfeigoggaeaa.game
