/- game.ship, game.Spawn, over any game that may be. -/
import Derived.Test.YtdopfonebpklkaaHw
import Derived.Test.YtdopfonebpklkaaRu
namespace Go.Proofs.Ytdopfonebpklkaa.game
open Go.ChangeShapes Go.WideShapes Go.ChangeAt Go.RowKit dice
set_option maxRecDepth 100000

theorem mayG (g : Gme) (sl : Value) (w : World) (hg : g.ok) (hin : ShotsIn w sl g.L) :
    Calls Try.prog 30 #[.agg (gameC g.fr g.d g.S sl)] w fun e w' => e = .returned (.bool true) ∧ Below w.heap.size w w' := by
  have hf : ∃ ad c, sl = .slice ad g.L.length c := by
    rcases hin with ⟨e, rfl⟩ | ⟨b, o, c, rfl, _⟩
    · exact ⟨none, 0, by rw [e]; rfl⟩
    · exact ⟨_, _, rfl⟩
  obtain ⟨ad, c, rfl⟩ := hf
  exact mayS_any _ g.fr g.d ad c g.L w (gc_gmS hg.s8 rfl hg.ships) hin hg.shots hg.most hg.f0 hg.f1
theorem slOne {w : World} {sl : Value} {L : List Sht} (hin : ShotsIn w sl L) : sl.oneCell' = true := by
  rcases hin with ⟨_, rfl⟩ | ⟨b, o, c, rfl, _⟩ <;> rfl
theorem ship_any (g : Gme) (k : Nat) (t : Shp) (is : Bool) (sl : Value) (w : World) (hg : g.ok) (hk : k < 8) (ht : g.S[k]? = some t) (hin : ShotsIn w sl g.L) :
    Calls Try.prog 54 #[.agg (gameC g.fr g.d g.S sl), .int .i64 k, .bool is] w fun e w' => e = .returned (.bool (t.on == is)) ∧ Below w.heap.size w w' := by
  have HM := Lib.hid (fun w h => mayG g sl w hg h)
  have Hc := Lib.hid (gc_at0 (fr := g.fr) (d := g.d) (sl := sl) k t ht)
  have HS := Lib.hid hg.s8
  have HI := Lib.hid hin
  have H := Sb.start w
  obtain ⟨o, ho⟩ : ∃ o, t.on = o := ⟨_, rfl⟩
  rw [ho] at Hc ⊢
  clear hg ht hin ho
  generalize g.fr = fr at *
  generalize g.d = d at *
  generalize g.S = S at *
  go_enter Try.func54, Try.ntmps54
  go_wp2_with (first | (refine wb_box H rfl 33 _ rfl (gameC fr d S sl) rfl ?_; clear H; intro b w H) | (refine wb_whole H rfl 0 33 _ rfl _ rfl _ rfl _ Try.underlying33 rfl 59 info28 (gc_size HS.out) ?_))
  refine (HM.out _ (HI.out.later H.below)).mono ?_; rintro e w' ⟨rfl, hb⟩
  replace H := H.call hb
  clear hb
  go_wp2_with (first | (refine wb_cell H rfl 0 4 _ rfl _ (2 + k * 7) rfl _ _ rfl Try.isAgg4 (.bool o) Hc.out ?_))
  go_ret
  exact ⟨rfl, H.below⟩
def SpawnOut (g' : Gme) (w : World) (e : Ending) (w' : World) : Prop :=
  (∃ sl, e = .returned (.tuple #[.agg (gameC g'.fr g'.d g'.S sl), .int .i64 0]) ∧ Own w' 0 sl g'.L ∧ ∀ k, sl.ownBlock = some k → w.heap.size ≤ k) ∧ Below w.heap.size w w'
def spawnG (g : Gme) (k : Nat) : Gme := ⟨g.fr, next (next g.d), g.S.set k ⟨true, px g.d, py g.d, 0, 0, 0, 0⟩, g.L⟩
set_option maxHeartbeats 8000000 in
theorem spawn_any (g : Gme) (k : Nat) (t : Shp) (sl : Value) (w0' : World) (hg : g.ok) (hk : k < 8) (ht : g.S[k]? = some t) (hoff : t.on = false) (hin : ShotsIn w0' sl g.L) :
    Calls Try.prog 38 #[.agg (gameC g.fr g.d g.S sl), .int .i64 k] w0' (SpawnOut (spawnG g k) w0') := by
  obtain ⟨w, hw⟩ : ∃ w, w0' = w := ⟨_, rfl⟩
  have HW := Lib.hid hw
  have HM := Lib.hid (fun w h => ship_any g k t false sl w hg hk ht h)
  rw [hoff] at HM
  have HS := Lib.hid hg.s8
  have HI := Lib.hid hin
  have Hn := Lib.hid hg.most
  have HONE := Lib.hid (show (Value.cells (.agg (gameC g.fr g.d g.S sl))).toList.all (·.oneCell') = true by
    have := gc_one (fr := g.fr) (d := g.d) (S := g.S) (sl := sl) (slOne hin)
    simpa [Value.cells] using this)
  have H : Sb [] w0' w [] [] := by rw [← hw]; exact Sb.start w0'
  rw [show Calls Try.prog 38 #[.agg (gameC g.fr g.d g.S sl), .int .i64 k] w0' = Calls Try.prog 38 #[.agg (gameC g.fr g.d g.S sl), .int .i64 k] w by rw [hw]]
  unfold spawnG
  clear hg ht hin hoff hw
  obtain ⟨fr, d, S, L⟩ := g
  dsimp only at *
  go_enter Try.func38, Try.ntmps38
  go_wp2_with (first | (refine wb_box H rfl 33 _ rfl (gameC fr d S sl) rfl ?_; clear H; intro b2 w H) | (refine wb_alloc H rfl 33 rfl _ Try.zeroValue33 ?_; clear H; intro b4 w H) | (refine wb_whole H rfl 1 33 _ rfl _ rfl _ rfl _ Try.underlying33 rfl 59 info28 (gc_size HS.out) ?_))
  refine (HM.out _ (HI.out.later H.below)).mono ?_; rintro e w' ⟨rfl, hb⟩
  replace H := H.call hb
  clear hb
  go_wp2_with (first | (refine wb_alloc H rfl 29 rfl _ Try.zeroValue29 ?_; clear H; intro b6 w H) | (refine wb_put H rfl 0 29 _ _ rfl _ 0 rfl _ _ rfl (.agg #[.bool true, .int .i32 0, .int .i32 0, .int .i32 0, .int .i32 0, .int .i64 0, .int .i64 0]) rfl 7 info24 rfl (Nat.le_of_ble_eq_true rfl) rfl #[.bool true, .int .i32 0, .int .i32 0, .int .i32 0, .int .i32 0, .int .i64 0, .int .i64 0] rfl ?_; clear H; intro w H) | (refine wb_cell H rfl 2 27 _ rfl _ 1 rfl _ _ rfl Try.isAgg27 (.int .u64 d) rfl ?_))
  refine (place_any d _).mono ?_; rintro e w' ⟨rfl, hb⟩
  replace H := H.call hb
  clear hb
  go_wp2_with (first | (refine wb_put H rfl 0 21 _ _ rfl _ 1 rfl _ _ rfl (.int .i32 (px d)) rfl 1 info21 rfl (Nat.le_of_ble_eq_true rfl) rfl _ rfl ?_; clear H; intro w H) | (refine wb_put H rfl 0 21 _ _ rfl _ 2 rfl _ _ rfl (.int .i32 (py d)) rfl 1 info21 rfl (Nat.le_of_ble_eq_true rfl) rfl _ rfl ?_; clear H; intro w H) | (refine wb_put H rfl 2 27 _ _ rfl _ 1 rfl _ _ rfl (.int .u64 (next (next d))) rfl 1 info22 rfl (by rw [gc_size HS.out]; omega) rfl _ (gc_setDice _) ?_; clear H; intro w H))
  replace H : Sb [] w0' w [(b6, #[.bool true, .int .i32 (px d), .int .i32 (py d), .int .i32 0, .int .i32 0, .int .i64 0, .int .i64 0], 29), (b4, _, 33), (b2, gameC fr (next (next d)) S sl, 33)] [] := H
  have Hsh0 := Lib.hid (gc_shots (fr := fr) (d := next (next d)) (S := S) (sl := sl) HS.out)
  have e0 := (H.call ((Below.refl _ w).drew)).holds
  refine Gs_start (T := [((⟨b6, 0, none⟩ : Addr), Value.bool true, 7), (⟨b6, 1, none⟩, .int .i32 (px d), 7), (⟨b6, 2, none⟩, .int .i32 (py d), 7), (⟨b6, 3, none⟩, .int .i32 0, 7), (⟨b6, 4, none⟩, .int .i32 0, 7), (⟨b6, 5, none⟩, .int .i64 0, 7), (⟨b6, 6, none⟩, .int .i64 0, 7), (⟨b2, 58, none⟩, sl, 7)]) (n := 10) (by kernel_rfl) rfl ?_ ?_
  · intro t ht _
    simp at ht
    rcases ht with rfl | rfl | rfl | rfl | rfl | rfl | rfl | rfl
    · exact cell_of_row _ _ 0 _ _ _ (e0 _ (List.mem_cons_self ..))
    · exact cell_of_row _ _ 1 _ _ _ (e0 _ (List.mem_cons_self ..))
    · exact cell_of_row _ _ 2 _ _ _ (e0 _ (List.mem_cons_self ..))
    · exact cell_of_row _ _ 3 _ _ _ (e0 _ (List.mem_cons_self ..))
    · exact cell_of_row _ _ 4 _ _ _ (e0 _ (List.mem_cons_self ..))
    · exact cell_of_row _ _ 5 _ _ _ (e0 _ (List.mem_cons_self ..))
    · exact cell_of_row _ _ 6 _ _ _ (e0 _ (List.mem_cons_self ..))
    · exact (cell_of_row _ _ 58 _ _ _ (e0 _ (List.mem_cons_of_mem _ (List.mem_cons_of_mem _ (List.mem_cons_self ..))))).trans Hsh0.out
  clear e0
  replace H : Sb [] w0' ({ w with drawn := w.drawn + 1 } : World) _ _ := H.call ((Below.refl _ w).drew)
  generalize ({ w with drawn := w.drawn + 1 } : World) = w at *
  refine Gs_move 0 (fun d _ _ _ _ h => by cases d <;> exact h) (by kernel_rfl) rfl _ rfl rfl (some 23) rfl (by kernel_rfl) (by kernel_rfl) (HTof rfl) (.int _ _) rfl ?_
  simp only [Act.put, List.setIfInBounds_toArray, List.set_cons_succ, List.set_cons_zero]
  refine Gs_loadRow 1 7 (fun d _ _ _ _ h => by cases d <;> exact h) (by kernel_rfl) rfl _ _ rfl rfl (some 24) rfl (by kernel_rfl) (by kernel_rfl) (HTof rfl) b6 0 rfl [.bool true, .int .i32 (px d), .int .i32 (py d), .int .i32 0, .int .i32 0, .int .i64 0, .int .i64 0] (fun j v hv => by
    match j, hv with
    | 0, hv | 1, hv | 2, hv | 3, hv | 4, hv | 5, hv | 6, hv => cases hv; simp
    | j + 7, hv => simp at hv) (by kernel_rfl) _ Try.underlying29 rfl info24 ?_
  simp only [Act.put, List.setIfInBounds_toArray, List.set_cons_succ, List.set_cons_zero]
  refine Gs_field 2 (fun d _ _ _ _ h => by cases d <;> exact h) (by kernel_rfl) rfl _ _ _ rfl rfl (some 25) rfl (by kernel_rfl) (by kernel_rfl) (HTof rfl) _ _ rfl (fieldAt28_3 _ _) ?_
  simp only [Act.put, List.setIfInBounds_toArray, List.set_cons_succ, List.set_cons_zero]
  refine Gs_load 3 7 (fun d _ _ _ _ h => by cases d <;> exact h) (by kernel_rfl) rfl _ _ rfl rfl (some 26) rfl (by kernel_rfl) (by kernel_rfl) (HTof rfl) _ rfl Try.isAgg31 _ (List.Mem.tail _ (List.Mem.tail _ (List.Mem.tail _ (List.Mem.tail _ (List.Mem.tail _ (List.Mem.tail _ (List.Mem.tail _ (List.Mem.head _)))))))) (by kernel_rfl) ?_
  simp only [Act.put, List.setIfInBounds_toArray, List.set_cons_succ, List.set_cons_zero]
  refine Gs_field 5 (fun d _ _ _ _ h => by cases d <;> exact h) (by kernel_rfl) rfl _ _ _ rfl rfl (some 28) rfl (by kernel_rfl) (by kernel_rfl) (HTof rfl) _ _ rfl (fieldAt28_2 _ _) ?_
  simp only [Act.put, List.setIfInBounds_toArray, List.set_cons_succ, List.set_cons_zero]
  refine Gs_bin 6 (fun d _ _ _ _ h => by cases d <;> exact h) (by kernel_rfl) rfl rfl (some 29) rfl (by kernel_rfl) (by kernel_rfl) (HTof rfl) (.pointer (some ⟨b2, 2 + k * 7, none⟩)) (fun w => by go_simp; intro h; omega) ?_
  simp only [Act.put, List.setIfInBounds_toArray, List.set_cons_succ, List.set_cons_zero]
  refine Gs_callB 4 rfl rfl (some 27) rfl (by kernel_rfl) 39 #[sl] (by go_simp) (clone_any sl L _ (HI.out.later H.below) (by have := Hn.out; omega)) ?_
  rintro e w1 ⟨⟨sl0, rfl, hown⟩, hb⟩
  refine ⟨sl0, rfl, hb, ?_⟩
  simp only [Act.put, List.setIfInBounds_toArray, List.set_cons_succ, List.set_cons_zero]
  refine Gs_tail' 7 (by kernel_rfl) rfl (by kernel_rfl) rfl ?_
  simp only [List.drop_succ_cons, List.drop_zero]
  obtain ⟨ad0, c0, rfl⟩ := own_form hown
  replace H := H.addRow _ L (own_zero hown) hb (fun k hk => (World.ownsRow.lt hown k hk).1)
  clear hown hb
  have G1 := Lib.hid (gc_ship (fr := fr) (d := next (next d)) (S := S) (sl := sl) k ⟨true, px d, py d, 0, 0, 0, 0⟩ (by rw [HS.out]; exact hk))
  have HS2 : Hid ((S.set k ⟨true, px d, py d, 0, 0, 0, 0⟩).length = 8) := Lib.hid (by rw [List.length_set]; exact HS.out)
  generalize hS2 : S.set k ⟨true, px d, py d, 0, 0, 0, 0⟩ = S2 at *
  clear hS2
  go_wp2_with (first | (refine wb_put H rfl 2 29 _ _ rfl _ (2 + k * 7) rfl _ _ rfl (.agg #[.bool true, .int .i32 (px d), .int .i32 (py d), .int .i32 0, .int .i32 0, .int .i64 0, .int .i64 0]) rfl 7 info24 rfl (by rw [gc_size HS.out]; omega) rfl _ G1.out ?_; clear H; intro w H) | (refine wb_put H rfl 2 31 _ _ rfl _ 58 rfl _ _ rfl (.slice ad0 L.length c0) rfl 1 info26 rfl (by rw [gc_size HS2.out]; omega) rfl _ (gc_setShots HS2.out _) ?_; clear H; intro w H) | (refine wb_whole H rfl 2 33 _ rfl _ rfl (gameC fr (next (next d)) S2 (.slice ad0 L.length c0)) rfl _ Try.underlying33 rfl 59 info28 (gc_size HS2.out) ?_) | (refine wb_put H rfl 1 33 _ _ rfl _ 0 rfl _ _ rfl (.agg (gameC fr (next (next d)) S2 (.slice ad0 L.length c0))) rfl 59 info28 (gc_size HS2.out) (Nat.le_of_ble_eq_true rfl) gcv_one (gameC fr (next (next d)) S2 (.slice ad0 L.length c0)) (splice_all _ _ (by rw [show (Value.cells (.agg (gameC fr (next (next d)) S2 (.slice ad0 L.length c0)))).size = 59 from gc_size HS2.out]; rfl)) ?_; clear H; intro w H))
  refine bodyPost_ret (v := .tuple #[.agg (gameC fr (next (next d)) S2 (.slice ad0 L.length c0)), .int .i64 0]) ?_ rfl ⟨⟨_, rfl, H.rows _ (List.mem_cons_self ..), fun q hq => (H.rge _ (List.mem_cons_self ..) q hq).resolve_right (by simp)⟩, H.below⟩
  exact res2 rfl rfl rfl (H.holds _ (List.mem_cons_of_mem _ (List.mem_cons_self ..))) (gc_size HS2.out)
end Go.Proofs.Ytdopfonebpklkaa.game
