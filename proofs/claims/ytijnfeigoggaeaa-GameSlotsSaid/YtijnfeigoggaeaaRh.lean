/- The document's answer: whom a shot hits; a ship more. -/
import Derived.Test.YtijnfeigoggaeaaRm
import Derived.Test.YtijnfeigoggaeaaSq
namespace Go.Proofs.Ytijnfeigoggaeaa.game
open Go.ChangeShapes Go.WideShapes Go.ChangeAt Go.RowKit dice
set_option maxRecDepth 100000

def hitV (s : Sht) (S : List Shp) : Int := match firstHit s S with
  | some k => k
  | none => -1
set_option maxHeartbeats 8000000 in
theorem rhit_any (fr d : Int) (S : List Shp) (sl : Value) (s : Sht) (w0' : World) (hS : S.length = 8) (hok : ∀ t ∈ S, t.ok) (o0 : 0 ≤ s.owner) (hx : 0 ≤ s.x ∧ s.x < 16777216) (hy : 0 ≤ s.y ∧ s.y < 16777216) :
    Calls Try.prog 71 #[.agg (gameC fr d S sl), .agg #[.int .i64 s.owner, .int .i32 s.x, .int .i32 s.y, .int .i32 s.vx, .int .i32 s.vy, .int .i64 s.left]] w0' fun e w' => e = .returned (.int .i64 (hitV s S)) ∧ Below w0'.heap.size w0' w' := by
  have HS := Lib.hid hS
  have HO := Lib.hid hok
  have H := Sb.start w0'
  obtain ⟨ow, how⟩ : ∃ ow : Nat, s.owner = ow := ⟨s.owner.toNat, by omega⟩
  have How := Lib.hid how
  have HX := Lib.hid hx
  have HY := Lib.hid hy
  have HP0 : ∀ k t, passes s k t = (!t.on || ((k : Int) == s.owner) || !hitsI s.x s.y t.x t.y) := fun k t => rfl
  have HPD := Lib.hid HP0
  rw [how]
  clear hS hok how hx hy HP0 o0
  go_enter Try.func71, Try.ntmps71
  go_wp2_with (first | (refine wb_box H rfl 28 _ rfl (gameC fr d S sl) rfl ?_; clear H; intro b2 w H) | (refine wb_box H rfl 79 _ rfl #[.int .i64 ow, .int .i32 s.x, .int .i32 s.y, .int .i32 s.vx, .int .i32 s.vy, .int .i64 s.left] rfl ?_; clear H; intro b3 w H))
  have H' := H
  clear H
  go_loopw [5] (fun i W => ∃ k : Nat, k ≤ 8 ∧ i = .int .i64 k ∧ Hid (∀ j, j < k → passes s j (S.getD j zShp) = true) ∧ Hid (Sb [] w0' W [(b3, #[.int .i64 ow, .int .i32 s.x, .int .i32 s.y, .int .i32 s.vx, .int .i32 s.vy, .int .i64 s.left], 79), (b2, gameC fr d S sl, 28)] [])) (fun i _ => 8 - (intOf i).toNat)
  case atStart => exact ⟨0, Nat.zero_le _, rfl, Lib.hid (fun j hj => by omega), Lib.hid H'⟩
  case round =>
    clear H'
    obtain ⟨k, hk, rfl, HP, HB⟩ := hrel
    by_cases hlt : k < 8
    · obtain ⟨t, ht⟩ : ∃ t, S[k]? = some t := ⟨S[k]'(by rw [HS.out]; exact hlt), List.getElem?_eq_getElem _⟩
      have hbg := HB.out.holds _ (List.mem_cons_of_mem _ (List.mem_cons_self ..))
      have hbp := HB.out.holds _ (List.mem_cons_self ..)
      have con : wr.cell? ⟨b2, 2 + k * 7, none⟩ = some (.bool t.on) := (cell_of_row _ _ _ _ _ _ hbg).trans (gc_at0 k t ht)
      have cx : wr.cell? ⟨b2, 2 + k * 7 + 1, none⟩ = some (.int .i32 t.x) := (cell_of_row _ _ _ _ _ _ hbg).trans (gc_at k 1 t _ ht rfl)
      have cy : wr.cell? ⟨b2, 2 + k * 7 + 2, none⟩ = some (.int .i32 t.y) := (cell_of_row _ _ _ _ _ _ hbg).trans (gc_at k 2 t _ ht rfl)
      have so : wr.cell? ⟨b3, 0, none⟩ = some (.int .i64 ow) := cell_of_row _ _ 0 _ _ _ hbp
      have sx : wr.cell? ⟨b3, 1, none⟩ = some (.int .i32 s.x) := cell_of_row _ _ 1 _ _ _ hbp
      have sy : wr.cell? ⟨b3, 2, none⟩ = some (.int .i32 s.y) := cell_of_row _ _ 2 _ _ _ hbp
      have hg : S.getD k zShp = t := by rw [List.getD_eq_getElem?_getD, ht]; rfl
      have Hg := Lib.hid hg
      have Htk := Lib.hid (HO.out t (List.mem_of_getElem? ht))
      clear hbg hbp ht hg
      have HPn : passes s k t = true → Hid (∀ j, j < k + 1 → passes s j (S.getD j zShp) = true) := fun h => Lib.hid (fun j hj => by
        by_cases e : j = k
        · rw [e, Hg.out]; exact h
        · exact HP.out j (by omega))
      by_cases hon : t.on = true
      · by_cases hko : k = ow
        · have HP' := HPn (by rw [HPD.out, How.out, hko]; simp)
          have hqk : ((k : Int) != (ow : Int)) = false := by rw [hko]; simp
          rw [hon] at con
          clear hon hko HPn
          go_wp2_with fail
          go_quiet (fail)
          have HB' := Lib.hid (HB.out.call (below_drewN (Below.refl _ _) nq))
          clear HB con cx cy so sx sy
          go_wp2_with fail
          exact ⟨⟨k + 1, hlt, rfl, HP', HB'⟩, by simp only [intOf]; omega⟩
        · have hqk : ((k : Int) != (ow : Int)) = true := by rw [bne_iff_ne]; omega
          have hqk' : ((k : Int) == (ow : Int)) = false := beq_eq_false_iff_ne.2 (by omega)
          have Hqk' := Lib.hid hqk'
          have hok : 0 ≤ t.x ∧ t.x < 16777216 ∧ 0 ≤ t.y ∧ t.y < 16777216 := by
            have := Htk.out
            unfold Shp.ok OkShip at this
            rw [if_pos hon] at this
            omega
          obtain ⟨q, hq⟩ : ∃ q, hitsI s.x s.y t.x t.y = q := ⟨_, rfl⟩
          have Hq := Lib.hid hq
          have HH : Hid (∀ w, Calls Try.prog 98 #[.int .i32 s.x, .int .i32 s.y, .int .i32 t.x, .int .i32 t.y] w fun e w' => e = .returned (.bool q) ∧ w' = w) := Lib.hid (fun w => (rhits_any s.x s.y t.x t.y w HX.out HY.out ⟨hok.1, hok.2.1⟩ ⟨hok.2.2.1, hok.2.2.2⟩).mono fun e w' h => ⟨by rw [← hq]; exact h.1, h.2.symm⟩)
          rw [hon] at con
          have Hon := Lib.hid hon
          clear hq hon hko hok hqk'
          cases q
          · have HP' := HPn (by rw [HPD.out, Hq.out]; simp)
            clear HPn
            go_wp2_with fail
            go_quiet ((go_at_call_of 98 (Value.int .i32 s.x); exact Calls.quiet_of_same (HH.out _)))
            have HB' := Lib.hid (HB.out.call (below_drewN (Below.refl _ _) nq))
            clear HB con cx cy so sx sy
            go_wp2_with fail
            exact ⟨⟨k + 1, hlt, rfl, HP', HB'⟩, by simp only [intOf]; omega⟩
          · clear HPn
            have hgt : passes s k t = false := by rw [HPD.out, How.out, Hqk'.out, Hq.out, Hon.out]; rfl
            have hfirst : hitV s S = k := by
              unfold hitV
              have : firstHit s S = some k := by
                unfold firstHit
                rw [List.find?_range_eq_some]
                exact ⟨by rw [Hg.out, hgt]; rfl, List.mem_range.2 hlt, fun j hj => by rw [HP.out j hj]; rfl⟩
              rw [this]
            have Hf := Lib.hid hfirst
            clear hgt hfirst
            go_wp2_with fail
            go_quiet ((go_at_call_of 98 (Value.int .i32 s.x); exact Calls.quiet_of_same (HH.out _)))
            have H := HB.out.call (below_drewN (Below.refl _ _) nq)
            clear HB con cx cy so sx sy
            go_wp2_with fail
            go_ret
            exact ⟨by rw [Hf.out]; rfl, H.below⟩
      · have hon' : t.on = false := by simpa using hon
        have HP' := HPn (by rw [HPD.out, hon']; rfl)
        rw [hon'] at con
        clear hon hon' HPn
        go_wp2_with fail
        go_quiet (fail)
        have HB' := Lib.hid (HB.out.call (below_drewN (Below.refl _ _) nq))
        clear HB con cx cy so sx sy
        go_wp2_with fail
        exact ⟨⟨k + 1, hlt, rfl, HP', HB'⟩, by simp only [intOf]; omega⟩
    · obtain rfl : k = 8 := by omega
      have hf : hitV s S = -1 := by
        unfold hitV
        have : firstHit s S = none := by
          unfold firstHit
          rw [List.find?_eq_none]
          intro j hj
          rw [HP.out j (List.mem_range.1 hj)]
          simp
        rw [this]
      have Hf := Lib.hid hf
      clear hf
      go_wp2_with fail
      go_ret
      exact ⟨by rw [Hf.out]; rfl, HB.out.below⟩
theorem rnew_zS (s : ByteArray) (w : World) (hs : s.size ≤ maxLen) (D : Int) (hd : seed s.data.toList = D) :
    Calls Try.prog 28 #[.string s] w fun e w' => e = .returned (.agg (gameC 0 D zS (.slice none 0 0))) ∧ Below w.heap.size w w' := by
  have HSd := Lib.hid (fun w => rseed_any s w hs)
  rw [hd] at HSd
  have H := Sb.start w
  clear hd
  go_enter Try.func28, Try.ntmps28
  go_wp2_with (first | (refine wb_alloc H rfl 28 rfl _ Try.zeroValue28 ?_; clear H; intro b2 w H))
  refine (HSd.out _).mono ?_; rintro e w' ⟨rfl, rfl⟩
  go_wp2_with (refine wb_put H rfl 0 28 _ _ rfl _ 0 rfl _ _ rfl (.agg (gameC 0 D zS (.slice none 0 0))) rfl 59 info28 rfl (Nat.le_of_ble_eq_true rfl) rfl (gameC 0 D zS (.slice none 0 0)) rfl ?_; clear H; intro w H)
  refine bodyPost_ret (v := .agg (gameC 0 D zS (.slice none 0 0))) ?_ rfl ⟨rfl, H.below⟩
  exact res1 rfl rfl (H.holds _ (List.mem_cons_self ..)) rfl
set_option maxHeartbeats 8000000 in
/-- The reference's Spawn keeps the slice that came in. -/
theorem rspawn_any (g : Gme) (k : Nat) (t : Shp) (sl : Value) (w0' : World) (hg : g.ok) (hk : k < 8) (ht : g.S[k]? = some t) (hoff : t.on = false) (hin : ShotsIn w0' sl g.L) :
    Calls Try.prog 30 #[.agg (gameC g.fr g.d g.S sl), .int .i64 k] w0' fun e w' => e = .returned (.tuple #[.agg (gameC g.fr (next (next g.d)) (spawnG g k).S sl), .int .i64 0]) ∧ Below w0'.heap.size w0' w' := by
  have HM := Lib.hid (fun w h => rmayG g sl w hg h)
  have HS := Lib.hid hg.s8
  have HI := Lib.hid hin
  have HONE := Lib.hid (fun (fr d : Int) (S : List Shp) => show (Value.cells (.agg (gameC fr d S sl))).toList.all (·.oneCell') = true by
    have := gc_one (fr := fr) (d := d) (S := S) (sl := sl) (slOne hin)
    simpa [Value.cells] using this)
  have Hc := Lib.hid (gc_at0 (fr := g.fr) (d := g.d) (sl := sl) k t ht)
  rw [hoff] at Hc
  have H := Sb.start w0'
  unfold spawnG
  clear hg ht hin hoff
  obtain ⟨fr, d, S, L⟩ := g
  dsimp only at *
  have G1 := Lib.hid (gc_ship (fr := fr) (d := next (next d)) (S := S) (sl := sl) k ⟨true, px d, py d, 0, 0, 0, 0⟩ (by rw [HS.out]; exact hk))
  have HS2 : Hid ((S.set k ⟨true, px d, py d, 0, 0, 0, 0⟩).length = 8) := Lib.hid (by rw [List.length_set]; exact HS.out)
  generalize hS2 : S.set k ⟨true, px d, py d, 0, 0, 0, 0⟩ = S2 at *
  clear hS2
  go_enter Try.func30, Try.ntmps30
  go_wp2_with (first | (refine wb_box H rfl 28 _ rfl (gameC fr d S sl) rfl ?_; clear H; intro b2 w H) | (refine wb_alloc H rfl 28 rfl _ Try.zeroValue28 ?_; clear H; intro b4 w H) | (refine wb_whole H rfl 1 28 _ rfl _ rfl _ rfl _ Try.underlying28 rfl 59 info28 (gc_size HS.out) ?_))
  refine (HM.out _ (HI.out.later H.below)).mono ?_; rintro e w' ⟨rfl, hb⟩
  replace H := H.call hb
  clear hb
  have q1 : decide ((k : Int) < 0) = false := decide_eq_false (by omega)
  have q2 : decide (8 ≤ (k : Int)) = false := decide_eq_false (by omega)
  go_wp2_with (first | (refine wb_cell H rfl 1 4 _ rfl _ (2 + k * 7) rfl _ _ rfl Try.isAgg4 (.bool false) Hc.out ?_) | (refine wb_cell H rfl 1 22 _ rfl _ 1 rfl _ _ rfl Try.isAgg22 (.int .u64 d) rfl ?_))
  refine (rplace_any d _).mono ?_; rintro e w' ⟨rfl, rfl⟩
  go_wp2_with (first | (refine wb_put H rfl 1 22 _ _ rfl _ 1 rfl _ _ rfl (.int .u64 (next (next d))) rfl 1 info22 rfl (by rw [gc_size HS.out]; omega) rfl _ (gc_setDice _) ?_; clear H; intro w H) | (refine wb_put H rfl 1 24 _ _ rfl _ (2 + k * 7) rfl _ _ rfl (.agg #[.bool true, .int .i32 (px d), .int .i32 (py d), .int .i32 0, .int .i32 0, .int .i64 0, .int .i64 0]) rfl 7 info24 rfl (by rw [gc_size HS.out]; omega) rfl _ G1.out ?_; clear H; intro w H) | (refine wb_whole H rfl 1 28 _ rfl _ rfl (gameC fr (next (next d)) S2 sl) rfl _ Try.underlying28 rfl 59 info28 (gc_size HS2.out) ?_) | (refine wb_put H rfl 0 28 _ _ rfl _ 0 rfl _ _ rfl (.agg (gameC fr (next (next d)) S2 sl)) rfl 59 info28 (gc_size HS2.out) (Nat.le_of_ble_eq_true rfl) (HONE.out _ _ _) (gameC fr (next (next d)) S2 sl) (splice_all _ _ (by rw [show (Value.cells (.agg (gameC fr (next (next d)) S2 sl))).size = 59 from gc_size HS2.out]; rfl)) ?_; clear H; intro w H))
  refine bodyPost_ret (v := .tuple #[.agg (gameC fr (next (next d)) S2 sl), .int .i64 0]) ?_ rfl ⟨rfl, H.below⟩
  exact res2 rfl rfl rfl (H.holds _ (List.mem_cons_self ..)) (gc_size HS2.out)
end Go.Proofs.Ytijnfeigoggaeaa.game
