/- The document's answer: Remove. The document's answer: an entry that may be (printed by mkxe.py). -/
import Derived.Test.YtdopfonebpklkaaGreatFoldRuns19
namespace Go.Proofs.YtdopfonebpklkaaGreat.game
open Go.ChangeShapes Go.WideShapes Go.ChangeAt Go.RowKit dice
set_option maxRecDepth 100000

theorem filter_snoc {L : List Sht} {k : Nat} {s : Sht} {x : Int} (hs : L[k]? = some s) : (L.take (k + 1)).filter (fun s => decide (s.owner ≠ x)) = (L.take k).filter (fun s => decide (s.owner ≠ x)) ++ if s.owner = x then [] else [s] := by
  obtain ⟨hk, e⟩ := List.getElem?_eq_some_iff.1 hs
  rw [List.take_succ_eq_append_getElem hk, e, List.filter_append]
  congr 1
  by_cases h : s.owner = x <;> simp [h]
set_option maxHeartbeats 8000000 in
theorem rremove_any (g : Gme) (k : Nat) (t : Shp) (sl : Value) (w0' : World) (hg : g.ok) (hk : k < 8) (ht : g.S[k]? = some t) (hon : t.on = true) (hin : ShotsIn w0' sl g.L) :
    Calls Tryz.prog 56 #[.agg (gameC g.fr g.d g.S sl), .int .i64 k] w0' (SpawnOut (removeG g k) w0') := by
  have HM := Lib.hid (fun w h => rmayG g sl w hg h)
  have HS := Lib.hid hg.s8
  have Hn := Lib.hid hg.most
  have Hc := Lib.hid (gc_at0 (fr := g.fr) (d := g.d) (sl := sl) k t ht)
  rw [hon] at Hc
  have H := Sb.start w0'
  unfold removeG
  have HI := Lib.hid hin
  obtain ⟨ad, c, hsl, HF⟩ := hin.form
  have HF := Lib.hid HF
  subst hsl
  clear hg ht hon hin
  obtain ⟨fr, d, S, L⟩ := g
  dsimp only at *
  obtain ⟨i0, hi, hz0, hz1, hz2⟩ := info_shot
  have G1 := Lib.hid (gc_ship (fr := fr) (d := d) (S := S) (sl := .slice ad L.length c) k zShp (by rw [HS.out]; exact hk))
  have HS2 : Hid ((S.set k zShp).length = 8) := Lib.hid (by rw [List.length_set]; exact HS.out)
  generalize hS2 : S.set k zShp = S2 at *
  clear hS2
  have hft : 2 + k * 7 + 7 ≤ (gameC fr d S (.slice ad L.length c)).size := by rw [gc_size HS.out]; omega
  have Hft := Lib.hid hft
  have Hsh := Lib.hid (gc_shots (fr := fr) (d := d) (S := S2) (sl := .slice ad L.length c) HS2.out)
  clear hft
  go_enter Tryz.func56, Tryz.ntmps56
  go_wp2_with (first | (refine wb_box H rfl 28 _ rfl (gameC fr d S (.slice ad L.length c)) rfl ?_; clear H; intro b2 w H) | (refine wb_alloc H rfl 28 rfl _ Tryz.zeroValue28 ?_; clear H; intro b4 w H) | (refine wb_whole H rfl 1 28 _ rfl _ rfl _ rfl _ Tryz.underlying28 rfl 59 info28 (gc_size HS.out) ?_))
  refine (HM.out _ (HI.out.later H.below)).mono ?_; rintro e w' ⟨rfl, hb⟩
  replace H := H.call hb
  clear hb HM
  have q1 : decide ((k : Int) < 0) = false := decide_eq_false (by omega)
  have q2 : decide (8 ≤ (k : Int)) = false := decide_eq_false (by omega)
  have hk8 : (k : Int) < 8 := by omega
  go_upto_region 4 with (first | (refine wb_cell H rfl 1 4 _ rfl _ (2 + k * 7) rfl _ _ rfl Tryz.isAgg4 (.bool true) Hc.out ?_) | (refine wl_build rfl 24 _ rfl (shipL zShp).toArray (by kernel_rfl) ?_) | (refine wb_put H rfl 1 24 _ _ rfl _ (2 + k * 7) rfl _ _ rfl (.agg (shipL zShp).toArray) rfl 7 info24 rfl Hft.out rfl _ G1.out ?_; clear H; intro w H))
  obtain ⟨Z4, hZ4, H'⟩ : ∃ Z4 : Array Value, Z4.size = 59 ∧ Sb [] w0' w [(b4, Z4, 28), (b2, gameC fr d S2 (.slice ad L.length c), 28)] [] := ⟨_, rfl, H⟩
  have HZ4 := Lib.hid hZ4
  clear H hZ4
  replace H' := H'.addRow (.slice none 0 0) [] (World.ownsRow_nil _ _ _ _) (Below.refl _ _) (fun k hk => by cases hk)
  go_wp2_with fail
  have HX := Lib.hid H'
  clear H'
  go_loopw [6, 7] (fun lv i W => ∃ (j : Nat) (out : List Sht) (adv : Option Addr) (cv : Nat), j ≤ L.length ∧ i = .int .i64 j ∧ lv = .slice adv out.length cv ∧ Hid (out = (L.take j).filter fun s => decide (s.owner ≠ (k : Int))) ∧ Hid (Sb [] w0' W [(b4, Z4, 28), (b2, gameC fr d S2 (.slice ad L.length c), 28)] [(.slice adv out.length cv, out)])) (fun _ i _ => L.length - (intOf i).toNat)
  case atStart => exact ⟨0, [], none, 0, Nat.zero_le _, rfl, rfl, Lib.hid rfl, HX⟩
  case round =>
    clear HX
    obtain ⟨j, out, adv, cv, hj, rfl, rfl, HO, HB⟩ := hrel
    have Hhid := HB
    have H := HB.out
    clear HB
    by_cases hlt : j < L.length
    · obtain ⟨s, hs⟩ : ∃ s, L[j]? = some s := ⟨L[j], List.getElem?_eq_getElem hlt⟩
      obtain ⟨gi, oi, had, hgi, hc⟩ := HF.out (by omega)
      subst had
      obtain ⟨p0, p1, p2, p3, p4, p5⟩ := shot_at (fun j v h => (World.cell?_of_block (a := ⟨gi, oi + j, none⟩) (H.fr gi hgi (by simp))).trans (hc j v h)) j s hs
      have HNx := Lib.hid (HO.out.symm ▸ (filter_snoc (x := k) hs))
      have hle : out.length ≤ j := by rw [HO.out]; exact Nat.le_trans (List.length_filter_le ..) (by rw [List.length_take]; omega)
      have hn := Hn.out
      clear hs hc hgi
      by_cases ho : s.owner = (k : Int)
      · have q : decide (s.owner = (k : Int)) = true := decide_eq_true ho
        have HNy : Hid (out = (L.take (j + 1)).filter fun s => decide (s.owner ≠ (k : Int))) := Lib.hid (by rw [HNx.out, if_pos ho, List.append_nil, HO.out])
        generalize s.owner = so at *
        subst ho
        go_wp2_with (refine wb_cell H rfl 1 26 _ rfl _ 58 rfl _ _ rfl Tryz.isAgg26 (.slice (some ⟨gi, oi, none⟩) L.length c) Hsh.out ?_)
        exact ⟨⟨j + 1, out, adv, cv, hlt, rfl, rfl, HNy, Hhid⟩, by simp only [intOf]; omega⟩
      · have q : decide (s.owner = (k : Int)) = false := decide_eq_false ho
        have HNy : Hid (out ++ [s] = (L.take (j + 1)).filter fun s => decide (s.owner ≠ (k : Int))) := Lib.hid (by rw [HNx.out, if_neg ho, HO.out])
        have HN := H.new #[.int .i64 s.owner, .int .i32 s.x, .int .i32 s.y, .int .i32 s.vx, .int .i32 s.vy, .int .i64 s.left] 93
        have Hrow2 := Lib.hid (HN.rows _ (List.mem_cons_self ..))
        have Hnews : Hid (∀ j u, (shotL s)[j]? = some u → (wr.alloc (.cells #[.int .i64 s.owner, .int .i32 s.x, .int .i32 s.y, .int .i32 s.vx, .int .i32 s.vy, .int .i64 s.left] 93)).cell? ((⟨wr.heap.size, 0, none⟩ : Addr).add j) = some u) := Lib.hid (fun j u hu => by
          rw [add_n, Nat.zero_add, cell_new]
          show (shotL s).toArray[j]? = some u
          rw [List.getElem?_toArray]
          exact hu)
        have Hone : Hid (∀ u ∈ shotL s, u.oneCell' = true) := Lib.hid (fun u hu => cellsL_one [s] u (by simpa [cellsL] using hu))
        have hmx : out.length + 1 ≤ maxLen := by unfold maxLen; omega
        have hbt : (out.length + 1) * 32 ≤ 140737488355328 := by omega
        have HNh := Lib.hid HN
        clear HN
        go_wp2_with (first | (refine wb_cell H rfl 1 26 _ rfl _ 58 rfl _ _ rfl Tryz.isAgg26 (.slice (some ⟨gi, oi, none⟩) L.length c) Hsh.out ?_) | (at_builtin; refine wpList_append_own_at _ rfl _ _ 26 rfl 0 93 i0 (.agg #[.int .i64 0, .int .i32 0, .int .i32 0, .int .i32 0, .int .i32 0, .int .i64 0]) 6 32 Tryz.underlying26 hi hz0 hz1 hz2 rfl (by decide) _ out.length (cellsL out) rfl Hrow2.out ⟨wr.heap.size, 0, none⟩ 1 1 (shotL s) rfl rfl Hnews.out Hone.out hmx hbt (Nat.zero_le _) ?_; clear H; intro v' w9 hown' hgrow hnil' hblk; have hon9 := own_snoc hown'; have H := HNh.out.append 0 (.slice adv out.length cv) v' out (out ++ [s]) rfl hon9 hgrow hblk; obtain ⟨ad9, c9, hv9⟩ := own_form hon9; subst hv9; clear hown' hgrow hnil' hblk hon9))
        have H2 : Sb [] _ _ [(_, #[.int .i64 s.owner, .int .i32 s.x, .int .i32 s.y, .int .i32 s.vx, .int .i32 s.vy, .int .i64 s.left], 93), (b4, Z4, 28), (b2, gameC fr d S2 (.slice (some ⟨gi, oi, none⟩) L.length c), 28)] [(.slice ad9 (out ++ [s]).length c9, out ++ [s])] := H
        exact ⟨⟨j + 1, out ++ [s], ad9, c9, hlt, rfl, by simp, HNy, Lib.hid H2.tail⟩, by simp only [intOf]; omega⟩
    · obtain rfl : j = L.length := by omega
      have HO2 : Hid (out = L.filter fun s => decide (s.owner ≠ (k : Int))) := Lib.hid (by rw [HO.out, List.take_length])
      have Hft2 : Hid (58 + 1 ≤ (gameC fr d S2 (.slice ad L.length c)).size) := Lib.hid (by rw [gc_size HS2.out]; omega)
      have G2 := Lib.hid (gc_setShots (fr := fr) (d := d) (sl := .slice ad L.length c) HS2.out (.slice adv out.length cv))
      have HZf : Hid (splice Z4 0 (Value.cells (.agg (gameC fr d S2 (.slice adv out.length cv)))).toList = gameC fr d S2 (.slice adv out.length cv)) := Lib.hid (splice_all _ _ (by rw [HZ4.out]; exact (gc_size HS2.out).symm))
      have Hft3 : Hid (0 + 59 ≤ Z4.size) := Lib.hid (by rw [HZ4.out]; decide)
      go_wp2_with (first | (refine wb_cell H rfl 1 26 _ rfl _ 58 rfl _ _ rfl Tryz.isAgg26 (.slice ad L.length c) Hsh.out ?_) | (refine wb_put H rfl 1 26 _ _ rfl _ 58 rfl _ _ rfl (.slice adv out.length cv) rfl 1 info26 rfl Hft2.out rfl _ G2.out ?_; clear H; intro w H) | (refine wb_whole H rfl 1 28 _ rfl _ rfl (gameC fr d S2 (.slice adv out.length cv)) rfl _ Tryz.underlying28 rfl 59 info28 (gc_size HS2.out) ?_) | (refine wb_put H rfl 0 28 _ _ rfl _ 0 rfl _ _ rfl (.agg (gameC fr d S2 (.slice adv out.length cv))) rfl 59 info28 (gc_size HS2.out) Hft3.out gcv_one _ HZf.out ?_; clear H; intro w H))
      refine bodyPost_ret (v := .tuple #[.agg (gameC fr d S2 (.slice adv out.length cv)), .int .i64 0]) ?_ rfl ⟨⟨_, rfl, by dsimp only; rw [← HO2.out]; exact H.rows _ (List.mem_cons_self ..), fun q hq => (H.rge _ (List.mem_cons_self ..) q hq).resolve_right (by simp)⟩, H.below⟩
      exact res2 rfl rfl rfl (H.holds _ (List.mem_cons_self ..)) (gc_size HS2.out)
end Go.Proofs.YtdopfonebpklkaaGreat.game
namespace Go.Proofs.YtdopfonebpklkaaGreat.game
open Go.ChangeShapes Go.WideShapes Go.ChangeAt Go.RowKit dice
set_option maxRecDepth 100000

theorem rEvs_step (kd s : Int) (x : Evt) (l : List Evt) (hc : ¬ (x.kind = 1 ∧ kd = 2)) : rEvs kd s (x :: l) = (decide (x.kind = kd) && decide (s < x.slot) && decide (x.slot < 8) && decide (1 ≤ x.gen) && decide (x.gen ≤ 60000) && decide (0 ≤ x.peer) && decide (x.peer < 12) && rEvs kd x.slot l) := by
  rw [rEvs, if_neg hc]
theorem rEvs_turn (s : Int) (x : Evt) (l : List Evt) (h : x.kind = 1) : rEvs 2 s (x :: l) = (decide (x.kind = 1) && decide (-1 < x.slot) && decide (x.slot < 8) && decide (1 ≤ x.gen) && decide (x.gen ≤ 60000) && decide (0 ≤ x.peer) && decide (x.peer < 12) && rEvs 1 x.slot l) := by
  rw [rEvs, if_pos ⟨h, rfl⟩, h]
  simp
theorem drop_cons_at {α : Type} {E : List α} {k : Nat} {x : α} (h : E[k]? = some x) : E.drop k = x :: E.drop (k + 1) := by
  obtain ⟨hk, e⟩ := List.getElem?_eq_some_iff.1 h
  rw [List.drop_eq_getElem_cons hk, e]
theorem ins_at {I : List Inp} {k j : Nat} {i : Inp} {v : Value} (hi : I[k]? = some i) (hv : (inpL i)[j]? = some v) : (I.flatMap inpL)[k * 3 + j]? = some v := by
  induction I generalizing k with
  | nil => simp at hi
  | cons a I ih =>
    cases k with
    | zero =>
      simp at hi
      subst hi
      have := (List.getElem?_eq_some_iff.1 hv).1
      rw [List.flatMap_cons, Nat.zero_mul, Nat.zero_add, List.getElem?_append_left this]
      exact hv
    | succ k =>
      rw [List.flatMap_cons, List.getElem?_append_right (by simp only [inpL, List.length_cons, List.length_nil]; omega)]
      simp only [inpL, List.length_cons, List.length_nil]
      rw [show (k + 1) * 3 + j - (0 + 1 + 1 + 1) = k * 3 + j by omega]
      exact ih (by simpa using hi)
theorem info39x : (Tryz.prog.info? 39).map (·.size) = some 3 := by kernel_rfl
set_option maxHeartbeats 8000000 in
theorem rentMay_b (e : Ent) (sl : Value) (w0 : World) (h8 : e.ins.length = 8) (hI : ∀ i ∈ e.ins, i.ok) (hin : EvW w0 sl e.evs) (hn : e.evs.length ≤ 1000) :
    Calls Tryz.prog 54 #[.agg (entC e sl)] w0 fun e' w' => e' = .returned (.bool (entMay e)) ∧ Below w0.heap.size w0 w' := by
  have H := Sb.start w0
  have H8 := Lib.hid h8
  have HIo := Lib.hid hI
  have HI := Lib.hid hin
  have H0 := Lib.hid (en_fr (e := e) (sl := sl))
  have H1 := Lib.hid (en_sl (e := e) (sl := sl))
  have HN := Lib.hid (en_ins (e := e) (sl := sl))
  obtain ⟨ad, c, rfl⟩ := hin.form
  obtain ⟨r, hr⟩ : ∃ r, entMay e = r := ⟨_, rfl⟩
  rw [hr]
  have HR := Lib.hid hr
  generalize entC e (.slice ad e.evs.length c) = ec at *
  obtain ⟨fr, E, I⟩ := e
  dsimp only at *
  have hfin : ∀ b, entMay ⟨fr, E, I⟩ = b → b = r := fun b h => h.symm.trans HR.out
  have Fin := Lib.hid hfin
  have Hn := Lib.hid (show (E.length : Int) ≤ 1000 by omega)
  clear hr h8 hin hn hfin HR hI
  go_enter Tryz.func54, Tryz.ntmps54
  go_upto_region 1 with (refine wb_box H rfl 42 _ rfl ec rfl ?_; clear H; intro b1 w H)
  have c0 : w.cell? ⟨b1, 0, none⟩ = some (.int .i64 fr) := (cell_of_row w b1 0 _ 42 (0, 0) (H.holds _ (List.mem_cons_self ..))).trans H0.out
  by_cases f0 : 0 ≤ fr
  rotate_left
  · have q0 : decide (fr < 0) = true := decide_eq_true (by omega)
    obtain rfl := Fin.out false (by unfold entMay; simp [f0])
    go_wp2_with fail
    go_ret
    exact ⟨by first | rfl | simp, H.below⟩
  have q0 : decide (fr < 0) = false := decide_eq_false (by omega)
  by_cases f1 : fr < 1048576
  rotate_left
  · have q1 : decide (1048576 ≤ fr) = true := decide_eq_true (by omega)
    obtain rfl := Fin.out false (by unfold entMay; simp [f1])
    go_wp2_with fail
    go_ret
    exact ⟨by first | rfl | simp, H.below⟩
  have q1 : decide (1048576 ≤ fr) = false := decide_eq_false (by omega)
  have Ff := Lib.hid (show 0 ≤ fr ∧ fr < 1048576 from ⟨f0, f1⟩)
  clear f0 f1
  go_upto_region 3 with fail
  clear c0 q0 q1
  go_upto_region 5 with fail
  have HB := Lib.hid H
  clear H
  go_loopw [3, 4, 5] (fun kv sv i W => ∃ (k : Nat) (kd s : Int), k ≤ E.length ∧ kv = .int .i64 kd ∧ sv = .int .i64 s ∧ i = .int .i64 k ∧ Hid (Sb [] w0 W [(b1, ec, 42)] []) ∧ Hid (rEvs 2 (-1) E = rEvs kd s (E.drop k))) (fun _ _ i _ => E.length - (intOf i).toNat)
  case atStart => exact ⟨0, 2, -1, Nat.zero_le _, rfl, rfl, rfl, HB, Lib.hid rfl⟩
  case round =>
    clear HB
    obtain ⟨k, kd, s, hk, rfl, rfl, rfl, HB, HA⟩ := hrel
    have hn' := Hn.out
    have H := HB.out
    clear HB
    by_cases hlt : k < E.length
    · obtain ⟨x, hx⟩ : ∃ x, E[k]? = some x := ⟨E[k], List.getElem?_eq_getElem hlt⟩
      obtain ⟨g, o, had, hg, hcs⟩ : ∃ g o, ad = some ⟨g, o, none⟩ ∧ g < w0.heap.size ∧ ∀ j v, (evsL E)[j]? = some v → w0.cell? ⟨g, o + j, none⟩ = some v := by
        rcases HI.out with ⟨e, _⟩ | ⟨g, o, c', e, hg, hc⟩
        · rw [e] at hlt; exact absurd hlt (Nat.not_lt_zero _)
        · injection e with e1 e2 e3
          exact ⟨g, o, e1, hg, hc⟩
      subst had
      obtain ⟨c0, c1, c2, c3⟩ := ev_at (W := wr) (g := g) (o := o) (fun j v hv => (World.cell?_of_block (a := ⟨g, o + j, none⟩) (H.fr g hg (by simp))).trans (hcs j v hv)) k x hx
      have Hst0 := Lib.hid (HA.out.trans (by rw [drop_cons_at hx]))
      clear hx hcs hg HA
      go_upto_region 8 with (first | (refine wb_cell H rfl 0 36 _ rfl _ 1 rfl _ _ rfl Tryz.isAgg36 (.slice (some ⟨g, o, none⟩) E.length c) H1.out ?_) | (refine wb_alloc H rfl 60 rfl _ Tryz.zeroValue60 ?_; clear H; intro b6 w H) | (refine wb_put H rfl 0 60 _ _ rfl _ 0 rfl _ _ rfl (.agg #[.int .i64 x.kind, .int .i64 x.slot, .int .i64 x.gen, .int .i64 x.peer]) rfl 4 info60e rfl (Nat.le_of_ble_eq_true rfl) rfl (evC x) rfl ?_; clear H; intro w H))
      replace H : Sb [] w0 w [(b6, evC x, 60), (b1, ec, 42)] [] := H
      clear c0 c1 c2 c3
      have c0 : w.cell? ⟨b6, 0, none⟩ = some (.int .i64 x.kind) := cell_of_row w b6 0 _ 60 (0, 0) (H.holds _ (List.mem_cons_self ..))
      have c1 : w.cell? ⟨b6, 1, none⟩ = some (.int .i64 x.slot) := cell_of_row w b6 1 _ 60 (0, 0) (H.holds _ (List.mem_cons_self ..))
      have c2 : w.cell? ⟨b6, 2, none⟩ = some (.int .i64 x.gen) := cell_of_row w b6 2 _ 60 (0, 0) (H.holds _ (List.mem_cons_self ..))
      have c3 : w.cell? ⟨b6, 3, none⟩ = some (.int .i64 x.peer) := cell_of_row w b6 3 _ 60 (0, 0) (H.holds _ (List.mem_cons_self ..))
      have HB := Lib.hid H
      clear H
      by_cases hc : x.kind = 1 ∧ kd = 2
      · obtain ⟨hc1, rfl⟩ := hc
        have Hst := Lib.hid (Hst0.out.trans (rEvs_turn s x (E.drop (k + 1)) hc1))
        have q1 : decide (x.kind = 1) = true := decide_eq_true hc1
        go_upto_region 10 with fail
        have a0 := hc1
        by_cases a1 : -1 < x.slot
        rotate_left
        · have qa1 : decide (x.slot ≤ -1) = true := decide_eq_true (by omega)
          obtain rfl := Fin.out false (by
            have e := Hst.out
            unfold entMay
            rw [← rEvs_none, e]
            simp [a1])
          go_wp2_with fail
          go_ret
          exact ⟨by first | rfl | simp, HB.out.below⟩
        have qa1 : decide (x.slot ≤ -1) = false := decide_eq_false (by omega)
        by_cases a2 : x.slot < 8
        rotate_left
        · have qa2 : decide (8 ≤ x.slot) = true := decide_eq_true (by omega)
          obtain rfl := Fin.out false (by
            have e := Hst.out
            unfold entMay
            rw [← rEvs_none, e]
            simp [a2])
          go_wp2_with fail
          go_ret
          exact ⟨by first | rfl | simp, HB.out.below⟩
        have qa2 : decide (8 ≤ x.slot) = false := decide_eq_false (by omega)
        by_cases a3 : 1 ≤ x.gen
        rotate_left
        · have qa3 : decide (x.gen < 1) = true := decide_eq_true (by omega)
          obtain rfl := Fin.out false (by
            have e := Hst.out
            unfold entMay
            rw [← rEvs_none, e]
            simp [a3])
          go_wp2_with fail
          go_ret
          exact ⟨by first | rfl | simp, HB.out.below⟩
        have qa3 : decide (x.gen < 1) = false := decide_eq_false (by omega)
        by_cases a4 : x.gen ≤ 60000
        rotate_left
        · have qa4 : decide (60000 < x.gen) = true := decide_eq_true (by omega)
          obtain rfl := Fin.out false (by
            have e := Hst.out
            unfold entMay
            rw [← rEvs_none, e]
            simp [a4])
          go_wp2_with fail
          go_ret
          exact ⟨by first | rfl | simp, HB.out.below⟩
        have qa4 : decide (60000 < x.gen) = false := decide_eq_false (by omega)
        by_cases a5 : 0 ≤ x.peer
        rotate_left
        · have qa5 : decide (x.peer < 0) = true := decide_eq_true (by omega)
          obtain rfl := Fin.out false (by
            have e := Hst.out
            unfold entMay
            rw [← rEvs_none, e]
            simp [a5])
          go_wp2_with fail
          go_ret
          exact ⟨by first | rfl | simp, HB.out.below⟩
        have qa5 : decide (x.peer < 0) = false := decide_eq_false (by omega)
        by_cases a6 : x.peer < 12
        rotate_left
        · have qa6 : decide (12 ≤ x.peer) = true := decide_eq_true (by omega)
          obtain rfl := Fin.out false (by
            have e := Hst.out
            unfold entMay
            rw [← rEvs_none, e]
            simp [a6])
          go_wp2_with fail
          go_ret
          exact ⟨by first | rfl | simp, HB.out.below⟩
        have qa6 : decide (12 ≤ x.peer) = false := decide_eq_false (by omega)
        have Hnx : Hid (rEvs 2 (-1) E = rEvs 1 x.slot (E.drop (k + 1))) := Lib.hid (by
          have e := Hst.out
          simpa [a0, a1, a2, a3, a4, a5, a6] using e)
        clear a0 a1 a2 a3 a4 a5 a6 Hst
        go_wp2_with fail
        exact ⟨⟨k + 1, 1, x.slot, hlt, rfl, rfl, rfl, Lib.hid HB.out.tail, Hnx⟩, by simp only [intOf]; omega⟩
      · have Hst := Lib.hid (Hst0.out.trans (rEvs_step kd s x (E.drop (k + 1)) hc))
        by_cases hc1 : x.kind = 1
        · have q1 : decide (x.kind = 1) = true := decide_eq_true hc1
          have q2 : decide (kd = 2) = false := decide_eq_false (fun h => hc ⟨hc1, h⟩)
          clear hc
          by_cases k1 : kd = 1
          · subst k1
            go_upto_region 10 with fail
            have a0 := hc1
            by_cases a1 : s < x.slot
            rotate_left
            · have qa1 : decide (x.slot ≤ s) = true := decide_eq_true (by omega)
              obtain rfl := Fin.out false (by
                have e := Hst.out
                unfold entMay
                rw [← rEvs_none, e]
                simp [a1])
              go_wp2_with fail
              go_ret
              exact ⟨by first | rfl | simp, HB.out.below⟩
            have qa1 : decide (x.slot ≤ s) = false := decide_eq_false (by omega)
            by_cases a2 : x.slot < 8
            rotate_left
            · have qa2 : decide (8 ≤ x.slot) = true := decide_eq_true (by omega)
              obtain rfl := Fin.out false (by
                have e := Hst.out
                unfold entMay
                rw [← rEvs_none, e]
                simp [a2])
              go_wp2_with fail
              go_ret
              exact ⟨by first | rfl | simp, HB.out.below⟩
            have qa2 : decide (8 ≤ x.slot) = false := decide_eq_false (by omega)
            by_cases a3 : 1 ≤ x.gen
            rotate_left
            · have qa3 : decide (x.gen < 1) = true := decide_eq_true (by omega)
              obtain rfl := Fin.out false (by
                have e := Hst.out
                unfold entMay
                rw [← rEvs_none, e]
                simp [a3])
              go_wp2_with fail
              go_ret
              exact ⟨by first | rfl | simp, HB.out.below⟩
            have qa3 : decide (x.gen < 1) = false := decide_eq_false (by omega)
            by_cases a4 : x.gen ≤ 60000
            rotate_left
            · have qa4 : decide (60000 < x.gen) = true := decide_eq_true (by omega)
              obtain rfl := Fin.out false (by
                have e := Hst.out
                unfold entMay
                rw [← rEvs_none, e]
                simp [a4])
              go_wp2_with fail
              go_ret
              exact ⟨by first | rfl | simp, HB.out.below⟩
            have qa4 : decide (60000 < x.gen) = false := decide_eq_false (by omega)
            by_cases a5 : 0 ≤ x.peer
            rotate_left
            · have qa5 : decide (x.peer < 0) = true := decide_eq_true (by omega)
              obtain rfl := Fin.out false (by
                have e := Hst.out
                unfold entMay
                rw [← rEvs_none, e]
                simp [a5])
              go_wp2_with fail
              go_ret
              exact ⟨by first | rfl | simp, HB.out.below⟩
            have qa5 : decide (x.peer < 0) = false := decide_eq_false (by omega)
            by_cases a6 : x.peer < 12
            rotate_left
            · have qa6 : decide (12 ≤ x.peer) = true := decide_eq_true (by omega)
              obtain rfl := Fin.out false (by
                have e := Hst.out
                unfold entMay
                rw [← rEvs_none, e]
                simp [a6])
              go_wp2_with fail
              go_ret
              exact ⟨by first | rfl | simp, HB.out.below⟩
            have qa6 : decide (12 ≤ x.peer) = false := decide_eq_false (by omega)
            have Hnx : Hid (rEvs 2 (-1) E = rEvs 1 x.slot (E.drop (k + 1))) := Lib.hid (by
              have e := Hst.out
              simpa [a0, a1, a2, a3, a4, a5, a6] using e)
            clear a0 a1 a2 a3 a4 a5 a6 Hst
            go_wp2_with fail
            exact ⟨⟨k + 1, 1, x.slot, hlt, rfl, rfl, rfl, Lib.hid HB.out.tail, Hnx⟩, by simp only [intOf]; omega⟩
          · have q3 : decide (x.kind = kd) = false := decide_eq_false (by omega)
            have q4 : (x.kind == kd) = false := beq_eq_false_iff_ne.2 (by omega)
            have q5 : (kd == 2) = false := beq_eq_false_iff_ne.2 (by simpa using q2)
            obtain rfl := Fin.out false (by
              have e := Hst.out
              unfold entMay
              rw [← rEvs_none, e]
              simp [show ¬ x.kind = kd by omega])
            generalize x.kind = xk at *
            subst hc1
            go_wp2_with fail
            go_ret
            exact ⟨by first | rfl | simp, HB.out.below⟩
        · have q1 : decide (x.kind = 1) = false := decide_eq_false hc1
          go_upto_region 10 with fail
          clear hc
          by_cases a0 : x.kind = kd
          rotate_left
          · have qa0 : decide (x.kind = kd) = false := decide_eq_false a0
            obtain rfl := Fin.out false (by
              have e := Hst.out
              unfold entMay
              rw [← rEvs_none, e]
              simp [a0])
            go_wp2_with fail
            go_ret
            exact ⟨by first | rfl | simp, HB.out.below⟩
          have qa0 : decide (x.kind = kd) = true := decide_eq_true a0
          have qb0 : (x.kind != kd) = false := by simp [a0]
          by_cases a1 : s < x.slot
          rotate_left
          · have qa1 : decide (x.slot ≤ s) = true := decide_eq_true (by omega)
            obtain rfl := Fin.out false (by
              have e := Hst.out
              unfold entMay
              rw [← rEvs_none, e]
              simp [a1])
            go_wp2_with fail
            go_ret
            exact ⟨by first | rfl | simp, HB.out.below⟩
          have qa1 : decide (x.slot ≤ s) = false := decide_eq_false (by omega)
          by_cases a2 : x.slot < 8
          rotate_left
          · have qa2 : decide (8 ≤ x.slot) = true := decide_eq_true (by omega)
            obtain rfl := Fin.out false (by
              have e := Hst.out
              unfold entMay
              rw [← rEvs_none, e]
              simp [a2])
            go_wp2_with fail
            go_ret
            exact ⟨by first | rfl | simp, HB.out.below⟩
          have qa2 : decide (8 ≤ x.slot) = false := decide_eq_false (by omega)
          by_cases a3 : 1 ≤ x.gen
          rotate_left
          · have qa3 : decide (x.gen < 1) = true := decide_eq_true (by omega)
            obtain rfl := Fin.out false (by
              have e := Hst.out
              unfold entMay
              rw [← rEvs_none, e]
              simp [a3])
            go_wp2_with fail
            go_ret
            exact ⟨by first | rfl | simp, HB.out.below⟩
          have qa3 : decide (x.gen < 1) = false := decide_eq_false (by omega)
          by_cases a4 : x.gen ≤ 60000
          rotate_left
          · have qa4 : decide (60000 < x.gen) = true := decide_eq_true (by omega)
            obtain rfl := Fin.out false (by
              have e := Hst.out
              unfold entMay
              rw [← rEvs_none, e]
              simp [a4])
            go_wp2_with fail
            go_ret
            exact ⟨by first | rfl | simp, HB.out.below⟩
          have qa4 : decide (60000 < x.gen) = false := decide_eq_false (by omega)
          by_cases a5 : 0 ≤ x.peer
          rotate_left
          · have qa5 : decide (x.peer < 0) = true := decide_eq_true (by omega)
            obtain rfl := Fin.out false (by
              have e := Hst.out
              unfold entMay
              rw [← rEvs_none, e]
              simp [a5])
            go_wp2_with fail
            go_ret
            exact ⟨by first | rfl | simp, HB.out.below⟩
          have qa5 : decide (x.peer < 0) = false := decide_eq_false (by omega)
          by_cases a6 : x.peer < 12
          rotate_left
          · have qa6 : decide (12 ≤ x.peer) = true := decide_eq_true (by omega)
            obtain rfl := Fin.out false (by
              have e := Hst.out
              unfold entMay
              rw [← rEvs_none, e]
              simp [a6])
            go_wp2_with fail
            go_ret
            exact ⟨by first | rfl | simp, HB.out.below⟩
          have qa6 : decide (12 ≤ x.peer) = false := decide_eq_false (by omega)
          have Hnx : Hid (rEvs 2 (-1) E = rEvs kd x.slot (E.drop (k + 1))) := Lib.hid (by
            have e := Hst.out
            simpa [a0, a1, a2, a3, a4, a5, a6] using e)
          clear a0 a1 a2 a3 a4 a5 a6 Hst
          go_wp2_with fail
          exact ⟨⟨k + 1, kd, x.slot, hlt, rfl, rfl, rfl, Lib.hid HB.out.tail, Hnx⟩, by simp only [intOf]; omega⟩
    · obtain rfl : k = E.length := by omega
      have Hev : Hid (evsMay none E = true) := Lib.hid (by rw [← rEvs_none, HA.out, List.drop_length]; rfl)
      clear HA
      go_wp2_with (refine wb_cell H rfl 0 36 _ rfl _ 1 rfl _ _ rfl Tryz.isAgg36 (.slice ad E.length c) H1.out ?_)
      have HB := Lib.hid H
      clear H hn'
      go_loopw [7] (fun i W => ∃ k : Nat, k ≤ 8 ∧ i = .int .i64 k ∧ Hid (Sb [] w0 W [(b1, ec, 42)] []) ∧ Hid ((I.take k).all mayIn = true)) (fun i _ => 8 - (intOf i).toNat)
      case atStart => exact ⟨0, Nat.zero_le _, rfl, HB, Lib.hid (by simp)⟩
      case round =>
        clear HB
        obtain ⟨k, hk, rfl, HB, HA⟩ := hrel
        have H := HB.out
        clear HB
        by_cases hlt : k < 8
        · obtain ⟨i, hi⟩ : ∃ i, I[k]? = some i := ⟨I[k]'(by rw [H8.out]; exact hlt), List.getElem?_eq_getElem _⟩
          have hio := HIo.out i (List.mem_of_getElem? hi)
          have CX := Lib.hid (fun (j : Nat) (v : Value) (hv : (inpL i)[j]? = some v) => show ec[2 + k * 3 + j]? = some v by rw [Nat.add_assoc]; exact HN.out _ v (ins_at hi hv))
          have HC := Lib.hid (fun w => rmayIn_b i.x i.y i.b w hio.x0 hio.y0)
          have Hi := Lib.hid hi
          clear hio hi
          go_wp2_with (refine wb_part H rfl 0 39 _ rfl _ (2 + k * 3) rfl _ _ rfl _ Tryz.underlying39 rfl 3 info39x [.int .i8 i.x, .int .i8 i.y, .int .u8 i.b] CX.out rfl ?_)
          refine (HC.out _).mono ?_; rintro e w' ⟨rfl, hb⟩
          replace H := H.call hb
          clear hb HC
          cases hm : mayIn ⟨i.x, i.y, i.b⟩ with
          | false =>
            obtain rfl := Fin.out false (by
              unfold entMay
              rw [Bool.and_eq_false_iff]
              exact .inr (List.all_eq_false.2 ⟨i, List.mem_of_getElem? Hi.out, by rw [show mayIn i = false from hm]; simp⟩))
            go_wp2_with fail
            go_ret
            exact ⟨by first | rfl | simp, H.below⟩
          | true =>
            have HA2 : Hid ((I.take (k + 1)).all mayIn = true) := Lib.hid (by
              obtain ⟨hk', e⟩ := List.getElem?_eq_some_iff.1 Hi.out
              rw [List.take_succ_eq_append_getElem hk', e, List.all_append, HA.out]
              simp [show mayIn i = true from hm])
            go_wp2_with fail
            exact ⟨⟨k + 1, hlt, rfl, Lib.hid H, HA2⟩, by simp only [intOf]; omega⟩
        · obtain rfl : k = 8 := by omega
          obtain rfl := Fin.out true (by
            unfold entMay
            have := HA.out
            rw [List.take_of_length_le (Nat.le_of_eq H8.out)] at this
            simp [Ff.out.1, Ff.out.2, Hev.out]
            simpa using this)
          go_wp2_with fail
          go_ret
          exact ⟨by first | rfl | simp, H.below⟩
end Go.Proofs.YtdopfonebpklkaaGreat.game
