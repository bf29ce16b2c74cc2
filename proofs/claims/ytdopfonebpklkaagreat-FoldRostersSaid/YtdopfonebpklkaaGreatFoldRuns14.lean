/- game.Remove, over any game that may be. fold.must, fold.event. fold.face's deferred closure, face, Apply, Run. fold.May, fold.apply (printed by mkfb.py). -/
import Derived.Test.YtdopfonebpklkaaGreatFoldRuns13
import Derived.Test.YtdopfonebpklkaaGreatFoldRuns08
import Derived.Test.YtdopfonebpklkaaGreatFoldRuns10
import Derived.Test.YtdopfonebpklkaaGreatFoldRuns11
import Derived.Defers
import Derived.Recover
namespace Go.Proofs.YtdopfonebpklkaaGreat.game
open Go.ChangeShapes Go.WideShapes Go.ChangeAt Go.RowKit dice
set_option maxRecDepth 100000

theorem take_of_pre {cur : Array Value} {L : List Sht} (h : Pre cur L) : cur.toList.take (L.length * 6) = cellsL L := by
  apply List.ext_getElem?
  intro j
  rw [List.getElem?_take]
  by_cases hj : j < L.length * 6
  · rw [if_pos hj]
    have hl : j < (cellsL L).length := by rw [length_cellsL]; exact hj
    have := h j _ (List.getElem?_eq_getElem hl)
    rw [Array.getElem?_toList, this, List.getElem?_eq_getElem hl]
  · rw [if_neg hj, List.getElem?_eq_none]
    rw [length_cellsL]; omega
/-- DeleteFunc on a row of the call's own. -/
theorem delete_own {W0 w : World} {l : List Blk} {R : List RowS} {sl : Value} {L : List Sht} (H : Sb [] W0 w l ((sl, L) :: R)) (q : Nat) (x : Int) (hn : L.length ≤ 1000) (t : TypeId) (hq : (q, #[Value.int .i64 x], t) ∈ l) :
    Calls Tryz.prog 138 #[sl, .func (.func 139) #[] #[.pointer (some ⟨q, 0, none⟩)]] w fun e w' => ∃ sl', e = .returned sl' ∧ Sb [] W0 w' l ((sl', L.filter fun s => decide (s.owner ≠ x)) :: R) := by
  have ho : Own w 0 sl L := H.rows _ (List.mem_cons_self ..)
  have hlt := H.lt _ hq
  have hcell : w.cell? ⟨q, 0, none⟩ = some (.int .i64 x) := cell_of_row w q 0 _ t (0, 0) (H.holds _ hq)
  rcases ho.2 with ⟨rfl, hn0⟩ | ⟨g, cap, cur, rfl, hb, hg, h1, h2, h3, h4⟩
  · have hL : L = [] := List.length_eq_zero_iff.1 hn0
    subst hL
    refine (delete_nil _ w).mono ?_
    rintro e w' ⟨rfl, rfl⟩
    exact ⟨_, rfl, H⟩
  · have hne : q ≠ g := fun e => H.apart _ (List.mem_cons_self ..) _ hq (by rw [e]; rfl)
    have hsz : L.length * 6 ≤ cur.size := by
      have := congrArg List.length h4
      rw [length_cellsL, List.length_take, Array.length_toList] at this
      omega
    have hpre : Pre cur L := fun j v hv => by
      rw [← h4, List.getElem?_take] at hv
      split at hv
      · simpa using hv
      · cases hv
    refine (delete_some g cap q cur L x w hn h1 h2 hsz hpre hg hne hlt hcell).mono ?_
    rintro e w' ⟨cur', rfl, hc, hp, hS⟩
    refine ⟨_, rfl, ?_⟩
    have hfl : (L.filter fun s => decide (s.owner ≠ x)).length ≤ L.length := List.length_filter_le ..
    exact H.append 0 (.slice (some ⟨g, 0, none⟩) L.length cap) (.slice (some ⟨g, 0, none⟩) (L.filter fun s => decide (s.owner ≠ x)).length cap) L (L.filter fun s => decide (s.owner ≠ x)) rfl
      (w' := w') ⟨length_cellsL _, .inr ⟨g, cap, cur', rfl, Nat.zero_le _, hS.holds _ (List.mem_cons_self ..), by omega, h2, by rw [hc, h3], take_of_pre hp⟩⟩ ⟨hS.os, hS.tape, hS.output, hS.size, fun k hk hkn => hS.fr k hk (by rw [List.mem_singleton]; intro e; exact hkn (by rw [e]; rfl))⟩ (.inl rfl)
set_option maxHeartbeats 8000000 in
theorem remove_any (g : Gme) (k : Nat) (t : Shp) (sl : Value) (w0' : World) (hg : g.ok) (hk : k < 8) (ht : g.S[k]? = some t) (hon : t.on = true) (hin : ShotsIn w0' sl g.L) :
    Calls Tryz.prog 123 #[.agg (gameC g.fr g.d g.S sl), .int .i64 k] w0' (SpawnOut (removeG g k) w0') := by
  obtain ⟨w, hw⟩ : ∃ w, w0' = w := ⟨_, rfl⟩
  have HM := Lib.hid (fun w h => ship_any g k t true sl w hg hk ht h)
  rw [hon] at HM
  have HS := Lib.hid hg.s8
  have HI := Lib.hid hin
  have Hn := Lib.hid hg.most
  have H : Sb [] w0' w [] [] := by rw [← hw]; exact Sb.start w0'
  rw [show Calls Tryz.prog 123 #[.agg (gameC g.fr g.d g.S sl), .int .i64 k] w0' = Calls Tryz.prog 123 #[.agg (gameC g.fr g.d g.S sl), .int .i64 k] w by rw [hw]]
  unfold removeG
  clear hg ht hin hon hw
  obtain ⟨fr, d, S, L⟩ := g
  dsimp only at *
  have hk8 : (k : Int) < 8 := by omega
  have G1 := Lib.hid (gc_ship (fr := fr) (d := d) (S := S) (sl := sl) k zShp (by rw [HS.out]; exact hk))
  have HS2 : Hid ((S.set k zShp).length = 8) := Lib.hid (by rw [List.length_set]; exact HS.out)
  generalize hS2 : S.set k zShp = S2 at *
  clear hS2
  have hmf : ∀ (fn : Fn) (first cap : Array Value) (w : World), (Instr.makeFunc fn first cap).run Tryz.prog w = .ok (.func fn first cap) w := fun _ _ _ _ => rfl
  have hft : 2 + k * 7 + 7 ≤ (gameC fr d S sl).size := by rw [gc_size HS.out]; omega
  have Hft := Lib.hid hft
  have Hsh := Lib.hid (gc_shots (fr := fr) (d := d) (S := S2) (sl := sl) HS2.out)
  clear hft hk
  go_enter Tryz.func123, Tryz.ntmps123
  go_upto_region 1 with (first | (refine wb_box H rfl 28 _ rfl (gameC fr d S sl) rfl ?_; clear H; intro b2 w H) | (refine wb_box H rfl 3 _ rfl #[.int .i64 k] rfl ?_; clear H; intro b3 w H) | (refine wb_alloc H rfl 28 rfl _ Tryz.zeroValue28 ?_; clear H; intro b4 w H))
  go_wp2_with (first | (refine wb_cell H rfl 1 3 _ rfl _ 0 rfl _ _ rfl Tryz.isAgg3 (.int .i64 k) rfl ?_) | (refine wb_whole H rfl 2 28 _ rfl _ rfl _ rfl _ Tryz.underlying28 rfl 59 info28 (gc_size HS.out) ?_))
  refine (HM.out _ (HI.out.later H.below)).mono ?_; rintro e w' ⟨rfl, hb⟩
  replace H := H.call hb
  clear hb HM
  go_upto_region 4 with (first | (refine wb_cell H rfl 1 3 _ rfl _ 0 rfl _ _ rfl Tryz.isAgg3 (.int .i64 k) rfl ?_) | (refine wl_build rfl 24 _ rfl (shipL zShp).toArray (by kernel_rfl) ?_) | (refine wb_put H rfl 2 24 _ _ rfl _ (2 + k * 7) rfl _ _ rfl (.agg (shipL zShp).toArray) rfl 7 info24 rfl Hft.out rfl _ G1.out ?_; clear H; intro w H))
  go_wp2_with (refine wb_cell H rfl 2 26 _ rfl _ 58 rfl _ _ rfl Tryz.isAgg26 sl Hsh.out ?_)
  refine (clone_any sl L _ (HI.out.later H.below) (by have := Hn.out; omega)).mono ?_
  rintro e w' ⟨⟨sl0, rfl, hown⟩, hb⟩
  replace H := H.addRow _ L (own_zero hown) hb (fun k hk => (World.ownsRow.lt hown k hk).1)
  clear hown hb
  obtain ⟨Z4, hZ4, H'⟩ : ∃ Z4 : Array Value, Z4.size = 59 ∧ Sb [] w0' w' [(b4, Z4, 28), (b3, #[Value.int .i64 k], 3), (b2, gameC fr d S2 sl, 28)] [(sl0, L)] := ⟨_, rfl, H⟩
  have HZ4 := Lib.hid hZ4
  clear H hZ4
  have H := H'
  clear H'
  go_wp2_with fail
  refine (delete_own H b3 k (by have := Hn.out; omega) 3 (List.mem_cons_of_mem _ (List.mem_cons_self ..))).mono ?_
  rintro e w2 ⟨sl1, rfl, H1⟩
  clear H
  have H := H1
  clear H1
  generalize hL2 : (L.filter fun s => decide (s.owner ≠ (k : Int))) = L2 at *
  have HL2 := Lib.hid hL2
  clear hL2
  have hrow : Own w2 0 sl1 L2 := H.rows _ (List.mem_cons_self ..)
  obtain ⟨ad1, c1, rfl⟩ := own_form hrow
  clear hrow
  have Hft2 : Hid (58 + 1 ≤ (gameC fr d S2 sl).size) := Lib.hid (by rw [gc_size HS2.out]; omega)
  have G2 := Lib.hid (gc_setShots (fr := fr) (d := d) (sl := sl) HS2.out (.slice ad1 L2.length c1))
  have HZf : Hid (splice Z4 0 (Value.cells (.agg (gameC fr d S2 (.slice ad1 L2.length c1)))).toList = gameC fr d S2 (.slice ad1 L2.length c1)) := Lib.hid (splice_all _ _ (by rw [HZ4.out]; exact (gc_size HS2.out).symm))
  have Hft3 : Hid (0 + 59 ≤ Z4.size) := Lib.hid (by rw [HZ4.out]; decide)
  go_wp2_with (first | (refine wb_put H rfl 2 26 _ _ rfl _ 58 rfl _ _ rfl (.slice ad1 L2.length c1) rfl 1 info26 rfl Hft2.out rfl _ G2.out ?_; clear H; intro w H) | (refine wb_whole H rfl 2 28 _ rfl _ rfl (gameC fr d S2 (.slice ad1 L2.length c1)) rfl _ Tryz.underlying28 rfl 59 info28 (gc_size HS2.out) ?_) | (refine wb_put H rfl 0 28 _ _ rfl _ 0 rfl _ _ rfl (.agg (gameC fr d S2 (.slice ad1 L2.length c1))) rfl 59 info28 (gc_size HS2.out) Hft3.out gcv_one _ HZf.out ?_; clear H; intro w H))
  refine bodyPost_ret (v := .tuple #[.agg (gameC fr d S2 (.slice ad1 L2.length c1)), .int .i64 0]) ?_ rfl ⟨⟨_, rfl, by dsimp only; rw [HL2.out]; exact H.rows _ (List.mem_cons_self ..), fun q hq => (H.rge _ (List.mem_cons_self ..) q hq).resolve_right (by simp)⟩, H.below⟩
  exact res2 rfl rfl rfl (H.holds _ (List.mem_cons_self ..)) (gc_size HS2.out)
end Go.Proofs.YtdopfonebpklkaaGreat.game
namespace Go.Proofs.YtdopfonebpklkaaGreat.game
open Go.ChangeShapes Go.WideShapes Go.ChangeAt Go.RowKit dice
set_option maxRecDepth 100000

/-- What must panics with. -/
def failP (k : Int) : List PanicEntry := [{ v := .iface 122 (.agg #[.int .i64 k]), recovered := false }]
theorem must_ok (k : Int) (w0 : World) : Calls Tryz.prog 92 #[.bool true, .int .i64 k] w0 fun e w' => e = .returned (.tuple #[]) ∧ w0 = w' := by
  go_enter Tryz.func92, Tryz.ntmps92
  go_wp2_with fail
  simp [bodyPost, results, Tryz.results92]
theorem must_bad (k : Int) (w0 : World) : Calls Tryz.prog 92 #[.bool false, .int .i64 k] w0 fun e w' => e = .panicked (failP k) ∧ w0 = w' := by
  go_enter Tryz.func92, Tryz.ntmps92
  go_wp2_with fail
  exact ⟨rfl, rfl, rfl⟩
section
variable {fr d fr' d' ver ver' : Int} {S S' : List Shp} {L L' : List Sht} {T T' : List Seat} {sl sl' : Value}
theorem sc_setR (h8 : S.length = 8) (hT : T.length = T'.length) : splice (stateC ⟨⟨fr, d, S, L⟩, ver, T⟩ sl) 59 (rosterC ver' T').toList = stateC ⟨⟨fr, d, S, L⟩, ver', T'⟩ sl := by
  have e : ∀ (v : Int) (T : List Seat), stateC ⟨⟨fr, d, S, L⟩, v, T⟩ sl = ((Value.int .i64 fr :: Value.int .u64 d :: (shipsL S ++ [sl])) ++ ((rosterC v T).toList ++ [])).toArray := fun v T => by
    simp [stateC, stateL, rosterC]
  rw [e ver T, e ver' T']
  exact splice_mid _ _ _ _ _ (by simp [length_shipsL, h8]) (by simp [rosterC, length_seatsL, hT])
theorem sc_setG (hS : S.length = S'.length) : splice (stateC ⟨⟨fr, d, S, L⟩, ver, T⟩ sl) 0 (gameC fr' d' S' sl').toList = stateC ⟨⟨fr', d', S', L'⟩, ver, T⟩ sl' := by
  have e : ∀ (fr d : Int) (S : List Shp) (L : List Sht) (sl : Value), stateC ⟨⟨fr, d, S, L⟩, ver, T⟩ sl = ([] ++ ((gameC fr d S sl).toList ++ (Value.int .i64 ver :: seatsL T))).toArray := fun fr d S L sl => by
    simp [stateC, stateL, gameC]
  rw [e fr d S L sl, e fr' d' S' L' sl']
  exact splice_mid _ _ _ _ _ rfl (by simp [gameC, length_shipsL, hS])
end
theorem sc_oneI {W : World} {s : Ste} {sl : Value} (h : ShotsIn W sl s.g.L) : (Value.cells (.agg (stateC s sl))).toList.all (·.oneCell') = true := by
  have hso : sl.oneCell' = true := slOne h
  rw [List.all_eq_true]
  intro v hv
  simp [Value.cells, stateC, stateL, shipsL, seatsL] at hv
  rcases hv with rfl | rfl | ⟨t, _, hm⟩ | rfl | rfl | ⟨q, _, hm⟩
  · rfl
  · rfl
  · simp [shipL] at hm
    rcases hm with rfl | rfl | rfl | rfl | rfl | rfl | rfl <;> rfl
  · exact hso
  · rfl
  · simp [seatL] at hm
    rcases hm with rfl | rfl <;> rfl
theorem res35' {fn : Func} {p : Tmp} {tmps : Array Value} {w : World} {b : Nat} {cs : Array Value} (h : fn.results = #[.cell p 35]) (ha : tmps.getD p undef = .pointer (some ⟨b, 0, none⟩)) (hb : w.heap[b]? = some (.cells cs 35 (0, 0))) (hs : cs.size = 76) :
    (results fn tmps).run Tryz.prog w = .ok (.agg cs) w := res35 h ha hb hs
/-- What fold's inner functions answer: a state, or a panic. -/
def StOut (o : Option Ste) (W0 : World) (e : Ending) (w' : World) : Prop :=
  Below W0.heap.size W0 w' ∧ match o with
  | none => e = .panicked (failP 1)
  | some t => ∃ sl, e = .returned (.agg (stateC t sl)) ∧ Own w' 0 sl t.g.L ∧ ∀ k, sl.ownBlock = some k → W0.heap.size ≤ k
theorem rosOne {ver : Int} {T : List Seat} : (Value.cells (.agg (rosterC ver T))).toList.all (·.oneCell') = true := rc_one
theorem info33n : (Tryz.prog.info? 33).map (·.size) = some 17 := info33
set_option maxHeartbeats 8000000 in
theorem event_b (s : Ste) (sl : Value) (x : Evt) (w0 : World) (hs : s.may) (hx : x.wf) (hin : ShotsIn w0 sl s.g.L) :
    Calls Tryz.prog 94 #[.agg (stateC s sl), .agg (evC x)] w0 (StOut (evS s x) w0) := by
  have H := Sb.start w0
  have h8 := hs.g.s8
  have t8 := hs.t8
  have HA := Lib.hid (fun w => ros_apply s.ver s.T x w t8 hx)
  have HI := Lib.hid hin
  have Hz := Lib.hid (sc_size (s := s) (sl := sl) h8 t8)
  have HRs := Lib.hid (fun j v h => sc_roster (s := s) (sl := sl) h8 j v h)
  have Hrz := Lib.hid (rc_size (ver := s.ver) t8)
  cases hr : evR s.ver s.T x with
  | none =>
    have hev : evS s x = none := by unfold evS; rw [hr]; rfl
    rw [hev]
    rw [hr] at HA
    have Hset := Lib.hid (sc_setR (fr := s.g.fr) (d := s.g.d) (L := s.g.L) (ver := s.ver) (ver' := s.ver) (T := s.T) (T' := s.T) (sl := sl) h8 rfl)
    have hft : 59 + 17 ≤ (stateC s sl).size := by rw [Hz.out]; omega
    have Hft := Lib.hid hft
    have Hset' : Hid (splice (stateC s sl) 59 (rosterC s.ver s.T).toList = stateC s sl) := Hset
    clear hs hx hin h8 t8 hr hev hft Hset
    generalize stateC s sl = cs at *
    go_enter Tryz.func94, Tryz.ntmps94
    go_wp2_with (first | (refine wb_box H rfl 35 _ rfl cs rfl ?_; clear H; intro b2 w H) | (refine wb_box H rfl 60 _ rfl (evC x) rfl ?_; clear H; intro b3 w H) | (refine wb_alloc H rfl 35 rfl _ Tryz.zeroValue35 ?_; clear H; intro b4 w H) | (refine wb_part H rfl 2 33 _ rfl _ 59 rfl _ _ rfl _ Tryz.underlying33 rfl 17 info33 (rosterC s.ver s.T).toList (fun j v h => HRs.out j v (by simpa using h)) (by rw [Array.length_toList]; exact Hrz.out) ?_; rw [Array.toArray_toList]) | (refine wb_whole H rfl 1 60 _ rfl _ rfl (evC x) rfl _ Tryz.underlying60 rfl 4 info60e rfl ?_))
    refine (HA.out _).mono ?_; rintro e w' ⟨he, hb⟩
    unfold RosOut at he
    subst he
    replace H := H.call hb
    clear hb HA
    go_wp2_with (refine wb_put H rfl 2 33 _ _ rfl _ 59 rfl _ _ rfl (.agg (rosterC s.ver s.T)) rfl 17 info33 Hrz.out Hft.out rosOne _ Hset'.out ?_; clear H; intro w H)
    refine (must_bad 1 _).mono ?_
    rintro e w2 ⟨rfl, rfl⟩
    exact ⟨rfl, H.below, rfl⟩
  | some r =>
    obtain ⟨v', T'⟩ := r
    have hm := evR_may hr
    obtain ⟨hmr, hmv, k, q, hk, hk8, hq, hway⟩ := evR_some hr
    clear hmr hmv
    have hev : evS s x = some ⟨evG s.g x, v', T'⟩ := by unfold evS; rw [hr]; rfl
    rw [hev]
    rw [hr] at HA
    have hT8 : T'.length = 8 := hm.2.2.trans t8
    obtain ⟨t, ht⟩ : ∃ t, s.g.S[k]? = some t := ⟨s.g.S[k]'(by rw [h8]; exact hk8), List.getElem?_eq_getElem _⟩
    have hto := pairs_idx.1 hs.p k t q ht hq
    have Hset := Lib.hid (sc_setR (fr := s.g.fr) (d := s.g.d) (L := s.g.L) (ver := s.ver) (ver' := v') (T := s.T) (T' := T') (sl := sl) h8 (t8.trans hT8.symm))
    have Hft : Hid (59 + 17 ≤ (stateC s sl).size) := Lib.hid (by rw [Hz.out]; omega)
    have Hset' : Hid (splice (stateC s sl) 59 (rosterC v' T').toList = stateC ⟨s.g, v', T'⟩ sl) := Hset
    have Hrz' := Lib.hid (rc_size (ver := v') hT8)
    have HGm := Lib.hid (fun j v h => sc_game (s := ⟨s.g, v', T'⟩) (sl := sl) j v h)
    have Hgz := Lib.hid (gc_size (fr := s.g.fr) (d := s.g.d) (sl := sl) h8)
    have HGo := Lib.hid (evG_ok x hs.g)
    have HSetG := Lib.hid (fun sl' => sc_setG (fr := s.g.fr) (d := s.g.d) (fr' := (evG s.g x).fr) (d' := (evG s.g x).d) (L := s.g.L) (L' := (evG s.g x).L) (ver := v') (T := T') (sl := sl) (sl' := sl') (h8.trans (evG_ok x hs.g).s8.symm))
    have Hz1 := Lib.hid (sc_size (s := ⟨s.g, v', T'⟩) (sl := sl) h8 hT8)
    have HzE := Lib.hid (fun sl' => sc_size (s := ⟨evG s.g x, v', T'⟩) (sl := sl') (evG_ok x hs.g).s8 hT8)
    have HspE : Hid (∀ sl', splice zC 0 (Value.cells (.agg (stateC ⟨evG s.g x, v', T'⟩ sl'))).toList = stateC ⟨evG s.g x, v', T'⟩ sl') := Lib.hid (fun sl' => splice_all _ _ (by rw [zC_size]; exact (HzE.out sl').symm))
    have HGz := Lib.hid (fun sl' => gc_size (fr := (evG s.g x).fr) (d := (evG s.g x).d) (sl := sl') (evG_ok x hs.g).s8)
    rcases hway with ⟨hkd, hq0, hrest⟩ | ⟨hkd, hq0, hrest⟩
    · have hton : t.on = false := by rw [hto]; simp; omega
      have HC := Lib.hid (fun w h => spawn_any s.g k t sl w hs.g hk8 ht hton h)
      have heg : evG s.g x = spawnG s.g k := by unfold evG; rw [if_neg (by omega)]; rw [hk, Int.toNat_natCast]
      rw [← heg] at HC
      have hq1 : decide (x.kind = 2) = false := by rw [hkd]; rfl
      have Hkd := Lib.hid (show (evC x)[0]? = some (.int .i64 x.kind) from rfl)
      have Hsl := Lib.hid (show (evC x)[1]? = some (.int .i64 (k : Int)) by rw [← hk]; rfl)
      rw [hkd] at Hkd
      clear hrest hs hx hin h8 t8 hr hev Hset hm hk hk8 hq ht hto hton heg hT8 hkd hq1 hq0
      generalize evG s.g x = G at *
      go_enter Tryz.func94, Tryz.ntmps94
      go_wp2_with (first | (refine wb_box H rfl 35 _ rfl (stateC s sl) rfl ?_; clear H; intro b2 w H) | (refine wb_box H rfl 60 _ rfl (evC x) rfl ?_; clear H; intro b3 w H) | (refine wb_alloc H rfl 35 rfl _ Tryz.zeroValue35 ?_; clear H; intro b4 w H) | (refine wb_part H rfl 2 33 _ rfl _ 59 rfl _ _ rfl _ Tryz.underlying33 rfl 17 info33 (rosterC s.ver s.T).toList (fun j v h => HRs.out j v (by simpa using h)) (by rw [Array.length_toList]; exact Hrz.out) ?_; rw [Array.toArray_toList]) | (refine wb_whole H rfl 1 60 _ rfl _ rfl (evC x) rfl _ Tryz.underlying60 rfl 4 info60e rfl ?_))
      refine (HA.out _).mono ?_; rintro e w' ⟨he, hb⟩
      unfold RosOut at he
      subst he
      replace H := H.call hb
      clear hb HA
      go_wp2_with (refine wb_put H rfl 2 33 _ _ rfl _ 59 rfl _ _ rfl (.agg (rosterC v' T')) rfl 17 info33 Hrz'.out Hft.out rosOne _ Hset'.out ?_; clear H; intro w H)
      replace H : Sb [] w0 w [(b4, zC, 35), (b3, evC x, 60), (b2, stateC ⟨s.g, v', T'⟩ sl, 35)] [] := H
      refine (must_ok 1 _).mono ?_
      rintro e w2 ⟨rfl, rfl⟩
      go_wp2_with (first | (refine wb_cell H rfl 1 3 _ rfl _ 0 rfl _ _ rfl Tryz.isAgg3 (.int .i64 1) Hkd.out ?_) | (refine wb_cell H rfl 1 3 _ rfl _ 1 rfl _ _ rfl Tryz.isAgg3 (.int .i64 k) Hsl.out ?_) | (refine wb_partA H rfl 2 28 _ rfl _ 0 rfl _ _ rfl _ Tryz.underlying28 rfl 59 info28 (gameC s.g.fr s.g.d s.g.S sl) (fun j v h => by rw [Nat.zero_add]; exact HGm.out j v h) Hgz.out ?_))
      refine (HC.out _ (HI.out.later H.below)).mono ?_
      rintro e w3 ⟨⟨sl', rfl, hown, hnew⟩, hb⟩
      replace H := H.addRow sl' _ hown hb hnew
      have HOne := Lib.hid (sc_oneI (s := ⟨G, v', T'⟩) hown.shotsIn)
      have HOneG := Lib.hid (show (Value.cells (.agg (gameC G.fr G.d G.S sl'))).toList.all (·.oneCell') = true by
        obtain ⟨ad, c, e⟩ := own_form hown
        rw [e]
        exact gcv_one)
      have Hft0 : Hid (0 + 59 ≤ (stateC ⟨s.g, v', T'⟩ sl).size) := Lib.hid (by rw [Hz1.out]; omega)
      clear hown hnew hb HC
      go_wp2_with (refine wb_put H rfl 2 28 _ _ rfl _ 0 rfl _ _ rfl (.agg (gameC G.fr G.d G.S sl')) rfl 59 info28 (HGz.out sl') Hft0.out HOneG.out _ (HSetG.out sl') ?_; clear H; intro w H)
      replace H : Sb [] w0 w [(b4, zC, 35), (b3, evC x, 60), (b2, stateC ⟨G, v', T'⟩ sl', 35)] [(sl', G.L)] := H
      refine (must_ok 1 _).mono ?_
      rintro e w2 ⟨rfl, rfl⟩
      go_wp2_with (first | (refine wb_whole H rfl 2 35 _ rfl _ rfl (stateC ⟨G, v', T'⟩ sl') rfl _ Tryz.underlying35 rfl 76 info35 (HzE.out sl') ?_) | (refine wb_put H rfl 0 35 _ _ rfl _ 0 rfl _ _ rfl (.agg (stateC ⟨G, v', T'⟩ sl')) rfl 76 info35 (HzE.out sl') (Nat.le_of_ble_eq_true rfl) HOne.out _ (HspE.out sl') ?_; clear H; intro w H))
      refine bodyPost_ret (v := .agg (stateC ⟨G, v', T'⟩ sl')) (res35 rfl rfl (H.holds _ (List.mem_cons_self ..)) (HzE.out sl')) rfl ⟨H.below, sl', rfl, H.rows _ (List.mem_cons_self ..), fun q hq => (H.rge _ (List.mem_cons_self ..) q hq).resolve_right (by simp)⟩
    · have hton : t.on = true := by rw [hto]; simp; omega
      have HC := Lib.hid (fun w h => remove_any s.g k t sl w hs.g hk8 ht hton h)
      have heg : evG s.g x = removeG s.g k := by unfold evG; rw [if_pos hkd]; rw [hk, Int.toNat_natCast]
      rw [← heg] at HC
      have hq1 : decide (x.kind = 2) = true := by rw [hkd]; rfl
      have Hkd := Lib.hid (show (evC x)[0]? = some (.int .i64 x.kind) from rfl)
      have Hsl := Lib.hid (show (evC x)[1]? = some (.int .i64 (k : Int)) by rw [← hk]; rfl)
      rw [hkd] at Hkd
      clear hrest hs hx hin h8 t8 hr hev Hset hm hk hk8 hq ht hto hton heg hT8 hkd hq1 hq0
      generalize evG s.g x = G at *
      go_enter Tryz.func94, Tryz.ntmps94
      go_wp2_with (first | (refine wb_box H rfl 35 _ rfl (stateC s sl) rfl ?_; clear H; intro b2 w H) | (refine wb_box H rfl 60 _ rfl (evC x) rfl ?_; clear H; intro b3 w H) | (refine wb_alloc H rfl 35 rfl _ Tryz.zeroValue35 ?_; clear H; intro b4 w H) | (refine wb_part H rfl 2 33 _ rfl _ 59 rfl _ _ rfl _ Tryz.underlying33 rfl 17 info33 (rosterC s.ver s.T).toList (fun j v h => HRs.out j v (by simpa using h)) (by rw [Array.length_toList]; exact Hrz.out) ?_; rw [Array.toArray_toList]) | (refine wb_whole H rfl 1 60 _ rfl _ rfl (evC x) rfl _ Tryz.underlying60 rfl 4 info60e rfl ?_))
      refine (HA.out _).mono ?_; rintro e w' ⟨he, hb⟩
      unfold RosOut at he
      subst he
      replace H := H.call hb
      clear hb HA
      go_wp2_with (refine wb_put H rfl 2 33 _ _ rfl _ 59 rfl _ _ rfl (.agg (rosterC v' T')) rfl 17 info33 Hrz'.out Hft.out rosOne _ Hset'.out ?_; clear H; intro w H)
      replace H : Sb [] w0 w [(b4, zC, 35), (b3, evC x, 60), (b2, stateC ⟨s.g, v', T'⟩ sl, 35)] [] := H
      refine (must_ok 1 _).mono ?_
      rintro e w2 ⟨rfl, rfl⟩
      go_wp2_with (first | (refine wb_cell H rfl 1 3 _ rfl _ 0 rfl _ _ rfl Tryz.isAgg3 (.int .i64 2) Hkd.out ?_) | (refine wb_cell H rfl 1 3 _ rfl _ 1 rfl _ _ rfl Tryz.isAgg3 (.int .i64 k) Hsl.out ?_) | (refine wb_partA H rfl 2 28 _ rfl _ 0 rfl _ _ rfl _ Tryz.underlying28 rfl 59 info28 (gameC s.g.fr s.g.d s.g.S sl) (fun j v h => by rw [Nat.zero_add]; exact HGm.out j v h) Hgz.out ?_))
      refine (HC.out _ (HI.out.later H.below)).mono ?_
      rintro e w3 ⟨⟨sl', rfl, hown, hnew⟩, hb⟩
      replace H := H.addRow sl' _ hown hb hnew
      have HOne := Lib.hid (sc_oneI (s := ⟨G, v', T'⟩) hown.shotsIn)
      have HOneG := Lib.hid (show (Value.cells (.agg (gameC G.fr G.d G.S sl'))).toList.all (·.oneCell') = true by
        obtain ⟨ad, c, e⟩ := own_form hown
        rw [e]
        exact gcv_one)
      have Hft0 : Hid (0 + 59 ≤ (stateC ⟨s.g, v', T'⟩ sl).size) := Lib.hid (by rw [Hz1.out]; omega)
      clear hown hnew hb HC
      go_wp2_with (refine wb_put H rfl 2 28 _ _ rfl _ 0 rfl _ _ rfl (.agg (gameC G.fr G.d G.S sl')) rfl 59 info28 (HGz.out sl') Hft0.out HOneG.out _ (HSetG.out sl') ?_; clear H; intro w H)
      replace H : Sb [] w0 w [(b4, zC, 35), (b3, evC x, 60), (b2, stateC ⟨G, v', T'⟩ sl', 35)] [(sl', G.L)] := H
      refine (must_ok 1 _).mono ?_
      rintro e w2 ⟨rfl, rfl⟩
      go_wp2_with (first | (refine wb_whole H rfl 2 35 _ rfl _ rfl (stateC ⟨G, v', T'⟩ sl') rfl _ Tryz.underlying35 rfl 76 info35 (HzE.out sl') ?_) | (refine wb_put H rfl 0 35 _ _ rfl _ 0 rfl _ _ rfl (.agg (stateC ⟨G, v', T'⟩ sl')) rfl 76 info35 (HzE.out sl') (Nat.le_of_ble_eq_true rfl) HOne.out _ (HspE.out sl') ?_; clear H; intro w H))
      refine bodyPost_ret (v := .agg (stateC ⟨G, v', T'⟩ sl')) (res35 rfl rfl (H.holds _ (List.mem_cons_self ..)) (HzE.out sl')) rfl ⟨H.below, sl', rfl, H.rows _ (List.mem_cons_self ..), fun q hq => (H.rge _ (List.mem_cons_self ..) q hq).resolve_right (by simp)⟩
end Go.Proofs.YtdopfonebpklkaaGreat.game
namespace Go.Proofs.YtdopfonebpklkaaGreat.game
open Go.ChangeShapes Go.WideShapes Go.ChangeAt Go.RowKit dice
set_option maxRecDepth 100000

theorem assert_no (W : World) : (Instr.typeAssert .nilIface 20 122 true).run Tryz.prog W = .ok (.tuple #[.agg #[.int .i64 0], .bool false]) W := by kernel_rfl
theorem assert_yes (W : World) (v : Value) : (Instr.typeAssert (.iface 122 v) 20 122 true).run Tryz.prog W = .ok (.tuple #[v, .bool true]) W := by kernel_rfl
set_option maxHeartbeats 2000000 in
theorem catch_idle (p q r : Addr) (w : World) :
    CallsD Tryz.prog 91 #[.pointer (some p), .pointer (some q), .pointer (some r)] .returning w fun e u' w' => e = .returned (.tuple #[]) ∧ u' = .returning ∧ Below w.heap.size w w' := by
  refine callsD_of_wpS Tryz.func91 rfl fun c₀ cs hu => ?_
  apply wpS_seq
  apply wpS_region
  simp [wpOpsS, go_sem, recoverD, hu, Tryz.ntmps91, Exit.thenS, assert_no]
  refine wpS_of_wp ?_
  go_wp2_with fail
  cases c₀
  simp_all [bodyPostS, results, Tryz.results91]
  exact (Below.refl _ w).alloc (Nat.le_refl _) _
theorem f122_0 (b : Nat) (w : World) : (Instr.fieldAt 122 (.pointer (some ⟨b, 0, none⟩)) 0).run Tryz.prog w = .ok (.pointer (some ⟨b, 0, none⟩)) w := by go_simp
theorem info122 : (Tryz.prog.info? 122).map (·.size) = some 1 := by kernel_rfl
set_option maxHeartbeats 2000000 in
theorem catch_panicking (p q r : Nat) (cs c4 : Array Value) (e0 : Value) (k : Int) (w : World) (hcs : cs.size = 76) (h4 : c4.size = 76) (h1 : cs.toList.all (·.oneCell') = true) (H0 : Sb [p, q, r] w w [(p, cs, 35), (q, c4, 35), (r, #[e0], 3)] []) :
    CallsD Tryz.prog 91 #[.pointer (some ⟨p, 0, none⟩), .pointer (some ⟨q, 0, none⟩), .pointer (some ⟨r, 0, none⟩)] (.panicking (failP k)) w fun e u' w' => e = .returned (.tuple #[]) ∧ u' = .panicking [{ v := .iface 122 (.agg #[.int .i64 k]), recovered := true }] ∧ Sb [p, q, r] w w' [(p, cs, 35), (q, cs, 35), (r, #[.int .i64 k], 3)] [] := by
  refine callsD_of_wpS Tryz.func91 rfl fun c₀ css hu => ?_
  unfold failP at hu
  have H : Sb [p, q, r] w (w.alloc (.cells #[.int .i64 k] 122)) [(w.heap.size, #[.int .i64 k], 122), (p, cs, 35), (q, c4, 35), (r, #[e0], 3)] [] := H0.new #[.int .i64 k] 122
  have Hcs := Lib.hid hcs
  have H4 := Lib.hid h4
  have H1 := Lib.hid h1
  clear H0 hcs h4 h1
  apply wpS_seq
  apply wpS_region
  simp [wpOpsS, go_sem, recoverD, hu, Tryz.ntmps91, Exit.thenS, assert_yes]
  refine wpS_of_wp ?_
  generalize hbx : w.heap.size = bx at *
  generalize hw1 : w.alloc (.cells #[.int .i64 k] 122) = w1 at *
  clear hw1 hbx
  have hnd := H.nd
  simp at hnd
  have Hnd := Lib.hid hnd
  clear hnd
  simp only [Array.replicate, List.replicate_succ, List.replicate_zero, List.setIfInBounds_toArray, List.set_cons_succ, List.set_cons_zero, List.append_toArray, List.cons_append, List.nil_append]
  go_wp2_with fail
  have HD : Sb [p, q, r] w ({ w1 with drawn := w1.drawn + 1 } : World) _ _ := H.call ((Below.refl _ w1).drew)
  have hr0 : ({ w1 with drawn := w1.drawn + 1 } : World).rangeAt p 0 cs.toList := fun j v hv => by rw [Nat.zero_add]; exact (cell_of_row _ p j _ 35 (0, 0) (HD.holds _ (List.mem_cons_of_mem _ (List.mem_cons_self ..)))).trans (by rw [← Array.getElem?_toList]; exact hv)
  have c1 : ({ w1 with drawn := w1.drawn + 1 } : World).cell? ⟨bx, 0, none⟩ = some (.int .i64 k) := cell_of_row _ bx 0 _ 122 (0, 0) (HD.holds _ (List.mem_cons_self ..))
  obtain ⟨L, hL⟩ : ∃ L, rowF p 0 cs.toList 3 ++ [((⟨bx, 0, none⟩ : Addr), Value.int .i64 k, 4)] = L := ⟨_, rfl⟩
  have HTd : Hid (∀ t ∈ L, t.2.2 = 3 ∨ t = ((⟨bx, 0, none⟩ : Addr), Value.int .i64 k, 4)) := Lib.hid (fun t ht => by
    rw [← hL] at ht
    rcases List.mem_append.1 ht with h | h
    · exact .inl (rowF_d t h)
    · rw [List.mem_singleton] at h; exact .inr h)
  have HTk : ∀ k, 3 ≠ k → 4 ≠ k → ∀ t ∈ L, t.2.2 ≠ k := fun k h3 h4 t ht => by
    rcases HTd.out t ht with h | h
    · omega
    · rw [h]; exact h4
  have HM0 : ∀ j v, (cs.toList)[j]? = some v → ((⟨p, 0 + j, none⟩ : Addr), v, 3) ∈ L := fun j v hv => by rw [← hL]; exact List.mem_append_left _ (mem_rowF hv)
  have HM1 : ((⟨bx, 0, none⟩ : Addr), Value.int .i64 k, 4) ∈ L := by rw [← hL]; exact List.mem_append_right _ (List.mem_cons_self ..)
  refine Gs_start (T := L) (n := 5) (by kernel_rfl) rfl ?_ ?_
  · intro t ht _
    rw [← hL] at ht
    rcases List.mem_append.1 ht with h | h
    · exact rowF_holds hr0 t h
    · rw [List.mem_singleton] at h; subst h; exact c1
  clear hr0 c1 hL
  clear H
  have H := HD
  clear HD
  generalize ({ w1 with drawn := w1.drawn + 1 } : World) = w2 at *
  refine Gv_loadRowC 0 3 [] (fun d _ _ _ _ h => by cases d <;> exact h) (by kernel_rfl) rfl _ _ rfl rfl (some 11) rfl (by kernel_rfl) (by kernel_rfl) (HTk 0 (by decide) (by decide)) p 0 rfl cs.toList HM0 (by kernel_rfl) _ Tryz.underlying35 rfl (by rw [Array.length_toList, Hcs.out]; exact info35) ?_
  rw [Array.toArray_toList]
  simp only [Act.put, List.setIfInBounds_toArray, List.set_cons_succ, List.set_cons_zero]
  refine Gv_field 1 (fun d _ _ _ _ h => by cases d <;> exact h) (by kernel_rfl) rfl _ _ _ rfl rfl (some 12) rfl (by kernel_rfl) (by kernel_rfl) (HTk 1 (by decide) (by decide)) _ _ rfl (f122_0 _) ?_
  simp only [Act.put, List.setIfInBounds_toArray, List.set_cons_succ, List.set_cons_zero]
  refine Gv_loadC 2 4 [] (fun d _ _ _ _ h => by cases d <;> exact h) (by kernel_rfl) rfl _ _ rfl rfl (some 13) rfl (by kernel_rfl) (by kernel_rfl) (HTk 2 (by decide) (by decide)) _ rfl Tryz.isAgg3 _ HM1 (by kernel_rfl) ?_
  simp only [Act.put, List.setIfInBounds_toArray, List.set_cons_succ, List.set_cons_zero]
  refine Gs_one 3 rfl (by kernel_rfl) ?_
  have Hsp : Hid (splice c4 0 (Value.cells (.agg cs)).toList = cs) := Lib.hid (splice_all _ _ (by rw [H4.out]; exact Hcs.out.symm))
  refine wb_put H rfl 2 35 _ _ rfl q 0 rfl c4 35 rfl (.agg cs) rfl 76 info35 Hcs.out (by rw [H4.out]; decide) H1.out cs Hsp ?_
  intro w3 H3
  replace H3 : Sb [p, q, r] w w3 [(bx, #[.int .i64 k], 122), (p, cs, 35), (q, cs, 35), (r, #[e0], 3)] [] := H3
  refine ⟨fun t ht hl => ?_, ?_⟩
  · rcases HTd.out t ht with h | h
    · rw [h] at hl
      exact absurd hl (by decide)
    · rw [h]
      exact cell_of_row w3 bx 0 _ 122 (0, 0) (H3.holds _ (List.mem_cons_self ..))
  · clear H
    refine Gs_end 4 (by kernel_rfl) (fun t ht => by
      rcases HTd.out t ht with h | h
      · rw [h]; rfl
      · rw [h]; rfl) (by kernel_rfl) rfl ?_
    simp only [List.drop_succ_cons, List.drop_zero]
    go_wp2_with (refine wb_put H3 rfl 3 3 _ _ rfl r 0 rfl _ _ rfl (.int .i64 k) rfl 1 info3 rfl (Nat.le_of_ble_eq_true rfl) rfl #[.int .i64 k] rfl ?_; clear H3; intro w4 H4)
    cases c₀
    simp_all [bodyPostS, results, Tryz.results91]
    exact H4.tail
end Go.Proofs.YtdopfonebpklkaaGreat.game
namespace Go.Proofs.YtdopfonebpklkaaGreat.game
open Go.ChangeShapes Go.WideShapes Go.ChangeAt Go.RowKit dice
set_option maxRecDepth 100000

theorem fmay_b (s : Ste) (sl : Value) (w0 : World) (hg : s.g.wf) (t8 : s.T.length = 8) (hin : ShotsW w0 sl s.g.L) :
    Calls Tryz.prog 19 #[.agg (stateC s sl)] w0 fun e w' => e = .returned (.bool (mayS s)) ∧ Below w0.heap.size w0 w' := by
  have H := Sb.start w0
  have HM := Lib.hid (fun w h => mayS_b s sl w hg t8 h)
  have HI := Lib.hid hin
  have Hz := Lib.hid (sc_size (sl := sl) hg.s8 t8)
  clear hg t8 hin
  generalize stateC s sl = cs at *
  go_enter Tryz.func19, Tryz.ntmps19
  go_wp2_with (first | (refine wb_box H rfl 35 _ rfl cs rfl ?_; clear H; intro b1 w H) | (refine wb_whole H rfl 0 35 _ rfl _ rfl cs rfl _ Tryz.underlying35 rfl 76 info35 Hz.out ?_))
  refine (HM.out _ (HI.out.later H.below)).mono ?_; rintro e w' ⟨rfl, hb⟩
  replace H := H.call hb
  clear hb
  go_wp2_with fail
  go_ret
  exact ⟨rfl, H.below⟩
theorem info42 : (Tryz.prog.info? 42).map (·.size) = some 26 := by kernel_rfl
theorem info40 : (Tryz.prog.info? 40).map (·.size) = some 24 := by kernel_rfl
theorem co37 : Tryz.prog.cellsOf 37 = 1 := by kernel_rfl
theorem co5x : Tryz.prog.cellsOf 5 = 1 := by kernel_rfl
theorem co39 : Tryz.prog.cellsOf 39 = 3 := by kernel_rfl
theorem kl37 (d : Nat) (a : Int) (h : (Lit.int .i8 a).wf = true) : Tryz.prog.keyLits (d + 1) 37 [.int .i8 a] = some [.int .i8 a] := by
  unfold Program.keyLits
  rw [Tryz.underlying37]
  simp only [h, and_self, if_true]
theorem kl5 (d : Nat) (a : Int) (h : (Lit.int .u8 a).wf = true) : Tryz.prog.keyLits (d + 1) 5 [.int .u8 a] = some [.int .u8 a] := by
  unfold Program.keyLits
  rw [Tryz.underlying5]
  simp only [h, and_self, if_true]
def litsI (i : Inp) : List Lit := [.int .i8 i.x, .int .i8 i.y, .int .u8 i.b]
theorem kl39 (d : Nat) (i : Inp) (h : i.ok) : Tryz.prog.keyLits (d + 2) 39 (inpL i) = some (litsI i) := by
  have k0 := kl37 d i.x (by have := h.x0; have := h.x1; simp [Lit.wf, IntKind.min, IntKind.max, IntKind.signed, IntKind.bits]; omega)
  have k1 := kl37 d i.y (by have := h.y0; have := h.y1; simp [Lit.wf, IntKind.min, IntKind.max, IntKind.signed, IntKind.bits]; omega)
  have k2 := kl5 d i.b (by have := h.b0; have := h.b1; simp [Lit.wf, IntKind.min, IntKind.max, IntKind.signed, IntKind.bits]; omega)
  show Tryz.prog.keyLits ((d + 1) + 1) 39 (inpL i) = some (litsI i)
  unfold Program.keyLits
  rw [Tryz.underlying39]
  simp only [co39, inpL, List.length_cons, List.length_nil, co37, co5x, List.mapM_cons, List.mapM_nil, List.drop_succ_cons, List.drop_zero, List.take_succ_cons, List.take_zero, k0, k1, k2]
  rw [if_pos ⟨trivial, by decide +kernel⟩]
  rfl
theorem formed39 (i : Inp) : (Value.agg (inpL i).toArray).formed Tryz.prog 39 = true := by
  unfold Value.formed
  rw [Tryz.underlying39]
  simp [co39, inpL]
theorem inp_ext {i : Inp} : i.z = true ↔ i = zInp := by
  obtain ⟨x, y, b⟩ := i
  simp [Inp.z, zInp]
theorem litsI_inj {a b : Inp} (h : litsI a = litsI b) : a = b := by
  obtain ⟨x, y, z⟩ := a
  obtain ⟨x', y', z'⟩ := b
  simp [litsI] at h
  rw [h.1, h.2.1, h.2.2]
theorem eq39 (W : World) (i : Inp) (h : i.ok) : (Op.equalIn 10000 39 (.agg (inpL i).toArray) (.agg #[.int .i8 0, .int .i8 0, .int .u8 0])).run Tryz.prog W = .ok i.z W := by
  obtain ⟨x, h1, hr⟩ := run_equalIn_deep (P := Tryz.prog) 9990 10 39 (by kernel_rfl) W 10 10 (.agg (inpL i).toArray) (.agg (inpL zInp).toArray) (litsI i) (litsI zInp) (formed39 i) (formed39 zInp) (kl39 8 i h) (kl39 8 zInp zInp_ok)
  have : x = i.z := by
    rw [Bool.eq_iff_iff, hr, inp_ext]
    exact ⟨litsI_inj, fun e => by rw [e]⟩
  rw [← this]
  exact h1
theorem ins_part3 : ∀ (S : List Inp) (k : Nat) (t : Inp), S[k]? = some t → ((S.flatMap inpL).drop (k * 3)).take 3 = inpL t
  | [], k, t, h => by simp at h
  | s :: S, 0, t, h => by
    simp at h
    subst h
    rw [List.flatMap_cons, Nat.zero_mul, List.drop_zero]
    rfl
  | s :: S, k + 1, t, h => by
    have ih := ins_part3 S k t (by simpa using h)
    rw [List.flatMap_cons, List.drop_append, List.drop_of_length_le (show (inpL s).length ≤ (k + 1) * 3 by simp [inpL]; omega), List.nil_append, show (k + 1) * 3 - (inpL s).length = k * 3 by simp [inpL]; omega]
    exact ih
theorem ins_extract {S : List Inp} {k : Nat} {t : Inp} (h : S[k]? = some t) : (S.flatMap inpL).toArray.extract (k * 3) (k * 3 + 3) = (inpL t).toArray := by
  rw [List.extract_toArray, List.extract_eq_take_drop, show k * 3 + 3 - k * 3 = 3 by omega, ins_part3 S k t h]
/-- The first k inputs are of slots that somebody has, or nothing. -/
def InsTo (I : List Inp) (T : List Seat) (k : Nat) : Prop := ∀ (j : Nat) (i : Inp) (q : Seat), j < k → I[j]? = some i → T[j]? = some q → (i.z || decide (0 ≤ q.peer)) = true
theorem insOk_iff {I : List Inp} {T : List Seat} (h8 : I.length = 8) : insOk I T = true ↔ InsTo I T 8 := by
  unfold insOk
  rw [List.all_eq_true]
  constructor
  · intro h j i q _ hi hq
    have hz : (I.zip T)[j]? = some (i, q) := by rw [List.getElem?_zip_eq_some]; exact ⟨hi, hq⟩
    exact h (i, q) (List.mem_of_getElem? hz)
  · rintro h ⟨i, q⟩ hm
    obtain ⟨j, hj⟩ := List.mem_iff_getElem?.1 hm
    rw [List.getElem?_zip_eq_some] at hj
    have hl := (List.getElem?_eq_some_iff.1 hj.1).1
    exact h j i q (by omega) hj.1 hj.2
theorem insOk_no {I : List Inp} {T : List Seat} {k : Nat} {i : Inp} {q : Seat} (hi : I[k]? = some i) (hq : T[k]? = some q) (h : (i.z || decide (0 ≤ q.peer)) = false) : insOk I T = false := by
  unfold insOk
  rw [List.all_eq_false]
  refine ⟨(i, q), List.mem_of_getElem? (i := k) (by rw [List.getElem?_zip_eq_some]; exact ⟨hi, hq⟩), by simpa using h⟩
/-- Where a state's shots lie: in the caller's memory as at the call, or in a row of the call's own. -/
def Lie (W0 : World) (R : List RowS) (sl : Value) (L : List Sht) : Prop := (R = [] ∧ ShotsIn W0 sl L) ∨ R = [(sl, L)]
theorem Lie.shots {W0 w : World} {l : List Blk} {R : List RowS} {sl : Value} {L : List Sht} (h : Lie W0 R sl L) (H : Sb [] W0 w l R) : ShotsIn w sl L := by
  rcases h with ⟨_, h⟩ | rfl
  · exact h.later H.below
  · exact (show Own w 0 sl L from H.rows _ (List.mem_cons_self ..)).shotsIn
theorem Sb.onlyRow {Hs : List Nat} {W0 w : World} {l : List Blk} {r : RowS} {R : List RowS} (h : Sb Hs W0 w l (r :: R)) : Sb Hs W0 w l [r] := h.oneRow
theorem Ste.may.wf {s : Ste} (h : s.may) (hd : (Lit.int .u64 s.g.d).wf = true) : s.g.wf := by
  have f0 := h.g.f0
  have f1 := h.g.f1
  refine ⟨w64 (by omega) (by omega), hd, h.g.s8, fun t ht => ?_, fun t ht => ?_⟩
  · have hok := h.g.ships t ht
    unfold Shp.ok OkShip at hok
    split at hok
    · refine ⟨?_, ?_, ?_, ?_, ?_, ?_⟩ <;> (simp [Lit.wf, IntKind.min, IntKind.max, IntKind.signed, IntKind.bits]; omega)
    · refine ⟨?_, ?_, ?_, ?_, ?_, ?_⟩ <;> (simp [Lit.wf, IntKind.min, IntKind.max, IntKind.signed, IntKind.bits]; omega)
  · obtain ⟨o0, o1, a0, a1, b0, b1, u0, u1, v0, v1, l0, l1⟩ := h.g.shots t ht
    refine ⟨?_, ?_, ?_, ?_, ?_, ?_⟩ <;> (simp [Lit.wf, IntKind.min, IntKind.max, IntKind.signed, IntKind.bits]; omega)
set_option maxHeartbeats 8000000 in
theorem apply_b (s : Ste) (sl : Value) (e : Ent) (esl : Value) (w0 : World) (hg : s.g.wf) (t8 : s.T.length = 8) (hin : ShotsIn w0 sl s.g.L) (h8 : e.ins.length = 8) (hI : ∀ i ∈ e.ins, i.ok) (hE : ∀ x ∈ e.evs, x.wf) (hev : EvW w0 esl e.evs) (hn : e.evs.length ≤ 1000) :
    Calls Tryz.prog 53 #[.agg (stateC s sl), .agg (entC e esl)] w0 (StOut (applyF s e) w0) := by
  have H := Sb.start w0
  have HM := Lib.hid (fun w h => fmay_b s sl w hg t8 h)
  have HEM := Lib.hid (fun w h => entMay_b e esl w h8 h hn)
  have HI := Lib.hid hin
  have HEv := Lib.hid hev
  have Hz := Lib.hid (sc_size (s := s) (sl := sl) hg.s8 t8)
  have Hez := Lib.hid (en_size (sl := esl) h8)
  have Hfr := Lib.hid (en_fr (e := e) (sl := esl))
  have Hsl := Lib.hid (en_sl (e := e) (sl := esl))
  have Hins := Lib.hid (en_ins (e := e) (sl := esl))
  have Hsf := Lib.hid (sc_fr (s := s) (sl := sl))
  have HIo := Lib.hid hI
  have HEo := Lib.hid hE
  have H8 := Lib.hid h8
  have Hli := Lib.hid (show (e.ins.flatMap inpL).length = 24 by rw [length_ins, h8])
  have Hn := Lib.hid hn
  have Hgs := Lib.hid hg.s8
  have Ht8 := Lib.hid t8
  generalize hec : entC e esl = ec at *
  clear hec hE hI hev hin hn
  cases hm : mayS s with
  | false =>
    have hap : applyF s e = none := by unfold applyF; rw [if_neg (by rw [hm]; simp)]
    rw [hap]
    rw [hm] at HM
    clear hm hap hg t8 h8
    generalize stateC s sl = cs at *
    go_enter Tryz.func53, Tryz.ntmps53
    go_wp2_with (first | (refine wb_box H rfl 35 _ rfl cs rfl ?_; clear H; intro b2 w H) | (refine wb_box H rfl 42 _ rfl ec rfl ?_; clear H; intro b3 w H) | (refine wb_alloc H rfl 35 rfl _ Tryz.zeroValue35 ?_; clear H; intro b4 w H) | (refine wb_whole H rfl 2 35 _ rfl _ rfl cs rfl _ Tryz.underlying35 rfl 76 info35 Hz.out ?_))
    refine (HM.out _ ((HI.out.later H.below).w)).mono ?_; rintro e w' ⟨rfl, hb⟩
    replace H := H.call hb
    clear hb HM
    go_wp2_with fail
    refine (must_bad 1 _).mono ?_
    rintro e w2 ⟨rfl, rfl⟩
    exact ⟨rfl, H.below, rfl⟩
  | true =>
    rw [hm] at HM
    have hmay := (Ste.may_iff hg.s8 t8).1 hm
    cases he : entMay e with
    | false =>
      have hap : applyF s e = none := by unfold applyF; rw [if_neg (by rw [he]; simp)]
      rw [hap]
      rw [he] at HEM
      clear hm hap hg t8 h8 he hmay
      generalize stateC s sl = cs at *
      go_enter Tryz.func53, Tryz.ntmps53
      go_wp2_with (first | (refine wb_box H rfl 35 _ rfl cs rfl ?_; clear H; intro b2 w H) | (refine wb_box H rfl 42 _ rfl ec rfl ?_; clear H; intro b3 w H) | (refine wb_alloc H rfl 35 rfl _ Tryz.zeroValue35 ?_; clear H; intro b4 w H) | (refine wb_whole H rfl 2 35 _ rfl _ rfl cs rfl _ Tryz.underlying35 rfl 76 info35 Hz.out ?_))
      refine (HM.out _ ((HI.out.later H.below).w)).mono ?_; rintro e w' ⟨rfl, hb⟩
      replace H := H.call hb
      clear hb HM
      go_wp2_with (refine wb_whole H rfl 1 42 _ rfl _ rfl ec rfl _ Tryz.underlying42 rfl 26 info42 Hez.out ?_)
      refine (HEM.out _ (HEv.out.later H.below)).mono ?_; rintro e w' ⟨rfl, hb⟩
      replace H := H.call hb
      clear hb HEM
      go_wp2_with fail
      refine (must_bad 1 _).mono ?_
      rintro e w2 ⟨rfl, rfl⟩
      exact ⟨rfl, H.below, rfl⟩
    | true =>
      rw [he] at HEM
      by_cases hf : e.fr = s.g.fr
      rotate_left
      · have hap : applyF s e = none := by unfold applyF; rw [if_neg (fun h => hf h.2.2)]
        rw [hap]
        have q0 : (e.fr == s.g.fr) = false := beq_false_of_ne hf
        clear hm hap hg t8 h8 he hmay
        generalize stateC s sl = cs at *
        go_enter Tryz.func53, Tryz.ntmps53
        go_wp2_with (first | (refine wb_box H rfl 35 _ rfl cs rfl ?_; clear H; intro b2 w H) | (refine wb_box H rfl 42 _ rfl ec rfl ?_; clear H; intro b3 w H) | (refine wb_alloc H rfl 35 rfl _ Tryz.zeroValue35 ?_; clear H; intro b4 w H) | (refine wb_whole H rfl 2 35 _ rfl _ rfl cs rfl _ Tryz.underlying35 rfl 76 info35 Hz.out ?_))
        refine (HM.out _ ((HI.out.later H.below).w)).mono ?_; rintro e w' ⟨rfl, hb⟩
        replace H := H.call hb
        clear hb HM
        go_wp2_with (refine wb_whole H rfl 1 42 _ rfl _ rfl ec rfl _ Tryz.underlying42 rfl 26 info42 Hez.out ?_)
        refine (HEM.out _ (HEv.out.later H.below)).mono ?_; rintro e w' ⟨rfl, hb⟩
        replace H := H.call hb
        clear hb HEM
        have c0 : w'.cell? ⟨b3, 0, none⟩ = _ := (cell_of_row w' b3 0 _ 42 (0, 0) (H.holds _ (List.mem_cons_of_mem _ (List.mem_cons_self ..)))).trans Hfr.out
        have c1 : w'.cell? ⟨b2, 0, none⟩ = _ := (cell_of_row w' b2 0 _ 35 (0, 0) (H.holds _ (List.mem_cons_of_mem _ (List.mem_cons_of_mem _ (List.mem_cons_self ..))))).trans Hsf.out
        go_wp2_with fail
        refine (must_bad 1 _).mono ?_
        rintro e w2 ⟨rfl, rfl⟩
        exact ⟨rfl, H.below, rfl⟩
      have hap : applyF s e = (evsS s e.evs).bind fun t => if insOk e.ins t.T = true then some ⟨stepG t.g e.ins, t.ver, t.T⟩ else none := by unfold applyF; rw [if_pos ⟨hm, he, hf⟩]
      rw [hap]
      have Hfm := Lib.hid (show s.g.fr < 1048576 by rw [← hf]; exact (entMay_parts he).2.1)
      have Hmay := Lib.hid hmay
      obtain ⟨ad, c, hesl⟩ := HEv.out.form
      subst hesl
      obtain ⟨E, hEE⟩ : ∃ E, e.evs = E := ⟨_, rfl⟩
      obtain ⟨I, hII⟩ : ∃ I, e.ins = I := ⟨_, rfl⟩
      rw [hEE] at HEv HEo Hn Hsl HEM ⊢
      rw [hII] at HIo H8 Hli Hins ⊢
      have hfe : (e.fr == s.g.fr) = true := by rw [beq_iff_eq]; exact hf
      clear hm hap hg t8 h8 he hmay hEE hII
      have hn' : (E.length : Int) ≤ 1000 := by have := Hn.out; omega
      have Hn' := Lib.hid hn'
      clear hn'
      go_enter Tryz.func53, Tryz.ntmps53
      go_wp2_with (first | (refine wb_box H rfl 35 _ rfl (stateC s sl) rfl ?_; clear H; intro b2 w H) | (refine wb_box H rfl 42 _ rfl ec rfl ?_; clear H; intro b3 w H) | (refine wb_alloc H rfl 35 rfl _ Tryz.zeroValue35 ?_; clear H; intro b4 w H) | (refine wb_whole H rfl 2 35 _ rfl _ rfl (stateC s sl) rfl _ Tryz.underlying35 rfl 76 info35 Hz.out ?_))
      refine (HM.out _ ((HI.out.later H.below).w)).mono ?_; rintro e1 w' ⟨rfl, hb⟩
      replace H := H.call hb
      clear hb HM
      go_wp2_with (refine wb_whole H rfl 1 42 _ rfl _ rfl ec rfl _ Tryz.underlying42 rfl 26 info42 Hez.out ?_)
      refine (HEM.out _ (HEv.out.later H.below)).mono ?_; rintro e1 w' ⟨rfl, hb⟩
      replace H : Sb [] w0 w' [(b4, zC, 35), (b3, ec, 42), (b2, stateC s sl, 35)] [] := H.call hb
      clear hb HEM
      have c0 : w'.cell? ⟨b3, 0, none⟩ = _ := (cell_of_row w' b3 0 _ 42 (0, 0) (H.holds _ (List.mem_cons_of_mem _ (List.mem_cons_self ..)))).trans Hfr.out
      have c1 : w'.cell? ⟨b2, 0, none⟩ = _ := (cell_of_row w' b2 0 _ 35 (0, 0) (H.holds _ (List.mem_cons_of_mem _ (List.mem_cons_of_mem _ (List.mem_cons_self ..))))).trans Hsf.out
      go_wp2_with fail
      refine (must_ok 1 _).mono ?_
      rintro e1 w2 ⟨rfl, rfl⟩
      clear c0 c1 hfe hf
      go_upto_region 2 with fail
      have hn' := Hn'.out
      go_wp2_with (refine wb_cell H rfl 1 36 _ rfl _ 1 rfl _ _ rfl Tryz.isAgg36 (.slice ad E.length c) Hsl.out ?_)
      have HB := Lib.hid H
      clear H hn'
      go_loopw [28] (fun i W => ∃ (k : Nat) (s1 : Ste) (sl1 : Value) (R : List RowS), k ≤ E.length ∧ i = .int .i64 k ∧ Hid (Sb [] w0 W [(b4, zC, 35), (b3, ec, 42), (b2, stateC s1 sl1, 35)] R) ∧ Hid (Lie w0 R sl1 s1.g.L) ∧ Hid (s1.may ∧ s1.g.fr = s.g.fr ∧ evsS s E = evsS s1 (E.drop k))) (fun i _ => E.length - (intOf i).toNat)
      case atStart => exact ⟨0, s, sl, [], Nat.zero_le _, rfl, HB, Lib.hid (.inl ⟨rfl, HI.out⟩), Lib.hid ⟨Hmay.out, rfl, rfl⟩⟩
      case round =>
        clear HB
        obtain ⟨k, s1, sl1, R, hk, rfl, HB, HL, HA⟩ := hrel
        have hn' := Hn'.out
        by_cases hlt : k < E.length
        · obtain ⟨x, hx⟩ : ∃ x, E[k]? = some x := ⟨E[k], List.getElem?_eq_getElem hlt⟩
          obtain ⟨g, o, had, hg, hcs⟩ : ∃ g o, ad = some ⟨g, o, none⟩ ∧ g < w0.heap.size ∧ ∀ j v, (evsL E)[j]? = some v → w0.cell? ⟨g, o + j, none⟩ = some v := by
            rcases HEv.out with ⟨e, _⟩ | ⟨g, o, c', e, hg, hc⟩
            · rw [e] at hlt; exact absurd hlt (Nat.not_lt_zero _)
            · injection e with e1 e2 e3
              exact ⟨g, o, e1, hg, hc⟩
          subst had
          obtain ⟨c0, c1, c2, c3⟩ := ev_at (W := wr) (g := g) (o := o) (fun j v hv => (World.cell?_of_block (a := ⟨g, o + j, none⟩) (HB.out.fr g hg (by simp))).trans (hcs j v hv)) k x hx
          have hst : evsS s E = (evS s1 x).bind fun t => evsS t (E.drop (k + 1)) := by
            rw [HA.out.2.2]
            obtain ⟨hk', e⟩ := List.getElem?_eq_some_iff.1 hx
            rw [List.drop_eq_getElem_cons hk', e]
            rfl
          have Hst := Lib.hid hst
          have Hm1 := Lib.hid HA.out.1
          have Hf1 := Lib.hid HA.out.2.1
          have Hxw := Lib.hid (HEo.out x (List.mem_of_getElem? hx))
          have HLs := Lib.hid (fun w l (H : Sb [] w0 w l R) => HL.out.shots H)
          have Hz1 := Lib.hid (sc_size (s := s1) (sl := sl1) HA.out.1.g.s8 HA.out.1.t8)
          have H := HB.out
          clear HB HA hx hcs hg hst HL
          go_upto_region 5 with (first | (refine wb_alloc H rfl 60 rfl _ Tryz.zeroValue60 ?_; clear H; intro b6 w H) | (refine wb_put H rfl 0 60 _ _ rfl _ 0 rfl _ _ rfl (.agg #[.int .i64 x.kind, .int .i64 x.slot, .int .i64 x.gen, .int .i64 x.peer]) rfl 4 info60e rfl (Nat.le_of_ble_eq_true rfl) rfl (evC x) rfl ?_; clear H; intro w H))
          replace H : Sb [] w0 w [(b6, evC x, 60), (b4, zC, 35), (b3, ec, 42), (b2, stateC s1 sl1, 35)] R := H
          clear c0 c1 c2 c3
          go_wp2_with (first | (refine wb_whole H rfl 3 35 _ rfl _ rfl (stateC s1 sl1) rfl _ Tryz.underlying35 rfl 76 info35 Hz1.out ?_) | (refine wb_whole H rfl 0 60 _ rfl _ rfl (evC x) rfl _ Tryz.underlying60 rfl 4 info60e rfl ?_))
          refine (event_b s1 sl1 x _ Hm1.out Hxw.out (HLs.out _ _ H)).mono ?_
          rintro e1 w' ⟨hb, ho⟩
          cases hev : evS s1 x with
          | none =>
            rw [hev] at ho
            subst ho
            replace H := H.call hb
            have hn : evsS s E = none := by rw [Hst.out, hev]; rfl
            refine ⟨rfl, ?_⟩
            rw [hn]
            exact ⟨H.below, rfl⟩
          | some t =>
            rw [hev] at ho
            obtain ⟨sl2, rfl, hown, hnew⟩ := ho
            obtain ⟨ht, _, htf, _⟩ := evS_may Hm1.out hev
            have HA2 : Hid (t.may ∧ t.g.fr = s.g.fr ∧ evsS s E = evsS t (E.drop (k + 1))) := Lib.hid ⟨ht, htf.trans Hf1.out, by rw [Hst.out, hev]; rfl⟩
            have H1 := (H.addRow sl2 _ hown hb hnew).onlyRow
            have HOne := Lib.hid (sc_oneI (s := t) hown.shotsIn)
            have Hz2 := Lib.hid (sc_size (s := t) (sl := sl2) ht.g.s8 ht.t8)
            have Hsp2 : Hid (splice (stateC s1 sl1) 0 (Value.cells (.agg (stateC t sl2))).toList = stateC t sl2) := Lib.hid (splice_all _ _ (by rw [Hz1.out]; exact Hz2.out.symm))
            have Hft : Hid (0 + 76 ≤ (stateC s1 sl1).size) := Lib.hid (by rw [Hz1.out]; decide)
            clear H hown hnew hb ht htf hev Hst
            have H := H1
            clear H1
            go_wp2_with (refine wb_put H rfl 3 35 _ _ rfl _ 0 rfl _ _ rfl (.agg (stateC t sl2)) rfl 76 info35 Hz2.out Hft.out HOne.out _ Hsp2.out ?_; clear H; intro w H)
            replace H : Sb [] w0 w [(b6, evC x, 60), (b4, zC, 35), (b3, ec, 42), (b2, stateC t sl2, 35)] [(sl2, t.g.L)] := H
            refine ⟨?_, by simp [intOf]; omega⟩
            simp
            exact ⟨k + 1, hlt, rfl, t, sl2, [(sl2, t.g.L)], Lib.hid H.tail, Lib.hid (.inr rfl), HA2⟩
        · obtain rfl : k = E.length := by omega
          have hall : evsS s E = some s1 := by rw [HA.out.2.2, List.drop_length]; rfl
          have Hall := Lib.hid hall
          obtain ⟨s1m, s1f, _⟩ := HA.out
          have Hs1 := Lib.hid s1m
          have Hs1f := Lib.hid s1f
          have Hz1 := Lib.hid (sc_size (s := s1) (sl := sl1) s1m.g.s8 s1m.t8)
          have HQ := Lib.hid (fun k q h => sc_seat (s := s1) (sl := sl1) s1m.g.s8 k 0 q _ h rfl)
          have H := HB.out
          have Ht8' := Lib.hid s1m.t8
          clear HB HA hall hlt hk s1m s1f hn'
          go_wp2_with (refine wb_part H rfl 1 40 _ rfl _ 2 rfl _ _ rfl _ Tryz.underlying40 rfl 24 info40 (I.flatMap inpL) Hins.out Hli.out ?_)
          have HB := Lib.hid H
          clear H
          go_loopw [38] (fun i W => ∃ k : Nat, k ≤ 8 ∧ i = .int .i64 k ∧ Hid (Sb [] w0 W [(b4, zC, 35), (b3, ec, 42), (b2, stateC s1 sl1, 35)] R) ∧ Hid (InsTo I s1.T k)) (fun i _ => 8 - (intOf i).toNat)
          case atStart => exact ⟨0, Nat.zero_le _, rfl, HB, Lib.hid (fun j i q h => absurd h (by omega))⟩
          case round =>
            clear HB
            obtain ⟨k, hk, rfl, HB, HA⟩ := hrel
            by_cases hlt : k < 8
            · obtain ⟨i, hi⟩ : ∃ i, I[k]? = some i := ⟨I[k]'(by rw [H8.out]; exact hlt), List.getElem?_eq_getElem _⟩
              obtain ⟨q, hq⟩ : ∃ q, s1.T[k]? = some q := ⟨s1.T[k]'(by rw [Ht8'.out]; exact hlt), List.getElem?_eq_getElem _⟩
              have HX := Lib.hid (ins_extract hi)
              have Hi := Lib.hid hi
              have Hq := Lib.hid hq
              have Hqc := Lib.hid (HQ.out k q hq)
              have HEq := Lib.hid (fun w => eq39 w i (HIo.out i (List.mem_of_getElem? hi)))
              have H := HB.out
              clear HB hi hq
              go_upto_region 10 with (first | (refine wl_index rfl 40 39 8 _ _ rfl Tryz.underlying40 Tryz.isAgg39 3 info60s (I.flatMap inpL).toArray rfl k _ rfl hlt _ HX.out ?_) | (refine wb_alloc H rfl 39 rfl _ Tryz.zeroValue39 ?_; clear H; intro b8 w H) | (refine wb_put H rfl 0 39 _ _ rfl _ 0 rfl _ _ rfl (.agg (inpL i).toArray) rfl 3 info60s rfl (Nat.le_of_ble_eq_true rfl) rfl (inpL i).toArray rfl ?_; clear H; intro w H))
              replace H : Sb [] w0 w [(b8, (inpL i).toArray, 39), (b4, zC, 35), (b3, ec, 42), (b2, stateC s1 sl1, 35)] R := H
              have c1 : w.cell? ⟨b2, 60 + k * 2, none⟩ = some (.int .i64 q.peer) := (cell_of_row w b2 _ _ 35 (0, 0) (H.holds _ (List.mem_cons_of_mem _ (List.mem_cons_of_mem _ (List.mem_cons_of_mem _ (List.mem_cons_self ..)))))).trans Hqc.out
              have hk8 : (k : Int) < 8 := by omega
              cases hz : i.z with
              | true =>
                have hA2 : InsTo I s1.T (k + 1) := fun j i' q' hj hi' hq' => by
                  by_cases e : j = k
                  · subst e
                    rw [Hi.out] at hi'
                    injection hi' with hi'
                    rw [← hi', hz]
                    rfl
                  · exact HA.out j i' q' (by omega) hi' hq'
                have HA2 := Lib.hid hA2
                have heq : ∀ w, (Op.equalIn 10000 39 (.agg (inpL i).toArray) (.agg #[.int .i8 0, .int .i8 0, .int .u8 0])).run Tryz.prog w = .ok true w := fun w => by rw [← hz]; exact HEq.out w
                have Heq := Lib.hid heq
                clear hA2 HA hz heq
                go_wp2_with (first | (refine wb_whole H rfl 0 39 _ rfl _ rfl (inpL i).toArray rfl _ Tryz.underlying39 rfl 3 info60s rfl ?_; have heq := Heq.out) | (refine wl_build rfl 39 _ rfl #[.int .i8 0, .int .i8 0, .int .u8 0] (by kernel_rfl) ?_))
                refine (must_ok 1 _).mono ?_
                rintro e1 w2 ⟨rfl, rfl⟩
                clear heq c1
                go_wp2_with fail
                refine ⟨?_, by simp [intOf]; omega⟩
                simp
                exact ⟨k + 1, hlt, rfl, Lib.hid H.tail, HA2⟩
              | false =>
                have heq : ∀ w, (Op.equalIn 10000 39 (.agg (inpL i).toArray) (.agg #[.int .i8 0, .int .i8 0, .int .u8 0])).run Tryz.prog w = .ok false w := fun w => by rw [← hz]; exact HEq.out w
                have Heq := Lib.hid heq
                by_cases hp : 0 ≤ q.peer
                · have hA2 : InsTo I s1.T (k + 1) := fun j i' q' hj hi' hq' => by
                    by_cases e : j = k
                    · subst e
                      rw [Hq.out] at hq'
                      injection hq' with hq'
                      rw [← hq', decide_eq_true hp, Bool.or_true]
                    · exact HA.out j i' q' (by omega) hi' hq'
                  have HA2 := Lib.hid hA2
                  have qp : decide (0 ≤ q.peer) = true := decide_eq_true hp
                  clear hA2 HA hz heq
                  go_wp2_with (first | (refine wb_whole H rfl 0 39 _ rfl _ rfl (inpL i).toArray rfl _ Tryz.underlying39 rfl 3 info60s rfl ?_; have heq := Heq.out) | (refine wl_build rfl 39 _ rfl #[.int .i8 0, .int .i8 0, .int .u8 0] (by kernel_rfl) ?_))
                  refine (must_ok 1 _).mono ?_
                  rintro e1 w2 ⟨rfl, rfl⟩
                  clear heq c1 qp
                  go_wp2_with fail
                  refine ⟨?_, by simp [intOf]; omega⟩
                  simp
                  exact ⟨k + 1, hlt, rfl, Lib.hid H.tail, HA2⟩
                · have hno : insOk I s1.T = false := insOk_no Hi.out Hq.out (by rw [hz, decide_eq_false hp]; rfl)
                  have Hno := Lib.hid hno
                  have qp : decide (0 ≤ q.peer) = false := decide_eq_false hp
                  clear HA hz heq hno
                  go_wp2_with (first | (refine wb_whole H rfl 0 39 _ rfl _ rfl (inpL i).toArray rfl _ Tryz.underlying39 rfl 3 info60s rfl ?_; have heq := Heq.out) | (refine wl_build rfl 39 _ rfl #[.int .i8 0, .int .i8 0, .int .u8 0] (by kernel_rfl) ?_))
                  refine (must_bad 1 _).mono ?_
                  rintro e1 w2 ⟨rfl, rfl⟩
                  refine ⟨rfl, ?_⟩
                  rw [Hall.out, Option.bind_some, Hno.out]
                  exact ⟨H.below, rfl⟩
            · obtain rfl : k = 8 := by omega
              have hok : insOk I s1.T = true := (insOk_iff H8.out).2 HA.out
              have Hok := Lib.hid hok
              have H := HB.out
              have HC := Lib.hid (fun w h => step_any s1.g I sl1 w Hs1.out.g (by rw [Hs1f.out]; exact Hfm.out) H8.out HIo.out h)
              have HGm := Lib.hid (fun j v h => sc_game (s := s1) (sl := sl1) j v h)
              have Hgz := Lib.hid (gc_size (fr := s1.g.fr) (d := s1.g.d) (sl := sl1) Hs1.out.g.s8)
              have HGo := Lib.hid (stepG_ok I Hs1.out.g (by rw [Hs1f.out]; exact Hfm.out))
              have HSetG := Lib.hid (fun sl' => sc_setG (fr := s1.g.fr) (d := s1.g.d) (fr' := (stepG s1.g I).fr) (d' := (stepG s1.g I).d) (L := s1.g.L) (L' := (stepG s1.g I).L) (ver := s1.ver) (T := s1.T) (sl := sl1) (sl' := sl') (Hs1.out.g.s8.trans HGo.out.s8.symm))
              have HzE := Lib.hid (fun sl' => sc_size (s := ⟨stepG s1.g I, s1.ver, s1.T⟩) (sl := sl') HGo.out.s8 Ht8'.out)
              have HspE : Hid (∀ sl', splice zC 0 (Value.cells (.agg (stateC ⟨stepG s1.g I, s1.ver, s1.T⟩ sl'))).toList = stateC ⟨stepG s1.g I, s1.ver, s1.T⟩ sl') := Lib.hid (fun sl' => splice_all _ _ (by rw [zC_size]; exact (HzE.out sl').symm))
              have HGz := Lib.hid (fun sl' => gc_size (fr := (stepG s1.g I).fr) (d := (stepG s1.g I).d) (sl := sl') HGo.out.s8)
              have Hft0 : Hid (0 + 59 ≤ (stateC s1 sl1).size) := Lib.hid (by rw [Hz1.out]; decide)
              clear HB HA hok hlt hk
              obtain ⟨G, hG⟩ : ∃ G, stepG s1.g I = G := ⟨_, rfl⟩
              rw [hG] at HC HGo HSetG HzE HspE HGz
              have HG := Lib.hid hG
              clear hG
              go_wp2_with (first | (refine wb_partA H rfl 2 28 _ rfl _ 0 rfl _ _ rfl _ Tryz.underlying28 rfl 59 info28 (gameC s1.g.fr s1.g.d s1.g.S sl1) (fun j v h => by rw [Nat.zero_add]; exact HGm.out j v h) Hgz.out ?_) | (refine wb_part H rfl 1 40 _ rfl _ 2 rfl _ _ rfl _ Tryz.underlying40 rfl 24 info40 (I.flatMap inpL) Hins.out Hli.out ?_))
              refine (HC.out _ (HL.out.shots H)).mono ?_
              rintro e1 w3 ⟨⟨sl', rfl, hown, hnew⟩, hb⟩
              have H1 := (H.addRow sl' _ hown hb hnew).onlyRow
              have HOne := Lib.hid (sc_oneI (s := ⟨G, s1.ver, s1.T⟩) hown.shotsIn)
              have HOneG := Lib.hid (show (Value.cells (.agg (gameC G.fr G.d G.S sl'))).toList.all (·.oneCell') = true by
                obtain ⟨ad, c, e⟩ := own_form hown
                rw [e]
                exact gcv_one)
              clear H hown hnew hb HC
              have H := H1
              clear H1
              go_wp2_with (refine wb_put H rfl 2 28 _ _ rfl _ 0 rfl _ _ rfl (.agg (gameC G.fr G.d G.S sl')) rfl 59 info28 (HGz.out sl') Hft0.out HOneG.out _ (HSetG.out sl') ?_; clear H; intro w H)
              replace H : Sb [] w0 w [(b4, zC, 35), (b3, ec, 42), (b2, stateC ⟨G, s1.ver, s1.T⟩ sl', 35)] [(sl', G.L)] := H
              refine (must_ok 0 _).mono ?_
              rintro e1 w2 ⟨rfl, rfl⟩
              go_wp2_with (first | (refine wb_whole H rfl 2 35 _ rfl _ rfl (stateC ⟨G, s1.ver, s1.T⟩ sl') rfl _ Tryz.underlying35 rfl 76 info35 (HzE.out sl') ?_) | (refine wb_put H rfl 0 35 _ _ rfl _ 0 rfl _ _ rfl (.agg (stateC ⟨G, s1.ver, s1.T⟩ sl')) rfl 76 info35 (HzE.out sl') (Nat.le_of_ble_eq_true rfl) HOne.out _ (HspE.out sl') ?_; clear H; intro w H))
              refine bodyPost_ret (v := .agg (stateC ⟨G, s1.ver, s1.T⟩ sl')) (res35 rfl rfl (H.holds _ (List.mem_cons_self ..)) (HzE.out sl')) rfl ?_
              rw [Hall.out, Option.bind_some, if_pos Hok.out, HG.out]
              exact ⟨H.below, sl', rfl, H.rows _ (List.mem_cons_self ..), fun q hq => (H.rge _ (List.mem_cons_self ..) q hq).resolve_right (by simp)⟩
end Go.Proofs.YtdopfonebpklkaaGreat.game
