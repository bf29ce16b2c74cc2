/- game.Step over games without ships: the shots fly. field.Aim; the way of a shot. A frame in numbers: ships are pushed and shoot, shots fly. A state's bytes, in numbers: what is put, what is read; one comes back from the other. -/
import Derived.Test.YtdopfonebpklkaaGreatFoldRuns03
import Derived.Test.YtdopfonebpklkaaGreatFoldRuns02
import Derived.Deep.RegionWith
import Derived.BigQuiet
namespace Go.Proofs.YtdopfonebpklkaaGreat.game
open Go.ChangeShapes Go.WideShapes Go.ChangeAt Go.RowKit dice
set_option maxRecDepth 100000

theorem Sb.tail {Hs : List Nat} {W0 w : World} {x : Blk} {l : List Blk} {R : List RowS} (h : Sb Hs W0 w (x :: l) R) : Sb Hs W0 w l R :=
  ⟨h.os, h.tape, h.output, h.size, h.fr, fun p hp => h.holds p (List.mem_cons_of_mem _ hp), fun p hp => h.ge p (List.mem_cons_of_mem _ hp), (List.nodup_cons.1 (by simpa using h.nd)).2, h.rows, h.rge, fun r hr p hp => h.apart r hr p (List.mem_cons_of_mem _ hp), h.rnd⟩
theorem own_snoc {w : World} {v : Value} {out : List Sht} {s : Sht} (h : w.ownsRow 0 93 6 v (out.length + 1) (cellsL out ++ shotL s)) : Own w 0 v (out ++ [s]) := by
  unfold Own
  have e : cellsL (out ++ [s]) = cellsL out ++ shotL s := by simp [cellsL]
  rw [e, List.length_append]
  exact h
theorem info79s : (Tryz.prog.info? 93).map (·.size) = some 6 := by kernel_rfl
theorem hurt_ok {t : Shp} (h : t.ok) (hon : t.on = true) (d : Int) : (hurt t (px d) (py d)).ok := by
  have hx := px_bd d
  have hy := py_bd d
  unfold Shp.ok OkShip hurt at *
  rw [if_pos hon] at *
  dsimp only
  omega
theorem scored_ok {t : Shp} (h : t.ok) (hon : t.on = true) : (scored t).ok := by
  unfold Shp.ok OkShip scored at *
  rw [if_pos hon] at *
  dsimp only
  omega
theorem flyF_keep (d : Int) (S : List Shp) (s : Sht) (h8 : S.length = 8) (hok : ∀ t ∈ S, t.ok) : (flyF d S s).ships.length = 8 ∧ ∀ t ∈ (flyF d S s).ships, t.ok := by
  unfold flyF
  split
  · exact ⟨h8, hok⟩
  · cases hf : firstHit (flown s) S with
    | none => exact ⟨h8, hok⟩
    | some k =>
      dsimp only
      unfold firstHit at hf
      have hp := List.find?_some hf
      have hon : (S.getD k zShp).on = true := by
        unfold passes at hp
        cases h : (S.getD k zShp).on with
        | true => rfl
        | false => rw [h] at hp; simp at hp
      have hkm : (S.getD k zShp).ok := by
        rw [List.getD_eq_getElem?_getD]
        cases h : S[k]? with
        | none => rw [List.getD_eq_getElem?_getD, h] at hon; cases hon
        | some t => exact hok t (List.mem_of_getElem? h)
      have h1 : ∀ t ∈ S.set k (hurt (S.getD k zShp) (px d) (py d)), t.ok := fun t ht => by
        rcases List.mem_or_eq_of_mem_set ht with h | h
        · exact hok t h
        · rw [h]; exact hurt_ok hkm hon d
      unfold hitS
      dsimp only
      split
      · rename_i ho
        refine ⟨by simp [h8], fun t ht => ?_⟩
        rcases List.mem_or_eq_of_mem_set ht with h | h
        · exact h1 t h
        · rw [h]
          refine scored_ok ?_ ho
          rw [List.getD_eq_getElem?_getD]
          cases h' : (S.set k (hurt (S.getD k zShp) (px d) (py d)))[s.owner.toNat]? with
          | none => rw [List.getD_eq_getElem?_getD, h'] at ho; cases ho
          | some t' => exact h1 t' (List.mem_of_getElem? h')
      · exact ⟨by simp [h8], h1⟩
structure FlyA where
  dice : Int
  ships : List Shp
  out : List Sht
def flyAll : Int → List Shp → List Sht → FlyA
  | d, S, [] => ⟨d, S, []⟩
  | d, S, s :: L => ⟨(flyAll (flyF d S s).dice (flyF d S s).ships L).dice, (flyAll (flyF d S s).dice (flyF d S s).ships L).ships, (if (flyF d S s).stays = true then [flown s] else []) ++ (flyAll (flyF d S s).dice (flyF d S s).ships L).out⟩
theorem splice_all (z c : Array Value) (hz : z.size = c.size) : splice z 0 c.toList = c := by
  unfold splice
  rw [List.take_zero, List.nil_append, Nat.zero_add, List.drop_eq_nil_of_le (by simp [hz]), List.append_nil, Array.toArray_toList]
theorem own_form {w : World} {B : Nat} {sl : Value} {L : List Sht} (h : Own w B sl L) : ∃ ad c, sl = .slice ad L.length c := by
  rcases h.2 with ⟨rfl, hn⟩ | ⟨g, cap, cur, rfl, _⟩
  · exact ⟨none, 0, by rw [hn]⟩
  · exact ⟨_, _, rfl⟩
theorem own_zero {w : World} {B : Nat} {sl : Value} {L : List Sht} (h : Own w B sl L) : Own w 0 sl L := by
  refine ⟨h.1, ?_⟩
  rcases h.2 with a | ⟨g, cap, cur, e, _, r⟩
  · exact .inl a
  · exact .inr ⟨g, cap, cur, e, Nat.zero_le _, r⟩
def StepPost (fr d : Int) (S : List Shp) (L : List Sht) (w : World) (e : Ending) (w' : World) : Prop :=
  (∃ sl, e = .returned (.tuple #[.agg (gameC (fr + 1) (flyAll d S L).dice (flyAll d S L).ships sl), .int .i64 0]) ∧ Own w' 0 sl (flyAll d S L).out ∧ ∀ k, sl.ownBlock = some k → w.heap.size ≤ k) ∧ Below w.heap.size w w'
set_option maxHeartbeats 8000000 in
theorem stepShots (fr d : Int) (S : List Shp) (L : List Sht) (ad : Option Addr) (c : Nat) (ins : Array Value) (w0' : World) (hS : S.length = 8) (hok : ∀ t ∈ S, t.ok) (hoff : ∀ t ∈ S, t.on = false) (hL : ∀ s ∈ L, OkShot s) (hn : L.length ≤ 32)
    (h0 : 0 ≤ fr) (h1 : fr < 1048576) (hin : ShotsIn w0' (.slice ad L.length c) L) :
    Calls Tryz.prog 95 #[.agg (gameC fr d S (.slice ad L.length c)), .agg ins] w0' (StepPost fr d S L w0') := by
  have HS := Lib.hid hS
  obtain ⟨sl, hsl⟩ : ∃ sl, Value.slice ad L.length c = sl := ⟨_, rfl⟩
  have HONE := Lib.hid (show (Value.cells (.agg (gameC fr d S (.slice ad L.length c)))).toList.all (·.oneCell') = true by
    have := gc_one (fr := fr) (d := d) (S := S) (sl := .slice ad L.length c) rfl
    simpa [Value.cells] using this)
  have HM := Lib.hid (fun w (hw : ShotsIn w (.slice ad L.length c) L) => mayS_any _ fr d ad c L w (gc_gmS hS rfl hok) hw hL hn h0 (by omega))
  have HI := Lib.hid hin
  have Hsh := Lib.hid (gc_shots (fr := fr) (d := d) (sl := .slice ad L.length c) hS)
  have hq : (fr == 1048576) = false := beq_eq_false_iff_ne.2 (by omega)
  have HO := Lib.hid hok
  have HF := Lib.hid hoff
  have HL := Lib.hid hL
  have Hn := Lib.hid hn
  have Hsl := Lib.hid hsl
  have H := Sb.start w0'
  rw [hsl] at HONE HM HI Hsh ⊢
  clear hS hok hoff hL hn hin hsl
  obtain ⟨w, hw⟩ : ∃ w, w0' = w := ⟨_, rfl⟩
  have HW := Lib.hid hw
  replace H : Sb [] w0' w [] [] := by rw [← hw]; exact H
  rw [show Calls Tryz.prog 95 #[.agg (gameC fr d S sl), .agg ins] w0' = Calls Tryz.prog 95 #[.agg (gameC fr d S sl), .agg ins] w by rw [hw]]
  clear hw
  have HZ : Hid (splice (Value.cells (.agg #[.int .i64 0, .int .u64 0, .bool false, .int .i32 0, .int .i32 0, .int .i32 0, .int .i32 0, .int .i64 0, .int .i64 0, .bool false, .int .i32 0, .int .i32 0, .int .i32 0, .int .i32 0, .int .i64 0, .int .i64 0, .bool false, .int .i32 0, .int .i32 0, .int .i32 0, .int .i32 0, .int .i64 0, .int .i64 0, .bool false, .int .i32 0, .int .i32 0, .int .i32 0, .int .i32 0, .int .i64 0, .int .i64 0, .bool false, .int .i32 0, .int .i32 0, .int .i32 0, .int .i32 0, .int .i64 0, .int .i64 0, .bool false, .int .i32 0, .int .i32 0, .int .i32 0, .int .i32 0, .int .i64 0, .int .i64 0, .bool false, .int .i32 0, .int .i32 0, .int .i32 0, .int .i32 0, .int .i64 0, .int .i64 0, .bool false, .int .i32 0, .int .i32 0, .int .i32 0, .int .i32 0, .int .i64 0, .int .i64 0, .slice none 0 0])) 0 (Value.cells (.agg (gameC fr d S sl))).toList = gameC fr d S sl) := Lib.hid (splice_all _ _ (by rw [show (Value.cells (.agg (gameC fr d S sl))).size = 59 from gc_size HS.out]; rfl))
  go_enter Tryz.func95, Tryz.ntmps95
  go_wp2_with (first | (refine wb_box H rfl 28 _ rfl (gameC fr d S sl) rfl ?_; clear H; intro b2 w H) | (refine wb_box H rfl 40 _ rfl ins rfl ?_; clear H; intro b3 w H) | (refine wb_alloc H rfl 28 rfl _ Tryz.zeroValue28 ?_; clear H; intro b4 w H) | (refine wb_whole H rfl 2 28 _ rfl _ rfl (gameC fr d S sl) rfl _ Tryz.underlying28 rfl 59 info28 (gc_size HS.out) ?_))
  refine (HM.out _ (HI.out.later H.below)).mono ?_; rintro e w' ⟨rfl, hb⟩
  replace H := H.call hb
  clear hb
  go_wp2_with (first | (refine wb_cell H rfl 2 3 _ rfl _ 0 rfl _ _ rfl Tryz.isAgg3 (.int .i64 fr) rfl ?_) | (refine wb_whole H rfl 2 28 _ rfl _ rfl (gameC fr d S sl) rfl _ Tryz.underlying28 rfl 59 info28 (gc_size HS.out) ?_) | (refine wb_alloc H rfl 28 rfl _ Tryz.zeroValue28 ?_; clear H; intro b6 w H) | (refine wb_put H rfl 0 28 _ _ rfl _ 0 rfl _ _ rfl (.agg (gameC fr d S sl)) rfl 59 info28 (gc_size HS.out) (Nat.le_of_ble_eq_true rfl) HONE.out (gameC fr d S sl) HZ.out ?_; clear H; intro w H) | (refine wb_cell H rfl 3 26 _ rfl _ 58 rfl _ _ rfl Tryz.isAgg26 sl Hsh.out ?_))
  refine (clone_any sl L _ (HI.out.later H.below) (by have := Hn.out; omega)).mono ?_; rintro e w1 ⟨⟨sl0, rfl, hown⟩, hb⟩
  obtain ⟨ad0, c0, rfl⟩ := own_form hown
  replace H := H.addRow _ L (own_zero hown) hb (fun k hk => (World.ownsRow.lt hown k hk).1)
  clear hown hb
  go_wp2_with (refine wb_put H rfl 0 26 _ _ rfl _ 58 rfl _ _ rfl (.slice ad0 L.length c0) rfl 1 info26 rfl (by rw [gc_size HS.out]; omega) rfl _ (gc_setShots HS.out _) ?_; clear H; intro w H)
  replace H : Sb [] w0' w [(b6, gameC fr d S (.slice ad0 L.length c0), 28), (b4, _, 28), (b3, ins, 40), (b2, gameC fr d S sl, 28)] [(.slice ad0 L.length c0, L)] := H
  go_loopw [26] (fun i W => ∃ k : Nat, k ≤ 8 ∧ i = .int .i64 k ∧ W = w) (fun i _ => 8 - (intOf i).toNat)
  case atStart => exact ⟨0, Nat.zero_le _, rfl, rfl⟩
  case round =>
    obtain ⟨k, hk, rfl, rfl⟩ := hrel
    by_cases hlt : k < 8
    · have hc : (gameC fr d S (.slice ad0 L.length c0))[2 + k * 7]? = some (.bool false) := by
        have ht : S[k]? = some (S[k]'(by rw [HS.out]; exact hlt)) := List.getElem?_eq_getElem _
        rw [gc_at0 k _ ht, HF.out _ (List.mem_of_getElem? ht)]
      have Hc := Lib.hid hc
      clear hc
      go_wp2_with (refine wb_cell H rfl 0 4 _ rfl _ _ rfl _ _ rfl Tryz.isAgg4 (.bool false) Hc.out ?_)
      exact ⟨⟨k + 1, hlt, rfl, by first | rfl | trivial⟩, by simp only [intOf]; omega⟩
    · obtain rfl : k = 8 := by omega
      have Hs0 := Lib.hid (gc_shots (fr := fr) (d := d) (sl := .slice ad0 L.length c0) HS.out)
      go_wp2_with (first | (refine wb_cell H rfl 0 26 _ rfl _ 58 rfl _ _ rfl Tryz.isAgg26 (.slice ad0 L.length c0) Hs0.out ?_) | (refine wb_put H rfl 0 26 _ _ rfl _ 58 rfl _ _ rfl (.slice none 0 0) rfl 1 info26 rfl (by rw [gc_size HS.out]; omega) rfl _ (gc_setShots HS.out _) ?_; clear H; intro w H))
      replace H := H.addRow (.slice none 0 0) [] (World.ownsRow_nil _ _ _ _) (Below.refl _ _) (fun k hk => by cases hk)
      obtain ⟨Z4, hZ4, H'⟩ : ∃ Z4 : Array Value, Z4.size = 59 ∧ Sb [] w0' w [(b6, gameC fr d S (.slice none 0 0), 28), (b4, Z4, 28), (b3, ins, 40), (b2, gameC fr d S sl, 28)] [(.slice none 0 0, []), (.slice ad0 L.length c0, L)] := ⟨_, rfl, H⟩
      have HZ4 := Lib.hid hZ4
      clear H hZ4
      obtain ⟨i0, hi, hz0, hz1, hz2⟩ := info_shot
      go_loopw [45] (fun i W => ∃ (k : Nat) (dk : Int) (Sk : List Shp) (out : List Sht) (sk : Value), k ≤ L.length ∧ i = .int .i64 k ∧ Hid (flyAll d S L = ⟨(flyAll dk Sk (L.drop k)).dice, (flyAll dk Sk (L.drop k)).ships, out ++ (flyAll dk Sk (L.drop k)).out⟩) ∧ Hid (Sk.length = 8 ∧ (∀ t ∈ Sk, t.ok) ∧ out.length ≤ k) ∧ Hid (Sb [] w0' W [(b6, gameC fr dk Sk sk, 28), (b4, Z4, 28), (b3, ins, 40), (b2, gameC fr d S sl, 28)] [(sk, out), (.slice ad0 L.length c0, L)])) (fun i _ => L.length - (intOf i).toNat)
      case atStart => exact ⟨0, d, S, [], _, Nat.zero_le _, rfl, Lib.hid rfl, Lib.hid ⟨HS.out, HO.out, Nat.zero_le _⟩, Lib.hid H'⟩
      case round =>
        clear H'
        obtain ⟨k, dk, Sk, out, sk, hk, rfl, HE, HK, HB⟩ := hrel
        by_cases hlt : k < L.length
        · obtain ⟨s, hs⟩ : ∃ s, L[k]? = some s := ⟨L[k], List.getElem?_eq_getElem hlt⟩
          have hdr : L.drop k = s :: L.drop (k + 1) := by rw [List.drop_eq_getElem_cons hlt, (List.getElem?_eq_some_iff.1 hs).2]
          have HE2 : Hid (flyAll d S L = ⟨(flyAll (flyF dk Sk s).dice (flyF dk Sk s).ships (L.drop (k + 1))).dice, (flyAll (flyF dk Sk s).dice (flyF dk Sk s).ships (L.drop (k + 1))).ships, (out ++ (if (flyF dk Sk s).stays = true then [flown s] else [])) ++ (flyAll (flyF dk Sk s).dice (flyF dk Sk s).ships (L.drop (k + 1))).out⟩) := Lib.hid (by
            have := HE.out
            rw [hdr] at this
            rw [this]
            simp only [flyAll, List.append_assoc])
          have hsok := HL.out s (List.mem_of_getElem? hs)
          have hn32 : L.length ≤ 32 := Hn.out
          have hkeep := flyF_keep dk Sk s HK.out.1 HK.out.2.1
          have hrow := HB.out.rows _ (List.mem_cons_of_mem _ (List.mem_cons_self ..))
          obtain ⟨A, hA, hcells⟩ : ∃ A, ad0 = some ⟨A, 0, none⟩ ∧ ShotAt wr A (0 + k * 6) s := by
            have hrow0 := hrow
            obtain ⟨_, ⟨e, hn⟩ | ⟨A, cap, cur, e, _, hg, _⟩⟩ := hrow
            · have hn' : L.length = 0 := hn
              omega
            · injection e with e1 e2 e3
              refine ⟨A, e1, shot_at (fun j v hv => ?_) k s hs⟩
              have := World.ownsRow.cells hrow0 (g := A) (by rw [e1]; rfl) j v hv
              have a1 : (⟨A, 0, none⟩ : Addr).add j = ⟨A, 0 + j, none⟩ := by unfold Addr.add; split <;> simp_all
              rw [a1] at this; exact this
          subst hA
          rw [Nat.zero_add] at hcells
          obtain ⟨q0, q1, q2, q3, q4, q5⟩ := hcells
          have H := HB.out
          have Hsok := Lib.hid hsok
          have Hkeep := Lib.hid hkeep
          clear hs hdr hsok hkeep hrow HE HB
          go_wp2_with (first | (refine wb_alloc H rfl 93 rfl _ Tryz.zeroValue93 ?_; clear H; intro p w H) | (refine wb_put H rfl 0 93 _ _ rfl _ 0 rfl _ _ rfl (.agg #[.int .i64 s.owner, .int .i32 s.x, .int .i32 s.y, .int .i32 s.vx, .int .i32 s.vy, .int .i64 s.left]) rfl 6 info79s rfl (Nat.le_of_ble_eq_true rfl) rfl (shotL s).toArray rfl ?_; clear H; intro w H))
          clear q0 q1 q2 q3 q4 q5
          have hne : p ≠ b6 := by
            have := H.nd
            simp at this
            exact this.1.1
          refine (fly_any b6 p fr dk Sk sk s _ HK.out.1 HK.out.2.1 Hsok.out (H.handed p b6 _ _ 93 28 (List.mem_cons_self ..) (List.mem_cons_of_mem _ (List.mem_cons_self ..)) hne)).mono ?_; rintro e w1 ⟨rfl, hF⟩
          replace H := H.sub2 0 1 p b6 _ _ _ _ 93 28 (by omega) rfl rfl hne hF
          replace H : Sb [] w0' w1 [(p, (shotL (flown s)).toArray, 93), (b6, gameC fr (flyF dk Sk s).dice (flyF dk Sk s).ships sk, 28), (b4, Z4, 28), (b3, ins, 40), (b2, gameC fr d S sl, 28)] [(sk, out), (.slice (some ⟨A, 0, none⟩) L.length c0, L)] := H
          have hout := HK.out.2.2
          clear hF hne HK
          obtain ⟨q, hq⟩ : ∃ q, (flyF dk Sk s).stays = q := ⟨_, rfl⟩
          rw [hq] at HE2 ⊢
          clear hq
          generalize (flyF dk Sk s).dice = d1 at *
          generalize (flyF dk Sk s).ships = S1 at *
          cases q
          · go_wp2_with fail
            exact ⟨⟨k + 1, d1, S1, out, sk, hlt, rfl, Lib.hid (by have := HE2.out; simpa using this), Lib.hid ⟨Hkeep.out.1, Hkeep.out.2, by omega⟩, Lib.hid H.tail⟩, by simp only [intOf]; omega⟩
          · have Hrow := H.rows _ (List.mem_cons_self ..)
            obtain ⟨adk, ck, hsk⟩ := own_form Hrow
            dsimp only at hsk Hrow
            subst hsk
            have HN := H.new #[.int .i64 s.owner, .int .i32 (mv s.x s.vx), .int .i32 (mv s.y s.vy), .int .i32 s.vx, .int .i32 s.vy, .int .i64 (s.left - 1)] 93
            have Hrow2 := Lib.hid (HN.rows _ (List.mem_cons_self ..))
            have Hnews : Hid (∀ j u, (shotL (flown s))[j]? = some u → (w1.alloc (.cells #[.int .i64 s.owner, .int .i32 (mv s.x s.vx), .int .i32 (mv s.y s.vy), .int .i32 s.vx, .int .i32 s.vy, .int .i64 (s.left - 1)] 93)).cell? ((⟨w1.heap.size, 0, none⟩ : Addr).add j) = some u) := Lib.hid (fun j u hu => by
              have a1 : (⟨w1.heap.size, 0, none⟩ : Addr).add j = ⟨w1.heap.size, j, none⟩ := by unfold Addr.add; split <;> simp_all
              rw [a1, cell_new]
              show (shotL (flown s)).toArray[j]? = some u
              rw [List.getElem?_toArray]
              exact hu)
            have Hone : Hid (∀ u ∈ shotL (flown s), u.oneCell' = true) := Lib.hid (fun u hu => cellsL_one [flown s] u (by simpa [cellsL] using hu))
            have hmx : out.length + 1 ≤ maxLen := by have := Hn.out; unfold maxLen; omega
            have hbt : (out.length + 1) * 32 ≤ 140737488355328 := by have := Hn.out; omega
            have Hsh1 := Lib.hid (gc_shots (fr := fr) (d := d1) (sl := .slice adk out.length ck) Hkeep.out.1)
            have Hsz1 := Lib.hid (gc_size (fr := fr) (d := d1) (sl := .slice adk out.length ck) Hkeep.out.1)
            have HNh := Lib.hid HN
            clear Hrow HN
            go_wp2_with (first | (refine wb_cell H rfl 1 26 _ rfl _ 58 rfl _ _ rfl Tryz.isAgg26 (.slice adk out.length ck) Hsh1.out ?_) | (refine wb_whole H rfl 0 93 _ rfl _ rfl #[.int .i64 s.owner, .int .i32 (mv s.x s.vx), .int .i32 (mv s.y s.vy), .int .i32 s.vx, .int .i32 s.vy, .int .i64 (s.left - 1)] rfl _ Tryz.underlying93 rfl 6 info79s rfl ?_) | (at_builtin; refine wpList_append_own_at _ rfl _ _ 26 rfl 0 93 i0 (.agg #[.int .i64 0, .int .i32 0, .int .i32 0, .int .i32 0, .int .i32 0, .int .i64 0]) 6 32 Tryz.underlying26 hi hz0 hz1 hz2 rfl (by decide) _ out.length (cellsL out) rfl Hrow2.out ⟨w1.heap.size, 0, none⟩ 1 1 (shotL (flown s)) rfl rfl Hnews.out Hone.out hmx hbt (Nat.zero_le _) ?_; intro v' w9 hown' hgrow hnil' hblk; have hon9 := own_snoc hown'; have H9 := HNh.out.append 0 (.slice adk out.length ck) v' out (out ++ [flown s]) rfl hon9 hgrow hblk; obtain ⟨ad9, c9, hv9⟩ := own_form hon9; rw [show (out ++ [flown s]).length = out.length + 1 by simp] at hv9; subst hv9; clear hown' hgrow hnil' hblk hon9) | (refine wb_put H9 rfl 2 26 _ _ rfl _ 58 rfl _ _ rfl (.slice ad9 (out.length + 1) c9) rfl 1 info26 rfl (by rw [Hsz1.out]; omega) rfl _ (gc_setShots Hkeep.out.1 _) ?_; clear H9; intro w H9))
            replace H9 : Sb [] w0' w [(w1.heap.size, _, 93), (p, _, 93), (b6, gameC fr d1 S1 (.slice ad9 (out.length + 1) c9), 28), (b4, Z4, 28), (b3, ins, 40), (b2, gameC fr d S sl, 28)] [(.slice ad9 (out.length + 1) c9, out ++ [flown s]), (.slice (some ⟨A, 0, none⟩) L.length c0, L)] := H9
            exact ⟨⟨k + 1, d1, S1, out ++ [flown s], _, hlt, rfl, Lib.hid (by have := HE2.out; simpa using this), Lib.hid ⟨Hkeep.out.1, Hkeep.out.2, by simp; omega⟩, Lib.hid H9.tail.tail⟩, by simp only [intOf]; omega⟩
        · obtain rfl : k = L.length := by omega
          have HSk := Lib.hid HK.out.1
          have HB' : Hid (Own wr 0 sk out) := Lib.hid (HB.out.rows _ (List.mem_cons_self ..))
          have H := HB.out
          have hfin : flyAll d S L = ⟨dk, Sk, out⟩ := by
            have := HE.out
            rw [List.drop_length] at this
            simpa [flyAll] using this
          have Hfin := Lib.hid hfin
          clear HE HB hfin
          obtain ⟨adk, ck, hsk⟩ := own_form HB'.out
          subst hsk
          have HZf : Hid (splice Z4 0 (Value.cells (.agg (gameC (fr + 1) dk Sk (.slice adk out.length ck)))).toList = gameC (fr + 1) dk Sk (.slice adk out.length ck)) := Lib.hid (splice_all _ _ (by rw [HZ4.out]; exact (gc_size HSk.out).symm))
          have HONEf := Lib.hid (show (Value.cells (.agg (gameC (fr + 1) dk Sk (.slice adk out.length ck)))).toList.all (·.oneCell') = true by
            have := gc_one (fr := fr + 1) (d := dk) (S := Sk) (sl := .slice adk out.length ck) rfl
            simpa [Value.cells] using this)
          clear HB'
          go_wp2_with (first | (refine wb_cell H rfl 0 3 _ rfl _ 0 rfl _ _ rfl Tryz.isAgg3 (.int .i64 fr) rfl ?_) | (refine wb_put H rfl 0 3 _ _ rfl _ 0 rfl _ _ rfl (.int .i64 (fr + 1)) rfl 1 info3 rfl (by rw [gc_size HSk.out]; omega) rfl _ (gc_setFrame _) ?_; clear H; intro w H) | (refine wb_whole H rfl 0 28 _ rfl _ rfl (gameC (fr + 1) dk Sk (.slice adk out.length ck)) rfl _ Tryz.underlying28 rfl 59 info28 (gc_size HSk.out) ?_) | (refine wb_put H rfl 1 28 _ _ rfl _ 0 rfl _ _ rfl (.agg (gameC (fr + 1) dk Sk (.slice adk out.length ck))) rfl 59 info28 (gc_size HSk.out) (by rw [HZ4.out]; omega) HONEf.out _ HZf.out ?_; clear H; intro w H))
          refine bodyPost_ret (v := .tuple #[.agg (gameC (fr + 1) dk Sk (.slice adk out.length ck)), .int .i64 0]) ?_ rfl ⟨⟨_, by rw [Hfin.out], by rw [Hfin.out]; exact H.rows _ (List.mem_cons_self ..), fun q hq => (H.rge _ (List.mem_cons_self ..) q hq).resolve_right (by simp)⟩, H.below⟩
          exact res2 rfl rfl rfl (H.holds _ (List.mem_cons_of_mem _ (List.mem_cons_self ..))) (gc_size HSk.out)
end Go.Proofs.YtdopfonebpklkaaGreat.game
namespace Go.Proofs.YtdopfonebpklkaaGreat.game
open Go.ChangeShapes Go.WideShapes Go.ChangeAt Go.RowKit dice
set_option maxRecDepth 100000

def sideI (a : Int) : Int := if 0 < a then 393216 else if a < 0 then -393216 else 0
theorem side_any (a : Int) (w : World) : Calls Tryz.prog 154 #[.int .i8 a] w fun e w' => e = .returned (.int .i32 (sideI a)) ∧ w' = w := by
  by_cases h1 : 0 < a
  · have e : sideI a = 393216 := by unfold sideI; rw [if_pos h1]
    have E := Lib.hid e
    clear e
    go_enter Tryz.func154, Tryz.ntmps154
    go_wp2_with fail
    go_ret
    exact ⟨ret_int E.out.symm, rfl⟩
  · by_cases h2 : a < 0
    · have e : sideI a = -393216 := by unfold sideI; rw [if_neg h1, if_pos h2]
      have E := Lib.hid e
      clear e
      go_enter Tryz.func154, Tryz.ntmps154
      go_wp2_with fail
      go_ret
      exact ⟨ret_int E.out.symm, rfl⟩
    · have e : sideI a = 0 := by unfold sideI; rw [if_neg h1, if_neg h2]
      have E := Lib.hid e
      clear e
      go_enter Tryz.func154, Tryz.ntmps154
      go_wp2_with fail
      go_ret
      exact ⟨ret_int E.out.symm, rfl⟩
theorem bdN {B : Nat} {a w : World} (h : Below B a w) (n : Nat) : Below B a (w.drewN n) := ⟨h.os, h.tape, h.output, h.size, h.block⟩
theorem aim_any (x y b : Int) (w : World) (h : x ≠ 0 ∨ y ≠ 0) :
    Calls Tryz.prog 144 #[.agg #[.int .i8 x, .int .i8 y, .int .u8 b]] w fun e w' => e = .returned (.tuple #[.int .i32 (sideI x), .int .i32 (sideI y)]) ∧ Below w.heap.size w w' := by
  have HX := Lib.hid (side_any x)
  have HY := Lib.hid (side_any y)
  have hs : ((sideI x == 0) = false) ∨ ((sideI x == 0) = true ∧ (sideI y == 0) = false) := by
    unfold sideI
    by_cases hx : x = 0
    · rcases h with h | h
      · exact absurd hx h
      · right
        subst hx
        refine ⟨rfl, ?_⟩
        by_cases hy : 0 < y
        · rw [if_pos hy]; rfl
        · rw [if_neg hy, if_pos (by omega)]; rfl
    · left
      by_cases hx1 : 0 < x
      · rw [if_pos hx1]; rfl
      · rw [if_neg hx1, if_pos (by omega)]; rfl
  clear h
  by_cases hxy : x = y
  · subst hxy
    generalize sideI x = sx at *
    have h0 : (sx == 0) = false := by
      rcases hs with h | ⟨h, h'⟩
      · exact h
      · exact h'
    clear hs
    go_enter Tryz.func144, Tryz.ntmps144
    go_wp2_with fail
    go_quiet ((go_at_call_of 154 (Value.int .i8 x); exact Calls.quiet_of_same (HX.out _)))
    go_wp2_with fail
    go_ret2
    exact ⟨rfl, by repeat (first | exact Below.refl _ _ | apply Below.drew | (refine bdN ?_ _) | (refine Below.alloc ?_ (by simp) _))⟩
  · have hxy' : y ≠ x := fun e => hxy e.symm
    generalize sideI x = sx at *
    generalize sideI y = sy at *
    rcases hs with h0 | ⟨h0, h1⟩
    all_goals
      go_enter Tryz.func144, Tryz.ntmps144
      go_wp2_with fail
      go_quiet (first | ((go_at_call_of 154 (Value.int .i8 x); exact Calls.quiet_of_same (HX.out _))) | ((go_at_call_of 154 (Value.int .i8 y); exact Calls.quiet_of_same (HY.out _))))
      go_wp2_with fail
      go_ret2
      exact ⟨rfl, by repeat (first | exact Below.refl _ _ | apply Below.drew | (refine bdN ?_ _) | (refine Below.alloc ?_ (by simp) _))⟩
end Go.Proofs.YtdopfonebpklkaaGreat.game
namespace Go.Proofs.YtdopfonebpklkaaGreat.game
open Go.ChangeShapes Go.WideShapes Go.ChangeAt Go.RowKit dice

structure Inp where
  x : Int
  y : Int
  b : Int
def inpL (i : Inp) : List Value := [.int .i8 i.x, .int .i8 i.y, .int .u8 i.b]
structure Inp.ok (i : Inp) : Prop where
  x0 : -128 ≤ i.x
  x1 : i.x ≤ 127
  y0 : -128 ≤ i.y
  y1 : i.y ≤ 127
  b0 : 0 ≤ i.b
  b1 : i.b ≤ 255
def zInp : Inp := ⟨0, 0, 0⟩
theorem zInp_ok : zInp.ok := ⟨by decide, by decide, by decide, by decide, by decide, by decide⟩
def tameI (a : Int) : Int := max a (-127)
def pushT (t : Shp) (i : Inp) : Shp :=
  ⟨t.on, mv t.x (pushI t.vx (tameI i.x)), mv t.y (pushI t.vy (tameI i.y)), pushI t.vx (tameI i.x), pushI t.vy (tameI i.y), t.cool, t.score⟩
def aimX (x y : Int) : Int := if x = 0 ∧ y = 0 then 393216 else sideI x
def sailShot (k : Nat) (t : Shp) (i : Inp) : Sht := ⟨k, t.x, t.y, aimX (tameI i.x) (tameI i.y), sideI (tameI i.y), 24⟩
structure SailR where
  t : Shp
  out : List Sht
def shoots (t : Shp) (i : Inp) (out : List Sht) : Bool := !decide (0 < t.cool) && (i.b % 2 == 1) && decide (out.length < 32)
def sailF (k : Nat) (t : Shp) (i : Inp) (out : List Sht) : SailR :=
  if 0 < t.cool then ⟨{ pushT t i with cool := t.cool - 1 }, out⟩
  else if shoots t i out = true then ⟨{ pushT t i with cool := 10 }, out ++ [sailShot k (pushT t i) i]⟩
  else ⟨pushT t i, out⟩
structure SailA where
  ships : List Shp
  out : List Sht
def hdI : List Inp → Inp
  | [] => zInp
  | i :: _ => i
def sailL : Nat → List Shp → List Inp → List Sht → SailA
  | _, [], _, out => ⟨[], out⟩
  | k, t :: S, I, out =>
    let r : SailR := if t.on = true then sailF k t (hdI I) out else ⟨t, out⟩
    ⟨r.t :: (sailL (k + 1) S I.tail r.out).ships, (sailL (k + 1) S I.tail r.out).out⟩
/-- A game in numbers. -/
structure Gme where
  fr : Int
  d : Int
  S : List Shp
  L : List Sht
structure Gme.ok (g : Gme) : Prop where
  f0 : 0 ≤ g.fr
  f1 : g.fr ≤ 1048576
  s8 : g.S.length = 8
  ships : ∀ t ∈ g.S, t.ok
  shots : ∀ s ∈ g.L, OkShot s
  most : g.L.length ≤ 32
def stepG (g : Gme) (I : List Inp) : Gme :=
  let q := sailL 0 g.S I g.L
  let f := flyAll g.d q.ships q.out
  ⟨g.fr + 1, f.dice, f.ships, f.out⟩
theorem sideI_bd (a : Int) : -393216 ≤ sideI a ∧ sideI a ≤ 393216 := by unfold sideI; split <;> (try split) <;> omega
theorem aimX_bd (a b : Int) : -393216 ≤ aimX a b ∧ aimX a b ≤ 393216 := by
  unfold aimX
  split
  · omega
  · exact sideI_bd a
theorem pushT_ok {t : Shp} (i : Inp) (h : t.ok) (hon : t.on = true) : (pushT t i).ok := by
  have h1 := pushI_bd t.vx (tameI i.x)
  have h2 := pushI_bd t.vy (tameI i.y)
  have h3 := mv_bd t.x (pushI t.vx (tameI i.x))
  have h4 := mv_bd t.y (pushI t.vy (tameI i.y))
  unfold Shp.ok OkShip pushT at *
  rw [if_pos hon] at *
  dsimp only
  omega
theorem sailF_ok {k : Nat} {t : Shp} {i : Inp} {out : List Sht} (hk : k < 8) (h : t.ok) (hon : t.on = true) (ho : ∀ s ∈ out, OkShot s) (hm : out.length ≤ 32) :
    (sailF k t i out).t.ok ∧ (sailF k t i out).t.on = true ∧ (∀ s ∈ (sailF k t i out).out, OkShot s) ∧ (sailF k t i out).out.length ≤ 32 := by
  have hp := pushT_ok i h hon
  have hc : 0 ≤ t.cool ∧ t.cool ≤ 10 := by
    unfold Shp.ok OkShip at h
    rw [if_pos hon] at h
    omega
  have hpt : (pushT t i).on = true := hon
  unfold sailF
  split
  · rename_i h0
    refine ⟨?_, hon, ho, hm⟩
    unfold Shp.ok OkShip at *
    rw [if_pos hpt] at hp ⊢
    dsimp only
    omega
  · split
    · rename_i h0 h1
      have hlt : out.length < 32 := by
        unfold shoots at h1
        simp at h1
        exact h1.2
      refine ⟨?_, hon, fun s hs => ?_, by simp; omega⟩
      · unfold Shp.ok OkShip at *
        rw [if_pos hpt] at hp ⊢
        dsimp only
        omega
      · rcases List.mem_append.1 hs with hs | hs
        · exact ho s hs
        · rw [List.mem_singleton] at hs
          subst hs
          have a1 := aimX_bd (tameI i.x) (tameI i.y)
          have a2 := sideI_bd (tameI i.y)
          unfold Shp.ok OkShip at hp
          rw [if_pos hpt] at hp
          exact ⟨by unfold sailShot; dsimp only; omega, by unfold sailShot; dsimp only; omega, hp.1, hp.2.1, hp.2.2.1, hp.2.2.2.1, a1.1, a1.2, a2.1, a2.2, by unfold sailShot; dsimp only; omega, by unfold sailShot; dsimp only; omega⟩
    · exact ⟨hp, hon, ho, hm⟩
theorem sailL_ok : ∀ (S : List Shp) (k : Nat) (I : List Inp) (out : List Sht), k + S.length ≤ 8 → (∀ t ∈ S, t.ok) → (∀ s ∈ out, OkShot s) → out.length ≤ 32 →
    (sailL k S I out).ships.length = S.length ∧ (∀ t ∈ (sailL k S I out).ships, t.ok) ∧ (∀ s ∈ (sailL k S I out).out, OkShot s) ∧ (sailL k S I out).out.length ≤ 32
  | [], _, _, _, _, h, ho, hm => ⟨rfl, h, ho, hm⟩
  | t :: S, k, I, out, hk, h, ho, hm => by
    rw [List.length_cons] at hk
    have ht := h t (List.mem_cons_self ..)
    have hS := fun x hx => h x (List.mem_cons_of_mem t hx)
    unfold sailL
    by_cases hon : t.on = true
    · obtain ⟨a1, _, a3, a4⟩ := sailF_ok (k := k) (i := hdI I) (by omega) ht hon ho hm
      obtain ⟨b1, b2, b3, b4⟩ := sailL_ok S (k + 1) I.tail (sailF k t (hdI I) out).out (by omega) hS a3 a4
      simp only [if_pos hon]
      refine ⟨by rw [List.length_cons, b1, List.length_cons], fun x hx => ?_, b3, b4⟩
      rcases List.mem_cons.1 hx with rfl | hx
      · exact a1
      · exact b2 x hx
    · obtain ⟨b1, b2, b3, b4⟩ := sailL_ok S (k + 1) I.tail out (by omega) hS ho hm
      simp only [if_neg hon]
      refine ⟨by rw [List.length_cons, b1, List.length_cons], fun x hx => ?_, b3, b4⟩
      rcases List.mem_cons.1 hx with rfl | hx
      · exact ht
      · exact b2 x hx
theorem flown_ok {s : Sht} (h : OkShot s) (hl : (flown s).left ≠ 0) : OkShot (flown s) := by
  have h1 := mv_bd s.x s.vx
  have h2 := mv_bd s.y s.vy
  have h3 := h.l0
  have h4 := h.l1
  unfold flown at *
  dsimp only at hl
  exact ⟨h.o0, h.o1, h1.1, h1.2, h2.1, h2.2, h.u0, h.u1, h.v0, h.v1, by dsimp only; omega, by dsimp only; omega⟩
theorem flyAll_ok : ∀ (L : List Sht) (d : Int) (S : List Shp), S.length = 8 → (∀ t ∈ S, t.ok) → (∀ s ∈ L, OkShot s) →
    (flyAll d S L).ships.length = 8 ∧ (∀ t ∈ (flyAll d S L).ships, t.ok) ∧ (∀ s ∈ (flyAll d S L).out, OkShot s) ∧ (flyAll d S L).out.length ≤ L.length
  | [], _, _, h8, h, _ => ⟨h8, h, (fun _ hs => absurd hs (by simp [flyAll])), Nat.le_refl _⟩
  | s :: L, d, S, h8, h, hL => by
    obtain ⟨a1, a2⟩ := flyF_keep d S s h8 h
    obtain ⟨b1, b2, b3, b4⟩ := flyAll_ok L (flyF d S s).dice (flyF d S s).ships a1 a2 (fun x hx => hL x (List.mem_cons_of_mem _ hx))
    unfold flyAll
    by_cases hst : (flyF d S s).stays = true
    · have hl : (flown s).left ≠ 0 := fun e => by
        unfold flyF at hst
        rw [if_pos e] at hst
        cases hst
      simp only [if_pos hst]
      refine ⟨b1, b2, fun x hx => ?_, by simp; omega⟩
      rcases List.mem_append.1 hx with hx | hx
      · rw [List.mem_singleton] at hx
        subst hx
        exact flown_ok (hL s (List.mem_cons_self ..)) hl
      · exact b3 x hx
    · simp only [if_neg hst]
      exact ⟨b1, b2, fun x hx => b3 x (by simpa using hx), by simp; omega⟩
theorem stepG_ok {g : Gme} (I : List Inp) (h : g.ok) (hf : g.fr < 1048576) : (stepG g I).ok := by
  obtain ⟨a1, a2, a3, a4⟩ := sailL_ok g.S 0 I g.L (by rw [h.s8]; omega) h.ships h.shots h.most
  obtain ⟨b1, b2, b3, b4⟩ := flyAll_ok (sailL 0 g.S I g.L).out g.d (sailL 0 g.S I g.L).ships (by rw [a1, h.s8]) a2 a3
  have := h.f0
  exact ⟨by unfold stepG; dsimp only; omega, by unfold stepG; dsimp only; omega, b1, b2, b3, by unfold stepG; dsimp only; omega⟩
end Go.Proofs.YtdopfonebpklkaaGreat.game
namespace Go.Proofs.YtdopfonebpklkaaGreat.game
open Go.ChangeShapes Go.WideShapes Go.ChangeAt Go.RowKit dice

structure Seat where
  peer : Int
  gen : Int
  deriving DecidableEq
structure Ste where
  g : Gme
  ver : Int
  T : List Seat
def numB : Nat → Nat → List UInt8
  | 0, _ => []
  | k + 1, n => UInt8.ofNat n :: numB k (n / 256)
def valB : List UInt8 → Nat
  | [] => 0
  | c :: l => c.toNat + 256 * valB l
theorem length_numB : ∀ k n, (numB k n).length = k
  | 0, _ => rfl
  | k + 1, n => by rw [numB, List.length_cons, length_numB k]
theorem valB_numB : ∀ k n, n < 256 ^ k → valB (numB k n) = n
  | 0, n, h => by simp at h; subst h; rfl
  | k + 1, n, h => by
    have h2 : n / 256 < 256 ^ k := by
      rw [Nat.pow_succ] at h
      omega
    rw [numB, valB, valB_numB k _ h2, UInt8.toNat_ofNat']
    omega
theorem valB_lt : ∀ l : List UInt8, valB l < 256 ^ l.length
  | [] => by simp [valB]
  | c :: l => by
    have h1 := valB_lt l
    have h2 := c.toNat_lt
    rw [valB, List.length_cons, Nat.pow_succ]
    omega
theorem numB_valB : ∀ l : List UInt8, numB l.length (valB l) = l
  | [] => rfl
  | c :: l => by
    have h2 := c.toNat_lt
    have h3 : (c.toNat + 256 * valB l) / 256 = valB l := by omega
    have h4 : UInt8.ofNat (c.toNat + 256 * valB l) = c := by
      apply UInt8.toNat_inj.1
      rw [UInt8.toNat_ofNat']
      omega
    rw [List.length_cons, valB, numB, h3, h4, numB_valB l]
def rd (k : Nat) (b : List UInt8) : Option (Nat × List UInt8) := if b.length < k then none else some (valB (b.take k), b.drop k)
theorem rd_numB (k n : Nat) (r : List UInt8) (h : n < 256 ^ k) : rd k (numB k n ++ r) = some (n, r) := by
  unfold rd
  have hl := length_numB k n
  rw [if_neg (by rw [List.length_append, hl]; omega)]
  rw [List.take_append_of_le_length (by omega), List.take_of_length_le (by omega), valB_numB k n h]
  rw [List.drop_append_of_le_length (by omega), List.drop_of_length_le (by omega)]
  rfl
theorem rd_back {k : Nat} {b r : List UInt8} {v : Nat} (h : rd k b = some (v, r)) : b = numB k v ++ r ∧ v < 256 ^ k := by
  unfold rd at h
  split at h
  · simp at h
  · rename_i hl
    simp at h
    obtain ⟨rfl, rfl⟩ := h
    have hk : (b.take k).length = k := by rw [List.length_take]; omega
    have h1 := numB_valB (b.take k)
    have h2 := valB_lt (b.take k)
    rw [hk] at h1 h2
    exact ⟨by rw [h1, List.take_append_drop], h2⟩
def lo32 (a : Int) : Nat := (a % 4294967296).toNat
def sg32 (v : Nat) : Int := if v < 2147483648 then v else (v : Int) - 4294967296
theorem lo32_lt (a : Int) : lo32 a < 256 ^ 4 := by unfold lo32; omega
theorem sg32_lo32 (a : Int) (h0 : -2147483648 ≤ a) (h1 : a ≤ 2147483647) : sg32 (lo32 a) = a := by
  unfold sg32 lo32
  split <;> omega
theorem lo32_sg32 (v : Nat) (h : v < 256 ^ 4) : lo32 (sg32 v) = v := by
  unfold sg32 lo32
  split <;> omega
def shipB (t : Shp) : List UInt8 :=
  if t.on = true then numB 1 1 ++ (numB 4 (lo32 t.x) ++ (numB 4 (lo32 t.y) ++ (numB 4 (lo32 t.vx) ++ (numB 4 (lo32 t.vy) ++ (numB 1 t.cool.toNat ++ numB 4 t.score.toNat))))) else numB 1 0
def shotB (s : Sht) : List UInt8 := numB 1 s.owner.toNat ++ (numB 4 (lo32 s.x) ++ (numB 4 (lo32 s.y) ++ (numB 4 (lo32 s.vx) ++ (numB 4 (lo32 s.vy) ++ numB 1 s.left.toNat))))
def seatB (q : Seat) : List UInt8 := numB 1 (q.peer + 1).toNat ++ numB 2 q.gen.toNat
def img (s : Ste) : List UInt8 :=
  numB 4 s.g.fr.toNat ++ (numB 8 s.g.d.toNat ++ (s.g.S.flatMap shipB ++ (numB 1 s.g.L.length ++ (s.g.L.flatMap shotB ++ (numB 4 s.ver.toNat ++ s.T.flatMap seatB)))))
/-- A ship that is read; 'st': the first byte is 0 or 1. -/
def rdShip (st : Bool) (b : List UInt8) : Option (Shp × List UInt8) := do
  let (f, b) ← rd 1 b
  if f = 1 then
    let (x, b) ← rd 4 b
    let (y, b) ← rd 4 b
    let (u, b) ← rd 4 b
    let (v, b) ← rd 4 b
    let (c, b) ← rd 1 b
    let (s, b) ← rd 4 b
    some (⟨true, sg32 x, sg32 y, sg32 u, sg32 v, c, s⟩, b)
  else if st = true ∧ 1 < f then none
  else some (zShp, b)
def rdShot (b : List UInt8) : Option (Sht × List UInt8) := do
  let (o, b) ← rd 1 b
  let (x, b) ← rd 4 b
  let (y, b) ← rd 4 b
  let (u, b) ← rd 4 b
  let (v, b) ← rd 4 b
  let (l, b) ← rd 1 b
  some (⟨o, sg32 x, sg32 y, sg32 u, sg32 v, l⟩, b)
def rdSeat (b : List UInt8) : Option (Seat × List UInt8) := do
  let (p, b) ← rd 1 b
  let (g, b) ← rd 2 b
  some (⟨(p : Int) - 1, g⟩, b)
/-- So many, one behind the other; what goes on behind them. -/
def rdMany {α β : Type} (one : List UInt8 → Option (α × List UInt8)) (k : List α → List UInt8 → Option β) : Nat → List α → List UInt8 → Option β
  | 0, done, b => k done b
  | n + 1, done, b => match one b with
    | none => none
    | some (t, b) => rdMany one k n (done ++ [t]) b
def rdEnd (g : Gme) (b : List UInt8) : Option (Ste × List UInt8) := do
  let (v, b) ← rd 4 b
  rdMany rdSeat (fun T b => some (⟨g, v, T⟩, b)) 8 [] b
def rdMid (fr d : Nat) (S : List Shp) (b : List UInt8) : Option (Ste × List UInt8) := do
  let (n, b) ← rd 1 b
  rdMany rdShot (fun L b => rdEnd ⟨fr, d, S, L⟩ b) n [] b
def parse (st : Bool) (b : List UInt8) : Option (Ste × List UInt8) := do
  let (fr, b) ← rd 4 b
  let (d, b) ← rd 8 b
  rdMany (rdShip st) (rdMid fr d) 8 [] b
/-- A ship's bytes come back. -/
structure Shp.fits (t : Shp) : Prop where
  x0 : -2147483648 ≤ t.x
  x1 : t.x ≤ 2147483647
  y0 : -2147483648 ≤ t.y
  y1 : t.y ≤ 2147483647
  u0 : -2147483648 ≤ t.vx
  u1 : t.vx ≤ 2147483647
  v0 : -2147483648 ≤ t.vy
  v1 : t.vy ≤ 2147483647
  c0 : 0 ≤ t.cool
  c1 : t.cool < 256
  s0 : 0 ≤ t.score
  s1 : t.score < 4294967296
  off : t.on = false → t = zShp
structure Sht.fits (t : Sht) : Prop where
  x0 : -2147483648 ≤ t.x
  x1 : t.x ≤ 2147483647
  y0 : -2147483648 ≤ t.y
  y1 : t.y ≤ 2147483647
  u0 : -2147483648 ≤ t.vx
  u1 : t.vx ≤ 2147483647
  v0 : -2147483648 ≤ t.vy
  v1 : t.vy ≤ 2147483647
  c0 : 0 ≤ t.owner
  c1 : t.owner < 256
  s0 : 0 ≤ t.left
  s1 : t.left < 256
structure Seat.fits (t : Seat) : Prop where
  p0 : -1 ≤ t.peer
  p1 : t.peer < 255
  g0 : 0 ≤ t.gen
  g1 : t.gen < 65536
structure Ste.fits (s : Ste) : Prop where
  f0 : 0 ≤ s.g.fr
  f1 : s.g.fr < 4294967296
  d0 : 0 ≤ s.g.d
  d1 : s.g.d < 18446744073709551616
  s8 : s.g.S.length = 8
  ships : ∀ t ∈ s.g.S, t.fits
  few : s.g.L.length < 256
  shots : ∀ t ∈ s.g.L, t.fits
  v0 : 0 ≤ s.ver
  v1 : s.ver < 4294967296
  t8 : s.T.length = 8
  seats : ∀ t ∈ s.T, t.fits
theorem rdShip_put {st : Bool} {t : Shp} (r : List UInt8) (h : t.fits) : rdShip st (shipB t ++ r) = some (t, r) := by
  obtain ⟨x0, x1, y0, y1, u0, u1, v0, v1, c0, c1, s0, s1, off⟩ := h
  obtain ⟨o, x, y, u, v, c, s⟩ := t
  dsimp only at *
  cases o with
  | true =>
    simp only [shipB, rdShip, if_true, List.append_assoc]
    rw [rd_numB 1 1 _ (by decide)]
    simp only [Option.bind_eq_bind, Option.bind_some, if_true]
    rw [rd_numB 4 _ _ (lo32_lt x)]; simp only [Option.bind_some]
    rw [rd_numB 4 _ _ (lo32_lt y)]; simp only [Option.bind_some]
    rw [rd_numB 4 _ _ (lo32_lt u)]; simp only [Option.bind_some]
    rw [rd_numB 4 _ _ (lo32_lt v)]; simp only [Option.bind_some]
    rw [rd_numB 1 _ _ (by omega)]; simp only [Option.bind_some]
    rw [rd_numB 4 _ _ (by omega)]; simp only [Option.bind_some]
    rw [sg32_lo32 x x0 x1, sg32_lo32 y y0 y1, sg32_lo32 u u0 u1, sg32_lo32 v v0 v1, Int.toNat_of_nonneg c0, Int.toNat_of_nonneg s0]
  | false =>
    simp only [shipB, rdShip, Bool.false_eq_true, if_false]
    rw [rd_numB 1 0 _ (by decide)]
    simp [off rfl]
theorem rdShot_put {t : Sht} (r : List UInt8) (h : t.fits) : rdShot (shotB t ++ r) = some (t, r) := by
  obtain ⟨x0, x1, y0, y1, u0, u1, v0, v1, c0, c1, s0, s1⟩ := h
  obtain ⟨o, x, y, u, v, s⟩ := t
  dsimp only at *
  simp only [shotB, rdShot, List.append_assoc]
  rw [rd_numB 1 _ _ (by omega)]; simp only [Option.bind_eq_bind, Option.bind_some]
  rw [rd_numB 4 _ _ (lo32_lt x)]; simp only [Option.bind_some]
  rw [rd_numB 4 _ _ (lo32_lt y)]; simp only [Option.bind_some]
  rw [rd_numB 4 _ _ (lo32_lt u)]; simp only [Option.bind_some]
  rw [rd_numB 4 _ _ (lo32_lt v)]; simp only [Option.bind_some]
  rw [rd_numB 1 _ _ (by omega)]; simp only [Option.bind_some]
  rw [sg32_lo32 x x0 x1, sg32_lo32 y y0 y1, sg32_lo32 u u0 u1, sg32_lo32 v v0 v1, Int.toNat_of_nonneg c0, Int.toNat_of_nonneg s0]
theorem rdSeat_put {t : Seat} (r : List UInt8) (h : t.fits) : rdSeat (seatB t ++ r) = some (t, r) := by
  obtain ⟨p0, p1, g0, g1⟩ := h
  obtain ⟨p, g⟩ := t
  dsimp only at *
  simp only [seatB, rdSeat, List.append_assoc]
  rw [rd_numB 1 _ _ (by omega)]; simp only [Option.bind_eq_bind, Option.bind_some]
  rw [rd_numB 2 _ _ (by omega)]; simp only [Option.bind_some]
  rw [Int.toNat_of_nonneg (show 0 ≤ p + 1 by omega), Int.toNat_of_nonneg g0, show p + 1 - 1 = p by omega]
theorem rdMany_put {α β : Type} {one : List UInt8 → Option (α × List UInt8)} {put : α → List UInt8} {k : List α → List UInt8 → Option β} (r : List UInt8) :
    ∀ (l done : List α), (∀ t ∈ l, ∀ r, one (put t ++ r) = some (t, r)) → rdMany one k l.length done (l.flatMap put ++ r) = k (done ++ l) r
  | [], done, _ => by simp [rdMany]
  | t :: l, done, h => by
    rw [List.length_cons, rdMany, List.flatMap_cons, List.append_assoc, h t (by simp)]
    dsimp only
    rw [rdMany_put r l (done ++ [t]) (fun t ht => h t (by simp [ht])), List.append_assoc]
    rfl
theorem parse_put (st : Bool) (s : Ste) (r : List UInt8) (h : s.fits) : parse st (img s ++ r) = some (s, r) := by
  obtain ⟨f0, f1, d0, d1, s8, ships, few, shots, v0, v1, t8, seats⟩ := h
  obtain ⟨⟨fr, d, S, L⟩, ver, T⟩ := s
  dsimp only at *
  simp only [img, parse, List.append_assoc]
  rw [rd_numB 4 _ _ (by omega)]; simp only [Option.bind_eq_bind, Option.bind_some]
  rw [rd_numB 8 _ _ (by omega)]; simp only [Option.bind_some]
  rw [← s8, rdMany_put _ S [] (fun t ht r => rdShip_put r (ships t ht)), List.nil_append]
  unfold rdMid
  rw [rd_numB 1 _ _ (by omega)]; simp only [Option.bind_eq_bind, Option.bind_some]
  rw [rdMany_put _ L [] (fun t ht r => rdShot_put r (shots t ht)), List.nil_append]
  unfold rdEnd
  rw [rd_numB 4 _ _ (by omega)]; simp only [Option.bind_eq_bind, Option.bind_some]
  rw [← t8, rdMany_put _ T [] (fun t ht r => rdSeat_put r (seats t ht)), List.nil_append]
  rw [Int.toNat_of_nonneg f0, Int.toNat_of_nonneg d0, Int.toNat_of_nonneg v0]
/-- An image that stands at the head of another one is that one. -/
theorem img_head {s u : Ste} {r : List UInt8} (hs : s.fits) (hu : u.fits) (h : img s = img u ++ r) : s = u ∧ r = [] := by
  have h1 := parse_put false s [] hs
  have h2 := parse_put false u r hu
  rw [List.append_nil, h, h2] at h1
  injection h1 with h1
  injection h1 with h1 h3
  exact ⟨h1.symm, h3⟩
end Go.Proofs.YtdopfonebpklkaaGreat.game
