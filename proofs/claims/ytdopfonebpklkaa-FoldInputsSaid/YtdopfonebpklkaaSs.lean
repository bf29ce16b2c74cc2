/- game.Step over games without ships: the shots fly. -/
import Derived.Test.YtdopfonebpklkaaFl
import Derived.Test.YtdopfonebpklkaaMc
import Derived.Test.YtdopfonebpklkaaSt
namespace Go.Proofs.Ytdopfonebpklkaa.game
open Go.ChangeShapes Go.WideShapes Go.ChangeAt Go.RowKit dice
set_option maxRecDepth 100000

theorem Sb.tail {Hs : List Nat} {W0 w : World} {x : Blk} {l : List Blk} {R : List RowS} (h : Sb Hs W0 w (x :: l) R) : Sb Hs W0 w l R :=
  ⟨h.os, h.tape, h.output, h.size, h.fr, fun p hp => h.holds p (List.mem_cons_of_mem _ hp), fun p hp => h.ge p (List.mem_cons_of_mem _ hp), (List.nodup_cons.1 (by simpa using h.nd)).2, h.rows, h.rge, fun r hr p hp => h.apart r hr p (List.mem_cons_of_mem _ hp), h.rnd⟩
theorem own_snoc {w : World} {v : Value} {out : List Sht} {s : Sht} (h : w.ownsRow 0 75 6 v (out.length + 1) (cellsL out ++ shotL s)) : Own w 0 v (out ++ [s]) := by
  unfold Own
  have e : cellsL (out ++ [s]) = cellsL out ++ shotL s := by simp [cellsL]
  rw [e, List.length_append]
  exact h
theorem info79s : (Try.prog.info? 75).map (·.size) = some 6 := by kernel_rfl
theorem hurt_ok {t : Shp} (h : t.ok) (hon : t.on = true) (d : Int) : (hurt t (px d) (py d)).ok := by
  have hx := px_bd d
  have hy := py_bd d
  unfold Shp.ok OkShip hurt at *
  rw [if_pos hon] at *
  dsimp only
  omega
theorem scored_ok {t : Shp} (h : t.ok) (hon : t.on = true) : (scored t).ok := by
  unfold Shp.ok OkShip scored at *
  rw [if_pos hon] at *
  dsimp only
  omega
theorem flyF_keep (d : Int) (S : List Shp) (s : Sht) (h8 : S.length = 8) (hok : ∀ t ∈ S, t.ok) : (flyF d S s).ships.length = 8 ∧ ∀ t ∈ (flyF d S s).ships, t.ok := by
  unfold flyF
  split
  · exact ⟨h8, hok⟩
  · cases hf : firstHit (flown s) S with
    | none => exact ⟨h8, hok⟩
    | some k =>
      dsimp only
      unfold firstHit at hf
      have hp := List.find?_some hf
      have hon : (S.getD k zShp).on = true := by
        unfold passes at hp
        cases h : (S.getD k zShp).on with
        | true => rfl
        | false => rw [h] at hp; simp at hp
      have hkm : (S.getD k zShp).ok := by
        rw [List.getD_eq_getElem?_getD]
        cases h : S[k]? with
        | none => rw [List.getD_eq_getElem?_getD, h] at hon; cases hon
        | some t => exact hok t (List.mem_of_getElem? h)
      have h1 : ∀ t ∈ S.set k (hurt (S.getD k zShp) (px d) (py d)), t.ok := fun t ht => by
        rcases List.mem_or_eq_of_mem_set ht with h | h
        · exact hok t h
        · rw [h]; exact hurt_ok hkm hon d
      unfold hitS
      dsimp only
      split
      · rename_i ho
        refine ⟨by simp [h8], fun t ht => ?_⟩
        rcases List.mem_or_eq_of_mem_set ht with h | h
        · exact h1 t h
        · rw [h]
          refine scored_ok ?_ ho
          rw [List.getD_eq_getElem?_getD]
          cases h' : (S.set k (hurt (S.getD k zShp) (px d) (py d)))[s.owner.toNat]? with
          | none => rw [List.getD_eq_getElem?_getD, h'] at ho; cases ho
          | some t' => exact h1 t' (List.mem_of_getElem? h')
      · exact ⟨by simp [h8], h1⟩
structure FlyA where
  dice : Int
  ships : List Shp
  out : List Sht
def flyAll : Int → List Shp → List Sht → FlyA
  | d, S, [] => ⟨d, S, []⟩
  | d, S, s :: L => ⟨(flyAll (flyF d S s).dice (flyF d S s).ships L).dice, (flyAll (flyF d S s).dice (flyF d S s).ships L).ships, (if (flyF d S s).stays = true then [flown s] else []) ++ (flyAll (flyF d S s).dice (flyF d S s).ships L).out⟩
theorem splice_all (z c : Array Value) (hz : z.size = c.size) : splice z 0 c.toList = c := by
  unfold splice
  rw [List.take_zero, List.nil_append, Nat.zero_add, List.drop_eq_nil_of_le (by simp [hz]), List.append_nil, Array.toArray_toList]
theorem own_form {w : World} {B : Nat} {sl : Value} {L : List Sht} (h : Own w B sl L) : ∃ ad c, sl = .slice ad L.length c := by
  rcases h.2 with ⟨rfl, hn⟩ | ⟨g, cap, cur, rfl, _⟩
  · exact ⟨none, 0, by rw [hn]⟩
  · exact ⟨_, _, rfl⟩
theorem own_zero {w : World} {B : Nat} {sl : Value} {L : List Sht} (h : Own w B sl L) : Own w 0 sl L := by
  refine ⟨h.1, ?_⟩
  rcases h.2 with a | ⟨g, cap, cur, e, _, r⟩
  · exact .inl a
  · exact .inr ⟨g, cap, cur, e, Nat.zero_le _, r⟩
def StepPost (fr d : Int) (S : List Shp) (L : List Sht) (w : World) (e : Ending) (w' : World) : Prop :=
  (∃ sl, e = .returned (.tuple #[.agg (gameC (fr + 1) (flyAll d S L).dice (flyAll d S L).ships sl), .int .i64 0]) ∧ Own w' 0 sl (flyAll d S L).out ∧ ∀ k, sl.ownBlock = some k → w.heap.size ≤ k) ∧ Below w.heap.size w w'
set_option maxHeartbeats 8000000 in
theorem stepShots (fr d : Int) (S : List Shp) (L : List Sht) (ad : Option Addr) (c : Nat) (ins : Array Value) (w0' : World) (hS : S.length = 8) (hok : ∀ t ∈ S, t.ok) (hoff : ∀ t ∈ S, t.on = false) (hL : ∀ s ∈ L, OkShot s) (hn : L.length ≤ 32)
    (h0 : 0 ≤ fr) (h1 : fr < 1048576) (hin : ShotsIn w0' (.slice ad L.length c) L) :
    Calls Try.prog 26 #[.agg (gameC fr d S (.slice ad L.length c)), .agg ins] w0' (StepPost fr d S L w0') := by
  have HS := Lib.hid hS
  obtain ⟨sl, hsl⟩ : ∃ sl, Value.slice ad L.length c = sl := ⟨_, rfl⟩
  have HONE := Lib.hid (show (Value.cells (.agg (gameC fr d S (.slice ad L.length c)))).toList.all (·.oneCell') = true by
    have := gc_one (fr := fr) (d := d) (S := S) (sl := .slice ad L.length c) rfl
    simpa [Value.cells] using this)
  have HM := Lib.hid (fun w (hw : ShotsIn w (.slice ad L.length c) L) => mayS_any _ fr d ad c L w (gc_gmS hS rfl hok) hw hL hn h0 (by omega))
  have HI := Lib.hid hin
  have Hsh := Lib.hid (gc_shots (fr := fr) (d := d) (sl := .slice ad L.length c) hS)
  have hq : (fr == 1048576) = false := beq_eq_false_iff_ne.2 (by omega)
  have HO := Lib.hid hok
  have HF := Lib.hid hoff
  have HL := Lib.hid hL
  have Hn := Lib.hid hn
  have Hsl := Lib.hid hsl
  have H := Sb.start w0'
  rw [hsl] at HONE HM HI Hsh ⊢
  clear hS hok hoff hL hn hin hsl
  obtain ⟨w, hw⟩ : ∃ w, w0' = w := ⟨_, rfl⟩
  have HW := Lib.hid hw
  replace H : Sb [] w0' w [] [] := by rw [← hw]; exact H
  rw [show Calls Try.prog 26 #[.agg (gameC fr d S sl), .agg ins] w0' = Calls Try.prog 26 #[.agg (gameC fr d S sl), .agg ins] w by rw [hw]]
  clear hw
  have HZ : Hid (splice (Value.cells (.agg #[.int .i64 0, .int .u64 0, .bool false, .int .i32 0, .int .i32 0, .int .i32 0, .int .i32 0, .int .i64 0, .int .i64 0, .bool false, .int .i32 0, .int .i32 0, .int .i32 0, .int .i32 0, .int .i64 0, .int .i64 0, .bool false, .int .i32 0, .int .i32 0, .int .i32 0, .int .i32 0, .int .i64 0, .int .i64 0, .bool false, .int .i32 0, .int .i32 0, .int .i32 0, .int .i32 0, .int .i64 0, .int .i64 0, .bool false, .int .i32 0, .int .i32 0, .int .i32 0, .int .i32 0, .int .i64 0, .int .i64 0, .bool false, .int .i32 0, .int .i32 0, .int .i32 0, .int .i32 0, .int .i64 0, .int .i64 0, .bool false, .int .i32 0, .int .i32 0, .int .i32 0, .int .i32 0, .int .i64 0, .int .i64 0, .bool false, .int .i32 0, .int .i32 0, .int .i32 0, .int .i32 0, .int .i64 0, .int .i64 0, .slice none 0 0])) 0 (Value.cells (.agg (gameC fr d S sl))).toList = gameC fr d S sl) := Lib.hid (splice_all _ _ (by rw [show (Value.cells (.agg (gameC fr d S sl))).size = 59 from gc_size HS.out]; rfl))
  go_enter Try.func26, Try.ntmps26
  go_wp2_with (first | (refine wb_box H rfl 33 _ rfl (gameC fr d S sl) rfl ?_; clear H; intro b2 w H) | (refine wb_box H rfl 43 _ rfl ins rfl ?_; clear H; intro b3 w H) | (refine wb_alloc H rfl 33 rfl _ Try.zeroValue33 ?_; clear H; intro b4 w H) | (refine wb_whole H rfl 2 33 _ rfl _ rfl (gameC fr d S sl) rfl _ Try.underlying33 rfl 59 info28 (gc_size HS.out) ?_))
  refine (HM.out _ (HI.out.later H.below)).mono ?_; rintro e w' ⟨rfl, hb⟩
  replace H := H.call hb
  clear hb
  go_wp2_with (first | (refine wb_cell H rfl 2 3 _ rfl _ 0 rfl _ _ rfl Try.isAgg3 (.int .i64 fr) rfl ?_) | (refine wb_whole H rfl 2 33 _ rfl _ rfl (gameC fr d S sl) rfl _ Try.underlying33 rfl 59 info28 (gc_size HS.out) ?_) | (refine wb_alloc H rfl 33 rfl _ Try.zeroValue33 ?_; clear H; intro b6 w H) | (refine wb_put H rfl 0 33 _ _ rfl _ 0 rfl _ _ rfl (.agg (gameC fr d S sl)) rfl 59 info28 (gc_size HS.out) (Nat.le_of_ble_eq_true rfl) HONE.out (gameC fr d S sl) HZ.out ?_; clear H; intro w H) | (refine wb_cell H rfl 3 31 _ rfl _ 58 rfl _ _ rfl Try.isAgg31 sl Hsh.out ?_))
  refine (clone_any sl L _ (HI.out.later H.below) (by have := Hn.out; omega)).mono ?_; rintro e w1 ⟨⟨sl0, rfl, hown⟩, hb⟩
  obtain ⟨ad0, c0, rfl⟩ := own_form hown
  replace H := H.addRow _ L (own_zero hown) hb (fun k hk => (World.ownsRow.lt hown k hk).1)
  clear hown hb
  go_wp2_with (refine wb_put H rfl 0 31 _ _ rfl _ 58 rfl _ _ rfl (.slice ad0 L.length c0) rfl 1 info26 rfl (by rw [gc_size HS.out]; omega) rfl _ (gc_setShots HS.out _) ?_; clear H; intro w H)
  replace H : Sb [] w0' w [(b6, gameC fr d S (.slice ad0 L.length c0), 33), (b4, _, 33), (b3, ins, 43), (b2, gameC fr d S sl, 33)] [(.slice ad0 L.length c0, L)] := H
  go_loopw [26] (fun i W => ∃ k : Nat, k ≤ 8 ∧ i = .int .i64 k ∧ W = w) (fun i _ => 8 - (intOf i).toNat)
  case atStart => exact ⟨0, Nat.zero_le _, rfl, rfl⟩
  case round =>
    obtain ⟨k, hk, rfl, rfl⟩ := hrel
    by_cases hlt : k < 8
    · have hc : (gameC fr d S (.slice ad0 L.length c0))[2 + k * 7]? = some (.bool false) := by
        have ht : S[k]? = some (S[k]'(by rw [HS.out]; exact hlt)) := List.getElem?_eq_getElem _
        rw [gc_at0 k _ ht, HF.out _ (List.mem_of_getElem? ht)]
      have Hc := Lib.hid hc
      clear hc
      go_wp2_with (refine wb_cell H rfl 0 4 _ rfl _ _ rfl _ _ rfl Try.isAgg4 (.bool false) Hc.out ?_)
      exact ⟨⟨k + 1, hlt, rfl, by first | rfl | trivial⟩, by simp only [intOf]; omega⟩
    · obtain rfl : k = 8 := by omega
      have Hs0 := Lib.hid (gc_shots (fr := fr) (d := d) (sl := .slice ad0 L.length c0) HS.out)
      go_wp2_with (first | (refine wb_cell H rfl 0 31 _ rfl _ 58 rfl _ _ rfl Try.isAgg31 (.slice ad0 L.length c0) Hs0.out ?_) | (refine wb_put H rfl 0 31 _ _ rfl _ 58 rfl _ _ rfl (.slice none 0 0) rfl 1 info26 rfl (by rw [gc_size HS.out]; omega) rfl _ (gc_setShots HS.out _) ?_; clear H; intro w H))
      replace H := H.addRow (.slice none 0 0) [] (World.ownsRow_nil _ _ _ _) (Below.refl _ _) (fun k hk => by cases hk)
      obtain ⟨Z4, hZ4, H'⟩ : ∃ Z4 : Array Value, Z4.size = 59 ∧ Sb [] w0' w [(b6, gameC fr d S (.slice none 0 0), 33), (b4, Z4, 33), (b3, ins, 43), (b2, gameC fr d S sl, 33)] [(.slice none 0 0, []), (.slice ad0 L.length c0, L)] := ⟨_, rfl, H⟩
      have HZ4 := Lib.hid hZ4
      clear H hZ4
      obtain ⟨i0, hi, hz0, hz1, hz2⟩ := info_shot
      go_loopw [45] (fun i W => ∃ (k : Nat) (dk : Int) (Sk : List Shp) (out : List Sht) (sk : Value), k ≤ L.length ∧ i = .int .i64 k ∧ Hid (flyAll d S L = ⟨(flyAll dk Sk (L.drop k)).dice, (flyAll dk Sk (L.drop k)).ships, out ++ (flyAll dk Sk (L.drop k)).out⟩) ∧ Hid (Sk.length = 8 ∧ (∀ t ∈ Sk, t.ok) ∧ out.length ≤ k) ∧ Hid (Sb [] w0' W [(b6, gameC fr dk Sk sk, 33), (b4, Z4, 33), (b3, ins, 43), (b2, gameC fr d S sl, 33)] [(sk, out), (.slice ad0 L.length c0, L)])) (fun i _ => L.length - (intOf i).toNat)
      case atStart => exact ⟨0, d, S, [], _, Nat.zero_le _, rfl, Lib.hid rfl, Lib.hid ⟨HS.out, HO.out, Nat.zero_le _⟩, Lib.hid H'⟩
      case round =>
        clear H'
        obtain ⟨k, dk, Sk, out, sk, hk, rfl, HE, HK, HB⟩ := hrel
        by_cases hlt : k < L.length
        · obtain ⟨s, hs⟩ : ∃ s, L[k]? = some s := ⟨L[k], List.getElem?_eq_getElem hlt⟩
          have hdr : L.drop k = s :: L.drop (k + 1) := by rw [List.drop_eq_getElem_cons hlt, (List.getElem?_eq_some_iff.1 hs).2]
          have HE2 : Hid (flyAll d S L = ⟨(flyAll (flyF dk Sk s).dice (flyF dk Sk s).ships (L.drop (k + 1))).dice, (flyAll (flyF dk Sk s).dice (flyF dk Sk s).ships (L.drop (k + 1))).ships, (out ++ (if (flyF dk Sk s).stays = true then [flown s] else [])) ++ (flyAll (flyF dk Sk s).dice (flyF dk Sk s).ships (L.drop (k + 1))).out⟩) := Lib.hid (by
            have := HE.out
            rw [hdr] at this
            rw [this]
            simp only [flyAll, List.append_assoc])
          have hsok := HL.out s (List.mem_of_getElem? hs)
          have hn32 : L.length ≤ 32 := Hn.out
          have hkeep := flyF_keep dk Sk s HK.out.1 HK.out.2.1
          have hrow := HB.out.rows _ (List.mem_cons_of_mem _ (List.mem_cons_self ..))
          obtain ⟨A, hA, hcells⟩ : ∃ A, ad0 = some ⟨A, 0, none⟩ ∧ ShotAt wr A (0 + k * 6) s := by
            have hrow0 := hrow
            obtain ⟨_, ⟨e, hn⟩ | ⟨A, cap, cur, e, _, hg, _⟩⟩ := hrow
            · have hn' : L.length = 0 := hn
              omega
            · injection e with e1 e2 e3
              refine ⟨A, e1, shot_at (fun j v hv => ?_) k s hs⟩
              have := World.ownsRow.cells hrow0 (g := A) (by rw [e1]; rfl) j v hv
              have a1 : (⟨A, 0, none⟩ : Addr).add j = ⟨A, 0 + j, none⟩ := by unfold Addr.add; split <;> simp_all
              rw [a1] at this; exact this
          subst hA
          rw [Nat.zero_add] at hcells
          obtain ⟨q0, q1, q2, q3, q4, q5⟩ := hcells
          have H := HB.out
          have Hsok := Lib.hid hsok
          have Hkeep := Lib.hid hkeep
          clear hs hdr hsok hkeep hrow HE HB
          go_wp2_with (first | (refine wb_alloc H rfl 75 rfl _ Try.zeroValue75 ?_; clear H; intro p w H) | (refine wb_put H rfl 0 75 _ _ rfl _ 0 rfl _ _ rfl (.agg #[.int .i64 s.owner, .int .i32 s.x, .int .i32 s.y, .int .i32 s.vx, .int .i32 s.vy, .int .i64 s.left]) rfl 6 info79s rfl (Nat.le_of_ble_eq_true rfl) rfl (shotL s).toArray rfl ?_; clear H; intro w H))
          clear q0 q1 q2 q3 q4 q5
          have hne : p ≠ b6 := by
            have := H.nd
            simp at this
            exact this.1.1
          refine (fly_any b6 p fr dk Sk sk s _ HK.out.1 HK.out.2.1 Hsok.out (H.handed p b6 _ _ 75 33 (List.mem_cons_self ..) (List.mem_cons_of_mem _ (List.mem_cons_self ..)) hne)).mono ?_; rintro e w1 ⟨rfl, hF⟩
          replace H := H.sub2 0 1 p b6 _ _ _ _ 75 33 (by omega) rfl rfl hne hF
          replace H : Sb [] w0' w1 [(p, (shotL (flown s)).toArray, 75), (b6, gameC fr (flyF dk Sk s).dice (flyF dk Sk s).ships sk, 33), (b4, Z4, 33), (b3, ins, 43), (b2, gameC fr d S sl, 33)] [(sk, out), (.slice (some ⟨A, 0, none⟩) L.length c0, L)] := H
          have hout := HK.out.2.2
          clear hF hne HK
          obtain ⟨q, hq⟩ : ∃ q, (flyF dk Sk s).stays = q := ⟨_, rfl⟩
          rw [hq] at HE2 ⊢
          clear hq
          generalize (flyF dk Sk s).dice = d1 at *
          generalize (flyF dk Sk s).ships = S1 at *
          cases q
          · go_wp2_with fail
            exact ⟨⟨k + 1, d1, S1, out, sk, hlt, rfl, Lib.hid (by have := HE2.out; simpa using this), Lib.hid ⟨Hkeep.out.1, Hkeep.out.2, by omega⟩, Lib.hid H.tail⟩, by simp only [intOf]; omega⟩
          · have Hrow := H.rows _ (List.mem_cons_self ..)
            obtain ⟨adk, ck, hsk⟩ := own_form Hrow
            dsimp only at hsk Hrow
            subst hsk
            have HN := H.new #[.int .i64 s.owner, .int .i32 (mv s.x s.vx), .int .i32 (mv s.y s.vy), .int .i32 s.vx, .int .i32 s.vy, .int .i64 (s.left - 1)] 75
            have Hrow2 := Lib.hid (HN.rows _ (List.mem_cons_self ..))
            have Hnews : Hid (∀ j u, (shotL (flown s))[j]? = some u → (w1.alloc (.cells #[.int .i64 s.owner, .int .i32 (mv s.x s.vx), .int .i32 (mv s.y s.vy), .int .i32 s.vx, .int .i32 s.vy, .int .i64 (s.left - 1)] 75)).cell? ((⟨w1.heap.size, 0, none⟩ : Addr).add j) = some u) := Lib.hid (fun j u hu => by
              have a1 : (⟨w1.heap.size, 0, none⟩ : Addr).add j = ⟨w1.heap.size, j, none⟩ := by unfold Addr.add; split <;> simp_all
              rw [a1, cell_new]
              show (shotL (flown s)).toArray[j]? = some u
              rw [List.getElem?_toArray]
              exact hu)
            have Hone : Hid (∀ u ∈ shotL (flown s), u.oneCell' = true) := Lib.hid (fun u hu => cellsL_one [flown s] u (by simpa [cellsL] using hu))
            have hmx : out.length + 1 ≤ maxLen := by have := Hn.out; unfold maxLen; omega
            have hbt : (out.length + 1) * 32 ≤ 140737488355328 := by have := Hn.out; omega
            have Hsh1 := Lib.hid (gc_shots (fr := fr) (d := d1) (sl := .slice adk out.length ck) Hkeep.out.1)
            have Hsz1 := Lib.hid (gc_size (fr := fr) (d := d1) (sl := .slice adk out.length ck) Hkeep.out.1)
            have HNh := Lib.hid HN
            clear Hrow HN
            go_wp2_with (first | (refine wb_cell H rfl 1 31 _ rfl _ 58 rfl _ _ rfl Try.isAgg31 (.slice adk out.length ck) Hsh1.out ?_) | (refine wb_whole H rfl 0 75 _ rfl _ rfl #[.int .i64 s.owner, .int .i32 (mv s.x s.vx), .int .i32 (mv s.y s.vy), .int .i32 s.vx, .int .i32 s.vy, .int .i64 (s.left - 1)] rfl _ Try.underlying75 rfl 6 info79s rfl ?_) | (at_builtin; refine wpList_append_own_at _ rfl _ _ 31 rfl 0 75 i0 (.agg #[.int .i64 0, .int .i32 0, .int .i32 0, .int .i32 0, .int .i32 0, .int .i64 0]) 6 32 Try.underlying31 hi hz0 hz1 hz2 rfl (by decide) _ out.length (cellsL out) rfl Hrow2.out ⟨w1.heap.size, 0, none⟩ 1 1 (shotL (flown s)) rfl rfl Hnews.out Hone.out hmx hbt (Nat.zero_le _) ?_; intro v' w9 hown' hgrow hnil' hblk; have hon9 := own_snoc hown'; have H9 := HNh.out.append 0 (.slice adk out.length ck) v' out (out ++ [flown s]) rfl hon9 hgrow hblk; obtain ⟨ad9, c9, hv9⟩ := own_form hon9; rw [show (out ++ [flown s]).length = out.length + 1 by simp] at hv9; subst hv9; clear hown' hgrow hnil' hblk hon9) | (refine wb_put H9 rfl 2 31 _ _ rfl _ 58 rfl _ _ rfl (.slice ad9 (out.length + 1) c9) rfl 1 info26 rfl (by rw [Hsz1.out]; omega) rfl _ (gc_setShots Hkeep.out.1 _) ?_; clear H9; intro w H9))
            replace H9 : Sb [] w0' w [(w1.heap.size, _, 75), (p, _, 75), (b6, gameC fr d1 S1 (.slice ad9 (out.length + 1) c9), 33), (b4, Z4, 33), (b3, ins, 43), (b2, gameC fr d S sl, 33)] [(.slice ad9 (out.length + 1) c9, out ++ [flown s]), (.slice (some ⟨A, 0, none⟩) L.length c0, L)] := H9
            exact ⟨⟨k + 1, d1, S1, out ++ [flown s], _, hlt, rfl, Lib.hid (by have := HE2.out; simpa using this), Lib.hid ⟨Hkeep.out.1, Hkeep.out.2, by simp; omega⟩, Lib.hid H9.tail.tail⟩, by simp only [intOf]; omega⟩
        · obtain rfl : k = L.length := by omega
          have HSk := Lib.hid HK.out.1
          have HB' : Hid (Own wr 0 sk out) := Lib.hid (HB.out.rows _ (List.mem_cons_self ..))
          have H := HB.out
          have hfin : flyAll d S L = ⟨dk, Sk, out⟩ := by
            have := HE.out
            rw [List.drop_length] at this
            simpa [flyAll] using this
          have Hfin := Lib.hid hfin
          clear HE HB hfin
          obtain ⟨adk, ck, hsk⟩ := own_form HB'.out
          subst hsk
          have HZf : Hid (splice Z4 0 (Value.cells (.agg (gameC (fr + 1) dk Sk (.slice adk out.length ck)))).toList = gameC (fr + 1) dk Sk (.slice adk out.length ck)) := Lib.hid (splice_all _ _ (by rw [HZ4.out]; exact (gc_size HSk.out).symm))
          have HONEf := Lib.hid (show (Value.cells (.agg (gameC (fr + 1) dk Sk (.slice adk out.length ck)))).toList.all (·.oneCell') = true by
            have := gc_one (fr := fr + 1) (d := dk) (S := Sk) (sl := .slice adk out.length ck) rfl
            simpa [Value.cells] using this)
          clear HB'
          go_wp2_with (first | (refine wb_cell H rfl 0 3 _ rfl _ 0 rfl _ _ rfl Try.isAgg3 (.int .i64 fr) rfl ?_) | (refine wb_put H rfl 0 3 _ _ rfl _ 0 rfl _ _ rfl (.int .i64 (fr + 1)) rfl 1 info3 rfl (by rw [gc_size HSk.out]; omega) rfl _ (gc_setFrame _) ?_; clear H; intro w H) | (refine wb_whole H rfl 0 33 _ rfl _ rfl (gameC (fr + 1) dk Sk (.slice adk out.length ck)) rfl _ Try.underlying33 rfl 59 info28 (gc_size HSk.out) ?_) | (refine wb_put H rfl 1 33 _ _ rfl _ 0 rfl _ _ rfl (.agg (gameC (fr + 1) dk Sk (.slice adk out.length ck))) rfl 59 info28 (gc_size HSk.out) (by rw [HZ4.out]; omega) HONEf.out _ HZf.out ?_; clear H; intro w H))
          refine bodyPost_ret (v := .tuple #[.agg (gameC (fr + 1) dk Sk (.slice adk out.length ck)), .int .i64 0]) ?_ rfl ⟨⟨_, by rw [Hfin.out], by rw [Hfin.out]; exact H.rows _ (List.mem_cons_self ..), fun q hq => (H.rge _ (List.mem_cons_self ..) q hq).resolve_right (by simp)⟩, H.below⟩
          exact res2 rfl rfl rfl (H.holds _ (List.mem_cons_of_mem _ (List.mem_cons_self ..))) (gc_size HSk.out)
end Go.Proofs.Ytdopfonebpklkaa.game
