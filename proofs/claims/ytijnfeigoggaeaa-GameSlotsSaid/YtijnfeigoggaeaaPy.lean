/- The game that the laws begin with: ships of a mask. -/
import Derived.Test.YtijnfeigoggaeaaIn
import Derived.Test.YtijnfeigoggaeaaTd
namespace Go.Proofs.Ytijnfeigoggaeaa.game
open Go.ChangeShapes Go.WideShapes Go.ChangeAt Go.RowKit dice
set_option maxRecDepth 100000

def maskB (mask : Int) (k : Nat) : Bool := bits .and .i64 (mask / 2 ^ k) 1 == 1
def g0 (D : Int) : Gme := ⟨0, D, zS, []⟩
def playTo (mask : Int) (g : Gme) : Nat → Gme
  | 0 => g
  | n + 1 => if maskB mask n = true then spawnG (playTo mask g n) n else playTo mask g n
theorem spawned_ok (d : Int) : (⟨true, px d, py d, 0, 0, 0, 0⟩ : Shp).ok := by
  have := px_bd d
  have := py_bd d
  unfold Shp.ok OkShip
  rw [if_pos rfl]
  dsimp only
  omega
theorem spawnG_ok {g : Gme} (k : Nat) (h : g.ok) : (spawnG g k).ok := by
  refine ⟨h.f0, h.f1, by unfold spawnG; dsimp only; rw [List.length_set]; exact h.s8, fun t ht => ?_, h.shots, h.most⟩
  rcases List.mem_or_eq_of_mem_set ht with a | a
  · exact h.ships t a
  · rw [a]; exact spawned_ok _
theorem g0_ok (D : Int) : (g0 D).ok := ⟨by unfold g0; dsimp only; omega, by unfold g0; dsimp only; omega, rfl, zS_ok, fun s hs => by simp [g0] at hs, by simp [g0]⟩
theorem playTo_ok (mask : Int) (D : Int) : ∀ n, (playTo mask (g0 D) n).ok
  | 0 => g0_ok D
  | n + 1 => by
    unfold playTo
    split
    · exact spawnG_ok n (playTo_ok mask D n)
    · exact playTo_ok mask D n
theorem playTo_L (mask : Int) (D : Int) : ∀ n, (playTo mask (g0 D) n).L = [] ∧ (playTo mask (g0 D) n).fr = 0
  | 0 => ⟨rfl, rfl⟩
  | n + 1 => by
    unfold playTo
    split
    · exact playTo_L mask D n
    · exact playTo_L mask D n
/-- Which ships are there behind n slots. -/
theorem playTo_on (mask : Int) (D : Int) : ∀ (n j : Nat), j < 8 → n ≤ 8 → ∃ t, (playTo mask (g0 D) n).S[j]? = some t ∧ t.on = (decide (j < n) && maskB mask j) ∧ t.score = 0
  | 0, j, hj, _ => by
    refine ⟨zShp, ?_, by simp [zShp], rfl⟩
    show zS[j]? = some zShp
    unfold zS
    rw [List.getElem?_replicate, if_pos hj]
  | n + 1, j, hj, hn => by
    obtain ⟨t, h1, h2, h3⟩ := playTo_on mask D n j hj (by omega)
    unfold playTo
    by_cases hm : maskB mask n = true
    · rw [if_pos hm]
      by_cases e : n = j
      · subst e
        refine ⟨⟨true, px (playTo mask (g0 D) n).d, py (playTo mask (g0 D) n).d, 0, 0, 0, 0⟩, List.getElem?_set_self (List.getElem?_eq_some_iff.1 h1).1, ?_, rfl⟩
        simp [hm]
      · refine ⟨t, ?_, ?_, h3⟩
        · show ((playTo mask (g0 D) n).S.set n _)[j]? = _
          rw [List.getElem?_set_ne e, h1]
        · rw [h2]
          have : decide (j < n + 1) = decide (j < n) := by
            by_cases h : j < n
            · rw [decide_eq_true h, decide_eq_true (by omega)]
            · rw [decide_eq_false h, decide_eq_false (by omega)]
          rw [this]
    · rw [if_neg hm]
      refine ⟨t, h1, ?_, h3⟩
      rw [h2]
      by_cases e : n = j
      · subst e
        have : maskB mask n = false := by simpa using hm
        simp [this]
      · have : decide (j < n + 1) = decide (j < n) := by
          by_cases h : j < n
          · rw [decide_eq_true h, decide_eq_true (by omega)]
          · rw [decide_eq_false h, decide_eq_false (by omega)]
        rw [this]
theorem Sb.oneRow {Hs : List Nat} {W0 w : World} {l : List Blk} {r : RowS} {R : List RowS} (h : Sb Hs W0 w l (r :: R)) : Sb Hs W0 w l [r] :=
  ⟨h.os, h.tape, h.output, h.size, h.fr, h.holds, h.ge, h.nd, fun q hq => h.rows q (by rw [List.mem_singleton.1 hq]; exact List.mem_cons_self ..), fun q hq => h.rge q (by rw [List.mem_singleton.1 hq]; exact List.mem_cons_self ..),
    fun q hq => h.apart q (by rw [List.mem_singleton.1 hq]; exact List.mem_cons_self ..), by simp⟩
def PlayPost (mask D : Int) (w : World) (e : Ending) (w' : World) : Prop :=
  (∃ ad c, e = .returned (.tuple #[.agg (gameC 0 (playTo mask (g0 D) 8).d (playTo mask (g0 D) 8).S (.slice ad 0 c)), .bool true]) ∧ Own w' 0 (.slice ad 0 c) [] ∧ ∀ k, (Value.slice ad 0 c).ownBlock = some k → w.heap.size ≤ k) ∧ Below w.heap.size w w'
theorem own_nil_in {w : World} {B : Nat} {sl : Value} (h : Own w B sl []) : ShotsIn w sl [] := h.shotsIn
set_option maxHeartbeats 8000000 in
theorem playNil (s : ByteArray) (mask D : Int) (w0' : World) (hs : s.size ≤ maxLen) (hD : seed s.data.toList = D) : Calls Try.prog 34 #[.string s, .int .i64 mask, .slice none 0 0] w0' (PlayPost mask D w0') := by
  have HD := Lib.hid hD
  have H := Sb.start w0'
  clear hD
  go_enter Try.func34, Try.ntmps34
  go_wp2_with (first | (refine wb_alloc H rfl 28 rfl _ Try.zeroValue28 ?_; clear H; intro b6 w H))
  refine (new_zS s _ hs D HD.out).mono ?_; rintro e w2 ⟨rfl, hb⟩
  replace H := H.call hb
  clear hb
  go_wp2_with (first | (refine wb_alloc H rfl 28 rfl _ Try.zeroValue28 ?_; clear H; intro b8 w H) | (refine wb_put H rfl 0 28 _ _ rfl _ 0 rfl _ _ rfl (.agg (gameC 0 D zS (.slice none 0 0))) rfl 59 info28 rfl (Nat.le_of_ble_eq_true rfl) rfl (gameC 0 D zS (.slice none 0 0)) rfl ?_; clear H; intro w H))
  obtain ⟨Z6, hZ6, H'⟩ : ∃ Z6 : Array Value, Z6.size = 59 ∧ Sb [] w0' w [(b8, gameC 0 D zS (.slice none 0 0), 28), (b6, Z6, 28)] [] := ⟨_, rfl, H⟩
  have HZ6 := Lib.hid hZ6
  clear H hZ6
  go_loopw [9] (fun i W => ∃ (k : Nat) (ad : Option Addr) (c : Nat), k ≤ 8 ∧ i = .int .i64 k ∧ Hid (Sb [] w0' W [(b8, gameC 0 (playTo mask (g0 D) k).d (playTo mask (g0 D) k).S (.slice ad 0 c), 28), (b6, Z6, 28)] [(.slice ad 0 c, [])])) (fun i _ => 8 - (intOf i).toNat)
  case atStart => exact ⟨0, none, 0, Nat.zero_le _, rfl, Lib.hid (H'.addRow (.slice none 0 0) [] (World.ownsRow_nil _ _ _ _) (Below.refl _ _) (fun k hk => by cases hk))⟩
  case round =>
    clear H'
    obtain ⟨k, ad, c, hk, rfl, HB⟩ := hrel
    have HI : Hid (ShotsIn wr (.slice ad 0 c) []) := Lib.hid (Own.shotsIn (HB.out.rows _ (List.mem_cons_self ..)))
    by_cases hlt : k < 8
    · have hok := playTo_ok mask D k
      obtain ⟨hL, hfr⟩ := playTo_L mask D k
      obtain ⟨t, ht, hon, _⟩ := playTo_on mask D k k hlt (by omega)
      have hoff : t.on = false := by rw [hon]; simp
      by_cases hm : maskB mask k = true
      · have hq : (bits BinOp.and IntKind.i64 (mask / 2 ^ k) 1 == 1) = true := hm
        have hnext : playTo mask (g0 D) (k + 1) = spawnG (playTo mask (g0 D) k) k := by rw [playTo, if_pos hm]
        have HN := Lib.hid hnext
        have HX := Lib.hid (spawn_any (playTo mask (g0 D) k) k t (.slice ad 0 c) wr hok hlt ht hoff (by rw [hL]; exact HI.out))
        have HOK := Lib.hid (spawnG_ok k hok)
        rw [hfr] at HX
        have HL : Hid ((spawnG (playTo mask (g0 D) k) k).L = [] ∧ (spawnG (playTo mask (g0 D) k) k).fr = 0) := Lib.hid ⟨hL, hfr⟩
        have HS8 := Lib.hid hok.s8
        clear hok hL hfr ht hon hoff hm hnext
        generalize playTo mask (g0 D) k = gk at *
        have H := HB.out
        go_wp2_with (refine wb_whole H rfl 0 28 _ rfl _ rfl _ rfl _ Try.underlying28 rfl 59 info28 (gc_size HS8.out) ?_)
        refine HX.out.mono ?_; rintro e w5 ⟨⟨sl', rfl, hown, hfr⟩, hb⟩
        rw [HL.out.1] at hown
        rw [HL.out.2]
        obtain ⟨ad', c', rfl⟩ := own_form hown
        replace H := H.addRow _ [] hown hb hfr
        clear hown hfr hb HB HI
        have HS8' := Lib.hid HOK.out.s8
        rw [← HN.out] at HS8' ⊢
        generalize hgn : playTo mask (g0 D) (k + 1) = gn at *
        have Hgn := Lib.hid hgn
        clear hgn
        have HGS : Hid ((gameC 0 gn.d gn.S (.slice ad' 0 c')).size = 59) := Lib.hid (gc_size HS8'.out)
        have HGS0 : Hid ((gameC 0 gk.d gk.S (.slice ad 0 c)).size = 59) := Lib.hid (gc_size HS8.out)
        go_wp2_with (first | (refine wb_alloc H rfl 28 rfl _ Try.zeroValue28 ?_; clear H; intro b10 w9 H) | (refine wb_put H rfl 0 28 _ _ rfl _ 0 rfl _ _ rfl (.agg (gameC 0 gn.d gn.S (.slice ad' 0 c'))) rfl 59 info28 HGS.out (Nat.le_of_ble_eq_true rfl) gcv_one (gameC 0 gn.d gn.S (.slice ad' 0 c')) (splice_all _ (gameC 0 gn.d gn.S (.slice ad' 0 c')) (by rw [HGS.out]; rfl)) ?_; clear H; intro w9 H) | (refine wb_whole H rfl 0 28 _ rfl _ rfl (gameC 0 gn.d gn.S (.slice ad' 0 c')) rfl _ Try.underlying28 rfl 59 info28 HGS.out ?_) | (refine wb_put H rfl 1 28 _ _ rfl _ 0 rfl _ _ rfl (.agg (gameC 0 gn.d gn.S (.slice ad' 0 c'))) rfl 59 info28 HGS.out (by rw [HGS0.out]; omega) gcv_one (gameC 0 gn.d gn.S (.slice ad' 0 c')) (splice_all _ (gameC 0 gn.d gn.S (.slice ad' 0 c')) (by rw [HGS0.out, HGS.out])) ?_; clear H; intro w9 H))
        have H2 : Sb [] w0' w9 [(b8, gameC 0 gn.d gn.S (.slice ad' 0 c'), 28), (b6, Z6, 28)] [(.slice ad' 0 c', [])] := H.tail.oneRow
        exact ⟨⟨k + 1, ad', c', hlt, rfl, Lib.hid (by rw [Hgn.out]; exact H2)⟩, by simp only [intOf]; omega⟩
      · have hmf : maskB mask k = false := by simpa using hm
        have hq : (bits BinOp.and IntKind.i64 (mask / 2 ^ k) 1 == 1) = false := hmf
        have hnext : playTo mask (g0 D) (k + 1) = playTo mask (g0 D) k := by rw [playTo, if_neg hm]
        rw [← hnext] at HB
        clear hm hmf hok hL hfr ht hon hoff hnext
        go_wp2_with fail
        exact ⟨⟨k + 1, ad, c, hlt, rfl, HB⟩, by simp only [intOf]; omega⟩
    · obtain rfl : k = 8 := by omega
      have HS8 := Lib.hid (playTo_ok mask D 8).s8
      generalize hgn : playTo mask (g0 D) 8 = gn at *
      have HGS : Hid ((gameC 0 gn.d gn.S (.slice ad 0 c)).size = 59) := Lib.hid (gc_size HS8.out)
      have Hgn := Lib.hid hgn
      have H := HB.out
      clear hgn HB
      go_wp2_with (first | (refine wb_whole H rfl 0 28 _ rfl _ rfl (gameC 0 gn.d gn.S (.slice ad 0 c)) rfl _ Try.underlying28 rfl 59 info28 HGS.out ?_) | (refine wb_put H rfl 1 28 _ _ rfl _ 0 rfl _ _ rfl (.agg (gameC 0 gn.d gn.S (.slice ad 0 c))) rfl 59 info28 HGS.out (by rw [HZ6.out]; omega) gcv_one (gameC 0 gn.d gn.S (.slice ad 0 c)) (splice_all _ (gameC 0 gn.d gn.S (.slice ad 0 c)) (by rw [HZ6.out, HGS.out])) ?_; clear H; intro w9 H))
      refine wp_loop_rounds 1 ?_
      rw [rounds_succ]
      go_wp2_with (first | (refine wb_whole H rfl 0 28 _ rfl _ rfl (gameC 0 gn.d gn.S (.slice ad 0 c)) rfl _ Try.underlying28 rfl 59 info28 HGS.out ?_) | (refine wb_put H rfl 1 28 _ _ rfl _ 0 rfl _ _ rfl (.agg (gameC 0 gn.d gn.S (.slice ad 0 c))) rfl 59 info28 HGS.out (by rw [HZ6.out]; omega) gcv_one (gameC 0 gn.d gn.S (.slice ad 0 c)) (splice_all _ (gameC 0 gn.d gn.S (.slice ad 0 c)) (by rw [HZ6.out, HGS.out])) ?_; clear H; intro w9 H))
      refine bodyPost_ret (v := .tuple #[.agg (gameC 0 gn.d gn.S (.slice ad 0 c)), .bool true]) ?_ rfl ⟨⟨ad, c, by rw [Hgn.out], ?_⟩, H.below⟩
      · exact res2 rfl rfl rfl (H.holds _ (List.mem_cons_of_mem _ (List.mem_cons_self ..))) HGS.out
      · exact ⟨H.rows _ (List.mem_cons_self ..), fun q hq => (H.rge _ (List.mem_cons_self ..) q hq).resolve_right (by simp)⟩
end Go.Proofs.Ytijnfeigoggaeaa.game
