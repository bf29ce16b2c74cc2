/- The document's answer: two games that are the same in numbers are the same. -/
import Derived.Test.YtijnfeigoggaeaaRh
namespace Go.Proofs.Ytijnfeigoggaeaa.game
open Go.ChangeShapes Go.WideShapes Go.ChangeAt Go.RowKit dice
set_option maxRecDepth 100000

theorem gc_ships {fr d : Int} {S : List Shp} {sl : Value} : ∀ j v, (shipsL S)[j]? = some v → (gameC fr d S sl)[2 + j]? = some v := fun j v h => by
  unfold gameC
  have hl := (List.getElem?_eq_some_iff.1 h).1
  rw [List.getElem?_toArray, show 2 + j = j + 1 + 1 by omega, List.getElem?_cons_succ, List.getElem?_cons_succ, List.getElem?_append_left hl]
  exact h
set_option maxHeartbeats 8000000 in
theorem rsame_any (g : Gme) (sl1 sl2 : Value) (w0' : World) (hg : g.ok) (hin1 : ShotsIn w0' sl1 g.L) (hin2 : ShotsIn w0' sl2 g.L) :
    Calls Try.prog 33 #[.agg (gameC g.fr g.d g.S sl1), .agg (gameC g.fr g.d g.S sl2)] w0' fun e w' => e = .returned (.bool true) ∧ Below w0'.heap.size w0' w' := by
  obtain ⟨ad1, c1, rfl, hat1⟩ := hin1.form
  obtain ⟨ad2, c2, rfl, hat2⟩ := hin2.form
  have hm := hg.most
  have HS := Lib.hid hg.s8
  have HE := Lib.hid (fun W => eq25S W g.S hg.s8 hg.ships)
  have HA1 := Lib.hid hat1
  have HA2 := Lib.hid hat2
  have H := Sb.start w0'
  clear hg hin1 hin2 hat1 hat2
  obtain ⟨fr, d, S, L⟩ := g
  dsimp only at *
  have Hs1 := Lib.hid (gc_shots (fr := fr) (d := d) (S := S) (sl := .slice ad1 L.length c1) HS.out)
  have Hs2 := Lib.hid (gc_shots (fr := fr) (d := d) (S := S) (sl := .slice ad2 L.length c2) HS.out)
  have Hl := Lib.hid (show (shipsL S).length = 56 by rw [length_shipsL, HS.out])
  have Hp1 := Lib.hid (fun j v h => gc_ships (fr := fr) (d := d) (S := S) (sl := .slice ad1 L.length c1) j v h)
  have Hp2 := Lib.hid (fun j v h => gc_ships (fr := fr) (d := d) (S := S) (sl := .slice ad2 L.length c2) j v h)
  obtain ⟨ss, hss⟩ : ∃ ss, shipsL S = ss := ⟨_, rfl⟩
  rw [hss] at Hl Hp1 Hp2 HE
  clear hss
  have he := HE.out
  go_enter Try.func33, Try.ntmps33
  go_wp2_with (first | (refine wb_box H rfl 28 _ rfl (gameC fr d S (.slice ad1 L.length c1)) rfl ?_; clear H; intro b2 w H) | (refine wb_box H rfl 28 _ rfl (gameC fr d S (.slice ad2 L.length c2)) rfl ?_; clear H; intro b3 w H) | (refine wb_cell H rfl 1 3 _ rfl _ 0 rfl _ _ rfl Try.isAgg3 (.int .i64 fr) rfl ?_) | (refine wb_cell H rfl 0 3 _ rfl _ 0 rfl _ _ rfl Try.isAgg3 (.int .i64 fr) rfl ?_) | (refine wb_cell H rfl 1 22 _ rfl _ 1 rfl _ _ rfl Try.isAgg22 (.int .u64 d) rfl ?_) | (refine wb_cell H rfl 0 22 _ rfl _ 1 rfl _ _ rfl Try.isAgg22 (.int .u64 d) rfl ?_) | (refine wb_part H rfl 1 25 _ rfl _ 2 rfl _ _ rfl _ Try.underlying25 rfl 56 info25 ss Hp1.out Hl.out ?_) | (refine wb_part H rfl 0 25 _ rfl _ 2 rfl _ _ rfl _ Try.underlying25 rfl 56 info25 ss Hp2.out Hl.out ?_) | (refine wb_cell H rfl 1 26 _ rfl _ 58 rfl _ _ rfl Try.isAgg26 (.slice ad1 L.length c1) Hs1.out ?_) | (refine wb_cell H rfl 0 26 _ rfl _ 58 rfl _ _ rfl Try.isAgg26 (.slice ad2 L.length c2) Hs2.out ?_))
  have H' : Sb [] w0' w [(b3, gameC fr d S (.slice ad2 L.length c2), 28), (b2, gameC fr d S (.slice ad1 L.length c1), 28)] [] := H
  clear H he
  go_loopw [5] (fun i W => ∃ k : Nat, k ≤ L.length ∧ i = .int .i64 k ∧ Hid (Sb [] w0' W [(b3, gameC fr d S (.slice ad2 L.length c2), 28), (b2, gameC fr d S (.slice ad1 L.length c1), 28)] [])) (fun i _ => L.length - (intOf i).toNat)
  case atStart => exact ⟨0, Nat.zero_le _, rfl, Lib.hid H'⟩
  case round =>
    clear H'
    obtain ⟨k, hk, rfl, HB⟩ := hrel
    by_cases hlt : k < L.length
    · obtain ⟨g1, o1, had1, hg1, hc1⟩ := HA1.out (by omega)
      obtain ⟨g2, o2, had2, hg2, hc2⟩ := HA2.out (by omega)
      subst had1
      subst had2
      obtain ⟨s, hs⟩ : ∃ s, L[k]? = some s := ⟨L[k], List.getElem?_eq_getElem hlt⟩
      have old1 := fun j v h => (HB.out.old rfl (p := ⟨g1, o1 + j, none⟩) hg1).trans (hc1 j v h)
      have old2 := fun j v h => (HB.out.old rfl (p := ⟨g2, o2 + j, none⟩) hg2).trans (hc2 j v h)
      obtain ⟨p0, p1, p2, p3, p4, p5⟩ := shot_at old1 k s hs
      obtain ⟨r0, r1, r2, r3, r4, r5⟩ := shot_at old2 k s hs
      have k3 := (cell_of_row _ _ 58 _ _ _ (HB.out.holds _ (List.mem_cons_self ..))).trans Hs2.out
      have k2 := (cell_of_row _ _ 58 _ _ _ (HB.out.holds _ (List.mem_cons_of_mem _ (List.mem_cons_self ..)))).trans Hs1.out
      clear old1 old2 hc1 hc2 hs
      go_wp2_with fail
      go_quiet (fail)
      have HB' := Lib.hid (HB.out.call (below_drewN (Below.refl _ _) nq))
      clear HB p0 p1 p2 p3 p4 p5 r0 r1 r2 r3 r4 r5 k2 k3
      go_wp2_with fail
      exact ⟨⟨k + 1, hlt, rfl, HB'⟩, by simp only [intOf]; omega⟩
    · obtain rfl : k = L.length := by omega
      have H := HB.out
      clear HB
      go_wp2_with (refine wb_cell H rfl 1 26 _ rfl _ 58 rfl _ _ rfl Try.isAgg26 (.slice ad1 L.length c1) Hs1.out ?_)
      go_ret
      exact ⟨rfl, H.below⟩
end Go.Proofs.Ytijnfeigoggaeaa.game
