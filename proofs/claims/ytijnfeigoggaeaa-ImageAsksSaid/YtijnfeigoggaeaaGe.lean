/- image.Get: a state from its bytes (printed by mkget.py). -/
import Derived.Test.YtijnfeigoggaeaaGx
import Derived.Test.YtijnfeigoggaeaaEb
import Derived.Test.YtijnfeigoggaeaaPf
namespace Go.Proofs.Ytijnfeigoggaeaa.game
open Go.ChangeShapes Go.WideShapes Go.ChangeAt Go.RowKit dice
set_option maxRecDepth 100000

theorem Sb.nilRow {Hs : List Nat} {W0 w : World} {l : List Blk} (h : Sb Hs W0 w l []) : Sb Hs W0 w l [(.slice none 0 0, [])] := by
  refine ⟨h.os, h.tape, h.output, h.size, h.fr, h.holds, h.ge, h.nd, fun r hr => ?_, fun r hr k hk => ?_, fun r hr p _ hk => ?_, by simp⟩
  · rw [List.mem_singleton] at hr; subst hr; exact World.ownsRow_nil ..
  · rw [List.mem_singleton] at hr; subst hr; simp [Value.ownBlock] at hk
  · rw [List.mem_singleton] at hr; subst hr; simp [Value.ownBlock] at hk
theorem fieldAt35_0w (b : Nat) (w : World) : (Instr.fieldAt 35 (.pointer (some ⟨b, 0, none⟩)) 0).run Try.prog w = .ok (.pointer (some ⟨b, 0, none⟩)) w := by go_simp
theorem fieldAt28_3w (b : Nat) (w : World) : (Instr.fieldAt 28 (.pointer (some ⟨b, 0, none⟩)) 3).run Try.prog w = .ok (.pointer (some ⟨b, 58, none⟩)) w := by go_simp
theorem sc_one {W : World} {s : Ste} {sl : Value} (h : ShotsIn W sl s.g.L) : (Value.cells (.agg (stateC s sl))).toList.all (·.oneCell') = true := by
  have hs : sl.oneCell' = true := by rcases h with ⟨_, rfl⟩ | ⟨_, _, _, rfl, _⟩ <;> rfl
  rw [List.all_eq_true]
  intro v hv
  simp [Value.cells, stateC, stateL, shipsL, seatsL] at hv
  rcases hv with rfl | rfl | ⟨t, _, hm⟩ | rfl | rfl | ⟨q, _, hm⟩
  · rfl
  · rfl
  · simp [shipL] at hm
    rcases hm with rfl | rfl | rfl | rfl | rfl | rfl | rfl <;> rfl
  · exact hs
  · rfl
  · simp [seatL] at hm
    rcases hm with rfl | rfl <;> rfl
theorem st_size {fr d ver : Int} {S : List Shp} {L : List Sht} {T : List Seat} {sl : Value} (h8 : S.length = 8) (t8 : T.length = 8) : (stateC ⟨⟨fr, d, S, L⟩, ver, T⟩ sl).size = 76 := sc_size h8 t8
set_option maxHeartbeats 8000000 in
theorem get_any (v : Value) (b : List UInt8) (W0 : World) (hv : Bs W0 v b) :
    Calls Try.prog 19 #[v] W0 (GetPost b W0) := by
  have H := Sb.start W0
  have hmf : ∀ (fn : Fn) (first cap : Array Value) (w : World), (Instr.makeFunc fn first cap).run Try.prog w = .ok (.func fn first cap) w := fun _ _ _ _ => rfl
  obtain ⟨ad, c, hv0⟩ : ∃ ad c, v = .slice ad b.length c := ⟨_, _, hv.choose_spec.choose_spec.1⟩
  subst hv0
  have HV0 := Lib.hid hv
  clear hv
  go_enter_defers Try.func19, Try.ntmps19
  go_wp2_with (first | (refine wb_alloc H rfl 35 rfl _ Try.zeroValue35 ?_; clear H; intro p w H) | (refine wb_alloc H rfl 3 rfl _ Try.zeroValue3 ?_; clear H; intro q w H) | (refine wb_box H rfl 95 _ rfl #[.slice ad b.length c] rfl ?_; clear H; intro r w H))
  replace H : Sb [] W0 w [(r, #[.slice ad b.length c], 95), (q, #[.int .i64 0], 3), (p, stateC zSte (.slice none 0 0), 35)] [] := H
  have hpq : p ≠ q := by
    have := H.nd
    simp at this
    omega
  have Hpq := Lib.hid hpq
  clear hpq hmf
  unfold zSte at H
  refine (rd_step H 0 r rfl HV0.out 4 (by decide) (by decide) _ rfl).mono ?_
  intro e w' hR
  unfold RdOut at hR
  cases hdfr : rd 4 b with
  | none =>
    rw [hdfr] at hR
    obtain ⟨rfl, hS⟩ := hR
    exact door_bad (e0 := .int .i64 0) hS (List.mem_cons_of_mem _ (List.mem_cons_of_mem _ (List.mem_cons_self ..))) (List.mem_cons_of_mem _ (List.mem_cons_self ..)) Hpq.out (st_size (by simp) (by simp)) (getF_none (by simp [parse, hdfr])) rfl rfl
  | some xfr =>
    obtain ⟨fr, bsfr⟩ := xfr
    have hlfr : fr < 4294967296 := (rd_back hdfr).2
    rw [hdfr] at hR
    obtain ⟨rfl, vfr, hvfr, hS⟩ := hR
    replace H : Sb [] W0 w' [(r, #[vfr], 95), (q, #[.int .i64 0], 3), (p, stateC ⟨⟨0, 0, List.replicate 8 zShp, []⟩, 0, List.replicate 8 ⟨0, 0⟩⟩ (.slice none 0 0), 35)] [] := hS
    have HVfr := Lib.hid hvfr
    have Hdfr := Lib.hid hdfr
    clear hS hvfr hdfr
    go_wp2_with fail
    refine (rd_step H 0 r rfl HVfr.out 8 (by decide) (by decide) _ rfl).mono ?_
    intro e w' hR
    unfold RdOut at hR
    cases hdd : rd 8 bsfr with
    | none =>
      rw [hdd] at hR
      obtain ⟨rfl, hS⟩ := hR
      exact door_bad (e0 := .int .i64 0) hS (List.mem_cons_of_mem _ (List.mem_cons_of_mem _ (List.mem_cons_self ..))) (List.mem_cons_of_mem _ (List.mem_cons_self ..)) Hpq.out (st_size (by simp) (by simp)) (getF_none (by simp [parse, Hdfr.out, hdd])) rfl rfl
    | some xd =>
      obtain ⟨d, bsd⟩ := xd
      have hld : d < 18446744073709551616 := (rd_back hdd).2
      rw [hdd] at hR
      obtain ⟨rfl, vd, hvd, hS⟩ := hR
      replace H : Sb [] W0 w' [(r, #[vd], 95), (q, #[.int .i64 0], 3), (p, stateC ⟨⟨0, 0, List.replicate 8 zShp, []⟩, 0, List.replicate 8 ⟨0, 0⟩⟩ (.slice none 0 0), 35)] [] := hS
      have HVd := Lib.hid hvd
      have Hdd := Lib.hid hdd
      clear hS hvd hdd
      go_wp2_with (first | (refine wb_put H rfl 2 3 _ _ rfl _ 0 rfl _ _ rfl (.int .i64 fr) rfl 1 info3 rfl (by rw [st_size (by simp) (by simp)]; omega) rfl (stateC ⟨⟨fr, 0, List.replicate 8 zShp, []⟩, 0, List.replicate 8 ⟨0, 0⟩⟩ (.slice none 0 0)) (sc_putFr _) ?_; clear H; intro w H) | (refine wb_put H rfl 2 22 _ _ rfl _ 1 rfl _ _ rfl (.int .u64 d) rfl 1 info22 rfl (by rw [st_size (by simp) (by simp)]; omega) rfl (stateC ⟨⟨fr, d, List.replicate 8 zShp, []⟩, 0, List.replicate 8 ⟨0, 0⟩⟩ (.slice none 0 0)) (sc_putD _) ?_; clear H; intro w H))
      have HB : Hid (Sb [] W0 w [(r, #[vd], 95), (q, #[.int .i64 0], 3), (p, stateC ⟨⟨fr, d, List.replicate 8 zShp, []⟩, 0, List.replicate 8 ⟨0, 0⟩⟩ (.slice none 0 0), 35)] []) := Lib.hid H
      have HG : Hid (parse false b = rdMany (rdShip false) (rdMid fr d) 8 [] bsd) := Lib.hid (by simp [parse, Hdfr.out, Hdd.out])
      clear H hlfr hld Hdfr Hdd HVfr
      go_loopw [23] (fun i W => ∃ (k : Nat) (D : List Shp) (bk : List UInt8) (vk : Value), k ≤ 8 ∧ i = .int .i64 k ∧ Hid (Sb [] W0 W [(r, #[vk], 95), (q, #[.int .i64 0], 3), (p, stateC ⟨⟨fr, d, D ++ List.replicate (8 - k) zShp, []⟩, 0, List.replicate 8 ⟨0, 0⟩⟩ (.slice none 0 0), 35)] []) ∧ Hid (Bs W0 vk bk) ∧ Hid (D.length = k ∧ parse false b = rdMany (rdShip false) (rdMid fr d) (8 - k) D bk)) (fun i _ => 8 - (intOf i).toNat)
      case atStart => exact ⟨0, [], bsd, vd, Nat.zero_le _, rfl, HB, HVd, Lib.hid ⟨rfl, HG.out⟩⟩
      case round =>
        clear HB HG HVd
        obtain ⟨k, D, bk, vk, hk, rfl, HB, HV, HG⟩ := hrel
        by_cases hlt : k < 8
        · have hrep := rep_cons k hlt zShp
          have H := HB.out
          rw [hrep] at H
          have HG2 : Hid (parse false b = rdMany (rdShip false) (rdMid fr d) (8 - (k + 1) + 1) D bk) := Lib.hid (by rw [show 8 - (k + 1) + 1 = 8 - k by omega]; exact HG.out.2)
          have Hs8 : Hid (∀ z : Shp, (D ++ z :: List.replicate (8 - (k + 1)) zShp).length = 8) := Lib.hid (fun z => by have := HG.out.1; simp; omega)
          have hDl := Lib.hid HG.out.1
          clear HB hrep HG
          go_wp2_with fail
          refine (rd_step H 0 r rfl HV.out 1 (by decide) (by decide) _ rfl).mono ?_
          intro e w' hR
          unfold RdOut at hR
          cases hdf : rd 1 bk with
          | none =>
            rw [hdf] at hR
            obtain ⟨rfl, hS⟩ := hR
            exact door_bad (e0 := .int .i64 0) hS (List.mem_cons_of_mem _ (List.mem_cons_of_mem _ (List.mem_cons_self ..))) (List.mem_cons_of_mem _ (List.mem_cons_self ..)) Hpq.out (st_size (Hs8.out _) (by simp)) (getF_none (HG2.out.trans (rdMany_none (by simp [rdShip, hdf])))) rfl rfl
          | some xf =>
            obtain ⟨f, bsf⟩ := xf
            have hlf : f < 256 := (rd_back hdf).2
            rw [hdf] at hR
            obtain ⟨rfl, vf, hvf, hS⟩ := hR
            replace H : Sb [] W0 w' [(r, #[vf], 95), (q, #[.int .i64 0], 3), (p, stateC ⟨⟨fr, d, D ++ zShp :: List.replicate (8 - (k + 1)) zShp, []⟩, 0, List.replicate 8 ⟨0, 0⟩⟩ (.slice none 0 0), 35)] [] := hS
            have HVf := Lib.hid hvf
            have Hdf := Lib.hid hdf
            clear hS hvf hdf
            by_cases hf : f = 1
            · subst hf
              go_wp2_with fail
              refine (small_step H 0 r rfl HVf.out).mono ?_
              intro e w' hR
              unfold RdOut at hR
              cases hdx : rd 4 bsf with
              | none =>
                rw [hdx] at hR
                obtain ⟨rfl, hS⟩ := hR
                exact door_bad (e0 := .int .i64 0) hS (List.mem_cons_of_mem _ (List.mem_cons_of_mem _ (List.mem_cons_self ..))) (List.mem_cons_of_mem _ (List.mem_cons_self ..)) Hpq.out (st_size (Hs8.out _) (by simp)) (getF_none (HG2.out.trans (rdMany_none (by simp [rdShip, Hdf.out, hdx])))) rfl rfl
              | some xx =>
                obtain ⟨x, bsx⟩ := xx
                have hlx : x < 4294967296 := (rd_back hdx).2
                rw [hdx] at hR
                obtain ⟨rfl, vx, hvx, hS⟩ := hR
                replace H : Sb [] W0 w' [(r, #[vx], 95), (q, #[.int .i64 0], 3), (p, stateC ⟨⟨fr, d, D ++ zShp :: List.replicate (8 - (k + 1)) zShp, []⟩, 0, List.replicate 8 ⟨0, 0⟩⟩ (.slice none 0 0), 35)] [] := hS
                have HVx := Lib.hid hvx
                have Hdx := Lib.hid hdx
                clear hS hvx hdx
                go_wp2_with fail
                refine (small_step H 0 r rfl HVx.out).mono ?_
                intro e w' hR
                unfold RdOut at hR
                cases hdy : rd 4 bsx with
                | none =>
                  rw [hdy] at hR
                  obtain ⟨rfl, hS⟩ := hR
                  exact door_bad (e0 := .int .i64 0) hS (List.mem_cons_of_mem _ (List.mem_cons_of_mem _ (List.mem_cons_self ..))) (List.mem_cons_of_mem _ (List.mem_cons_self ..)) Hpq.out (st_size (Hs8.out _) (by simp)) (getF_none (HG2.out.trans (rdMany_none (by simp [rdShip, Hdf.out, Hdx.out, hdy])))) rfl rfl
                | some xy =>
                  obtain ⟨y, bsy⟩ := xy
                  have hly : y < 4294967296 := (rd_back hdy).2
                  rw [hdy] at hR
                  obtain ⟨rfl, vy, hvy, hS⟩ := hR
                  replace H : Sb [] W0 w' [(r, #[vy], 95), (q, #[.int .i64 0], 3), (p, stateC ⟨⟨fr, d, D ++ zShp :: List.replicate (8 - (k + 1)) zShp, []⟩, 0, List.replicate 8 ⟨0, 0⟩⟩ (.slice none 0 0), 35)] [] := hS
                  have HVy := Lib.hid hvy
                  have Hdy := Lib.hid hdy
                  clear hS hvy hdy
                  go_wp2_with fail
                  refine (small_step H 0 r rfl HVy.out).mono ?_
                  intro e w' hR
                  unfold RdOut at hR
                  cases hdvx : rd 4 bsy with
                  | none =>
                    rw [hdvx] at hR
                    obtain ⟨rfl, hS⟩ := hR
                    exact door_bad (e0 := .int .i64 0) hS (List.mem_cons_of_mem _ (List.mem_cons_of_mem _ (List.mem_cons_self ..))) (List.mem_cons_of_mem _ (List.mem_cons_self ..)) Hpq.out (st_size (Hs8.out _) (by simp)) (getF_none (HG2.out.trans (rdMany_none (by simp [rdShip, Hdf.out, Hdx.out, Hdy.out, hdvx])))) rfl rfl
                  | some xvx =>
                    obtain ⟨vx, bsvx⟩ := xvx
                    have hlvx : vx < 4294967296 := (rd_back hdvx).2
                    rw [hdvx] at hR
                    obtain ⟨rfl, vvx, hvvx, hS⟩ := hR
                    replace H : Sb [] W0 w' [(r, #[vvx], 95), (q, #[.int .i64 0], 3), (p, stateC ⟨⟨fr, d, D ++ zShp :: List.replicate (8 - (k + 1)) zShp, []⟩, 0, List.replicate 8 ⟨0, 0⟩⟩ (.slice none 0 0), 35)] [] := hS
                    have HVvx := Lib.hid hvvx
                    have Hdvx := Lib.hid hdvx
                    clear hS hvvx hdvx
                    go_wp2_with fail
                    refine (small_step H 0 r rfl HVvx.out).mono ?_
                    intro e w' hR
                    unfold RdOut at hR
                    cases hdvy : rd 4 bsvx with
                    | none =>
                      rw [hdvy] at hR
                      obtain ⟨rfl, hS⟩ := hR
                      exact door_bad (e0 := .int .i64 0) hS (List.mem_cons_of_mem _ (List.mem_cons_of_mem _ (List.mem_cons_self ..))) (List.mem_cons_of_mem _ (List.mem_cons_self ..)) Hpq.out (st_size (Hs8.out _) (by simp)) (getF_none (HG2.out.trans (rdMany_none (by simp [rdShip, Hdf.out, Hdx.out, Hdy.out, Hdvx.out, hdvy])))) rfl rfl
                    | some xvy =>
                      obtain ⟨vy, bsvy⟩ := xvy
                      have hlvy : vy < 4294967296 := (rd_back hdvy).2
                      rw [hdvy] at hR
                      obtain ⟨rfl, vvy, hvvy, hS⟩ := hR
                      replace H : Sb [] W0 w' [(r, #[vvy], 95), (q, #[.int .i64 0], 3), (p, stateC ⟨⟨fr, d, D ++ zShp :: List.replicate (8 - (k + 1)) zShp, []⟩, 0, List.replicate 8 ⟨0, 0⟩⟩ (.slice none 0 0), 35)] [] := hS
                      have HVvy := Lib.hid hvvy
                      have Hdvy := Lib.hid hdvy
                      clear hS hvvy hdvy
                      go_wp2_with fail
                      refine (rd_step H 0 r rfl HVvy.out 1 (by decide) (by decide) _ rfl).mono ?_
                      intro e w' hR
                      unfold RdOut at hR
                      cases hdcl : rd 1 bsvy with
                      | none =>
                        rw [hdcl] at hR
                        obtain ⟨rfl, hS⟩ := hR
                        exact door_bad (e0 := .int .i64 0) hS (List.mem_cons_of_mem _ (List.mem_cons_of_mem _ (List.mem_cons_self ..))) (List.mem_cons_of_mem _ (List.mem_cons_self ..)) Hpq.out (st_size (Hs8.out _) (by simp)) (getF_none (HG2.out.trans (rdMany_none (by simp [rdShip, Hdf.out, Hdx.out, Hdy.out, Hdvx.out, Hdvy.out, hdcl])))) rfl rfl
                      | some xcl =>
                        obtain ⟨cl, bscl⟩ := xcl
                        have hlcl : cl < 256 := (rd_back hdcl).2
                        rw [hdcl] at hR
                        obtain ⟨rfl, vcl, hvcl, hS⟩ := hR
                        replace H : Sb [] W0 w' [(r, #[vcl], 95), (q, #[.int .i64 0], 3), (p, stateC ⟨⟨fr, d, D ++ zShp :: List.replicate (8 - (k + 1)) zShp, []⟩, 0, List.replicate 8 ⟨0, 0⟩⟩ (.slice none 0 0), 35)] [] := hS
                        have HVcl := Lib.hid hvcl
                        have Hdcl := Lib.hid hdcl
                        clear hS hvcl hdcl
                        go_wp2_with fail
                        refine (rd_step H 0 r rfl HVcl.out 4 (by decide) (by decide) _ rfl).mono ?_
                        intro e w' hR
                        unfold RdOut at hR
                        cases hdsc : rd 4 bscl with
                        | none =>
                          rw [hdsc] at hR
                          obtain ⟨rfl, hS⟩ := hR
                          exact door_bad (e0 := .int .i64 0) hS (List.mem_cons_of_mem _ (List.mem_cons_of_mem _ (List.mem_cons_self ..))) (List.mem_cons_of_mem _ (List.mem_cons_self ..)) Hpq.out (st_size (Hs8.out _) (by simp)) (getF_none (HG2.out.trans (rdMany_none (by simp [rdShip, Hdf.out, Hdx.out, Hdy.out, Hdvx.out, Hdvy.out, Hdcl.out, hdsc])))) rfl rfl
                        | some xsc =>
                          obtain ⟨sc, bssc⟩ := xsc
                          have hlsc : sc < 4294967296 := (rd_back hdsc).2
                          rw [hdsc] at hR
                          obtain ⟨rfl, vsc, hvsc, hS⟩ := hR
                          replace H : Sb [] W0 w' [(r, #[vsc], 95), (q, #[.int .i64 0], 3), (p, stateC ⟨⟨fr, d, D ++ zShp :: List.replicate (8 - (k + 1)) zShp, []⟩, 0, List.replicate 8 ⟨0, 0⟩⟩ (.slice none 0 0), 35)] [] := hS
                          have HVsc := Lib.hid hvsc
                          have Hdsc := Lib.hid hdsc
                          clear hS hvsc hdsc
                          have G1 := Lib.hid (sc_putShip (fr := fr) (d := d) (ver := 0) (L := []) (T := List.replicate 8 ⟨0, 0⟩) (sl := .slice none 0 0) D (List.replicate (8 - (k + 1)) zShp) zShp ⟨true, sg32 x, sg32 y, sg32 vx, sg32 vy, cl, sc⟩ k hDl.out)
                          have hft : 2 + k * 7 + 7 ≤ (stateC ⟨⟨fr, d, D ++ zShp :: List.replicate (8 - (k + 1)) zShp, []⟩, 0, List.replicate 8 ⟨0, 0⟩⟩ (.slice none 0 0)).size := by rw [st_size (Hs8.out _) (by simp)]; omega
                          go_wp2_with (refine wb_put H rfl 2 24 _ _ rfl _ (2 + k * 7) rfl _ _ rfl (.agg #[.bool true, .int .i32 (sg32 x), .int .i32 (sg32 y), .int .i32 (sg32 vx), .int .i32 (sg32 vy), .int .i64 cl, .int .i64 sc]) rfl 7 info24 rfl hft rfl _ G1.out ?_; clear H; intro w H)
                          replace H : Sb [] W0 w [(r, #[vsc], 95), (q, #[.int .i64 0], 3), (p, stateC ⟨⟨fr, d, D ++ ⟨true, sg32 x, sg32 y, sg32 vx, sg32 vy, cl, sc⟩ :: List.replicate (8 - (k + 1)) zShp, []⟩, 0, List.replicate 8 ⟨0, 0⟩⟩ (.slice none 0 0), 35)] [] := H
                          exact ⟨⟨k + 1, D ++ [⟨true, sg32 x, sg32 y, sg32 vx, sg32 vy, cl, sc⟩], bssc, vsc, hlt, rfl, Lib.hid (by rw [List.append_assoc]; exact H), HVsc, Lib.hid ⟨by rw [List.length_append, hDl.out]; rfl, HG2.out.trans (rdMany_step (by simp [rdShip, Hdf.out, Hdx.out, Hdy.out, Hdvx.out, Hdvy.out, Hdcl.out, Hdsc.out]))⟩⟩, by simp only [intOf]; omega⟩
            · have hf' : ¬ (f : Int) = 1 := by omega
              go_wp2_with fail
              exact ⟨⟨k + 1, D ++ [zShp], bsf, vf, hlt, rfl, Lib.hid (by rw [List.append_assoc]; exact H), HVf, Lib.hid ⟨by rw [List.length_append, hDl.out]; rfl, HG2.out.trans (rdMany_step (by simp [rdShip, Hdf.out, hf]))⟩⟩, by simp only [intOf]; omega⟩
        · obtain rfl : k = 8 := by omega
          have H := HB.out
          rw [show 8 - 8 = 0 from rfl, List.replicate_zero, List.append_nil] at H
          have HD8 := Lib.hid HG.out.1
          have HG2 : Hid (parse false b = rdMid fr d D bk) := Lib.hid HG.out.2
          clear HB HG
          go_wp2_with fail
          refine (rd_step H 0 r rfl HV.out 1 (by decide) (by decide) _ rfl).mono ?_
          intro e w' hR
          unfold RdOut at hR
          cases hdn : rd 1 bk with
          | none =>
            rw [hdn] at hR
            obtain ⟨rfl, hS⟩ := hR
            exact door_bad (e0 := .int .i64 0) hS (List.mem_cons_of_mem _ (List.mem_cons_of_mem _ (List.mem_cons_self ..))) (List.mem_cons_of_mem _ (List.mem_cons_self ..)) Hpq.out (st_size HD8.out (by simp)) (getF_none (HG2.out.trans (by simp [rdMid, hdn]))) rfl rfl
          | some xn =>
            obtain ⟨n, bsn⟩ := xn
            have hln : n < 256 := (rd_back hdn).2
            rw [hdn] at hR
            obtain ⟨rfl, vn, hvn, hS⟩ := hR
            replace H : Sb [] W0 w' [(r, #[vn], 95), (q, #[.int .i64 0], 3), (p, stateC ⟨⟨fr, d, D, []⟩, 0, List.replicate 8 ⟨0, 0⟩⟩ (.slice none 0 0), 35)] [] := hS
            have HVn := Lib.hid hvn
            have Hdn := Lib.hid hdn
            clear hS hvn hdn
            have HB := Lib.hid H
            have HG3 : Hid (parse false b = rdMany rdShot (fun L b => rdEnd ⟨fr, d, D, L⟩ b) n [] bsn) := Lib.hid (HG2.out.trans (by simp [rdMid, Hdn.out]))
            clear H HG2 Hdn HV
            go_wp2_with fail
            go_loopw [6] (fun x W => ∃ (m : Nat) (L : List Sht) (bk : List UInt8) (vk sl : Value), m < 256 ∧ x = .int .u64 m ∧ Hid (Sb [] W0 W [(r, #[vk], 95), (q, #[.int .i64 0], 3), (p, stateC ⟨⟨fr, d, D, L⟩, 0, List.replicate 8 ⟨0, 0⟩⟩ sl, 35)] [(sl, L)]) ∧ Hid (Bs W0 vk bk) ∧ Hid (L.length + m < 256 ∧ parse false b = rdMany rdShot (fun L b => rdEnd ⟨fr, d, D, L⟩ b) m L bk)) (fun x _ => (intOf x).toNat)
            case atStart => exact ⟨n, [], bsn, vn, .slice none 0 0, hln, rfl, Lib.hid (Sb.nilRow HB.out), HVn, Lib.hid ⟨by simpa using hln, HG3.out⟩⟩
            case round =>
              clear HB HG3 HVn
              obtain ⟨m, L, bk, vk, sl, hm, rfl, HB, HV, HG⟩ := hrel
              by_cases hm0 : m = 0
              · subst hm0
                have H := HB.out
                have HG2 : Hid (parse false b = rdEnd ⟨fr, d, D, L⟩ bk) := Lib.hid HG.out.2
                clear HB HG
                go_wp2_with fail
                refine (rd_step H 0 r rfl HV.out 4 (by decide) (by decide) _ rfl).mono ?_
                intro e w' hR
                unfold RdOut at hR
                cases hdver : rd 4 bk with
                | none =>
                  rw [hdver] at hR
                  obtain ⟨rfl, hS⟩ := hR
                  exact door_bad (e0 := .int .i64 0) hS (List.mem_cons_of_mem _ (List.mem_cons_of_mem _ (List.mem_cons_self ..))) (List.mem_cons_of_mem _ (List.mem_cons_self ..)) Hpq.out (st_size HD8.out (by simp)) (getF_none (HG2.out.trans (by simp [rdEnd, hdver]))) rfl rfl
                | some xver =>
                  obtain ⟨ver, bsver⟩ := xver
                  have hlver : ver < 4294967296 := (rd_back hdver).2
                  rw [hdver] at hR
                  obtain ⟨rfl, vver, hvver, hS⟩ := hR
                  replace H : Sb [] W0 w' [(r, #[vver], 95), (q, #[.int .i64 0], 3), (p, stateC ⟨⟨fr, d, D, L⟩, 0, List.replicate 8 ⟨0, 0⟩⟩ sl, 35)] [(sl, L)] := hS
                  have HVver := Lib.hid hvver
                  have Hdver := Lib.hid hdver
                  clear hS hvver hdver
                  go_wp2_with (refine wb_put H rfl 2 3 _ _ rfl _ 59 rfl _ _ rfl (.int .i64 ver) rfl 1 info3 rfl (by rw [st_size HD8.out (by simp)]; omega) rfl (stateC ⟨⟨fr, d, D, L⟩, ver, List.replicate 8 ⟨0, 0⟩⟩ sl) (sc_putVer HD8.out _) ?_; clear H; intro w H)
                  have HB : Hid (Sb [] W0 w [(r, #[vver], 95), (q, #[.int .i64 0], 3), (p, stateC ⟨⟨fr, d, D, L⟩, ver, List.replicate 8 ⟨0, 0⟩⟩ sl, 35)] [(sl, L)]) := Lib.hid H
                  have HG3 : Hid (parse false b = rdMany rdSeat (fun T b => some (⟨⟨fr, d, D, L⟩, ver, T⟩, b)) 8 [] bsver) := Lib.hid (HG2.out.trans (by simp [rdEnd, Hdver.out]))
                  clear H hlver Hdver HG2 HV
                  go_loopw [82] (fun i W => ∃ (k : Nat) (T : List Seat) (bk : List UInt8) (vk : Value), k ≤ 8 ∧ i = .int .i64 k ∧ Hid (Sb [] W0 W [(r, #[vk], 95), (q, #[.int .i64 0], 3), (p, stateC ⟨⟨fr, d, D, L⟩, ver, T ++ List.replicate (8 - k) ⟨0, 0⟩⟩ sl, 35)] [(sl, L)]) ∧ Hid (Bs W0 vk bk) ∧ Hid (T.length = k ∧ parse false b = rdMany rdSeat (fun T b => some (⟨⟨fr, d, D, L⟩, ver, T⟩, b)) (8 - k) T bk)) (fun i _ => 8 - (intOf i).toNat)
                  case atStart => exact ⟨0, [], bsver, vver, Nat.zero_le _, rfl, HB, HVver, Lib.hid ⟨rfl, HG3.out⟩⟩
                  case round =>
                    clear HB HG3 HVver
                    obtain ⟨k, T, bk, vk, hk, rfl, HB, HV, HG⟩ := hrel
                    by_cases hlt : k < 8
                    · have hrep := rep_cons k hlt (⟨0, 0⟩ : Seat)
                      have H := HB.out
                      rw [hrep] at H
                      have HG2 : Hid (parse false b = rdMany rdSeat (fun T b => some (⟨⟨fr, d, D, L⟩, ver, T⟩, b)) (8 - (k + 1) + 1) T bk) := Lib.hid (by rw [show 8 - (k + 1) + 1 = 8 - k by omega]; exact HG.out.2)
                      have Hs8 : Hid (∀ z : Seat, (T ++ z :: List.replicate (8 - (k + 1)) ⟨0, 0⟩).length = 8) := Lib.hid (fun z => by have := HG.out.1; simp; omega)
                      have hDl := Lib.hid HG.out.1
                      clear HB hrep HG
                      go_wp2_with fail
                      refine (rd_step H 0 r rfl HV.out 1 (by decide) (by decide) _ rfl).mono ?_
                      intro e w' hR
                      unfold RdOut at hR
                      cases hdpe : rd 1 bk with
                      | none =>
                        rw [hdpe] at hR
                        obtain ⟨rfl, hS⟩ := hR
                        exact door_bad (e0 := .int .i64 0) hS (List.mem_cons_of_mem _ (List.mem_cons_of_mem _ (List.mem_cons_self ..))) (List.mem_cons_of_mem _ (List.mem_cons_self ..)) Hpq.out (st_size HD8.out (Hs8.out _)) (getF_none (HG2.out.trans (rdMany_none (by simp [rdSeat, hdpe])))) rfl rfl
                      | some xpe =>
                        obtain ⟨pe, bspe⟩ := xpe
                        have hlpe : pe < 256 := (rd_back hdpe).2
                        rw [hdpe] at hR
                        obtain ⟨rfl, vpe, hvpe, hS⟩ := hR
                        replace H : Sb [] W0 w' [(r, #[vpe], 95), (q, #[.int .i64 0], 3), (p, stateC ⟨⟨fr, d, D, L⟩, ver, T ++ ⟨0, 0⟩ :: List.replicate (8 - (k + 1)) ⟨0, 0⟩⟩ sl, 35)] [(sl, L)] := hS
                        have HVpe := Lib.hid hvpe
                        have Hdpe := Lib.hid hdpe
                        clear hS hvpe hdpe
                        go_wp2_with fail
                        refine (rd_step H 0 r rfl HVpe.out 2 (by decide) (by decide) _ rfl).mono ?_
                        intro e w' hR
                        unfold RdOut at hR
                        cases hdge : rd 2 bspe with
                        | none =>
                          rw [hdge] at hR
                          obtain ⟨rfl, hS⟩ := hR
                          exact door_bad (e0 := .int .i64 0) hS (List.mem_cons_of_mem _ (List.mem_cons_of_mem _ (List.mem_cons_self ..))) (List.mem_cons_of_mem _ (List.mem_cons_self ..)) Hpq.out (st_size HD8.out (Hs8.out _)) (getF_none (HG2.out.trans (rdMany_none (by simp [rdSeat, Hdpe.out, hdge])))) rfl rfl
                        | some xge =>
                          obtain ⟨ge, bsge⟩ := xge
                          have hlge : ge < 65536 := (rd_back hdge).2
                          rw [hdge] at hR
                          obtain ⟨rfl, vge, hvge, hS⟩ := hR
                          replace H : Sb [] W0 w' [(r, #[vge], 95), (q, #[.int .i64 0], 3), (p, stateC ⟨⟨fr, d, D, L⟩, ver, T ++ ⟨0, 0⟩ :: List.replicate (8 - (k + 1)) ⟨0, 0⟩⟩ sl, 35)] [(sl, L)] := hS
                          have HVge := Lib.hid hvge
                          have Hdge := Lib.hid hdge
                          clear hS hvge hdge
                          have G1 := Lib.hid (sc_putSeat (fr := fr) (d := d) (ver := ver) (L := L) (sl := sl) HD8.out T (List.replicate (8 - (k + 1)) ⟨0, 0⟩) ⟨0, 0⟩ ⟨(pe : Int) - 1, ge⟩ k hDl.out)
                          have hft : 60 + k * 2 + 2 ≤ (stateC ⟨⟨fr, d, D, L⟩, ver, T ++ ⟨0, 0⟩ :: List.replicate (8 - (k + 1)) ⟨0, 0⟩⟩ sl).size := by rw [st_size HD8.out (Hs8.out _)]; omega
                          go_wp2_with (refine wb_put H rfl 2 30 _ _ rfl _ (60 + k * 2) rfl _ _ rfl (.agg #[.int .i64 ((pe : Int) - 1), .int .i64 ge]) rfl 2 info30 rfl hft rfl _ G1.out ?_; clear H; intro w H)
                          replace H : Sb [] W0 w [(r, #[vge], 95), (q, #[.int .i64 0], 3), (p, stateC ⟨⟨fr, d, D, L⟩, ver, T ++ ⟨(pe : Int) - 1, ge⟩ :: List.replicate (8 - (k + 1)) ⟨0, 0⟩⟩ sl, 35)] [(sl, L)] := H
                          exact ⟨⟨k + 1, T ++ [⟨(pe : Int) - 1, ge⟩], bsge, vge, hlt, rfl, Lib.hid (by rw [List.append_assoc]; exact H), HVge, Lib.hid ⟨by rw [List.length_append, hDl.out]; rfl, HG2.out.trans (rdMany_step (by simp [rdSeat, Hdpe.out, Hdge.out]))⟩⟩, by simp only [intOf]; omega⟩
                    · obtain rfl : k = 8 := by omega
                      have H := HB.out
                      rw [show 8 - 8 = 0 from rfl, List.replicate_zero, List.append_nil] at H
                      have HT8 := Lib.hid HG.out.1
                      have HG2 : Hid (parse false b = some (⟨⟨fr, d, D, L⟩, ver, T⟩, bk)) := Lib.hid HG.out.2
                      have Hsz := Lib.hid (st_size (fr := fr) (d := d) (ver := ver) (L := L) (sl := sl) HD8.out HT8.out)
                      clear HB HG HV
                      go_wp2_with (refine wb_whole H rfl 2 35 _ rfl _ rfl (stateC ⟨⟨fr, d, D, L⟩, ver, T⟩ sl) rfl _ Try.underlying35 rfl 76 info35 Hsz.out ?_)
                      have hfit : (⟨⟨fr, d, D, L⟩, ver, T⟩ : Ste).fits := parse_fits HG2.out
                      have hin : ShotsIn wr sl L := (H.rows _ (List.mem_cons_self ..)).shotsIn
                      have HONE := Lib.hid (sc_one (s := ⟨⟨fr, d, D, L⟩, ver, T⟩) hin)
                      cases hm : mayS ⟨⟨fr, d, D, L⟩, ver, T⟩ with
                      | false =>
                        have hgn : getF b = none := by unfold getF; rw [HG2.out]; simp [hm]
                        refine (put_no ⟨⟨fr, d, D, L⟩, ver, T⟩ sl _ hfit.wf HT8.out hin.w hm).mono ?_; rintro e w' ⟨rfl, hb⟩
                        replace H := H.call hb
                        clear hb hin HV0
                        go_wp2_with fail
                        exact door_bad (e0 := .int .i64 0) H (List.mem_cons_of_mem _ (List.mem_cons_of_mem _ (List.mem_cons_self ..))) (List.mem_cons_of_mem _ (List.mem_cons_self ..)) Hpq.out Hsz.out hgn rfl rfl
                      | true =>
                        refine (put_ok ⟨⟨fr, d, D, L⟩, ver, T⟩ sl _ hfit.wf HT8.out hin.w hm).mono ?_; rintro e w' ⟨v, rfl, hr, hb⟩
                        have HR := Lib.hid (Bs.of_row hr)
                        replace H := H.call hb
                        have HV2 := Lib.hid (HV0.out.later H.below)
                        clear hb hin HV0 hr
                        go_wp2_with fail
                        refine (equalB v _ (img ⟨⟨fr, d, D, L⟩, ver, T⟩) b _ HR.out HV2.out).mono ?_; rintro e w2 ⟨rfl, hb⟩
                        replace H := H.call hb
                        clear hb HR HV2
                        cases hq : (img ⟨⟨fr, d, D, L⟩, ver, T⟩ == b)
                        · have hgn : getF b = none := by unfold getF; rw [HG2.out]; simp [hm, hq]
                          go_wp2_with fail
                          exact door_bad (e0 := .int .i64 0) H (List.mem_cons_of_mem _ (List.mem_cons_of_mem _ (List.mem_cons_self ..))) (List.mem_cons_of_mem _ (List.mem_cons_self ..)) Hpq.out Hsz.out hgn rfl rfl
                        · have hgs : getF b = some ⟨⟨fr, d, D, L⟩, ver, T⟩ := by unfold getF; rw [HG2.out]; simp [hm, hq]
                          have Hspl : Hid (splice (stateC ⟨⟨fr, d, D, L⟩, ver, T⟩ sl) 0 (Value.cells (.agg (stateC ⟨⟨fr, d, D, L⟩, ver, T⟩ sl))).toList = stateC ⟨⟨fr, d, D, L⟩, ver, T⟩ sl) := Lib.hid (splice_all _ _ rfl)
                          have hft : 0 + 76 ≤ (stateC ⟨⟨fr, d, D, L⟩, ver, T⟩ sl).size := by rw [Hsz.out]; exact Nat.le_refl _
                          go_wp2_with (first | (refine wb_whole H rfl 2 35 _ rfl _ rfl (stateC ⟨⟨fr, d, D, L⟩, ver, T⟩ sl) rfl _ Try.underlying35 rfl 76 info35 Hsz.out ?_) | (refine wb_put H rfl 2 35 _ _ rfl _ 0 rfl _ _ rfl (.agg (stateC ⟨⟨fr, d, D, L⟩, ver, T⟩ sl)) rfl 76 info35 Hsz.out hft HONE.out _ Hspl.out ?_; clear H; intro w H) | (refine wb_put H rfl 1 3 _ _ rfl _ 0 rfl _ _ rfl (.int .i64 0) rfl 1 info3 rfl (Nat.le_of_ble_eq_true rfl) rfl #[.int .i64 0] rfl ?_; clear H; intro w H))
                          replace H : Sb [] W0 w [(r, #[vk], 95), (q, #[.int .i64 0], 3), (p, stateC ⟨⟨fr, d, D, L⟩, ver, T⟩ sl, 35)] [(sl, L)] := H
                          exact door_ok (s := ⟨⟨fr, d, D, L⟩, ver, T⟩) H (List.mem_cons_of_mem _ (List.mem_cons_of_mem _ (List.mem_cons_self ..))) (List.mem_cons_of_mem _ (List.mem_cons_self ..)) Hsz.out hgs rfl rfl
              · obtain ⟨m', rfl⟩ : ∃ m', m = m' + 1 := ⟨m - 1, by omega⟩
                have H := HB.out
                obtain ⟨ads, cap, hsl⟩ := own_form (H.rows _ (List.mem_cons_self ..))
                dsimp only at hsl
                subst hsl
                have HLm := Lib.hid HG.out.1
                have HG2 := Lib.hid HG.out.2
                have Hs58 := Lib.hid (sc_shots (s := ⟨⟨fr, d, D, L⟩, 0, List.replicate 8 ⟨0, 0⟩⟩) (sl := .slice ads L.length cap) HD8.out)
                clear HB HG hm0
                go_wp2_with fail
                have e0 := (H.call ((Below.refl _ wr).drew)).holds
                refine Gs_start (T := [((⟨p, 58, none⟩ : Addr), Value.slice ads L.length cap, 19)]) (n := 23) (by kernel_rfl) rfl ?_ ?_
                · intro t ht _
                  simp at ht
                  subst ht
                  exact (cell_of_row _ p 58 _ 35 (0, 0) (e0 _ (List.mem_cons_of_mem _ (List.mem_cons_of_mem _ (List.mem_cons_self ..))))).trans Hs58.out
                clear e0
                replace H : Sb [] W0 ({ wr with drawn := wr.drawn + 1 } : World) _ _ := H.call ((Below.refl _ wr).drew)
                generalize ({ wr with drawn := wr.drawn + 1 } : World) = w1 at *
                refine Gp_field 0 (by intro v c a w h; exact leaves_put (d := 55) (by decide) (by decide) _ _ _ h) (by kernel_rfl) rfl _ _ _ rfl rfl (some 55) rfl (by kernel_rfl) (by kernel_rfl) (HTof rfl) _ _ rfl (fieldAt35_0w _) ?_
                simp only [Act.put, List.setIfInBounds_toArray, List.set_cons_succ, List.set_cons_zero]
                refine Gp_field 1 (by intro v c a w h; exact leaves_put (d := 56) (by decide) (by decide) _ _ _ h) (by kernel_rfl) rfl _ _ _ rfl rfl (some 56) rfl (by kernel_rfl) (by kernel_rfl) (HTof rfl) _ _ rfl (fieldAt28_3w _) ?_
                simp only [Act.put, List.setIfInBounds_toArray, List.set_cons_succ, List.set_cons_zero]
                refine Gp_load 2 19 (by intro v c a w h; exact leaves_put (d := 57) (by decide) (by decide) _ _ _ h) (by kernel_rfl) rfl _ _ rfl rfl (some 57) rfl (by kernel_rfl) (by kernel_rfl) (HTof rfl) _ rfl Try.isAgg26 _ (List.Mem.head _) (by kernel_rfl) ?_
                simp only [Act.put, List.setIfInBounds_toArray, List.set_cons_succ, List.set_cons_zero]
                refine Gp_move 3 (by intro v c a w h; exact leaves_put (d := 58) (by decide) (by decide) _ _ _ h) (by kernel_rfl) rfl _ rfl rfl (some 58) rfl (by kernel_rfl) (by kernel_rfl) (HTof rfl) (.pointer _) rfl ?_
                simp only [Act.put, List.setIfInBounds_toArray, List.set_cons_succ, List.set_cons_zero]
                refine Gp_move 6 (by intro v c a w h; exact leaves_put (d := 61) (by decide) (by decide) _ _ _ h) (by kernel_rfl) rfl _ rfl rfl (some 61) rfl (by kernel_rfl) (by kernel_rfl) (HTof rfl) (.pointer _) rfl ?_
                simp only [Act.put, List.setIfInBounds_toArray, List.set_cons_succ, List.set_cons_zero]
                refine Gp_move 8 (by intro v c a w h; exact leaves_put (d := 63) (by decide) (by decide) _ _ _ h) (by kernel_rfl) rfl _ rfl rfl (some 63) rfl (by kernel_rfl) (by kernel_rfl) (HTof rfl) (.pointer _) rfl ?_
                simp only [Act.put, List.setIfInBounds_toArray, List.set_cons_succ, List.set_cons_zero]
                refine Gp_move 10 (by intro v c a w h; exact leaves_put (d := 65) (by decide) (by decide) _ _ _ h) (by kernel_rfl) rfl _ rfl rfl (some 65) rfl (by kernel_rfl) (by kernel_rfl) (HTof rfl) (.pointer _) rfl ?_
                simp only [Act.put, List.setIfInBounds_toArray, List.set_cons_succ, List.set_cons_zero]
                refine Gp_move 12 (by intro v c a w h; exact leaves_put (d := 67) (by decide) (by decide) _ _ _ h) (by kernel_rfl) rfl _ rfl rfl (some 67) rfl (by kernel_rfl) (by kernel_rfl) (HTof rfl) (.pointer _) rfl ?_
                simp only [Act.put, List.setIfInBounds_toArray, List.set_cons_succ, List.set_cons_zero]
                refine Gp_move 14 (by intro v c a w h; exact leaves_put (d := 69) (by decide) (by decide) _ _ _ h) (by kernel_rfl) rfl _ rfl rfl (some 69) rfl (by kernel_rfl) (by kernel_rfl) (HTof rfl) (.pointer _) rfl ?_
                simp only [Act.put, List.setIfInBounds_toArray, List.set_cons_succ, List.set_cons_zero]
                refine Gp_call 4 rfl rfl (some 59) rfl (by kernel_rfl) 54 #[.pointer (some ⟨r, 0, none⟩), .int .i64 1] (by go_simp) (rd_step H 0 r rfl HV.out 1 (by decide) (by decide) _ rfl) ?_
                intro e w' hR
                unfold RdOut at hR
                cases hdow : rd 1 bk with
                | none =>
                  rw [hdow] at hR
                  obtain ⟨rfl, hS⟩ := hR
                  exact .inl ⟨wrongP, rfl, door_bad (e0 := .int .i64 0) hS (List.mem_cons_of_mem _ (List.mem_cons_of_mem _ (List.mem_cons_self ..))) (List.mem_cons_of_mem _ (List.mem_cons_self ..)) Hpq.out (st_size HD8.out (by simp)) (getF_none (HG2.out.trans (rdMany_none (by simp [rdShot, hdow])))) rfl rfl⟩
                | some xow =>
                  obtain ⟨ow, bsow⟩ := xow
                  have hlow : ow < 256 := (rd_back hdow).2
                  rw [hdow] at hR
                  obtain ⟨rfl, vow, hvow, hS⟩ := hR
                  replace H : Sb [] W0 w' [(r, #[vow], 95), (q, #[.int .i64 0], 3), (p, stateC ⟨⟨fr, d, D, L⟩, 0, List.replicate 8 ⟨0, 0⟩⟩ (.slice ads L.length cap), 35)] [(.slice ads L.length cap, L)] := hS
                  have HVow := Lib.hid hvow
                  have Hdow := Lib.hid hdow
                  clear hS hvow hdow
                  refine .inr ⟨_, rfl, fun t ht => ?_, ?_⟩
                  · simp at ht
                    subst ht
                    exact (cell_of_row _ p 58 _ 35 (0, 0) (H.holds _ (List.mem_cons_of_mem _ (List.mem_cons_of_mem _ (List.mem_cons_self ..))))).trans Hs58.out
                  simp only [Act.put, List.setIfInBounds_toArray, List.set_cons_succ, List.set_cons_zero]
                  refine Gp_bin 5 (by intro v c a w h; exact leaves_put (d := 60) (by decide) (by decide) _ _ _ h) (by kernel_rfl) rfl rfl (some 60) rfl (by kernel_rfl) (by kernel_rfl) (HTof rfl) (.int .i64 ow) (fun w => by go_simp; first | done | (rw [i64_nat _ (by omega)])) ?_
                  simp only [Act.put, List.setIfInBounds_toArray, List.set_cons_succ, List.set_cons_zero]
                  refine Gp_call 7 rfl rfl (some 62) rfl (by kernel_rfl) 55 #[.pointer (some ⟨r, 0, none⟩)] (by go_simp) (small_step H 0 r rfl HVow.out) ?_
                  intro e w' hR
                  unfold RdOut at hR
                  cases hdx : rd 4 bsow with
                  | none =>
                    rw [hdx] at hR
                    obtain ⟨rfl, hS⟩ := hR
                    exact .inl ⟨wrongP, rfl, door_bad (e0 := .int .i64 0) hS (List.mem_cons_of_mem _ (List.mem_cons_of_mem _ (List.mem_cons_self ..))) (List.mem_cons_of_mem _ (List.mem_cons_self ..)) Hpq.out (st_size HD8.out (by simp)) (getF_none (HG2.out.trans (rdMany_none (by simp [rdShot, Hdow.out, hdx])))) rfl rfl⟩
                  | some xx =>
                    obtain ⟨x, bsx⟩ := xx
                    have hlx : x < 4294967296 := (rd_back hdx).2
                    rw [hdx] at hR
                    obtain ⟨rfl, vx, hvx, hS⟩ := hR
                    replace H : Sb [] W0 w' [(r, #[vx], 95), (q, #[.int .i64 0], 3), (p, stateC ⟨⟨fr, d, D, L⟩, 0, List.replicate 8 ⟨0, 0⟩⟩ (.slice ads L.length cap), 35)] [(.slice ads L.length cap, L)] := hS
                    have HVx := Lib.hid hvx
                    have Hdx := Lib.hid hdx
                    clear hS hvx hdx
                    refine .inr ⟨_, rfl, fun t ht => ?_, ?_⟩
                    · simp at ht
                      subst ht
                      exact (cell_of_row _ p 58 _ 35 (0, 0) (H.holds _ (List.mem_cons_of_mem _ (List.mem_cons_of_mem _ (List.mem_cons_self ..))))).trans Hs58.out
                    simp only [Act.put, List.setIfInBounds_toArray, List.set_cons_succ, List.set_cons_zero]
                    refine Gp_call 9 rfl rfl (some 64) rfl (by kernel_rfl) 55 #[.pointer (some ⟨r, 0, none⟩)] (by go_simp) (small_step H 0 r rfl HVx.out) ?_
                    intro e w' hR
                    unfold RdOut at hR
                    cases hdy : rd 4 bsx with
                    | none =>
                      rw [hdy] at hR
                      obtain ⟨rfl, hS⟩ := hR
                      exact .inl ⟨wrongP, rfl, door_bad (e0 := .int .i64 0) hS (List.mem_cons_of_mem _ (List.mem_cons_of_mem _ (List.mem_cons_self ..))) (List.mem_cons_of_mem _ (List.mem_cons_self ..)) Hpq.out (st_size HD8.out (by simp)) (getF_none (HG2.out.trans (rdMany_none (by simp [rdShot, Hdow.out, Hdx.out, hdy])))) rfl rfl⟩
                    | some xy =>
                      obtain ⟨y, bsy⟩ := xy
                      have hly : y < 4294967296 := (rd_back hdy).2
                      rw [hdy] at hR
                      obtain ⟨rfl, vy, hvy, hS⟩ := hR
                      replace H : Sb [] W0 w' [(r, #[vy], 95), (q, #[.int .i64 0], 3), (p, stateC ⟨⟨fr, d, D, L⟩, 0, List.replicate 8 ⟨0, 0⟩⟩ (.slice ads L.length cap), 35)] [(.slice ads L.length cap, L)] := hS
                      have HVy := Lib.hid hvy
                      have Hdy := Lib.hid hdy
                      clear hS hvy hdy
                      refine .inr ⟨_, rfl, fun t ht => ?_, ?_⟩
                      · simp at ht
                        subst ht
                        exact (cell_of_row _ p 58 _ 35 (0, 0) (H.holds _ (List.mem_cons_of_mem _ (List.mem_cons_of_mem _ (List.mem_cons_self ..))))).trans Hs58.out
                      simp only [Act.put, List.setIfInBounds_toArray, List.set_cons_succ, List.set_cons_zero]
                      refine Gp_call 11 rfl rfl (some 66) rfl (by kernel_rfl) 55 #[.pointer (some ⟨r, 0, none⟩)] (by go_simp) (small_step H 0 r rfl HVy.out) ?_
                      intro e w' hR
                      unfold RdOut at hR
                      cases hdvx : rd 4 bsy with
                      | none =>
                        rw [hdvx] at hR
                        obtain ⟨rfl, hS⟩ := hR
                        exact .inl ⟨wrongP, rfl, door_bad (e0 := .int .i64 0) hS (List.mem_cons_of_mem _ (List.mem_cons_of_mem _ (List.mem_cons_self ..))) (List.mem_cons_of_mem _ (List.mem_cons_self ..)) Hpq.out (st_size HD8.out (by simp)) (getF_none (HG2.out.trans (rdMany_none (by simp [rdShot, Hdow.out, Hdx.out, Hdy.out, hdvx])))) rfl rfl⟩
                      | some xvx =>
                        obtain ⟨vx, bsvx⟩ := xvx
                        have hlvx : vx < 4294967296 := (rd_back hdvx).2
                        rw [hdvx] at hR
                        obtain ⟨rfl, vvx, hvvx, hS⟩ := hR
                        replace H : Sb [] W0 w' [(r, #[vvx], 95), (q, #[.int .i64 0], 3), (p, stateC ⟨⟨fr, d, D, L⟩, 0, List.replicate 8 ⟨0, 0⟩⟩ (.slice ads L.length cap), 35)] [(.slice ads L.length cap, L)] := hS
                        have HVvx := Lib.hid hvvx
                        have Hdvx := Lib.hid hdvx
                        clear hS hvvx hdvx
                        refine .inr ⟨_, rfl, fun t ht => ?_, ?_⟩
                        · simp at ht
                          subst ht
                          exact (cell_of_row _ p 58 _ 35 (0, 0) (H.holds _ (List.mem_cons_of_mem _ (List.mem_cons_of_mem _ (List.mem_cons_self ..))))).trans Hs58.out
                        simp only [Act.put, List.setIfInBounds_toArray, List.set_cons_succ, List.set_cons_zero]
                        refine Gp_call 13 rfl rfl (some 68) rfl (by kernel_rfl) 55 #[.pointer (some ⟨r, 0, none⟩)] (by go_simp) (small_step H 0 r rfl HVvx.out) ?_
                        intro e w' hR
                        unfold RdOut at hR
                        cases hdvy : rd 4 bsvx with
                        | none =>
                          rw [hdvy] at hR
                          obtain ⟨rfl, hS⟩ := hR
                          exact .inl ⟨wrongP, rfl, door_bad (e0 := .int .i64 0) hS (List.mem_cons_of_mem _ (List.mem_cons_of_mem _ (List.mem_cons_self ..))) (List.mem_cons_of_mem _ (List.mem_cons_self ..)) Hpq.out (st_size HD8.out (by simp)) (getF_none (HG2.out.trans (rdMany_none (by simp [rdShot, Hdow.out, Hdx.out, Hdy.out, Hdvx.out, hdvy])))) rfl rfl⟩
                        | some xvy =>
                          obtain ⟨vy, bsvy⟩ := xvy
                          have hlvy : vy < 4294967296 := (rd_back hdvy).2
                          rw [hdvy] at hR
                          obtain ⟨rfl, vvy, hvvy, hS⟩ := hR
                          replace H : Sb [] W0 w' [(r, #[vvy], 95), (q, #[.int .i64 0], 3), (p, stateC ⟨⟨fr, d, D, L⟩, 0, List.replicate 8 ⟨0, 0⟩⟩ (.slice ads L.length cap), 35)] [(.slice ads L.length cap, L)] := hS
                          have HVvy := Lib.hid hvvy
                          have Hdvy := Lib.hid hdvy
                          clear hS hvvy hdvy
                          refine .inr ⟨_, rfl, fun t ht => ?_, ?_⟩
                          · simp at ht
                            subst ht
                            exact (cell_of_row _ p 58 _ 35 (0, 0) (H.holds _ (List.mem_cons_of_mem _ (List.mem_cons_of_mem _ (List.mem_cons_self ..))))).trans Hs58.out
                          simp only [Act.put, List.setIfInBounds_toArray, List.set_cons_succ, List.set_cons_zero]
                          refine Gp_call 15 rfl rfl (some 70) rfl (by kernel_rfl) 54 #[.pointer (some ⟨r, 0, none⟩), .int .i64 1] (by go_simp) (rd_step H 0 r rfl HVvy.out 1 (by decide) (by decide) _ rfl) ?_
                          intro e w' hR
                          unfold RdOut at hR
                          cases hdlf : rd 1 bsvy with
                          | none =>
                            rw [hdlf] at hR
                            obtain ⟨rfl, hS⟩ := hR
                            exact .inl ⟨wrongP, rfl, door_bad (e0 := .int .i64 0) hS (List.mem_cons_of_mem _ (List.mem_cons_of_mem _ (List.mem_cons_self ..))) (List.mem_cons_of_mem _ (List.mem_cons_self ..)) Hpq.out (st_size HD8.out (by simp)) (getF_none (HG2.out.trans (rdMany_none (by simp [rdShot, Hdow.out, Hdx.out, Hdy.out, Hdvx.out, Hdvy.out, hdlf])))) rfl rfl⟩
                          | some xlf =>
                            obtain ⟨lf, bslf⟩ := xlf
                            have hllf : lf < 256 := (rd_back hdlf).2
                            rw [hdlf] at hR
                            obtain ⟨rfl, vlf, hvlf, hS⟩ := hR
                            replace H : Sb [] W0 w' [(r, #[vlf], 95), (q, #[.int .i64 0], 3), (p, stateC ⟨⟨fr, d, D, L⟩, 0, List.replicate 8 ⟨0, 0⟩⟩ (.slice ads L.length cap), 35)] [(.slice ads L.length cap, L)] := hS
                            have HVlf := Lib.hid hvlf
                            have Hdlf := Lib.hid hdlf
                            clear hS hvlf hdlf
                            refine .inr ⟨_, rfl, fun t ht => ?_, ?_⟩
                            · simp at ht
                              subst ht
                              exact (cell_of_row _ p 58 _ 35 (0, 0) (H.holds _ (List.mem_cons_of_mem _ (List.mem_cons_of_mem _ (List.mem_cons_self ..))))).trans Hs58.out
                            simp only [Act.put, List.setIfInBounds_toArray, List.set_cons_succ, List.set_cons_zero]
                            refine Gp_bin 16 (by intro v c a w h; exact leaves_put (d := 71) (by decide) (by decide) _ _ _ h) (by kernel_rfl) rfl rfl (some 71) rfl (by kernel_rfl) (by kernel_rfl) (HTof rfl) (.int .i64 lf) (fun w => by go_simp; first | done | (rw [i64_nat _ (by omega)])) ?_
                            simp only [Act.put, List.setIfInBounds_toArray, List.set_cons_succ, List.set_cons_zero]
                            refine Gs_bin' 17 rfl rfl (some 72) rfl (by kernel_rfl) (.agg #[.int .i64 ow, .int .i32 (sg32 x), .int .i32 (sg32 y), .int .i32 (sg32 vx), .int .i32 (sg32 vy), .int .i64 lf]) (fun w => by go_simp) ?_
                            simp only [Act.put, List.setIfInBounds_toArray, List.set_cons_succ, List.set_cons_zero]
                            refine Gs_alloc 18 rfl rfl (some 73) rfl (by kernel_rfl) (.slice (some ⟨w'.heap.size, 0, none⟩) 1 1) (.cells #[.int .i64 ow, .int .i32 (sg32 x), .int .i32 (sg32 y), .int .i32 (sg32 vx), .int .i32 (sg32 vy), .int .i64 lf] 79) (by go_simp) ?_
                            simp only [Act.put, List.setIfInBounds_toArray, List.set_cons_succ, List.set_cons_zero]
                            refine Gs_tail' 19 (by kernel_rfl) rfl (by kernel_rfl) rfl ?_
                            simp only [List.drop_succ_cons, List.drop_zero]
                            have HN := H.new #[.int .i64 ow, .int .i32 (sg32 x), .int .i32 (sg32 y), .int .i32 (sg32 vx), .int .i32 (sg32 vy), .int .i64 lf] 79
                            have Hrow2 := Lib.hid (HN.rows _ (List.mem_cons_self ..))
                            have Hnews : Hid (∀ j u, (shotL (⟨ow, sg32 x, sg32 y, sg32 vx, sg32 vy, lf⟩ : Sht))[j]? = some u → (w'.alloc (.cells #[.int .i64 ow, .int .i32 (sg32 x), .int .i32 (sg32 y), .int .i32 (sg32 vx), .int .i32 (sg32 vy), .int .i64 lf] 79)).cell? ((⟨w'.heap.size, 0, none⟩ : Addr).add j) = some u) := Lib.hid (fun j u hu => by
                              have a1 : (⟨w'.heap.size, 0, none⟩ : Addr).add j = ⟨w'.heap.size, j, none⟩ := by unfold Addr.add; split <;> simp_all
                              rw [a1, cell_new]
                              show (shotL (⟨ow, sg32 x, sg32 y, sg32 vx, sg32 vy, lf⟩ : Sht)).toArray[j]? = some u
                              rw [List.getElem?_toArray]
                              exact hu)
                            have Hone : Hid (∀ u ∈ shotL (⟨ow, sg32 x, sg32 y, sg32 vx, sg32 vy, lf⟩ : Sht), u.oneCell' = true) := Lib.hid (fun u hu => cellsL_one [(⟨ow, sg32 x, sg32 y, sg32 vx, sg32 vy, lf⟩ : Sht)] u (by simpa [cellsL] using hu))
                            have hmx : L.length + 1 ≤ maxLen := by have := HLm.out; unfold maxLen; omega
                            have hbt : (L.length + 1) * 32 ≤ 140737488355328 := by have := HLm.out; omega
                            have HNh := Lib.hid HN
                            obtain ⟨i0, hi, hz0, hz1, hz2⟩ := info_shot
                            clear HN H
                            go_wp2_with (first | (at_builtin; refine wpList_append_own_at _ rfl _ _ 26 rfl 0 79 i0 (.agg #[.int .i64 0, .int .i32 0, .int .i32 0, .int .i32 0, .int .i32 0, .int .i64 0]) 6 32 Try.underlying26 hi hz0 hz1 hz2 rfl (by decide) _ L.length (cellsL L) rfl Hrow2.out ⟨w'.heap.size, 0, none⟩ 1 1 (shotL (⟨ow, sg32 x, sg32 y, sg32 vx, sg32 vy, lf⟩ : Sht)) rfl rfl Hnews.out Hone.out hmx hbt (Nat.zero_le _) ?_; intro v' w9 hown' hgrow hnil' hblk; have hon9 := own_snoc hown'; have H9 := HNh.out.append 0 (.slice ads L.length cap) v' L (L ++ [(⟨ow, sg32 x, sg32 y, sg32 vx, sg32 vy, lf⟩ : Sht)]) rfl hon9 hgrow hblk; obtain ⟨ad9, c9, hv9⟩ := own_form hon9; rw [show (L ++ [(⟨ow, sg32 x, sg32 y, sg32 vx, sg32 vy, lf⟩ : Sht)]).length = L.length + 1 by simp] at hv9; subst hv9; clear hown' hgrow hnil' hblk hon9) | (refine wb_put H9 rfl 3 26 _ _ rfl _ 58 rfl _ _ rfl (.slice ad9 (L.length + 1) c9) rfl 1 info26 rfl (by rw [st_size HD8.out (by simp)]; omega) rfl (stateC ⟨⟨fr, d, D, L ++ [(⟨ow, sg32 x, sg32 y, sg32 vx, sg32 vy, lf⟩ : Sht)]⟩, 0, List.replicate 8 ⟨0, 0⟩⟩ (.slice ad9 (L.length + 1) c9)) (sc_putShots HD8.out _) ?_; clear H9; intro w9 H9))
                            replace H9 : Sb [] W0 w9 [(w'.heap.size, _, 79), (r, #[vlf], 95), (q, #[.int .i64 0], 3), (p, stateC ⟨⟨fr, d, D, L ++ [(⟨ow, sg32 x, sg32 y, sg32 vx, sg32 vy, lf⟩ : Sht)]⟩, 0, List.replicate 8 ⟨0, 0⟩⟩ (.slice ad9 (L.length + 1) c9), 35)] [(.slice ad9 (L.length + 1) c9, L ++ [(⟨ow, sg32 x, sg32 y, sg32 vx, sg32 vy, lf⟩ : Sht)])] := H9
                            exact ⟨⟨m', L ++ [(⟨ow, sg32 x, sg32 y, sg32 vx, sg32 vy, lf⟩ : Sht)], bslf, vlf, _, by omega, rfl, Lib.hid H9.tail, HVlf, Lib.hid ⟨by have := HLm.out; simp; omega, HG2.out.trans (rdMany_step (by simp [rdShot, Hdow.out, Hdx.out, Hdy.out, Hdvx.out, Hdvy.out, Hdlf.out]))⟩⟩, by simp only [intOf]; omega⟩
end Go.Proofs.Ytijnfeigoggaeaa.game
