/- image.Sum, image.Of. -/
import Derived.Test.YtijnfeigoggaeaaEb
import Derived.Laws.IdiomStrings
namespace Go.Proofs.Ytijnfeigoggaeaa.game
open Go.ChangeShapes Go.WideShapes Go.ChangeAt Go.RowKit dice
set_option maxRecDepth 100000

def strB (l : List UInt8) : ByteArray := ⟨l.toArray⟩
theorem convNilB (ad : Option Addr) (c : Nat) (W : World) : (convert 36 9 (.slice ad 0 c)).run Try.prog W = .ok (.string (strB [])) W := by
  cases ad <;> kernel_rfl
theorem convB {W : World} {v : Value} {b : List UInt8} (h : Bs W v b) : (convert 36 9 v).run Try.prog W = .ok (.string (strB b)) W := by
  obtain ⟨ad, c, rfl, _, _, h3⟩ := h
  rcases h3 with rfl | ⟨g, o, rfl, _, hc⟩
  · exact convNilB ad c W
  · refine run_convert_bytes_back (P := Try.prog) W 36 9 5 ⟨g, o, none⟩ c b Try.underlying36 Try.underlying5 Try.underlying9 (fun j hj => ?_)
    have a1 : (⟨g, o, none⟩ : Addr).add j = ⟨g, o + j, none⟩ := by unfold Addr.add; split <;> simp_all
    rw [a1]
    exact hc j _ (by simp [vb, List.getElem?_eq_getElem hj])
theorem sum_any (v : Value) (b : List UInt8) (w : World) (h : Bs w v b) :
    Calls Try.prog 22 #[v] w fun e w' => e = .returned (.int .u64 (seed b)) ∧ w = w' := by
  have hcv := convB h
  have hl : b.length ≤ maxLen := by
    obtain ⟨ad, c, rfl, h1, h2, _⟩ := h
    omega
  have HS := Lib.hid (seed_any (strB b) w (by exact hl))
  obtain ⟨ad, c, rfl⟩ : ∃ ad c, v = .slice ad b.length c := by
    obtain ⟨ad, c, rfl, _⟩ := h
    exact ⟨_, _, rfl⟩
  clear h hl
  go_enter Try.func22, Try.ntmps22
  go_wp2_with fail
  refine HS.out.mono ?_; rintro e w' ⟨rfl, rfl⟩
  go_wp2_with fail
  go_ret
  exact ⟨rfl, rfl⟩
theorem of_no (s : Ste) (sl : Value) (w0 : World) (hg : s.g.wf) (t8 : s.T.length = 8) (hin : ShotsW w0 sl s.g.L) (hm : mayS s = false) :
    Calls Try.prog 24 #[.agg (stateC s sl)] w0 fun e w' => e = .returned (.int .u64 0) ∧ Below w0.heap.size w0 w' := by
  have H := Sb.start w0
  have HP := Lib.hid (fun w h => put_no s sl w hg t8 h hm)
  have HI := Lib.hid hin
  have Hz := Lib.hid (sc_size (sl := sl) hg.s8 t8)
  clear hg t8 hin hm
  generalize stateC s sl = cs at *
  go_enter Try.func24, Try.ntmps24
  go_wp2_with (first | (refine wb_box H rfl 35 _ rfl cs rfl ?_; clear H; intro b1 w H) | (refine wb_whole H rfl 0 35 _ rfl _ rfl cs rfl _ Try.underlying35 rfl 76 info35 Hz.out ?_))
  refine (HP.out _ (HI.out.later H.below)).mono ?_; rintro e w' ⟨rfl, hb⟩
  replace H := H.call hb
  clear hb
  go_wp2_with fail
  go_ret
  exact ⟨rfl, H.below⟩
theorem of_ok (s : Ste) (sl : Value) (w0 : World) (hg : s.g.wf) (t8 : s.T.length = 8) (hin : ShotsW w0 sl s.g.L) (hm : mayS s = true) :
    Calls Try.prog 24 #[.agg (stateC s sl)] w0 fun e w' => e = .returned (.int .u64 (seed (img s))) ∧ Below w0.heap.size w0 w' := by
  have H := Sb.start w0
  have HP := Lib.hid (fun w h => put_ok s sl w hg t8 h hm)
  have HI := Lib.hid hin
  have Hz := Lib.hid (sc_size (sl := sl) hg.s8 t8)
  clear hg t8 hin hm
  generalize stateC s sl = cs at *
  go_enter Try.func24, Try.ntmps24
  go_wp2_with (first | (refine wb_box H rfl 35 _ rfl cs rfl ?_; clear H; intro b1 w H) | (refine wb_whole H rfl 0 35 _ rfl _ rfl cs rfl _ Try.underlying35 rfl 76 info35 Hz.out ?_))
  refine (HP.out _ (HI.out.later H.below)).mono ?_; rintro e w' ⟨v, rfl, hr, hb⟩
  replace H := H.call hb
  have HR := Lib.hid (Bs.of_row hr)
  clear hb hr
  go_wp2_with fail
  refine (sum_any v _ _ HR.out).mono ?_; rintro e w2 ⟨rfl, rfl⟩
  go_wp2_with fail
  go_ret
  exact ⟨rfl, H.below⟩
end Go.Proofs.Ytijnfeigoggaeaa.game
