/- 'GameHit': who is hit stands elsewhere, still; who hit has one more; the shot is gone: for every input the law returns true. No condition. -/
import Derived.Test.YtijnfeigoggaeaaHw
import Derived.Test.YtijnfeigoggaeaaFr
namespace Go.Proofs.Ytijnfeigoggaeaa.gameHit
open Go.ChangeShapes Go.WideShapes Go.ChangeAt Go.RowKit game

theorem modN (a : Int) (n : Nat) (h0 : 0 < n) (h : n ≤ 1100000000) : ∃ k : Nat, wrap64 ((IntKind.u64.wrap a).tmod (n : Int)) = (k : Int) ∧ k < n := by
  have h : 0 ≤ wrap64 ((IntKind.u64.wrap a).tmod n) ∧ wrap64 ((IntKind.u64.wrap a).tmod n) < n := by
    rw [IntKind.wrap_u64, Int.tmod_eq_emod_of_nonneg (by omega)]
    have h1 := Int.emod_nonneg (a % 18446744073709551616) (show (n : Int) ≠ 0 by omega)
    have h2 := Int.emod_lt_of_pos (a % 18446744073709551616) (show (0 : Int) < n by omega)
    unfold wrap64; omega
  exact ⟨(wrap64 ((IntKind.u64.wrap a).tmod n)).toNat, by omega, by omega⟩
theorem i32_bd {a : Int} (h : (Lit.int .i32 a).wf = true) : -2147483648 ≤ a ∧ a ≤ 2147483647 := by
  simp [Lit.wf, IntKind.min, IntKind.max, IntKind.signed, IntKind.bits] at h
  omega
set_option maxRecDepth 100000 in
theorem lifted (os : Os) (started : os.Started) (H : Type) (enc : TypeId × Value → H) :
    ReturnsInHanded {} Try.checked os 13 .any (Rows.gameHitSpec.pre6 enc Try.prog Try.f13 Rows.gameHitRow.domain false) (Rows.gameHitSpec.post enc Try.prog Try.f13 false true false false) := by
  refine returnsInHanded_of_change (C := Try.checked) own started (by kernel_rfl) Try.func13
    (ChangeSpec.witness6 (enc := enc) (C := Try.checked) false ⟨#[], #[.int .i32 0, .int .i32 0, .int .i64 0, .int .i64 0, .int .i64 0], []⟩ 8 (by kernel_rfl) (by kernel_rfl) (by kernel_rfl) (by kernel_rfl)) ?_
  intro W base args ds gs before hval0 hW hcnd _
  have hval : ∀ (j : Nat) t v, Try.f13.params[j]? = some t → args[j]? = some v → Value.okWide Try.prog W .any base t v := hval0
  have hW' := hW
  obtain ⟨p, q, hA0, hV, rfl, hfz, hnd⟩ := hW
  have hA : DataW.TrodAll enc Try.prog W 0 (fun _ => true) true Try.f13.params.toList args.toList ds p := hA0
  rw [Try.params13] at hA hval
  obtain ⟨v0, vs0, d0, ds0, p0, q0, hargs, rfl, rfl, h0, r0⟩ := trodAll_cons hA
  obtain ⟨v1, vs1, d1, ds1, p1, q1, rfl, rfl, rfl, h1, r1⟩ := trodAll_cons r0
  obtain ⟨v2, vs2, d2, ds2, p2, q2, rfl, rfl, rfl, h2, r2⟩ := trodAll_cons r1
  obtain ⟨v3, vs3, d3, ds3, p3, q3, rfl, rfl, rfl, h3, r3⟩ := trodAll_cons r2
  obtain ⟨v4, vs4, d4, ds4, p4, q4, rfl, rfl, rfl, h4, r4⟩ := trodAll_cons r3
  obtain ⟨rfl, rfl, rfl⟩ := trodAll_nil r4
  obtain rfl : args = #[v0, v1, v2, v3, v4] := by cases args; simp_all
  obtain ⟨rfl, rfl⟩ := trodVars_none hV
  obtain ⟨a0, rfl, rfl, rfl, w0⟩ := open_int Try.underlying21 (hval 0 21 v0 rfl rfl) h0
  obtain ⟨a1, rfl, rfl, rfl, w1⟩ := open_int Try.underlying21 (hval 1 21 v1 rfl rfl) h1
  obtain ⟨a2, rfl, rfl, rfl, w2⟩ := open_int Try.underlying3 (hval 2 3 v2 rfl rfl) h2
  obtain ⟨a3, rfl, rfl, rfl, w3⟩ := open_int Try.underlying3 (hval 3 3 v3 rfl rfl) h3
  obtain ⟨a4, rfl, rfl, rfl, w4⟩ := open_int Try.underlying3 (hval 4 3 v4 rfl rfl) h4
  obtain ⟨i, hi, hi8⟩ := modN a2 8 (by omega) (by omega)
  obtain ⟨k, hk, hk8⟩ := modN a3 8 (by omega) (by omega)
  obtain ⟨n, hn, hn1⟩ := modN a4 1073741825 (by omega) (by omega)
  clear hA0 hval0
  have main : Calls Try.prog 13 #[.int .i32 a0, .int .i32 a1, .int .i64 a2, .int .i64 a3, .int .i64 a4] W fun e w' => e = .returned (.bool true) ∧ Below W.heap.size W w' := by
    by_cases hik : i = k
    · subst hik
      exact hitSame a0 a1 a2 a3 a4 W i hi hk
    · exact hitWalk a0 a1 a2 a3 a4 W (i32_bd w0) (i32_bd w1) i k hi8 hk8 hik hi hk n hn (by omega) (by omega)
  refine main.mono fun e W' ⟨he, hb⟩ => ?_
  subst he
  exact ⟨_, rfl, post_below laidOut (by rw [Try.params13]; intro t ht; simp at ht; rcases ht with rfl | rfl | rfl | rfl | rfl <;> exact ⟨by kernel_rfl, by decide +kernel⟩) rfl hW' hb rfl rfl (trodAll_cons_mk (shut_bool Try.underlying4 _) trodAll_mk0)⟩

theorem over : Rows.gameHitRow.holds Try.pinned (OpenSpec.ofChange Rows.gameHitSpec) :=
  OpenClaim.holds_of_wide 13 Try.f13 rfl rfl rfl rfl rfl rfl rfl ⟨rfl, rfl, rfl, rfl, rfl⟩ rfl rfl rfl rfl rfl (by kernel_rfl) Try.func13 (by kernel_rfl)
    (of_decide_eq_true (by kernel_rfl)) (by unfold Func.isWrapper; first | (rw [if_pos (by decide +kernel)]; kernel_rfl) | (rw [if_neg (by decide +kernel)]; exact ⟨rfl, rfl⟩))
    (fun os started H enc _ => lifted os started H enc)

theorem proved : Rows.GameHitSaid :=
  over
end Go.Proofs.Ytijnfeigoggaeaa.gameHit
