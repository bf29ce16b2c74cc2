/- 'ChunkPlays': pieces are taken, told and put together as the document says: for every input the law returns true. -/
import Derived.Test.YtkoplojnfijllaaDoorPl
import Derived.Test.YtkoplojnfijllaaDoorPo
import Derived.Test.YtkoplojnfijllaaDoorCards
namespace Go.Proofs.YtkoplojnfijllaaDoor.chunkPlays
open Go.ChangeShapes Go.WideShapes Go.ChangeAt Go.RowKit chunk

theorem playsWalk (a0 a1 : Option Addr) (n0 c0 n1 c1 : Nat) (r : Bool) (w : World) (hT : Tab w) (hm1 : n1 ≤ maxLen)
    (hb0 : 0 < n0 → ∃ b o l, a0 = some ⟨b, o, none⟩ ∧ l.length = n0 ∧ BsAt w b o l) (hb1 : 0 < n1 → ∃ b o, a1 = some ⟨b, o, none⟩ ∧ b < w.heap.size ∧ OpsAt w b o n1) :
    Calls Tryd.prog 3 #[.slice a0 n0 c0, .slice a1 n1 c1, .bool r] w fun e w' => e = .returned (.bool true) ∧ Below w.heap.size w w' := by
  have h0 := hT.size
  by_cases hl : 2500 < n0
  · exact playsLong a0 n0 c0 _ r w hT h0 hl
  have few : (Calls Tryd.prog 7 #[.slice a1 n1 c1] w fun e w' => e = .returned (.bool false) ∧ w = w') ∨
      ((Calls Tryd.prog 7 #[.slice a1 n1 c1] w fun e w' => e = .returned (.bool true) ∧ w = w') ∧ n1 ≤ 80 ∧ ListAt w a1 n1) := by
    by_cases hn : 0 < n1
    · obtain ⟨b, o, rfl, hb, hops⟩ := hb1 hn
      have hf := few_any b o n1 c1 w hops (by unfold maxLen at hm1; omega)
      by_cases hP : n1 ≤ 80 ∧ ∀ i r m ad c l, i < n1 → OpAt w b (o + i * 3) r m ad c l → l.length ≤ 100
      · refine .inr ⟨hf.mono ?_, hP.1, fun _ => ⟨b, o, rfl, hb, fun i hi => ?_⟩⟩
        · rintro e w' ⟨⟨q, rfl, hq⟩, rfl⟩
          rw [hq.2 hP]
          exact ⟨rfl, rfl⟩
        · obtain ⟨r, m, ad, c, l, ho⟩ := hops i hi
          exact ⟨r, m, ad, c, l, ho, hP.2 i r m ad c l hi ho⟩
      · refine .inl (hf.mono ?_)
        rintro e w' ⟨⟨q, rfl, hq⟩, rfl⟩
        cases q with
        | true => exact absurd (hq.1 rfl) hP
        | false => exact ⟨rfl, rfl⟩
    · obtain rfl : n1 = 0 := by omega
      exact .inr ⟨few_nil c1 a1 w, Nat.zero_le _, fun h => absurd h (by omega)⟩
  rcases few with hf | ⟨hf, hn1, hL⟩
  · exact playsMany a0 a1 n0 c0 n1 c1 r w hT h0 (by omega) hf
  · by_cases hn : 0 < n0
    · obtain ⟨b, o, l, rfl, rfl, hb⟩ := hb0 hn
      exact playsIn b o c0 n1 c1 a1 r l w hT h0 hb hn (by omega) hL hn1 hf
    · obtain rfl : n0 = 0 := by omega
      exact playsEmpty a0 a1 c0 n1 c1 r w hT h0 hf

theorem contract (H : Type) (enc : TypeId × Value → H) (W : World) (base : Nat) (args : Array Value) (ds gs : List (DataW H)) (before : List MemPlace)
    (hval : ∀ (j : Nat) t v, Tryd.f3.params[j]? = some t → args[j]? = some v → Value.okWide Tryd.prog W .any base t v)
    (hW : DataW.Whole enc Tryd.prog Tryd.f3.params.toList Rows.chunkPlaysSpec.vars false W args.toList ds gs before) (hL : laidMetH Tryd.prog Rows.chunkPlaysRow.laid W) :
    Calls Tryd.prog 3 args W fun e W' => ∃ v, e = .returned v ∧ Rows.chunkPlaysSpec.post enc Tryd.prog Tryd.f3 false true false false W args v W' := by
  have hW' := hW
  obtain ⟨p, q, hA0, hV, rfl, hfz, hnd⟩ := hW
  have hA : DataW.TrodAll enc Tryd.prog W 0 (fun _ => true) true Tryd.f3.params.toList args.toList ds p := hA0
  rw [Tryd.params3] at hA hval
  obtain ⟨v0, vs0, d0, ds0, p0, q0, hargs, rfl, rfl, h0, r0⟩ := trodAll_cons hA
  obtain ⟨v1, vs1, d1, ds1, p1, q1, rfl, rfl, rfl, h1, r1⟩ := trodAll_cons r0
  obtain ⟨v2, vs2, d2, ds2, p2, q2, rfl, rfl, rfl, h2, r2⟩ := trodAll_cons r1
  obtain ⟨rfl, rfl, rfl⟩ := trodAll_nil r2
  obtain rfl : args = #[v0, v1, v2] := by cases args; simp_all
  obtain ⟨rfl, rfl⟩ := trodVars_none hV
  obtain ⟨a0, n0, c0, rfl⟩ := okWide_slice Tryd.underlying22 (hval 0 22 v0 rfl rfl)
  obtain ⟨a1, n1, c1, rfl⟩ := okWide_slice Tryd.underlying23 (hval 1 23 v1 rfl rfl)
  obtain ⟨q2, rfl, rfl, rfl⟩ := open_bool Tryd.underlying4 (hval 2 4 v2 rfl rfl) h2
  obtain ⟨hm0, hb0⟩ := open_bytes h0
  obtain ⟨hm1, hb1⟩ := open_ops h1
  clear hA0
  refine (playsWalk a0 a1 n0 c0 n1 c1 q2 W (table hL) hm1 hb0 hb1).mono fun e W' ⟨he, hb⟩ => ?_
  subst he
  exact ⟨_, rfl, post_below laidOut (by rw [Tryd.params3]; intro t ht; simp at ht; rcases ht with rfl | rfl | rfl <;> exact ⟨by kernel_rfl, by decide +kernel⟩) rfl hW' hb rfl rfl (trodAll_cons_mk (shut_bool Tryd.underlying4 _) trodAll_mk0)⟩

theorem laid_met (os : Os) : laidMet Tryd.prog Rows.chunkPlaysRow.laid ((laidWorld os).forCall (fun _ _ => 0) ⟨#[], #[.slice none 0 0, .slice none 0 0, .bool false], []⟩).memory :=
  laidMet_of_run' 8 (by kernel_rfl) (by kernel_rfl)
theorem reads (os : Os) {H : Type} (enc : TypeId × Value → H) : ∃ places, DataW.whole enc Tryd.prog ((laidWorld os).forCall (fun _ _ => 0) ⟨#[], #[.slice none 0 0, .slice none 0 0, .bool false], []⟩).memory Tryd.f3.params.toList Rows.chunkPlaysSpec.vars false #[Value.slice none 0 0, .slice none 0 0, .bool false].toList 8 = some ([.nil, .nil, .lit (.bool false)], [], places) :=
  ⟨[], by kernel_rfl⟩

set_option maxRecDepth 100000 in
theorem lifted (os : Os) (started : os.Started) (H : Type) (enc : TypeId × Value → H) (F : Stop.Interp) :
    ReturnsInHanded {} Tryd.checked os 3 .any ((OpenSpec.ofChange Rows.chunkPlaysSpec).preRow enc Tryd.prog Tryd.f3 Rows.chunkPlaysRow.domain false Rows.chunkPlaysRow.laid) (((OpenSpec.ofChange Rows.chunkPlaysSpec).at F).post enc Tryd.prog Tryd.f3 false true false false) := by
  obtain ⟨places, hx⟩ := reads os enc
  refine returnsInHanded_of_row (C := Tryd.checked) (s := OpenSpec.ofChange Rows.chunkPlaysSpec) own started (by kernel_rfl) Tryd.func3
    (witness_row_at (enc := enc) (C := Tryd.checked) false (laidWorld os) #[.slice none 0 0, .slice none 0 0, .bool false] rfl (by kernel_rfl) (by kernel_rfl) (by kernel_rfl)
      (OpenSpec.preRow_of_cond 8 hx (by kernel_rfl) (fun k hk => by cases hk) (by kernel_rfl) (laid_met os))) ?_
  intro W base args ds gs before hval hW _ _ _ hL _ _
  exact contract H enc W base args ds gs before hval hW hL

theorem said : Rows.ChunkPlaysSaid :=
  OpenClaim.holds_of_cond 3 Tryd.f3 rfl rfl rfl rfl rfl rfl rfl ⟨rfl, rfl, rfl, rfl, rfl⟩ rfl rfl rfl rfl rfl (by kernel_rfl) Tryd.func3 (by kernel_rfl)
    (of_decide_eq_true (by kernel_rfl)) (by unfold Func.isWrapper; first | (rw [if_pos (by decide +kernel)]; kernel_rfl) | (rw [if_neg (by decide +kernel)]; exact ⟨rfl, rfl⟩))
    (fun os started H enc _ F => by rw [OpenClaim.pre_eq_preRow]; exact lifted os started H enc F)

theorem plain (f : FuncId) (fn : Func) (hf : Tryd.pinned.checked.prog.funcNamed "ceilidh/ceilidhlaw18.ChunkPlays" = some f) (hfn : Tryd.pinned.checked.prog.funcs[f]? = some fn) :
    false = Tryd.pinned.checked.prog.looks [] ∧ ∀ (j : Nat) t, fn.params[j]? = some t → Tryd.pinned.checked.prog.wantsStandIn t = false := by
  obtain rfl : f = 3 := Option.some.inj ((show Tryd.prog.funcNamed "ceilidh/ceilidhlaw18.ChunkPlays" = some 3 by kernel_rfl).symm.trans hf) |>.symm
  obtain rfl : fn = Tryd.f3 := (Option.some.inj (Tryd.func3.symm.trans hfn)).symm
  refine ⟨by kernel_rfl, fun j t ht => ?_⟩
  rw [Tryd.params3] at ht
  have h4 : t = 22 ∨ t = 23 ∨ t = 4 := by simpa using Array.mem_of_getElem? ht
  rcases h4 with rfl | rfl | rfl
  · exact (show Tryd.prog.wantsStandIn 22 = false by kernel_rfl)
  · exact (show Tryd.prog.wantsStandIn 23 = false by kernel_rfl)
  · exact (show Tryd.prog.wantsStandIn 4 = false by kernel_rfl)

theorem proved : Rows.ChunkPlaysCardSaid :=
  Claim7.holds_tied_plain_at .later [] _ _ _ _ said (fun _ h => by cases h) (by kernel_rfl) (fun _ h => by cases h) chunkPlays_row_tie rfl ⟨rfl, rfl⟩ (by kernel_rfl) rfl plain (by kernel_rfl)
end Go.Proofs.YtkoplojnfijllaaDoor.chunkPlays
