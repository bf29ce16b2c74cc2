/- Steps in numbers: ships stay, scores do not fall; memory that is read in a region that draws. -/
import Derived.Test.YtijnfeigoggaeaaPy
import Derived.StillTailTactics
namespace Go.Proofs.Ytijnfeigoggaeaa.game
open Go.ChangeShapes Go.WideShapes Go.ChangeAt Go.RowKit dice
set_option maxRecDepth 100000

section
variable {ops : Array Oper} {rest : List Oper} {op : Oper} {a : Act} {w : World} {Q : Act → Prop}
theorem ws_row (hw : Region.wanted op (yielded ops a.tmps) = true) (ty : TypeId) (x : Operand) (ho : op.op = .load ty x) (b o : Nat) (hx : a.eval x = .pointer (some ⟨b, o, none⟩)) (vs : List Value) (hr : w.rangeAt b o vs)
    (d : TypeDesc) (hu : Try.prog.underlying ty = some d) (hd : d.isRow = true) (hi : (Try.prog.info? ty).map (·.size) = some vs.length) (h : wpStill Try.prog ops w Q rest (a.put op.dst (.agg vs.toArray))) : wpStill Try.prog ops w Q (op :: rest) a := by
  refine wpStill_step fun K hK => ?_
  rw [if_pos hw]
  unfold Oper.still execOp
  simp only [ho, hx, Instr.loadAt, Instr.sureAddr, Sem.run_bind, Sem.run_pure, Result.andThen_ok, run_loadVar_mid w b o ty vs d hr hu hd hi]
  exact ⟨rfl, hK _ h⟩
end
theorem Sb.range {Hs : List Nat} {W0 w : World} {l : List Blk} {R : List RowS} (h : Sb Hs W0 w l R) {g : Nat} {c : Array Value} {t : TypeId} (hm : (g, c, t) ∈ l) : w.rangeAt g 0 c.toList := by
  intro j v hv
  rw [Nat.zero_add, cell_of_row w g j c t (0, 0) (h.holds _ hm)]
  simpa using hv
/-- Ships stay, scores do not fall. -/
def Grows (S S' : List Shp) : Prop := S'.length = S.length ∧ ∀ (j : Nat) (t : Shp), S[j]? = some t → ∃ t' : Shp, S'[j]? = some t' ∧ t'.on = t.on ∧ t.score ≤ t'.score
theorem Grows.refl (S : List Shp) : Grows S S := ⟨rfl, fun _ t h => ⟨t, h, rfl, Int.le_refl _⟩⟩
theorem Grows.trans {A B C : List Shp} (h : Grows A B) (k : Grows B C) : Grows A C :=
  ⟨k.1.trans h.1, fun j t ht => by
    obtain ⟨t1, h1, o1, s1⟩ := h.2 j t ht
    obtain ⟨t2, h2, o2, s2⟩ := k.2 j t1 h1
    exact ⟨t2, h2, o2.trans o1, Int.le_trans s1 s2⟩⟩
theorem Grows.set {S : List Shp} (k : Nat) (t t' : Shp) (ht : S[k]? = some t) (ho : t'.on = t.on) (hs : t.score ≤ t'.score) : Grows S (S.set k t') := by
  have hk := (List.getElem?_eq_some_iff.1 ht).1
  refine ⟨List.length_set, fun j u hu => ?_⟩
  by_cases e : k = j
  · subst e
    rw [ht] at hu
    cases hu
    exact ⟨t', List.getElem?_set_self hk, ho, hs⟩
  · exact ⟨u, by rw [List.getElem?_set_ne e]; exact hu, rfl, Int.le_refl _⟩
theorem sailF_same (k : Nat) (t : Shp) (i : Inp) (out : List Sht) : (sailF k t i out).t.on = t.on ∧ (sailF k t i out).t.score = t.score := by
  unfold sailF
  split
  · exact ⟨rfl, rfl⟩
  · split <;> exact ⟨rfl, rfl⟩
theorem sailL_grows : ∀ (S : List Shp) (k : Nat) (I : List Inp) (out : List Sht), Grows S (sailL k S I out).ships
  | [], _, _, _ => Grows.refl _
  | t :: S, k, I, out => by
    unfold sailL
    by_cases hon : t.on = true
    · simp only [if_pos hon]
      have ih := sailL_grows S (k + 1) I.tail (sailF k t (hdI I) out).out
      have hs := sailF_same k t (hdI I) out
      refine ⟨by rw [List.length_cons, List.length_cons, ih.1], fun j u hu => ?_⟩
      cases j with
      | zero =>
        simp only [List.getElem?_cons_zero, Option.some.injEq] at hu
        subst hu
        exact ⟨_, rfl, hs.1, by rw [hs.2]; exact Int.le_refl _⟩
      | succ j => exact ih.2 j u hu
    · simp only [if_neg hon]
      have ih := sailL_grows S (k + 1) I.tail out
      refine ⟨by rw [List.length_cons, List.length_cons, ih.1], fun j u hu => ?_⟩
      cases j with
      | zero =>
        simp only [List.getElem?_cons_zero, Option.some.injEq] at hu
        subst hu
        exact ⟨_, rfl, rfl, Int.le_refl _⟩
      | succ j => exact ih.2 j u hu
theorem flyF_grows (d : Int) (S : List Shp) (s : Sht) (h8 : S.length = 8) (hok : ∀ t ∈ S, t.ok) : Grows S (flyF d S s).ships := by
  unfold flyF
  split
  · exact Grows.refl _
  · cases hf : firstHit (flown s) S with
    | none => exact Grows.refl _
    | some k =>
      dsimp only
      unfold firstHit at hf
      have hk8 : k < 8 := List.mem_range.1 (List.mem_of_find?_eq_some hf)
      obtain ⟨t, ht⟩ : ∃ t, S[k]? = some t := ⟨S[k]'(by omega), List.getElem?_eq_getElem _⟩
      have htD : S.getD k zShp = t := by rw [List.getD_eq_getElem?_getD, ht]; rfl
      unfold hitS
      rw [htD]
      have g1 : Grows S (S.set k (hurt t (px d) (py d))) := Grows.set k t _ ht rfl (Int.le_refl _)
      dsimp only
      split
      · rename_i ho
        refine g1.trans ?_
        cases hu : (S.set k (hurt t (px d) (py d)))[s.owner.toNat]? with
        | none => rw [List.getD_eq_getElem?_getD, hu] at ho; cases ho
        | some u =>
          have huD : (S.set k (hurt t (px d) (py d))).getD s.owner.toNat zShp = u := by rw [List.getD_eq_getElem?_getD, hu]; rfl
          rw [huD] at ho ⊢
          refine Grows.set _ u _ hu rfl ?_
          have huok : u.score ≤ 1073741824 := by
            have hmem := List.mem_of_getElem? hu
            rcases List.mem_or_eq_of_mem_set hmem with h | h
            · have := hok u h
              unfold Shp.ok OkShip at this
              rw [if_pos ho] at this
              omega
            · have h2 := hok t (List.mem_of_getElem? ht)
              rw [h] at ho ⊢
              unfold Shp.ok OkShip at h2
              rw [if_pos (show t.on = true from ho)] at h2
              show t.score ≤ _
              omega
          show u.score ≤ min (u.score + 1) 1073741824
          omega
      · exact g1
theorem flyAll_grows : ∀ (L : List Sht) (d : Int) (S : List Shp), S.length = 8 → (∀ t ∈ S, t.ok) → Grows S (flyAll d S L).ships
  | [], _, _, _, _ => Grows.refl _
  | s :: L, d, S, h8, h => by
    obtain ⟨a1, a2⟩ := flyF_keep d S s h8 h
    exact (flyF_grows d S s h8 h).trans (flyAll_grows L _ _ a1 a2)
theorem stepG_grows {g : Gme} (I : List Inp) (h : g.ok) : Grows g.S (stepG g I).S := by
  obtain ⟨a1, a2, a3, a4⟩ := sailL_ok g.S 0 I g.L (by rw [h.s8]; omega) h.ships h.shots h.most
  exact (sailL_grows g.S 0 I g.L).trans (flyAll_grows _ _ _ (by rw [a1, h.s8]) a2)
end Go.Proofs.Ytijnfeigoggaeaa.game
