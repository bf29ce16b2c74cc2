/- Steps in numbers: ships stay, scores do not fall; memory that is read in a region that draws. 'GameMay': the walk of the law. Memory in a walk: what stood there ahead of the call is read. slices.DeleteFunc over shots by their owner. game.Remove, over any game that may be. fold.must, fold.event. fold.face's deferred closure, face, Apply, Run. fold.May, fold.apply (printed by mkfb.py). fold.face, Apply, Run. fold.Apply. A log where it lies; fold.Run's closure. -/
import Derived.Test.YtdopfonebpklkaaPy
import Derived.StillTailTactics
import Derived.Test.YtdopfonebpklkaaRv
import Derived.Deep.DeepCutAuto
import Derived.BigRegion
import Derived.Test.YtdopfonebpklkaaFo
import Derived.Test.YtdopfonebpklkaaSn
import Derived.Test.YtdopfonebpklkaaSf
import Derived.Test.YtdopfonebpklkaaEm
import Derived.Test.YtdopfonebpklkaaGq
import Derived.Defers
import Derived.Recover
namespace Go.Proofs.Ytdopfonebpklkaa.game
open Go.ChangeShapes Go.WideShapes Go.ChangeAt Go.RowKit dice
set_option maxRecDepth 100000

section
variable {ops : Array Oper} {rest : List Oper} {op : Oper} {a : Act} {w : World} {Q : Act → Prop}
theorem ws_row (hw : Region.wanted op (yielded ops a.tmps) = true) (ty : TypeId) (x : Operand) (ho : op.op = .load ty x) (b o : Nat) (hx : a.eval x = .pointer (some ⟨b, o, none⟩)) (vs : List Value) (hr : w.rangeAt b o vs)
    (d : TypeDesc) (hu : Try.prog.underlying ty = some d) (hd : d.isRow = true) (hi : (Try.prog.info? ty).map (·.size) = some vs.length) (h : wpStill Try.prog ops w Q rest (a.put op.dst (.agg vs.toArray))) : wpStill Try.prog ops w Q (op :: rest) a := by
  refine wpStill_step fun K hK => ?_
  rw [if_pos hw]
  unfold Oper.still execOp
  simp only [ho, hx, Instr.loadAt, Instr.sureAddr, Sem.run_bind, Sem.run_pure, Result.andThen_ok, run_loadVar_mid w b o ty vs d hr hu hd hi]
  exact ⟨rfl, hK _ h⟩
end
theorem Sb.range {Hs : List Nat} {W0 w : World} {l : List Blk} {R : List RowS} (h : Sb Hs W0 w l R) {g : Nat} {c : Array Value} {t : TypeId} (hm : (g, c, t) ∈ l) : w.rangeAt g 0 c.toList := by
  intro j v hv
  rw [Nat.zero_add, cell_of_row w g j c t (0, 0) (h.holds _ hm)]
  simpa using hv
/-- Ships stay, scores do not fall. -/
def Grows (S S' : List Shp) : Prop := S'.length = S.length ∧ ∀ (j : Nat) (t : Shp), S[j]? = some t → ∃ t' : Shp, S'[j]? = some t' ∧ t'.on = t.on ∧ t.score ≤ t'.score
theorem Grows.refl (S : List Shp) : Grows S S := ⟨rfl, fun _ t h => ⟨t, h, rfl, Int.le_refl _⟩⟩
theorem Grows.trans {A B C : List Shp} (h : Grows A B) (k : Grows B C) : Grows A C :=
  ⟨k.1.trans h.1, fun j t ht => by
    obtain ⟨t1, h1, o1, s1⟩ := h.2 j t ht
    obtain ⟨t2, h2, o2, s2⟩ := k.2 j t1 h1
    exact ⟨t2, h2, o2.trans o1, Int.le_trans s1 s2⟩⟩
theorem Grows.set {S : List Shp} (k : Nat) (t t' : Shp) (ht : S[k]? = some t) (ho : t'.on = t.on) (hs : t.score ≤ t'.score) : Grows S (S.set k t') := by
  have hk := (List.getElem?_eq_some_iff.1 ht).1
  refine ⟨List.length_set, fun j u hu => ?_⟩
  by_cases e : k = j
  · subst e
    rw [ht] at hu
    cases hu
    exact ⟨t', List.getElem?_set_self hk, ho, hs⟩
  · exact ⟨u, by rw [List.getElem?_set_ne e]; exact hu, rfl, Int.le_refl _⟩
theorem sailF_same (k : Nat) (t : Shp) (i : Inp) (out : List Sht) : (sailF k t i out).t.on = t.on ∧ (sailF k t i out).t.score = t.score := by
  unfold sailF
  split
  · exact ⟨rfl, rfl⟩
  · split <;> exact ⟨rfl, rfl⟩
theorem sailL_grows : ∀ (S : List Shp) (k : Nat) (I : List Inp) (out : List Sht), Grows S (sailL k S I out).ships
  | [], _, _, _ => Grows.refl _
  | t :: S, k, I, out => by
    unfold sailL
    by_cases hon : t.on = true
    · simp only [if_pos hon]
      have ih := sailL_grows S (k + 1) I.tail (sailF k t (hdI I) out).out
      have hs := sailF_same k t (hdI I) out
      refine ⟨by rw [List.length_cons, List.length_cons, ih.1], fun j u hu => ?_⟩
      cases j with
      | zero =>
        simp only [List.getElem?_cons_zero, Option.some.injEq] at hu
        subst hu
        exact ⟨_, rfl, hs.1, by rw [hs.2]; exact Int.le_refl _⟩
      | succ j => exact ih.2 j u hu
    · simp only [if_neg hon]
      have ih := sailL_grows S (k + 1) I.tail out
      refine ⟨by rw [List.length_cons, List.length_cons, ih.1], fun j u hu => ?_⟩
      cases j with
      | zero =>
        simp only [List.getElem?_cons_zero, Option.some.injEq] at hu
        subst hu
        exact ⟨_, rfl, rfl, Int.le_refl _⟩
      | succ j => exact ih.2 j u hu
theorem flyF_grows (d : Int) (S : List Shp) (s : Sht) (h8 : S.length = 8) (hok : ∀ t ∈ S, t.ok) : Grows S (flyF d S s).ships := by
  unfold flyF
  split
  · exact Grows.refl _
  · cases hf : firstHit (flown s) S with
    | none => exact Grows.refl _
    | some k =>
      dsimp only
      unfold firstHit at hf
      have hk8 : k < 8 := List.mem_range.1 (List.mem_of_find?_eq_some hf)
      obtain ⟨t, ht⟩ : ∃ t, S[k]? = some t := ⟨S[k]'(by omega), List.getElem?_eq_getElem _⟩
      have htD : S.getD k zShp = t := by rw [List.getD_eq_getElem?_getD, ht]; rfl
      unfold hitS
      rw [htD]
      have g1 : Grows S (S.set k (hurt t (px d) (py d))) := Grows.set k t _ ht rfl (Int.le_refl _)
      dsimp only
      split
      · rename_i ho
        refine g1.trans ?_
        cases hu : (S.set k (hurt t (px d) (py d)))[s.owner.toNat]? with
        | none => rw [List.getD_eq_getElem?_getD, hu] at ho; cases ho
        | some u =>
          have huD : (S.set k (hurt t (px d) (py d))).getD s.owner.toNat zShp = u := by rw [List.getD_eq_getElem?_getD, hu]; rfl
          rw [huD] at ho ⊢
          refine Grows.set _ u _ hu rfl ?_
          have huok : u.score ≤ 1073741824 := by
            have hmem := List.mem_of_getElem? hu
            rcases List.mem_or_eq_of_mem_set hmem with h | h
            · have := hok u h
              unfold Shp.ok OkShip at this
              rw [if_pos ho] at this
              omega
            · have h2 := hok t (List.mem_of_getElem? ht)
              rw [h] at ho ⊢
              unfold Shp.ok OkShip at h2
              rw [if_pos (show t.on = true from ho)] at h2
              show t.score ≤ _
              omega
          show u.score ≤ min (u.score + 1) 1073741824
          omega
      · exact g1
theorem flyAll_grows : ∀ (L : List Sht) (d : Int) (S : List Shp), S.length = 8 → (∀ t ∈ S, t.ok) → Grows S (flyAll d S L).ships
  | [], _, _, _, _ => Grows.refl _
  | s :: L, d, S, h8, h => by
    obtain ⟨a1, a2⟩ := flyF_keep d S s h8 h
    exact (flyF_grows d S s h8 h).trans (flyAll_grows L _ _ a1 a2)
theorem stepG_grows {g : Gme} (I : List Inp) (h : g.ok) : Grows g.S (stepG g I).S := by
  obtain ⟨a1, a2, a3, a4⟩ := sailL_ok g.S 0 I g.L (by rw [h.s8]; omega) h.ships h.shots h.most
  exact (sailL_grows g.S 0 I g.L).trans (flyAll_grows _ _ _ (by rw [a1, h.s8]) a2)
end Go.Proofs.Ytdopfonebpklkaa.game
namespace Go.Proofs.Ytdopfonebpklkaa.game
open Go.ChangeShapes Go.WideShapes Go.ChangeAt Go.RowKit dice
set_option maxRecDepth 100000

def InsAt (W : World) (ad : Option Addr) (I : List Inp) : Prop :=
  0 < I.length → ∃ g o, ad = some ⟨g, o, none⟩ ∧ g < W.heap.size ∧ ∀ j v, (I.flatMap inpL)[j]? = some v → W.cell? ⟨g, o + j, none⟩ = some v
theorem Sb.old {Hs : List Nat} {W0 w : World} {l : List Blk} {R : List RowS} (h : Sb Hs W0 w l R) (hn : Hs = []) {p : Addr} (hp : p.block < W0.heap.size) : w.cell? p = W0.cell? p := by
  subst hn
  exact h.below.cell hp
end Go.Proofs.Ytdopfonebpklkaa.game
namespace Go.Proofs.Ytdopfonebpklkaa.game
open Go.ChangeShapes Go.WideShapes Go.ChangeAt Go.RowKit dice
set_option maxRecDepth 100000

section
variable {w0 w : World} {l : List Blk} {R : List RowS}
variable {ops : Array Oper} {rest : List Oper} {op : Oper} {a : Act} {Q : Exit → Act → World → Prop}
theorem wb_oldRow (H : Sb [] w0 w l R) (hw : Region.wanted op (yielded ops a.tmps) = true) (ty : TypeId) (x : Operand) (ho : op.op = .load ty x) (g o : Nat) (hx : a.eval x = .pointer (some ⟨g, o, none⟩)) (vs : List Value) (hg : g < w0.heap.size) (hvs : w0.rangeAt g o vs)
    (d : TypeDesc) (hu : Try.prog.underlying ty = some d) (hd : d.isRow = true) (hi : (Try.prog.info? ty).map (·.size) = some vs.length)
    (h : wpList Try.prog ops Q rest (a.put op.dst (.agg vs.toArray)) w) : wpList Try.prog ops Q (op :: rest) a w :=
  BigFrame.wpList_want hw fun _ hK => wp_load_mid ty x ho g o hx vs d (fun j v hv => (H.old rfl (p := ⟨g, o + j, none⟩) hg).trans (hvs j v hv)) hu hd hi (hK _ _ h)
theorem wb_oldCell (H : Sb [] w0 w l R) (hw : Region.wanted op (yielded ops a.tmps) = true) (ty : TypeId) (x : Operand) (ho : op.op = .load ty x) (g o : Nat) (hx : a.eval x = .pointer (some ⟨g, o, none⟩)) (v : Value) (hg : g < w0.heap.size) (hv : w0.cell? ⟨g, o, none⟩ = some v)
    (ha : ∀ w, (isAgg ty).run Try.prog w = .ok false w)
    (h : wpList Try.prog ops Q rest (a.put op.dst v) w) : wpList Try.prog ops Q (op :: rest) a w := by
  refine BigFrame.wpList_want hw fun _ hK => ?_
  have hc := (H.old rfl (p := ⟨g, o, none⟩) hg).trans hv
  unfold Oper.wp execOp
  simp only [ho, hx, Instr.loadAt, Instr.sureAddr, Sem.run_bind, Sem.run_pure, Result.andThen_ok, loadVar, ha, Bool.false_eq_true, if_false, run_load, hc]
  exact hK _ _ h
end
theorem range3 {w : World} {g o : Nat} {i : Inp} (h : InpAt w g o i) : w.rangeAt g o [.int .i8 i.x, .int .i8 i.y, .int .u8 i.b] := fun j v hv => by
  match j, hv with
  | 0, hv => cases hv; exact h.x
  | 1, hv => cases hv; exact h.y
  | 2, hv => cases hv; exact h.b
  | j + 3, hv => simp at hv
end Go.Proofs.Ytdopfonebpklkaa.game
namespace Go.Proofs.Ytdopfonebpklkaa.game
open Go.ChangeShapes Go.WideShapes Go.ChangeAt Go.RowKit dice
set_option maxRecDepth 100000

theorem isShot_b (t : Sht) (x : Int) (q : Nat) (w0 : World) (hq : w0.cell? ⟨q, 0, none⟩ = some (.int .i64 x)) (hlt : q < w0.heap.size) :
    Calls Try.prog 56 #[.agg (shotL t).toArray, .pointer (some ⟨q, 0, none⟩)] w0 fun e w' => e = .returned (.bool (decide (t.owner = x))) ∧ Below w0.heap.size w0 w' := by
  have H := Sb.start w0
  have HQ := Lib.hid hq
  have HL := Lib.hid hlt
  clear hq hlt
  go_enter Try.func56, Try.ntmps56
  go_upto_region 1 with (refine wb_box H rfl 75 _ rfl (shotL t).toArray rfl ?_; clear H; intro b2 w H)
  have c0 : w.cell? ⟨b2, 0, none⟩ = some (.int .i64 t.owner) := cell_of_row w b2 0 _ 75 (0, 0) (H.holds _ (List.mem_cons_self ..))
  have c1 : w.cell? ⟨q, 0, none⟩ = some (.int .i64 x) := (World.cell?_of_block (a := ⟨q, 0, none⟩) (H.fr q HL.out (by simp))).trans HQ.out
  go_wp2_with fail
  go_ret
  exact ⟨by first | rfl | simp, H.below⟩
/-- The first shot of an owner: its number, or -1. -/
def idxO (L : List Sht) (x : Int) : Int := match L.findIdx? (fun t => decide (t.owner = x)) with
  | some i => (i : Int)
  | none => -1
theorem part_at {L : List Sht} {k : Nat} {t : Sht} (h : L[k]? = some t) : ∀ j v, (shotL t)[j]? = some v → (cellsL L)[k * 6 + j]? = some v := fun j v hv => cellsL_at L k j t v h hv
theorem indexO_b (g cap q : Nat) (L : List Sht) (x : Int) (w0 : World) (hn : L.length ≤ 1000) (hg : g < w0.heap.size) (hq : q < w0.heap.size) (h : ∀ j v, (cellsL L)[j]? = some v → w0.cell? ⟨g, 0 + j, none⟩ = some v) (hx : w0.cell? ⟨q, 0, none⟩ = some (.int .i64 x)) :
    Calls Try.prog 66 #[.slice (some ⟨g, 0, none⟩) L.length cap, .func (.func 56) #[] #[.pointer (some ⟨q, 0, none⟩)]] w0 fun e w' => e = .returned (.int .i64 (idxO L x)) ∧ Below w0.heap.size w0 w' := by
  have H := Lib.hid h
  have HG0 := Lib.hid hg
  have HQ := Lib.hid hq
  have HX := Lib.hid hx
  have hn' : (L.length : Int) ≤ 1000 := by omega
  clear h hg hq hx hn
  go_enter Try.func66, Try.ntmps66
  go_wp2_with fail
  go_loopw [8] (fun i W => ∃ k : Nat, k ≤ L.length ∧ i = .int .i64 k ∧ Hid (Below w0.heap.size w0 W) ∧ Hid (∀ (j : Nat) (s : Sht), j < k → L[j]? = some s → s.owner ≠ x)) (fun i _ => L.length - (intOf i).toNat)
  case atStart => exact ⟨0, Nat.zero_le _, rfl, Lib.hid (Below.refl _ _), Lib.hid (fun j s hj => absurd hj (by omega))⟩
  case round =>
    obtain ⟨k, hk, rfl, HG, HA⟩ := hrel
    by_cases hlt : k < L.length
    · obtain ⟨t, ht⟩ : ∃ t, L[k]? = some t := ⟨L[k], List.getElem?_eq_getElem hlt⟩
      have hA : ShotAt wr g (0 + k * 6) t := shot_at (fun j v hv => (HG.out.cell (p := ⟨g, 0 + j, none⟩) HG0.out).trans (H.out j v hv)) k t ht
      have HC := Lib.hid (isShot_b t x q wr ((HG.out.cell (p := ⟨q, 0, none⟩) HQ.out).trans HX.out) (Nat.lt_of_lt_of_le HQ.out HG.out.size))
      have Ht := Lib.hid ht
      rw [Nat.zero_add] at hA
      obtain ⟨c0, c1, c2, c3, c4, c5⟩ := hA
      clear ht
      go_wp2_with fail
      refine HC.out.mono ?_; rintro e w' ⟨rfl, hg⟩
      have HG' := Lib.hid (HG.out.trans (hg.mono HG.out.size))
      clear hg HG HC c0 c1 c2 c3 c4 c5
      by_cases hp : t.owner = x
      · rw [decide_eq_true hp]
        go_wp2_with fail
        go_ret
        refine ⟨?_, HG'.out⟩
        have : L.findIdx? (fun t => decide (t.owner = x)) = some k := by
          obtain ⟨hk', e⟩ := List.getElem?_eq_some_iff.1 Ht.out
          exact List.findIdx?_eq_some_iff_getElem.2 ⟨hk', by rw [e]; simpa using hp, fun j hj => by simpa using HA.out j _ hj (List.getElem?_eq_getElem _)⟩
        have e : idxO L x = (k : Int) := by simp only [idxO, this]
        rw [e]
        rfl
      · rw [decide_eq_false hp]
        go_wp2_with fail
        exact ⟨⟨k + 1, hlt, rfl, HG', Lib.hid (fun j s' hj hs' => by
          by_cases e : j = k
          · subst e
            rw [Ht.out] at hs'
            injection hs' with hs'
            rw [← hs']; exact hp
          · exact HA.out j s' (by omega) hs')⟩, by simp only [intOf]; omega⟩
    · obtain rfl : k = L.length := by omega
      go_wp2_with fail
      go_ret
      refine ⟨?_, HG.out⟩
      have : L.findIdx? (fun t => decide (t.owner = x)) = none := by
        rw [List.findIdx?_eq_none_iff]
        intro t ht
        obtain ⟨j, hj⟩ := List.mem_iff_getElem?.1 ht
        have hjl := (List.getElem?_eq_some_iff.1 hj).1
        simpa using HA.out j t hjl hj
      have e : idxO L x = -1 := by simp only [idxO, this]
      rw [e]
      rfl
section
variable {Hs : List Nat} {w0 w : World} {l : List Blk} {R : List RowS}
variable {ops : Array Oper} {rest : List Oper} {op : Oper} {a : Act} {Q : Exit → Act → World → Prop}
theorem zeroCells_len (n : Nat) : (Builtin.zeroCells #[.int .i64 0, .int .i32 0, .int .i32 0, .int .i32 0, .int .i32 0, .int .i64 0] n).toList.length = n * 6 := by
  simp [Builtin.zeroCells]
theorem zeroCells_one (n : Nat) : ∀ u ∈ (Builtin.zeroCells #[.int .i64 0, .int .i32 0, .int .i32 0, .int .i32 0, .int .i32 0, .int .i64 0] n).toList, u.oneCell' = true := by
  intro u hu
  simp [Builtin.zeroCells] at hu
  obtain ⟨i, _, rfl⟩ := hu
  have h6 : i % 6 < 6 := Nat.mod_lt _ (by decide)
  generalize i % 6 = m at *
  match m, h6 with
  | 0, _ => rfl
  | 1, _ => rfl
  | 2, _ => rfl
  | 3, _ => rfl
  | 4, _ => rfl
  | 5, _ => rfl
theorem ex_clear {ev : Operand → Value} {o : Oper} (x : Operand) (v : Value) (w w' : World) (ho : o.op = .call { callee := .builtin .clear, args := #[x], argTypes := #[31] }) (hx : ev x = v) (hr : (Builtin.clear_ #[31] o.type #[v]).run Try.prog w = .ok (.tuple #[]) w') :
    (execOp ev o).run Try.prog w = .ok (.value (.tuple #[])) w' := by
  unfold execOp
  simp only [ho]
  simp [go_sem, hx, hr]
/-- clear(s) on a row of shots: what lies ahead of it stays. -/
theorem wb_clear (H : Sb Hs w0 w l R) (x : Operand) (ho : op.op = .call { callee := .builtin .clear, args := #[x], argTypes := #[31] }) (hw : Region.wanted op (yielded ops a.tmps) = true) (i g o n c : Nat) (cur : Array Value) (hx : a.eval x = .slice (some ⟨g, o, none⟩) n c) (hl : l[i]? = some (g, cur, 75)) (hfit : o + n * 6 ≤ cur.size)
    (h : ∀ w' cur', cur'.size = cur.size → (∀ j, j < o → cur'[j]? = cur[j]?) → Sb Hs w0 w' (l.set i (g, cur', 75)) R → wpList Try.prog ops Q rest (a.put op.dst (.tuple #[])) w') : wpList Try.prog ops Q (op :: rest) a w := by
  refine BigFrame.wpList_want hw fun _ hK => ?_
  cases n with
  | zero =>
    have hr : (Builtin.clear_ #[31] op.type #[.slice (some ⟨g, o, none⟩) 0 c]).run Try.prog w = .ok (.tuple #[]) w := by
      simp [Builtin.clear_, run_underlying Try.underlying31]
    unfold Oper.wp
    rw [ex_clear x _ w w ho hx hr]
    refine hK _ _ (h w cur rfl (fun _ _ => rfl) ?_)
    have hs : l.set i (g, cur, 75) = l := by
      apply List.ext_getElem?
      intro j
      rw [List.getElem?_set]
      split
      · rename_i e; subst e
        have hi := (List.getElem?_eq_some_iff.1 hl).1
        rw [if_pos hi, hl]
      · rfl
    rw [hs]
    exact H
  | succ n =>
    have hb := H.holds _ (List.mem_of_getElem? hl)
    have hst := run_storeCells_at (P := Try.prog) g o 75 (Builtin.zeroCells #[.int .i64 0, .int .i32 0, .int .i32 0, .int .i32 0, .int .i32 0, .int .i64 0] (n + 1)).toList 0 cur w hb (by rw [zeroCells_len]; omega) (zeroCells_one _)
    simp only [Nat.add_zero] at hst
    have hr : (Builtin.clear_ #[31] op.type #[.slice (some ⟨g, o, none⟩) (n + 1) c]).run Try.prog w = .ok (.tuple #[]) (w.setRow g (splice cur o (Builtin.zeroCells #[.int .i64 0, .int .i32 0, .int .i32 0, .int .i32 0, .int .i32 0, .int .i64 0] (n + 1)).toList)) := by
      simp [Builtin.clear_, run_underlying Try.underlying31, Value.cells, hst, splice]
    unfold Oper.wp
    rw [ex_clear x _ w _ ho hx hr]
    have hz := zeroCells_len (n + 1)
    refine hK _ _ (h _ _ ?_ ?_ (H.put i g cur _ 75 hl))
    · simp [splice, hz]; omega
    · intro j hj
      simp [splice]
      rw [List.getElem?_append_left (by simp; omega), List.getElem?_take, if_pos hj]
      simp
end
/-- What a row of shots holds, beside its spare. -/
def Pre (cur : Array Value) (L : List Sht) : Prop := ∀ (j : Nat) (v : Value), (cellsL L)[j]? = some v → cur[j]? = some v
theorem cellsL_append (A B : List Sht) : cellsL (A ++ B) = cellsL A ++ cellsL B := by simp [cellsL]
theorem splice_size (cur : Array Value) (o : Nat) (vs : List Value) (h : o + vs.length ≤ cur.size) : (splice cur o vs).size = cur.size := by
  simp [splice]; omega
theorem splice_at (cur : Array Value) (o : Nat) (vs : List Value) (h : o + vs.length ≤ cur.size) (j : Nat) : (splice cur o vs)[j]? = if j < o then cur[j]? else if j < o + vs.length then vs[j - o]? else cur[j]? := by
  unfold splice
  rw [List.getElem?_toArray]
  have hl : (cur.toList.take o).length = o := by simp; omega
  by_cases h1 : j < o
  · rw [if_pos h1, List.append_assoc, List.getElem?_append_left (by rw [hl]; exact h1), List.getElem?_take, if_pos h1]; simp
  · rw [if_neg h1]
    by_cases h2 : j < o + vs.length
    · rw [if_pos h2, List.getElem?_append_left (by simp; omega), List.getElem?_append_right (by omega), hl]
    · rw [if_neg h2, List.getElem?_append_right (by simp; omega), List.getElem?_drop]
      simp only [List.length_append, hl]
      rw [show o + vs.length + (j - (o + vs.length)) = j by omega]
      simp
theorem Pre.snoc {cur : Array Value} {A : List Sht} {t : Sht} (h : Pre cur A) (hf : A.length * 6 + 6 ≤ cur.size) : Pre (splice cur (A.length * 6) (shotL t)) (A ++ [t]) := by
  intro j v hv
  have hA : (cellsL A).length = A.length * 6 := length_cellsL A
  rw [splice_at _ _ _ (by simpa [shotL] using hf)]
  rw [cellsL_append, List.getElem?_append, hA] at hv
  by_cases h1 : j < A.length * 6
  · rw [if_pos h1] at hv ⊢
    exact h j v hv
  · rw [if_neg h1] at hv ⊢
    have hs : cellsL [t] = shotL t := by simp [cellsL]
    rw [hs] at hv
    have := (List.getElem?_eq_some_iff.1 hv).1
    rw [if_pos (by omega)]
    exact hv
/-- How far the deletion has come: m shots are kept out of the first j. -/
structure Kept (L : List Sht) (x : Int) (n m j : Nat) (A : List Sht) (c : Array Value) : Prop where
  a : A = (L.take j).filter fun s => decide (s.owner ≠ x)
  len : A.length = m
  size : c.size = n
  pre : Pre c A
  rest : ∀ (k : Nat) (v : Value), j * 6 ≤ k → (cellsL L)[k]? = some v → c[k]? = some v
theorem delete_some (g cap q : Nat) (cur : Array Value) (L : List Sht) (x : Int) (w0 : World) (hn : L.length ≤ 1000) (hc : L.length ≤ cap) (hcm : cap ≤ maxLen) (hsz : L.length * 6 ≤ cur.size) (hpre : Pre cur L) (hg : w0.heap[g]? = some (.cells cur 75 (0, 0))) (hqg : q ≠ g) (hq : q < w0.heap.size) (hx : w0.cell? ⟨q, 0, none⟩ = some (.int .i64 x)) :
    Calls Try.prog 55 #[.slice (some ⟨g, 0, none⟩) L.length cap, .func (.func 56) #[] #[.pointer (some ⟨q, 0, none⟩)]] w0 fun e w' => ∃ cur' : Array Value, e = .returned (.slice (some ⟨g, 0, none⟩) (L.filter fun s => decide (s.owner ≠ x)).length cap) ∧ cur'.size = cur.size ∧ Pre cur' (L.filter fun s => decide (s.owner ≠ x)) ∧ Sb [g] w0 w' [(g, cur', 75)] [] := by
  have hgl : g < w0.heap.size := (Array.getElem?_eq_some_iff.1 hg).1
  have H : Sb [g] w0 w0 [(g, cur, 75)] [] := ⟨rfl, rfl, rfl, Nat.le_refl _, fun _ _ _ => rfl, fun p hp => by rw [List.mem_singleton] at hp; subst hp; exact hg, fun p hp => by rw [List.mem_singleton] at hp; subst hp; exact .inr (List.mem_cons_self ..), by simp, fun _ h => by simp at h, fun _ h => by simp at h, fun _ h => by simp at h, by simp⟩
  have HI := Lib.hid (indexO_b g cap q L x w0 hn hgl hq (fun j v hv => by rw [Nat.zero_add]; exact (cell_of_row w0 g j cur 75 (0, 0) hg).trans (hpre j v hv)) hx)
  have HQ := Lib.hid hq
  have HX := Lib.hid hx
  have HQG := Lib.hid hqg
  have Hsz := Lib.hid hsz
  have HP := Lib.hid hpre
  have Hn := Lib.hid hn
  have Hc := Lib.hid hc
  have Hcm := Lib.hid hcm
  cases hf : L.findIdx? (fun t => decide (t.owner = x)) with
  | none =>
    have hi : idxO L x = -1 := by simp only [idxO, hf]
    rw [hi] at HI
    have hfl : (L.filter fun s => decide (s.owner ≠ x)) = L := by
      rw [List.filter_eq_self]
      intro t ht
      have := List.findIdx?_eq_none_iff.1 hf t ht
      simpa using this
    have HF := Lib.hid hfl
    clear hg hqg hq hx hsz hpre hn hc hcm hf hi hgl hfl
    go_enter Try.func55, Try.ntmps55
    go_wp2_with fail
    refine HI.out.mono ?_; rintro e w' ⟨rfl, hb⟩
    replace H := H.call hb
    clear hb
    go_wp2_with fail
    go_ret
    rw [HF.out]
    exact ⟨cur, rfl, rfl, HP.out, H⟩
  | some i =>
    have hi : idxO L x = (i : Int) := by simp only [idxO, hf]
    rw [hi] at HI
    obtain ⟨hil, hi1, hi2⟩ := List.findIdx?_eq_some_iff_getElem.1 hf
    have hfl : (L.take (i + 1)).filter (fun s => decide (s.owner ≠ x)) = L.take i := by
      rw [List.take_succ_eq_append_getElem hil, List.filter_append]
      have h1 : (L.take i).filter (fun s => decide (s.owner ≠ x)) = L.take i := by
        rw [List.filter_eq_self]
        intro t ht
        obtain ⟨j, hj⟩ := List.mem_iff_getElem?.1 ht
        rw [List.getElem?_take] at hj
        split at hj
        · rename_i hji
          have hjl : j < L.length := by omega
          rw [List.getElem?_eq_getElem hjl] at hj
          injection hj with hj
          rw [← hj]
          simpa using hi2 j hji
        · cases hj
      rw [h1]
      have : ([L[i]].filter fun s => decide (s.owner ≠ x)) = [] := by simpa using hi1
      rw [this, List.append_nil]
    have hli : (L.take i).length = i := by rw [List.length_take]; omega
    have HF := Lib.hid hfl
    have HLi := Lib.hid hli
    have Hil := Lib.hid hil
    have HIx : Hid (∃ t ∈ L, t.owner = x) := Lib.hid ⟨L[i]'hil, List.getElem_mem hil, by simpa using hi1⟩
    clear hg hqg hq hx hsz hpre hc hcm hf hi hgl hfl hli hi1 hi2
    go_enter Try.func55, Try.ntmps55
    go_wp2_with fail
    refine HI.out.mono ?_; rintro e w' ⟨rfl, hb⟩
    replace H := H.call hb
    have hn' : (L.length : Int) ≤ 1000 := by omega
    have hil' : (i : Int) < 1000 := by omega
    clear hb hn hil
    go_wp2_with fail
    have HB := Lib.hid H
    clear H
    go_loopw [5, 6] (fun iv jv W => ∃ (m j : Nat) (A : List Sht) (c : Array Value), j ≤ L.length ∧ m ≤ j ∧ iv = .int .i64 m ∧ jv = .int .i64 j ∧ Hid (Sb [g] w0 W [(g, c, 75)] []) ∧ Hid (Kept L x cur.size m j A c)) (fun _ jv _ => L.length - (intOf jv).toNat)
    case atStart => exact ⟨i, i + 1, L.take i, cur, by have := Hil.out; omega, by omega, rfl, rfl, HB, Lib.hid ⟨HF.out.symm, HLi.out, rfl, fun j v hv => HP.out j v (by
      have e : L = L.take i ++ L.drop i := (List.take_append_drop i L).symm
      rw [e, cellsL_append, List.getElem?_append_left (by exact (List.getElem?_eq_some_iff.1 hv).1)]
      exact hv), fun k v _ hv => HP.out k v hv⟩⟩
    case round =>
      clear HB
      obtain ⟨m, j, A, c, hj, hmj, rfl, rfl, HB, HA⟩ := hrel
      by_cases hlt : j < L.length
      · obtain ⟨t, ht⟩ : ∃ t, L[j]? = some t := ⟨L[j], List.getElem?_eq_getElem hlt⟩
        have Hpt : Hid (∀ n v, (shotL t)[n]? = some v → c[j * 6 + n]? = some v) := Lib.hid (fun n v hv => HA.out.rest _ v (by omega) (part_at ht n v hv))
        have hsn : (L.take (j + 1)).filter (fun s => decide (s.owner ≠ x)) = if t.owner = x then A else A ++ [t] := by
          obtain ⟨hj', e⟩ := List.getElem?_eq_some_iff.1 ht
          rw [List.take_succ_eq_append_getElem hj', e, List.filter_append, ← HA.out.a]
          by_cases h1 : t.owner = x <;> simp [h1]
        have Hsn := Lib.hid hsn
        have Hcs := Lib.hid HA.out.size
        have HAl := Lib.hid HA.out.len
        have HPc := Lib.hid HA.out.pre
        have HRc := Lib.hid HA.out.rest
        have H := HB.out
        have Hjj := Lib.hid hlt
        have Hmj := Lib.hid hmj
        have hjn : (j : Int) < 1000 := by omega
        have hml : m < L.length := by omega
        clear HB HA ht hsn hj hmj
        go_upto_region 8 with (first | (refine wb_part H rfl 0 75 _ rfl g (j * 6) rfl c 75 rfl _ Try.underlying75 rfl 6 info79s (shotL t) Hpt.out rfl ?_) | (refine wb_alloc H rfl 75 rfl _ Try.zeroValue75 ?_; clear H; intro b7 w H) | (refine wb_put H rfl 0 75 _ _ rfl _ 0 rfl _ _ rfl (.agg (shotL t).toArray) rfl 6 info79s rfl (Nat.le_of_ble_eq_true rfl) rfl (shotL t).toArray rfl ?_; clear H; intro w H))
        replace H : Sb [g] w0 w [(b7, (shotL t).toArray, 75), (g, c, 75)] [] := H
        have HC := Lib.hid (fun w (H : Sb [g] w0 w [(b7, (shotL t).toArray, 75), (g, c, 75)] []) => isShot_b t x q w ((World.cell?_of_block (a := ⟨q, 0, none⟩) (H.fr q HQ.out (by simpa using HQG.out))).trans HX.out) (Nat.lt_of_lt_of_le HQ.out H.size))
        go_wp2_with (refine wb_whole H rfl 0 75 _ rfl _ rfl (shotL t).toArray rfl _ Try.underlying75 rfl 6 info79s rfl ?_)
        refine (HC.out _ H).mono ?_; rintro e w' ⟨rfl, hb⟩
        replace H := H.call hb
        clear hb HC
        by_cases hp : t.owner = x
        · rw [decide_eq_true hp]
          have Hp := Lib.hid hp
          clear hp
          go_wp2_with fail
          have HK : Hid (Kept L x cur.size m (j + 1) A c) := Lib.hid ⟨by rw [Hsn.out, if_pos Hp.out], HAl.out, Hcs.out, HPc.out, fun k v hk hv => HRc.out k v (by omega) hv⟩
          refine ⟨?_, by simp [intOf]; omega⟩
          simp
          exact ⟨m, j + 1, by omega, by have := Hmj.out; omega, rfl, rfl, A, c, Lib.hid H.tail, HK⟩
        · rw [decide_eq_false hp]
          have Hp := Lib.hid hp
          clear hp
          have hft : m * 6 + 6 ≤ c.size := by have := Hcs.out; have := Hsz.out; omega
          have Hft := Lib.hid hft
          go_wp2_with (first | (refine wb_whole H rfl 0 75 _ rfl _ rfl (shotL t).toArray rfl _ Try.underlying75 rfl 6 info79s rfl ?_) | (refine wb_put H rfl 1 75 _ _ rfl _ (m * 6) rfl _ _ rfl (.agg (shotL t).toArray) rfl 6 info79s rfl hft rfl _ rfl ?_; clear H; intro w H))
          replace H : Sb [g] w0 w [(b7, (shotL t).toArray, 75), (g, splice c (m * 6) (shotL t), 75)] [] := H
          have HK : Hid (Kept L x cur.size (m + 1) (j + 1) (A ++ [t]) (splice c (m * 6) (shotL t))) := Lib.hid ⟨by rw [Hsn.out, if_neg Hp.out], by simp [HAl.out], (splice_size _ _ _ (by simpa [shotL] using Hft.out)).trans Hcs.out, by
            have h := HPc.out.snoc (t := t) (by rw [HAl.out]; exact Hft.out)
            rw [HAl.out] at h
            exact h, fun k v hk hv => by
            have := Hmj.out
            rw [splice_at _ _ _ (by simpa [shotL] using Hft.out), if_neg (by omega), if_neg (by simp [shotL]; omega)]
            exact HRc.out k v (by omega) hv⟩
          refine ⟨?_, by simp [intOf]; omega⟩
          simp
          exact ⟨m + 1, j + 1, by omega, by have := Hmj.out; omega, rfl, rfl, A ++ [t], splice c (m * 6) (shotL t), Lib.hid H.tail, HK⟩
      · obtain rfl : j = L.length := by omega
        have hA := HA.out.a
        rw [List.take_length] at hA
        have hml : (m : Int) ≤ L.length := by omega
        have hmc : (L.length : Int) ≤ cap := by have := Hc.out; omega
        have hcm : (cap : Int) ≤ 9223372036854775807 := by have := Hcm.out; unfold maxLen at this; omega
        have H := HB.out
        have hfit : m * 6 + (L.length - m) * 6 ≤ c.size := by have := HA.out.size; have := Hsz.out; omega
        have hmlt : m < L.length := by
          rw [← HA.out.len, hA]
          obtain ⟨t, ht, hx⟩ := HIx.out
          exact List.length_filter_lt_length_iff_exists.2 ⟨t, ht, by simpa using hx⟩
        have hmlt' : (m : Int) < L.length := by omega
        have hmcap : (m : Int) < cap := by omega
        have hmne : ¬ m = cap := by have := Hc.out; omega
        have hmne' : ¬ (m : Int) = cap := by omega
        have HAA := Lib.hid hA
        have HAc := Lib.hid HA.out
        clear hA HB HA hj hmj hlt
        go_wp2_with (refine wb_clear H _ rfl rfl 0 g (m * 6) (L.length - m) _ c rfl rfl hfit ?_; clear H; intro w1 c1 hc1 hp1 H)
        replace H : Sb [g] w0 w1 [(g, c1, 75)] [] := H
        have HH := Lib.hid H
        have Hc1 := Lib.hid hc1
        have Hp1 := Lib.hid hp1
        have Hml := Lib.hid hmlt
        clear H hc1 hp1 hml hmc hcm hfit hmlt hmlt' hmcap hmne hmne'
        go_ret
        refine ⟨c1, by rw [← HAA.out, HAc.out.len]; rfl, by rw [Hc1.out, HAc.out.size], ?_, HH.out⟩
        rw [← HAA.out]
        intro k v hv
        rw [Hp1.out k (by
          have := (List.getElem?_eq_some_iff.1 hv).1
          rw [length_cellsL, HAc.out.len] at this
          exact this)]
        exact HAc.out.pre k v hv
end Go.Proofs.Ytdopfonebpklkaa.game
namespace Go.Proofs.Ytdopfonebpklkaa.game
open Go.ChangeShapes Go.WideShapes Go.ChangeAt Go.RowKit dice
set_option maxRecDepth 100000

theorem take_of_pre {cur : Array Value} {L : List Sht} (h : Pre cur L) : cur.toList.take (L.length * 6) = cellsL L := by
  apply List.ext_getElem?
  intro j
  rw [List.getElem?_take]
  by_cases hj : j < L.length * 6
  · rw [if_pos hj]
    have hl : j < (cellsL L).length := by rw [length_cellsL]; exact hj
    have := h j _ (List.getElem?_eq_getElem hl)
    rw [Array.getElem?_toList, this, List.getElem?_eq_getElem hl]
  · rw [if_neg hj, List.getElem?_eq_none]
    rw [length_cellsL]; omega
/-- DeleteFunc on a row of the call's own. -/
theorem delete_own {W0 w : World} {l : List Blk} {R : List RowS} {sl : Value} {L : List Sht} (H : Sb [] W0 w l ((sl, L) :: R)) (q : Nat) (x : Int) (hn : L.length ≤ 1000) (t : TypeId) (hq : (q, #[Value.int .i64 x], t) ∈ l) :
    Calls Try.prog 55 #[sl, .func (.func 56) #[] #[.pointer (some ⟨q, 0, none⟩)]] w fun e w' => ∃ sl', e = .returned sl' ∧ Sb [] W0 w' l ((sl', L.filter fun s => decide (s.owner ≠ x)) :: R) := by
  have ho : Own w 0 sl L := H.rows _ (List.mem_cons_self ..)
  have hlt := H.lt _ hq
  have hcell : w.cell? ⟨q, 0, none⟩ = some (.int .i64 x) := cell_of_row w q 0 _ t (0, 0) (H.holds _ hq)
  rcases ho.2 with ⟨rfl, hn0⟩ | ⟨g, cap, cur, rfl, hb, hg, h1, h2, h3, h4⟩
  · have hL : L = [] := List.length_eq_zero_iff.1 hn0
    subst hL
    refine (delete_nil _ w).mono ?_
    rintro e w' ⟨rfl, rfl⟩
    exact ⟨_, rfl, H⟩
  · have hne : q ≠ g := fun e => H.apart _ (List.mem_cons_self ..) _ hq (by rw [e]; rfl)
    have hsz : L.length * 6 ≤ cur.size := by
      have := congrArg List.length h4
      rw [length_cellsL, List.length_take, Array.length_toList] at this
      omega
    have hpre : Pre cur L := fun j v hv => by
      rw [← h4, List.getElem?_take] at hv
      split at hv
      · simpa using hv
      · cases hv
    refine (delete_some g cap q cur L x w hn h1 h2 hsz hpre hg hne hlt hcell).mono ?_
    rintro e w' ⟨cur', rfl, hc, hp, hS⟩
    refine ⟨_, rfl, ?_⟩
    have hfl : (L.filter fun s => decide (s.owner ≠ x)).length ≤ L.length := List.length_filter_le ..
    exact H.append 0 (.slice (some ⟨g, 0, none⟩) L.length cap) (.slice (some ⟨g, 0, none⟩) (L.filter fun s => decide (s.owner ≠ x)).length cap) L (L.filter fun s => decide (s.owner ≠ x)) rfl
      (w' := w') ⟨length_cellsL _, .inr ⟨g, cap, cur', rfl, Nat.zero_le _, hS.holds _ (List.mem_cons_self ..), by omega, h2, by rw [hc, h3], take_of_pre hp⟩⟩ ⟨hS.os, hS.tape, hS.output, hS.size, fun k hk hkn => hS.fr k hk (by rw [List.mem_singleton]; intro e; exact hkn (by rw [e]; rfl))⟩ (.inl rfl)
set_option maxHeartbeats 8000000 in
theorem remove_any (g : Gme) (k : Nat) (t : Shp) (sl : Value) (w0' : World) (hg : g.ok) (hk : k < 8) (ht : g.S[k]? = some t) (hon : t.on = true) (hin : ShotsIn w0' sl g.L) :
    Calls Try.prog 37 #[.agg (gameC g.fr g.d g.S sl), .int .i64 k] w0' (SpawnOut (removeG g k) w0') := by
  obtain ⟨w, hw⟩ : ∃ w, w0' = w := ⟨_, rfl⟩
  have HM := Lib.hid (fun w h => ship_any g k t true sl w hg hk ht h)
  rw [hon] at HM
  have HS := Lib.hid hg.s8
  have HI := Lib.hid hin
  have Hn := Lib.hid hg.most
  have H : Sb [] w0' w [] [] := by rw [← hw]; exact Sb.start w0'
  rw [show Calls Try.prog 37 #[.agg (gameC g.fr g.d g.S sl), .int .i64 k] w0' = Calls Try.prog 37 #[.agg (gameC g.fr g.d g.S sl), .int .i64 k] w by rw [hw]]
  unfold removeG
  clear hg ht hin hon hw
  obtain ⟨fr, d, S, L⟩ := g
  dsimp only at *
  have hk8 : (k : Int) < 8 := by omega
  have G1 := Lib.hid (gc_ship (fr := fr) (d := d) (S := S) (sl := sl) k zShp (by rw [HS.out]; exact hk))
  have HS2 : Hid ((S.set k zShp).length = 8) := Lib.hid (by rw [List.length_set]; exact HS.out)
  generalize hS2 : S.set k zShp = S2 at *
  clear hS2
  have hmf : ∀ (fn : Fn) (first cap : Array Value) (w : World), (Instr.makeFunc fn first cap).run Try.prog w = .ok (.func fn first cap) w := fun _ _ _ _ => rfl
  have hft : 2 + k * 7 + 7 ≤ (gameC fr d S sl).size := by rw [gc_size HS.out]; omega
  have Hft := Lib.hid hft
  have Hsh := Lib.hid (gc_shots (fr := fr) (d := d) (S := S2) (sl := sl) HS2.out)
  clear hft hk
  go_enter Try.func37, Try.ntmps37
  go_upto_region 1 with (first | (refine wb_box H rfl 33 _ rfl (gameC fr d S sl) rfl ?_; clear H; intro b2 w H) | (refine wb_box H rfl 3 _ rfl #[.int .i64 k] rfl ?_; clear H; intro b3 w H) | (refine wb_alloc H rfl 33 rfl _ Try.zeroValue33 ?_; clear H; intro b4 w H))
  go_wp2_with (first | (refine wb_cell H rfl 1 3 _ rfl _ 0 rfl _ _ rfl Try.isAgg3 (.int .i64 k) rfl ?_) | (refine wb_whole H rfl 2 33 _ rfl _ rfl _ rfl _ Try.underlying33 rfl 59 info28 (gc_size HS.out) ?_))
  refine (HM.out _ (HI.out.later H.below)).mono ?_; rintro e w' ⟨rfl, hb⟩
  replace H := H.call hb
  clear hb HM
  go_upto_region 4 with (first | (refine wb_cell H rfl 1 3 _ rfl _ 0 rfl _ _ rfl Try.isAgg3 (.int .i64 k) rfl ?_) | (refine wl_build rfl 29 _ rfl (shipL zShp).toArray (by kernel_rfl) ?_) | (refine wb_put H rfl 2 29 _ _ rfl _ (2 + k * 7) rfl _ _ rfl (.agg (shipL zShp).toArray) rfl 7 info24 rfl Hft.out rfl _ G1.out ?_; clear H; intro w H))
  go_wp2_with (refine wb_cell H rfl 2 31 _ rfl _ 58 rfl _ _ rfl Try.isAgg31 sl Hsh.out ?_)
  refine (clone_any sl L _ (HI.out.later H.below) (by have := Hn.out; omega)).mono ?_
  rintro e w' ⟨⟨sl0, rfl, hown⟩, hb⟩
  replace H := H.addRow _ L (own_zero hown) hb (fun k hk => (World.ownsRow.lt hown k hk).1)
  clear hown hb
  obtain ⟨Z4, hZ4, H'⟩ : ∃ Z4 : Array Value, Z4.size = 59 ∧ Sb [] w0' w' [(b4, Z4, 33), (b3, #[Value.int .i64 k], 3), (b2, gameC fr d S2 sl, 33)] [(sl0, L)] := ⟨_, rfl, H⟩
  have HZ4 := Lib.hid hZ4
  clear H hZ4
  have H := H'
  clear H'
  go_wp2_with fail
  refine (delete_own H b3 k (by have := Hn.out; omega) 3 (List.mem_cons_of_mem _ (List.mem_cons_self ..))).mono ?_
  rintro e w2 ⟨sl1, rfl, H1⟩
  clear H
  have H := H1
  clear H1
  generalize hL2 : (L.filter fun s => decide (s.owner ≠ (k : Int))) = L2 at *
  have HL2 := Lib.hid hL2
  clear hL2
  have hrow : Own w2 0 sl1 L2 := H.rows _ (List.mem_cons_self ..)
  obtain ⟨ad1, c1, rfl⟩ := own_form hrow
  clear hrow
  have Hft2 : Hid (58 + 1 ≤ (gameC fr d S2 sl).size) := Lib.hid (by rw [gc_size HS2.out]; omega)
  have G2 := Lib.hid (gc_setShots (fr := fr) (d := d) (sl := sl) HS2.out (.slice ad1 L2.length c1))
  have HZf : Hid (splice Z4 0 (Value.cells (.agg (gameC fr d S2 (.slice ad1 L2.length c1)))).toList = gameC fr d S2 (.slice ad1 L2.length c1)) := Lib.hid (splice_all _ _ (by rw [HZ4.out]; exact (gc_size HS2.out).symm))
  have Hft3 : Hid (0 + 59 ≤ Z4.size) := Lib.hid (by rw [HZ4.out]; decide)
  go_wp2_with (first | (refine wb_put H rfl 2 31 _ _ rfl _ 58 rfl _ _ rfl (.slice ad1 L2.length c1) rfl 1 info26 rfl Hft2.out rfl _ G2.out ?_; clear H; intro w H) | (refine wb_whole H rfl 2 33 _ rfl _ rfl (gameC fr d S2 (.slice ad1 L2.length c1)) rfl _ Try.underlying33 rfl 59 info28 (gc_size HS2.out) ?_) | (refine wb_put H rfl 0 33 _ _ rfl _ 0 rfl _ _ rfl (.agg (gameC fr d S2 (.slice ad1 L2.length c1))) rfl 59 info28 (gc_size HS2.out) Hft3.out gcv_one _ HZf.out ?_; clear H; intro w H))
  refine bodyPost_ret (v := .tuple #[.agg (gameC fr d S2 (.slice ad1 L2.length c1)), .int .i64 0]) ?_ rfl ⟨⟨_, rfl, by dsimp only; rw [HL2.out]; exact H.rows _ (List.mem_cons_self ..), fun q hq => (H.rge _ (List.mem_cons_self ..) q hq).resolve_right (by simp)⟩, H.below⟩
  exact res2 rfl rfl rfl (H.holds _ (List.mem_cons_self ..)) (gc_size HS2.out)
end Go.Proofs.Ytdopfonebpklkaa.game
namespace Go.Proofs.Ytdopfonebpklkaa.game
open Go.ChangeShapes Go.WideShapes Go.ChangeAt Go.RowKit dice
set_option maxRecDepth 100000

/-- What must panics with. -/
def failP (k : Int) : List PanicEntry := [{ v := .iface 65 (.agg #[.int .i64 k]), recovered := false }]
theorem must_ok (k : Int) (w0 : World) : Calls Try.prog 23 #[.bool true, .int .i64 k] w0 fun e w' => e = .returned (.tuple #[]) ∧ w0 = w' := by
  go_enter Try.func23, Try.ntmps23
  go_wp2_with fail
  simp [bodyPost, results, Try.results23]
theorem must_bad (k : Int) (w0 : World) : Calls Try.prog 23 #[.bool false, .int .i64 k] w0 fun e w' => e = .panicked (failP k) ∧ w0 = w' := by
  go_enter Try.func23, Try.ntmps23
  go_wp2_with fail
  exact ⟨rfl, rfl, rfl⟩
section
variable {fr d fr' d' ver ver' : Int} {S S' : List Shp} {L L' : List Sht} {T T' : List Seat} {sl sl' : Value}
theorem sc_setR (h8 : S.length = 8) (hT : T.length = T'.length) : splice (stateC ⟨⟨fr, d, S, L⟩, ver, T⟩ sl) 59 (rosterC ver' T').toList = stateC ⟨⟨fr, d, S, L⟩, ver', T'⟩ sl := by
  have e : ∀ (v : Int) (T : List Seat), stateC ⟨⟨fr, d, S, L⟩, v, T⟩ sl = ((Value.int .i64 fr :: Value.int .u64 d :: (shipsL S ++ [sl])) ++ ((rosterC v T).toList ++ [])).toArray := fun v T => by
    simp [stateC, stateL, rosterC]
  rw [e ver T, e ver' T']
  exact splice_mid _ _ _ _ _ (by simp [length_shipsL, h8]) (by simp [rosterC, length_seatsL, hT])
theorem sc_setG (hS : S.length = S'.length) : splice (stateC ⟨⟨fr, d, S, L⟩, ver, T⟩ sl) 0 (gameC fr' d' S' sl').toList = stateC ⟨⟨fr', d', S', L'⟩, ver, T⟩ sl' := by
  have e : ∀ (fr d : Int) (S : List Shp) (L : List Sht) (sl : Value), stateC ⟨⟨fr, d, S, L⟩, ver, T⟩ sl = ([] ++ ((gameC fr d S sl).toList ++ (Value.int .i64 ver :: seatsL T))).toArray := fun fr d S L sl => by
    simp [stateC, stateL, gameC]
  rw [e fr d S L sl, e fr' d' S' L' sl']
  exact splice_mid _ _ _ _ _ rfl (by simp [gameC, length_shipsL, hS])
end
theorem sc_oneI {W : World} {s : Ste} {sl : Value} (h : ShotsIn W sl s.g.L) : (Value.cells (.agg (stateC s sl))).toList.all (·.oneCell') = true := by
  have hso : sl.oneCell' = true := slOne h
  rw [List.all_eq_true]
  intro v hv
  simp [Value.cells, stateC, stateL, shipsL, seatsL] at hv
  rcases hv with rfl | rfl | ⟨t, _, hm⟩ | rfl | rfl | ⟨q, _, hm⟩
  · rfl
  · rfl
  · simp [shipL] at hm
    rcases hm with rfl | rfl | rfl | rfl | rfl | rfl | rfl <;> rfl
  · exact hso
  · rfl
  · simp [seatL] at hm
    rcases hm with rfl | rfl <;> rfl
theorem res35' {fn : Func} {p : Tmp} {tmps : Array Value} {w : World} {b : Nat} {cs : Array Value} (h : fn.results = #[.cell p 40]) (ha : tmps.getD p undef = .pointer (some ⟨b, 0, none⟩)) (hb : w.heap[b]? = some (.cells cs 40 (0, 0))) (hs : cs.size = 76) :
    (results fn tmps).run Try.prog w = .ok (.agg cs) w := res35 h ha hb hs
/-- What fold's inner functions answer: a state, or a panic. -/
def StOut (o : Option Ste) (W0 : World) (e : Ending) (w' : World) : Prop :=
  Below W0.heap.size W0 w' ∧ match o with
  | none => e = .panicked (failP 1)
  | some t => ∃ sl, e = .returned (.agg (stateC t sl)) ∧ Own w' 0 sl t.g.L ∧ ∀ k, sl.ownBlock = some k → W0.heap.size ≤ k
theorem rosOne {ver : Int} {T : List Seat} : (Value.cells (.agg (rosterC ver T))).toList.all (·.oneCell') = true := rc_one
theorem info33n : (Try.prog.info? 38).map (·.size) = some 17 := info33
set_option maxHeartbeats 8000000 in
theorem event_b (s : Ste) (sl : Value) (x : Evt) (w0 : World) (hs : s.may) (hx : x.wf) (hin : ShotsIn w0 sl s.g.L) :
    Calls Try.prog 25 #[.agg (stateC s sl), .agg (evC x)] w0 (StOut (evS s x) w0) := by
  have H := Sb.start w0
  have h8 := hs.g.s8
  have t8 := hs.t8
  have HA := Lib.hid (fun w => ros_apply s.ver s.T x w t8 hx)
  have HI := Lib.hid hin
  have Hz := Lib.hid (sc_size (s := s) (sl := sl) h8 t8)
  have HRs := Lib.hid (fun j v h => sc_roster (s := s) (sl := sl) h8 j v h)
  have Hrz := Lib.hid (rc_size (ver := s.ver) t8)
  cases hr : evR s.ver s.T x with
  | none =>
    have hev : evS s x = none := by unfold evS; rw [hr]; rfl
    rw [hev]
    rw [hr] at HA
    have Hset := Lib.hid (sc_setR (fr := s.g.fr) (d := s.g.d) (L := s.g.L) (ver := s.ver) (ver' := s.ver) (T := s.T) (T' := s.T) (sl := sl) h8 rfl)
    have hft : 59 + 17 ≤ (stateC s sl).size := by rw [Hz.out]; omega
    have Hft := Lib.hid hft
    have Hset' : Hid (splice (stateC s sl) 59 (rosterC s.ver s.T).toList = stateC s sl) := Hset
    clear hs hx hin h8 t8 hr hev hft Hset
    generalize stateC s sl = cs at *
    go_enter Try.func25, Try.ntmps25
    go_wp2_with (first | (refine wb_box H rfl 40 _ rfl cs rfl ?_; clear H; intro b2 w H) | (refine wb_box H rfl 49 _ rfl (evC x) rfl ?_; clear H; intro b3 w H) | (refine wb_alloc H rfl 40 rfl _ Try.zeroValue40 ?_; clear H; intro b4 w H) | (refine wb_part H rfl 2 38 _ rfl _ 59 rfl _ _ rfl _ Try.underlying38 rfl 17 info33 (rosterC s.ver s.T).toList (fun j v h => HRs.out j v (by simpa using h)) (by rw [Array.length_toList]; exact Hrz.out) ?_; rw [Array.toArray_toList]) | (refine wb_whole H rfl 1 49 _ rfl _ rfl (evC x) rfl _ Try.underlying49 rfl 4 info60e rfl ?_))
    refine (HA.out _).mono ?_; rintro e w' ⟨he, hb⟩
    unfold RosOut at he
    subst he
    replace H := H.call hb
    clear hb HA
    go_wp2_with (refine wb_put H rfl 2 38 _ _ rfl _ 59 rfl _ _ rfl (.agg (rosterC s.ver s.T)) rfl 17 info33 Hrz.out Hft.out rosOne _ Hset'.out ?_; clear H; intro w H)
    refine (must_bad 1 _).mono ?_
    rintro e w2 ⟨rfl, rfl⟩
    exact ⟨rfl, H.below, rfl⟩
  | some r =>
    obtain ⟨v', T'⟩ := r
    have hm := evR_may hr
    obtain ⟨hmr, hmv, k, q, hk, hk8, hq, hway⟩ := evR_some hr
    clear hmr hmv
    have hev : evS s x = some ⟨evG s.g x, v', T'⟩ := by unfold evS; rw [hr]; rfl
    rw [hev]
    rw [hr] at HA
    have hT8 : T'.length = 8 := hm.2.2.trans t8
    obtain ⟨t, ht⟩ : ∃ t, s.g.S[k]? = some t := ⟨s.g.S[k]'(by rw [h8]; exact hk8), List.getElem?_eq_getElem _⟩
    have hto := pairs_idx.1 hs.p k t q ht hq
    have Hset := Lib.hid (sc_setR (fr := s.g.fr) (d := s.g.d) (L := s.g.L) (ver := s.ver) (ver' := v') (T := s.T) (T' := T') (sl := sl) h8 (t8.trans hT8.symm))
    have Hft : Hid (59 + 17 ≤ (stateC s sl).size) := Lib.hid (by rw [Hz.out]; omega)
    have Hset' : Hid (splice (stateC s sl) 59 (rosterC v' T').toList = stateC ⟨s.g, v', T'⟩ sl) := Hset
    have Hrz' := Lib.hid (rc_size (ver := v') hT8)
    have HGm := Lib.hid (fun j v h => sc_game (s := ⟨s.g, v', T'⟩) (sl := sl) j v h)
    have Hgz := Lib.hid (gc_size (fr := s.g.fr) (d := s.g.d) (sl := sl) h8)
    have HGo := Lib.hid (evG_ok x hs.g)
    have HSetG := Lib.hid (fun sl' => sc_setG (fr := s.g.fr) (d := s.g.d) (fr' := (evG s.g x).fr) (d' := (evG s.g x).d) (L := s.g.L) (L' := (evG s.g x).L) (ver := v') (T := T') (sl := sl) (sl' := sl') (h8.trans (evG_ok x hs.g).s8.symm))
    have Hz1 := Lib.hid (sc_size (s := ⟨s.g, v', T'⟩) (sl := sl) h8 hT8)
    have HzE := Lib.hid (fun sl' => sc_size (s := ⟨evG s.g x, v', T'⟩) (sl := sl') (evG_ok x hs.g).s8 hT8)
    have HspE : Hid (∀ sl', splice zC 0 (Value.cells (.agg (stateC ⟨evG s.g x, v', T'⟩ sl'))).toList = stateC ⟨evG s.g x, v', T'⟩ sl') := Lib.hid (fun sl' => splice_all _ _ (by rw [zC_size]; exact (HzE.out sl').symm))
    have HGz := Lib.hid (fun sl' => gc_size (fr := (evG s.g x).fr) (d := (evG s.g x).d) (sl := sl') (evG_ok x hs.g).s8)
    rcases hway with ⟨hkd, hq0, hrest⟩ | ⟨hkd, hq0, hrest⟩
    · have hton : t.on = false := by rw [hto]; simp; omega
      have HC := Lib.hid (fun w h => spawn_any s.g k t sl w hs.g hk8 ht hton h)
      have heg : evG s.g x = spawnG s.g k := by unfold evG; rw [if_neg (by omega)]; rw [hk, Int.toNat_natCast]
      rw [← heg] at HC
      have hq1 : decide (x.kind = 2) = false := by rw [hkd]; rfl
      have Hkd := Lib.hid (show (evC x)[0]? = some (.int .i64 x.kind) from rfl)
      have Hsl := Lib.hid (show (evC x)[1]? = some (.int .i64 (k : Int)) by rw [← hk]; rfl)
      rw [hkd] at Hkd
      clear hrest hs hx hin h8 t8 hr hev Hset hm hk hk8 hq ht hto hton heg hT8 hkd hq1 hq0
      generalize evG s.g x = G at *
      go_enter Try.func25, Try.ntmps25
      go_wp2_with (first | (refine wb_box H rfl 40 _ rfl (stateC s sl) rfl ?_; clear H; intro b2 w H) | (refine wb_box H rfl 49 _ rfl (evC x) rfl ?_; clear H; intro b3 w H) | (refine wb_alloc H rfl 40 rfl _ Try.zeroValue40 ?_; clear H; intro b4 w H) | (refine wb_part H rfl 2 38 _ rfl _ 59 rfl _ _ rfl _ Try.underlying38 rfl 17 info33 (rosterC s.ver s.T).toList (fun j v h => HRs.out j v (by simpa using h)) (by rw [Array.length_toList]; exact Hrz.out) ?_; rw [Array.toArray_toList]) | (refine wb_whole H rfl 1 49 _ rfl _ rfl (evC x) rfl _ Try.underlying49 rfl 4 info60e rfl ?_))
      refine (HA.out _).mono ?_; rintro e w' ⟨he, hb⟩
      unfold RosOut at he
      subst he
      replace H := H.call hb
      clear hb HA
      go_wp2_with (refine wb_put H rfl 2 38 _ _ rfl _ 59 rfl _ _ rfl (.agg (rosterC v' T')) rfl 17 info33 Hrz'.out Hft.out rosOne _ Hset'.out ?_; clear H; intro w H)
      replace H : Sb [] w0 w [(b4, zC, 40), (b3, evC x, 49), (b2, stateC ⟨s.g, v', T'⟩ sl, 40)] [] := H
      refine (must_ok 1 _).mono ?_
      rintro e w2 ⟨rfl, rfl⟩
      go_wp2_with (first | (refine wb_cell H rfl 1 3 _ rfl _ 0 rfl _ _ rfl Try.isAgg3 (.int .i64 1) Hkd.out ?_) | (refine wb_cell H rfl 1 3 _ rfl _ 1 rfl _ _ rfl Try.isAgg3 (.int .i64 k) Hsl.out ?_) | (refine wb_partA H rfl 2 33 _ rfl _ 0 rfl _ _ rfl _ Try.underlying33 rfl 59 info28 (gameC s.g.fr s.g.d s.g.S sl) (fun j v h => by rw [Nat.zero_add]; exact HGm.out j v h) Hgz.out ?_))
      refine (HC.out _ (HI.out.later H.below)).mono ?_
      rintro e w3 ⟨⟨sl', rfl, hown, hnew⟩, hb⟩
      replace H := H.addRow sl' _ hown hb hnew
      have HOne := Lib.hid (sc_oneI (s := ⟨G, v', T'⟩) hown.shotsIn)
      have HOneG := Lib.hid (show (Value.cells (.agg (gameC G.fr G.d G.S sl'))).toList.all (·.oneCell') = true by
        obtain ⟨ad, c, e⟩ := own_form hown
        rw [e]
        exact gcv_one)
      have Hft0 : Hid (0 + 59 ≤ (stateC ⟨s.g, v', T'⟩ sl).size) := Lib.hid (by rw [Hz1.out]; omega)
      clear hown hnew hb HC
      go_wp2_with (refine wb_put H rfl 2 33 _ _ rfl _ 0 rfl _ _ rfl (.agg (gameC G.fr G.d G.S sl')) rfl 59 info28 (HGz.out sl') Hft0.out HOneG.out _ (HSetG.out sl') ?_; clear H; intro w H)
      replace H : Sb [] w0 w [(b4, zC, 40), (b3, evC x, 49), (b2, stateC ⟨G, v', T'⟩ sl', 40)] [(sl', G.L)] := H
      refine (must_ok 1 _).mono ?_
      rintro e w2 ⟨rfl, rfl⟩
      go_wp2_with (first | (refine wb_whole H rfl 2 40 _ rfl _ rfl (stateC ⟨G, v', T'⟩ sl') rfl _ Try.underlying40 rfl 76 info35 (HzE.out sl') ?_) | (refine wb_put H rfl 0 40 _ _ rfl _ 0 rfl _ _ rfl (.agg (stateC ⟨G, v', T'⟩ sl')) rfl 76 info35 (HzE.out sl') (Nat.le_of_ble_eq_true rfl) HOne.out _ (HspE.out sl') ?_; clear H; intro w H))
      refine bodyPost_ret (v := .agg (stateC ⟨G, v', T'⟩ sl')) (res35 rfl rfl (H.holds _ (List.mem_cons_self ..)) (HzE.out sl')) rfl ⟨H.below, sl', rfl, H.rows _ (List.mem_cons_self ..), fun q hq => (H.rge _ (List.mem_cons_self ..) q hq).resolve_right (by simp)⟩
    · have hton : t.on = true := by rw [hto]; simp; omega
      have HC := Lib.hid (fun w h => remove_any s.g k t sl w hs.g hk8 ht hton h)
      have heg : evG s.g x = removeG s.g k := by unfold evG; rw [if_pos hkd]; rw [hk, Int.toNat_natCast]
      rw [← heg] at HC
      have hq1 : decide (x.kind = 2) = true := by rw [hkd]; rfl
      have Hkd := Lib.hid (show (evC x)[0]? = some (.int .i64 x.kind) from rfl)
      have Hsl := Lib.hid (show (evC x)[1]? = some (.int .i64 (k : Int)) by rw [← hk]; rfl)
      rw [hkd] at Hkd
      clear hrest hs hx hin h8 t8 hr hev Hset hm hk hk8 hq ht hto hton heg hT8 hkd hq1 hq0
      generalize evG s.g x = G at *
      go_enter Try.func25, Try.ntmps25
      go_wp2_with (first | (refine wb_box H rfl 40 _ rfl (stateC s sl) rfl ?_; clear H; intro b2 w H) | (refine wb_box H rfl 49 _ rfl (evC x) rfl ?_; clear H; intro b3 w H) | (refine wb_alloc H rfl 40 rfl _ Try.zeroValue40 ?_; clear H; intro b4 w H) | (refine wb_part H rfl 2 38 _ rfl _ 59 rfl _ _ rfl _ Try.underlying38 rfl 17 info33 (rosterC s.ver s.T).toList (fun j v h => HRs.out j v (by simpa using h)) (by rw [Array.length_toList]; exact Hrz.out) ?_; rw [Array.toArray_toList]) | (refine wb_whole H rfl 1 49 _ rfl _ rfl (evC x) rfl _ Try.underlying49 rfl 4 info60e rfl ?_))
      refine (HA.out _).mono ?_; rintro e w' ⟨he, hb⟩
      unfold RosOut at he
      subst he
      replace H := H.call hb
      clear hb HA
      go_wp2_with (refine wb_put H rfl 2 38 _ _ rfl _ 59 rfl _ _ rfl (.agg (rosterC v' T')) rfl 17 info33 Hrz'.out Hft.out rosOne _ Hset'.out ?_; clear H; intro w H)
      replace H : Sb [] w0 w [(b4, zC, 40), (b3, evC x, 49), (b2, stateC ⟨s.g, v', T'⟩ sl, 40)] [] := H
      refine (must_ok 1 _).mono ?_
      rintro e w2 ⟨rfl, rfl⟩
      go_wp2_with (first | (refine wb_cell H rfl 1 3 _ rfl _ 0 rfl _ _ rfl Try.isAgg3 (.int .i64 2) Hkd.out ?_) | (refine wb_cell H rfl 1 3 _ rfl _ 1 rfl _ _ rfl Try.isAgg3 (.int .i64 k) Hsl.out ?_) | (refine wb_partA H rfl 2 33 _ rfl _ 0 rfl _ _ rfl _ Try.underlying33 rfl 59 info28 (gameC s.g.fr s.g.d s.g.S sl) (fun j v h => by rw [Nat.zero_add]; exact HGm.out j v h) Hgz.out ?_))
      refine (HC.out _ (HI.out.later H.below)).mono ?_
      rintro e w3 ⟨⟨sl', rfl, hown, hnew⟩, hb⟩
      replace H := H.addRow sl' _ hown hb hnew
      have HOne := Lib.hid (sc_oneI (s := ⟨G, v', T'⟩) hown.shotsIn)
      have HOneG := Lib.hid (show (Value.cells (.agg (gameC G.fr G.d G.S sl'))).toList.all (·.oneCell') = true by
        obtain ⟨ad, c, e⟩ := own_form hown
        rw [e]
        exact gcv_one)
      have Hft0 : Hid (0 + 59 ≤ (stateC ⟨s.g, v', T'⟩ sl).size) := Lib.hid (by rw [Hz1.out]; omega)
      clear hown hnew hb HC
      go_wp2_with (refine wb_put H rfl 2 33 _ _ rfl _ 0 rfl _ _ rfl (.agg (gameC G.fr G.d G.S sl')) rfl 59 info28 (HGz.out sl') Hft0.out HOneG.out _ (HSetG.out sl') ?_; clear H; intro w H)
      replace H : Sb [] w0 w [(b4, zC, 40), (b3, evC x, 49), (b2, stateC ⟨G, v', T'⟩ sl', 40)] [(sl', G.L)] := H
      refine (must_ok 1 _).mono ?_
      rintro e w2 ⟨rfl, rfl⟩
      go_wp2_with (first | (refine wb_whole H rfl 2 40 _ rfl _ rfl (stateC ⟨G, v', T'⟩ sl') rfl _ Try.underlying40 rfl 76 info35 (HzE.out sl') ?_) | (refine wb_put H rfl 0 40 _ _ rfl _ 0 rfl _ _ rfl (.agg (stateC ⟨G, v', T'⟩ sl')) rfl 76 info35 (HzE.out sl') (Nat.le_of_ble_eq_true rfl) HOne.out _ (HspE.out sl') ?_; clear H; intro w H))
      refine bodyPost_ret (v := .agg (stateC ⟨G, v', T'⟩ sl')) (res35 rfl rfl (H.holds _ (List.mem_cons_self ..)) (HzE.out sl')) rfl ⟨H.below, sl', rfl, H.rows _ (List.mem_cons_self ..), fun q hq => (H.rge _ (List.mem_cons_self ..) q hq).resolve_right (by simp)⟩
end Go.Proofs.Ytdopfonebpklkaa.game
namespace Go.Proofs.Ytdopfonebpklkaa.game
open Go.ChangeShapes Go.WideShapes Go.ChangeAt Go.RowKit dice
set_option maxRecDepth 100000

theorem assert_no (W : World) : (Instr.typeAssert .nilIface 20 65 true).run Try.prog W = .ok (.tuple #[.agg #[.int .i64 0], .bool false]) W := by kernel_rfl
theorem assert_yes (W : World) (v : Value) : (Instr.typeAssert (.iface 65 v) 20 65 true).run Try.prog W = .ok (.tuple #[v, .bool true]) W := by kernel_rfl
set_option maxHeartbeats 2000000 in
theorem catch_idle (p q r : Addr) (w : World) :
    CallsD Try.prog 22 #[.pointer (some p), .pointer (some q), .pointer (some r)] .returning w fun e u' w' => e = .returned (.tuple #[]) ∧ u' = .returning ∧ Below w.heap.size w w' := by
  refine callsD_of_wpS Try.func22 rfl fun c₀ cs hu => ?_
  apply wpS_seq
  apply wpS_region
  simp [wpOpsS, go_sem, recoverD, hu, Try.ntmps22, Exit.thenS, assert_no]
  refine wpS_of_wp ?_
  go_wp2_with fail
  cases c₀
  simp_all [bodyPostS, results, Try.results22]
  exact (Below.refl _ w).alloc (Nat.le_refl _) _
theorem f122_0 (b : Nat) (w : World) : (Instr.fieldAt 65 (.pointer (some ⟨b, 0, none⟩)) 0).run Try.prog w = .ok (.pointer (some ⟨b, 0, none⟩)) w := by go_simp
theorem info122 : (Try.prog.info? 65).map (·.size) = some 1 := by kernel_rfl
set_option maxHeartbeats 2000000 in
theorem catch_panicking (p q r : Nat) (cs c4 : Array Value) (e0 : Value) (k : Int) (w : World) (hcs : cs.size = 76) (h4 : c4.size = 76) (h1 : cs.toList.all (·.oneCell') = true) (H0 : Sb [p, q, r] w w [(p, cs, 40), (q, c4, 40), (r, #[e0], 3)] []) :
    CallsD Try.prog 22 #[.pointer (some ⟨p, 0, none⟩), .pointer (some ⟨q, 0, none⟩), .pointer (some ⟨r, 0, none⟩)] (.panicking (failP k)) w fun e u' w' => e = .returned (.tuple #[]) ∧ u' = .panicking [{ v := .iface 65 (.agg #[.int .i64 k]), recovered := true }] ∧ Sb [p, q, r] w w' [(p, cs, 40), (q, cs, 40), (r, #[.int .i64 k], 3)] [] := by
  refine callsD_of_wpS Try.func22 rfl fun c₀ css hu => ?_
  unfold failP at hu
  have H : Sb [p, q, r] w (w.alloc (.cells #[.int .i64 k] 65)) [(w.heap.size, #[.int .i64 k], 65), (p, cs, 40), (q, c4, 40), (r, #[e0], 3)] [] := H0.new #[.int .i64 k] 65
  have Hcs := Lib.hid hcs
  have H4 := Lib.hid h4
  have H1 := Lib.hid h1
  clear H0 hcs h4 h1
  apply wpS_seq
  apply wpS_region
  simp [wpOpsS, go_sem, recoverD, hu, Try.ntmps22, Exit.thenS, assert_yes]
  refine wpS_of_wp ?_
  generalize hbx : w.heap.size = bx at *
  generalize hw1 : w.alloc (.cells #[.int .i64 k] 65) = w1 at *
  clear hw1 hbx
  have hnd := H.nd
  simp at hnd
  have Hnd := Lib.hid hnd
  clear hnd
  simp only [Array.replicate, List.replicate_succ, List.replicate_zero, List.setIfInBounds_toArray, List.set_cons_succ, List.set_cons_zero, List.append_toArray, List.cons_append, List.nil_append]
  go_wp2_with fail
  have HD : Sb [p, q, r] w ({ w1 with drawn := w1.drawn + 1 } : World) _ _ := H.call ((Below.refl _ w1).drew)
  have hr0 : ({ w1 with drawn := w1.drawn + 1 } : World).rangeAt p 0 cs.toList := fun j v hv => by rw [Nat.zero_add]; exact (cell_of_row _ p j _ 40 (0, 0) (HD.holds _ (List.mem_cons_of_mem _ (List.mem_cons_self ..)))).trans (by rw [← Array.getElem?_toList]; exact hv)
  have c1 : ({ w1 with drawn := w1.drawn + 1 } : World).cell? ⟨bx, 0, none⟩ = some (.int .i64 k) := cell_of_row _ bx 0 _ 65 (0, 0) (HD.holds _ (List.mem_cons_self ..))
  obtain ⟨L, hL⟩ : ∃ L, rowF p 0 cs.toList 3 ++ [((⟨bx, 0, none⟩ : Addr), Value.int .i64 k, 4)] = L := ⟨_, rfl⟩
  have HTd : Hid (∀ t ∈ L, t.2.2 = 3 ∨ t = ((⟨bx, 0, none⟩ : Addr), Value.int .i64 k, 4)) := Lib.hid (fun t ht => by
    rw [← hL] at ht
    rcases List.mem_append.1 ht with h | h
    · exact .inl (rowF_d t h)
    · rw [List.mem_singleton] at h; exact .inr h)
  have HTk : ∀ k, 3 ≠ k → 4 ≠ k → ∀ t ∈ L, t.2.2 ≠ k := fun k h3 h4 t ht => by
    rcases HTd.out t ht with h | h
    · omega
    · rw [h]; exact h4
  have HM0 : ∀ j v, (cs.toList)[j]? = some v → ((⟨p, 0 + j, none⟩ : Addr), v, 3) ∈ L := fun j v hv => by rw [← hL]; exact List.mem_append_left _ (mem_rowF hv)
  have HM1 : ((⟨bx, 0, none⟩ : Addr), Value.int .i64 k, 4) ∈ L := by rw [← hL]; exact List.mem_append_right _ (List.mem_cons_self ..)
  refine Gs_start (T := L) (n := 5) (by kernel_rfl) rfl ?_ ?_
  · intro t ht _
    rw [← hL] at ht
    rcases List.mem_append.1 ht with h | h
    · exact rowF_holds hr0 t h
    · rw [List.mem_singleton] at h; subst h; exact c1
  clear hr0 c1 hL
  clear H
  have H := HD
  clear HD
  generalize ({ w1 with drawn := w1.drawn + 1 } : World) = w2 at *
  refine Gv_loadRowC 0 3 [] (fun d _ _ _ _ h => by cases d <;> exact h) (by kernel_rfl) rfl _ _ rfl rfl (some 11) rfl (by kernel_rfl) (by kernel_rfl) (HTk 0 (by decide) (by decide)) p 0 rfl cs.toList HM0 (by kernel_rfl) _ Try.underlying40 rfl (by rw [Array.length_toList, Hcs.out]; exact info35) ?_
  rw [Array.toArray_toList]
  simp only [Act.put, List.setIfInBounds_toArray, List.set_cons_succ, List.set_cons_zero]
  refine Gv_field 1 (fun d _ _ _ _ h => by cases d <;> exact h) (by kernel_rfl) rfl _ _ _ rfl rfl (some 12) rfl (by kernel_rfl) (by kernel_rfl) (HTk 1 (by decide) (by decide)) _ _ rfl (f122_0 _) ?_
  simp only [Act.put, List.setIfInBounds_toArray, List.set_cons_succ, List.set_cons_zero]
  refine Gv_loadC 2 4 [] (fun d _ _ _ _ h => by cases d <;> exact h) (by kernel_rfl) rfl _ _ rfl rfl (some 13) rfl (by kernel_rfl) (by kernel_rfl) (HTk 2 (by decide) (by decide)) _ rfl Try.isAgg3 _ HM1 (by kernel_rfl) ?_
  simp only [Act.put, List.setIfInBounds_toArray, List.set_cons_succ, List.set_cons_zero]
  refine Gs_one 3 rfl (by kernel_rfl) ?_
  have Hsp : Hid (splice c4 0 (Value.cells (.agg cs)).toList = cs) := Lib.hid (splice_all _ _ (by rw [H4.out]; exact Hcs.out.symm))
  refine wb_put H rfl 2 40 _ _ rfl q 0 rfl c4 40 rfl (.agg cs) rfl 76 info35 Hcs.out (by rw [H4.out]; decide) H1.out cs Hsp ?_
  intro w3 H3
  replace H3 : Sb [p, q, r] w w3 [(bx, #[.int .i64 k], 65), (p, cs, 40), (q, cs, 40), (r, #[e0], 3)] [] := H3
  refine ⟨fun t ht hl => ?_, ?_⟩
  · rcases HTd.out t ht with h | h
    · rw [h] at hl
      exact absurd hl (by decide)
    · rw [h]
      exact cell_of_row w3 bx 0 _ 65 (0, 0) (H3.holds _ (List.mem_cons_self ..))
  · clear H
    refine Gs_end 4 (by kernel_rfl) (fun t ht => by
      rcases HTd.out t ht with h | h
      · rw [h]; rfl
      · rw [h]; rfl) (by kernel_rfl) rfl ?_
    simp only [List.drop_succ_cons, List.drop_zero]
    go_wp2_with (refine wb_put H3 rfl 3 3 _ _ rfl r 0 rfl _ _ rfl (.int .i64 k) rfl 1 info3 rfl (Nat.le_of_ble_eq_true rfl) rfl #[.int .i64 k] rfl ?_; clear H3; intro w4 H4)
    cases c₀
    simp_all [bodyPostS, results, Try.results22]
    exact H4.tail
end Go.Proofs.Ytdopfonebpklkaa.game
namespace Go.Proofs.Ytdopfonebpklkaa.game
open Go.ChangeShapes Go.WideShapes Go.ChangeAt Go.RowKit dice
set_option maxRecDepth 100000

theorem fmay_b (s : Ste) (sl : Value) (w0 : World) (hg : s.g.wf) (t8 : s.T.length = 8) (hin : ShotsW w0 sl s.g.L) :
    Calls Try.prog 10 #[.agg (stateC s sl)] w0 fun e w' => e = .returned (.bool (mayS s)) ∧ Below w0.heap.size w0 w' := by
  have H := Sb.start w0
  have HM := Lib.hid (fun w h => mayS_b s sl w hg t8 h)
  have HI := Lib.hid hin
  have Hz := Lib.hid (sc_size (sl := sl) hg.s8 t8)
  clear hg t8 hin
  generalize stateC s sl = cs at *
  go_enter Try.func10, Try.ntmps10
  go_wp2_with (first | (refine wb_box H rfl 40 _ rfl cs rfl ?_; clear H; intro b1 w H) | (refine wb_whole H rfl 0 40 _ rfl _ rfl cs rfl _ Try.underlying40 rfl 76 info35 Hz.out ?_))
  refine (HM.out _ (HI.out.later H.below)).mono ?_; rintro e w' ⟨rfl, hb⟩
  replace H := H.call hb
  clear hb
  go_wp2_with fail
  go_ret
  exact ⟨rfl, H.below⟩
theorem info42 : (Try.prog.info? 45).map (·.size) = some 26 := by kernel_rfl
theorem info40 : (Try.prog.info? 43).map (·.size) = some 24 := by kernel_rfl
theorem co37 : Try.prog.cellsOf 22 = 1 := by kernel_rfl
theorem co5x : Try.prog.cellsOf 5 = 1 := by kernel_rfl
theorem co39 : Try.prog.cellsOf 24 = 3 := by kernel_rfl
theorem kl37 (d : Nat) (a : Int) (h : (Lit.int .i8 a).wf = true) : Try.prog.keyLits (d + 1) 22 [.int .i8 a] = some [.int .i8 a] := by
  unfold Program.keyLits
  rw [Try.underlying22]
  simp only [h, and_self, if_true]
theorem kl5 (d : Nat) (a : Int) (h : (Lit.int .u8 a).wf = true) : Try.prog.keyLits (d + 1) 5 [.int .u8 a] = some [.int .u8 a] := by
  unfold Program.keyLits
  rw [Try.underlying5]
  simp only [h, and_self, if_true]
def litsI (i : Inp) : List Lit := [.int .i8 i.x, .int .i8 i.y, .int .u8 i.b]
theorem kl39 (d : Nat) (i : Inp) (h : i.ok) : Try.prog.keyLits (d + 2) 24 (inpL i) = some (litsI i) := by
  have k0 := kl37 d i.x (by have := h.x0; have := h.x1; simp [Lit.wf, IntKind.min, IntKind.max, IntKind.signed, IntKind.bits]; omega)
  have k1 := kl37 d i.y (by have := h.y0; have := h.y1; simp [Lit.wf, IntKind.min, IntKind.max, IntKind.signed, IntKind.bits]; omega)
  have k2 := kl5 d i.b (by have := h.b0; have := h.b1; simp [Lit.wf, IntKind.min, IntKind.max, IntKind.signed, IntKind.bits]; omega)
  show Try.prog.keyLits ((d + 1) + 1) 24 (inpL i) = some (litsI i)
  unfold Program.keyLits
  rw [Try.underlying24]
  simp only [co39, inpL, List.length_cons, List.length_nil, co37, co5x, List.mapM_cons, List.mapM_nil, List.drop_succ_cons, List.drop_zero, List.take_succ_cons, List.take_zero, k0, k1, k2]
  rw [if_pos ⟨trivial, by decide +kernel⟩]
  rfl
theorem formed39 (i : Inp) : (Value.agg (inpL i).toArray).formed Try.prog 24 = true := by
  unfold Value.formed
  rw [Try.underlying24]
  simp [co39, inpL]
theorem inp_ext {i : Inp} : i.z = true ↔ i = zInp := by
  obtain ⟨x, y, b⟩ := i
  simp [Inp.z, zInp]
theorem litsI_inj {a b : Inp} (h : litsI a = litsI b) : a = b := by
  obtain ⟨x, y, z⟩ := a
  obtain ⟨x', y', z'⟩ := b
  simp [litsI] at h
  rw [h.1, h.2.1, h.2.2]
theorem eq39 (W : World) (i : Inp) (h : i.ok) : (Op.equalIn 10000 24 (.agg (inpL i).toArray) (.agg #[.int .i8 0, .int .i8 0, .int .u8 0])).run Try.prog W = .ok i.z W := by
  obtain ⟨x, h1, hr⟩ := run_equalIn_deep (P := Try.prog) 9990 10 24 (by kernel_rfl) W 10 10 (.agg (inpL i).toArray) (.agg (inpL zInp).toArray) (litsI i) (litsI zInp) (formed39 i) (formed39 zInp) (kl39 8 i h) (kl39 8 zInp zInp_ok)
  have : x = i.z := by
    rw [Bool.eq_iff_iff, hr, inp_ext]
    exact ⟨litsI_inj, fun e => by rw [e]⟩
  rw [← this]
  exact h1
theorem ins_part3 : ∀ (S : List Inp) (k : Nat) (t : Inp), S[k]? = some t → ((S.flatMap inpL).drop (k * 3)).take 3 = inpL t
  | [], k, t, h => by simp at h
  | s :: S, 0, t, h => by
    simp at h
    subst h
    rw [List.flatMap_cons, Nat.zero_mul, List.drop_zero]
    rfl
  | s :: S, k + 1, t, h => by
    have ih := ins_part3 S k t (by simpa using h)
    rw [List.flatMap_cons, List.drop_append, List.drop_of_length_le (show (inpL s).length ≤ (k + 1) * 3 by simp [inpL]; omega), List.nil_append, show (k + 1) * 3 - (inpL s).length = k * 3 by simp [inpL]; omega]
    exact ih
theorem ins_extract {S : List Inp} {k : Nat} {t : Inp} (h : S[k]? = some t) : (S.flatMap inpL).toArray.extract (k * 3) (k * 3 + 3) = (inpL t).toArray := by
  rw [List.extract_toArray, List.extract_eq_take_drop, show k * 3 + 3 - k * 3 = 3 by omega, ins_part3 S k t h]
/-- The first k inputs are of slots that somebody has, or nothing. -/
def InsTo (I : List Inp) (T : List Seat) (k : Nat) : Prop := ∀ (j : Nat) (i : Inp) (q : Seat), j < k → I[j]? = some i → T[j]? = some q → (i.z || decide (0 ≤ q.peer)) = true
theorem insOk_iff {I : List Inp} {T : List Seat} (h8 : I.length = 8) : insOk I T = true ↔ InsTo I T 8 := by
  unfold insOk
  rw [List.all_eq_true]
  constructor
  · intro h j i q _ hi hq
    have hz : (I.zip T)[j]? = some (i, q) := by rw [List.getElem?_zip_eq_some]; exact ⟨hi, hq⟩
    exact h (i, q) (List.mem_of_getElem? hz)
  · rintro h ⟨i, q⟩ hm
    obtain ⟨j, hj⟩ := List.mem_iff_getElem?.1 hm
    rw [List.getElem?_zip_eq_some] at hj
    have hl := (List.getElem?_eq_some_iff.1 hj.1).1
    exact h j i q (by omega) hj.1 hj.2
theorem insOk_no {I : List Inp} {T : List Seat} {k : Nat} {i : Inp} {q : Seat} (hi : I[k]? = some i) (hq : T[k]? = some q) (h : (i.z || decide (0 ≤ q.peer)) = false) : insOk I T = false := by
  unfold insOk
  rw [List.all_eq_false]
  refine ⟨(i, q), List.mem_of_getElem? (i := k) (by rw [List.getElem?_zip_eq_some]; exact ⟨hi, hq⟩), by simpa using h⟩
/-- Where a state's shots lie: in the caller's memory as at the call, or in a row of the call's own. -/
def Lie (W0 : World) (R : List RowS) (sl : Value) (L : List Sht) : Prop := (R = [] ∧ ShotsIn W0 sl L) ∨ R = [(sl, L)]
theorem Lie.shots {W0 w : World} {l : List Blk} {R : List RowS} {sl : Value} {L : List Sht} (h : Lie W0 R sl L) (H : Sb [] W0 w l R) : ShotsIn w sl L := by
  rcases h with ⟨_, h⟩ | rfl
  · exact h.later H.below
  · exact (show Own w 0 sl L from H.rows _ (List.mem_cons_self ..)).shotsIn
theorem Sb.onlyRow {Hs : List Nat} {W0 w : World} {l : List Blk} {r : RowS} {R : List RowS} (h : Sb Hs W0 w l (r :: R)) : Sb Hs W0 w l [r] := h.oneRow
theorem Ste.may.wf {s : Ste} (h : s.may) (hd : (Lit.int .u64 s.g.d).wf = true) : s.g.wf := by
  have f0 := h.g.f0
  have f1 := h.g.f1
  refine ⟨w64 (by omega) (by omega), hd, h.g.s8, fun t ht => ?_, fun t ht => ?_⟩
  · have hok := h.g.ships t ht
    unfold Shp.ok OkShip at hok
    split at hok
    · refine ⟨?_, ?_, ?_, ?_, ?_, ?_⟩ <;> (simp [Lit.wf, IntKind.min, IntKind.max, IntKind.signed, IntKind.bits]; omega)
    · refine ⟨?_, ?_, ?_, ?_, ?_, ?_⟩ <;> (simp [Lit.wf, IntKind.min, IntKind.max, IntKind.signed, IntKind.bits]; omega)
  · obtain ⟨o0, o1, a0, a1, b0, b1, u0, u1, v0, v1, l0, l1⟩ := h.g.shots t ht
    refine ⟨?_, ?_, ?_, ?_, ?_, ?_⟩ <;> (simp [Lit.wf, IntKind.min, IntKind.max, IntKind.signed, IntKind.bits]; omega)
set_option maxHeartbeats 8000000 in
theorem apply_b (s : Ste) (sl : Value) (e : Ent) (esl : Value) (w0 : World) (hg : s.g.wf) (t8 : s.T.length = 8) (hin : ShotsIn w0 sl s.g.L) (h8 : e.ins.length = 8) (hI : ∀ i ∈ e.ins, i.ok) (hE : ∀ x ∈ e.evs, x.wf) (hev : EvW w0 esl e.evs) (hn : e.evs.length ≤ 1000) :
    Calls Try.prog 15 #[.agg (stateC s sl), .agg (entC e esl)] w0 (StOut (applyF s e) w0) := by
  have H := Sb.start w0
  have HM := Lib.hid (fun w h => fmay_b s sl w hg t8 h)
  have HEM := Lib.hid (fun w h => entMay_b e esl w h8 h hn)
  have HI := Lib.hid hin
  have HEv := Lib.hid hev
  have Hz := Lib.hid (sc_size (s := s) (sl := sl) hg.s8 t8)
  have Hez := Lib.hid (en_size (sl := esl) h8)
  have Hfr := Lib.hid (en_fr (e := e) (sl := esl))
  have Hsl := Lib.hid (en_sl (e := e) (sl := esl))
  have Hins := Lib.hid (en_ins (e := e) (sl := esl))
  have Hsf := Lib.hid (sc_fr (s := s) (sl := sl))
  have HIo := Lib.hid hI
  have HEo := Lib.hid hE
  have H8 := Lib.hid h8
  have Hli := Lib.hid (show (e.ins.flatMap inpL).length = 24 by rw [length_ins, h8])
  have Hn := Lib.hid hn
  have Hgs := Lib.hid hg.s8
  have Ht8 := Lib.hid t8
  generalize hec : entC e esl = ec at *
  clear hec hE hI hev hin hn
  cases hm : mayS s with
  | false =>
    have hap : applyF s e = none := by unfold applyF; rw [if_neg (by rw [hm]; simp)]
    rw [hap]
    rw [hm] at HM
    clear hm hap hg t8 h8
    generalize stateC s sl = cs at *
    go_enter Try.func15, Try.ntmps15
    go_wp2_with (first | (refine wb_box H rfl 40 _ rfl cs rfl ?_; clear H; intro b2 w H) | (refine wb_box H rfl 45 _ rfl ec rfl ?_; clear H; intro b3 w H) | (refine wb_alloc H rfl 40 rfl _ Try.zeroValue40 ?_; clear H; intro b4 w H) | (refine wb_whole H rfl 2 40 _ rfl _ rfl cs rfl _ Try.underlying40 rfl 76 info35 Hz.out ?_))
    refine (HM.out _ ((HI.out.later H.below).w)).mono ?_; rintro e w' ⟨rfl, hb⟩
    replace H := H.call hb
    clear hb HM
    go_wp2_with fail
    refine (must_bad 1 _).mono ?_
    rintro e w2 ⟨rfl, rfl⟩
    exact ⟨rfl, H.below, rfl⟩
  | true =>
    rw [hm] at HM
    have hmay := (Ste.may_iff hg.s8 t8).1 hm
    cases he : entMay e with
    | false =>
      have hap : applyF s e = none := by unfold applyF; rw [if_neg (by rw [he]; simp)]
      rw [hap]
      rw [he] at HEM
      clear hm hap hg t8 h8 he hmay
      generalize stateC s sl = cs at *
      go_enter Try.func15, Try.ntmps15
      go_wp2_with (first | (refine wb_box H rfl 40 _ rfl cs rfl ?_; clear H; intro b2 w H) | (refine wb_box H rfl 45 _ rfl ec rfl ?_; clear H; intro b3 w H) | (refine wb_alloc H rfl 40 rfl _ Try.zeroValue40 ?_; clear H; intro b4 w H) | (refine wb_whole H rfl 2 40 _ rfl _ rfl cs rfl _ Try.underlying40 rfl 76 info35 Hz.out ?_))
      refine (HM.out _ ((HI.out.later H.below).w)).mono ?_; rintro e w' ⟨rfl, hb⟩
      replace H := H.call hb
      clear hb HM
      go_wp2_with (refine wb_whole H rfl 1 45 _ rfl _ rfl ec rfl _ Try.underlying45 rfl 26 info42 Hez.out ?_)
      refine (HEM.out _ (HEv.out.later H.below)).mono ?_; rintro e w' ⟨rfl, hb⟩
      replace H := H.call hb
      clear hb HEM
      go_wp2_with fail
      refine (must_bad 1 _).mono ?_
      rintro e w2 ⟨rfl, rfl⟩
      exact ⟨rfl, H.below, rfl⟩
    | true =>
      rw [he] at HEM
      by_cases hf : e.fr = s.g.fr
      rotate_left
      · have hap : applyF s e = none := by unfold applyF; rw [if_neg (fun h => hf h.2.2)]
        rw [hap]
        have q0 : (e.fr == s.g.fr) = false := beq_false_of_ne hf
        clear hm hap hg t8 h8 he hmay
        generalize stateC s sl = cs at *
        go_enter Try.func15, Try.ntmps15
        go_wp2_with (first | (refine wb_box H rfl 40 _ rfl cs rfl ?_; clear H; intro b2 w H) | (refine wb_box H rfl 45 _ rfl ec rfl ?_; clear H; intro b3 w H) | (refine wb_alloc H rfl 40 rfl _ Try.zeroValue40 ?_; clear H; intro b4 w H) | (refine wb_whole H rfl 2 40 _ rfl _ rfl cs rfl _ Try.underlying40 rfl 76 info35 Hz.out ?_))
        refine (HM.out _ ((HI.out.later H.below).w)).mono ?_; rintro e w' ⟨rfl, hb⟩
        replace H := H.call hb
        clear hb HM
        go_wp2_with (refine wb_whole H rfl 1 45 _ rfl _ rfl ec rfl _ Try.underlying45 rfl 26 info42 Hez.out ?_)
        refine (HEM.out _ (HEv.out.later H.below)).mono ?_; rintro e w' ⟨rfl, hb⟩
        replace H := H.call hb
        clear hb HEM
        have c0 : w'.cell? ⟨b3, 0, none⟩ = _ := (cell_of_row w' b3 0 _ 45 (0, 0) (H.holds _ (List.mem_cons_of_mem _ (List.mem_cons_self ..)))).trans Hfr.out
        have c1 : w'.cell? ⟨b2, 0, none⟩ = _ := (cell_of_row w' b2 0 _ 40 (0, 0) (H.holds _ (List.mem_cons_of_mem _ (List.mem_cons_of_mem _ (List.mem_cons_self ..))))).trans Hsf.out
        go_wp2_with fail
        refine (must_bad 1 _).mono ?_
        rintro e w2 ⟨rfl, rfl⟩
        exact ⟨rfl, H.below, rfl⟩
      have hap : applyF s e = (evsS s e.evs).bind fun t => if insOk e.ins t.T = true then some ⟨stepG t.g e.ins, t.ver, t.T⟩ else none := by unfold applyF; rw [if_pos ⟨hm, he, hf⟩]
      rw [hap]
      have Hfm := Lib.hid (show s.g.fr < 1048576 by rw [← hf]; exact (entMay_parts he).2.1)
      have Hmay := Lib.hid hmay
      obtain ⟨ad, c, hesl⟩ := HEv.out.form
      subst hesl
      obtain ⟨E, hEE⟩ : ∃ E, e.evs = E := ⟨_, rfl⟩
      obtain ⟨I, hII⟩ : ∃ I, e.ins = I := ⟨_, rfl⟩
      rw [hEE] at HEv HEo Hn Hsl HEM ⊢
      rw [hII] at HIo H8 Hli Hins ⊢
      have hfe : (e.fr == s.g.fr) = true := by rw [beq_iff_eq]; exact hf
      clear hm hap hg t8 h8 he hmay hEE hII
      have hn' : (E.length : Int) ≤ 1000 := by have := Hn.out; omega
      have Hn' := Lib.hid hn'
      clear hn'
      go_enter Try.func15, Try.ntmps15
      go_wp2_with (first | (refine wb_box H rfl 40 _ rfl (stateC s sl) rfl ?_; clear H; intro b2 w H) | (refine wb_box H rfl 45 _ rfl ec rfl ?_; clear H; intro b3 w H) | (refine wb_alloc H rfl 40 rfl _ Try.zeroValue40 ?_; clear H; intro b4 w H) | (refine wb_whole H rfl 2 40 _ rfl _ rfl (stateC s sl) rfl _ Try.underlying40 rfl 76 info35 Hz.out ?_))
      refine (HM.out _ ((HI.out.later H.below).w)).mono ?_; rintro e1 w' ⟨rfl, hb⟩
      replace H := H.call hb
      clear hb HM
      go_wp2_with (refine wb_whole H rfl 1 45 _ rfl _ rfl ec rfl _ Try.underlying45 rfl 26 info42 Hez.out ?_)
      refine (HEM.out _ (HEv.out.later H.below)).mono ?_; rintro e1 w' ⟨rfl, hb⟩
      replace H : Sb [] w0 w' [(b4, zC, 40), (b3, ec, 45), (b2, stateC s sl, 40)] [] := H.call hb
      clear hb HEM
      have c0 : w'.cell? ⟨b3, 0, none⟩ = _ := (cell_of_row w' b3 0 _ 45 (0, 0) (H.holds _ (List.mem_cons_of_mem _ (List.mem_cons_self ..)))).trans Hfr.out
      have c1 : w'.cell? ⟨b2, 0, none⟩ = _ := (cell_of_row w' b2 0 _ 40 (0, 0) (H.holds _ (List.mem_cons_of_mem _ (List.mem_cons_of_mem _ (List.mem_cons_self ..))))).trans Hsf.out
      go_wp2_with fail
      refine (must_ok 1 _).mono ?_
      rintro e1 w2 ⟨rfl, rfl⟩
      clear c0 c1 hfe hf
      go_upto_region 2 with fail
      have hn' := Hn'.out
      go_wp2_with (refine wb_cell H rfl 1 42 _ rfl _ 1 rfl _ _ rfl Try.isAgg42 (.slice ad E.length c) Hsl.out ?_)
      have HB := Lib.hid H
      clear H hn'
      go_loopw [28] (fun i W => ∃ (k : Nat) (s1 : Ste) (sl1 : Value) (R : List RowS), k ≤ E.length ∧ i = .int .i64 k ∧ Hid (Sb [] w0 W [(b4, zC, 40), (b3, ec, 45), (b2, stateC s1 sl1, 40)] R) ∧ Hid (Lie w0 R sl1 s1.g.L) ∧ Hid (s1.may ∧ s1.g.fr = s.g.fr ∧ evsS s E = evsS s1 (E.drop k))) (fun i _ => E.length - (intOf i).toNat)
      case atStart => exact ⟨0, s, sl, [], Nat.zero_le _, rfl, HB, Lib.hid (.inl ⟨rfl, HI.out⟩), Lib.hid ⟨Hmay.out, rfl, rfl⟩⟩
      case round =>
        clear HB
        obtain ⟨k, s1, sl1, R, hk, rfl, HB, HL, HA⟩ := hrel
        have hn' := Hn'.out
        by_cases hlt : k < E.length
        · obtain ⟨x, hx⟩ : ∃ x, E[k]? = some x := ⟨E[k], List.getElem?_eq_getElem hlt⟩
          obtain ⟨g, o, had, hg, hcs⟩ : ∃ g o, ad = some ⟨g, o, none⟩ ∧ g < w0.heap.size ∧ ∀ j v, (evsL E)[j]? = some v → w0.cell? ⟨g, o + j, none⟩ = some v := by
            rcases HEv.out with ⟨e, _⟩ | ⟨g, o, c', e, hg, hc⟩
            · rw [e] at hlt; exact absurd hlt (Nat.not_lt_zero _)
            · injection e with e1 e2 e3
              exact ⟨g, o, e1, hg, hc⟩
          subst had
          obtain ⟨c0, c1, c2, c3⟩ := ev_at (W := wr) (g := g) (o := o) (fun j v hv => (World.cell?_of_block (a := ⟨g, o + j, none⟩) (HB.out.fr g hg (by simp))).trans (hcs j v hv)) k x hx
          have hst : evsS s E = (evS s1 x).bind fun t => evsS t (E.drop (k + 1)) := by
            rw [HA.out.2.2]
            obtain ⟨hk', e⟩ := List.getElem?_eq_some_iff.1 hx
            rw [List.drop_eq_getElem_cons hk', e]
            rfl
          have Hst := Lib.hid hst
          have Hm1 := Lib.hid HA.out.1
          have Hf1 := Lib.hid HA.out.2.1
          have Hxw := Lib.hid (HEo.out x (List.mem_of_getElem? hx))
          have HLs := Lib.hid (fun w l (H : Sb [] w0 w l R) => HL.out.shots H)
          have Hz1 := Lib.hid (sc_size (s := s1) (sl := sl1) HA.out.1.g.s8 HA.out.1.t8)
          have H := HB.out
          clear HB HA hx hcs hg hst HL
          go_upto_region 5 with (first | (refine wb_alloc H rfl 49 rfl _ Try.zeroValue49 ?_; clear H; intro b6 w H) | (refine wb_put H rfl 0 49 _ _ rfl _ 0 rfl _ _ rfl (.agg #[.int .i64 x.kind, .int .i64 x.slot, .int .i64 x.gen, .int .i64 x.peer]) rfl 4 info60e rfl (Nat.le_of_ble_eq_true rfl) rfl (evC x) rfl ?_; clear H; intro w H))
          replace H : Sb [] w0 w [(b6, evC x, 49), (b4, zC, 40), (b3, ec, 45), (b2, stateC s1 sl1, 40)] R := H
          clear c0 c1 c2 c3
          go_wp2_with (first | (refine wb_whole H rfl 3 40 _ rfl _ rfl (stateC s1 sl1) rfl _ Try.underlying40 rfl 76 info35 Hz1.out ?_) | (refine wb_whole H rfl 0 49 _ rfl _ rfl (evC x) rfl _ Try.underlying49 rfl 4 info60e rfl ?_))
          refine (event_b s1 sl1 x _ Hm1.out Hxw.out (HLs.out _ _ H)).mono ?_
          rintro e1 w' ⟨hb, ho⟩
          cases hev : evS s1 x with
          | none =>
            rw [hev] at ho
            subst ho
            replace H := H.call hb
            have hn : evsS s E = none := by rw [Hst.out, hev]; rfl
            refine ⟨rfl, ?_⟩
            rw [hn]
            exact ⟨H.below, rfl⟩
          | some t =>
            rw [hev] at ho
            obtain ⟨sl2, rfl, hown, hnew⟩ := ho
            obtain ⟨ht, _, htf, _⟩ := evS_may Hm1.out hev
            have HA2 : Hid (t.may ∧ t.g.fr = s.g.fr ∧ evsS s E = evsS t (E.drop (k + 1))) := Lib.hid ⟨ht, htf.trans Hf1.out, by rw [Hst.out, hev]; rfl⟩
            have H1 := (H.addRow sl2 _ hown hb hnew).onlyRow
            have HOne := Lib.hid (sc_oneI (s := t) hown.shotsIn)
            have Hz2 := Lib.hid (sc_size (s := t) (sl := sl2) ht.g.s8 ht.t8)
            have Hsp2 : Hid (splice (stateC s1 sl1) 0 (Value.cells (.agg (stateC t sl2))).toList = stateC t sl2) := Lib.hid (splice_all _ _ (by rw [Hz1.out]; exact Hz2.out.symm))
            have Hft : Hid (0 + 76 ≤ (stateC s1 sl1).size) := Lib.hid (by rw [Hz1.out]; decide)
            clear H hown hnew hb ht htf hev Hst
            have H := H1
            clear H1
            go_wp2_with (refine wb_put H rfl 3 40 _ _ rfl _ 0 rfl _ _ rfl (.agg (stateC t sl2)) rfl 76 info35 Hz2.out Hft.out HOne.out _ Hsp2.out ?_; clear H; intro w H)
            replace H : Sb [] w0 w [(b6, evC x, 49), (b4, zC, 40), (b3, ec, 45), (b2, stateC t sl2, 40)] [(sl2, t.g.L)] := H
            refine ⟨?_, by simp [intOf]; omega⟩
            simp
            exact ⟨k + 1, hlt, rfl, t, sl2, [(sl2, t.g.L)], Lib.hid H.tail, Lib.hid (.inr rfl), HA2⟩
        · obtain rfl : k = E.length := by omega
          have hall : evsS s E = some s1 := by rw [HA.out.2.2, List.drop_length]; rfl
          have Hall := Lib.hid hall
          obtain ⟨s1m, s1f, _⟩ := HA.out
          have Hs1 := Lib.hid s1m
          have Hs1f := Lib.hid s1f
          have Hz1 := Lib.hid (sc_size (s := s1) (sl := sl1) s1m.g.s8 s1m.t8)
          have HQ := Lib.hid (fun k q h => sc_seat (s := s1) (sl := sl1) s1m.g.s8 k 0 q _ h rfl)
          have H := HB.out
          have Ht8' := Lib.hid s1m.t8
          clear HB HA hall hlt hk s1m s1f hn'
          go_wp2_with (refine wb_part H rfl 1 43 _ rfl _ 2 rfl _ _ rfl _ Try.underlying43 rfl 24 info40 (I.flatMap inpL) Hins.out Hli.out ?_)
          have HB := Lib.hid H
          clear H
          go_loopw [38] (fun i W => ∃ k : Nat, k ≤ 8 ∧ i = .int .i64 k ∧ Hid (Sb [] w0 W [(b4, zC, 40), (b3, ec, 45), (b2, stateC s1 sl1, 40)] R) ∧ Hid (InsTo I s1.T k)) (fun i _ => 8 - (intOf i).toNat)
          case atStart => exact ⟨0, Nat.zero_le _, rfl, HB, Lib.hid (fun j i q h => absurd h (by omega))⟩
          case round =>
            clear HB
            obtain ⟨k, hk, rfl, HB, HA⟩ := hrel
            by_cases hlt : k < 8
            · obtain ⟨i, hi⟩ : ∃ i, I[k]? = some i := ⟨I[k]'(by rw [H8.out]; exact hlt), List.getElem?_eq_getElem _⟩
              obtain ⟨q, hq⟩ : ∃ q, s1.T[k]? = some q := ⟨s1.T[k]'(by rw [Ht8'.out]; exact hlt), List.getElem?_eq_getElem _⟩
              have HX := Lib.hid (ins_extract hi)
              have Hi := Lib.hid hi
              have Hq := Lib.hid hq
              have Hqc := Lib.hid (HQ.out k q hq)
              have HEq := Lib.hid (fun w => eq39 w i (HIo.out i (List.mem_of_getElem? hi)))
              have H := HB.out
              clear HB hi hq
              go_upto_region 10 with (first | (refine wl_index rfl 43 24 8 _ _ rfl Try.underlying43 Try.isAgg24 3 info60s (I.flatMap inpL).toArray rfl k _ rfl hlt _ HX.out ?_) | (refine wb_alloc H rfl 24 rfl _ Try.zeroValue24 ?_; clear H; intro b8 w H) | (refine wb_put H rfl 0 24 _ _ rfl _ 0 rfl _ _ rfl (.agg (inpL i).toArray) rfl 3 info60s rfl (Nat.le_of_ble_eq_true rfl) rfl (inpL i).toArray rfl ?_; clear H; intro w H))
              replace H : Sb [] w0 w [(b8, (inpL i).toArray, 24), (b4, zC, 40), (b3, ec, 45), (b2, stateC s1 sl1, 40)] R := H
              have c1 : w.cell? ⟨b2, 60 + k * 2, none⟩ = some (.int .i64 q.peer) := (cell_of_row w b2 _ _ 40 (0, 0) (H.holds _ (List.mem_cons_of_mem _ (List.mem_cons_of_mem _ (List.mem_cons_of_mem _ (List.mem_cons_self ..)))))).trans Hqc.out
              have hk8 : (k : Int) < 8 := by omega
              cases hz : i.z with
              | true =>
                have hA2 : InsTo I s1.T (k + 1) := fun j i' q' hj hi' hq' => by
                  by_cases e : j = k
                  · subst e
                    rw [Hi.out] at hi'
                    injection hi' with hi'
                    rw [← hi', hz]
                    rfl
                  · exact HA.out j i' q' (by omega) hi' hq'
                have HA2 := Lib.hid hA2
                have heq : ∀ w, (Op.equalIn 10000 24 (.agg (inpL i).toArray) (.agg #[.int .i8 0, .int .i8 0, .int .u8 0])).run Try.prog w = .ok true w := fun w => by rw [← hz]; exact HEq.out w
                have Heq := Lib.hid heq
                clear hA2 HA hz heq
                go_wp2_with (first | (refine wb_whole H rfl 0 24 _ rfl _ rfl (inpL i).toArray rfl _ Try.underlying24 rfl 3 info60s rfl ?_; have heq := Heq.out) | (refine wl_build rfl 24 _ rfl #[.int .i8 0, .int .i8 0, .int .u8 0] (by kernel_rfl) ?_))
                refine (must_ok 1 _).mono ?_
                rintro e1 w2 ⟨rfl, rfl⟩
                clear heq c1
                go_wp2_with fail
                refine ⟨?_, by simp [intOf]; omega⟩
                simp
                exact ⟨k + 1, hlt, rfl, Lib.hid H.tail, HA2⟩
              | false =>
                have heq : ∀ w, (Op.equalIn 10000 24 (.agg (inpL i).toArray) (.agg #[.int .i8 0, .int .i8 0, .int .u8 0])).run Try.prog w = .ok false w := fun w => by rw [← hz]; exact HEq.out w
                have Heq := Lib.hid heq
                by_cases hp : 0 ≤ q.peer
                · have hA2 : InsTo I s1.T (k + 1) := fun j i' q' hj hi' hq' => by
                    by_cases e : j = k
                    · subst e
                      rw [Hq.out] at hq'
                      injection hq' with hq'
                      rw [← hq', decide_eq_true hp, Bool.or_true]
                    · exact HA.out j i' q' (by omega) hi' hq'
                  have HA2 := Lib.hid hA2
                  have qp : decide (0 ≤ q.peer) = true := decide_eq_true hp
                  clear hA2 HA hz heq
                  go_wp2_with (first | (refine wb_whole H rfl 0 24 _ rfl _ rfl (inpL i).toArray rfl _ Try.underlying24 rfl 3 info60s rfl ?_; have heq := Heq.out) | (refine wl_build rfl 24 _ rfl #[.int .i8 0, .int .i8 0, .int .u8 0] (by kernel_rfl) ?_))
                  refine (must_ok 1 _).mono ?_
                  rintro e1 w2 ⟨rfl, rfl⟩
                  clear heq c1 qp
                  go_wp2_with fail
                  refine ⟨?_, by simp [intOf]; omega⟩
                  simp
                  exact ⟨k + 1, hlt, rfl, Lib.hid H.tail, HA2⟩
                · have hno : insOk I s1.T = false := insOk_no Hi.out Hq.out (by rw [hz, decide_eq_false hp]; rfl)
                  have Hno := Lib.hid hno
                  have qp : decide (0 ≤ q.peer) = false := decide_eq_false hp
                  clear HA hz heq hno
                  go_wp2_with (first | (refine wb_whole H rfl 0 24 _ rfl _ rfl (inpL i).toArray rfl _ Try.underlying24 rfl 3 info60s rfl ?_; have heq := Heq.out) | (refine wl_build rfl 24 _ rfl #[.int .i8 0, .int .i8 0, .int .u8 0] (by kernel_rfl) ?_))
                  refine (must_bad 1 _).mono ?_
                  rintro e1 w2 ⟨rfl, rfl⟩
                  refine ⟨rfl, ?_⟩
                  rw [Hall.out, Option.bind_some, Hno.out]
                  exact ⟨H.below, rfl⟩
            · obtain rfl : k = 8 := by omega
              have hok : insOk I s1.T = true := (insOk_iff H8.out).2 HA.out
              have Hok := Lib.hid hok
              have H := HB.out
              have HC := Lib.hid (fun w h => step_any s1.g I sl1 w Hs1.out.g (by rw [Hs1f.out]; exact Hfm.out) H8.out HIo.out h)
              have HGm := Lib.hid (fun j v h => sc_game (s := s1) (sl := sl1) j v h)
              have Hgz := Lib.hid (gc_size (fr := s1.g.fr) (d := s1.g.d) (sl := sl1) Hs1.out.g.s8)
              have HGo := Lib.hid (stepG_ok I Hs1.out.g (by rw [Hs1f.out]; exact Hfm.out))
              have HSetG := Lib.hid (fun sl' => sc_setG (fr := s1.g.fr) (d := s1.g.d) (fr' := (stepG s1.g I).fr) (d' := (stepG s1.g I).d) (L := s1.g.L) (L' := (stepG s1.g I).L) (ver := s1.ver) (T := s1.T) (sl := sl1) (sl' := sl') (Hs1.out.g.s8.trans HGo.out.s8.symm))
              have HzE := Lib.hid (fun sl' => sc_size (s := ⟨stepG s1.g I, s1.ver, s1.T⟩) (sl := sl') HGo.out.s8 Ht8'.out)
              have HspE : Hid (∀ sl', splice zC 0 (Value.cells (.agg (stateC ⟨stepG s1.g I, s1.ver, s1.T⟩ sl'))).toList = stateC ⟨stepG s1.g I, s1.ver, s1.T⟩ sl') := Lib.hid (fun sl' => splice_all _ _ (by rw [zC_size]; exact (HzE.out sl').symm))
              have HGz := Lib.hid (fun sl' => gc_size (fr := (stepG s1.g I).fr) (d := (stepG s1.g I).d) (sl := sl') HGo.out.s8)
              have Hft0 : Hid (0 + 59 ≤ (stateC s1 sl1).size) := Lib.hid (by rw [Hz1.out]; decide)
              clear HB HA hok hlt hk
              obtain ⟨G, hG⟩ : ∃ G, stepG s1.g I = G := ⟨_, rfl⟩
              rw [hG] at HC HGo HSetG HzE HspE HGz
              have HG := Lib.hid hG
              clear hG
              go_wp2_with (first | (refine wb_partA H rfl 2 33 _ rfl _ 0 rfl _ _ rfl _ Try.underlying33 rfl 59 info28 (gameC s1.g.fr s1.g.d s1.g.S sl1) (fun j v h => by rw [Nat.zero_add]; exact HGm.out j v h) Hgz.out ?_) | (refine wb_part H rfl 1 43 _ rfl _ 2 rfl _ _ rfl _ Try.underlying43 rfl 24 info40 (I.flatMap inpL) Hins.out Hli.out ?_))
              refine (HC.out _ (HL.out.shots H)).mono ?_
              rintro e1 w3 ⟨⟨sl', rfl, hown, hnew⟩, hb⟩
              have H1 := (H.addRow sl' _ hown hb hnew).onlyRow
              have HOne := Lib.hid (sc_oneI (s := ⟨G, s1.ver, s1.T⟩) hown.shotsIn)
              have HOneG := Lib.hid (show (Value.cells (.agg (gameC G.fr G.d G.S sl'))).toList.all (·.oneCell') = true by
                obtain ⟨ad, c, e⟩ := own_form hown
                rw [e]
                exact gcv_one)
              clear H hown hnew hb HC
              have H := H1
              clear H1
              go_wp2_with (refine wb_put H rfl 2 33 _ _ rfl _ 0 rfl _ _ rfl (.agg (gameC G.fr G.d G.S sl')) rfl 59 info28 (HGz.out sl') Hft0.out HOneG.out _ (HSetG.out sl') ?_; clear H; intro w H)
              replace H : Sb [] w0 w [(b4, zC, 40), (b3, ec, 45), (b2, stateC ⟨G, s1.ver, s1.T⟩ sl', 40)] [(sl', G.L)] := H
              refine (must_ok 0 _).mono ?_
              rintro e1 w2 ⟨rfl, rfl⟩
              go_wp2_with (first | (refine wb_whole H rfl 2 40 _ rfl _ rfl (stateC ⟨G, s1.ver, s1.T⟩ sl') rfl _ Try.underlying40 rfl 76 info35 (HzE.out sl') ?_) | (refine wb_put H rfl 0 40 _ _ rfl _ 0 rfl _ _ rfl (.agg (stateC ⟨G, s1.ver, s1.T⟩ sl')) rfl 76 info35 (HzE.out sl') (Nat.le_of_ble_eq_true rfl) HOne.out _ (HspE.out sl') ?_; clear H; intro w H))
              refine bodyPost_ret (v := .agg (stateC ⟨G, s1.ver, s1.T⟩ sl')) (res35 rfl rfl (H.holds _ (List.mem_cons_self ..)) (HzE.out sl')) rfl ?_
              rw [Hall.out, Option.bind_some, if_pos Hok.out, HG.out]
              exact ⟨H.below, sl', rfl, H.rows _ (List.mem_cons_self ..), fun q hq => (H.rge _ (List.mem_cons_self ..) q hq).resolve_right (by simp)⟩
end Go.Proofs.Ytdopfonebpklkaa.game
namespace Go.Proofs.Ytdopfonebpklkaa.game
open Go.ChangeShapes Go.WideShapes Go.ChangeAt Go.RowKit dice
set_option maxRecDepth 100000

/-- What Apply and Run answer. -/
def ApOut (o : Option Ste) (s : Ste) (sl : Value) (W0 : World) (e : Ending) (w' : World) : Prop :=
  Below W0.heap.size W0 w' ∧ match o with
  | none => e = .returned (.tuple #[.agg (stateC s sl), .int .i64 1])
  | some t => ∃ sl', e = .returned (.tuple #[.agg (stateC t sl'), .int .i64 0]) ∧ Own w' 0 sl' t.g.L ∧ ∀ k, sl'.ownBlock = some k → W0.heap.size ≤ k
theorem res51 {tmps : Array Value} {w : World} {p q : Nat} {cs : Array Value} {u : Value} (h4 : tmps.getD 4 undef = .pointer (some ⟨p, 0, none⟩)) (h5 : tmps.getD 5 undef = .pointer (some ⟨q, 0, none⟩)) (hp : w.heap[p]? = some (.cells cs 40 (0, 0))) (hs : cs.size = 76) (hq : w.heap[q]? = some (.cells #[u] 3 (0, 0))) :
    (results Try.f13 tmps).run Try.prog w = .ok (.tuple #[.agg cs, u]) w := by
  rw [Array.getD_eq_getD_getElem?] at h4 h5
  simp only [results, Try.results13]
  simp [h4, h5, asAddr, lv35 w p cs hp hs, lv3 w q u hq]
theorem door_bad {s : Ste} {sl : Value} {W0 w : World} {p q r : Nat} {c4 : Array Value} {e0 : Value} {tmps : Array Value} (H : Sb [] W0 w [(r, #[e0], 3), (q, c4, 40), (p, stateC s sl, 40)] []) (hcs : (stateC s sl).size = 76) (h1 : (stateC s sl).toList.all (·.oneCell') = true) (h4 : c4.size = 76)
    (t4 : tmps.getD 4 undef = .pointer (some ⟨q, 0, none⟩)) (t5 : tmps.getD 5 undef = .pointer (some ⟨r, 0, none⟩)) :
    bodyPostD Try.prog Try.f13 (ApOut none s sl W0) (Exit.panic (failP 1)) { tmps := tmps, defers := [{ target := Target.fn (Fn.func 22) #[.pointer (some ⟨p, 0, none⟩), .pointer (some ⟨q, 0, none⟩), .pointer (some ⟨r, 0, none⟩)], args := #[] }] } w := by
  refine leaves_cons (f := 22) (args := #[.pointer (some ⟨p, 0, none⟩), .pointer (some ⟨q, 0, none⟩), .pointer (some ⟨r, 0, none⟩)]) (by simp) (by simp [go_sem]) ?_
  have hnd := H.nd
  simp at hnd
  have H0 : Sb [p, q, r] w w [(p, stateC s sl, 40), (q, c4, 40), (r, #[e0], 3)] [] := ⟨rfl, rfl, rfl, Nat.le_refl _, fun _ _ _ => rfl, fun x hx => by
    simp at hx
    rcases hx with rfl | rfl | rfl
    · exact H.holds _ (by simp)
    · exact H.holds _ (by simp)
    · exact H.holds _ (by simp), fun x hx => by simp at hx; rcases hx with rfl | rfl | rfl <;> exact .inr (by simp), by simp; omega, fun _ h => by simp at h, fun _ h => by simp at h, fun _ h => by simp at h, by simp⟩
  refine (catch_panicking p q r (stateC s sl) c4 e0 1 w hcs h4 h1 H0).mono ?_
  rintro e u' w'' ⟨rfl, rfl, hS⟩
  have hB : Below W0.heap.size W0 w'' := ⟨hS.os.trans H.os, hS.tape.trans H.tape, hS.output.trans H.output, Nat.le_trans H.size hS.size, fun k hk => (hS.fr k (Nat.lt_of_lt_of_le hk H.size) (fun h => by
    have a1 := (H.ge (r, #[e0], 3) (by simp)).resolve_right (by simp)
    have a2 := (H.ge (q, c4, 40) (by simp)).resolve_right (by simp)
    have a3 := (H.ge (p, stateC s sl, 40) (by simp)).resolve_right (by simp)
    simp at h
    dsimp only at a1 a2 a3
    omega)).trans (H.fr k hk (by simp))⟩
  exact ⟨.tuple #[.agg (stateC s sl), .int .i64 1], res51 t4 t5 (hS.holds _ (List.mem_cons_of_mem _ (List.mem_cons_self ..))) hcs (hS.holds _ (List.mem_cons_of_mem _ (List.mem_cons_of_mem _ (List.mem_cons_self ..)))), hB, rfl⟩
theorem door_ok {s t : Ste} {sl sl' : Value} {W0 w : World} {p q r : Nat} {cp : Array Value} {tmps : Array Value} (H : Sb [] W0 w [(r, #[.int .i64 0], 3), (q, stateC t sl', 40), (p, cp, 40)] [(sl', t.g.L)]) (hcs : (stateC t sl').size = 76)
    (t4 : tmps.getD 4 undef = .pointer (some ⟨q, 0, none⟩)) (t5 : tmps.getD 5 undef = .pointer (some ⟨r, 0, none⟩)) :
    bodyPostD Try.prog Try.f13 (ApOut (some t) s sl W0) Exit.ret { tmps := tmps, defers := [{ target := Target.fn (Fn.func 22) #[.pointer (some ⟨p, 0, none⟩), .pointer (some ⟨q, 0, none⟩), .pointer (some ⟨r, 0, none⟩)], args := #[] }] } w := by
  refine leaves_cons (f := 22) (args := #[.pointer (some ⟨p, 0, none⟩), .pointer (some ⟨q, 0, none⟩), .pointer (some ⟨r, 0, none⟩)]) (by simp) (by simp [go_sem]) ?_
  refine (catch_idle _ _ _ w).mono ?_
  rintro e u' w'' ⟨rfl, rfl, hb⟩
  have H2 := H.call hb
  exact ⟨.tuple #[.agg (stateC t sl'), .int .i64 0], res51 t4 t5 (H2.holds _ (List.mem_cons_of_mem _ (List.mem_cons_self ..))) hcs (H2.holds _ (List.mem_cons_self ..)), H2.below, sl', rfl, H2.rows _ (List.mem_cons_self ..), fun k hk => (H2.rge _ (List.mem_cons_self ..) k hk).resolve_right (by simp)⟩
set_option maxHeartbeats 4000000 in
theorem face52 (s : Ste) (sl : Value) (o : Option Ste) (qe : Nat) (w0 : World) (hsz : (stateC s sl).size = 76) (h1 : (stateC s sl).toList.all (·.oneCell') = true) (hso : ∀ t, o = some t → ∀ sl, (stateC t sl).size = 76)
    (hc : ∀ W, Below w0.heap.size w0 W → Calls Try.prog 14 #[.agg (stateC s sl), .pointer (some ⟨qe, 0, none⟩)] W (StOut o W)) :
    Calls Try.prog 13 #[.agg (stateC s sl), .func (.func 14) #[] #[.pointer (some ⟨qe, 0, none⟩)]] w0 (ApOut o s sl w0) := by
  have H := Sb.start w0
  have hmf : ∀ (fn : Fn) (first cap : Array Value) (w : World), (Instr.makeFunc fn first cap).run Try.prog w = .ok (.func fn first cap) w := fun _ _ _ _ => rfl
  have Hz := Lib.hid hsz
  have H1 := Lib.hid h1
  have HC := Lib.hid hc
  have HSo := Lib.hid hso
  clear hsz h1 hc hso
  go_enter_defers Try.func13, Try.ntmps13
  go_wp2_with (first | (refine wb_box H rfl 40 _ rfl (stateC s sl) rfl ?_; clear H; intro b2 w H) | (refine wb_alloc H rfl 40 rfl _ Try.zeroValue40 ?_; clear H; intro b4 w H) | (refine wb_alloc H rfl 3 rfl _ Try.zeroValue3 ?_; clear H; intro b5 w H) | (refine wb_whole H rfl 2 40 _ rfl _ rfl (stateC s sl) rfl _ Try.underlying40 rfl 76 info35 Hz.out ?_))
  replace H : Sb [] w0 w [(b5, #[.int .i64 0], 3), (b4, zC, 40), (b2, stateC s sl, 40)] [] := H
  refine (HC.out _ H.below).mono ?_
  rintro e w' ⟨hb, ho⟩
  cases o with
  | none =>
    subst ho
    exact door_bad (H.call hb) Hz.out H1.out zC_size rfl rfl
  | some t =>
    obtain ⟨sl', rfl, hown, hnew⟩ := ho
    have Hz2 := Lib.hid (HSo.out t rfl sl')
    have HOne := Lib.hid (sc_oneI (s := t) hown.shotsIn)
    have Hsp := Lib.hid (show splice zC 0 (Value.cells (.agg (stateC t sl'))).toList = stateC t sl' from splice_all _ _ (by rw [zC_size]; exact Hz2.out.symm))
    replace H := H.addRow sl' _ hown hb hnew
    clear hown hnew hb HC hmf
    go_wp2_with (first | (refine wb_put H rfl 1 40 _ _ rfl _ 0 rfl _ _ rfl (.agg (stateC t sl')) rfl 76 info35 Hz2.out (Nat.le_of_ble_eq_true rfl) HOne.out _ Hsp.out ?_; clear H; intro w H) | (refine wb_put H rfl 0 3 _ _ rfl _ 0 rfl _ _ rfl (.int .i64 0) rfl 1 info3 rfl (Nat.le_of_ble_eq_true rfl) rfl #[.int .i64 0] rfl ?_; clear H; intro w H))
    exact door_ok H Hz2.out rfl rfl
set_option maxHeartbeats 4000000 in
theorem face65 (s : Ste) (sl : Value) (o : Option Ste) (qe : Nat) (w0 : World) (hsz : (stateC s sl).size = 76) (h1 : (stateC s sl).toList.all (·.oneCell') = true) (hso : ∀ t, o = some t → ∀ sl, (stateC t sl).size = 76)
    (hc : ∀ W, Below w0.heap.size w0 W → Calls Try.prog 18 #[.agg (stateC s sl), .pointer (some ⟨qe, 0, none⟩)] W (StOut o W)) :
    Calls Try.prog 13 #[.agg (stateC s sl), .func (.func 18) #[] #[.pointer (some ⟨qe, 0, none⟩)]] w0 (ApOut o s sl w0) := by
  have H := Sb.start w0
  have hmf : ∀ (fn : Fn) (first cap : Array Value) (w : World), (Instr.makeFunc fn first cap).run Try.prog w = .ok (.func fn first cap) w := fun _ _ _ _ => rfl
  have Hz := Lib.hid hsz
  have H1 := Lib.hid h1
  have HC := Lib.hid hc
  have HSo := Lib.hid hso
  clear hsz h1 hc hso
  go_enter_defers Try.func13, Try.ntmps13
  go_wp2_with (first | (refine wb_box H rfl 40 _ rfl (stateC s sl) rfl ?_; clear H; intro b2 w H) | (refine wb_alloc H rfl 40 rfl _ Try.zeroValue40 ?_; clear H; intro b4 w H) | (refine wb_alloc H rfl 3 rfl _ Try.zeroValue3 ?_; clear H; intro b5 w H) | (refine wb_whole H rfl 2 40 _ rfl _ rfl (stateC s sl) rfl _ Try.underlying40 rfl 76 info35 Hz.out ?_))
  replace H : Sb [] w0 w [(b5, #[.int .i64 0], 3), (b4, zC, 40), (b2, stateC s sl, 40)] [] := H
  refine (HC.out _ H.below).mono ?_
  rintro e w' ⟨hb, ho⟩
  cases o with
  | none =>
    subst ho
    exact door_bad (H.call hb) Hz.out H1.out zC_size rfl rfl
  | some t =>
    obtain ⟨sl', rfl, hown, hnew⟩ := ho
    have Hz2 := Lib.hid (HSo.out t rfl sl')
    have HOne := Lib.hid (sc_oneI (s := t) hown.shotsIn)
    have Hsp := Lib.hid (show splice zC 0 (Value.cells (.agg (stateC t sl'))).toList = stateC t sl' from splice_all _ _ (by rw [zC_size]; exact Hz2.out.symm))
    replace H := H.addRow sl' _ hown hb hnew
    clear hown hnew hb HC hmf
    go_wp2_with (first | (refine wb_put H rfl 1 40 _ _ rfl _ 0 rfl _ _ rfl (.agg (stateC t sl')) rfl 76 info35 Hz2.out (Nat.le_of_ble_eq_true rfl) HOne.out _ Hsp.out ?_; clear H; intro w H) | (refine wb_put H rfl 0 3 _ _ rfl _ 0 rfl _ _ rfl (.int .i64 0) rfl 1 info3 rfl (Nat.le_of_ble_eq_true rfl) rfl #[.int .i64 0] rfl ?_; clear H; intro w H))
    exact door_ok H Hz2.out rfl rfl
end Go.Proofs.Ytdopfonebpklkaa.game
namespace Go.Proofs.Ytdopfonebpklkaa.game
open Go.ChangeShapes Go.WideShapes Go.ChangeAt Go.RowKit dice
set_option maxRecDepth 100000

/-- What an entry must be to be handed to Apply. -/
structure Ent.wf (e : Ent) : Prop where
  i8 : e.ins.length = 8
  ins : ∀ i ∈ e.ins, i.ok
  evs : ∀ x ∈ e.evs, x.wf
  few : e.evs.length ≤ 1000
theorem insOne (I : List Inp) : ∀ v ∈ I.flatMap inpL, v.oneCell' = true := by
  intro v hv
  obtain ⟨i, _, hm⟩ := List.mem_flatMap.1 hv
  simp [inpL] at hm
  rcases hm with rfl | rfl | rfl <;> rfl
theorem res35t {fn : Func} {p q : Tmp} {tmps : Array Value} {w : World} {b : Nat} {cs : Array Value} {v : Value} (h : fn.results = #[.cell p 40, .tmp q]) (ha : tmps.getD p undef = .pointer (some ⟨b, 0, none⟩)) (hq : tmps.getD q undef = v) (hb : w.heap[b]? = some (.cells cs 40 (0, 0))) (hs : cs.size = 76) :
    (results fn tmps).run Try.prog w = .ok (.tuple #[.agg cs, v]) w := by
  rw [Array.getD_eq_getD_getElem?] at ha hq
  simp only [results, h]
  simp [ha, hq, asAddr, lv35 w b cs hb hs]
/-- What comes out of an entry may be. -/
theorem applyF_may {s t : Ste} {e : Ent} (h8 : s.g.S.length = 8) (t8 : s.T.length = 8) (h : applyF s e = some t) : t.may ∧ t.g.fr = s.g.fr + 1 ∧ s.may := by
  unfold applyF at h
  split at h
  · rename_i hc
    have hs := (Ste.may_iff h8 t8).1 hc.1
    obtain ⟨u, hu, h⟩ := Option.bind_eq_some_iff.1 h
    obtain ⟨um, uf, _⟩ := evsS_may e.evs hs hu
    have hf : u.g.fr < 1048576 := by rw [uf, ← hc.2.2]; exact (entMay_parts hc.2.1).2.1
    split at h
    · injection h with h
      subst h
      have hg := stepG_ok e.ins um.g hf
      refine ⟨⟨hg, um.r, ?_, um.t8⟩, ?_, hs⟩
      · have hgr := stepG_grows e.ins um.g
        refine pairs_idx.2 fun i t q ht hq => ?_
        have hil : i < u.g.S.length := by
          have := (List.getElem?_eq_some_iff.1 ht).1
          rw [hgr.1] at this
          exact this
        obtain ⟨t', ht', ho, _⟩ := hgr.2 i _ (List.getElem?_eq_getElem hil)
        dsimp only at ht
        rw [ht] at ht'
        injection ht' with ht'
        subst ht'
        rw [ho]
        exact pairs_idx.1 um.p i _ q (List.getElem?_eq_getElem hil) hq
      · show (stepG u.g e.ins).fr = s.g.fr + 1
        unfold stepG
        dsimp only
        rw [uf]
    · cases h
  · cases h
set_option maxHeartbeats 4000000 in
theorem cl52 (s : Ste) (sl : Value) (e : Ent) (esl : Value) (qe : Nat) (w0 : World) (hg : s.g.wf) (t8 : s.T.length = 8) (hin : ShotsIn w0 sl s.g.L) (he : e.wf) (hev : EvW w0 esl e.evs) (hq : qe < w0.heap.size) (hr : w0.rangeAt qe 0 (entC e esl).toList) :
    Calls Try.prog 14 #[.agg (stateC s sl), .pointer (some ⟨qe, 0, none⟩)] w0 (StOut (applyF s e) w0) := by
  have H := Sb.start w0
  have HC := Lib.hid (fun w h h' => apply_b s sl e esl w hg t8 h he.i8 he.ins he.evs h' he.few)
  have HI := Lib.hid hin
  have HE := Lib.hid hev
  have Hz := Lib.hid (sc_size (s := s) (sl := sl) hg.s8 t8)
  have Hez := Lib.hid (en_size (sl := esl) he.i8)
  have Hq := Lib.hid hq
  have Hr := Lib.hid hr
  have HZ2 := Lib.hid (fun t (h : applyF s e = some t) => (applyF_may hg.s8 t8 h).1)
  clear hg t8 hin he hev hq hr
  go_enter Try.func14, Try.ntmps14
  go_wp2_with (first | (refine wb_box H rfl 40 _ rfl (stateC s sl) rfl ?_; clear H; intro b2 w H) | (refine wb_alloc H rfl 40 rfl _ Try.zeroValue40 ?_; clear H; intro b3 w H; replace H : Sb [] w0 w [(b3, zC, 40), (b2, stateC s sl, 40)] [] := H) | (refine wb_whole H rfl 1 40 _ rfl _ rfl (stateC s sl) rfl _ Try.underlying40 rfl 76 info35 Hz.out ?_) | (refine wb_oldRow H rfl 45 _ rfl qe 0 rfl (entC e esl).toList Hq.out Hr.out _ Try.underlying45 rfl (by rw [Array.length_toList, Hez.out]; exact info42) ?_; rw [Array.toArray_toList]))
  refine (HC.out _ (HI.out.later H.below) (HE.out.later H.below)).mono ?_
  rintro e1 w' ⟨hb, ho⟩
  cases hap : applyF s e with
  | none =>
    rw [hap] at ho
    subst ho
    exact ⟨rfl, (H.call hb).below, rfl⟩
  | some t =>
    rw [hap] at ho
    obtain ⟨sl', rfl, hown, hnew⟩ := ho
    have hm := HZ2.out t hap
    have Hz2 := Lib.hid (sc_size (s := t) (sl := sl') hm.g.s8 hm.t8)
    have HOne := Lib.hid (sc_oneI (s := t) hown.shotsIn)
    have Hsp := Lib.hid (show splice zC 0 (Value.cells (.agg (stateC t sl'))).toList = stateC t sl' from splice_all _ _ (by rw [zC_size]; exact Hz2.out.symm))
    replace H := H.addRow sl' _ hown hb hnew
    have Hap := Lib.hid hap
    clear hown hnew hb HC hm hap HZ2
    go_wp2_with (refine wb_put H rfl 0 40 _ _ rfl _ 0 rfl _ _ rfl (.agg (stateC t sl')) rfl 76 info35 Hz2.out (Nat.le_of_ble_eq_true rfl) HOne.out _ Hsp.out ?_; clear H; intro w H)
    refine bodyPost_ret (v := .agg (stateC t sl')) (res35 rfl rfl (H.holds _ (List.mem_cons_self ..)) Hz2.out) rfl ?_
    rw [Hap.out]
    exact ⟨H.below, sl', rfl, H.rows _ (List.mem_cons_self ..), fun q hq => (H.rge _ (List.mem_cons_self ..) q hq).resolve_right (by simp)⟩
set_option maxHeartbeats 4000000 in
/-- fold.Apply: a state behind an entry, or the same state and an error. -/
theorem Apply_b (s : Ste) (sl : Value) (e : Ent) (esl : Value) (w0 : World) (hg : s.g.wf) (t8 : s.T.length = 8) (hin : ShotsIn w0 sl s.g.L) (he : e.wf) (hev : EvW w0 esl e.evs) :
    Calls Try.prog 6 #[.agg (stateC s sl), .agg (entC e esl)] w0 (ApOut (applyF s e) s sl w0) := by
  have H := Sb.start w0
  have hmf : ∀ (fn : Fn) (first cap : Array Value) (w : World), (Instr.makeFunc fn first cap).run Try.prog w = .ok (.func fn first cap) w := fun _ _ _ _ => rfl
  have HI := Lib.hid hin
  have HE := Lib.hid hev
  have Hz := Lib.hid (sc_size (s := s) (sl := sl) hg.s8 t8)
  have H1 := Lib.hid (sc_oneI (s := s) hin)
  have HC := Lib.hid (fun (W : World) (qe : Nat) h h' h'' h''' => cl52 s sl e esl qe W hg t8 h he h' h'' h''')
  have HZ2 := Lib.hid (fun t (h : applyF s e = some t) sl => sc_size (s := t) (sl := sl) (applyF_may hg.s8 t8 h).1.g.s8 (applyF_may hg.s8 t8 h).1.t8)
  clear hg t8 hin he hev
  go_enter Try.func6, Try.ntmps6
  go_wp2_with (first | (refine wb_box H rfl 40 _ rfl (stateC s sl) rfl ?_; clear H; intro b2 w H) | (refine wb_box H rfl 45 _ rfl (entC e esl) rfl ?_; clear H; intro b3 w H) | (refine wb_alloc H rfl 40 rfl _ Try.zeroValue40 ?_; clear H; intro b4 w H) | (refine wb_whole H rfl 2 40 _ rfl _ rfl (stateC s sl) rfl _ Try.underlying40 rfl 76 info35 Hz.out ?_))
  replace H : Sb [] w0 w [(b4, zC, 40), (b3, entC e esl, 45), (b2, stateC s sl, 40)] [] := H
  refine (face52 s sl (applyF s e) b3 w Hz.out H1.out HZ2.out (fun W hb => HC.out W b3 (HI.out.later (H.below.trans (hb.mono H.size))) (HE.out.later (H.below.trans (hb.mono H.size))) ((H.call hb).lt _ (List.mem_cons_of_mem _ (List.mem_cons_self ..))) (fun j v hv => by
    rw [Nat.zero_add, cell_of_row W b3 j _ 45 (0, 0) ((H.call hb).holds _ (List.mem_cons_of_mem _ (List.mem_cons_self ..))), ← Array.getElem?_toList]
    exact hv))).mono ?_
  rintro e1 w' ⟨hb, ho⟩
  cases hap : applyF s e with
  | none =>
    rw [hap] at ho
    subst ho
    replace H := H.call hb
    have Hsp := Lib.hid (show splice zC 0 (Value.cells (.agg (stateC s sl))).toList = stateC s sl from splice_all _ _ (by rw [zC_size]; exact Hz.out.symm))
    have Hap := Lib.hid hap
    clear hb HC HZ2 hmf hap
    go_wp2_with (refine wb_put H rfl 0 40 _ _ rfl _ 0 rfl _ _ rfl (.agg (stateC s sl)) rfl 76 info35 Hz.out (Nat.le_of_ble_eq_true rfl) H1.out _ Hsp.out ?_; clear H; intro w H)
    exact bodyPost_ret (v := .tuple #[.agg (stateC s sl), .int .i64 1]) (res35t rfl rfl rfl (H.holds _ (List.mem_cons_self ..)) Hz.out) rfl (by rw [Hap.out]; exact ⟨H.below, rfl⟩)
  | some t =>
    rw [hap] at ho
    obtain ⟨sl', rfl, hown, hnew⟩ := ho
    have Hz2 := Lib.hid (HZ2.out t hap sl')
    have HOne := Lib.hid (sc_oneI (s := t) hown.shotsIn)
    have Hsp := Lib.hid (show splice zC 0 (Value.cells (.agg (stateC t sl'))).toList = stateC t sl' from splice_all _ _ (by rw [zC_size]; exact Hz2.out.symm))
    replace H := H.addRow sl' _ hown hb hnew
    have Hap := Lib.hid hap
    clear hown hnew hb HC hap HZ2 hmf
    go_wp2_with (refine wb_put H rfl 0 40 _ _ rfl _ 0 rfl _ _ rfl (.agg (stateC t sl')) rfl 76 info35 Hz2.out (Nat.le_of_ble_eq_true rfl) HOne.out _ Hsp.out ?_; clear H; intro w H)
    refine bodyPost_ret (v := .tuple #[.agg (stateC t sl'), .int .i64 0]) (res35t rfl rfl rfl (H.holds _ (List.mem_cons_self ..)) Hz2.out) rfl ?_
    rw [Hap.out]
    exact ⟨H.below, sl', rfl, H.rows _ (List.mem_cons_self ..), fun q hq => (H.rge _ (List.mem_cons_self ..) q hq).resolve_right (by simp)⟩
end Go.Proofs.Ytdopfonebpklkaa.game
namespace Go.Proofs.Ytdopfonebpklkaa.game
open Go.ChangeShapes Go.WideShapes Go.ChangeAt Go.RowKit dice
set_option maxRecDepth 100000

theorem wu64 {a : Int} (h0 : 0 ≤ a) (h1 : a < 18446744073709551616) : (Lit.int .u64 a).wf = true := by
  simp [Lit.wf, IntKind.min, IntKind.max, IntKind.signed, IntKind.bits]
  omega
theorem next_wf (d : Int) : (Lit.int .u64 (next d)).wf = true := by
  unfold next
  exact wu64 (Int.emod_nonneg _ (by decide)) (Int.emod_lt_of_pos _ (by decide))
theorem flyF_wf {d : Int} (S : List Shp) (s : Sht) (h : (Lit.int .u64 d).wf = true) : (Lit.int .u64 (flyF d S s).dice).wf = true := by
  unfold flyF
  split
  · exact h
  · split
    · exact h
    · exact next_wf _
theorem flyAll_wf : ∀ (L : List Sht) (d : Int) (S : List Shp), (Lit.int .u64 d).wf = true → (Lit.int .u64 (flyAll d S L).dice).wf = true
  | [], _, _, h => h
  | s :: L, _, S, h => flyAll_wf L _ _ (flyF_wf S s h)
theorem stepG_wf (g : Gme) (I : List Inp) (h : (Lit.int .u64 g.d).wf = true) : (Lit.int .u64 (stepG g I).d).wf = true := by
  unfold stepG
  exact flyAll_wf _ _ _ h
theorem evG_wf (g : Gme) (x : Evt) (h : (Lit.int .u64 g.d).wf = true) : (Lit.int .u64 (evG g x).d).wf = true := by
  unfold evG
  split
  · exact h
  · exact next_wf _
theorem evsS_wf : ∀ (l : List Evt) {s t : Ste}, (Lit.int .u64 s.g.d).wf = true → evsS s l = some t → (Lit.int .u64 t.g.d).wf = true
  | [], s, t, hs, h => by injection h with h; subst h; exact hs
  | x :: l, s, t, hs, h => by
    unfold evsS at h
    obtain ⟨u, hu, h⟩ := Option.bind_eq_some_iff.1 h
    unfold evS at hu
    obtain ⟨r, _, hu⟩ := Option.bind_eq_some_iff.1 hu
    injection hu with hu
    subst hu
    exact evsS_wf l (evG_wf _ x hs) h
theorem applyF_wf {s t : Ste} {e : Ent} (hg : s.g.wf) (t8 : s.T.length = 8) (h : applyF s e = some t) : t.g.wf ∧ t.T.length = 8 := by
  obtain ⟨hm, _, _⟩ := applyF_may hg.s8 t8 h
  refine ⟨hm.wf ?_, hm.t8⟩
  unfold applyF at h
  split at h
  · obtain ⟨u, hu, h⟩ := Option.bind_eq_some_iff.1 h
    split at h
    · injection h with h
      subst h
      exact stepG_wf _ _ (evsS_wf _ hg.d hu)
    · cases h
  · cases h
/-- Entries one behind the other, each with its events, wherever they lie. -/
def LogW (W : World) (v : Value) (l : List Ent) : Prop :=
  ∃ es : List Value, es.length = l.length ∧ (∀ (k : Nat) (e : Ent) (s : Value), l[k]? = some e → es[k]? = some s → EvW W s e.evs) ∧
    ((l = [] ∧ ∃ ad c, v = .slice ad 0 c) ∨ ∃ g o c, v = .slice (some ⟨g, o, none⟩) l.length c ∧ g < W.heap.size ∧ ∀ (k : Nat) (e : Ent) (s : Value), l[k]? = some e → es[k]? = some s → W.rangeAt g (o + k * 26) (entC e s).toList)
theorem LogW.later {W W' : World} {v : Value} {l : List Ent} (h : LogW W v l) (hb : Below W.heap.size W W') : LogW W' v l := by
  obtain ⟨es, h1, h2, h3⟩ := h
  refine ⟨es, h1, fun k e s a b => (h2 k e s a b).later hb, ?_⟩
  rcases h3 with h | ⟨g, o, c, h, hg, hr⟩
  · exact .inl h
  · exact .inr ⟨g, o, c, h, Nat.lt_of_lt_of_le hg hb.size, fun k e s a b j u hu => (hb.cell (p := ⟨g, o + k * 26 + j, none⟩) hg).trans (hr k e s a b j u hu)⟩
theorem LogW.form {W : World} {v : Value} {l : List Ent} (h : LogW W v l) : ∃ ad c, v = .slice ad l.length c := by
  obtain ⟨es, _, _, ⟨rfl, ad, c, rfl⟩ | ⟨g, o, c, rfl, _⟩⟩ := h
  · exact ⟨ad, c, rfl⟩
  · exact ⟨_, _, rfl⟩
theorem ent_one {W : World} {e : Ent} {s : Value} (h : EvW W s e.evs) : (Value.cells (.agg (entC e s))).toList.all (·.oneCell') = true := by
  rw [List.all_eq_true]
  intro v hv
  simp only [Value.cells, entC, List.mem_cons] at hv
  rcases hv with rfl | rfl | hv
  · rfl
  · obtain ⟨ad, c, rfl⟩ := h.form
    rfl
  · exact insOne e.ins v hv
def zE : Array Value := #[.int .i64 0, .slice none 0 0, .int .i8 0, .int .i8 0, .int .u8 0, .int .i8 0, .int .i8 0, .int .u8 0, .int .i8 0, .int .i8 0, .int .u8 0, .int .i8 0, .int .i8 0, .int .u8 0, .int .i8 0, .int .i8 0, .int .u8 0, .int .i8 0, .int .i8 0, .int .u8 0, .int .i8 0, .int .i8 0, .int .u8 0, .int .i8 0, .int .i8 0, .int .u8 0]
theorem zE_size : zE.size = 26 := rfl
set_option maxHeartbeats 8000000 in
theorem cl65 (s : Ste) (sl : Value) (l : List Ent) (v : Value) (qe : Nat) (w0 : World) (hg : s.g.wf) (t8 : s.T.length = 8) (hin : ShotsIn w0 sl s.g.L) (hl : ∀ e ∈ l, e.wf) (hlog : LogW w0 v l) (hn : l.length ≤ 1000) (hpos : 0 < l.length) (hq : qe < w0.heap.size) (hr : w0.cell? ⟨qe, 0, none⟩ = some v) :
    Calls Try.prog 18 #[.agg (stateC s sl), .pointer (some ⟨qe, 0, none⟩)] w0 (StOut (runF s l) w0) := by
  have H := Sb.start w0
  have HI := Lib.hid hin
  have HL := Lib.hid hl
  have Hq := Lib.hid hq
  have Hr := Lib.hid hr
  have Hz := Lib.hid (sc_size (s := s) (sl := sl) hg.s8 t8)
  have HgT := Lib.hid (show s.g.wf ∧ s.T.length = 8 from ⟨hg, t8⟩)
  obtain ⟨es, h1, h2, h3⟩ := hlog
  obtain ⟨g, o, c, rfl, hgl, hrg⟩ : ∃ g o c, v = .slice (some ⟨g, o, none⟩) l.length c ∧ g < w0.heap.size ∧ ∀ (k : Nat) (e : Ent) (s : Value), l[k]? = some e → es[k]? = some s → w0.rangeAt g (o + k * 26) (entC e s).toList := by
    rcases h3 with ⟨rfl, _⟩ | h3
    · simp at hpos
    · exact h3
  have Hes := Lib.hid h1
  have HEv := Lib.hid h2
  have Hgl := Lib.hid hgl
  have Hrg := Lib.hid hrg
  have Hpos := Lib.hid hpos
  have hn' : (l.length : Int) ≤ 1000 := by omega
  have Hn := Lib.hid hn'
  clear h1 h2 h3 hgl hrg hg t8 hin hl hn hpos hq hr hn'
  go_enter Try.func18, Try.ntmps18
  go_upto_region 1 with (first | (refine wb_box H rfl 40 _ rfl (stateC s sl) rfl ?_; clear H; intro b2 w H) | (refine wb_alloc H rfl 40 rfl _ Try.zeroValue40 ?_; clear H; intro b3 w H))
  replace H : Sb [] w0 w [(b3, zC, 40), (b2, stateC s sl, 40)] [] := H
  have hn' := Hn.out
  have c0 : w.cell? ⟨qe, 0, none⟩ = some (.slice (some ⟨g, o, none⟩) l.length c) := (World.cell?_of_block (a := ⟨qe, 0, none⟩) (H.fr qe Hq.out (by simp))).trans Hr.out
  go_wp2_with fail
  have HB := Lib.hid H
  clear H hn' c0
  go_loopw [8] (fun i W => ∃ (k : Nat) (s1 : Ste) (sl1 : Value) (R : List RowS), k ≤ l.length ∧ i = .int .i64 k ∧ Hid (Sb [] w0 W [(b3, zC, 40), (b2, stateC s1 sl1, 40)] R) ∧ Hid (Lie w0 R sl1 s1.g.L ∧ (0 < k → R = [(sl1, s1.g.L)])) ∧ Hid ((s1.g.wf ∧ s1.T.length = 8) ∧ runF s l = runF s1 (l.drop k))) (fun i _ => l.length - (intOf i).toNat)
  case atStart => exact ⟨0, s, sl, [], Nat.zero_le _, rfl, HB, Lib.hid ⟨.inl ⟨rfl, HI.out⟩, fun h => absurd h (by omega)⟩, Lib.hid ⟨HgT.out, rfl⟩⟩
  case round =>
    clear HB
    obtain ⟨k, s1, sl1, R, hk, rfl, HB, HLi, HA⟩ := hrel
    have hn' := Hn.out
    by_cases hlt : k < l.length
    · obtain ⟨e, he⟩ : ∃ e, l[k]? = some e := ⟨l[k], List.getElem?_eq_getElem hlt⟩
      obtain ⟨es1, hes1⟩ : ∃ x, es[k]? = some x := ⟨es[k]'(by rw [Hes.out]; exact hlt), List.getElem?_eq_getElem _⟩
      have hst : runF s l = (applyF s1 e).bind fun t => runF t (l.drop (k + 1)) := by
        rw [HA.out.2]
        obtain ⟨hk', e'⟩ := List.getElem?_eq_some_iff.1 he
        rw [List.drop_eq_getElem_cons hk', e']
        rfl
      have Hst := Lib.hid hst
      have hew := HL.out e (List.mem_of_getElem? he)
      have Hew := Lib.hid hew
      have Hev1 := Lib.hid (HEv.out k e es1 he hes1)
      have Hrow := Lib.hid (Hrg.out k e es1 he hes1)
      have Hez := Lib.hid (en_size (e := e) (sl := es1) hew.i8)
      have HeO := Lib.hid (ent_one (HEv.out k e es1 he hes1))
      have HeS : Hid (splice zE 0 (Value.cells (.agg (entC e es1))).toList = entC e es1) := Lib.hid (splice_all _ _ (by rw [zE_size]; exact Hez.out.symm))
      have HLs := Lib.hid (fun w l (H : Sb [] w0 w l R) => HLi.out.1.shots H)
      have Hwf := Lib.hid HA.out.1
      have Hz1 := Lib.hid (sc_size (s := s1) (sl := sl1) HA.out.1.1.s8 HA.out.1.2)
      have H := HB.out
      clear HB HA he hes1 hst hew HLi
      go_upto_region 4 with (first | (refine wb_oldRow H rfl 45 _ rfl g (o + k * 26) rfl (entC e es1).toList Hgl.out Hrow.out _ Try.underlying45 rfl (by rw [Array.length_toList, Hez.out]; exact info42) ?_; rw [Array.toArray_toList]) | (refine wb_alloc H rfl 45 rfl _ Try.zeroValue45 ?_; clear H; intro b5 w H; replace H : Sb [] w0 w [(b5, zE, 45), (b3, zC, 40), (b2, stateC s1 sl1, 40)] R := H) | (refine wb_put H rfl 0 45 _ _ rfl _ 0 rfl _ _ rfl (.agg (entC e es1)) rfl 26 info42 Hez.out (Nat.le_of_ble_eq_true rfl) HeO.out _ HeS.out ?_; clear H; intro w H))
      replace H : Sb [] w0 w [(b5, entC e es1, 45), (b3, zC, 40), (b2, stateC s1 sl1, 40)] R := H
      go_wp2_with (first | (refine wb_whole H rfl 2 40 _ rfl _ rfl (stateC s1 sl1) rfl _ Try.underlying40 rfl 76 info35 Hz1.out ?_) | (refine wb_whole H rfl 0 45 _ rfl _ rfl (entC e es1) rfl _ Try.underlying45 rfl 26 info42 Hez.out ?_))
      refine (apply_b s1 sl1 e es1 _ Hwf.out.1 Hwf.out.2 (HLs.out _ _ H) Hew.out.i8 Hew.out.ins Hew.out.evs (Hev1.out.later H.below) Hew.out.few).mono ?_
      rintro e1 w' ⟨hb, ho⟩
      cases hap : applyF s1 e with
      | none =>
        rw [hap] at ho
        subst ho
        have hno : runF s l = none := by rw [Hst.out, hap]; rfl
        refine ⟨rfl, ?_⟩
        rw [hno]
        exact ⟨(H.call hb).below, rfl⟩
      | some t =>
        rw [hap] at ho
        obtain ⟨sl2, rfl, hown, hnew⟩ := ho
        obtain ⟨tw, tt⟩ := applyF_wf Hwf.out.1 Hwf.out.2 hap
        have HA2 : Hid ((t.g.wf ∧ t.T.length = 8) ∧ runF s l = runF t (l.drop (k + 1))) := Lib.hid ⟨⟨tw, tt⟩, by rw [Hst.out, hap]; rfl⟩
        have H1 := (H.addRow sl2 _ hown hb hnew).onlyRow
        have HOne := Lib.hid (sc_oneI (s := t) hown.shotsIn)
        have Hz2 := Lib.hid (sc_size (s := t) (sl := sl2) tw.s8 tt)
        have Hsp2 : Hid (splice (stateC s1 sl1) 0 (Value.cells (.agg (stateC t sl2))).toList = stateC t sl2) := Lib.hid (splice_all _ _ (by rw [Hz1.out]; exact Hz2.out.symm))
        have Hft : Hid (0 + 76 ≤ (stateC s1 sl1).size) := Lib.hid (by rw [Hz1.out]; decide)
        clear H hown hnew hb tw tt hap Hst
        have H := H1
        clear H1
        go_wp2_with (refine wb_put H rfl 2 40 _ _ rfl _ 0 rfl _ _ rfl (.agg (stateC t sl2)) rfl 76 info35 Hz2.out Hft.out HOne.out _ Hsp2.out ?_; clear H; intro w H)
        replace H : Sb [] w0 w [(b5, entC e es1, 45), (b3, zC, 40), (b2, stateC t sl2, 40)] [(sl2, t.g.L)] := H
        refine ⟨?_, by simp [intOf]; omega⟩
        simp
        exact ⟨k + 1, hlt, rfl, t, sl2, [(sl2, t.g.L)], Lib.hid H.tail, Lib.hid ⟨.inr rfl, fun _ => rfl⟩, HA2⟩
    · obtain rfl : k = l.length := by omega
      have hall : runF s l = some s1 := by rw [HA.out.2, List.drop_length]; rfl
      have Hall := Lib.hid hall
      have hR := HLi.out.2 Hpos.out
      subst hR
      have H := HB.out
      have hsh := HLi.out.1.shots H
      have HOne := Lib.hid (sc_oneI (s := s1) hsh)
      have Hz2 := Lib.hid (sc_size (s := s1) (sl := sl1) HA.out.1.1.s8 HA.out.1.2)
      have Hsp := Lib.hid (show splice zC 0 (Value.cells (.agg (stateC s1 sl1))).toList = stateC s1 sl1 from splice_all _ _ (by rw [zC_size]; exact Hz2.out.symm))
      clear HB HA hall hlt hk hsh HLi
      go_wp2_with (first | (refine wb_whole H rfl 1 40 _ rfl _ rfl (stateC s1 sl1) rfl _ Try.underlying40 rfl 76 info35 Hz2.out ?_) | (refine wb_put H rfl 0 40 _ _ rfl _ 0 rfl _ _ rfl (.agg (stateC s1 sl1)) rfl 76 info35 Hz2.out (Nat.le_of_ble_eq_true rfl) HOne.out _ Hsp.out ?_; clear H; intro w H))
      refine bodyPost_ret (v := .agg (stateC s1 sl1)) (res35 rfl rfl (H.holds _ (List.mem_cons_self ..)) Hz2.out) rfl ?_
      rw [Hall.out]
      exact ⟨H.below, sl1, rfl, H.rows _ (List.mem_cons_self ..), fun q hq => (H.rge _ (List.mem_cons_self ..) q hq).resolve_right (by simp)⟩
end Go.Proofs.Ytdopfonebpklkaa.game
