/- game.New, what it computes; a whole game out of and into a block. -/
import Derived.Test.YtdopfonebpklkaaMy
import Derived.Laws.ResultCell
namespace Go.Proofs.Ytdopfonebpklkaa.game
open Go.ChangeShapes Go.WideShapes Go.ChangeAt Go.RowKit dice
set_option maxRecDepth 100000

theorem info28 : (Try.prog.info? 33).map (·.size) = some 59 := by kernel_rfl
theorem ld28 (W : World) (b : Nat) (cs : Array Value) (h : W.heap[b]? = some (.cells cs 33 (0, 0))) (hs : cs.size = 59) :
    (loadCellsFrom ⟨b, 0, none⟩ 0 59 #[]).run Try.prog W = .ok cs W := by
  have := run_loadCells_list (P := Try.prog) (w := W) ⟨b, 0, none⟩ cs.toList (fun j v hv => by
    have hadd : (⟨b, 0, none⟩ : Addr).add j = ⟨b, j, none⟩ := by unfold Addr.add; split <;> simp_all
    rw [hadd, cell_of_row W b j cs 33 (0, 0) h]
    simpa using hv)
  simpa [loadCells, hs] using this
theorem sc28 (W : World) (b : Nat) (old cs : Array Value) (h : W.heap[b]? = some (.cells old 33 (0, 0))) (ho : old.size = 59) (hs : cs.size = 59) (h1 : cs.all (·.oneCell') = true) :
    (storeCells ⟨b, 0, none⟩ cs.toList 0).run Try.prog W = .ok () (W.setRow b cs) := by
  have := run_storeVar_row (P := Try.prog) W b 33 33 old cs h (by rw [hs]; exact info28) (by rw [ho, hs]) h1
  cases hq : Try.prog.info? 33 with
  | none => have := info28; simp [hq] at this
  | some i =>
    have hi : i.size = 59 := by have := info28; simpa [hq] using this
    simpa [storeVar, sizeOf, typeInfo, hq, Value.cells, hs, hi] using this
theorem scn28 (W : World) (cs : Array Value) (hs : cs.size = 59) (h1 : cs.all (·.oneCell') = true) :
    (storeCells ⟨W.heap.size, 0, none⟩ cs.toList 0).run Try.prog (W.alloc (.cells #[.int .i64 0, .int .u64 0, .bool false, .int .i32 0, .int .i32 0, .int .i32 0, .int .i32 0, .int .i64 0, .int .i64 0, .bool false, .int .i32 0, .int .i32 0, .int .i32 0, .int .i32 0, .int .i64 0, .int .i64 0, .bool false, .int .i32 0, .int .i32 0, .int .i32 0, .int .i32 0, .int .i64 0, .int .i64 0, .bool false, .int .i32 0, .int .i32 0, .int .i32 0, .int .i32 0, .int .i64 0, .int .i64 0, .bool false, .int .i32 0, .int .i32 0, .int .i32 0, .int .i32 0, .int .i64 0, .int .i64 0, .bool false, .int .i32 0, .int .i32 0, .int .i32 0, .int .i32 0, .int .i64 0, .int .i64 0, .bool false, .int .i32 0, .int .i32 0, .int .i32 0, .int .i32 0, .int .i64 0, .int .i64 0, .bool false, .int .i32 0, .int .i32 0, .int .i32 0, .int .i32 0, .int .i64 0, .int .i64 0, .slice none 0 0] 33)) = .ok () (W.alloc (.cells cs 33)) := by
  have := sc28 (W.alloc (.cells #[.int .i64 0, .int .u64 0, .bool false, .int .i32 0, .int .i32 0, .int .i32 0, .int .i32 0, .int .i64 0, .int .i64 0, .bool false, .int .i32 0, .int .i32 0, .int .i32 0, .int .i32 0, .int .i64 0, .int .i64 0, .bool false, .int .i32 0, .int .i32 0, .int .i32 0, .int .i32 0, .int .i64 0, .int .i64 0, .bool false, .int .i32 0, .int .i32 0, .int .i32 0, .int .i32 0, .int .i64 0, .int .i64 0, .bool false, .int .i32 0, .int .i32 0, .int .i32 0, .int .i32 0, .int .i64 0, .int .i64 0, .bool false, .int .i32 0, .int .i32 0, .int .i32 0, .int .i32 0, .int .i64 0, .int .i64 0, .bool false, .int .i32 0, .int .i32 0, .int .i32 0, .int .i32 0, .int .i64 0, .int .i64 0, .bool false, .int .i32 0, .int .i32 0, .int .i32 0, .int .i32 0, .int .i64 0, .int .i64 0, .slice none 0 0] 33)) W.heap.size _ cs (heap_alloc_last W _) rfl hs h1
  rw [this, World.setRow_alloc_new]
theorem lv28 (W : World) (b : Nat) (cs : Array Value) (h : W.heap[b]? = some (.cells cs 33 (0, 0))) (hs : cs.size = 59) :
    (loadVar 33 ⟨b, 0, none⟩).run Try.prog W = .ok (.agg cs) W :=
  run_loadVar_row W b 33 33 cs (0, 0) _ h Try.underlying33 rfl (by rw [hs]; exact info28)
theorem res1 {fn : Func} {p : Tmp} {tmps : Array Value} {w : World} {b : Nat} {cs : Array Value} (h : fn.results = #[.cell p 33]) (ha : tmps.getD p undef = .pointer (some ⟨b, 0, none⟩)) (hb : w.heap[b]? = some (.cells cs 33 (0, 0))) (hs : cs.size = 59) :
    (results fn tmps).run Try.prog w = .ok (.agg cs) w := by
  rw [Array.getD_eq_getD_getElem?] at ha
  simp only [results, h]
  simp [ha, asAddr, lv28 w b cs hb hs]
theorem res2 {fn : Func} {p u : Tmp} {tmps : Array Value} {w : World} {b : Nat} {cs : Array Value} {v : Value} (h : fn.results = #[.cell p 33, .tmp u]) (ha : tmps.getD p undef = .pointer (some ⟨b, 0, none⟩)) (hu : tmps.getD u undef = v) (hb : w.heap[b]? = some (.cells cs 33 (0, 0))) (hs : cs.size = 59) :
    (results fn tmps).run Try.prog w = .ok (.tuple #[.agg cs, v]) w := by
  rw [results_cell_tmp h]
  simp [Result.andThen, ha, hu, asAddr, lv28 w b cs hb hs]
theorem wl_store28 {ops : Array Oper} {rest : List Oper} {op : Oper} {a : Act} {w w0 : World} {Q : Exit → Act → World → Prop} (hgd : op.guard = none) (x y : Operand) (ho : op.op = .store 33 x y)
    (c c' : Array Value) (hw : w = w0.alloc (.cells c 33)) (hx : a.eval x = .pointer (some ⟨w0.heap.size, 0, none⟩)) (hy : a.eval y = .agg c') (hc : c.size = 59) (hs : c'.size = 59) (h1 : c'.all (·.oneCell') = true)
    (h : wpList Try.prog ops Q rest (a.put op.dst undef) (w0.alloc (.cells c' 33))) : wpList Try.prog ops Q (op :: rest) a w := by
  subst hw
  refine wpList_plain hgd fun _ hK => wp_store_row 33 x y ho w0.heap.size c' hx hy 33 c (heap_alloc_last w0 _) (by rw [hs]; exact info28) (by rw [hc, hs]) h1 (hK _ _ ?_)
  rw [World.setRow_alloc_new]
  exact h
def fresh (d : Int) : Array Value := #[.int .i64 0, .int .u64 d, .bool false, .int .i32 0, .int .i32 0, .int .i32 0, .int .i32 0, .int .i64 0, .int .i64 0, .bool false, .int .i32 0, .int .i32 0, .int .i32 0, .int .i32 0, .int .i64 0, .int .i64 0, .bool false, .int .i32 0, .int .i32 0, .int .i32 0, .int .i32 0, .int .i64 0, .int .i64 0, .bool false, .int .i32 0, .int .i32 0, .int .i32 0, .int .i32 0, .int .i64 0, .int .i64 0, .bool false, .int .i32 0, .int .i32 0, .int .i32 0, .int .i32 0, .int .i64 0, .int .i64 0, .bool false, .int .i32 0, .int .i32 0, .int .i32 0, .int .i32 0, .int .i64 0, .int .i64 0, .bool false, .int .i32 0, .int .i32 0, .int .i32 0, .int .i32 0, .int .i64 0, .int .i64 0, .bool false, .int .i32 0, .int .i32 0, .int .i32 0, .int .i32 0, .int .i64 0, .int .i64 0, .slice none 0 0]
theorem fresh_one (d : Int) : (fresh d).all (·.oneCell') = true := by simp [fresh, Value.oneCell']
theorem fresh_gm (d : Int) : Gm (fresh d) 0 d := by
  refine ⟨rfl, fresh_one d, rfl, rfl, rfl, fun k hk => ?_⟩
  have hz : OkShip false 0 0 0 0 0 0 := by unfold OkShip; simp
  match k, hk with
  | 0, _ | 1, _ | 2, _ | 3, _ | 4, _ | 5, _ | 6, _ | 7, _ => exact ⟨_, _, _, _, _, _, _, rfl, rfl, rfl, rfl, rfl, rfl, rfl, hz⟩
theorem new_any (s : ByteArray) (w : World) (hs : s.size ≤ maxLen) :
    Calls Try.prog 11 #[.string s] w fun e w' => e = .returned (.agg (fresh (seed s.data.toList))) ∧ Below w.heap.size w w' := by
  have H := Lib.hid (seed_any s)
  go_enter Try.func11, Try.ntmps11
  go_wp2_with fail
  refine (seed_any s _ hs).mono ?_; rintro e w' ⟨rfl, rfl⟩
  obtain ⟨d, hd⟩ : ∃ d, seed s.data.toList = d := ⟨_, rfl⟩
  rw [hd]
  have Hd := Lib.hid hd
  clear hd
  have HB := Lib.hid ((Below.refl w.heap.size w).alloc (Nat.le_refl _) (.cells (fresh d) 33))
  have hld := ld28 (w.alloc (.cells (fresh d) 33)) w.heap.size (fresh d) (heap_alloc_last w _) rfl
  go_wp2_with (refine wl_store28 rfl _ _ rfl _ (fresh d) rfl rfl rfl rfl rfl (fresh_one d) ?_)
  refine bodyPost_ret (v := .agg (fresh d)) ?_ rfl ⟨by rw [Hd.out], HB.out⟩
  exact res1 rfl rfl (heap_alloc_last w _) rfl
end Go.Proofs.Ytdopfonebpklkaa.game
