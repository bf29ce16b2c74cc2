/- game.Same, over games without shots. -/
import Derived.Test.YtdopfonebpklkaaGn
import Derived.Deep.MidRow
import Derived.DeepKeys
namespace Go.Proofs.Ytdopfonebpklkaa.game
open Go.ChangeShapes Go.WideShapes Go.ChangeAt Go.RowKit dice
set_option maxRecDepth 100000

theorem equalShots_nil (w : World) : Calls Try.prog 29 #[.slice none 0 0, .slice none 0 0] w fun e w' => e = .returned (.bool true) ∧ w = w' := by
  go_enter Try.func29, Try.ntmps29
  go_wp2_with fail
  go_loop [13] (fun i => i = .int .i64 0) (fun _ => 0)
  case atStart => rfl
  case round =>
    subst hrel
    go_wp2_with fail
    go_ret
    exact ⟨rfl, rfl⟩
theorem info25 : (Try.prog.info? 30).map (·.size) = some 56 := by kernel_rfl
theorem wl_ld28 {ops : Array Oper} {rest : List Oper} {op : Oper} {a : Act} {w : World} {Q : Exit → Act → World → Prop} (hw : Region.wanted op (yielded ops a.tmps) = true) (x : Operand) (ho : op.op = .load 33 x)
    (b : Nat) (hx : a.eval x = .pointer (some ⟨b, 0, none⟩)) (cs : Array Value) (hg : w.heap[b]? = some (.cells cs 33 (0, 0))) (hs : cs.size = 59)
    (h : wpList Try.prog ops Q rest (a.put op.dst (.agg cs)) w) : wpList Try.prog ops Q (op :: rest) a w :=
  BigFrame.wpList_want hw fun _ hK => wp_load_row 33 x ho b hx 33 cs (0, 0) _ hg Try.underlying33 rfl (by rw [hs]; exact info28) (hK _ _ h)
theorem wl_ld25 {ops : Array Oper} {rest : List Oper} {op : Oper} {a : Act} {w : World} {Q : Exit → Act → World → Prop} (hw : Region.wanted op (yielded ops a.tmps) = true) (x : Operand) (ho : op.op = .load 30 x)
    (b : Nat) (hx : a.eval x = .pointer (some ⟨b, 2, none⟩)) (cs : List Value) (hg : w.rangeAt b 2 cs) (hs : cs.length = 56)
    (h : wpList Try.prog ops Q rest (a.put op.dst (.agg cs.toArray)) w) : wpList Try.prog ops Q (op :: rest) a w :=
  BigFrame.wpList_want hw fun _ hK => wp_load_mid 30 x ho b 2 hx cs _ hg Try.underlying30 rfl (by rw [hs]; exact info25) (hK _ _ h)
theorem range25 (W : World) (b : Nat) (cs : Array Value) (h : W.heap[b]? = some (.cells cs 33 (0, 0))) (ss : List Value) (hs : ∀ j v, ss[j]? = some v → cs[2 + j]? = some v) : W.rangeAt b 2 ss :=
  fun j v hv => (cell_of_row W b (2 + j) cs 33 (0, 0) h).trans (hs j v hv)
theorem two1 (w : World) (a b : Array Value) (t u : TypeId) : ((w.alloc (.cells a t)).alloc (.cells b u)).heap[w.heap.size]? = some (.cells a t (0, 0)) := by
  rw [Below.heap_alloc _ _ _ (by simp)]; exact heap_alloc_last w _
theorem two2 (w : World) (a b : Array Value) (t u : TypeId) : ((w.alloc (.cells a t)).alloc (.cells b u)).heap[w.heap.size + 1]? = some (.cells b u (0, 0)) := by
  have := heap_alloc_last (w.alloc (.cells a t)) (.cells b u)
  simpa using this
/-- Eight ships that are none. -/
def z56 : List Value := [.bool false, .int .i32 0, .int .i32 0, .int .i32 0, .int .i32 0, .int .i64 0, .int .i64 0, .bool false, .int .i32 0, .int .i32 0, .int .i32 0, .int .i32 0, .int .i64 0, .int .i64 0, .bool false, .int .i32 0, .int .i32 0, .int .i32 0, .int .i32 0, .int .i64 0, .int .i64 0, .bool false, .int .i32 0, .int .i32 0, .int .i32 0, .int .i32 0, .int .i64 0, .int .i64 0, .bool false, .int .i32 0, .int .i32 0, .int .i32 0, .int .i32 0, .int .i64 0, .int .i64 0, .bool false, .int .i32 0, .int .i32 0, .int .i32 0, .int .i32 0, .int .i64 0, .int .i64 0, .bool false, .int .i32 0, .int .i32 0, .int .i32 0, .int .i32 0, .int .i64 0, .int .i64 0, .bool false, .int .i32 0, .int .i32 0, .int .i32 0, .int .i32 0, .int .i64 0, .int .i64 0]
/-- A game without ships and shots. -/
def gz (fr d : Int) : Array Value := (.int .i64 fr :: .int .u64 d :: (z56 ++ [.slice none 0 0])).toArray
theorem gz_fresh (d : Int) : fresh d = gz 0 d := rfl
theorem gz_one (fr d : Int) : (gz fr d).all (·.oneCell') = true := by simp [gz, z56, Value.oneCell']
theorem gz_gm (fr d : Int) : Gm (gz fr d) fr d := by
  refine ⟨rfl, gz_one fr d, rfl, rfl, rfl, fun k hk => ?_⟩
  have hz : OkShip false 0 0 0 0 0 0 := by unfold OkShip; simp
  match k, hk with
  | 0, _ | 1, _ | 2, _ | 3, _ | 4, _ | 5, _ | 6, _ | 7, _ => exact ⟨_, _, _, _, _, _, _, rfl, rfl, rfl, rfl, rfl, rfl, rfl, hz⟩
theorem gz_ships (fr d : Int) (j : Nat) (v : Value) (h : z56[j]? = some v) : (gz fr d)[2 + j]? = some v := by
  have hj := (List.getElem?_eq_some_iff.1 h).1
  unfold gz
  rw [List.getElem?_toArray, Nat.add_comm, List.getElem?_cons_succ, List.getElem?_cons_succ, List.getElem?_append_left hj]
  exact h
noncomputable def l56 : List Lit := (Try.prog.keyLits 10 30 z56).getD []
theorem kl56 : Try.prog.keyLits 10 30 z56 = some l56 := by
  have : (Try.prog.keyLits 10 30 z56).isSome = true := by kernel_rfl
  unfold l56
  cases h : Try.prog.keyLits 10 30 z56 with
  | none => rw [h] at this; cases this
  | some l => rfl
theorem eq25 (W : World) : (Op.equalIn 10000 30 (.agg z56.toArray) (.agg z56.toArray)).run Try.prog W = .ok true W := by
  obtain ⟨r, h, hr⟩ := run_equalIn_deep (P := Try.prog) 9990 10 30 (by kernel_rfl) W 10 10 (.agg z56.toArray) (.agg z56.toArray) l56 l56 (by kernel_rfl) (by kernel_rfl) kl56 kl56
  rw [hr.2 rfl] at h
  exact h
theorem same_refl (fr d : Int) (w : World) :
    Calls Try.prog 19 #[.agg (gz fr d), .agg (gz fr d)] w fun e w' => e = .returned (.bool true) ∧ Below w.heap.size w w' := by
  have h := gz_gm fr d
  have hs := gz_ships fr d
  generalize gz fr d = cs at *
  have hB1 := two1 w cs cs 33 33
  have hB2 := two2 w cs cs 33 33
  have r1 := Lib.hid (range25 _ _ cs hB1 z56 hs)
  have r2 := Lib.hid (range25 _ _ cs hB2 z56 hs)
  have c0 := (cell_of_row _ _ 0 cs 33 (0, 0) hB1).trans h.frame
  have c1 := (cell_of_row _ _ 1 cs 33 (0, 0) hB1).trans h.dice
  have c58 := (cell_of_row _ _ 58 cs 33 (0, 0) hB1).trans h.shots
  have d0 := (cell_of_row _ _ 0 cs 33 (0, 0) hB2).trans h.frame
  have d1 := (cell_of_row _ _ 1 cs 33 (0, 0) hB2).trans h.dice
  have d58 := (cell_of_row _ _ 58 cs 33 (0, 0) hB2).trans h.shots
  have HB := Lib.hid (((Below.refl w.heap.size w).alloc (Nat.le_refl _) (.cells cs 33)).alloc (by simp) (.cells cs 33))
  have he := eq25 ((w.alloc (.cells cs 33)).alloc (.cells cs 33))
  have hzl : z56.length = 56 := rfl
  have Hzl := Lib.hid hzl
  generalize z56 = ss at *
  clear h hs hB1 hB2 hzl
  go_enter Try.func19, Try.ntmps19
  go_wp2_with (first | (refine wl_ld25 rfl _ rfl _ rfl ss r1.out Hzl.out ?_) | (refine wl_ld25 rfl _ rfl _ rfl ss r2.out Hzl.out ?_))
  refine (equalShots_nil _).mono ?_; rintro e w' ⟨rfl, rfl⟩
  clear he
  go_wp2_with fail
  go_ret
  exact ⟨rfl, HB.out⟩
theorem same_frame (cs ds : Array Value) (fr fr' : Int) (w : World) (h : cs[0]? = some (.int .i64 fr)) (h' : ds[0]? = some (.int .i64 fr')) (hne : (fr == fr') = false) :
    Calls Try.prog 19 #[.agg cs, .agg ds] w fun e w' => e = .returned (.bool false) ∧ Below w.heap.size w w' := by
  have c0 := (cell_of_row _ _ 0 cs 33 (0, 0) (two1 w cs ds 33 33)).trans h
  have d0 := (cell_of_row _ _ 0 ds 33 (0, 0) (two2 w cs ds 33 33)).trans h'
  have HB := Lib.hid (((Below.refl w.heap.size w).alloc (Nat.le_refl _) (.cells cs 33)).alloc (by simp) (.cells ds 33))
  clear h h'
  go_enter Try.func19, Try.ntmps19
  go_wp2_with fail
  go_ret
  exact ⟨rfl, HB.out⟩
end Go.Proofs.Ytdopfonebpklkaa.game
