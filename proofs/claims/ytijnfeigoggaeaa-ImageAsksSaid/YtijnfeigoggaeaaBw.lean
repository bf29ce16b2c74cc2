/- image's writer: bytes of the call's own, behind a pointer; numbers are put. -/
import Derived.Test.YtijnfeigoggaeaaIp
import Derived.Test.YtijnfeigoggaeaaMc
import Derived.Maps.AppendAt
namespace Go.Proofs.Ytijnfeigoggaeaa.game
open Go.ChangeShapes Go.WideShapes Go.ChangeAt Go.RowKit dice
set_option maxRecDepth 100000

def ownB (v : Value) : List Nat := v.ownBlock.toList
theorem mem_ownB {v : Value} {k : Nat} : k ∈ ownB v ↔ v.ownBlock = some k := by
  unfold ownB
  rw [Option.mem_toList]
def vb (l : List UInt8) : List Value := l.map fun c => .int .u8 (c.toNat : Int)
theorem length_vb (l : List UInt8) : (vb l).length = l.length := by simp [vb]
theorem vb_append (a b : List UInt8) : vb (a ++ b) = vb a ++ vb b := by simp [vb]
theorem vb_one (l : List UInt8) : ∀ u ∈ vb l, u.oneCell' = true := fun u hu => by
  simp [vb] at hu
  obtain ⟨c, _, rfl⟩ := hu
  rfl
/-- Blocks l stand, and a row of bytes of the call's own; all else that was there at w0 is as it was. -/
structure Sw (Hs : List Nat) (w0 w : World) (l : List Blk) (v : Value) (bs : List UInt8) : Prop where
  st : Sb Hs w0 w l []
  row : w.ownsRow 0 5 1 v bs.length (vb bs)
  ge : ∀ k, v.ownBlock = some k → w0.heap.size ≤ k ∨ k ∈ Hs
  apart : ∀ p ∈ l, v.ownBlock ≠ some p.1
variable {Hs : List Nat} {w0 w w' : World} {l : List Blk} {v : Value} {bs : List UInt8}
theorem Sw.lt (h : Sw Hs w0 w l v bs) : ∀ k, v.ownBlock = some k → k < w.heap.size := fun k hk => (World.ownsRow.lt h.row k hk).2
theorem ownsRow_same {base e size n : Nat} {xs : List Value} (h : w.ownsRow base e size v n xs) (hs : ∀ k, v.ownBlock = some k → w'.heap[k]? = w.heap[k]?) : w'.ownsRow base e size v n xs := by
  refine ⟨h.1, ?_⟩
  rcases h.2 with a | ⟨g, cap, cur, rfl, hb, hg, r⟩
  · exact .inl a
  · exact .inr ⟨g, cap, cur, rfl, hb, (hs g rfl).trans hg, r⟩
theorem Sw.nil (h : Sb Hs w0 w l []) : Sw Hs w0 w l (.slice none 0 0) [] :=
  ⟨h, World.ownsRow_nil w 0 5 1, fun k hk => by simp [Value.ownBlock] at hk, fun p _ hk => by simp [Value.ownBlock] at hk⟩
theorem Sw.call (h : Sw Hs w0 w l v bs) (hb : Below w.heap.size w w') : Sw Hs w0 w' l v bs :=
  ⟨h.st.call hb, ownsRow_same h.row (fun k hk => hb.block k (h.lt k hk)), h.ge, h.apart⟩
theorem Sw.new (h : Sw Hs w0 w l v bs) (c : Array Value) (t : TypeId) : Sw Hs w0 (w.alloc (.cells c t)) ((w.heap.size, c, t) :: l) v bs :=
  ⟨h.st.new c t, h.row.alloc _, h.ge, fun p hp hk => by
    rcases List.mem_cons.1 hp with rfl | hp
    · exact absurd (h.lt _ hk) (Nat.lt_irrefl _)
    · exact h.apart p hp hk⟩
theorem Sw.put (h : Sw Hs w0 w l v bs) (i : Nat) (g : Nat) (c c' : Array Value) (t : TypeId) (hl : l[i]? = some (g, c, t)) : Sw Hs w0 (w.setRow g c') (l.set i (g, c', t)) v bs :=
  ⟨h.st.put i g c c' t hl, ownsRow_same h.row (fun k hk => heap_setRow_ne _ _ _ _ (fun e => h.apart _ (List.mem_of_getElem? hl) (by rw [hk, e]))), h.ge, fun p hp => by
    obtain ⟨p', hp', e⟩ := mem_set_fst hl hp
    rw [← e]; exact h.apart p' hp'⟩
theorem Sw.tail {p : Blk} (h : Sw Hs w0 w (p :: l) v bs) : Sw Hs w0 w l v bs := ⟨h.st.tail, h.row, h.ge, fun q hq => h.apart q (List.mem_cons_of_mem _ hq)⟩
/-- An append to the row. -/
theorem Sw.grow (h : Sw Hs w0 w l v bs) {v' : Value} {more : List UInt8} (hr : w'.ownsRow 0 5 1 v' (bs.length + more.length) (vb bs ++ vb more)) (hg : w.grownBy w' v.ownBlock) (hb : v'.ownBlock = v.ownBlock ∨ v'.ownBlock = some w.heap.size) : Sw Hs w0 w' l v' (bs ++ more) := by
  have other : ∀ k, k < w.heap.size → v.ownBlock ≠ some k → w'.heap[k]? = w.heap[k]? := fun k hk hn => hg.block k hk (fun e => hn e.symm)
  refine ⟨⟨hg.os.trans h.st.os, hg.tape.trans h.st.tape, hg.output.trans h.st.output, Nat.le_trans h.st.size hg.size, fun k hk hh => ?_, fun p hp => ?_, h.st.ge, h.st.nd, fun _ hr => by simp at hr, fun _ hr => by simp at hr, fun _ hr => by simp at hr, by simp⟩, ?_, fun k hk => ?_, fun p hp hk => ?_⟩
  · rw [other k (Nat.lt_of_lt_of_le hk h.st.size) (fun e => by
      rcases h.ge k e with a | a
      · exact absurd hk (Nat.not_lt.2 a)
      · exact hh a)]
    exact h.st.fr k hk hh
  · rw [other p.1 (h.st.lt p hp) (h.apart p hp)]
    exact h.st.holds p hp
  · rw [List.length_append, vb_append]; exact hr
  · rcases hb with e | e
    · exact h.ge k (by rw [← e]; exact hk)
    · rw [e] at hk
      injection hk with hk
      exact .inl (by rw [← hk]; exact h.st.size)
  · rcases hb with e | e
    · exact h.apart p hp (by rw [← e]; exact hk)
    · rw [e] at hk
      injection hk with hk
      have := h.st.lt p hp
      omega
/-- One block and the row, handed to a callee; what is there behind it. -/
theorem Sw.hand (h : Sw Hs w0 w l v bs) (g : Nat) (c : Array Value) (t : TypeId) (hi : (g, c, t) ∈ l) : Sw (g :: ownB v) w w [(g, c, t)] v bs :=
  ⟨⟨rfl, rfl, rfl, Nat.le_refl _, fun _ _ _ => rfl, fun q hq => by rw [List.mem_singleton] at hq; subst hq; exact h.st.holds _ hi, fun q hq => by rw [List.mem_singleton] at hq; subst hq; exact .inr (List.mem_cons_self ..), by simp, fun _ h => by simp at h, fun _ h => by simp at h, fun _ h => by simp at h, by simp⟩,
    h.row, fun k hk => .inr (List.mem_cons_of_mem _ (mem_ownB.2 hk)), fun p hp => by rw [List.mem_singleton] at hp; subst hp; exact h.apart _ hi⟩
theorem Sw.back (h : Sw Hs w0 w l v bs) (i g : Nat) (c c2 : Array Value) (t : TypeId) {v' : Value} {bs' : List UInt8} (hi : l[i]? = some (g, c, t)) (hc : Sw (g :: ownB v) w w' [(g, c2, t)] v' bs') : Sw Hs w0 w' (l.set i (g, c2, t)) v' bs' := by
  have hml : (g, c, t) ∈ l := List.mem_of_getElem? hi
  have hil := (List.getElem?_eq_some_iff.1 hi).1
  have other : ∀ k, k < w.heap.size → k ≠ g → v.ownBlock ≠ some k → w'.heap[k]? = w.heap[k]? := fun k hk hg hn => hc.st.fr k hk (fun hh => by
    rcases List.mem_cons.1 hh with e | e
    · exact hg e
    · exact hn (mem_ownB.1 e))
  have hvg : v'.ownBlock ≠ some g := hc.apart (g, c2, t) (List.mem_cons_self ..)
  have newOk : ∀ k, v'.ownBlock = some k → v.ownBlock = some k ∨ w.heap.size ≤ k := fun k hk => by
    rcases hc.ge k hk with a | a
    · exact .inr a
    · rcases List.mem_cons.1 a with e | e
      · subst e; exact absurd hk hvg
      · exact .inl (mem_ownB.1 e)
  refine ⟨⟨hc.st.os.trans h.st.os, hc.st.tape.trans h.st.tape, hc.st.output.trans h.st.output, Nat.le_trans h.st.size hc.st.size, fun k hk hh => ?_, fun p hp => ?_, fun p hp => ?_, by rw [map_set_fst l i g c c2 t t hi]; exact h.st.nd, fun _ h => by simp at h, fun _ h => by simp at h, fun _ h => by simp at h, by simp⟩, hc.row, fun k hk => ?_, fun p hp hk => ?_⟩
  · rw [other k (Nat.lt_of_lt_of_le hk h.st.size) (fun e => by
      subst e
      rcases h.st.ge _ hml with a | a
      · exact absurd hk (Nat.not_lt.2 a)
      · exact hh a) (fun e => by
      rcases h.ge k e with a | a
      · exact absurd hk (Nat.not_lt.2 a)
      · exact hh a)]
    exact h.st.fr k hk hh
  · obtain ⟨j, hj⟩ := List.mem_iff_getElem?.1 hp
    rw [List.getElem?_set] at hj
    by_cases e : i = j
    · rw [if_pos e, if_pos hil] at hj
      injection hj with hj
      subst hj
      exact hc.st.holds _ (List.mem_cons_self ..)
    · rw [if_neg e] at hj
      have hne : p.1 ≠ g := fun e2 => by
        have h1 : (l.map (·.1))[j]? = some g := by rw [List.getElem?_map, hj]; simp [e2]
        have h2 : (l.map (·.1))[i]? = some g := by rw [List.getElem?_map, hi]; rfl
        exact e ((List.getElem?_inj (by simpa using hil) h.st.nd).1 (h2.trans h1.symm))
      have hp' := List.mem_of_getElem? hj
      rw [other p.1 (h.st.lt p hp') hne (h.apart p hp')]
      exact h.st.holds p hp'
  · obtain ⟨p', hp', e⟩ := mem_set_fst hi hp
    rw [← e]; exact h.st.ge p' hp'
  · rcases newOk k hk with a | a
    · exact h.ge k a
    · exact .inl (Nat.le_trans h.st.size a)
  · obtain ⟨p', hp', e⟩ := mem_set_fst hi hp
    rw [← e] at hk
    rcases newOk _ hk with a | a
    · exact h.apart p' hp' a
    · have := h.st.lt p' hp'
      omega
section
variable {ops : Array Oper} {rest : List Oper} {op : Oper} {a : Act} {Q : Exit → Act → World → Prop}
theorem sw_box (H : Sw Hs w0 w l v bs) (hw : Region.wanted op (yielded ops a.tmps) = true) (t : TypeId) (x : Operand) (ho : op.op = .box t x) (c : Array Value) (hx : (a.eval x).cells = c)
    (h : ∀ b w', Sw Hs w0 w' ((b, c, t) :: l) v bs → wpList Try.prog ops Q rest (a.put op.dst (.pointer (some ⟨b, 0, none⟩))) w') : wpList Try.prog ops Q (op :: rest) a w := by
  refine BigFrame.wpList_want hw fun _ hK => ?_
  unfold Oper.wp execOp
  simp only [ho, Instr.box, newVar, newRow, Sem.run_bind, Sem.run_pure, run_newObj_alloc, Result.andThen_ok, hx]
  exact hK _ _ (h _ _ (H.new c t))
theorem sw_alloc (H : Sw Hs w0 w l v bs) (hw : Region.wanted op (yielded ops a.tmps) = true) (t : TypeId) (ho : op.op = .alloc t) (z : Value) (hz : ∀ w, (zeroValue t).run Try.prog w = .ok z w)
    (h : ∀ b w', Sw Hs w0 w' ((b, z.cells, t) :: l) v bs → wpList Try.prog ops Q rest (a.put op.dst (.pointer (some ⟨b, 0, none⟩))) w') : wpList Try.prog ops Q (op :: rest) a w := by
  refine BigFrame.wpList_want hw fun _ hK => ?_
  unfold Oper.wp execOp
  simp only [ho, Instr.alloc, newVar, newRow, Sem.run_bind, Sem.run_pure, run_newObj_alloc, Result.andThen_ok, hz]
  exact hK _ _ (h _ _ (H.new z.cells t))
theorem sw_put (H : Sw Hs w0 w l v bs) (hw : Region.wanted op (yielded ops a.tmps) = true) (i : Nat) (ty : TypeId) (x y : Operand) (ho : op.op = .store ty x y) (g o : Nat) (hx : a.eval x = .pointer (some ⟨g, o, none⟩)) (c : Array Value) (t : TypeId) (hl : l[i]? = some (g, c, t))
    (u : Value) (hy : a.eval y = u) (n : Nat) (hi : (Try.prog.info? ty).map (·.size) = some n) (hn : u.cells.size = n) (hfit : o + n ≤ c.size) (h1 : u.cells.toList.all (·.oneCell') = true) (c' : Array Value) (hc' : splice c o u.cells.toList = c')
    (h : ∀ w', Sw Hs w0 w' (l.set i (g, c', t)) v bs → wpList Try.prog ops Q rest (a.put op.dst undef) w') : wpList Try.prog ops Q (op :: rest) a w := by
  refine BigFrame.wpList_want hw fun _ hK => ?_
  have hb := H.st.holds _ (List.mem_of_getElem? hl)
  have hst := run_storeCells_at (P := Try.prog) g o t u.cells.toList 0 c w hb (by simp [hn]; exact hfit) (fun u hu => List.all_eq_true.1 h1 u hu)
  have hsv : (storeVar ty ⟨g, o, none⟩ u).run Try.prog w = .ok () (w.setRow g (splice c o u.cells.toList)) := by
    cases hq : Try.prog.info? ty with
    | none => simp [hq] at hi
    | some k =>
      have hk : k.size = n := by simpa [hq] using hi
      simp only [Nat.add_zero] at hst
      simp [storeVar, sizeOf, typeInfo, hq, hn, hk, hst, splice]
  rw [hc'] at hsv
  unfold Oper.wp execOp
  simp only [ho, hx, hy, Instr.storeAt, Instr.sureAddr, Sem.run_bind, Sem.run_pure, Result.andThen_ok, hsv]
  exact hK _ _ (h _ (H.put i g c _ t hl))
end
theorem numB_snoc : ∀ k n, numB (k + 1) n = numB k n ++ [UInt8.ofNat (n / 256 ^ k)]
  | 0, n => by simp [numB]
  | k + 1, n => by
    rw [numB, numB_snoc k, numB]
    rw [Nat.div_div_eq_div_mul, Nat.pow_succ', List.cons_append]
theorem info5b : (Try.prog.info? 5).map (fun i => (i.zero, i.size, i.bytes)) = some (some (.int .u8 0), 1, 1) := by kernel_rfl
theorem info36 : (Try.prog.info? 36).map (·.size) = some 1 := by kernel_rfl
theorem row_form {base e size n : Nat} {xs : List Value} (h : w.ownsRow base e size v n xs) : ∃ ad c, v = .slice ad n c := by
  rcases h.2 with ⟨rfl, rfl⟩ | ⟨g, cap, cur, rfl, _⟩
  · exact ⟨none, 0, rfl⟩
  · exact ⟨_, _, rfl⟩
set_option maxHeartbeats 2000000 in
theorem num_any (p k n : Nat) (v : Value) (bs : List UInt8) (w0 : World) (hn : n < 18446744073709551616) (hk : k ≤ 8) (hl : bs.length ≤ 100000) (H0 : Sw (p :: ownB v) w0 w0 [(p, #[v], 85)] v bs) :
    Calls Try.prog 47 #[.pointer (some ⟨p, 0, none⟩), .int .u64 n, .int .i64 k] w0 fun e w' => e = .returned (.tuple #[]) ∧ ∃ v', Sw (p :: ownB v) w0 w' [(p, #[v'], 85)] v' (bs ++ numB k n) := by
  obtain ⟨i5, hi, hz, hs, hby⟩ : ∃ i, Try.prog.info? 5 = some i ∧ i.zero = some (.int .u8 0) ∧ i.size = 1 ∧ i.bytes = 1 := by
    have := info5b
    cases hq : Try.prog.info? 5 with
    | none => simp [hq] at this
    | some i => simp [hq] at this; exact ⟨i, rfl, this.1, this.2.1, this.2.2⟩
  have HH := Lib.hid H0
  clear H0
  go_enter Try.func47, Try.ntmps47
  go_wp2_with fail
  go_loopw [1, 7] (fun x i W => ∃ (j : Nat) (v' : Value), j ≤ k ∧ i = .int .i64 j ∧ x = .int .u64 ((n / 256 ^ j : Nat) : Int) ∧ Hid (Sw (p :: ownB v) w0 W [(p, #[v'], 85)] v' (bs ++ numB j n))) (fun _ i _ => k - (intOf i).toNat)
  case atStart => exact ⟨0, v, Nat.zero_le _, rfl, by simp, by simpa [numB] using HH⟩
  case round =>
    clear HH
    obtain ⟨j, v1, hj, rfl, rfl, HB⟩ := hrel
    by_cases hlt : j < k
    · have H := HB.out
      have Hq : Hid (n / 256 ^ (j + 1) = n / 256 ^ j / 256) := Lib.hid (by rw [Nat.pow_succ, Nat.div_div_eq_div_mul])
      have hmn : n / 256 ^ j < 18446744073709551616 := Nat.lt_of_le_of_lt (Nat.div_le_self _ _) hn
      have Hsn : Hid (bs ++ numB (j + 1) n = bs ++ numB j n ++ [UInt8.ofNat (n / 256 ^ j)]) := Lib.hid (by rw [numB_snoc, List.append_assoc])
      have Hl : Hid ((bs ++ numB j n).length + 1 ≤ 100010) := Lib.hid (by rw [List.length_append, length_numB]; omega)
      generalize bs ++ numB j n = b1 at *
      generalize n / 256 ^ j = m at *
      have HN := H.new #[.int .u8 ((m : Int) % 256)] 5
      have Hrow := Lib.hid HN.row
      have HNh := Lib.hid HN
      have Hnews : Hid (∀ j u, [Value.int .u8 ((m : Int) % 256)][j]? = some u → (wr.alloc (.cells #[.int .u8 ((m : Int) % 256)] 5)).cell? ((⟨wr.heap.size, 0, none⟩ : Addr).add j) = some u) := Lib.hid (cell_one_new _ _ _)
      have Hone : Hid (∀ u ∈ [Value.int .u8 ((m : Int) % 256)], u.oneCell' = true) := Lib.hid (fun u hu => by rw [List.mem_singleton] at hu; subst hu; rfl)
      have Hvb : Hid (vb [UInt8.ofNat m] = [Value.int .u8 ((m : Int) % 256)]) := Lib.hid (by simp [vb])
      have hmx : b1.length + 1 ≤ maxLen := by have := Hl.out; unfold maxLen; omega
      have hbt : (b1.length + 1) * 1 ≤ 140737488355328 := by have := Hl.out; omega
      clear HB hn hl HN
      go_wp2_with (first | (refine wb_cell H.st rfl 0 36 _ rfl _ 0 rfl _ _ rfl Try.isAgg36 v1 rfl ?_) | (at_builtin; refine wpList_append_own_at _ rfl _ _ 36 rfl 0 5 i5 (.int .u8 0) 1 1 Try.underlying36 hi hz hs hby rfl (by decide) _ b1.length (vb b1) rfl Hrow.out ⟨wr.heap.size, 0, none⟩ 1 1 [.int .u8 ((m : Int) % 256)] rfl rfl Hnews.out Hone.out hmx hbt (Nat.zero_le _) ?_; intro v2 w2 hown hgrow hnil hblk; have H9 := HNh.out.grow (more := [UInt8.ofNat m]) (by rw [Hvb.out]; exact hown) hgrow hblk; obtain ⟨ad2, c2, hv2⟩ := row_form hown; subst hv2; clear hown hgrow hnil hblk) | (refine sw_put H9 rfl 1 36 _ _ rfl _ 0 rfl _ _ rfl (.slice ad2 (b1.length + 1) c2) rfl 1 info36 rfl (Nat.le_of_ble_eq_true rfl) rfl _ rfl ?_; clear H9; intro w H9))
      replace H9 : Sw (p :: ownB v) w0 w [(wr.heap.size, _, 5), (p, #[.slice ad2 (b1.length + 1) c2], 85)] (.slice ad2 (b1.length + 1) c2) (b1 ++ [UInt8.ofNat m]) := H9
      exact ⟨⟨j + 1, _, hlt, rfl, by rw [Hq.out]; simp, by rw [Hsn.out]; exact Lib.hid H9.tail⟩, by simp only [intOf]; omega⟩
    · obtain rfl : j = k := by omega
      go_wp2_with fail
      exact bodyPost_end (results_none rfl _ _ _) rfl ⟨rfl, v1, HB.out⟩
def quadB (L : List Int) : List UInt8 := L.flatMap fun x => numB 4 (lo32 x)
theorem length_quadB (L : List Int) : (quadB L).length = L.length * 4 := by
  induction L with
  | nil => rfl
  | cons x L ih => unfold quadB at *; rw [List.flatMap_cons, List.length_append, ih, length_numB, List.length_cons]; omega
theorem lo32_cast (x : Int) : ((lo32 x : Nat) : Int) = x % 4294967296 := by unfold lo32; omega
set_option maxHeartbeats 2000000 in
theorem quad_any (p g : Nat) (L : List Int) (v : Value) (bs : List UInt8) (w0 : World) (hL : L.length ≤ 8) (hl : bs.length ≤ 50000) (H0 : Sw (p :: ownB v) w0 w0 [(p, #[v], 85)] v bs) (hg : w0.heap[g]? = some (.cells (L.map (Value.int .i32)).toArray 21 (0, 0))) (hne : g ∉ p :: ownB v) (c : Nat) :
    Calls Try.prog 48 #[.pointer (some ⟨p, 0, none⟩), .slice (some ⟨g, 0, none⟩) L.length c] w0 fun e w' => e = .returned (.tuple #[]) ∧ ∃ v', Sw (p :: ownB v) w0 w' [(p, #[v'], 85)] v' (bs ++ quadB L) := by
  have HH := Lib.hid H0
  have Hg := Lib.hid hg
  have Hlt : Hid (g < w0.heap.size) := Lib.hid (Array.getElem?_eq_some_iff.1 hg).1
  have Hne := Lib.hid hne
  have Hl := Lib.hid hl
  have HL := Lib.hid hL
  clear H0 hg hne hl hL
  go_enter Try.func48, Try.ntmps48
  go_wp2_with fail
  go_loopw [8] (fun i W => ∃ (j : Nat) (v' : Value), j ≤ L.length ∧ i = .int .i64 j ∧ Hid (Sw (p :: ownB v) w0 W [(p, #[v'], 85)] v' (bs ++ quadB (L.take j)))) (fun i _ => L.length - (intOf i).toNat)
  case atStart => exact ⟨0, v, Nat.zero_le _, rfl, by simpa [quadB] using HH⟩
  case round =>
    clear HH
    obtain ⟨j, v1, hj, rfl, HB⟩ := hrel
    have hL8 := HL.out
    by_cases hlt : j < L.length
    · have hc : wr.cell? ⟨g, j, none⟩ = some (.int .i32 L[j]) := by
        rw [cell_of_row wr g j _ 21 (0, 0) ((HB.out.st.fr g Hlt.out Hne.out).trans Hg.out)]
        simp [hlt]
      obtain ⟨x, hx⟩ : ∃ x, L[j] = x := ⟨_, rfl⟩
      rw [hx] at hc
      have Hsn : Hid (bs ++ quadB (L.take (j + 1)) = bs ++ quadB (L.take j) ++ numB 4 (lo32 x)) := Lib.hid (by rw [List.take_succ_eq_append_getElem hlt, quadB, List.flatMap_append, hx, List.append_assoc]; simp [quadB])
      have hl1 : (bs ++ quadB (L.take j)).length ≤ 100000 := by
        have h1 := Hl.out
        have h2 := HL.out
        rw [List.length_append, length_quadB, List.length_take]; omega
      go_wp2_with fail
      rw [← lo32_cast]
      refine (num_any p 4 (lo32 x) v1 _ _ (Nat.lt_of_lt_of_le (lo32_lt x) (by decide)) (by decide) hl1 (HB.out.hand p _ 85 (List.mem_cons_self ..))).mono ?_
      rintro e w' ⟨rfl, v2, hS⟩
      have HB2 := Lib.hid (HB.out.back 0 p _ _ 85 rfl hS)
      clear HB hS
      go_wp2_with fail
      exact ⟨⟨j + 1, v2, hlt, rfl, by rw [Hsn.out]; exact HB2⟩, by simp only [intOf]; omega⟩
    · obtain rfl : j = L.length := by omega
      go_wp2_with fail
      exact bodyPost_end (results_none rfl _ _ _) rfl ⟨rfl, v1, by have := HB.out; rw [List.take_length] at this; exact this⟩
end Go.Proofs.Ytijnfeigoggaeaa.game
