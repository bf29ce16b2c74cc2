/- The document's answer: are two states the same? -/
import Derived.Test.YtijnfeigoggaeaaRe
import Derived.Test.YtijnfeigoggaeaaSi
import Derived.Test.YtijnfeigoggaeaaOs
namespace Go.Proofs.Ytijnfeigoggaeaa.game
open Go.ChangeShapes Go.WideShapes Go.ChangeAt Go.RowKit dice
set_option maxRecDepth 100000

def litsAllm (S : List Shp) : List Lit := S.flatMap litsSm
theorem kl25w (d : Nat) (S : List Shp) (h8 : S.length = 8) (h : ∀ t ∈ S, t.wf) : Try.prog.keyLits (d + 3) 25 (shipsL S) = some (litsAllm S) := by
  match S, h8 with
  | [t0, t1, t2, t3, t4, t5, t6, t7], _ =>
    have k0 := kl24w d t0 (h t0 (by simp))
    have k1 := kl24w d t1 (h t1 (by simp))
    have k2 := kl24w d t2 (h t2 (by simp))
    have k3 := kl24w d t3 (h t3 (by simp))
    have k4 := kl24w d t4 (h t4 (by simp))
    have k5 := kl24w d t5 (h t5 (by simp))
    have k6 := kl24w d t6 (h t6 (by simp))
    have k7 := kl24w d t7 (h t7 (by simp))
    show Try.prog.keyLits ((d + 2) + 1) 25 (shipsL _) = some (litsAllm _)
    unfold Program.keyLits
    rw [Try.underlying25]
    have hr : List.range 8 = [0, 1, 2, 3, 4, 5, 6, 7] := rfl
    have e0 : ((shipsL [t0, t1, t2, t3, t4, t5, t6, t7]).drop (0 * 7)).take 7 = shipL t0 := rfl
    have e1 : ((shipsL [t0, t1, t2, t3, t4, t5, t6, t7]).drop (1 * 7)).take 7 = shipL t1 := rfl
    have e2 : ((shipsL [t0, t1, t2, t3, t4, t5, t6, t7]).drop (2 * 7)).take 7 = shipL t2 := rfl
    have e3 : ((shipsL [t0, t1, t2, t3, t4, t5, t6, t7]).drop (3 * 7)).take 7 = shipL t3 := rfl
    have e4 : ((shipsL [t0, t1, t2, t3, t4, t5, t6, t7]).drop (4 * 7)).take 7 = shipL t4 := rfl
    have e5 : ((shipsL [t0, t1, t2, t3, t4, t5, t6, t7]).drop (5 * 7)).take 7 = shipL t5 := rfl
    have e6 : ((shipsL [t0, t1, t2, t3, t4, t5, t6, t7]).drop (6 * 7)).take 7 = shipL t6 := rfl
    have e7 : ((shipsL [t0, t1, t2, t3, t4, t5, t6, t7]).drop (7 * 7)).take 7 = shipL t7 := rfl
    simp only [co25, co24, length_shipsL, hr, List.mapM_cons, List.mapM_nil, e0, e1, e2, e3, e4, e5, e6, e7, k0, k1, k2, k3, k4, k5, k6, k7, List.length_cons, List.length_nil]
    rfl
theorem flat_inj {α β : Type} (f : α → List β) (m : Nat) (hf : ∀ a, (f a).length = m) (hi : ∀ a b, f a = f b → a = b) : ∀ (l l' : List α), l.length = l'.length → l.flatMap f = l'.flatMap f → l = l'
  | [], [], _, _ => rfl
  | [], _ :: _, h, _ => by simp at h
  | _ :: _, [], h, _ => by simp at h
  | a :: l, b :: l', h, e => by
    rw [List.flatMap_cons, List.flatMap_cons] at e
    obtain ⟨e1, e2⟩ := List.append_inj e (by rw [hf, hf])
    rw [hi a b e1, flat_inj f m hf hi l l' (by simpa using h) e2]
theorem formed25w (S : List Shp) (h8 : S.length = 8) : (Value.agg (shipsL S).toArray).formed Try.prog 25 = true := by
  unfold Value.formed
  rw [Try.underlying25]
  simp [co25, length_shipsL, h8]
theorem eq25w (W : World) (S S' : List Shp) (h8 : S.length = 8) (h8' : S'.length = 8) (h : ∀ t ∈ S, t.wf) (h' : ∀ t ∈ S', t.wf) : ∃ r, (Op.equalIn 10000 25 (.agg (shipsL S).toArray) (.agg (shipsL S').toArray)).run Try.prog W = .ok r W ∧ (r = true ↔ S = S') := by
  obtain ⟨r, h1, hr⟩ := run_equalIn_deep (P := Try.prog) 9990 10 25 (by kernel_rfl) W 10 10 (.agg (shipsL S).toArray) (.agg (shipsL S').toArray) (litsAllm S) (litsAllm S') (formed25w S h8) (formed25w S' h8') (kl25w 7 S h8 h) (kl25w 7 S' h8' h')
  refine ⟨r, h1, hr.trans ⟨fun e => flat_inj litsSm 7 (fun _ => rfl) (fun a b => litsS_inj) S S' (by rw [h8, h8']) e, fun e => by rw [e]⟩⟩
def litsH (s : Sht) : List Lit := [.int .i64 s.owner, .int .i32 s.x, .int .i32 s.y, .int .i32 s.vx, .int .i32 s.vy, .int .i64 s.left]
theorem litsH_inj {a b : Sht} (h : litsH a = litsH b) : a = b := by
  cases a; cases b
  simp [litsH] at h
  simp_all
theorem kl79w (d : Nat) (t : Sht) (h : t.wf) : Try.prog.keyLits (d + 2) 79 (shotL t) = some (litsH t) := by
  have k1 := kl21m d t.x h.x
  have k2 := kl21m d t.y h.y
  have k3 := kl21m d t.vx h.vx
  have k4 := kl21m d t.vy h.vy
  have k5 := kl3m d t.owner h.owner
  have k6 := kl3m d t.left h.left
  show Try.prog.keyLits ((d + 1) + 1) 79 (shotL t) = some (litsH t)
  unfold Program.keyLits
  rw [Try.underlying79]
  simp only [co79, shotL, List.length_cons, List.length_nil, co21, co3, List.mapM_cons, List.mapM_nil, List.drop_succ_cons, List.drop_zero, List.take_succ_cons, List.take_zero, k1, k2, k3, k4, k5, k6]
  rw [if_pos ⟨trivial, by decide +kernel⟩]
  rfl
theorem formed79w (t : Sht) : (Value.agg (shotL t).toArray).formed Try.prog 79 = true := by
  unfold Value.formed
  rw [Try.underlying79]
  simp [co79, shotL]
theorem eq79w (W : World) (s s' : Sht) (h : s.wf) (h' : s'.wf) : ∃ r, (Op.equalIn 10000 79 (.agg (shotL s).toArray) (.agg (shotL s').toArray)).run Try.prog W = .ok r W ∧ (r = true ↔ s = s') := by
  obtain ⟨r, h1, hr⟩ := run_equalIn_deep (P := Try.prog) 9990 10 79 (by kernel_rfl) W 10 10 (.agg (shotL s).toArray) (.agg (shotL s').toArray) (litsH s) (litsH s') (formed79w s) (formed79w s') (kl79w 8 s h) (kl79w 8 s' h')
  exact ⟨r, h1, hr.trans ⟨litsH_inj, fun e => by rw [e]⟩⟩
def litsQ (q : Seat) : List Lit := [.int .i64 q.peer, .int .i64 q.gen]
theorem kl30w (d : Nat) (q : Seat) (h : (Lit.int .i64 q.peer).wf = true ∧ (Lit.int .i64 q.gen).wf = true) : Try.prog.keyLits (d + 2) 30 (seatL q) = some (litsQ q) := by
  have k5 := kl3m d q.peer h.1
  have k6 := kl3m d q.gen h.2
  show Try.prog.keyLits ((d + 1) + 1) 30 (seatL q) = some (litsQ q)
  unfold Program.keyLits
  rw [Try.underlying30]
  simp only [co30, seatL, List.length_cons, List.length_nil, co3, List.mapM_cons, List.mapM_nil, List.drop_succ_cons, List.drop_zero, List.take_succ_cons, List.take_zero, k5, k6]
  rw [if_pos ⟨trivial, by decide +kernel⟩]
  rfl
def litsT (T : List Seat) : List Lit := T.flatMap litsQ
theorem kl31w (d : Nat) (T : List Seat) (h8 : T.length = 8) (h : ∀ q ∈ T, (Lit.int .i64 q.peer).wf = true ∧ (Lit.int .i64 q.gen).wf = true) : Try.prog.keyLits (d + 3) 31 (seatsL T) = some (litsT T) := by
  match T, h8 with
  | [t0, t1, t2, t3, t4, t5, t6, t7], _ =>
    have k0 := kl30w d t0 (h t0 (by simp))
    have k1 := kl30w d t1 (h t1 (by simp))
    have k2 := kl30w d t2 (h t2 (by simp))
    have k3 := kl30w d t3 (h t3 (by simp))
    have k4 := kl30w d t4 (h t4 (by simp))
    have k5 := kl30w d t5 (h t5 (by simp))
    have k6 := kl30w d t6 (h t6 (by simp))
    have k7 := kl30w d t7 (h t7 (by simp))
    show Try.prog.keyLits ((d + 2) + 1) 31 (seatsL _) = some (litsT _)
    unfold Program.keyLits
    rw [Try.underlying31]
    have hr : List.range 8 = [0, 1, 2, 3, 4, 5, 6, 7] := rfl
    have e0 : ((seatsL [t0, t1, t2, t3, t4, t5, t6, t7]).drop (0 * 2)).take 2 = seatL t0 := rfl
    have e1 : ((seatsL [t0, t1, t2, t3, t4, t5, t6, t7]).drop (1 * 2)).take 2 = seatL t1 := rfl
    have e2 : ((seatsL [t0, t1, t2, t3, t4, t5, t6, t7]).drop (2 * 2)).take 2 = seatL t2 := rfl
    have e3 : ((seatsL [t0, t1, t2, t3, t4, t5, t6, t7]).drop (3 * 2)).take 2 = seatL t3 := rfl
    have e4 : ((seatsL [t0, t1, t2, t3, t4, t5, t6, t7]).drop (4 * 2)).take 2 = seatL t4 := rfl
    have e5 : ((seatsL [t0, t1, t2, t3, t4, t5, t6, t7]).drop (5 * 2)).take 2 = seatL t5 := rfl
    have e6 : ((seatsL [t0, t1, t2, t3, t4, t5, t6, t7]).drop (6 * 2)).take 2 = seatL t6 := rfl
    have e7 : ((seatsL [t0, t1, t2, t3, t4, t5, t6, t7]).drop (7 * 2)).take 2 = seatL t7 := rfl
    simp only [co31, co30, length_seatsL, hr, List.mapM_cons, List.mapM_nil, e0, e1, e2, e3, e4, e5, e6, e7, k0, k1, k2, k3, k4, k5, k6, k7, List.length_cons, List.length_nil]
    rfl
theorem kl33w (d : Nat) (ver : Int) (T : List Seat) (h8 : T.length = 8) (hv : (Lit.int .i64 ver).wf = true) (h : ∀ q ∈ T, (Lit.int .i64 q.peer).wf = true ∧ (Lit.int .i64 q.gen).wf = true) : Try.prog.keyLits (d + 4) 33 (.int .i64 ver :: seatsL T) = some (.int .i64 ver :: litsT T) := by
  have k0 := kl3m (d + 2) ver hv
  have k1 := kl31w d T h8 h
  have hl : (seatsL T).length = 16 := by rw [length_seatsL, h8]
  have ht : (seatsL T).take 16 = seatsL T := List.take_of_length_le (by omega)
  show Try.prog.keyLits ((d + 3) + 1) 33 (.int .i64 ver :: seatsL T) = _
  unfold Program.keyLits
  rw [Try.underlying33]
  simp only [co33, List.length_cons, hl, co31, co3, List.mapM_cons, List.mapM_nil, List.drop_succ_cons, List.drop_zero, List.take_succ_cons, List.take_zero, ht, k0, k1]
  rw [if_pos ⟨trivial, by decide +kernel⟩]
  simp
theorem formed33w (ver : Int) (T : List Seat) (h8 : T.length = 8) : (Value.agg (rosterC ver T)).formed Try.prog 33 = true := by
  unfold Value.formed
  rw [Try.underlying33]
  simp [co33, rosterC, length_seatsL, h8]
theorem eq33w (W : World) (ver ver' : Int) (T T' : List Seat) (h8 : T.length = 8) (h8' : T'.length = 8) (hv : (Lit.int .i64 ver).wf = true) (hv' : (Lit.int .i64 ver').wf = true) (h : ∀ q ∈ T, (Lit.int .i64 q.peer).wf = true ∧ (Lit.int .i64 q.gen).wf = true) (h' : ∀ q ∈ T', (Lit.int .i64 q.peer).wf = true ∧ (Lit.int .i64 q.gen).wf = true) :
    ∃ r, (Op.equalIn 10000 33 (.agg (rosterC ver T)) (.agg (rosterC ver' T'))).run Try.prog W = .ok r W ∧ (r = true ↔ ver = ver' ∧ T = T') := by
  obtain ⟨r, h1, hr⟩ := run_equalIn_deep (P := Try.prog) 9990 10 33 (by kernel_rfl) W 10 10 (.agg (rosterC ver T)) (.agg (rosterC ver' T')) _ _ (formed33w ver T h8) (formed33w ver' T' h8') (kl33w 6 ver T h8 hv h) (kl33w 6 ver' T' h8' hv' h')
  refine ⟨r, h1, hr.trans ⟨fun e => ?_, fun e => by rw [e.1, e.2]⟩⟩
  simp only [List.cons.injEq, Lit.int.injEq, true_and] at e
  refine ⟨e.1, flat_inj litsQ 2 (fun _ => rfl) (fun a b hab => ?_) T T' (by rw [h8, h8']) e.2⟩
  cases a; cases b
  simp [litsQ] at hab
  simp_all
section
variable {ops : Array Oper} {rest : List Oper} {op : Oper} {a : Act} {Q : Exit → Act → World → Prop} {w0 w : World} {Hs : List Nat} {l : List Blk} {R : List RowS}
/-- wb_part, the operation's kind asked first. -/
theorem wb_partL (ty : TypeId) (x : Operand) (ho : op.op = .load ty x) (H : Sb Hs w0 w l R) (hw : Region.wanted op (yielded ops a.tmps) = true) (i : Nat) (g o : Nat) (hx : a.eval x = .pointer (some ⟨g, o, none⟩)) (c : Array Value) (t : TypeId) (hl : l[i]? = some (g, c, t))
    (d : TypeDesc) (hu : Try.prog.underlying ty = some d) (hd : d.isRow = true) (n : Nat) (hi : (Try.prog.info? ty).map (·.size) = some n) (vs : List Value) (hvs : ∀ j v, vs[j]? = some v → c[o + j]? = some v) (hn : vs.length = n)
    (h : wpList Try.prog ops Q rest (a.put op.dst (.agg vs.toArray)) w) : wpList Try.prog ops Q (op :: rest) a w :=
  wb_part H hw i ty x ho g o hx c t hl d hu hd n hi vs hvs hn h
end
theorem gc_shipsw {fr d : Int} {S : List Shp} {sl : Value} : ∀ j v, (shipsL S)[j]? = some v → (gameC fr d S sl)[2 + j]? = some v := fun j v h => by
  unfold gameC
  have hl := (List.getElem?_eq_some_iff.1 h).1
  rw [List.getElem?_toArray, show 2 + j = j + 1 + 1 by omega, List.getElem?_cons_succ, List.getElem?_cons_succ, List.getElem?_append_left hl]
  exact h
def SameOut (m : Prop) (e : Ending) : Prop := ∃ r : Bool, e = .returned (.bool r) ∧ (r = true ↔ m)
theorem sameNo {m : Prop} {e : Ending} (h : ¬ m) (he : e = .returned (.bool false)) : SameOut m e := ⟨false, he, by simp [h]⟩
theorem sameYes {m : Prop} {e : Ending} (h : m) (he : e = .returned (.bool true)) : SameOut m e := ⟨true, he, by simp [h]⟩
set_option maxHeartbeats 8000000 in
theorem rsameG (g g' : Gme) (sl sl' : Value) (w0 : World) (hg : g.wf) (hg' : g'.wf) (hin : ShotsW w0 sl g.L) (hin' : ShotsW w0 sl' g'.L) (hm : g.L.length ≤ 1000) (hm' : g'.L.length ≤ 1000) :
    Calls Try.prog 33 #[.agg (gameC g.fr g.d g.S sl), .agg (gameC g'.fr g'.d g'.S sl')] w0 fun e w' => SameOut (g = g') e ∧ Below w0.heap.size w0 w' := by
  obtain ⟨ad1, c1, rfl⟩ := hin.form
  obtain ⟨ad2, c2, rfl⟩ := hin'.form
  have HE := Lib.hid (fun W => eq25w W g.S g'.S hg.s8 hg'.s8 hg.ships hg'.ships)
  have HE79 := Lib.hid (fun W s s' (h : s ∈ g.L) (h' : s' ∈ g'.L) => eq79w W s s' (hg.shots s h) (hg'.shots s' h'))
  have HI1 := Lib.hid hin
  have HI2 := Lib.hid hin'
  have Hl1 := Lib.hid (show (shipsL g.S).length = 56 by rw [length_shipsL, hg.s8])
  have Hl2 := Lib.hid (show (shipsL g'.S).length = 56 by rw [length_shipsL, hg'.s8])
  have Hs1 := Lib.hid (gc_shots (fr := g.fr) (d := g.d) (S := g.S) (sl := .slice ad1 g.L.length c1) hg.s8)
  have Hs2 := Lib.hid (gc_shots (fr := g'.fr) (d := g'.d) (S := g'.S) (sl := .slice ad2 g'.L.length c2) hg'.s8)
  have Hp1 := Lib.hid (fun j v h => gc_shipsw (fr := g.fr) (d := g.d) (S := g.S) (sl := .slice ad1 g.L.length c1) j v h)
  have Hp2 := Lib.hid (fun j v h => gc_shipsw (fr := g'.fr) (d := g'.d) (S := g'.S) (sl := .slice ad2 g'.L.length c2) j v h)
  have HF1 : Hid ((gameC g.fr g.d g.S (.slice ad1 g.L.length c1))[0]? = some (.int .i64 g.fr)) := Lib.hid rfl
  have HF2 : Hid ((gameC g'.fr g'.d g'.S (.slice ad2 g'.L.length c2))[0]? = some (.int .i64 g'.fr)) := Lib.hid rfl
  have HD1 : Hid ((gameC g.fr g.d g.S (.slice ad1 g.L.length c1))[1]? = some (.int .u64 g.d)) := Lib.hid rfl
  have HD2 : Hid ((gameC g'.fr g'.d g'.S (.slice ad2 g'.L.length c2))[1]? = some (.int .u64 g'.d)) := Lib.hid rfl
  have H := Sb.start w0
  clear hg hg' hin hin'
  obtain ⟨fr, d, S, L⟩ := g
  obtain ⟨fr', d', S', L'⟩ := g'
  dsimp only at *
  generalize gameC fr d S (.slice ad1 L.length c1) = A at *
  generalize gameC fr' d' S' (.slice ad2 L'.length c2) = B at *
  obtain ⟨m, hmm⟩ : ∃ m : Prop, ((⟨fr, d, S, L⟩ : Gme) = ⟨fr', d', S', L'⟩) = m := ⟨_, rfl⟩
  rw [hmm]
  have HM := Lib.hid (show m ↔ fr = fr' ∧ d = d' ∧ S = S' ∧ L = L' by rw [← hmm]; simp)
  clear hmm
  go_enter Try.func33, Try.ntmps33
  go_upto_region 1 with (first | (refine wb_box H rfl 28 _ rfl A rfl ?_; clear H; intro b2 w H) | (refine wb_box H rfl 28 _ rfl B rfl ?_; clear H; intro b3 w H))
  replace H : Sb [] w0 w [(b3, B, 28), (b2, A, 28)] [] := H
  have x0 : w.cell? ⟨b2, 0, none⟩ = some (.int .i64 fr) := (cell_of_row w b2 0 _ 28 (0, 0) (H.holds _ (List.mem_cons_of_mem _ (List.mem_cons_self ..)))).trans HF1.out
  have y0 : w.cell? ⟨b3, 0, none⟩ = some (.int .i64 fr') := (cell_of_row w b3 0 _ 28 (0, 0) (H.holds _ (List.mem_cons_self ..))).trans HF2.out
  by_cases e1 : fr = fr'
  rotate_left
  · have q : decide (fr = fr') = false := decide_eq_false e1
    go_wp2_with fail
    go_ret
    exact ⟨sameNo (fun h => e1 (HM.out.1 h).1) rfl, H.below⟩
  subst e1
  have x1 : w.cell? ⟨b2, 1, none⟩ = some (.int .u64 d) := (cell_of_row w b2 1 _ 28 (0, 0) (H.holds _ (List.mem_cons_of_mem _ (List.mem_cons_self ..)))).trans HD1.out
  have y1 : w.cell? ⟨b3, 1, none⟩ = some (.int .u64 d') := (cell_of_row w b3 1 _ 28 (0, 0) (H.holds _ (List.mem_cons_self ..))).trans HD2.out
  by_cases e2 : d = d'
  rotate_left
  · have q : decide (d = d') = false := decide_eq_false e2
    go_wp2_with fail
    go_ret
    exact ⟨sameNo (fun h => e2 (HM.out.1 h).2.1) rfl, H.below⟩
  subst e2
  have x2 : w.cell? ⟨b2, 58, none⟩ = some (.slice ad1 L.length c1) := (cell_of_row w b2 58 _ 28 (0, 0) (H.holds _ (List.mem_cons_of_mem _ (List.mem_cons_self ..)))).trans Hs1.out
  have y2 : w.cell? ⟨b3, 58, none⟩ = some (.slice ad2 L'.length c2) := (cell_of_row w b3 58 _ 28 (0, 0) (H.holds _ (List.mem_cons_self ..))).trans Hs2.out
  by_cases e3 : S = S'
  rotate_left
  · have he : ∀ W, (Op.equalIn 10000 25 (.agg (shipsL S).toArray) (.agg (shipsL S').toArray)).run Try.prog W = .ok false W := fun W => by
      obtain ⟨r, hr, hi⟩ := HE.out W
      cases r with
      | true => exact absurd (hi.1 rfl) e3
      | false => exact hr
    clear HE HE79
    generalize shipsL S = ss at *
    generalize shipsL S' = ss' at *
    go_wp2_with (first | (refine wb_partL 25 _ rfl H rfl 1 _ 2 rfl _ _ rfl _ Try.underlying25 rfl 56 info25 ss Hp1.out Hl1.out ?_) | (refine wb_partL 25 _ rfl H rfl 0 _ 2 rfl _ _ rfl _ Try.underlying25 rfl 56 info25 ss' Hp2.out Hl2.out ?_))
    go_ret
    exact ⟨sameNo (fun h => e3 (HM.out.1 h).2.2.1) rfl, H.below⟩
  subst e3
  have he : ∀ W, (Op.equalIn 10000 25 (.agg (shipsL S).toArray) (.agg (shipsL S).toArray)).run Try.prog W = .ok true W := fun W => by
    obtain ⟨r, hr, hi⟩ := HE.out W
    rw [hi.2 rfl] at hr
    exact hr
  clear HE
  generalize shipsL S = ss at *
  by_cases e4 : L.length = L'.length
  rotate_left
  · have q : decide ((L.length : Int) = (L'.length : Int)) = false := decide_eq_false (by omega)
    have q' : ¬ (L.length : Int) = (L'.length : Int) := by omega
    go_wp2_with (first | (refine wb_partL 25 _ rfl H rfl 1 _ 2 rfl _ _ rfl _ Try.underlying25 rfl 56 info25 ss Hp1.out Hl1.out ?_) | (refine wb_partL 25 _ rfl H rfl 0 _ 2 rfl _ _ rfl _ Try.underlying25 rfl 56 info25 ss Hp2.out Hl2.out ?_))
    go_ret
    exact ⟨sameNo (fun h => e4 (by rw [(HM.out.1 h).2.2.2])) rfl, H.below⟩
  rw [← e4] at y2 Hs2
  go_wp2_with (first | (refine wb_partL 25 _ rfl H rfl 1 _ 2 rfl _ _ rfl _ Try.underlying25 rfl 56 info25 ss Hp1.out Hl1.out ?_) | (refine wb_partL 25 _ rfl H rfl 0 _ 2 rfl _ _ rfl _ Try.underlying25 rfl 56 info25 ss Hp2.out Hl2.out ?_))
  have HB := Lib.hid H
  have E4 := Lib.hid e4
  clear H he x0 y0 x1 y1 x2 y2 e4
  go_loopw [5] (fun i W => ∃ k : Nat, k ≤ L.length ∧ i = .int .i64 k ∧ Hid (Sb [] w0 W [(b3, B, 28), (b2, A, 28)] []) ∧ Hid (L.take k = L'.take k)) (fun i _ => L.length - (intOf i).toNat)
  case atStart => exact ⟨0, Nat.zero_le _, rfl, HB, Lib.hid rfl⟩
  case round =>
    clear HB
    obtain ⟨k, hk, rfl, HB, HA⟩ := hrel
    have x2 : wr.cell? ⟨b2, 58, none⟩ = some (.slice ad1 L.length c1) := (cell_of_row wr b2 58 _ 28 (0, 0) (HB.out.holds _ (List.mem_cons_of_mem _ (List.mem_cons_self ..)))).trans Hs1.out
    by_cases hlt : k < L.length
    · obtain ⟨g1, o1, had1, hg1, hc1⟩ : ∃ gi oi, ad1 = some ⟨gi, oi, none⟩ ∧ gi < w0.heap.size ∧ ∀ j v, (cellsL L)[j]? = some v → w0.cell? ⟨gi, oi + j, none⟩ = some v := by
        rcases HI1.out with ⟨e, _⟩ | ⟨gi, oi, c', e, hgi, hc⟩
        · rw [e] at hlt; exact absurd hlt (Nat.not_lt_zero _)
        · injection e with e1 e2 e3
          exact ⟨gi, oi, e1, hgi, hc⟩
      obtain ⟨g2, o2, had2, hg2, hc2⟩ : ∃ gi oi, ad2 = some ⟨gi, oi, none⟩ ∧ gi < w0.heap.size ∧ ∀ j v, (cellsL L')[j]? = some v → w0.cell? ⟨gi, oi + j, none⟩ = some v := by
        rcases HI2.out with ⟨e, _⟩ | ⟨gi, oi, c', e, hgi, hc⟩
        · have := E4.out
          rw [e] at this
          simp at this
          rw [this] at hlt
          exact absurd hlt (by simp)
        · injection e with e1 e2 e3
          exact ⟨gi, oi, e1, hgi, hc⟩
      subst had1
      subst had2
      obtain ⟨s, hs⟩ : ∃ s, L[k]? = some s := ⟨L[k], List.getElem?_eq_getElem hlt⟩
      obtain ⟨s', hs'⟩ : ∃ s, L'[k]? = some s := ⟨L'[k]'(by rw [← E4.out]; exact hlt), List.getElem?_eq_getElem _⟩
      have y2 : wr.cell? ⟨b3, 58, none⟩ = some (.slice (some ⟨g2, o2, none⟩) L.length c2) := (cell_of_row wr b3 58 _ 28 (0, 0) (HB.out.holds _ (List.mem_cons_self ..))).trans Hs2.out
      obtain ⟨p0, p1, p2, p3, p4, p5⟩ := shot_at (fun j v h => (World.cell?_of_block (a := ⟨g1, o1 + j, none⟩) (HB.out.fr g1 hg1 (by simp))).trans (hc1 j v h)) k s hs
      obtain ⟨r0, r1, r2, r3, r4, r5⟩ := shot_at (fun j v h => (World.cell?_of_block (a := ⟨g2, o2 + j, none⟩) (HB.out.fr g2 hg2 (by simp))).trans (hc2 j v h)) k s' hs'
      have HEk := Lib.hid (fun W => HE79.out W s s' (List.mem_of_getElem? hs) (List.mem_of_getElem? hs'))
      have Hs := Lib.hid hs
      have Hs' := Lib.hid hs'
      clear hs hs' hc1 hc2 hg1 hg2
      by_cases es : s = s'
      · have HT : Hid (L.take (k + 1) = L'.take (k + 1)) := Lib.hid (by
          obtain ⟨hk1, e1⟩ := List.getElem?_eq_some_iff.1 Hs.out
          obtain ⟨hk2, e2⟩ := List.getElem?_eq_some_iff.1 Hs'.out
          rw [List.take_succ_eq_append_getElem hk1, List.take_succ_eq_append_getElem hk2, HA.out, e1, e2, es])
        subst es
        have hq : ∀ W, (Op.equalIn 10000 79 (.agg #[.int .i64 s.owner, .int .i32 s.x, .int .i32 s.y, .int .i32 s.vx, .int .i32 s.vy, .int .i64 s.left]) (.agg #[.int .i64 s.owner, .int .i32 s.x, .int .i32 s.y, .int .i32 s.vx, .int .i32 s.vy, .int .i64 s.left])).run Try.prog W = .ok true W := fun W => by
          obtain ⟨r, hr, hi⟩ := HEk.out W
          rw [hi.2 rfl] at hr
          exact hr
        clear HEk
        go_wp2_with fail
        go_quiet (fail)
        have HB2 := Lib.hid (HB.out.call (below_drewN (Below.refl _ _) nq))
        clear p0 p1 p2 p3 p4 p5 r0 r1 r2 r3 r4 r5 x2 y2 HB hq
        go_wp2_with fail
        exact ⟨⟨k + 1, hlt, rfl, HB2, HT⟩, by simp only [intOf]; omega⟩
      · have hq : ∀ W, (Op.equalIn 10000 79 (.agg #[.int .i64 s.owner, .int .i32 s.x, .int .i32 s.y, .int .i32 s.vx, .int .i32 s.vy, .int .i64 s.left]) (.agg #[.int .i64 s'.owner, .int .i32 s'.x, .int .i32 s'.y, .int .i32 s'.vx, .int .i32 s'.vy, .int .i64 s'.left])).run Try.prog W = .ok false W := fun W => by
          obtain ⟨r, hr, hi⟩ := HEk.out W
          cases r with
          | true => exact absurd (hi.1 rfl) es
          | false => exact hr
        have HNe : Hid (L ≠ L') := Lib.hid (fun h => by
          have := Hs.out
          rw [h] at this
          exact es (Option.some.inj (this.symm.trans Hs'.out)))
        clear HEk
        go_wp2_with fail
        go_quiet (fail)
        have HB2 := Lib.hid (HB.out.call (below_drewN (Below.refl _ _) nq))
        clear p0 p1 p2 p3 p4 p5 r0 r1 r2 r3 r4 r5 x2 y2 HB hq
        go_wp2_with fail
        go_ret
        exact ⟨sameNo (fun h => HNe.out (HM.out.1 h).2.2.2) rfl, HB2.out.below⟩
    · obtain rfl : k = L.length := by omega
      have hLL : L = L' := by
        have := HA.out
        rw [List.take_length, E4.out, List.take_length] at this
        exact this
      have hmt : m := HM.out.2 (by simp [hLL])
      have HMt := Lib.hid hmt
      clear hLL hmt
      go_wp2_with fail
      go_ret
      exact ⟨sameYes HMt.out rfl, HB.out.below⟩
end Go.Proofs.Ytijnfeigoggaeaa.game
