/- The document's answer: are two states the same? -/
import Derived.Test.YtdopfonebpklkaaRe
import Derived.Test.YtdopfonebpklkaaSi
import Derived.Test.YtdopfonebpklkaaOs
namespace Go.Proofs.Ytdopfonebpklkaa.game
open Go.ChangeShapes Go.WideShapes Go.ChangeAt Go.RowKit dice
set_option maxRecDepth 100000

def litsAllm (S : List Shp) : List Lit := S.flatMap litsSm
theorem kl25w (d : Nat) (S : List Shp) (h8 : S.length = 8) (h : ∀ t ∈ S, t.wf) : Try.prog.keyLits (d + 3) 30 (shipsL S) = some (litsAllm S) := by
  match S, h8 with
  | [t0, t1, t2, t3, t4, t5, t6, t7], _ =>
    have k0 := kl24w d t0 (h t0 (by simp))
    have k1 := kl24w d t1 (h t1 (by simp))
    have k2 := kl24w d t2 (h t2 (by simp))
    have k3 := kl24w d t3 (h t3 (by simp))
    have k4 := kl24w d t4 (h t4 (by simp))
    have k5 := kl24w d t5 (h t5 (by simp))
    have k6 := kl24w d t6 (h t6 (by simp))
    have k7 := kl24w d t7 (h t7 (by simp))
    show Try.prog.keyLits ((d + 2) + 1) 30 (shipsL _) = some (litsAllm _)
    unfold Program.keyLits
    rw [Try.underlying30]
    have hr : List.range 8 = [0, 1, 2, 3, 4, 5, 6, 7] := rfl
    have e0 : ((shipsL [t0, t1, t2, t3, t4, t5, t6, t7]).drop (0 * 7)).take 7 = shipL t0 := rfl
    have e1 : ((shipsL [t0, t1, t2, t3, t4, t5, t6, t7]).drop (1 * 7)).take 7 = shipL t1 := rfl
    have e2 : ((shipsL [t0, t1, t2, t3, t4, t5, t6, t7]).drop (2 * 7)).take 7 = shipL t2 := rfl
    have e3 : ((shipsL [t0, t1, t2, t3, t4, t5, t6, t7]).drop (3 * 7)).take 7 = shipL t3 := rfl
    have e4 : ((shipsL [t0, t1, t2, t3, t4, t5, t6, t7]).drop (4 * 7)).take 7 = shipL t4 := rfl
    have e5 : ((shipsL [t0, t1, t2, t3, t4, t5, t6, t7]).drop (5 * 7)).take 7 = shipL t5 := rfl
    have e6 : ((shipsL [t0, t1, t2, t3, t4, t5, t6, t7]).drop (6 * 7)).take 7 = shipL t6 := rfl
    have e7 : ((shipsL [t0, t1, t2, t3, t4, t5, t6, t7]).drop (7 * 7)).take 7 = shipL t7 := rfl
    simp only [co25, co24, length_shipsL, hr, List.mapM_cons, List.mapM_nil, e0, e1, e2, e3, e4, e5, e6, e7, k0, k1, k2, k3, k4, k5, k6, k7, List.length_cons, List.length_nil]
    rfl
theorem flat_inj {α β : Type} (f : α → List β) (m : Nat) (hf : ∀ a, (f a).length = m) (hi : ∀ a b, f a = f b → a = b) : ∀ (l l' : List α), l.length = l'.length → l.flatMap f = l'.flatMap f → l = l'
  | [], [], _, _ => rfl
  | [], _ :: _, h, _ => by simp at h
  | _ :: _, [], h, _ => by simp at h
  | a :: l, b :: l', h, e => by
    rw [List.flatMap_cons, List.flatMap_cons] at e
    obtain ⟨e1, e2⟩ := List.append_inj e (by rw [hf, hf])
    rw [hi a b e1, flat_inj f m hf hi l l' (by simpa using h) e2]
theorem formed25w (S : List Shp) (h8 : S.length = 8) : (Value.agg (shipsL S).toArray).formed Try.prog 30 = true := by
  unfold Value.formed
  rw [Try.underlying30]
  simp [co25, length_shipsL, h8]
theorem eq25w (W : World) (S S' : List Shp) (h8 : S.length = 8) (h8' : S'.length = 8) (h : ∀ t ∈ S, t.wf) (h' : ∀ t ∈ S', t.wf) : ∃ r, (Op.equalIn 10000 30 (.agg (shipsL S).toArray) (.agg (shipsL S').toArray)).run Try.prog W = .ok r W ∧ (r = true ↔ S = S') := by
  obtain ⟨r, h1, hr⟩ := run_equalIn_deep (P := Try.prog) 9990 10 30 (by kernel_rfl) W 10 10 (.agg (shipsL S).toArray) (.agg (shipsL S').toArray) (litsAllm S) (litsAllm S') (formed25w S h8) (formed25w S' h8') (kl25w 7 S h8 h) (kl25w 7 S' h8' h')
  refine ⟨r, h1, hr.trans ⟨fun e => flat_inj litsSm 7 (fun _ => rfl) (fun a b => litsS_inj) S S' (by rw [h8, h8']) e, fun e => by rw [e]⟩⟩
def litsH (s : Sht) : List Lit := [.int .i64 s.owner, .int .i32 s.x, .int .i32 s.y, .int .i32 s.vx, .int .i32 s.vy, .int .i64 s.left]
theorem litsH_inj {a b : Sht} (h : litsH a = litsH b) : a = b := by
  cases a; cases b
  simp [litsH] at h
  simp_all
theorem kl79w (d : Nat) (t : Sht) (h : t.wf) : Try.prog.keyLits (d + 2) 75 (shotL t) = some (litsH t) := by
  have k1 := kl21m d t.x h.x
  have k2 := kl21m d t.y h.y
  have k3 := kl21m d t.vx h.vx
  have k4 := kl21m d t.vy h.vy
  have k5 := kl3m d t.owner h.owner
  have k6 := kl3m d t.left h.left
  show Try.prog.keyLits ((d + 1) + 1) 75 (shotL t) = some (litsH t)
  unfold Program.keyLits
  rw [Try.underlying75]
  simp only [co79, shotL, List.length_cons, List.length_nil, co21, co3, List.mapM_cons, List.mapM_nil, List.drop_succ_cons, List.drop_zero, List.take_succ_cons, List.take_zero, k1, k2, k3, k4, k5, k6]
  rw [if_pos ⟨trivial, by decide +kernel⟩]
  rfl
theorem formed79w (t : Sht) : (Value.agg (shotL t).toArray).formed Try.prog 75 = true := by
  unfold Value.formed
  rw [Try.underlying75]
  simp [co79, shotL]
theorem eq79w (W : World) (s s' : Sht) (h : s.wf) (h' : s'.wf) : ∃ r, (Op.equalIn 10000 75 (.agg (shotL s).toArray) (.agg (shotL s').toArray)).run Try.prog W = .ok r W ∧ (r = true ↔ s = s') := by
  obtain ⟨r, h1, hr⟩ := run_equalIn_deep (P := Try.prog) 9990 10 75 (by kernel_rfl) W 10 10 (.agg (shotL s).toArray) (.agg (shotL s').toArray) (litsH s) (litsH s') (formed79w s) (formed79w s') (kl79w 8 s h) (kl79w 8 s' h')
  exact ⟨r, h1, hr.trans ⟨litsH_inj, fun e => by rw [e]⟩⟩
def litsQ (q : Seat) : List Lit := [.int .i64 q.peer, .int .i64 q.gen]
theorem kl30w (d : Nat) (q : Seat) (h : (Lit.int .i64 q.peer).wf = true ∧ (Lit.int .i64 q.gen).wf = true) : Try.prog.keyLits (d + 2) 35 (seatL q) = some (litsQ q) := by
  have k5 := kl3m d q.peer h.1
  have k6 := kl3m d q.gen h.2
  show Try.prog.keyLits ((d + 1) + 1) 35 (seatL q) = some (litsQ q)
  unfold Program.keyLits
  rw [Try.underlying35]
  simp only [co30, seatL, List.length_cons, List.length_nil, co3, List.mapM_cons, List.mapM_nil, List.drop_succ_cons, List.drop_zero, List.take_succ_cons, List.take_zero, k5, k6]
  rw [if_pos ⟨trivial, by decide +kernel⟩]
  rfl
def litsT (T : List Seat) : List Lit := T.flatMap litsQ
theorem kl31w (d : Nat) (T : List Seat) (h8 : T.length = 8) (h : ∀ q ∈ T, (Lit.int .i64 q.peer).wf = true ∧ (Lit.int .i64 q.gen).wf = true) : Try.prog.keyLits (d + 3) 36 (seatsL T) = some (litsT T) := by
  match T, h8 with
  | [t0, t1, t2, t3, t4, t5, t6, t7], _ =>
    have k0 := kl30w d t0 (h t0 (by simp))
    have k1 := kl30w d t1 (h t1 (by simp))
    have k2 := kl30w d t2 (h t2 (by simp))
    have k3 := kl30w d t3 (h t3 (by simp))
    have k4 := kl30w d t4 (h t4 (by simp))
    have k5 := kl30w d t5 (h t5 (by simp))
    have k6 := kl30w d t6 (h t6 (by simp))
    have k7 := kl30w d t7 (h t7 (by simp))
    show Try.prog.keyLits ((d + 2) + 1) 36 (seatsL _) = some (litsT _)
    unfold Program.keyLits
    rw [Try.underlying36]
    have hr : List.range 8 = [0, 1, 2, 3, 4, 5, 6, 7] := rfl
    have e0 : ((seatsL [t0, t1, t2, t3, t4, t5, t6, t7]).drop (0 * 2)).take 2 = seatL t0 := rfl
    have e1 : ((seatsL [t0, t1, t2, t3, t4, t5, t6, t7]).drop (1 * 2)).take 2 = seatL t1 := rfl
    have e2 : ((seatsL [t0, t1, t2, t3, t4, t5, t6, t7]).drop (2 * 2)).take 2 = seatL t2 := rfl
    have e3 : ((seatsL [t0, t1, t2, t3, t4, t5, t6, t7]).drop (3 * 2)).take 2 = seatL t3 := rfl
    have e4 : ((seatsL [t0, t1, t2, t3, t4, t5, t6, t7]).drop (4 * 2)).take 2 = seatL t4 := rfl
    have e5 : ((seatsL [t0, t1, t2, t3, t4, t5, t6, t7]).drop (5 * 2)).take 2 = seatL t5 := rfl
    have e6 : ((seatsL [t0, t1, t2, t3, t4, t5, t6, t7]).drop (6 * 2)).take 2 = seatL t6 := rfl
    have e7 : ((seatsL [t0, t1, t2, t3, t4, t5, t6, t7]).drop (7 * 2)).take 2 = seatL t7 := rfl
    simp only [co31, co30, length_seatsL, hr, List.mapM_cons, List.mapM_nil, e0, e1, e2, e3, e4, e5, e6, e7, k0, k1, k2, k3, k4, k5, k6, k7, List.length_cons, List.length_nil]
    rfl
theorem kl33w (d : Nat) (ver : Int) (T : List Seat) (h8 : T.length = 8) (hv : (Lit.int .i64 ver).wf = true) (h : ∀ q ∈ T, (Lit.int .i64 q.peer).wf = true ∧ (Lit.int .i64 q.gen).wf = true) : Try.prog.keyLits (d + 4) 38 (.int .i64 ver :: seatsL T) = some (.int .i64 ver :: litsT T) := by
  have k0 := kl3m (d + 2) ver hv
  have k1 := kl31w d T h8 h
  have hl : (seatsL T).length = 16 := by rw [length_seatsL, h8]
  have ht : (seatsL T).take 16 = seatsL T := List.take_of_length_le (by omega)
  show Try.prog.keyLits ((d + 3) + 1) 38 (.int .i64 ver :: seatsL T) = _
  unfold Program.keyLits
  rw [Try.underlying38]
  simp only [co33, List.length_cons, hl, co31, co3, List.mapM_cons, List.mapM_nil, List.drop_succ_cons, List.drop_zero, List.take_succ_cons, List.take_zero, ht, k0, k1]
  rw [if_pos ⟨trivial, by decide +kernel⟩]
  simp
theorem formed33w (ver : Int) (T : List Seat) (h8 : T.length = 8) : (Value.agg (rosterC ver T)).formed Try.prog 38 = true := by
  unfold Value.formed
  rw [Try.underlying38]
  simp [co33, rosterC, length_seatsL, h8]
theorem eq33w (W : World) (ver ver' : Int) (T T' : List Seat) (h8 : T.length = 8) (h8' : T'.length = 8) (hv : (Lit.int .i64 ver).wf = true) (hv' : (Lit.int .i64 ver').wf = true) (h : ∀ q ∈ T, (Lit.int .i64 q.peer).wf = true ∧ (Lit.int .i64 q.gen).wf = true) (h' : ∀ q ∈ T', (Lit.int .i64 q.peer).wf = true ∧ (Lit.int .i64 q.gen).wf = true) :
    ∃ r, (Op.equalIn 10000 38 (.agg (rosterC ver T)) (.agg (rosterC ver' T'))).run Try.prog W = .ok r W ∧ (r = true ↔ ver = ver' ∧ T = T') := by
  obtain ⟨r, h1, hr⟩ := run_equalIn_deep (P := Try.prog) 9990 10 38 (by kernel_rfl) W 10 10 (.agg (rosterC ver T)) (.agg (rosterC ver' T')) _ _ (formed33w ver T h8) (formed33w ver' T' h8') (kl33w 6 ver T h8 hv h) (kl33w 6 ver' T' h8' hv' h')
  refine ⟨r, h1, hr.trans ⟨fun e => ?_, fun e => by rw [e.1, e.2]⟩⟩
  simp only [List.cons.injEq, Lit.int.injEq, true_and] at e
  refine ⟨e.1, flat_inj litsQ 2 (fun _ => rfl) (fun a b hab => ?_) T T' (by rw [h8, h8']) e.2⟩
  cases a; cases b
  simp [litsQ] at hab
  simp_all
section
variable {ops : Array Oper} {rest : List Oper} {op : Oper} {a : Act} {Q : Exit → Act → World → Prop} {w0 w : World} {Hs : List Nat} {l : List Blk} {R : List RowS}
/-- wb_part, the operation's kind asked first. -/
theorem wb_partL (ty : TypeId) (x : Operand) (ho : op.op = .load ty x) (H : Sb Hs w0 w l R) (hw : Region.wanted op (yielded ops a.tmps) = true) (i : Nat) (g o : Nat) (hx : a.eval x = .pointer (some ⟨g, o, none⟩)) (c : Array Value) (t : TypeId) (hl : l[i]? = some (g, c, t))
    (d : TypeDesc) (hu : Try.prog.underlying ty = some d) (hd : d.isRow = true) (n : Nat) (hi : (Try.prog.info? ty).map (·.size) = some n) (vs : List Value) (hvs : ∀ j v, vs[j]? = some v → c[o + j]? = some v) (hn : vs.length = n)
    (h : wpList Try.prog ops Q rest (a.put op.dst (.agg vs.toArray)) w) : wpList Try.prog ops Q (op :: rest) a w :=
  wb_part H hw i ty x ho g o hx c t hl d hu hd n hi vs hvs hn h
end
theorem gc_shipsw {fr d : Int} {S : List Shp} {sl : Value} : ∀ j v, (shipsL S)[j]? = some v → (gameC fr d S sl)[2 + j]? = some v := fun j v h => by
  unfold gameC
  have hl := (List.getElem?_eq_some_iff.1 h).1
  rw [List.getElem?_toArray, show 2 + j = j + 1 + 1 by omega, List.getElem?_cons_succ, List.getElem?_cons_succ, List.getElem?_append_left hl]
  exact h
def SameOut (m : Prop) (e : Ending) : Prop := ∃ r : Bool, e = .returned (.bool r) ∧ (r = true ↔ m)
theorem sameNo {m : Prop} {e : Ending} (h : ¬ m) (he : e = .returned (.bool false)) : SameOut m e := ⟨false, he, by simp [h]⟩
theorem sameYes {m : Prop} {e : Ending} (h : m) (he : e = .returned (.bool true)) : SameOut m e := ⟨true, he, by simp [h]⟩
end Go.Proofs.Ytdopfonebpklkaa.game
