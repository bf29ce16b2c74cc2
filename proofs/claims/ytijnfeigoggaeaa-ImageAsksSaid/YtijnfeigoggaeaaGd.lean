/- image.Get: what it leaves at its door; the cells of a state that is built up. -/
import Derived.Test.YtijnfeigoggaeaaCt
namespace Go.Proofs.Ytijnfeigoggaeaa.game
open Go.ChangeShapes Go.WideShapes Go.ChangeAt Go.RowKit dice
set_option maxRecDepth 100000

def zSte : Ste := ⟨⟨0, 0, List.replicate 8 zShp, []⟩, 0, List.replicate 8 ⟨0, 0⟩⟩
theorem zSte_cells : stateC zSte (.slice none 0 0) = zC := rfl
def getF (b : List UInt8) : Option Ste :=
  match parse false b with
  | none => none
  | some (s, _) => if (mayS s && (img s == b)) = true then some s else none
def GetPost (b : List UInt8) (W0 : World) (e : Ending) (w' : World) : Prop :=
  Below W0.heap.size W0 w' ∧ match getF b with
  | none => e = .returned (.tuple #[.agg zC, .int .i64 2])
  | some s => ∃ sl, e = .returned (.tuple #[.agg (stateC s sl), .int .i64 0]) ∧ Own w' 0 sl s.g.L ∧ ∀ k, sl.ownBlock = some k → W0.heap.size ≤ k
theorem lv35 (W : World) (b : Nat) (cs : Array Value) (h : W.heap[b]? = some (.cells cs 35 (0, 0))) (hs : cs.size = 76) :
    (loadVar 35 ⟨b, 0, none⟩).run Try.prog W = .ok (.agg cs) W :=
  run_loadVar_row W b 35 35 cs (0, 0) _ h Try.underlying35 rfl (by rw [hs]; exact info35)
theorem lv3 (W : World) (b : Nat) (v : Value) (h : W.heap[b]? = some (.cells #[v] 3 (0, 0))) :
    (loadVar 3 ⟨b, 0, none⟩).run Try.prog W = .ok v W := by
  have hc : W.cell? ⟨b, 0, none⟩ = some v := cell_of_row W b 0 #[v] 3 (0, 0) h
  simp only [loadVar, Sem.run_bind, Try.isAgg3, Result.andThen_ok, Bool.false_eq_true, if_false, run_load, hc]
theorem res19 {tmps : Array Value} {w : World} {p q : Nat} {cs : Array Value} {u : Value} (h2 : tmps.getD 2 undef = .pointer (some ⟨p, 0, none⟩)) (h3 : tmps.getD 3 undef = .pointer (some ⟨q, 0, none⟩))
    (hp : w.heap[p]? = some (.cells cs 35 (0, 0))) (hcs : cs.size = 76) (hq : w.heap[q]? = some (.cells #[u] 3 (0, 0))) : (results Try.f19 tmps).run Try.prog w = .ok (.tuple #[.agg cs, u]) w := by
  rw [Array.getD_eq_getD_getElem?] at h2 h3
  simp only [results, Try.results19]
  simp [h2, h3, asAddr, lv35 w p cs hp hcs, lv3 w q u hq]
theorem door_bad {b : List UInt8} {W0 w : World} {l : List Blk} {R : List RowS} {p q : Nat} {cs : Array Value} {e0 : Value} {tmps : Array Value} (H : Sb [] W0 w l R) (hp : (p, cs, 35) ∈ l) (hq : (q, #[e0], 3) ∈ l) (hpq : p ≠ q) (hcs : cs.size = 76) (hb : getF b = none)
    (h2 : tmps.getD 2 undef = .pointer (some ⟨p, 0, none⟩)) (h3 : tmps.getD 3 undef = .pointer (some ⟨q, 0, none⟩)) :
    bodyPostD Try.prog Try.f19 (GetPost b W0) (Exit.panic wrongP) { tmps := tmps, defers := [{ target := Target.fn (Fn.func 53) #[.pointer (some ⟨p, 0, none⟩), .pointer (some ⟨q, 0, none⟩)], args := #[] }] } w := by
  refine leaves_cons (f := 53) (args := #[.pointer (some ⟨p, 0, none⟩), .pointer (some ⟨q, 0, none⟩)]) (by simp) (by simp [go_sem]) ?_
  have H0 : Sb [p, q] w w [(p, cs, 35), (q, #[e0], 3)] [] := ⟨rfl, rfl, rfl, Nat.le_refl _, fun _ _ _ => rfl, fun x hx => by
    simp at hx
    rcases hx with rfl | rfl
    · exact H.holds _ hp
    · exact H.holds _ hq, fun x hx => by simp at hx; rcases hx with rfl | rfl <;> exact .inr (by simp), by simp [hpq], fun _ h => by simp at h, fun _ h => by simp at h, fun _ h => by simp at h, by simp⟩
  refine (catch_panicking p q cs e0 w hcs H0).mono ?_
  rintro e u' w'' ⟨rfl, rfl, hS⟩
  have hB : Below W0.heap.size W0 w'' := ⟨hS.os.trans H.os, hS.tape.trans H.tape, hS.output.trans H.output, Nat.le_trans H.size hS.size, fun k hk => (hS.fr k (Nat.lt_of_lt_of_le hk H.size) (fun h => by
    have a1 := (H.ge _ hp).resolve_right (by simp)
    have a2 := (H.ge _ hq).resolve_right (by simp)
    simp at h
    dsimp only at a1 a2
    omega)).trans (H.fr k hk (by simp))⟩
  refine ⟨.tuple #[.agg zC, .int .i64 2], res19 h2 h3 (hS.holds _ (List.mem_cons_self ..)) zC_size (hS.holds _ (List.mem_cons_of_mem _ (List.mem_cons_self ..))), hB, ?_⟩
  rw [hb]
theorem door_ok {b : List UInt8} {W0 w : World} {l : List Blk} {s : Ste} {sl : Value} {p q : Nat} {tmps : Array Value} (H : Sb [] W0 w l [(sl, s.g.L)]) (hp : (p, stateC s sl, 35) ∈ l) (hq : (q, #[.int .i64 0], 3) ∈ l) (hcs : (stateC s sl).size = 76) (hb : getF b = some s)
    (h2 : tmps.getD 2 undef = .pointer (some ⟨p, 0, none⟩)) (h3 : tmps.getD 3 undef = .pointer (some ⟨q, 0, none⟩)) :
    bodyPostD Try.prog Try.f19 (GetPost b W0) Exit.ret { tmps := tmps, defers := [{ target := Target.fn (Fn.func 53) #[.pointer (some ⟨p, 0, none⟩), .pointer (some ⟨q, 0, none⟩)], args := #[] }] } w := by
  refine leaves_cons (f := 53) (args := #[.pointer (some ⟨p, 0, none⟩), .pointer (some ⟨q, 0, none⟩)]) (by simp) (by simp [go_sem]) ?_
  refine (catch_idle _ _ w).mono ?_
  rintro e u' w'' ⟨rfl, rfl, rfl⟩
  have H2 := H.new #[] 92
  refine ⟨.tuple #[.agg (stateC s sl), .int .i64 0], res19 h2 h3 (H2.holds _ (List.mem_cons_of_mem _ hp)) hcs (H2.holds _ (List.mem_cons_of_mem _ hq)), H2.below, ?_⟩
  rw [hb]
  exact ⟨sl, rfl, H2.rows _ (List.mem_cons_self ..), fun k hk => (H2.rge _ (List.mem_cons_self ..) k hk).resolve_right (by simp)⟩
theorem getF_none {b : List UInt8} (h : parse false b = none) : getF b = none := by
  unfold getF
  rw [h]
theorem splice_mid (A old new B : List Value) (o : Nat) (ho : o = A.length) (h : old.length = new.length) : splice (A ++ (old ++ B)).toArray o new = (A ++ (new ++ B)).toArray := by
  subst ho
  unfold splice
  simp only [List.take_left, ← h]
  rw [← List.append_assoc A old B, ← List.length_append, List.drop_left, List.append_assoc]
section
variable {fr d ver : Int} {S : List Shp} {L : List Sht} {T : List Seat} {sl : Value}
theorem sc_putFr (fr' : Int) : splice (stateC ⟨⟨fr, d, S, L⟩, ver, T⟩ sl) 0 [.int .i64 fr'] = stateC ⟨⟨fr', d, S, L⟩, ver, T⟩ sl := rfl
theorem sc_putD (d' : Int) : splice (stateC ⟨⟨fr, d, S, L⟩, ver, T⟩ sl) 1 [.int .u64 d'] = stateC ⟨⟨fr, d', S, L⟩, ver, T⟩ sl := rfl
theorem shipsL_append (A B : List Shp) : shipsL (A ++ B) = shipsL A ++ shipsL B := by simp [shipsL]
theorem shipsL_cons (t : Shp) (B : List Shp) : shipsL (t :: B) = shipL t ++ shipsL B := by simp [shipsL]
theorem seatsL_append (A B : List Seat) : seatsL (A ++ B) = seatsL A ++ seatsL B := by simp [seatsL]
theorem seatsL_cons (t : Seat) (B : List Seat) : seatsL (t :: B) = seatL t ++ seatsL B := by simp [seatsL]
theorem sc_putShip (D E : List Shp) (z t : Shp) (k : Nat) (hk : D.length = k) : splice (stateC ⟨⟨fr, d, D ++ z :: E, L⟩, ver, T⟩ sl) (2 + k * 7) (shipL t) = stateC ⟨⟨fr, d, D ++ t :: E, L⟩, ver, T⟩ sl := by
  have e : ∀ t : Shp, stateC ⟨⟨fr, d, D ++ t :: E, L⟩, ver, T⟩ sl = ((Value.int .i64 fr :: Value.int .u64 d :: shipsL D) ++ (shipL t ++ (shipsL E ++ (sl :: .int .i64 ver :: seatsL T)))).toArray := fun t => by
    simp [stateC, stateL, shipsL_append, shipsL_cons]
  rw [e z, e t]
  exact splice_mid _ _ _ _ _ (by simp [length_shipsL, hk]; omega) rfl
theorem sc_putShots (h8 : S.length = 8) (sl' : Value) : splice (stateC ⟨⟨fr, d, S, L⟩, ver, T⟩ sl) 58 [sl'] = stateC ⟨⟨fr, d, S, L⟩, ver, T⟩ sl' := by
  have e : ∀ sl : Value, stateC ⟨⟨fr, d, S, L⟩, ver, T⟩ sl = ((Value.int .i64 fr :: Value.int .u64 d :: shipsL S) ++ ([sl] ++ (.int .i64 ver :: seatsL T))).toArray := fun t => by
    simp [stateC, stateL]
  rw [e sl, e sl']
  exact splice_mid _ _ _ _ _ (by simp [length_shipsL, h8]) rfl
theorem sc_putVer (h8 : S.length = 8) (ver' : Int) : splice (stateC ⟨⟨fr, d, S, L⟩, ver, T⟩ sl) 59 [.int .i64 ver'] = stateC ⟨⟨fr, d, S, L⟩, ver', T⟩ sl := by
  have e : ∀ ver : Int, stateC ⟨⟨fr, d, S, L⟩, ver, T⟩ sl = ((Value.int .i64 fr :: Value.int .u64 d :: (shipsL S ++ [sl])) ++ ([Value.int .i64 ver] ++ seatsL T)).toArray := fun t => by
    simp [stateC, stateL]
  rw [e ver, e ver']
  exact splice_mid _ _ _ _ _ (by simp [length_shipsL, h8]) rfl
theorem sc_putSeat (h8 : S.length = 8) (D E : List Seat) (z t : Seat) (k : Nat) (hk : D.length = k) : splice (stateC ⟨⟨fr, d, S, L⟩, ver, D ++ z :: E⟩ sl) (60 + k * 2) (seatL t) = stateC ⟨⟨fr, d, S, L⟩, ver, D ++ t :: E⟩ sl := by
  have e : ∀ t : Seat, stateC ⟨⟨fr, d, S, L⟩, ver, D ++ t :: E⟩ sl = ((Value.int .i64 fr :: Value.int .u64 d :: (shipsL S ++ (sl :: .int .i64 ver :: seatsL D))) ++ (seatL t ++ seatsL E)).toArray := fun t => by
    simp [stateC, stateL, seatsL_append, seatsL_cons]
  rw [e z, e t]
  exact splice_mid _ _ _ _ _ (by simp [length_shipsL, length_seatsL, h8, hk]; omega) rfl
theorem sc_L (L' : List Sht) : stateC ⟨⟨fr, d, S, L⟩, ver, T⟩ sl = stateC ⟨⟨fr, d, S, L'⟩, ver, T⟩ sl := rfl
theorem rep_cons {α : Type} (k : Nat) (hk : k < 8) (z : α) : List.replicate (8 - k) z = z :: List.replicate (8 - (k + 1)) z := by
  rw [show 8 - k = 8 - (k + 1) + 1 by omega, List.replicate_succ]
end
theorem rdMany_step {α β : Type} {one : List UInt8 → Option (α × List UInt8)} {k : List α → List UInt8 → Option β} {n : Nat} {done : List α} {b b' : List UInt8} {t : α} (h : one b = some (t, b')) : rdMany one k (n + 1) done b = rdMany one k n (done ++ [t]) b' := by
  rw [rdMany, h]
theorem rdMany_none {α β : Type} {one : List UInt8 → Option (α × List UInt8)} {k : List α → List UInt8 → Option β} {n : Nat} {done : List α} {b : List UInt8} (h : one b = none) : rdMany one k (n + 1) done b = none := by
  rw [rdMany, h]
end Go.Proofs.Ytijnfeigoggaeaa.game
