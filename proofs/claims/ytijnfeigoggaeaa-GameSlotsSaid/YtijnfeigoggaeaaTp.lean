/- Slots in numbers: inputs of empty slots are nothing; without buttons nobody shoots. -/
import Derived.Test.YtijnfeigoggaeaaRq
import Derived.Test.YtijnfeigoggaeaaAw
import Derived.Test.YtijnfeigoggaeaaRz
namespace Go.Proofs.Ytijnfeigoggaeaa.game
open Go.ChangeShapes Go.WideShapes Go.ChangeAt Go.RowKit dice
set_option maxRecDepth 100000

theorem hdI_tail (I : List Inp) (j : Nat) : hdI (I.tail.drop j) = hdI (I.drop (j + 1)) := by
  cases I with
  | nil => simp
  | cons i I => rfl
theorem sailL_congr : ∀ (S : List Shp) (k : Nat) (I J : List Inp) (out : List Sht), (∀ j t, S[j]? = some t → t.on = true → hdI (I.drop j) = hdI (J.drop j)) → sailL k S I out = sailL k S J out
  | [], _, _, _, _, _ => rfl
  | t :: S, k, I, J, out, h => by
    have h0 : t.on = true → hdI I = hdI J := fun hon => by have := h 0 t rfl hon; simpa using this
    have ht : ∀ j u, S[j]? = some u → u.on = true → hdI (I.tail.drop j) = hdI (J.tail.drop j) := fun j u hu hon => by
      rw [hdI_tail, hdI_tail]; exact h (j + 1) u hu hon
    have e : (if t.on = true then sailF k t (hdI I) out else (⟨t, out⟩ : SailR)) = if t.on = true then sailF k t (hdI J) out else ⟨t, out⟩ := by
      by_cases hon : t.on = true
      · rw [if_pos hon, if_pos hon, h0 hon]
      · rw [if_neg hon, if_neg hon]
    rw [sailL_cons, sailL_cons, e, sailL_congr S (k + 1) I.tail J.tail _ ht]
theorem stepG_congr (g : Gme) (I J : List Inp) (h : ∀ j t, g.S[j]? = some t → t.on = true → hdI (I.drop j) = hdI (J.drop j)) : stepG g I = stepG g J := by
  unfold stepG
  rw [sailL_congr g.S 0 I J g.L h]
/-- A ship that is on has moved as it was pushed. -/
def Pushed (t t' : Shp) (i : Inp) : Prop := t'.vx = pushI t.vx (tameI i.x) ∧ t'.x = mv t.x t'.vx ∧ t'.y = mv t.y t'.vy
theorem sailF_quiet (k : Nat) (t : Shp) (i : Inp) (out : List Sht) (hb : i.b = 0) : (sailF k t i out).out = out ∧ Pushed t (sailF k t i out).t i := by
  unfold sailF
  split
  · exact ⟨rfl, rfl, rfl, rfl⟩
  · rw [if_neg (by unfold shoots; rw [hb]; simp)]
    exact ⟨rfl, rfl, rfl, rfl⟩
theorem sailL_quiet : ∀ (S : List Shp) (k : Nat) (I : List Inp) (out : List Sht), (∀ i ∈ I, i.b = 0) → (sailL k S I out).out = out ∧ ∀ j t, S[j]? = some t → ∃ t', (sailL k S I out).ships[j]? = some t' ∧ (t.on = true → Pushed t t' (hdI (I.drop j)))
  | [], _, _, _, _ => ⟨rfl, fun j t h => by simp at h⟩
  | t :: S, k, I, out, h => by
    have h0 : (hdI I).b = 0 := by
      cases I with
      | nil => rfl
      | cons i I => exact h i (List.mem_cons_self ..)
    have ht : ∀ i ∈ I.tail, i.b = 0 := fun i hi => h i (List.mem_of_mem_tail hi)
    rw [sailL_cons]
    by_cases hon : t.on = true
    · obtain ⟨q1, q2⟩ := sailF_quiet k t (hdI I) out h0
      rw [if_pos hon, q1]
      obtain ⟨r1, r2⟩ := sailL_quiet S (k + 1) I.tail out ht
      refine ⟨r1, fun j u hu => ?_⟩
      cases j with
      | zero =>
        simp only [List.getElem?_cons_zero, Option.some.injEq] at hu
        subst hu
        exact ⟨_, rfl, fun _ => by rw [List.drop_zero]; exact q2⟩
      | succ j =>
        obtain ⟨t', h1, h2⟩ := r2 j u hu
        exact ⟨t', h1, fun ho => by rw [← hdI_tail]; exact h2 ho⟩
    · rw [if_neg hon]
      obtain ⟨r1, r2⟩ := sailL_quiet S (k + 1) I.tail out ht
      refine ⟨r1, fun j u hu => ?_⟩
      cases j with
      | zero =>
        simp only [List.getElem?_cons_zero, Option.some.injEq] at hu
        subst hu
        exact ⟨_, rfl, fun ho => absurd ho hon⟩
      | succ j =>
        obtain ⟨t', h1, h2⟩ := r2 j u hu
        exact ⟨t', h1, fun ho => by rw [← hdI_tail]; exact h2 ho⟩
theorem stepG_quiet (g : Gme) (I : List Inp) (hL : g.L = []) (hb : ∀ i ∈ I, i.b = 0) : (stepG g I).L = [] ∧ ∀ j t, g.S[j]? = some t → ∃ t', (stepG g I).S[j]? = some t' ∧ (t.on = true → Pushed t t' (hdI (I.drop j))) := by
  obtain ⟨q1, q2⟩ := sailL_quiet g.S 0 I g.L hb
  unfold stepG
  dsimp only
  rw [q1, hL] at *
  exact ⟨rfl, q2⟩
theorem equalShots_zero (ad1 ad2 : Option Addr) (c1 c2 : Nat) (w : World) : Calls Try.prog 78 #[.slice ad1 0 c1, .slice ad2 0 c2] w fun e w' => e = .returned (.bool true) ∧ w = w' := by
  go_enter Try.func78, Try.ntmps78
  go_wp2_with fail
  go_loop [13] (fun i => i = .int .i64 0) (fun _ => 0)
  case atStart => rfl
  case round =>
    subst hrel
    go_wp2_with fail
    go_ret
    exact ⟨rfl, rfl⟩
set_option maxHeartbeats 8000000 in
theorem same_zero (g : Gme) (ad1 ad2 : Option Addr) (c1 c2 : Nat) (w0' : World) (hg : g.ok) :
    Calls Try.prog 36 #[.agg (gameC g.fr g.d g.S (.slice ad1 0 c1)), .agg (gameC g.fr g.d g.S (.slice ad2 0 c2))] w0' fun e w' => e = .returned (.bool true) ∧ Below w0'.heap.size w0' w' := by
  have HS := Lib.hid hg.s8
  have HE := Lib.hid (fun W => eq25S W g.S hg.s8 hg.ships)
  have H := Sb.start w0'
  clear hg
  obtain ⟨fr, d, S, L⟩ := g
  dsimp only at *
  have Hs1 := Lib.hid (gc_shots (fr := fr) (d := d) (S := S) (sl := .slice ad1 0 c1) HS.out)
  have Hs2 := Lib.hid (gc_shots (fr := fr) (d := d) (S := S) (sl := .slice ad2 0 c2) HS.out)
  have Hl := Lib.hid (show (shipsL S).length = 56 by rw [length_shipsL, HS.out])
  have Hp1 := Lib.hid (fun j v h => gc_ships (fr := fr) (d := d) (S := S) (sl := .slice ad1 0 c1) j v h)
  have Hp2 := Lib.hid (fun j v h => gc_ships (fr := fr) (d := d) (S := S) (sl := .slice ad2 0 c2) j v h)
  obtain ⟨ss, hss⟩ : ∃ ss, shipsL S = ss := ⟨_, rfl⟩
  rw [hss] at Hl Hp1 Hp2 HE
  clear hss
  have he := HE.out
  go_enter Try.func36, Try.ntmps36
  go_wp2_with (first | (refine wb_box H rfl 28 _ rfl (gameC fr d S (.slice ad1 0 c1)) rfl ?_; clear H; intro b2 w H) | (refine wb_box H rfl 28 _ rfl (gameC fr d S (.slice ad2 0 c2)) rfl ?_; clear H; intro b3 w H) | (refine wb_cell H rfl 1 3 _ rfl _ 0 rfl _ _ rfl Try.isAgg3 (.int .i64 fr) rfl ?_) | (refine wb_cell H rfl 0 3 _ rfl _ 0 rfl _ _ rfl Try.isAgg3 (.int .i64 fr) rfl ?_) | (refine wb_cell H rfl 1 22 _ rfl _ 1 rfl _ _ rfl Try.isAgg22 (.int .u64 d) rfl ?_) | (refine wb_cell H rfl 0 22 _ rfl _ 1 rfl _ _ rfl Try.isAgg22 (.int .u64 d) rfl ?_) | (refine wb_part H rfl 1 25 _ rfl _ 2 rfl _ _ rfl _ Try.underlying25 rfl 56 info25 ss Hp1.out Hl.out ?_) | (refine wb_part H rfl 0 25 _ rfl _ 2 rfl _ _ rfl _ Try.underlying25 rfl 56 info25 ss Hp2.out Hl.out ?_) | (refine wb_cell H rfl 1 26 _ rfl _ 58 rfl _ _ rfl Try.isAgg26 (.slice ad1 0 c1) Hs1.out ?_) | (refine wb_cell H rfl 0 26 _ rfl _ 58 rfl _ _ rfl Try.isAgg26 (.slice ad2 0 c2) Hs2.out ?_))
  refine (equalShots_zero _ _ _ _ _).mono ?_; rintro e w' ⟨rfl, rfl⟩
  clear he
  go_wp2_with fail
  go_ret
  exact ⟨rfl, H.below⟩
theorem ltame_any (a : Int) (w : World) (h0 : -128 ≤ a) (h1 : a ≤ 127) : Calls Try.prog 39 #[.int .i8 a] w fun e w' => e = .returned (.int .i8 (tameI a)) ∧ w = w' := by
  by_cases h : a = -128
  · subst h
    go_enter Try.func39, Try.ntmps39
    go_wp2
    go_ret
    exact ⟨rfl, rfl⟩
  · have e : Hid (tameI a = a) := Lib.hid (by unfold tameI; omega)
    have hq : (a == -128) = false := beq_eq_false_iff_ne.2 h
    clear h
    go_enter Try.func39, Try.ntmps39
    go_wp2
    go_ret
    exact ⟨by rw [e.out]; rfl, rfl⟩
theorem Sb.swap2 {Hs : List Nat} {W0 w : World} {x y : Blk} {l : List Blk} {R : List RowS} (h : Sb Hs W0 w (x :: y :: l) R) : Sb Hs W0 w (y :: x :: l) R := by
  have sub : ∀ p ∈ y :: x :: l, p ∈ x :: y :: l := fun p hp => by
    simp only [List.mem_cons] at hp ⊢
    rcases hp with h | h | h
    · exact .inr (.inl h)
    · exact .inl h
    · exact .inr (.inr h)
  refine ⟨h.os, h.tape, h.output, h.size, h.fr, fun p hp => h.holds p (sub p hp), fun p hp => h.ge p (sub p hp), ?_, h.rows, h.rge, fun r hr p hp => h.apart r hr p (sub p hp), h.rnd⟩
  have := h.nd
  simp only [List.map_cons, List.nodup_cons, List.mem_cons, not_or] at this ⊢
  exact ⟨⟨fun e => this.1.1 e.symm, this.2.1⟩, this.1.2, this.2.2⟩
section
variable {P : Program} {ops : Array Oper} {Q : Exit → Act → World → Prop}
variable {T : Facts} {fuel : Nat} {listed : Array Bool} {a : Act} {w : World}
/-- Two fresh variables are ready, nothing else: both orders. -/
theorem Gs_fresh2 (k m : Nat) {o om : Oper} (hi : ops[k]? = some o) (hg : o.guard = none) (dst : Option Tmp) (hd : o.dst = dst) (him : ops[m]? = some om) (hgm : om.guard = none) (dm : Option Tmp) (hdm : om.dst = dm) (hr : Region.ready .any ops listed = [k, m])
    (v : Value) (ob : Obj) (hrun : (execOp a.eval o).run P w = .ok (.value v) (w.alloc ob)) (vm : Value) (obm : Obj) (hrunm : (execOp a.eval om).run P w = .ok (.value vm) (w.alloc obm))
    (h1 : Gs P ops Q T fuel (listed.setIfInBounds k true) (a.put dst v) (w.alloc ob))
    (h2 : Gs P ops Q T fuel (listed.setIfInBounds m true) (a.put dm vm) (w.alloc obm)) : Gs P ops Q T (fuel + 1) listed a w := by
  intro inv hh
  have hk : k ∈ Region.ready .any ops listed := by rw [hr]; simp
  have hm : m ∈ Region.ready .any ops listed := by rw [hr]; simp
  refine ⟨fun h0 => (by rw [h0] at hk; cases hk), fun i hik => ?_⟩
  have hsz : ∀ i o, ops[i]? = some o → i < listed.size := fun i o h => by rw [inv.size]; exact (Array.getElem?_eq_some_iff.1 h).1
  rw [hr] at hik
  have hik' : i = k ∨ i = m := by simpa using hik
  rcases hik' with rfl | rfl
  · have hh' : Held T (listed.setIfInBounds i true) (w.alloc ob) := fun t ht hl => cell_alloc_some ob (hh.later (hsz i o hi) t ht hl)
    unfold wpOp
    simp only [hi]
    rw [if_pos (by simp [Region.wanted, hg])]
    refine .inl ?_
    unfold Oper.wp
    rw [hrun]
    subst hd
    exact ⟨hh', h1 (inv.set hk) hh'⟩
  · have hh' : Held T (listed.setIfInBounds i true) (w.alloc obm) := fun t ht hl => cell_alloc_some obm (hh.later (hsz i om him) t ht hl)
    unfold wpOp
    simp only [him]
    rw [if_pos (by simp [Region.wanted, hgm])]
    refine .inl ?_
    unfold Oper.wp
    rw [hrunm]
    subst hdm
    exact ⟨hh', h2 (inv.set hm) hh'⟩
end
end Go.Proofs.Ytijnfeigoggaeaa.game
