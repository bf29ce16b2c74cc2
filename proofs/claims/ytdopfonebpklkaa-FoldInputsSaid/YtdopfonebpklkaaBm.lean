/- Which ships and shots may be, as a truth: game.on, game.size, game.mayShip, game.mayShot, game.May over any numbers. -/
import Derived.Test.YtdopfonebpklkaaIp
namespace Go.Proofs.Ytdopfonebpklkaa.game
open Go.ChangeShapes Go.WideShapes Go.ChangeAt Go.RowKit dice
set_option maxRecDepth 100000

def onB (a : Int) : Bool := decide (0 ≤ a) && decide (a < 16777216)
def sizeB (a m : Int) : Bool := decide (-m ≤ a) && decide (a ≤ m)
theorem on_b (a : Int) (w : World) : Calls Try.prog 64 #[.int .i32 a] w fun e w' => e = .returned (.bool (onB a)) ∧ w = w' := by
  by_cases h : 0 ≤ a
  · by_cases h' : a < 16777216
    · rw [show onB a = true by simp [onB, h, h']]; exact on_in a w h h'
    · rw [show onB a = false by simp [onB, h']]
      have h' : 16777216 ≤ a := by omega
      go_enter Try.func64, Try.ntmps64
      go_wp2
      go_ret
      exact ⟨rfl, rfl⟩
  · rw [show onB a = false by simp [onB, h]]
    have h : a < 0 := by omega
    go_enter Try.func64, Try.ntmps64
    go_wp2
    go_ret
    exact ⟨rfl, rfl⟩
/-- game.size, its bound one of the two that occur. -/
theorem size_b (a m : Int) (w : World) (hm : m = 524288 ∨ m = 393216) :
    Calls Try.prog 65 #[.int .i32 a, .int .i32 m] w fun e w' => e = .returned (.bool (sizeB a m)) ∧ w = w' := by
  by_cases h : -m ≤ a
  · by_cases h' : a ≤ m
    · rw [show sizeB a m = true by simp [sizeB, h, h']]
      rcases hm with rfl | rfl
      · exact size_in a w h h'
      · exact size_fast a w h h'
    · rw [show sizeB a m = false by simp [sizeB, h']]
      have h' : m < a := by omega
      rcases hm with rfl | rfl <;>
      · go_enter Try.func65, Try.ntmps65
        go_wp2
        go_ret
        exact ⟨rfl, rfl⟩
  · rw [show sizeB a m = false by simp [sizeB, h]]
    have h : a < -m := by omega
    rcases hm with rfl | rfl <;>
    · go_enter Try.func65, Try.ntmps65
      go_wp2
      go_ret
      exact ⟨rfl, rfl⟩
/-- A ship's numbers lie in their types. -/
structure Shp.wf (t : Shp) : Prop where
  x : (Lit.int .i32 t.x).wf = true
  y : (Lit.int .i32 t.y).wf = true
  vx : (Lit.int .i32 t.vx).wf = true
  vy : (Lit.int .i32 t.vy).wf = true
  cool : (Lit.int .i64 t.cool).wf = true
  score : (Lit.int .i64 t.score).wf = true
/-- May a ship be? -/
def Shp.may (t : Shp) : Bool :=
  if t.on then onB t.x && onB t.y && sizeB t.vx 524288 && sizeB t.vy 524288 && decide (0 ≤ t.cool) && decide (t.cool ≤ 10) && decide (0 ≤ t.score) && decide (t.score ≤ 1073741824)
  else decide (t.x = 0 ∧ t.y = 0 ∧ t.vx = 0 ∧ t.vy = 0 ∧ t.cool = 0 ∧ t.score = 0)
theorem Shp.may_ok (t : Shp) : t.may = true ↔ t.ok := by
  unfold Shp.may Shp.ok OkShip onB sizeB
  cases t.on <;> simp [and_assoc]
theorem cells24m : Try.prog.cellsOf 29 = 7 := by kernel_rfl
theorem cells4m : Try.prog.cellsOf 4 = 1 := by kernel_rfl
theorem cells21m : Try.prog.cellsOf 21 = 1 := by kernel_rfl
theorem cells3m : Try.prog.cellsOf 3 = 1 := by kernel_rfl
def litsSm (t : Shp) : List Lit := [.bool t.on, .int .i32 t.x, .int .i32 t.y, .int .i32 t.vx, .int .i32 t.vy, .int .i64 t.cool, .int .i64 t.score]
theorem kl4m (d : Nat) (b : Bool) : Try.prog.keyLits (d + 1) 4 [.bool b] = some [.bool b] := by
  unfold Program.keyLits
  rw [Try.underlying4]
theorem kl21m (d : Nat) (a : Int) (h : (Lit.int .i32 a).wf = true) : Try.prog.keyLits (d + 1) 21 [.int .i32 a] = some [.int .i32 a] := by
  unfold Program.keyLits
  rw [Try.underlying21]
  simp only [h, and_self, if_true]
theorem kl3m (d : Nat) (a : Int) (h : (Lit.int .i64 a).wf = true) : Try.prog.keyLits (d + 1) 3 [.int .i64 a] = some [.int .i64 a] := by
  unfold Program.keyLits
  rw [Try.underlying3]
  simp only [h, and_self, if_true]
theorem kl24w (d : Nat) (t : Shp) (h : t.wf) : Try.prog.keyLits (d + 2) 29 (shipL t) = some (litsSm t) := by
  have k0 := kl4m d t.on
  have k1 := kl21m d t.x h.x
  have k2 := kl21m d t.y h.y
  have k3 := kl21m d t.vx h.vx
  have k4 := kl21m d t.vy h.vy
  have k5 := kl3m d t.cool h.cool
  have k6 := kl3m d t.score h.score
  show Try.prog.keyLits ((d + 1) + 1) 29 (shipL t) = some (litsSm t)
  unfold Program.keyLits
  rw [Try.underlying29]
  simp only [cells24m, shipL, List.length_cons, List.length_nil, cells4m, cells21m, cells3m, List.mapM_cons, List.mapM_nil, List.drop_succ_cons, List.drop_zero, List.take_succ_cons, List.take_zero, k0, k1, k2, k3, k4, k5, k6]
  rw [if_pos ⟨trivial, by decide +kernel⟩]
  rfl
theorem formed24 (t : Shp) : (Value.agg (shipL t).toArray).formed Try.prog 29 = true := by
  unfold Value.formed
  rw [Try.underlying29]
  simp [cells24m, shipL]
theorem litsS_inj {a b : Shp} (h : litsSm a = litsSm b) : a = b := by
  cases a; cases b
  simp [litsSm] at h
  simp_all
theorem zShp_wf : zShp.wf := ⟨by decide, by decide, by decide, by decide, by decide, by decide⟩
theorem eq24 (W : World) (t : Shp) (h : t.wf) : (Op.equalIn 10000 29 (.agg (shipL t).toArray) (.agg (shipL zShp).toArray)).run Try.prog W = .ok (decide (t.x = 0 ∧ t.y = 0 ∧ t.vx = 0 ∧ t.vy = 0 ∧ t.cool = 0 ∧ t.score = 0 ∧ t.on = false)) W := by
  obtain ⟨r, h, hr⟩ := run_equalIn_deep (P := Try.prog) 9990 10 29 (by kernel_rfl) W 10 10 (.agg (shipL t).toArray) (.agg (shipL zShp).toArray) (litsSm t) (litsSm zShp) (formed24 t) (formed24 zShp) (kl24w 8 t h) (kl24w 8 zShp zShp_wf)
  rw [h]
  congr 1
  by_cases e : t = zShp
  · subst e
    rw [hr.2 rfl]
    rfl
  · have : r ≠ true := fun hh => e (litsS_inj (hr.1 hh))
    cases r with
    | true => exact absurd rfl this
    | false =>
      symm
      rw [decide_eq_false_iff_not]
      rintro ⟨h1, h2, h3, h4, h5, h6, h7⟩
      apply e
      obtain ⟨o, x, y, vx, vy, c, s⟩ := t
      dsimp only at *
      subst h1 h2 h3 h4 h5 h6 h7
      rfl
theorem mayShip_b (t : Shp) (w : World) (h : t.wf) :
    Calls Try.prog 44 #[.agg #[.bool t.on, .int .i32 t.x, .int .i32 t.y, .int .i32 t.vx, .int .i32 t.vy, .int .i64 t.cool, .int .i64 t.score]] w fun e w' => e = .returned (.bool t.may) ∧ Below w.heap.size w w' := by
  have HE := fun W => eq24 W t h
  clear h
  obtain ⟨o, x, y, vx, vy, cool, score⟩ := t
  dsimp only at *
  cases o with
  | true =>
    clear HE
    have Hx := Lib.hid (fun w => on_b x w)
    have Hy := Lib.hid (fun w => on_b y w)
    have Hu := Lib.hid (fun w => size_b vx 524288 w (.inl rfl))
    have Hv := Lib.hid (fun w => size_b vy 524288 w (.inl rfl))
    unfold Shp.may
    rw [if_pos rfl]
    dsimp only
    go_enter Try.func44, Try.ntmps44
    go_wp2_with fail
    refine (Hx.out _).mono ?_; rintro e w' ⟨rfl, rfl⟩
    cases q1 : onB x
    · go_wp2_with fail
      go_ret
      exact ⟨by simp [*] <;> omega, by repeat (first | exact Below.refl _ _ | apply Below.drew | (refine Below.alloc ?_ (by simp) _))⟩
    go_wp2_with fail
    refine (Hy.out _).mono ?_; rintro e w' ⟨rfl, rfl⟩
    cases q2 : onB y
    · go_wp2_with fail
      go_ret
      exact ⟨by simp [*] <;> omega, by repeat (first | exact Below.refl _ _ | apply Below.drew | (refine Below.alloc ?_ (by simp) _))⟩
    go_wp2_with fail
    refine (Hu.out _).mono ?_; rintro e w' ⟨rfl, rfl⟩
    cases q3 : sizeB vx 524288
    · go_wp2_with fail
      go_ret
      exact ⟨by simp [*] <;> omega, by repeat (first | exact Below.refl _ _ | apply Below.drew | (refine Below.alloc ?_ (by simp) _))⟩
    go_wp2_with fail
    refine (Hv.out _).mono ?_; rintro e w' ⟨rfl, rfl⟩
    cases q4 : sizeB vy 524288
    · go_wp2_with fail
      go_ret
      exact ⟨by simp [*] <;> omega, by repeat (first | exact Below.refl _ _ | apply Below.drew | (refine Below.alloc ?_ (by simp) _))⟩
    by_cases h1 : 0 ≤ cool
    · by_cases h2 : cool ≤ 10
      · by_cases h3 : 0 ≤ score
        · by_cases h4 : score ≤ 1073741824
          · go_wp2_with fail
            go_ret
            exact ⟨by simp [*] <;> omega, by repeat (first | exact Below.refl _ _ | apply Below.drew | (refine Below.alloc ?_ (by simp) _))⟩
          · have h4' : 1073741824 < score := by omega
            go_wp2_with fail
            go_ret
            exact ⟨by simp [*] <;> omega, by repeat (first | exact Below.refl _ _ | apply Below.drew | (refine Below.alloc ?_ (by simp) _))⟩
        · have h3' : score < 0 := by omega
          go_wp2_with fail
          go_ret
          exact ⟨by simp [*] <;> omega, by repeat (first | exact Below.refl _ _ | apply Below.drew | (refine Below.alloc ?_ (by simp) _))⟩
      · have h2' : 10 < cool := by omega
        go_wp2_with fail
        go_ret
        exact ⟨by simp [*] <;> omega, by repeat (first | exact Below.refl _ _ | apply Below.drew | (refine Below.alloc ?_ (by simp) _))⟩
    · have h1' : cool < 0 := by omega
      go_wp2_with fail
      go_ret
      exact ⟨by simp [*] <;> omega, by repeat (first | exact Below.refl _ _ | apply Below.drew | (refine Below.alloc ?_ (by simp) _))⟩
  | false =>
    have HE' := HE
    simp only [shipL, zShp, and_true] at HE'
    clear HE
    unfold Shp.may
    rw [if_neg (by simp)]
    dsimp only
    go_enter Try.func44, Try.ntmps44
    go_wp2_with fail
    go_ret
    exact ⟨by simp, by repeat (first | exact Below.refl _ _ | apply Below.drew | (refine Below.alloc ?_ (by simp) _))⟩
/-- A shot's numbers lie in their types. -/
structure Sht.wf (t : Sht) : Prop where
  x : (Lit.int .i32 t.x).wf = true
  y : (Lit.int .i32 t.y).wf = true
  vx : (Lit.int .i32 t.vx).wf = true
  vy : (Lit.int .i32 t.vy).wf = true
  owner : (Lit.int .i64 t.owner).wf = true
  left : (Lit.int .i64 t.left).wf = true
def Sht.may (t : Sht) : Bool := decide (0 ≤ t.owner) && (decide (t.owner < 8) && (onB t.x && (onB t.y && (sizeB t.vx 393216 && (sizeB t.vy 393216 && (decide (1 ≤ t.left) && decide (t.left ≤ 24)))))))
theorem Sht.may_ok (t : Sht) : t.may = true ↔ OkShot t := by
  unfold Sht.may onB sizeB
  simp only [Bool.and_eq_true, decide_eq_true_eq]
  constructor
  · rintro ⟨h1, h2, ⟨h3, h4⟩, ⟨h5, h6⟩, ⟨h7, h8⟩, ⟨h9, h10⟩, h11, h12⟩
    exact ⟨h1, h2, h3, h4, h5, h6, h7, h8, h9, h10, h11, h12⟩
  · rintro ⟨h1, h2, h3, h4, h5, h6, h7, h8, h9, h10, h11, h12⟩
    exact ⟨h1, h2, ⟨h3, h4⟩, ⟨h5, h6⟩, ⟨h7, h8⟩, ⟨h9, h10⟩, h11, h12⟩
theorem mayShot_b (t : Sht) (w : World) :
    Calls Try.prog 47 #[.agg #[.int .i64 t.owner, .int .i32 t.x, .int .i32 t.y, .int .i32 t.vx, .int .i32 t.vy, .int .i64 t.left]] w fun e w' => e = .returned (.bool t.may) ∧ Below w.heap.size w w' := by
  obtain ⟨o, x, y, vx, vy, left⟩ := t
  dsimp only at *
  have Hx := Lib.hid (fun w => on_b x w)
  have Hy := Lib.hid (fun w => on_b y w)
  have Hu := Lib.hid (fun w => size_b vx 393216 w (.inr rfl))
  have Hv := Lib.hid (fun w => size_b vy 393216 w (.inr rfl))
  unfold Sht.may
  dsimp only
  by_cases h1 : 0 ≤ o
  · by_cases h2 : o < 8
    · go_enter Try.func47, Try.ntmps47
      go_wp2_with fail
      refine (Hx.out _).mono ?_; rintro e w' ⟨rfl, rfl⟩
      cases q1 : onB x
      · go_wp2_with fail
        go_ret
        exact ⟨by simp [*] <;> omega, by repeat (first | exact Below.refl _ _ | apply Below.drew | (refine Below.alloc ?_ (by simp) _))⟩
      go_wp2_with fail
      refine (Hy.out _).mono ?_; rintro e w' ⟨rfl, rfl⟩
      cases q2 : onB y
      · go_wp2_with fail
        go_ret
        exact ⟨by simp [*] <;> omega, by repeat (first | exact Below.refl _ _ | apply Below.drew | (refine Below.alloc ?_ (by simp) _))⟩
      go_wp2_with fail
      refine (Hu.out _).mono ?_; rintro e w' ⟨rfl, rfl⟩
      cases q3 : sizeB vx 393216
      · go_wp2_with fail
        go_ret
        exact ⟨by simp [*] <;> omega, by repeat (first | exact Below.refl _ _ | apply Below.drew | (refine Below.alloc ?_ (by simp) _))⟩
      go_wp2_with fail
      refine (Hv.out _).mono ?_; rintro e w' ⟨rfl, rfl⟩
      cases q4 : sizeB vy 393216
      · go_wp2_with fail
        go_ret
        exact ⟨by simp [*] <;> omega, by repeat (first | exact Below.refl _ _ | apply Below.drew | (refine Below.alloc ?_ (by simp) _))⟩
      by_cases h3 : 1 ≤ left
      · by_cases h4 : left ≤ 24
        · go_wp2_with fail
          go_ret
          exact ⟨by simp [*] <;> omega, by repeat (first | exact Below.refl _ _ | apply Below.drew | (refine Below.alloc ?_ (by simp) _))⟩
        · have h4' : 24 < left := by omega
          go_wp2_with fail
          go_ret
          exact ⟨by simp [*] <;> omega, by repeat (first | exact Below.refl _ _ | apply Below.drew | (refine Below.alloc ?_ (by simp) _))⟩
      · have h3' : left < 1 := by omega
        go_wp2_with fail
        go_ret
        exact ⟨by simp [*] <;> omega, by repeat (first | exact Below.refl _ _ | apply Below.drew | (refine Below.alloc ?_ (by simp) _))⟩
    · have h2' : 8 ≤ o := by omega
      go_enter Try.func47, Try.ntmps47
      go_wp2_with fail
      go_ret
      exact ⟨by simp [*] <;> omega, by repeat (first | exact Below.refl _ _ | apply Below.drew | (refine Below.alloc ?_ (by simp) _))⟩
  · have h1' : o < 0 := by omega
    go_enter Try.func47, Try.ntmps47
    go_wp2_with fail
    go_ret
    exact ⟨by simp [*] <;> omega, by repeat (first | exact Below.refl _ _ | apply Below.drew | (refine Below.alloc ?_ (by simp) _))⟩
theorem not_b (t : Shp) (w : World) (h : t.wf) :
    Calls Try.prog 43 #[.agg #[.bool t.on, .int .i32 t.x, .int .i32 t.y, .int .i32 t.vx, .int .i32 t.vy, .int .i64 t.cool, .int .i64 t.score]] w fun e w' => e = .returned (.bool (!t.may)) ∧ Below w.heap.size w w' := by
  have H := Lib.hid (fun w => mayShip_b t w h)
  clear h
  obtain ⟨o, x, y, vx, vy, cool, score⟩ := t
  dsimp only at *
  generalize Shp.may _ = q at *
  go_enter Try.func43, Try.ntmps43
  go_wp2_with fail
  refine (H.out _).mono ?_; rintro e w' ⟨rfl, hg⟩
  have HG := Lib.hid ((((Below.refl w.heap.size w).alloc (Nat.le_refl _) _)).trans (hg.mono (by simp)))
  clear hg
  go_wp2_with fail
  go_ret
  exact ⟨rfl, HG.out⟩
theorem notShot_b (t : Sht) (w : World) :
    Calls Try.prog 46 #[.agg #[.int .i64 t.owner, .int .i32 t.x, .int .i32 t.y, .int .i32 t.vx, .int .i32 t.vy, .int .i64 t.left]] w fun e w' => e = .returned (.bool (!t.may)) ∧ Below w.heap.size w w' := by
  have H := Lib.hid (fun w => mayShot_b t w)
  obtain ⟨o, x, y, vx, vy, left⟩ := t
  dsimp only at *
  generalize Sht.may _ = q at *
  go_enter Try.func46, Try.ntmps46
  go_wp2_with fail
  refine (H.out _).mono ?_; rintro e w' ⟨rfl, hg⟩
  have HG := Lib.hid ((((Below.refl w.heap.size w).alloc (Nat.le_refl _) _)).trans (hg.mono (by simp)))
  clear hg
  go_wp2_with fail
  go_ret
  exact ⟨rfl, HG.out⟩
theorem all_take {α : Type} {p : α → Bool} {l : List α} {k : Nat} {t : α} (h : (l.take k).all p = true) (ht : l[k]? = some t) (hp : p t = true) : (l.take (k + 1)).all p = true := by
  obtain ⟨hk, rfl⟩ := List.getElem?_eq_some_iff.1 ht
  rw [List.take_succ_eq_append_getElem hk, List.all_append, h]
  simp [hp]
theorem all_not {α : Type} {p : α → Bool} {l : List α} {k : Nat} {t : α} (ht : l[k]? = some t) (hp : p t = false) : l.all p = false := by
  rw [Bool.eq_false_iff]
  intro h
  rw [List.all_eq_true.1 h t (List.mem_of_getElem? ht)] at hp
  cases hp
/-- The first ship that may not be: its number, or -1. -/
theorem index_b (b : Nat) (S : List Shp) (w : World) (h8 : S.length = 8) (hb : b < w.heap.size) (h : ∀ k t, S[k]? = some t → ShipAt w b (2 + k * 7) t.on t.x t.y t.vx t.vy t.cool t.score) (hwf : ∀ t ∈ S, t.wf) :
    Calls Try.prog 63 #[.slice (some ⟨b, 2, none⟩) 8 8, .func (.func 43) #[] #[]] w fun e w' => (∃ r : Int, e = .returned (.int .i64 r) ∧ decide (0 ≤ r) = !S.all Shp.may) ∧ Below w.heap.size w w' := by
  have H := Lib.hid h
  have HW := Lib.hid hwf
  have H8 := Lib.hid h8
  have HBb := Lib.hid hb
  clear h hwf h8 hb
  go_enter Try.func63, Try.ntmps63
  go_wp2_with fail
  go_loopw [8] (fun i W => ∃ k : Nat, k ≤ 8 ∧ i = .int .i64 k ∧ Hid (Below w.heap.size w W) ∧ Hid ((S.take k).all Shp.may = true)) (fun i _ => 8 - (intOf i).toNat)
  case atStart => exact ⟨0, Nat.zero_le _, rfl, Lib.hid (Below.refl _ _), Lib.hid rfl⟩
  case round =>
    obtain ⟨k, hk, rfl, HG, HA⟩ := hrel
    by_cases hlt : k < 8
    · obtain ⟨t, ht⟩ : ∃ t, S[k]? = some t := ⟨S[k]'(by rw [H8.out]; exact hlt), List.getElem?_eq_getElem _⟩
      obtain ⟨c0, c1, c2, c3, c4, c5, c6⟩ := H.out k t ht
      have c : ∀ {j : Nat} {v : Value}, w.cell? ⟨b, j, none⟩ = some v → wr.cell? ⟨b, j, none⟩ = some v := fun {j v} e => (HG.out.cell (p := ⟨b, j, none⟩) HBb.out).trans e
      replace c0 := c c0
      replace c1 := c c1
      replace c2 := c c2
      replace c3 := c c3
      replace c4 := c c4
      replace c5 := c c5
      replace c6 := c c6
      have HC := Lib.hid (fun w => not_b t w (HW.out t (List.mem_of_getElem? ht)))
      have HT := Lib.hid ht
      clear ht c
      go_wp2_with fail
      refine (HC.out _).mono ?_; rintro e w' ⟨rfl, hg⟩
      have HG' := Lib.hid (HG.out.trans (hg.mono HG.out.size))
      clear hg
      cases q : t.may
      · go_wp2_with fail
        go_ret
        exact ⟨⟨(k : Int), rfl, by rw [all_not HT.out q]; simp⟩, HG'.out⟩
      · go_wp2_with fail
        exact ⟨⟨k + 1, hlt, rfl, HG', Lib.hid (all_take HA.out HT.out q)⟩, by simp only [intOf]; omega⟩
    · obtain rfl : k = 8 := by omega
      go_wp2_with fail
      go_ret
      refine ⟨⟨-1, rfl, ?_⟩, HG.out⟩
      have := HA.out
      rw [← H8.out, List.take_length] at this
      rw [this]
      decide
theorem contains_b (b : Nat) (S : List Shp) (w : World) (h8 : S.length = 8) (hb : b < w.heap.size) (h : ∀ k t, S[k]? = some t → ShipAt w b (2 + k * 7) t.on t.x t.y t.vx t.vy t.cool t.score) (hwf : ∀ t ∈ S, t.wf) :
    Calls Try.prog 42 #[.slice (some ⟨b, 2, none⟩) 8 8, .func (.func 43) #[] #[]] w fun e w' => e = .returned (.bool (!S.all Shp.may)) ∧ Below w.heap.size w w' := by
  have H := Lib.hid (index_b b S w h8 hb h hwf)
  clear h hwf h8 hb
  go_enter Try.func42, Try.ntmps42
  go_wp2_with fail
  refine H.out.mono ?_; rintro e w' ⟨⟨r, rfl, hr⟩, hg⟩
  have HG := Lib.hid hg
  clear hg
  have HR := Lib.hid hr
  clear hr
  go_wp2_with fail
  go_ret
  exact ⟨by rw [← HR.out]; rfl, HG.out⟩
theorem indexShots_b (g o c : Nat) (L : List Sht) (w : World) (h : ∀ j v, (cellsL L)[j]? = some v → w.cell? ⟨g, o + j, none⟩ = some v) (hg : g < w.heap.size) (hn : L.length ≤ 1000000) :
    Calls Try.prog 66 #[.slice (some ⟨g, o, none⟩) L.length c, .func (.func 46) #[] #[]] w fun e w' => (∃ r : Int, e = .returned (.int .i64 r) ∧ decide (0 ≤ r) = !L.all Sht.may) ∧ Below w.heap.size w w' := by
  have H := Lib.hid h
  clear h
  go_enter Try.func66, Try.ntmps66
  go_wp2_with fail
  go_loopw [8] (fun i W => ∃ k : Nat, k ≤ L.length ∧ i = .int .i64 k ∧ Hid (Below w.heap.size w W) ∧ Hid ((L.take k).all Sht.may = true)) (fun i _ => L.length - (intOf i).toNat)
  case atStart => exact ⟨0, Nat.zero_le _, rfl, Lib.hid (Below.refl _ _), Lib.hid rfl⟩
  case round =>
    obtain ⟨k, hk, rfl, HG, HA⟩ := hrel
    by_cases hlt : k < L.length
    · obtain ⟨s, hs⟩ : ∃ s, L[k]? = some s := ⟨L[k], List.getElem?_eq_getElem hlt⟩
      have hA : ShotAt wr g (o + k * 6) s := shot_at (fun j v hv => (HG.out.cell (p := ⟨g, o + j, none⟩) hg).trans (H.out j v hv)) k s hs
      obtain ⟨c0, c1, c2, c3, c4, c5⟩ := hA
      have HC := Lib.hid (fun w => notShot_b s w)
      have HT := Lib.hid hs
      clear hs
      go_wp2_with fail
      refine (HC.out _).mono ?_; rintro e w' ⟨rfl, hg⟩
      have HG' := Lib.hid (HG.out.trans (hg.mono HG.out.size))
      clear hg
      cases q : s.may
      · go_wp2_with fail
        go_ret
        exact ⟨⟨(k : Int), rfl, by rw [all_not HT.out q]; simp⟩, HG'.out⟩
      · go_wp2_with fail
        exact ⟨⟨k + 1, hlt, rfl, HG', Lib.hid (all_take HA.out HT.out q)⟩, by simp only [intOf]; omega⟩
    · obtain rfl : k = L.length := by omega
      go_wp2_with fail
      go_ret
      refine ⟨⟨-1, rfl, ?_⟩, HG.out⟩
      have := HA.out
      rw [List.take_length] at this
      rw [this]
      decide
/-- Shots, where they lie; none may have any address. -/
def ShotsW (W : World) (sl : Value) (L : List Sht) : Prop :=
  (L = [] ∧ ∃ ad c, sl = .slice ad 0 c) ∨ ∃ g o c, sl = .slice (some ⟨g, o, none⟩) L.length c ∧ g < W.heap.size ∧ ∀ j v, (cellsL L)[j]? = some v → W.cell? ⟨g, o + j, none⟩ = some v
theorem ShotsW.later {W W' : World} {sl : Value} {L : List Sht} (h : ShotsW W sl L) (hb : Below W.heap.size W W') : ShotsW W' sl L := by
  rcases h with h | ⟨g, o, c, h1, h2, h3⟩
  · exact .inl h
  · exact .inr ⟨g, o, c, h1, Nat.lt_of_lt_of_le h2 hb.size, fun j v hv => (hb.cell (p := ⟨g, o + j, none⟩) h2).trans (h3 j v hv)⟩
theorem ShotsIn.w {W : World} {sl : Value} {L : List Sht} (h : ShotsIn W sl L) : ShotsW W sl L := by
  rcases h with ⟨h, e⟩ | h
  · exact .inl ⟨h, none, 0, e⟩
  · exact .inr h
theorem ShotsW.form {W : World} {sl : Value} {L : List Sht} (h : ShotsW W sl L) : ∃ ad c, sl = .slice ad L.length c := by
  rcases h with ⟨rfl, ad, c, rfl⟩ | ⟨b, o, c, rfl, _⟩
  · exact ⟨ad, c, rfl⟩
  · exact ⟨_, _, rfl⟩
theorem indexShots_none0 (ad : Option Addr) (c : Nat) (f : Value) (w : World) : Calls Try.prog 66 #[.slice ad 0 c, f] w fun e w' => e = .returned (.int .i64 (-1)) ∧ w = w' := by
  go_enter Try.func66, Try.ntmps66
  go_wp2_with fail
  go_loop [8] (fun i => i = .int .i64 0) (fun _ => 0)
  case atStart => rfl
  case round =>
    subst hrel
    go_wp2_with fail
    go_ret
    exact ⟨rfl, rfl⟩
theorem containsShots_none0 (ad : Option Addr) (c : Nat) (f : Value) (w : World) : Calls Try.prog 45 #[.slice ad 0 c, f] w fun e w' => e = .returned (.bool false) ∧ w = w' := by
  go_enter Try.func45, Try.ntmps45
  go_wp2_with fail
  refine (indexShots_none0 ad c f w).mono ?_; rintro e w' ⟨rfl, rfl⟩
  go_wp2_with fail
  go_ret
  exact ⟨rfl, rfl⟩
theorem containsShots_b (sl : Value) (L : List Sht) (w : World) (h : ShotsW w sl L) (hn : L.length ≤ 1000000) :
    Calls Try.prog 45 #[sl, .func (.func 46) #[] #[]] w fun e w' => e = .returned (.bool (!L.all Sht.may)) ∧ Below w.heap.size w w' := by
  rcases h with ⟨rfl, ad, c, rfl⟩ | ⟨g, o, c, rfl, hg, hc⟩
  · refine (containsShots_none0 ad c _ w).mono ?_
    rintro e w' ⟨rfl, rfl⟩
    exact ⟨rfl, Below.refl _ _⟩
  · have H := Lib.hid (indexShots_b g o c L w hc hg hn)
    clear hc
    go_enter Try.func45, Try.ntmps45
    go_wp2_with fail
    refine H.out.mono ?_; rintro e w' ⟨⟨r, rfl, hr⟩, hg⟩
    have HG := Lib.hid hg
    clear hg
    have HR := Lib.hid hr
    clear hr
    go_wp2_with fail
    go_ret
    exact ⟨by rw [← HR.out]; rfl, HG.out⟩
/-- A game's numbers lie in their types. -/
structure Gme.wf (g : Gme) : Prop where
  fr : (Lit.int .i64 g.fr).wf = true
  d : (Lit.int .u64 g.d).wf = true
  s8 : g.S.length = 8
  ships : ∀ t ∈ g.S, t.wf
  shots : ∀ t ∈ g.L, t.wf
def Gme.may (g : Gme) : Bool := decide (0 ≤ g.fr) && (decide (g.fr ≤ 1048576) && (decide (g.L.length ≤ 32) && (g.S.all Shp.may && g.L.all Sht.may)))
theorem Gme.may_ok {g : Gme} (h8 : g.S.length = 8) : g.may = true ↔ g.ok := by
  unfold Gme.may
  simp only [Bool.and_eq_true, decide_eq_true_eq, List.all_eq_true, Shp.may_ok, Sht.may_ok]
  constructor
  · rintro ⟨h1, h2, h3, h4, h5⟩
    exact ⟨h1, h2, h8, h4, h5, h3⟩
  · rintro ⟨h1, h2, _, h4, h5, h3⟩
    exact ⟨h1, h2, h3, h4, h5⟩
set_option maxHeartbeats 1000000 in
theorem may_b (g : Gme) (sl : Value) (w : World) (hg : g.wf) (hin : ShotsW w sl g.L) :
    Calls Try.prog 30 #[.agg (gameC g.fr g.d g.S sl)] w fun e w' => e = .returned (.bool g.may) ∧ Below w.heap.size w w' := by
  obtain ⟨ad, c, rfl⟩ := hin.form
  have HW := Lib.hid hg.ships
  have H8 := Lib.hid hg.s8
  have HL := Lib.hid hin
  have hf := (cell_new w (gameC g.fr g.d g.S (.slice ad g.L.length c)) 33 0).trans (show (gameC g.fr g.d g.S (.slice ad g.L.length c))[0]? = some (.int .i64 g.fr) from rfl)
  have hs := (cell_new w (gameC g.fr g.d g.S (.slice ad g.L.length c)) 33 58).trans (gc_shots hg.s8)
  have HB := Lib.hid ((Below.refl w.heap.size w).alloc (Nat.le_refl _) (.cells (gameC g.fr g.d g.S (.slice ad g.L.length c)) 33))
  have HS : Hid (∀ k t, g.S[k]? = some t → ShipAt (w.alloc (.cells (gameC g.fr g.d g.S (.slice ad g.L.length c)) 33)) w.heap.size (2 + k * 7) t.on t.x t.y t.vx t.vy t.cool t.score) := Lib.hid (fun k t ht => by
    have C := fun (j : Nat) (v : Value) hv => (cell_new w (gameC g.fr g.d g.S (.slice ad g.L.length c)) 33 (2 + k * 7 + j)).trans (gc_at k j t v ht hv)
    exact ⟨C 0 _ rfl, C 1 _ rfl, C 2 _ rfl, C 3 _ rfl, C 4 _ rfl, C 5 _ rfl, C 6 _ rfl⟩)
  have hsz : (w.alloc (.cells (gameC g.fr g.d g.S (.slice ad g.L.length c)) 33)).heap.size = w.heap.size + 1 := by simp
  have hsl : w.heap.size < (w.alloc (.cells (gameC g.fr g.d g.S (.slice ad g.L.length c)) 33)).heap.size := by simp
  have Hsz := Lib.hid hsz
  have Hsl := Lib.hid hsl
  clear hg hin hsz hsl
  obtain ⟨fr, d, S, L⟩ := g
  unfold Gme.may
  dsimp only at *
  have HC := Lib.hid (contains_b w.heap.size S _ H8.out Hsl.out HS.out HW.out)
  generalize gameC fr d S (.slice ad L.length c) = cs at *
  by_cases h0 : 0 ≤ fr
  · by_cases h1 : fr ≤ 1048576
    · by_cases h2 : L.length ≤ 32
      · have h2' : (L.length : Int) ≤ 32 := by omega
        go_enter Try.func30, Try.ntmps30
        go_wp2_with fail
        refine HC.out.mono ?_; rintro e w' ⟨rfl, hg⟩
        have hs2 := (hg.cell (p := ⟨w.heap.size, 58, none⟩) Hsl.out).trans hs
        have HB2 := Lib.hid (HB.out.trans (hg.mono (by rw [Hsz.out]; omega)))
        clear hg hs hf
        cases q : S.all Shp.may
        · go_wp2_with fail
          go_ret
          exact ⟨by rw [q]; simp, HB2.out⟩
        go_wp2_with fail
        refine (containsShots_b _ L _ (HL.out.later HB2.out) (by omega)).mono ?_; rintro e w2 ⟨rfl, hg⟩
        have HB3 := Lib.hid (HB2.out.trans (hg.mono HB2.out.size))
        clear hg
        go_wp2_with fail
        go_ret
        exact ⟨by simp [*] <;> omega, HB3.out⟩
      · have h2' : 32 < (L.length : Int) := by omega
        go_enter Try.func30, Try.ntmps30
        go_wp2_with fail
        go_ret
        exact ⟨by simp [*] <;> omega, HB.out⟩
    · have h1' : 1048576 < fr := by omega
      go_enter Try.func30, Try.ntmps30
      go_wp2_with fail
      go_ret
      exact ⟨by simp [*] <;> omega, HB.out⟩
  · have h0' : fr < 0 := by omega
    go_enter Try.func30, Try.ntmps30
    go_wp2_with fail
    go_ret
    exact ⟨by simp [*] <;> omega, HB.out⟩
end Go.Proofs.Ytdopfonebpklkaa.game
