/- Which shots may be: game.mayShot, slices.ContainsFunc over them, game.May over games with shots. -/
import Derived.Test.YtdopfonebpklkaaMm
namespace Go.Proofs.Ytdopfonebpklkaa.game
open Go.ChangeShapes Go.WideShapes Go.ChangeAt Go.RowKit dice
set_option maxRecDepth 100000

structure Sht where
  owner : Int
  x : Int
  y : Int
  vx : Int
  vy : Int
  left : Int
def shotL (s : Sht) : List Value := [.int .i64 s.owner, .int .i32 s.x, .int .i32 s.y, .int .i32 s.vx, .int .i32 s.vy, .int .i64 s.left]
def cellsL (L : List Sht) : List Value := L.flatMap shotL
structure OkShot (s : Sht) : Prop where
  o0 : 0 ≤ s.owner
  o1 : s.owner < 8
  x0 : 0 ≤ s.x
  x1 : s.x < 16777216
  y0 : 0 ≤ s.y
  y1 : s.y < 16777216
  u0 : -393216 ≤ s.vx
  u1 : s.vx ≤ 393216
  v0 : -393216 ≤ s.vy
  v1 : s.vy ≤ 393216
  l0 : 1 ≤ s.left
  l1 : s.left ≤ 24
theorem length_cellsL (L : List Sht) : (cellsL L).length = L.length * 6 := by
  induction L with
  | nil => rfl
  | cons s L ih => unfold cellsL at *; rw [List.flatMap_cons, List.length_append, ih, List.length_cons]; simp only [shotL, List.length_cons, List.length_nil]; omega
theorem cellsL_at : ∀ (L : List Sht) (i j : Nat) (s : Sht) (v : Value), L[i]? = some s → (shotL s)[j]? = some v → (cellsL L)[i * 6 + j]? = some v
  | [], i, _, _, _, h, _ => by simp at h
  | s' :: L, 0, j, s, v, h, hj => by
    simp at h
    subst h
    have hl : j < (shotL s').length := (List.getElem?_eq_some_iff.1 hj).1
    unfold cellsL
    rw [List.flatMap_cons, Nat.zero_mul, Nat.zero_add, List.getElem?_append_left hl]
    exact hj
  | s' :: L, i + 1, j, s, v, h, hj => by
    have ih := cellsL_at L i j s v (by simpa using h) hj
    unfold cellsL at *
    have hl : (shotL s').length = 6 := rfl
    rw [List.flatMap_cons, List.getElem?_append_right (by rw [hl]; omega), hl, show (i + 1) * 6 + j - 6 = i * 6 + j by omega]
    exact ih
/-- Where shots lie. -/
def ShotsIn (W : World) (sl : Value) (L : List Sht) : Prop :=
  (L = [] ∧ sl = .slice none 0 0) ∨ ∃ g o c, sl = .slice (some ⟨g, o, none⟩) L.length c ∧ g < W.heap.size ∧ ∀ j v, (cellsL L)[j]? = some v → W.cell? ⟨g, o + j, none⟩ = some v
theorem ShotsIn.later {W W' : World} {sl : Value} {L : List Sht} (h : ShotsIn W sl L) (hb : Below W.heap.size W W') : ShotsIn W' sl L := by
  rcases h with h | ⟨g, o, c, h1, h2, h3⟩
  · exact .inl h
  · exact .inr ⟨g, o, c, h1, Nat.lt_of_lt_of_le h2 hb.size, fun j v hv => (hb.cell (p := ⟨g, o + j, none⟩) h2).trans (h3 j v hv)⟩
structure ShotAt (W : World) (g o : Nat) (s : Sht) : Prop where
  owner : W.cell? ⟨g, o, none⟩ = some (.int .i64 s.owner)
  x : W.cell? ⟨g, o + 1, none⟩ = some (.int .i32 s.x)
  y : W.cell? ⟨g, o + 2, none⟩ = some (.int .i32 s.y)
  vx : W.cell? ⟨g, o + 3, none⟩ = some (.int .i32 s.vx)
  vy : W.cell? ⟨g, o + 4, none⟩ = some (.int .i32 s.vy)
  left : W.cell? ⟨g, o + 5, none⟩ = some (.int .i64 s.left)
theorem shot_at {W : World} {g o : Nat} {L : List Sht} (h : ∀ j v, (cellsL L)[j]? = some v → W.cell? ⟨g, o + j, none⟩ = some v) (i : Nat) (s : Sht) (hs : L[i]? = some s) : ShotAt W g (o + i * 6) s := by
  have c : ∀ j v, (shotL s)[j]? = some v → W.cell? ⟨g, o + i * 6 + j, none⟩ = some v := fun j v hv => by
    rw [Nat.add_assoc]; exact h _ v (cellsL_at L i j s v hs hv)
  exact ⟨c 0 _ rfl, c 1 _ rfl, c 2 _ rfl, c 3 _ rfl, c 4 _ rfl, c 5 _ rfl⟩
theorem size_fast (a : Int) (w : World) (h : -393216 ≤ a) (h' : a ≤ 393216) :
    Calls Try.prog 65 #[.int .i32 a, .int .i32 393216] w fun e w' => e = .returned (.bool true) ∧ w = w' := by
  go_enter Try.func65, Try.ntmps65
  go_wp2
  go_ret
  exact ⟨rfl, rfl⟩
theorem mayShot_any (s : Sht) (w : World) (h : OkShot s) :
    Calls Try.prog 47 #[.agg #[.int .i64 s.owner, .int .i32 s.x, .int .i32 s.y, .int .i32 s.vx, .int .i32 s.vy, .int .i64 s.left]] w fun e w' => e = .returned (.bool true) ∧ Below w.heap.size w w' := by
  have Hx := Lib.hid (fun w => on_in s.x w h.x0 h.x1)
  have Hy := Lib.hid (fun w => on_in s.y w h.y0 h.y1)
  have Hu := Lib.hid (fun w => size_fast s.vx w h.u0 h.u1)
  have Hv := Lib.hid (fun w => size_fast s.vy w h.v0 h.v1)
  have h1 := h.o0
  have h2 := h.o1
  have h3 := h.l0
  have h4 := h.l1
  clear h
  obtain ⟨o, x, y, vx, vy, left⟩ := s
  dsimp only at *
  go_enter Try.func47, Try.ntmps47
  go_wp2_with fail
  refine (Hx.out _).mono ?_; rintro e w' ⟨rfl, rfl⟩
  go_wp2_with fail
  refine (Hy.out _).mono ?_; rintro e w' ⟨rfl, rfl⟩
  go_wp2_with fail
  refine (Hu.out _).mono ?_; rintro e w' ⟨rfl, rfl⟩
  go_wp2_with fail
  refine (Hv.out _).mono ?_; rintro e w' ⟨rfl, rfl⟩
  go_wp2_with fail
  go_ret
  exact ⟨rfl, by repeat (first | exact Below.refl _ _ | apply Below.drew | (refine Below.alloc ?_ (by simp) _))⟩
theorem notShot_any (s : Sht) (w : World) (h : OkShot s) :
    Calls Try.prog 46 #[.agg #[.int .i64 s.owner, .int .i32 s.x, .int .i32 s.y, .int .i32 s.vx, .int .i32 s.vy, .int .i64 s.left]] w fun e w' => e = .returned (.bool false) ∧ Below w.heap.size w w' := by
  have H := Lib.hid (fun w => mayShot_any s w h)
  clear h
  go_enter Try.func46, Try.ntmps46
  go_wp2_with fail
  refine (H.out _).mono ?_; rintro e w' ⟨rfl, hg⟩
  have HG := Lib.hid ((((Below.refl w.heap.size w).alloc (Nat.le_refl _) _)).trans (hg.mono (by simp)))
  clear hg
  go_wp2_with fail
  go_ret
  exact ⟨rfl, HG.out⟩
theorem indexShots_none (g o c : Nat) (L : List Sht) (w : World) (h : ∀ j v, (cellsL L)[j]? = some v → w.cell? ⟨g, o + j, none⟩ = some v) (hg : g < w.heap.size) (hok : ∀ s ∈ L, OkShot s) (hn : L.length ≤ 1000000) :
    Calls Try.prog 66 #[.slice (some ⟨g, o, none⟩) L.length c, .func (.func 46) #[] #[]] w fun e w' => e = .returned (.int .i64 (-1)) ∧ Below w.heap.size w w' := by
  have H := Lib.hid h
  have HO := Lib.hid hok
  clear h hok
  go_enter Try.func66, Try.ntmps66
  go_wp2_with fail
  go_loopw [8] (fun i W => ∃ k : Nat, k ≤ L.length ∧ i = .int .i64 k ∧ Hid (Below w.heap.size w W)) (fun i _ => L.length - (intOf i).toNat)
  case atStart => exact ⟨0, Nat.zero_le _, rfl, Lib.hid (Below.refl _ _)⟩
  case round =>
    obtain ⟨k, hk, rfl, HG⟩ := hrel
    by_cases hlt : k < L.length
    · obtain ⟨s, hs⟩ : ∃ s, L[k]? = some s := ⟨L[k], List.getElem?_eq_getElem hlt⟩
      have hA : ShotAt wr g (o + k * 6) s := shot_at (fun j v hv => (HG.out.cell (p := ⟨g, o + j, none⟩) hg).trans (H.out j v hv)) k s hs
      obtain ⟨c0, c1, c2, c3, c4, c5⟩ := hA
      have HC := Lib.hid (fun w => notShot_any s w (HO.out s (List.mem_of_getElem? hs)))
      clear hs
      go_wp2_with fail
      refine (HC.out _).mono ?_; rintro e w' ⟨rfl, hg⟩
      have HG' := Lib.hid (HG.out.trans (hg.mono HG.out.size))
      clear hg
      go_wp2_with fail
      exact ⟨⟨k + 1, hlt, rfl, HG'⟩, by simp only [intOf]; omega⟩
    · obtain rfl : k = L.length := by omega
      go_wp2_with fail
      go_ret
      exact ⟨rfl, HG.out⟩
theorem containsShots_none (sl : Value) (L : List Sht) (w : World) (h : ShotsIn w sl L) (hok : ∀ s ∈ L, OkShot s) (hn : L.length ≤ 1000000) :
    Calls Try.prog 45 #[sl, .func (.func 46) #[] #[]] w fun e w' => e = .returned (.bool false) ∧ Below w.heap.size w w' := by
  rcases h with ⟨rfl, rfl⟩ | ⟨g, o, c, rfl, hg, hc⟩
  · refine (containsShots_nil _ w).mono ?_
    rintro e w' ⟨rfl, rfl⟩
    exact ⟨rfl, Below.refl _ _⟩
  · have H := Lib.hid (indexShots_none g o c L w hc hg hok hn)
    clear hc hok
    go_enter Try.func45, Try.ntmps45
    go_wp2_with fail
    refine H.out.mono ?_; rintro e w' ⟨rfl, hg⟩
    have HG := Lib.hid hg
    clear hg
    go_wp2_with fail
    go_ret
    exact ⟨rfl, HG.out⟩
/-- A game's cells: eight ships that may be; its shots apart. -/
structure GmS (cs : Array Value) (fr d : Int) (sl : Value) : Prop where
  size : cs.size = 59
  one : cs.all (·.oneCell') = true
  frame : cs[0]? = some (.int .i64 fr)
  dice : cs[1]? = some (.int .u64 d)
  shots : cs[58]? = some sl
  ships : ∀ k, k < 8 → ∃ on x y vx vy cool score, cs[2 + k * 7]? = some (.bool on) ∧ cs[2 + k * 7 + 1]? = some (.int .i32 x) ∧ cs[2 + k * 7 + 2]? = some (.int .i32 y) ∧ cs[2 + k * 7 + 3]? = some (.int .i32 vx) ∧ cs[2 + k * 7 + 4]? = some (.int .i32 vy) ∧ cs[2 + k * 7 + 5]? = some (.int .i64 cool) ∧ cs[2 + k * 7 + 6]? = some (.int .i64 score) ∧ OkShip on x y vx vy cool score
theorem GmS.shipsAt {cs : Array Value} {fr d : Int} {sl : Value} (h : GmS cs fr d sl) (w : World) : ShipsAt (w.alloc (.cells cs 33)) w.heap.size 2 := fun k hk => by
  obtain ⟨on, x, y, vx, vy, cool, score, h0, h1, h2, h3, h4, h5, h6, ho⟩ := h.ships k hk
  exact ⟨on, x, y, vx, vy, cool, score, ⟨(cell_new ..).trans h0, (cell_new ..).trans h1, (cell_new ..).trans h2, (cell_new ..).trans h3, (cell_new ..).trans h4, (cell_new ..).trans h5, (cell_new ..).trans h6⟩, ho⟩
theorem mayS_any (cs : Array Value) (fr d : Int) (ad : Option Addr) (c : Nat) (L : List Sht) (w : World) (h : GmS cs fr d (.slice ad L.length c)) (hL : ShotsIn w (.slice ad L.length c) L) (hok : ∀ s ∈ L, OkShot s) (hn : L.length ≤ 32) (h0 : 0 ≤ fr) (h1 : fr ≤ 1048576) :
    Calls Try.prog 30 #[.agg cs] w fun e w' => e = .returned (.bool true) ∧ Below w.heap.size w w' := by
  have hf := (cell_new w cs 33 0).trans h.frame
  have hs := (cell_new w cs 33 58).trans h.shots
  have HS := Lib.hid (h.shipsAt w)
  have HB := Lib.hid ((Below.refl w.heap.size w).alloc (Nat.le_refl _) (.cells cs 33))
  have hsz : (w.alloc (.cells cs 33)).heap.size = w.heap.size + 1 := by simp
  have HL := Lib.hid hL
  have HO := Lib.hid hok
  have hn' : (L.length : Int) ≤ 32 := by omega
  clear h hL hok
  go_enter Try.func30, Try.ntmps30
  go_wp2_with fail
  refine (contains_none w.heap.size _ HS.out).mono ?_; rintro e w' ⟨rfl, hg⟩
  have hs2 := (hg.cell (p := ⟨w.heap.size, 58, none⟩) (by simp)).trans hs
  have HB2 := Lib.hid (HB.out.trans (hg.mono (by omega)))
  clear hg hs hf hsz
  go_wp2_with fail
  refine (containsShots_none _ L _ (HL.out.later HB2.out) HO.out (by omega)).mono ?_; rintro e w2 ⟨rfl, hg⟩
  have HB3 := Lib.hid (HB2.out.trans (hg.mono HB2.out.size))
  clear hg
  go_wp2_with fail
  go_ret
  exact ⟨rfl, HB3.out⟩
end Go.Proofs.Ytdopfonebpklkaa.game
