/- What the functions of package dice compute, each proved once: contracts for the laws of layer 4. No condition but that the arguments are of their kinds. Which ships may be: game.mayShip, and slices.ContainsFunc over eight of them. game.May, over games without shots. game.New, what it computes; a whole game out of and into a block. game.Same, over games without shots. Memory in a walk, kept as a list of blocks: what each load, store, alloc and box makes of it. Which shots may be: game.mayShot, slices.ContainsFunc over them, game.May over games with shots. -/
import Derived.Test.YtdopfonebpklkaaGreatRows
import Derived.WalkKit
import Derived.ProofKit
import Derived.RegionTactic
import Derived.ChangeAlike
import Derived.Below
import Derived.Lib.Hide
import Derived.Deep.WholeRow
import Derived.Laws.ResultCell
import Derived.Deep.MidRow
import Derived.DeepKeys
import Derived.Laws.CopyRow
namespace Go.Proofs.YtdopfonebpklkaaGreat.dice
open Go.ChangeShapes Go.WideShapes Go.ChangeAt Go.RowKit

def next (d : Int) : Int := (d * 6364136223846793005 + 1442695040888963407) % 18446744073709551616
def pick (d n : Int) : Int := next d / 4294967296 * n / 4294967296

theorem next_bd (d : Int) : 0 ≤ next d ∧ next d ≤ 18446744073709551615 := by unfold next; omega
theorem next_hi (d : Int) : 0 ≤ next d / 4294967296 ∧ next d / 4294967296 ≤ 4294967295 := by have := next_bd d; omega
theorem mul_bd (a n : Int) (h : 0 ≤ a) (h' : a ≤ 4294967295) (hn : 1 ≤ n) (hn' : n ≤ 2147483647) : 0 ≤ a * n ∧ a * n ≤ 4294967295 * n := 
  ⟨Int.mul_nonneg h (by omega), Int.mul_le_mul_of_nonneg_right h' (by omega)⟩
theorem pick_bd (d n : Int) (hn : 1 ≤ n) (hn' : n ≤ 2147483647) : 0 ≤ pick d n ∧ pick d n < n := by
  unfold pick
  have := next_hi d
  have := mul_bd _ n this.1 this.2 hn hn'
  generalize next d / 4294967296 * n = m at *
  omega
theorem next_wrap (d : Int) : IntKind.u64.wrap (IntKind.u64.wrap (d * 6364136223846793005) + 1442695040888963407) = next d := by
  rw [IntKind.wrap_u64, IntKind.wrap_u64]; unfold next; omega
theorem pick_wrap (d n : Int) (hn : 1 ≤ n) (hn' : n ≤ 2147483647) : RowKit.wrap64 (IntKind.u64.wrap (next d / 4294967296 * n) / 4294967296) = pick d n := by
  rw [IntKind.wrap_u64]; unfold pick wrap64
  have := next_hi d
  have := mul_bd _ n this.1 this.2 hn hn'
  generalize next d / 4294967296 * n = m at *
  omega

theorem next_any (d : Int) (w : World) :
    Calls Tryz.prog 157 #[.int .u64 d] w fun e w' => e = .returned (.int .u64 (next d)) ∧ w = w' := by
  go_enter Tryz.func157, Tryz.ntmps157
  go_wp2
  go_ret
  exact ⟨by rw [← next_wrap d]; rfl, rfl⟩

def pickOf (d n : Int) : Value := if 1 ≤ n ∧ n ≤ 2147483647 then .tuple #[.int .i64 (pick d n), .int .u64 (next d)] else .tuple #[.int .i64 0, .int .u64 d]

theorem pick_in (d n : Int) (w : World) (hn : 1 ≤ n) (hn' : n ≤ 2147483647) :
    Calls Tryz.prog 150 #[.int .u64 d, .int .i64 n] w fun e w' => e = .returned (.tuple #[.int .i64 (pick d n), .int .u64 (next d)]) ∧ w = w' := by
  have hb := next_bd d
  go_enter Tryz.func150, Tryz.ntmps150
  go_wp2_with (go_at_call 157; refine (next_any _ _).mono ?_; rintro e w' ⟨rfl, rfl⟩)
  go_ret2
  exact ⟨by rw [← pick_wrap d n hn hn']; rfl, rfl⟩

theorem pick_out (d n : Int) (w : World) (hn : ¬ (1 ≤ n ∧ n ≤ 2147483647)) :
    Calls Tryz.prog 150 #[.int .u64 d, .int .i64 n] w fun e w' => e = .returned (.tuple #[.int .i64 0, .int .u64 d]) ∧ w = w' := by
  by_cases h1 : n < 1
  all_goals
    go_enter Tryz.func150, Tryz.ntmps150
    go_wp2
    go_ret2
    exact ⟨rfl, rfl⟩

def px (d : Int) : Int := pick d 16777216
def py (d : Int) : Int := pick (next d) 16777216
theorem px_bd (d : Int) : 0 ≤ px d ∧ px d ≤ 16777215 := by have := pick_bd d 16777216 (by omega) (by omega); unfold px; omega
theorem py_bd (d : Int) : 0 ≤ py d ∧ py d ≤ 16777215 := by have := pick_bd (next d) 16777216 (by omega) (by omega); unfold py; omega

theorem one_any (d : Int) (w : World) :
    Calls Tryz.prog 149 #[.pointer (some { block := w.heap.size, off := 0 })] (w.alloc (.cells #[.int .u64 d] 22)) fun e w' => e = .returned (.int .i32 (px d)) ∧ w.alloc (.cells #[.int .u64 (next d)] 22) = w' := by
  have hx := px_bd d
  go_enter Tryz.func149, Tryz.ntmps149
  go_wp2_with fail
  refine (pick_in _ _ _ (by omega) (by omega)).mono ?_; rintro e w' ⟨rfl, rfl⟩
  change 0 ≤ pick d 16777216 ∧ pick d 16777216 ≤ 16777215 at hx
  go_wp2_with fail
  go_ret
  exact ⟨rfl, rfl⟩

theorem place_any (d : Int) (w : World) :
    Calls Tryz.prog 140 #[.int .u64 d] w fun e w' => e = .returned (.tuple #[.int .i32 (px d), .int .i32 (py d), .int .u64 (next (next d))]) ∧ Below w.heap.size w w' := by
  have hx := px_bd d
  have hy := py_bd d
  go_enter Tryz.func140, Tryz.ntmps140
  go_wp2_with fail
  refine (one_any _ _).mono ?_; rintro e w' ⟨rfl, rfl⟩
  go_wp2_with fail
  refine (one_any _ _).mono ?_; rintro e w' ⟨rfl, rfl⟩
  go_wp2_with fail
  go_region
  go_wp2
  go_ret3
  exact ⟨rfl, by repeat (first | exact Below.refl _ _ | apply Below.drew | (refine Below.alloc ?_ (by simp) _))⟩

def seedStep (h : Int) (c : UInt8) : Int := IntKind.u64.wrap (bits .xor .u64 h (IntKind.u64.wrap (c.toNat : Int)) * 1099511628211)
def seedFrom (h : Int) (l : List UInt8) : Int := l.foldl seedStep h
def seed (l : List UInt8) : Int := seedFrom 14695981039346656037 l

theorem take_snoc (s : ByteArray) (k : Nat) (h : k < s.size) : s.data.toList.take (k + 1) = s.data.toList.take k ++ [s[k]] := by
  rw [List.take_succ_eq_append_getElem (by simpa using h)]; rfl
theorem seed_snoc (h : Int) (l : List UInt8) (c : UInt8) : seedFrom h (l ++ [c]) = seedStep (seedFrom h l) c := by simp [seedFrom]

theorem ret_int {k : IntKind} {a b : Int} (h : a = b) : Ending.returned (.int k a) = .returned (.int k b) := by rw [h]

set_option maxHeartbeats 400000 in
theorem seed_any (s : ByteArray) (w : World) (hs : s.size ≤ maxLen) :
    Calls Tryz.prog 108 #[.string s] w fun e w' => e = .returned (.int .u64 (seed s.data.toList)) ∧ w = w' := by
  unfold maxLen at hs
  go_enter Tryz.func108, Tryz.ntmps108
  go_wp2
  go_loop [3, 4, 7] (fun h _ i => ∃ k : Nat, k ≤ s.size ∧ i = .int .i64 k ∧ h = .int .u64 (seed (s.data.toList.take k))) (fun _ _ i => s.size - (intOf i).toNat)
  case atStart => exact ⟨0, Nat.zero_le _, rfl, rfl⟩
  case round =>
    obtain ⟨k, hk, rfl, rfl⟩ := hrel
    by_cases hlt : k < s.size
    · have HS : Hid (seed (s.data.toList.take (k + 1)) = seedStep (seed (s.data.toList.take k)) s[k]) := by rw [take_snoc s k hlt]; exact seed_snoc _ _ _
      go_wp2
      go_round
      case rel => exact ⟨k + 1, by omega, by go_num, by rw [HS.out]; rfl⟩
      case measure => simp [intOf]; omega
    · go_wp2
      go_ret
      exact ⟨ret_int (by rw [List.take_of_length_le (by simp; omega)]), rfl⟩

end Go.Proofs.YtdopfonebpklkaaGreat.dice
namespace Go.Proofs.YtdopfonebpklkaaGreat.game
open Go.ChangeShapes Go.WideShapes Go.ChangeAt Go.RowKit dice
set_option maxRecDepth 100000

/-- A ship that may be: none, or one on the field. -/
def OkShip (on : Bool) (x y vx vy cool score : Int) : Prop :=
  if on = true then (0 ≤ x ∧ x < 16777216 ∧ 0 ≤ y ∧ y < 16777216 ∧ -524288 ≤ vx ∧ vx ≤ 524288 ∧ -524288 ≤ vy ∧ vy ≤ 524288 ∧ 0 ≤ cool ∧ cool ≤ 10 ∧ 0 ≤ score ∧ score ≤ 1073741824)
  else (x = 0 ∧ y = 0 ∧ vx = 0 ∧ vy = 0 ∧ cool = 0 ∧ score = 0)

theorem on_in (a : Int) (w : World) (h : 0 ≤ a) (h' : a < 16777216) :
    Calls Tryz.prog 112 #[.int .i32 a] w fun e w' => e = .returned (.bool true) ∧ w = w' := by
  go_enter Tryz.func112, Tryz.ntmps112
  go_wp2
  go_ret
  exact ⟨rfl, rfl⟩
theorem size_in (a : Int) (w : World) (h : -524288 ≤ a) (h' : a ≤ 524288) :
    Calls Tryz.prog 113 #[.int .i32 a, .int .i32 524288] w fun e w' => e = .returned (.bool true) ∧ w = w' := by
  go_enter Tryz.func113, Tryz.ntmps113
  go_wp2
  go_ret
  exact ⟨rfl, rfl⟩
theorem mayShip_on (x y vx vy cool score : Int) (w : World) (h : OkShip true x y vx vy cool score) :
    Calls Tryz.prog 75 #[.agg #[.bool true, .int .i32 x, .int .i32 y, .int .i32 vx, .int .i32 vy, .int .i64 cool, .int .i64 score]] w fun e w' => e = .returned (.bool true) ∧ Below w.heap.size w w' := by
  unfold OkShip at h
  rw [if_pos rfl] at h
  obtain ⟨h1, h2, h3, h4, h5, h6, h7, h8, h9, h10, h11, h12⟩ := h
  have Hx := Lib.hid (fun w => on_in x w h1 h2)
  have Hy := Lib.hid (fun w => on_in y w h3 h4)
  have Hu := Lib.hid (fun w => size_in vx w h5 h6)
  have Hv := Lib.hid (fun w => size_in vy w h7 h8)
  clear h1 h2 h3 h4 h5 h6 h7 h8
  go_enter Tryz.func75, Tryz.ntmps75
  go_wp2_with fail
  refine (Hx.out _).mono ?_; rintro e w' ⟨rfl, rfl⟩
  go_wp2_with fail
  refine (Hy.out _).mono ?_; rintro e w' ⟨rfl, rfl⟩
  go_wp2_with fail
  refine (Hu.out _).mono ?_; rintro e w' ⟨rfl, rfl⟩
  go_wp2_with fail
  refine (Hv.out _).mono ?_; rintro e w' ⟨rfl, rfl⟩
  go_wp2_with fail
  go_ret
  exact ⟨rfl, by repeat (first | exact Below.refl _ _ | apply Below.drew | (refine Below.alloc ?_ (by simp) _))⟩
theorem mayShip_off (w : World) :
    Calls Tryz.prog 75 #[.agg #[.bool false, .int .i32 0, .int .i32 0, .int .i32 0, .int .i32 0, .int .i64 0, .int .i64 0]] w fun e w' => e = .returned (.bool true) ∧ Below w.heap.size w w' := by
  go_enter Tryz.func75, Tryz.ntmps75
  go_wp2_with fail
  go_ret
  exact ⟨rfl, by repeat (first | exact Below.refl _ _ | apply Below.drew | (refine Below.alloc ?_ (by simp) _))⟩
theorem mayShip_any (on : Bool) (x y vx vy cool score : Int) (w : World) (h : OkShip on x y vx vy cool score) :
    Calls Tryz.prog 75 #[.agg #[.bool on, .int .i32 x, .int .i32 y, .int .i32 vx, .int .i32 vy, .int .i64 cool, .int .i64 score]] w fun e w' => e = .returned (.bool true) ∧ Below w.heap.size w w' := by
  cases on with
  | true => exact mayShip_on x y vx vy cool score w h
  | false =>
    unfold OkShip at h
    rw [if_neg (by decide)] at h
    obtain ⟨rfl, rfl, rfl, rfl, rfl, rfl⟩ := h
    exact mayShip_off w
theorem not_any (on : Bool) (x y vx vy cool score : Int) (w : World) (h : OkShip on x y vx vy cool score) :
    Calls Tryz.prog 74 #[.agg #[.bool on, .int .i32 x, .int .i32 y, .int .i32 vx, .int .i32 vy, .int .i64 cool, .int .i64 score]] w fun e w' => e = .returned (.bool false) ∧ Below w.heap.size w w' := by
  have H := Lib.hid (fun w => mayShip_any on x y vx vy cool score w h)
  clear h
  go_enter Tryz.func74, Tryz.ntmps74
  go_wp2_with fail
  refine (H.out _).mono ?_; rintro e w' ⟨rfl, hg⟩
  have HG := Lib.hid ((((Below.refl w.heap.size w).alloc (Nat.le_refl _) _)).trans (hg.mono (by simp)))
  clear hg
  go_wp2_with fail
  go_ret
  exact ⟨rfl, HG.out⟩
structure ShipAt (W : World) (b o : Nat) (on : Bool) (x y vx vy cool score : Int) : Prop where
  on : W.cell? ⟨b, o, none⟩ = some (.bool on)
  x : W.cell? ⟨b, o + 1, none⟩ = some (.int .i32 x)
  y : W.cell? ⟨b, o + 2, none⟩ = some (.int .i32 y)
  vx : W.cell? ⟨b, o + 3, none⟩ = some (.int .i32 vx)
  vy : W.cell? ⟨b, o + 4, none⟩ = some (.int .i32 vy)
  cool : W.cell? ⟨b, o + 5, none⟩ = some (.int .i64 cool)
  score : W.cell? ⟨b, o + 6, none⟩ = some (.int .i64 score)
def ShipsAt (W : World) (b o : Nat) : Prop := ∀ k, k < 8 → ∃ on x y vx vy cool score, ShipAt W b (o + k * 7) on x y vx vy cool score ∧ OkShip on x y vx vy cool score
theorem ShipsAt.later {W W' : World} {b o : Nat} (h : ShipsAt W b o) (hg : Below W.heap.size W W') : ShipsAt W' b o := fun k hk => by
  obtain ⟨on, x, y, vx, vy, cool, score, hs, ho⟩ := h k hk
  have c : ∀ {p : Addr} {v : Value}, W.cell? p = some v → W'.cell? p = some v := fun {p v} e => (hg.cell (World.block_lt_of_cell? W _ e)).trans e
  exact ⟨on, x, y, vx, vy, cool, score, ⟨c hs.on, c hs.x, c hs.y, c hs.vx, c hs.vy, c hs.cool, c hs.score⟩, ho⟩
theorem index_none (b : Nat) (w : World) (h : ShipsAt w b 2) :
    Calls Tryz.prog 111 #[.slice (some ⟨b, 2, none⟩) 8 8, .func (.func 74) #[] #[]] w fun e w' => e = .returned (.int .i64 (-1)) ∧ Below w.heap.size w w' := by
  have H := Lib.hid h
  clear h
  go_enter Tryz.func111, Tryz.ntmps111
  go_wp2_with fail
  go_loopw [8] (fun i W => ∃ k : Nat, k ≤ 8 ∧ i = .int .i64 k ∧ Hid (Below w.heap.size w W)) (fun i _ => 8 - (intOf i).toNat)
  case atStart => exact ⟨0, Nat.zero_le _, rfl, Lib.hid (Below.refl _ _)⟩
  case round =>
    obtain ⟨k, hk, rfl, HG⟩ := hrel
    by_cases hlt : k < 8
    · obtain ⟨on, x, y, vx, vy, cool, score, hs, ho⟩ := (H.out.later HG.out) k hlt
      obtain ⟨c0, c1, c2, c3, c4, c5, c6⟩ := hs
      have HC := Lib.hid (fun w => not_any on x y vx vy cool score w ho)
      clear ho
      go_wp2_with fail
      refine (HC.out _).mono ?_; rintro e w' ⟨rfl, hg⟩
      have HG' := Lib.hid (HG.out.trans (hg.mono HG.out.size))
      clear hg
      go_wp2_with fail
      exact ⟨⟨k + 1, hlt, rfl, HG'⟩, by simp only [intOf]; omega⟩
    · obtain rfl : k = 8 := by omega
      go_wp2_with fail
      go_ret
      exact ⟨rfl, HG.out⟩
end Go.Proofs.YtdopfonebpklkaaGreat.game
namespace Go.Proofs.YtdopfonebpklkaaGreat.game
open Go.ChangeShapes Go.WideShapes Go.ChangeAt Go.RowKit dice
set_option maxRecDepth 100000

theorem contains_none (b : Nat) (w : World) (h : ShipsAt w b 2) :
    Calls Tryz.prog 73 #[.slice (some ⟨b, 2, none⟩) 8 8, .func (.func 74) #[] #[]] w fun e w' => e = .returned (.bool false) ∧ Below w.heap.size w w' := by
  have H := Lib.hid (index_none b w h)
  clear h
  go_enter Tryz.func73, Tryz.ntmps73
  go_wp2_with fail
  refine H.out.mono ?_; rintro e w' ⟨rfl, hg⟩
  have HG := Lib.hid hg
  clear hg
  go_wp2_with fail
  go_ret
  exact ⟨rfl, HG.out⟩
theorem indexShots_nil (f : Value) (w : World) : Calls Tryz.prog 114 #[.slice none 0 0, f] w fun e w' => e = .returned (.int .i64 (-1)) ∧ w = w' := by
  go_enter Tryz.func114, Tryz.ntmps114
  go_wp2_with fail
  go_loop [8] (fun i => i = .int .i64 0) (fun _ => 0)
  case atStart => rfl
  case round =>
    subst hrel
    go_wp2_with fail
    go_ret
    exact ⟨rfl, rfl⟩
theorem containsShots_nil (f : Value) (w : World) : Calls Tryz.prog 76 #[.slice none 0 0, f] w fun e w' => e = .returned (.bool false) ∧ w = w' := by
  go_enter Tryz.func76, Tryz.ntmps76
  go_wp2_with fail
  refine (indexShots_nil f w).mono ?_; rintro e w' ⟨rfl, rfl⟩
  go_wp2_with fail
  go_ret
  exact ⟨rfl, rfl⟩
/-- A game's cells, where it has no shots. -/
structure Gm (cs : Array Value) (fr d : Int) : Prop where
  size : cs.size = 59
  one : cs.all (·.oneCell') = true
  frame : cs[0]? = some (.int .i64 fr)
  dice : cs[1]? = some (.int .u64 d)
  shots : cs[58]? = some (.slice none 0 0)
  ships : ∀ k, k < 8 → ∃ on x y vx vy cool score, cs[2 + k * 7]? = some (.bool on) ∧ cs[2 + k * 7 + 1]? = some (.int .i32 x) ∧ cs[2 + k * 7 + 2]? = some (.int .i32 y) ∧ cs[2 + k * 7 + 3]? = some (.int .i32 vx) ∧ cs[2 + k * 7 + 4]? = some (.int .i32 vy) ∧ cs[2 + k * 7 + 5]? = some (.int .i64 cool) ∧ cs[2 + k * 7 + 6]? = some (.int .i64 score) ∧ OkShip on x y vx vy cool score
theorem cell_new (w : World) (cs : Array Value) (t : TypeId) (j : Nat) : (w.alloc (.cells cs t)).cell? ⟨w.heap.size, j, none⟩ = cs[j]? := cell_of_row _ _ j cs t (0, 0) (heap_alloc_last w _)
theorem Gm.shipsAt {cs : Array Value} {fr d : Int} (h : Gm cs fr d) (w : World) : ShipsAt (w.alloc (.cells cs 28)) w.heap.size 2 := fun k hk => by
  obtain ⟨on, x, y, vx, vy, cool, score, h0, h1, h2, h3, h4, h5, h6, ho⟩ := h.ships k hk
  exact ⟨on, x, y, vx, vy, cool, score, ⟨(cell_new ..).trans h0, (cell_new ..).trans h1, (cell_new ..).trans h2, (cell_new ..).trans h3, (cell_new ..).trans h4, (cell_new ..).trans h5, (cell_new ..).trans h6⟩, ho⟩

theorem may_any (cs : Array Value) (fr d : Int) (w : World) (h : Gm cs fr d) (h0 : 0 ≤ fr) (h1 : fr ≤ 1048576) :
    Calls Tryz.prog 30 #[.agg cs] w fun e w' => e = .returned (.bool true) ∧ Below w.heap.size w w' := by
  have hf := (cell_new w cs 28 0).trans h.frame
  have hs := (cell_new w cs 28 58).trans h.shots
  have HS := Lib.hid (h.shipsAt w)
  have HB := Lib.hid ((Below.refl w.heap.size w).alloc (Nat.le_refl _) (.cells cs 28))
  have hsz : (w.alloc (.cells cs 28)).heap.size = w.heap.size + 1 := by simp
  clear h
  go_enter Tryz.func30, Tryz.ntmps30
  go_wp2_with fail
  refine (contains_none w.heap.size _ HS.out).mono ?_; rintro e w' ⟨rfl, hg⟩
  have hs2 := (hg.cell (p := ⟨w.heap.size, 58, none⟩) (by simp)).trans hs
  have HB2 := Lib.hid (HB.out.trans (hg.mono (by omega)))
  clear hg hs hf hsz
  go_wp2_with fail
  refine (containsShots_nil _ _).mono ?_; rintro e w' ⟨rfl, rfl⟩
  go_wp2_with fail
  go_ret
  exact ⟨rfl, HB2.out⟩
theorem may_neg (cs : Array Value) (fr : Int) (w : World) (hfr : cs[0]? = some (.int .i64 fr)) (h0 : fr < 0) :
    Calls Tryz.prog 30 #[.agg cs] w fun e w' => e = .returned (.bool false) ∧ Below w.heap.size w w' := by
  have hf := (cell_new w cs 28 0).trans hfr
  have HB := Lib.hid ((Below.refl w.heap.size w).alloc (Nat.le_refl _) (.cells cs 28))
  clear hfr
  go_enter Tryz.func30, Tryz.ntmps30
  go_wp2_with fail
  go_ret
  exact ⟨rfl, HB.out⟩
end Go.Proofs.YtdopfonebpklkaaGreat.game
namespace Go.Proofs.YtdopfonebpklkaaGreat.game
open Go.ChangeShapes Go.WideShapes Go.ChangeAt Go.RowKit dice
set_option maxRecDepth 100000

theorem info28 : (Tryz.prog.info? 28).map (·.size) = some 59 := by kernel_rfl
theorem ld28 (W : World) (b : Nat) (cs : Array Value) (h : W.heap[b]? = some (.cells cs 28 (0, 0))) (hs : cs.size = 59) :
    (loadCellsFrom ⟨b, 0, none⟩ 0 59 #[]).run Tryz.prog W = .ok cs W := by
  have := run_loadCells_list (P := Tryz.prog) (w := W) ⟨b, 0, none⟩ cs.toList (fun j v hv => by
    have hadd : (⟨b, 0, none⟩ : Addr).add j = ⟨b, j, none⟩ := by unfold Addr.add; split <;> simp_all
    rw [hadd, cell_of_row W b j cs 28 (0, 0) h]
    simpa using hv)
  simpa [loadCells, hs] using this
theorem sc28 (W : World) (b : Nat) (old cs : Array Value) (h : W.heap[b]? = some (.cells old 28 (0, 0))) (ho : old.size = 59) (hs : cs.size = 59) (h1 : cs.all (·.oneCell') = true) :
    (storeCells ⟨b, 0, none⟩ cs.toList 0).run Tryz.prog W = .ok () (W.setRow b cs) := by
  have := run_storeVar_row (P := Tryz.prog) W b 28 28 old cs h (by rw [hs]; exact info28) (by rw [ho, hs]) h1
  cases hq : Tryz.prog.info? 28 with
  | none => have := info28; simp [hq] at this
  | some i =>
    have hi : i.size = 59 := by have := info28; simpa [hq] using this
    simpa [storeVar, sizeOf, typeInfo, hq, Value.cells, hs, hi] using this
theorem scn28 (W : World) (cs : Array Value) (hs : cs.size = 59) (h1 : cs.all (·.oneCell') = true) :
    (storeCells ⟨W.heap.size, 0, none⟩ cs.toList 0).run Tryz.prog (W.alloc (.cells #[.int .i64 0, .int .u64 0, .bool false, .int .i32 0, .int .i32 0, .int .i32 0, .int .i32 0, .int .i64 0, .int .i64 0, .bool false, .int .i32 0, .int .i32 0, .int .i32 0, .int .i32 0, .int .i64 0, .int .i64 0, .bool false, .int .i32 0, .int .i32 0, .int .i32 0, .int .i32 0, .int .i64 0, .int .i64 0, .bool false, .int .i32 0, .int .i32 0, .int .i32 0, .int .i32 0, .int .i64 0, .int .i64 0, .bool false, .int .i32 0, .int .i32 0, .int .i32 0, .int .i32 0, .int .i64 0, .int .i64 0, .bool false, .int .i32 0, .int .i32 0, .int .i32 0, .int .i32 0, .int .i64 0, .int .i64 0, .bool false, .int .i32 0, .int .i32 0, .int .i32 0, .int .i32 0, .int .i64 0, .int .i64 0, .bool false, .int .i32 0, .int .i32 0, .int .i32 0, .int .i32 0, .int .i64 0, .int .i64 0, .slice none 0 0] 28)) = .ok () (W.alloc (.cells cs 28)) := by
  have := sc28 (W.alloc (.cells #[.int .i64 0, .int .u64 0, .bool false, .int .i32 0, .int .i32 0, .int .i32 0, .int .i32 0, .int .i64 0, .int .i64 0, .bool false, .int .i32 0, .int .i32 0, .int .i32 0, .int .i32 0, .int .i64 0, .int .i64 0, .bool false, .int .i32 0, .int .i32 0, .int .i32 0, .int .i32 0, .int .i64 0, .int .i64 0, .bool false, .int .i32 0, .int .i32 0, .int .i32 0, .int .i32 0, .int .i64 0, .int .i64 0, .bool false, .int .i32 0, .int .i32 0, .int .i32 0, .int .i32 0, .int .i64 0, .int .i64 0, .bool false, .int .i32 0, .int .i32 0, .int .i32 0, .int .i32 0, .int .i64 0, .int .i64 0, .bool false, .int .i32 0, .int .i32 0, .int .i32 0, .int .i32 0, .int .i64 0, .int .i64 0, .bool false, .int .i32 0, .int .i32 0, .int .i32 0, .int .i32 0, .int .i64 0, .int .i64 0, .slice none 0 0] 28)) W.heap.size _ cs (heap_alloc_last W _) rfl hs h1
  rw [this, World.setRow_alloc_new]
theorem lv28 (W : World) (b : Nat) (cs : Array Value) (h : W.heap[b]? = some (.cells cs 28 (0, 0))) (hs : cs.size = 59) :
    (loadVar 28 ⟨b, 0, none⟩).run Tryz.prog W = .ok (.agg cs) W :=
  run_loadVar_row W b 28 28 cs (0, 0) _ h Tryz.underlying28 rfl (by rw [hs]; exact info28)
theorem res1 {fn : Func} {p : Tmp} {tmps : Array Value} {w : World} {b : Nat} {cs : Array Value} (h : fn.results = #[.cell p 28]) (ha : tmps.getD p undef = .pointer (some ⟨b, 0, none⟩)) (hb : w.heap[b]? = some (.cells cs 28 (0, 0))) (hs : cs.size = 59) :
    (results fn tmps).run Tryz.prog w = .ok (.agg cs) w := by
  rw [Array.getD_eq_getD_getElem?] at ha
  simp only [results, h]
  simp [ha, asAddr, lv28 w b cs hb hs]
theorem res2 {fn : Func} {p u : Tmp} {tmps : Array Value} {w : World} {b : Nat} {cs : Array Value} {v : Value} (h : fn.results = #[.cell p 28, .tmp u]) (ha : tmps.getD p undef = .pointer (some ⟨b, 0, none⟩)) (hu : tmps.getD u undef = v) (hb : w.heap[b]? = some (.cells cs 28 (0, 0))) (hs : cs.size = 59) :
    (results fn tmps).run Tryz.prog w = .ok (.tuple #[.agg cs, v]) w := by
  rw [results_cell_tmp h]
  simp [Result.andThen, ha, hu, asAddr, lv28 w b cs hb hs]
theorem wl_store28 {ops : Array Oper} {rest : List Oper} {op : Oper} {a : Act} {w w0 : World} {Q : Exit → Act → World → Prop} (hgd : op.guard = none) (x y : Operand) (ho : op.op = .store 28 x y)
    (c c' : Array Value) (hw : w = w0.alloc (.cells c 28)) (hx : a.eval x = .pointer (some ⟨w0.heap.size, 0, none⟩)) (hy : a.eval y = .agg c') (hc : c.size = 59) (hs : c'.size = 59) (h1 : c'.all (·.oneCell') = true)
    (h : wpList Tryz.prog ops Q rest (a.put op.dst undef) (w0.alloc (.cells c' 28))) : wpList Tryz.prog ops Q (op :: rest) a w := by
  subst hw
  refine wpList_plain hgd fun _ hK => wp_store_row 28 x y ho w0.heap.size c' hx hy 28 c (heap_alloc_last w0 _) (by rw [hs]; exact info28) (by rw [hc, hs]) h1 (hK _ _ ?_)
  rw [World.setRow_alloc_new]
  exact h
def fresh (d : Int) : Array Value := #[.int .i64 0, .int .u64 d, .bool false, .int .i32 0, .int .i32 0, .int .i32 0, .int .i32 0, .int .i64 0, .int .i64 0, .bool false, .int .i32 0, .int .i32 0, .int .i32 0, .int .i32 0, .int .i64 0, .int .i64 0, .bool false, .int .i32 0, .int .i32 0, .int .i32 0, .int .i32 0, .int .i64 0, .int .i64 0, .bool false, .int .i32 0, .int .i32 0, .int .i32 0, .int .i32 0, .int .i64 0, .int .i64 0, .bool false, .int .i32 0, .int .i32 0, .int .i32 0, .int .i32 0, .int .i64 0, .int .i64 0, .bool false, .int .i32 0, .int .i32 0, .int .i32 0, .int .i32 0, .int .i64 0, .int .i64 0, .bool false, .int .i32 0, .int .i32 0, .int .i32 0, .int .i32 0, .int .i64 0, .int .i64 0, .bool false, .int .i32 0, .int .i32 0, .int .i32 0, .int .i32 0, .int .i64 0, .int .i64 0, .slice none 0 0]
theorem fresh_one (d : Int) : (fresh d).all (·.oneCell') = true := by simp [fresh, Value.oneCell']
theorem fresh_gm (d : Int) : Gm (fresh d) 0 d := by
  refine ⟨rfl, fresh_one d, rfl, rfl, rfl, fun k hk => ?_⟩
  have hz : OkShip false 0 0 0 0 0 0 := by unfold OkShip; simp
  match k, hk with
  | 0, _ | 1, _ | 2, _ | 3, _ | 4, _ | 5, _ | 6, _ | 7, _ => exact ⟨_, _, _, _, _, _, _, rfl, rfl, rfl, rfl, rfl, rfl, rfl, hz⟩
theorem new_any (s : ByteArray) (w : World) (hs : s.size ≤ maxLen) :
    Calls Tryz.prog 66 #[.string s] w fun e w' => e = .returned (.agg (fresh (seed s.data.toList))) ∧ Below w.heap.size w w' := by
  have H := Lib.hid (seed_any s)
  go_enter Tryz.func66, Tryz.ntmps66
  go_wp2_with fail
  refine (seed_any s _ hs).mono ?_; rintro e w' ⟨rfl, rfl⟩
  obtain ⟨d, hd⟩ : ∃ d, seed s.data.toList = d := ⟨_, rfl⟩
  rw [hd]
  have Hd := Lib.hid hd
  clear hd
  have HB := Lib.hid ((Below.refl w.heap.size w).alloc (Nat.le_refl _) (.cells (fresh d) 28))
  have hld := ld28 (w.alloc (.cells (fresh d) 28)) w.heap.size (fresh d) (heap_alloc_last w _) rfl
  go_wp2_with (refine wl_store28 rfl _ _ rfl _ (fresh d) rfl rfl rfl rfl rfl (fresh_one d) ?_)
  refine bodyPost_ret (v := .agg (fresh d)) ?_ rfl ⟨by rw [Hd.out], HB.out⟩
  exact res1 rfl rfl (heap_alloc_last w _) rfl
end Go.Proofs.YtdopfonebpklkaaGreat.game
namespace Go.Proofs.YtdopfonebpklkaaGreat.game
open Go.ChangeShapes Go.WideShapes Go.ChangeAt Go.RowKit dice
set_option maxRecDepth 100000

theorem equalShots_nil (w : World) : Calls Tryz.prog 107 #[.slice none 0 0, .slice none 0 0] w fun e w' => e = .returned (.bool true) ∧ w = w' := by
  go_enter Tryz.func107, Tryz.ntmps107
  go_wp2_with fail
  go_loop [13] (fun i => i = .int .i64 0) (fun _ => 0)
  case atStart => rfl
  case round =>
    subst hrel
    go_wp2_with fail
    go_ret
    exact ⟨rfl, rfl⟩
theorem info25 : (Tryz.prog.info? 25).map (·.size) = some 56 := by kernel_rfl
theorem wl_ld28 {ops : Array Oper} {rest : List Oper} {op : Oper} {a : Act} {w : World} {Q : Exit → Act → World → Prop} (hw : Region.wanted op (yielded ops a.tmps) = true) (x : Operand) (ho : op.op = .load 28 x)
    (b : Nat) (hx : a.eval x = .pointer (some ⟨b, 0, none⟩)) (cs : Array Value) (hg : w.heap[b]? = some (.cells cs 28 (0, 0))) (hs : cs.size = 59)
    (h : wpList Tryz.prog ops Q rest (a.put op.dst (.agg cs)) w) : wpList Tryz.prog ops Q (op :: rest) a w :=
  BigFrame.wpList_want hw fun _ hK => wp_load_row 28 x ho b hx 28 cs (0, 0) _ hg Tryz.underlying28 rfl (by rw [hs]; exact info28) (hK _ _ h)
theorem wl_ld25 {ops : Array Oper} {rest : List Oper} {op : Oper} {a : Act} {w : World} {Q : Exit → Act → World → Prop} (hw : Region.wanted op (yielded ops a.tmps) = true) (x : Operand) (ho : op.op = .load 25 x)
    (b : Nat) (hx : a.eval x = .pointer (some ⟨b, 2, none⟩)) (cs : List Value) (hg : w.rangeAt b 2 cs) (hs : cs.length = 56)
    (h : wpList Tryz.prog ops Q rest (a.put op.dst (.agg cs.toArray)) w) : wpList Tryz.prog ops Q (op :: rest) a w :=
  BigFrame.wpList_want hw fun _ hK => wp_load_mid 25 x ho b 2 hx cs _ hg Tryz.underlying25 rfl (by rw [hs]; exact info25) (hK _ _ h)
theorem range25 (W : World) (b : Nat) (cs : Array Value) (h : W.heap[b]? = some (.cells cs 28 (0, 0))) (ss : List Value) (hs : ∀ j v, ss[j]? = some v → cs[2 + j]? = some v) : W.rangeAt b 2 ss :=
  fun j v hv => (cell_of_row W b (2 + j) cs 28 (0, 0) h).trans (hs j v hv)
theorem two1 (w : World) (a b : Array Value) (t u : TypeId) : ((w.alloc (.cells a t)).alloc (.cells b u)).heap[w.heap.size]? = some (.cells a t (0, 0)) := by
  rw [Below.heap_alloc _ _ _ (by simp)]; exact heap_alloc_last w _
theorem two2 (w : World) (a b : Array Value) (t u : TypeId) : ((w.alloc (.cells a t)).alloc (.cells b u)).heap[w.heap.size + 1]? = some (.cells b u (0, 0)) := by
  have := heap_alloc_last (w.alloc (.cells a t)) (.cells b u)
  simpa using this
/-- Eight ships that are none. -/
def z56 : List Value := [.bool false, .int .i32 0, .int .i32 0, .int .i32 0, .int .i32 0, .int .i64 0, .int .i64 0, .bool false, .int .i32 0, .int .i32 0, .int .i32 0, .int .i32 0, .int .i64 0, .int .i64 0, .bool false, .int .i32 0, .int .i32 0, .int .i32 0, .int .i32 0, .int .i64 0, .int .i64 0, .bool false, .int .i32 0, .int .i32 0, .int .i32 0, .int .i32 0, .int .i64 0, .int .i64 0, .bool false, .int .i32 0, .int .i32 0, .int .i32 0, .int .i32 0, .int .i64 0, .int .i64 0, .bool false, .int .i32 0, .int .i32 0, .int .i32 0, .int .i32 0, .int .i64 0, .int .i64 0, .bool false, .int .i32 0, .int .i32 0, .int .i32 0, .int .i32 0, .int .i64 0, .int .i64 0, .bool false, .int .i32 0, .int .i32 0, .int .i32 0, .int .i32 0, .int .i64 0, .int .i64 0]
/-- A game without ships and shots. -/
def gz (fr d : Int) : Array Value := (.int .i64 fr :: .int .u64 d :: (z56 ++ [.slice none 0 0])).toArray
theorem gz_fresh (d : Int) : fresh d = gz 0 d := rfl
theorem gz_one (fr d : Int) : (gz fr d).all (·.oneCell') = true := by simp [gz, z56, Value.oneCell']
theorem gz_gm (fr d : Int) : Gm (gz fr d) fr d := by
  refine ⟨rfl, gz_one fr d, rfl, rfl, rfl, fun k hk => ?_⟩
  have hz : OkShip false 0 0 0 0 0 0 := by unfold OkShip; simp
  match k, hk with
  | 0, _ | 1, _ | 2, _ | 3, _ | 4, _ | 5, _ | 6, _ | 7, _ => exact ⟨_, _, _, _, _, _, _, rfl, rfl, rfl, rfl, rfl, rfl, rfl, hz⟩
theorem gz_ships (fr d : Int) (j : Nat) (v : Value) (h : z56[j]? = some v) : (gz fr d)[2 + j]? = some v := by
  have hj := (List.getElem?_eq_some_iff.1 h).1
  unfold gz
  rw [List.getElem?_toArray, Nat.add_comm, List.getElem?_cons_succ, List.getElem?_cons_succ, List.getElem?_append_left hj]
  exact h
noncomputable def l56 : List Lit := (Tryz.prog.keyLits 10 25 z56).getD []
theorem kl56 : Tryz.prog.keyLits 10 25 z56 = some l56 := by
  have : (Tryz.prog.keyLits 10 25 z56).isSome = true := by kernel_rfl
  unfold l56
  cases h : Tryz.prog.keyLits 10 25 z56 with
  | none => rw [h] at this; cases this
  | some l => rfl
theorem eq25 (W : World) : (Op.equalIn 10000 25 (.agg z56.toArray) (.agg z56.toArray)).run Tryz.prog W = .ok true W := by
  obtain ⟨r, h, hr⟩ := run_equalIn_deep (P := Tryz.prog) 9990 10 25 (by kernel_rfl) W 10 10 (.agg z56.toArray) (.agg z56.toArray) l56 l56 (by kernel_rfl) (by kernel_rfl) kl56 kl56
  rw [hr.2 rfl] at h
  exact h
theorem same_refl (fr d : Int) (w : World) :
    Calls Tryz.prog 63 #[.agg (gz fr d), .agg (gz fr d)] w fun e w' => e = .returned (.bool true) ∧ Below w.heap.size w w' := by
  have h := gz_gm fr d
  have hs := gz_ships fr d
  generalize gz fr d = cs at *
  have hB1 := two1 w cs cs 28 28
  have hB2 := two2 w cs cs 28 28
  have r1 := Lib.hid (range25 _ _ cs hB1 z56 hs)
  have r2 := Lib.hid (range25 _ _ cs hB2 z56 hs)
  have c0 := (cell_of_row _ _ 0 cs 28 (0, 0) hB1).trans h.frame
  have c1 := (cell_of_row _ _ 1 cs 28 (0, 0) hB1).trans h.dice
  have c58 := (cell_of_row _ _ 58 cs 28 (0, 0) hB1).trans h.shots
  have d0 := (cell_of_row _ _ 0 cs 28 (0, 0) hB2).trans h.frame
  have d1 := (cell_of_row _ _ 1 cs 28 (0, 0) hB2).trans h.dice
  have d58 := (cell_of_row _ _ 58 cs 28 (0, 0) hB2).trans h.shots
  have HB := Lib.hid (((Below.refl w.heap.size w).alloc (Nat.le_refl _) (.cells cs 28)).alloc (by simp) (.cells cs 28))
  have he := eq25 ((w.alloc (.cells cs 28)).alloc (.cells cs 28))
  have hzl : z56.length = 56 := rfl
  have Hzl := Lib.hid hzl
  generalize z56 = ss at *
  clear h hs hB1 hB2 hzl
  go_enter Tryz.func63, Tryz.ntmps63
  go_wp2_with (first | (refine wl_ld25 rfl _ rfl _ rfl ss r1.out Hzl.out ?_) | (refine wl_ld25 rfl _ rfl _ rfl ss r2.out Hzl.out ?_))
  refine (equalShots_nil _).mono ?_; rintro e w' ⟨rfl, rfl⟩
  clear he
  go_wp2_with fail
  go_ret
  exact ⟨rfl, HB.out⟩
theorem same_frame (cs ds : Array Value) (fr fr' : Int) (w : World) (h : cs[0]? = some (.int .i64 fr)) (h' : ds[0]? = some (.int .i64 fr')) (hne : (fr == fr') = false) :
    Calls Tryz.prog 63 #[.agg cs, .agg ds] w fun e w' => e = .returned (.bool false) ∧ Below w.heap.size w w' := by
  have c0 := (cell_of_row _ _ 0 cs 28 (0, 0) (two1 w cs ds 28 28)).trans h
  have d0 := (cell_of_row _ _ 0 ds 28 (0, 0) (two2 w cs ds 28 28)).trans h'
  have HB := Lib.hid (((Below.refl w.heap.size w).alloc (Nat.le_refl _) (.cells cs 28)).alloc (by simp) (.cells ds 28))
  clear h h'
  go_enter Tryz.func63, Tryz.ntmps63
  go_wp2_with fail
  go_ret
  exact ⟨rfl, HB.out⟩
end Go.Proofs.YtdopfonebpklkaaGreat.game
namespace Go.Proofs.YtdopfonebpklkaaGreat.game
open Go.ChangeShapes Go.WideShapes Go.ChangeAt Go.RowKit dice
set_option maxRecDepth 100000

def splice (cs : Array Value) (o : Nat) (vs : List Value) : Array Value := (cs.toList.take o ++ vs ++ cs.toList.drop (o + vs.length)).toArray
/-- The blocks that a call has made so far, and what they hold; all that was there before stands. -/
structure St (w0 w : World) (l : List (Nat × Array Value × TypeId)) : Prop where
  below : Below w0.heap.size w0 w
  holds : ∀ p ∈ l, w.heap[p.1]? = some (.cells p.2.1 p.2.2 (0, 0))
  ge : ∀ p ∈ l, w0.heap.size ≤ p.1
  nd : (l.map (·.1)).Nodup
theorem St.start (w : World) : St w w [] := ⟨Below.refl _ _, fun _ h => by simp at h, fun _ h => by simp at h, by simp⟩
theorem St.lt {w0 w : World} {l : List (Nat × Array Value × TypeId)} (h : St w0 w l) : ∀ p ∈ l, p.1 < w.heap.size := fun p hp => (Array.getElem?_eq_some_iff.1 (h.holds p hp)).1
theorem St.call {w0 w w' : World} {l : List (Nat × Array Value × TypeId)} (h : St w0 w l) (hb : Below w.heap.size w w') : St w0 w' l :=
  ⟨h.below.trans (hb.mono h.below.size), fun p hp => (hb.block p.1 (h.lt p hp)).trans (h.holds p hp), h.ge, h.nd⟩
theorem St.new {w0 w : World} {l : List (Nat × Array Value × TypeId)} (h : St w0 w l) (c : Array Value) (t : TypeId) : St w0 (w.alloc (.cells c t)) ((w.heap.size, c, t) :: l) := by
  refine ⟨h.below.alloc h.below.size _, fun p hp => ?_, fun p hp => ?_, ?_⟩
  · rcases List.mem_cons.1 hp with rfl | hp
    · exact heap_alloc_last w _
    · exact (Below.heap_alloc w _ _ (h.lt p hp)).trans (h.holds p hp)
  · rcases List.mem_cons.1 hp with rfl | hp
    · exact h.below.size
    · exact h.ge p hp
  · rw [List.map_cons, List.nodup_cons]
    refine ⟨fun hm => ?_, h.nd⟩
    obtain ⟨p, hp, he⟩ := List.mem_map.1 hm
    have := h.lt p hp
    omega
theorem heap_setRow_ne (w : World) (g : Nat) (cs : Array Value) (k : Nat) (h : k ≠ g) : (w.setRow g cs).heap[k]? = w.heap[k]? := by
  simp only [World.setRow, Array.getElem?_modify]
  rw [if_neg (fun e => h e.symm)]
theorem St.put {w0 w : World} {l : List (Nat × Array Value × TypeId)} (h : St w0 w l) (i : Nat) (g : Nat) (c c' : Array Value) (t : TypeId) (hl : l[i]? = some (g, c, t)) : St w0 (w.setRow g c') (l.set i (g, c', t)) := by
  have hi := (List.getElem?_eq_some_iff.1 hl).1
  have hm : (g, c, t) ∈ l := List.mem_of_getElem? hl
  have hg := h.ge _ hm
  have hg' : w.heap[g]? = some (.cells c t (0, 0)) := h.holds _ hm
  have hmap : (l.set i (g, c', t)).map (·.1) = l.map (·.1) := by
    rw [List.map_set]
    apply List.ext_getElem?
    intro j
    rw [List.getElem?_set]
    split
    · rename_i e
      subst e
      rw [List.getElem?_map, hl]
      simp [hi]
    · rfl
  refine ⟨⟨h.below.os, h.below.tape, h.below.output, by rw [size_setRow]; exact h.below.size, fun k hk => ?_⟩, fun p hp => ?_, fun p hp => ?_, by rw [hmap]; exact h.nd⟩
  · rw [heap_setRow_ne _ _ _ _ (by have : w0.heap.size ≤ g := hg; omega)]
    exact h.below.block k hk
  · obtain ⟨j, hj⟩ := List.mem_iff_getElem?.1 hp
    rw [List.getElem?_set] at hj
    by_cases e : i = j
    · rw [if_pos e, if_pos hi] at hj
      injection hj with hj
      subst hj
      exact setRow_heap w g c c' t (0, 0) hg'
    · rw [if_neg e] at hj
      have hne : p.1 ≠ g := fun e2 => by
        have h1 : (l.map (·.1))[j]? = some g := by rw [List.getElem?_map, hj]; simp [e2]
        have h2 : (l.map (·.1))[i]? = some g := by rw [List.getElem?_map, hl]; rfl
        exact e ((List.getElem?_inj (by simpa using hi) h.nd).1 (h2.trans h1.symm))
      rw [heap_setRow_ne _ _ _ _ hne]
      exact h.holds p (List.mem_of_getElem? hj)
  · have : p.1 ∈ (l.set i (g, c', t)).map (·.1) := List.mem_map_of_mem hp
    rw [hmap] at this
    obtain ⟨p', hp', e⟩ := List.mem_map.1 this
    rw [← e]
    exact h.ge p' hp'
section
variable {ops : Array Oper} {rest : List Oper} {op : Oper} {a : Act} {w w0 : World} {Q : Exit → Act → World → Prop} {l : List (Nat × Array Value × TypeId)}
theorem wl_box (H : St w0 w l) (hw : Region.wanted op (yielded ops a.tmps) = true) (t : TypeId) (x : Operand) (ho : op.op = .box t x) (c : Array Value) (hx : (a.eval x).cells = c)
    (h : ∀ b w', St w0 w' ((b, c, t) :: l) → wpList Tryz.prog ops Q rest (a.put op.dst (.pointer (some ⟨b, 0, none⟩))) w') : wpList Tryz.prog ops Q (op :: rest) a w := by
  refine BigFrame.wpList_want hw fun _ hK => ?_
  unfold Oper.wp execOp
  simp only [ho, Instr.box, newVar, newRow, Sem.run_bind, Sem.run_pure, run_newObj_alloc, Result.andThen_ok, hx]
  exact hK _ _ (h _ _ (H.new c t))
theorem wl_alloc (H : St w0 w l) (hw : Region.wanted op (yielded ops a.tmps) = true) (t : TypeId) (ho : op.op = .alloc t) (z : Value) (hz : ∀ w, (zeroValue t).run Tryz.prog w = .ok z w)
    (h : ∀ b w', St w0 w' ((b, z.cells, t) :: l) → wpList Tryz.prog ops Q rest (a.put op.dst (.pointer (some ⟨b, 0, none⟩))) w') : wpList Tryz.prog ops Q (op :: rest) a w := by
  refine BigFrame.wpList_want hw fun _ hK => ?_
  unfold Oper.wp execOp
  simp only [ho, Instr.alloc, newVar, newRow, Sem.run_bind, Sem.run_pure, run_newObj_alloc, Result.andThen_ok, hz]
  exact hK _ _ (h _ _ (H.new z.cells t))
/-- A whole block as a value. -/
theorem wl_whole (H : St w0 w l) (hw : Region.wanted op (yielded ops a.tmps) = true) (i : Nat) (t : TypeId) (x : Operand) (ho : op.op = .load t x) (g : Nat) (hx : a.eval x = .pointer (some ⟨g, 0, none⟩)) (c : Array Value) (hl : l[i]? = some (g, c, t))
    (d : TypeDesc) (hu : Tryz.prog.underlying t = some d) (hd : d.isRow = true) (n : Nat) (hi : (Tryz.prog.info? t).map (·.size) = some n) (hn : c.size = n)
    (h : wpList Tryz.prog ops Q rest (a.put op.dst (.agg c)) w) : wpList Tryz.prog ops Q (op :: rest) a w :=
  BigFrame.wpList_want hw fun _ hK => wp_load_mid t x ho g 0 hx c.toList d (fun j v hv => by
    rw [Nat.zero_add, cell_of_row w g j c t (0, 0) (H.holds _ (List.mem_of_getElem? hl))]
    simpa using hv) hu hd (by rw [Array.length_toList, hn]; exact hi) (hK _ _ (by rw [Array.toArray_toList]; exact h))
/-- A part of a block as a value. -/
theorem wl_part (H : St w0 w l) (hw : Region.wanted op (yielded ops a.tmps) = true) (i : Nat) (ty : TypeId) (x : Operand) (ho : op.op = .load ty x) (g o : Nat) (hx : a.eval x = .pointer (some ⟨g, o, none⟩)) (c : Array Value) (t : TypeId) (hl : l[i]? = some (g, c, t))
    (d : TypeDesc) (hu : Tryz.prog.underlying ty = some d) (hd : d.isRow = true) (n : Nat) (hi : (Tryz.prog.info? ty).map (·.size) = some n) (vs : List Value) (hvs : (c.toList.drop o).take n = vs) (hn : vs.length = n)
    (h : wpList Tryz.prog ops Q rest (a.put op.dst (.agg vs.toArray)) w) : wpList Tryz.prog ops Q (op :: rest) a w :=
  BigFrame.wpList_want hw fun _ hK => wp_load_mid ty x ho g o hx vs d (fun j v hv => by
    rw [cell_of_row w g (o + j) c t (0, 0) (H.holds _ (List.mem_of_getElem? hl))]
    rw [← hvs] at hv
    simp [List.getElem?_take, List.getElem?_drop] at hv
    simpa using hv.2) hu hd (by rw [hn]; exact hi) (hK _ _ h)
/-- One cell of a block. -/
theorem wl_cell (H : St w0 w l) (hw : Region.wanted op (yielded ops a.tmps) = true) (i : Nat) (ty : TypeId) (x : Operand) (ho : op.op = .load ty x) (g o : Nat) (hx : a.eval x = .pointer (some ⟨g, o, none⟩)) (c : Array Value) (t : TypeId) (hl : l[i]? = some (g, c, t))
    (ha : ∀ w, (isAgg ty).run Tryz.prog w = .ok false w) (v : Value) (hv : c[o]? = some v)
    (h : wpList Tryz.prog ops Q rest (a.put op.dst v) w) : wpList Tryz.prog ops Q (op :: rest) a w := by
  refine BigFrame.wpList_want hw fun _ hK => ?_
  have hc := (cell_of_row w g o c t (0, 0) (H.holds _ (List.mem_of_getElem? hl))).trans hv
  unfold Oper.wp execOp
  simp only [ho, hx, Instr.loadAt, Instr.sureAddr, Sem.run_bind, Sem.run_pure, Result.andThen_ok, loadVar, ha, Bool.false_eq_true, if_false, run_load, hc]
  exact hK _ _ h
/-- A value into a block. -/
theorem wl_put (H : St w0 w l) (hw : Region.wanted op (yielded ops a.tmps) = true) (i : Nat) (ty : TypeId) (x y : Operand) (ho : op.op = .store ty x y) (g o : Nat) (hx : a.eval x = .pointer (some ⟨g, o, none⟩)) (c : Array Value) (t : TypeId) (hl : l[i]? = some (g, c, t))
    (v : Value) (hy : a.eval y = v) (n : Nat) (hi : (Tryz.prog.info? ty).map (·.size) = some n) (hn : v.cells.size = n) (hfit : Nat.ble (o + n) c.size = true) (h1 : v.cells.toList.all (·.oneCell') = true)
    (h : ∀ w', St w0 w' (l.set i (g, splice c o v.cells.toList, t)) → wpList Tryz.prog ops Q rest (a.put op.dst undef) w') : wpList Tryz.prog ops Q (op :: rest) a w := by
  refine BigFrame.wpList_want hw fun _ hK => ?_
  have hb := H.holds _ (List.mem_of_getElem? hl)
  have hst := run_storeCells_at (P := Tryz.prog) g o t v.cells.toList 0 c w hb (by have := Nat.le_of_ble_eq_true hfit; simp [hn]; exact this) (fun u hu => List.all_eq_true.1 h1 u hu)
  have hsv : (storeVar ty ⟨g, o, none⟩ v).run Tryz.prog w = .ok () (w.setRow g (splice c o v.cells.toList)) := by
    cases hq : Tryz.prog.info? ty with
    | none => simp [hq] at hi
    | some k =>
      have hk : k.size = n := by simpa [hq] using hi
      simp only [Nat.add_zero] at hst
      simp [storeVar, sizeOf, typeInfo, hq, hn, hk, hst, splice]
  unfold Oper.wp execOp
  simp only [ho, hx, hy, Instr.storeAt, Instr.sureAddr, Sem.run_bind, Sem.run_pure, Result.andThen_ok, hsv]
  exact hK _ _ (h _ (H.put i g c _ t hl))
end
theorem info24 : (Tryz.prog.info? 24).map (·.size) = some 7 := by kernel_rfl
theorem info3 : (Tryz.prog.info? 3).map (·.size) = some 1 := by kernel_rfl
theorem info4 : (Tryz.prog.info? 4).map (·.size) = some 1 := by kernel_rfl
theorem info21 : (Tryz.prog.info? 21).map (·.size) = some 1 := by kernel_rfl
theorem info22 : (Tryz.prog.info? 22).map (·.size) = some 1 := by kernel_rfl
theorem info26 : (Tryz.prog.info? 26).map (·.size) = some 1 := by kernel_rfl
end Go.Proofs.YtdopfonebpklkaaGreat.game
namespace Go.Proofs.YtdopfonebpklkaaGreat.game
open Go.ChangeShapes Go.WideShapes Go.ChangeAt Go.RowKit dice
set_option maxRecDepth 100000

structure Sht where
  owner : Int
  x : Int
  y : Int
  vx : Int
  vy : Int
  left : Int
def shotL (s : Sht) : List Value := [.int .i64 s.owner, .int .i32 s.x, .int .i32 s.y, .int .i32 s.vx, .int .i32 s.vy, .int .i64 s.left]
def cellsL (L : List Sht) : List Value := L.flatMap shotL
structure OkShot (s : Sht) : Prop where
  o0 : 0 ≤ s.owner
  o1 : s.owner < 8
  x0 : 0 ≤ s.x
  x1 : s.x < 16777216
  y0 : 0 ≤ s.y
  y1 : s.y < 16777216
  u0 : -393216 ≤ s.vx
  u1 : s.vx ≤ 393216
  v0 : -393216 ≤ s.vy
  v1 : s.vy ≤ 393216
  l0 : 1 ≤ s.left
  l1 : s.left ≤ 24
theorem length_cellsL (L : List Sht) : (cellsL L).length = L.length * 6 := by
  induction L with
  | nil => rfl
  | cons s L ih => unfold cellsL at *; rw [List.flatMap_cons, List.length_append, ih, List.length_cons]; simp only [shotL, List.length_cons, List.length_nil]; omega
theorem cellsL_at : ∀ (L : List Sht) (i j : Nat) (s : Sht) (v : Value), L[i]? = some s → (shotL s)[j]? = some v → (cellsL L)[i * 6 + j]? = some v
  | [], i, _, _, _, h, _ => by simp at h
  | s' :: L, 0, j, s, v, h, hj => by
    simp at h
    subst h
    have hl : j < (shotL s').length := (List.getElem?_eq_some_iff.1 hj).1
    unfold cellsL
    rw [List.flatMap_cons, Nat.zero_mul, Nat.zero_add, List.getElem?_append_left hl]
    exact hj
  | s' :: L, i + 1, j, s, v, h, hj => by
    have ih := cellsL_at L i j s v (by simpa using h) hj
    unfold cellsL at *
    have hl : (shotL s').length = 6 := rfl
    rw [List.flatMap_cons, List.getElem?_append_right (by rw [hl]; omega), hl, show (i + 1) * 6 + j - 6 = i * 6 + j by omega]
    exact ih
/-- Where shots lie. -/
def ShotsIn (W : World) (sl : Value) (L : List Sht) : Prop :=
  (L = [] ∧ sl = .slice none 0 0) ∨ ∃ g o c, sl = .slice (some ⟨g, o, none⟩) L.length c ∧ g < W.heap.size ∧ ∀ j v, (cellsL L)[j]? = some v → W.cell? ⟨g, o + j, none⟩ = some v
theorem ShotsIn.later {W W' : World} {sl : Value} {L : List Sht} (h : ShotsIn W sl L) (hb : Below W.heap.size W W') : ShotsIn W' sl L := by
  rcases h with h | ⟨g, o, c, h1, h2, h3⟩
  · exact .inl h
  · exact .inr ⟨g, o, c, h1, Nat.lt_of_lt_of_le h2 hb.size, fun j v hv => (hb.cell (p := ⟨g, o + j, none⟩) h2).trans (h3 j v hv)⟩
structure ShotAt (W : World) (g o : Nat) (s : Sht) : Prop where
  owner : W.cell? ⟨g, o, none⟩ = some (.int .i64 s.owner)
  x : W.cell? ⟨g, o + 1, none⟩ = some (.int .i32 s.x)
  y : W.cell? ⟨g, o + 2, none⟩ = some (.int .i32 s.y)
  vx : W.cell? ⟨g, o + 3, none⟩ = some (.int .i32 s.vx)
  vy : W.cell? ⟨g, o + 4, none⟩ = some (.int .i32 s.vy)
  left : W.cell? ⟨g, o + 5, none⟩ = some (.int .i64 s.left)
theorem shot_at {W : World} {g o : Nat} {L : List Sht} (h : ∀ j v, (cellsL L)[j]? = some v → W.cell? ⟨g, o + j, none⟩ = some v) (i : Nat) (s : Sht) (hs : L[i]? = some s) : ShotAt W g (o + i * 6) s := by
  have c : ∀ j v, (shotL s)[j]? = some v → W.cell? ⟨g, o + i * 6 + j, none⟩ = some v := fun j v hv => by
    rw [Nat.add_assoc]; exact h _ v (cellsL_at L i j s v hs hv)
  exact ⟨c 0 _ rfl, c 1 _ rfl, c 2 _ rfl, c 3 _ rfl, c 4 _ rfl, c 5 _ rfl⟩
theorem size_fast (a : Int) (w : World) (h : -393216 ≤ a) (h' : a ≤ 393216) :
    Calls Tryz.prog 113 #[.int .i32 a, .int .i32 393216] w fun e w' => e = .returned (.bool true) ∧ w = w' := by
  go_enter Tryz.func113, Tryz.ntmps113
  go_wp2
  go_ret
  exact ⟨rfl, rfl⟩
theorem mayShot_any (s : Sht) (w : World) (h : OkShot s) :
    Calls Tryz.prog 78 #[.agg #[.int .i64 s.owner, .int .i32 s.x, .int .i32 s.y, .int .i32 s.vx, .int .i32 s.vy, .int .i64 s.left]] w fun e w' => e = .returned (.bool true) ∧ Below w.heap.size w w' := by
  have Hx := Lib.hid (fun w => on_in s.x w h.x0 h.x1)
  have Hy := Lib.hid (fun w => on_in s.y w h.y0 h.y1)
  have Hu := Lib.hid (fun w => size_fast s.vx w h.u0 h.u1)
  have Hv := Lib.hid (fun w => size_fast s.vy w h.v0 h.v1)
  have h1 := h.o0
  have h2 := h.o1
  have h3 := h.l0
  have h4 := h.l1
  clear h
  obtain ⟨o, x, y, vx, vy, left⟩ := s
  dsimp only at *
  go_enter Tryz.func78, Tryz.ntmps78
  go_wp2_with fail
  refine (Hx.out _).mono ?_; rintro e w' ⟨rfl, rfl⟩
  go_wp2_with fail
  refine (Hy.out _).mono ?_; rintro e w' ⟨rfl, rfl⟩
  go_wp2_with fail
  refine (Hu.out _).mono ?_; rintro e w' ⟨rfl, rfl⟩
  go_wp2_with fail
  refine (Hv.out _).mono ?_; rintro e w' ⟨rfl, rfl⟩
  go_wp2_with fail
  go_ret
  exact ⟨rfl, by repeat (first | exact Below.refl _ _ | apply Below.drew | (refine Below.alloc ?_ (by simp) _))⟩
theorem notShot_any (s : Sht) (w : World) (h : OkShot s) :
    Calls Tryz.prog 77 #[.agg #[.int .i64 s.owner, .int .i32 s.x, .int .i32 s.y, .int .i32 s.vx, .int .i32 s.vy, .int .i64 s.left]] w fun e w' => e = .returned (.bool false) ∧ Below w.heap.size w w' := by
  have H := Lib.hid (fun w => mayShot_any s w h)
  clear h
  go_enter Tryz.func77, Tryz.ntmps77
  go_wp2_with fail
  refine (H.out _).mono ?_; rintro e w' ⟨rfl, hg⟩
  have HG := Lib.hid ((((Below.refl w.heap.size w).alloc (Nat.le_refl _) _)).trans (hg.mono (by simp)))
  clear hg
  go_wp2_with fail
  go_ret
  exact ⟨rfl, HG.out⟩
theorem indexShots_none (g o c : Nat) (L : List Sht) (w : World) (h : ∀ j v, (cellsL L)[j]? = some v → w.cell? ⟨g, o + j, none⟩ = some v) (hg : g < w.heap.size) (hok : ∀ s ∈ L, OkShot s) (hn : L.length ≤ 1000000) :
    Calls Tryz.prog 114 #[.slice (some ⟨g, o, none⟩) L.length c, .func (.func 77) #[] #[]] w fun e w' => e = .returned (.int .i64 (-1)) ∧ Below w.heap.size w w' := by
  have H := Lib.hid h
  have HO := Lib.hid hok
  clear h hok
  go_enter Tryz.func114, Tryz.ntmps114
  go_wp2_with fail
  go_loopw [8] (fun i W => ∃ k : Nat, k ≤ L.length ∧ i = .int .i64 k ∧ Hid (Below w.heap.size w W)) (fun i _ => L.length - (intOf i).toNat)
  case atStart => exact ⟨0, Nat.zero_le _, rfl, Lib.hid (Below.refl _ _)⟩
  case round =>
    obtain ⟨k, hk, rfl, HG⟩ := hrel
    by_cases hlt : k < L.length
    · obtain ⟨s, hs⟩ : ∃ s, L[k]? = some s := ⟨L[k], List.getElem?_eq_getElem hlt⟩
      have hA : ShotAt wr g (o + k * 6) s := shot_at (fun j v hv => (HG.out.cell (p := ⟨g, o + j, none⟩) hg).trans (H.out j v hv)) k s hs
      obtain ⟨c0, c1, c2, c3, c4, c5⟩ := hA
      have HC := Lib.hid (fun w => notShot_any s w (HO.out s (List.mem_of_getElem? hs)))
      clear hs
      go_wp2_with fail
      refine (HC.out _).mono ?_; rintro e w' ⟨rfl, hg⟩
      have HG' := Lib.hid (HG.out.trans (hg.mono HG.out.size))
      clear hg
      go_wp2_with fail
      exact ⟨⟨k + 1, hlt, rfl, HG'⟩, by simp only [intOf]; omega⟩
    · obtain rfl : k = L.length := by omega
      go_wp2_with fail
      go_ret
      exact ⟨rfl, HG.out⟩
theorem containsShots_none (sl : Value) (L : List Sht) (w : World) (h : ShotsIn w sl L) (hok : ∀ s ∈ L, OkShot s) (hn : L.length ≤ 1000000) :
    Calls Tryz.prog 76 #[sl, .func (.func 77) #[] #[]] w fun e w' => e = .returned (.bool false) ∧ Below w.heap.size w w' := by
  rcases h with ⟨rfl, rfl⟩ | ⟨g, o, c, rfl, hg, hc⟩
  · refine (containsShots_nil _ w).mono ?_
    rintro e w' ⟨rfl, rfl⟩
    exact ⟨rfl, Below.refl _ _⟩
  · have H := Lib.hid (indexShots_none g o c L w hc hg hok hn)
    clear hc hok
    go_enter Tryz.func76, Tryz.ntmps76
    go_wp2_with fail
    refine H.out.mono ?_; rintro e w' ⟨rfl, hg⟩
    have HG := Lib.hid hg
    clear hg
    go_wp2_with fail
    go_ret
    exact ⟨rfl, HG.out⟩
/-- A game's cells: eight ships that may be; its shots apart. -/
structure GmS (cs : Array Value) (fr d : Int) (sl : Value) : Prop where
  size : cs.size = 59
  one : cs.all (·.oneCell') = true
  frame : cs[0]? = some (.int .i64 fr)
  dice : cs[1]? = some (.int .u64 d)
  shots : cs[58]? = some sl
  ships : ∀ k, k < 8 → ∃ on x y vx vy cool score, cs[2 + k * 7]? = some (.bool on) ∧ cs[2 + k * 7 + 1]? = some (.int .i32 x) ∧ cs[2 + k * 7 + 2]? = some (.int .i32 y) ∧ cs[2 + k * 7 + 3]? = some (.int .i32 vx) ∧ cs[2 + k * 7 + 4]? = some (.int .i32 vy) ∧ cs[2 + k * 7 + 5]? = some (.int .i64 cool) ∧ cs[2 + k * 7 + 6]? = some (.int .i64 score) ∧ OkShip on x y vx vy cool score
theorem GmS.shipsAt {cs : Array Value} {fr d : Int} {sl : Value} (h : GmS cs fr d sl) (w : World) : ShipsAt (w.alloc (.cells cs 28)) w.heap.size 2 := fun k hk => by
  obtain ⟨on, x, y, vx, vy, cool, score, h0, h1, h2, h3, h4, h5, h6, ho⟩ := h.ships k hk
  exact ⟨on, x, y, vx, vy, cool, score, ⟨(cell_new ..).trans h0, (cell_new ..).trans h1, (cell_new ..).trans h2, (cell_new ..).trans h3, (cell_new ..).trans h4, (cell_new ..).trans h5, (cell_new ..).trans h6⟩, ho⟩
theorem mayS_any (cs : Array Value) (fr d : Int) (ad : Option Addr) (c : Nat) (L : List Sht) (w : World) (h : GmS cs fr d (.slice ad L.length c)) (hL : ShotsIn w (.slice ad L.length c) L) (hok : ∀ s ∈ L, OkShot s) (hn : L.length ≤ 32) (h0 : 0 ≤ fr) (h1 : fr ≤ 1048576) :
    Calls Tryz.prog 30 #[.agg cs] w fun e w' => e = .returned (.bool true) ∧ Below w.heap.size w w' := by
  have hf := (cell_new w cs 28 0).trans h.frame
  have hs := (cell_new w cs 28 58).trans h.shots
  have HS := Lib.hid (h.shipsAt w)
  have HB := Lib.hid ((Below.refl w.heap.size w).alloc (Nat.le_refl _) (.cells cs 28))
  have hsz : (w.alloc (.cells cs 28)).heap.size = w.heap.size + 1 := by simp
  have HL := Lib.hid hL
  have HO := Lib.hid hok
  have hn' : (L.length : Int) ≤ 32 := by omega
  clear h hL hok
  go_enter Tryz.func30, Tryz.ntmps30
  go_wp2_with fail
  refine (contains_none w.heap.size _ HS.out).mono ?_; rintro e w' ⟨rfl, hg⟩
  have hs2 := (hg.cell (p := ⟨w.heap.size, 58, none⟩) (by simp)).trans hs
  have HB2 := Lib.hid (HB.out.trans (hg.mono (by omega)))
  clear hg hs hf hsz
  go_wp2_with fail
  refine (containsShots_none _ L _ (HL.out.later HB2.out) HO.out (by omega)).mono ?_; rintro e w2 ⟨rfl, hg⟩
  have HB3 := Lib.hid (HB2.out.trans (hg.mono HB2.out.size))
  clear hg
  go_wp2_with fail
  go_ret
  exact ⟨rfl, HB3.out⟩
end Go.Proofs.YtdopfonebpklkaaGreat.game
