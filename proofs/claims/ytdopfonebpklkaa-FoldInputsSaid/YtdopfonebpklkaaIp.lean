/- A state's bytes, in numbers: what is put, what is read; one comes back from the other. -/
import Derived.Test.YtdopfonebpklkaaPu
namespace Go.Proofs.Ytdopfonebpklkaa.game
open Go.ChangeShapes Go.WideShapes Go.ChangeAt Go.RowKit dice

structure Seat where
  peer : Int
  gen : Int
  deriving DecidableEq
structure Ste where
  g : Gme
  ver : Int
  T : List Seat
def numB : Nat → Nat → List UInt8
  | 0, _ => []
  | k + 1, n => UInt8.ofNat n :: numB k (n / 256)
def valB : List UInt8 → Nat
  | [] => 0
  | c :: l => c.toNat + 256 * valB l
theorem length_numB : ∀ k n, (numB k n).length = k
  | 0, _ => rfl
  | k + 1, n => by rw [numB, List.length_cons, length_numB k]
theorem valB_numB : ∀ k n, n < 256 ^ k → valB (numB k n) = n
  | 0, n, h => by simp at h; subst h; rfl
  | k + 1, n, h => by
    have h2 : n / 256 < 256 ^ k := by
      rw [Nat.pow_succ] at h
      omega
    rw [numB, valB, valB_numB k _ h2, UInt8.toNat_ofNat']
    omega
theorem valB_lt : ∀ l : List UInt8, valB l < 256 ^ l.length
  | [] => by simp [valB]
  | c :: l => by
    have h1 := valB_lt l
    have h2 := c.toNat_lt
    rw [valB, List.length_cons, Nat.pow_succ]
    omega
theorem numB_valB : ∀ l : List UInt8, numB l.length (valB l) = l
  | [] => rfl
  | c :: l => by
    have h2 := c.toNat_lt
    have h3 : (c.toNat + 256 * valB l) / 256 = valB l := by omega
    have h4 : UInt8.ofNat (c.toNat + 256 * valB l) = c := by
      apply UInt8.toNat_inj.1
      rw [UInt8.toNat_ofNat']
      omega
    rw [List.length_cons, valB, numB, h3, h4, numB_valB l]
def rd (k : Nat) (b : List UInt8) : Option (Nat × List UInt8) := if b.length < k then none else some (valB (b.take k), b.drop k)
theorem rd_numB (k n : Nat) (r : List UInt8) (h : n < 256 ^ k) : rd k (numB k n ++ r) = some (n, r) := by
  unfold rd
  have hl := length_numB k n
  rw [if_neg (by rw [List.length_append, hl]; omega)]
  rw [List.take_append_of_le_length (by omega), List.take_of_length_le (by omega), valB_numB k n h]
  rw [List.drop_append_of_le_length (by omega), List.drop_of_length_le (by omega)]
  rfl
theorem rd_back {k : Nat} {b r : List UInt8} {v : Nat} (h : rd k b = some (v, r)) : b = numB k v ++ r ∧ v < 256 ^ k := by
  unfold rd at h
  split at h
  · simp at h
  · rename_i hl
    simp at h
    obtain ⟨rfl, rfl⟩ := h
    have hk : (b.take k).length = k := by rw [List.length_take]; omega
    have h1 := numB_valB (b.take k)
    have h2 := valB_lt (b.take k)
    rw [hk] at h1 h2
    exact ⟨by rw [h1, List.take_append_drop], h2⟩
def lo32 (a : Int) : Nat := (a % 4294967296).toNat
def sg32 (v : Nat) : Int := if v < 2147483648 then v else (v : Int) - 4294967296
theorem lo32_lt (a : Int) : lo32 a < 256 ^ 4 := by unfold lo32; omega
theorem sg32_lo32 (a : Int) (h0 : -2147483648 ≤ a) (h1 : a ≤ 2147483647) : sg32 (lo32 a) = a := by
  unfold sg32 lo32
  split <;> omega
theorem lo32_sg32 (v : Nat) (h : v < 256 ^ 4) : lo32 (sg32 v) = v := by
  unfold sg32 lo32
  split <;> omega
def shipB (t : Shp) : List UInt8 :=
  if t.on = true then numB 1 1 ++ (numB 4 (lo32 t.x) ++ (numB 4 (lo32 t.y) ++ (numB 4 (lo32 t.vx) ++ (numB 4 (lo32 t.vy) ++ (numB 1 t.cool.toNat ++ numB 4 t.score.toNat))))) else numB 1 0
def shotB (s : Sht) : List UInt8 := numB 1 s.owner.toNat ++ (numB 4 (lo32 s.x) ++ (numB 4 (lo32 s.y) ++ (numB 4 (lo32 s.vx) ++ (numB 4 (lo32 s.vy) ++ numB 1 s.left.toNat))))
def seatB (q : Seat) : List UInt8 := numB 1 (q.peer + 1).toNat ++ numB 2 q.gen.toNat
def img (s : Ste) : List UInt8 :=
  numB 4 s.g.fr.toNat ++ (numB 8 s.g.d.toNat ++ (s.g.S.flatMap shipB ++ (numB 1 s.g.L.length ++ (s.g.L.flatMap shotB ++ (numB 4 s.ver.toNat ++ s.T.flatMap seatB)))))
/-- A ship that is read; 'st': the first byte is 0 or 1. -/
def rdShip (st : Bool) (b : List UInt8) : Option (Shp × List UInt8) := do
  let (f, b) ← rd 1 b
  if f = 1 then
    let (x, b) ← rd 4 b
    let (y, b) ← rd 4 b
    let (u, b) ← rd 4 b
    let (v, b) ← rd 4 b
    let (c, b) ← rd 1 b
    let (s, b) ← rd 4 b
    some (⟨true, sg32 x, sg32 y, sg32 u, sg32 v, c, s⟩, b)
  else if st = true ∧ 1 < f then none
  else some (zShp, b)
def rdShot (b : List UInt8) : Option (Sht × List UInt8) := do
  let (o, b) ← rd 1 b
  let (x, b) ← rd 4 b
  let (y, b) ← rd 4 b
  let (u, b) ← rd 4 b
  let (v, b) ← rd 4 b
  let (l, b) ← rd 1 b
  some (⟨o, sg32 x, sg32 y, sg32 u, sg32 v, l⟩, b)
def rdSeat (b : List UInt8) : Option (Seat × List UInt8) := do
  let (p, b) ← rd 1 b
  let (g, b) ← rd 2 b
  some (⟨(p : Int) - 1, g⟩, b)
/-- So many, one behind the other; what goes on behind them. -/
def rdMany {α β : Type} (one : List UInt8 → Option (α × List UInt8)) (k : List α → List UInt8 → Option β) : Nat → List α → List UInt8 → Option β
  | 0, done, b => k done b
  | n + 1, done, b => match one b with
    | none => none
    | some (t, b) => rdMany one k n (done ++ [t]) b
def rdEnd (g : Gme) (b : List UInt8) : Option (Ste × List UInt8) := do
  let (v, b) ← rd 4 b
  rdMany rdSeat (fun T b => some (⟨g, v, T⟩, b)) 8 [] b
def rdMid (fr d : Nat) (S : List Shp) (b : List UInt8) : Option (Ste × List UInt8) := do
  let (n, b) ← rd 1 b
  rdMany rdShot (fun L b => rdEnd ⟨fr, d, S, L⟩ b) n [] b
def parse (st : Bool) (b : List UInt8) : Option (Ste × List UInt8) := do
  let (fr, b) ← rd 4 b
  let (d, b) ← rd 8 b
  rdMany (rdShip st) (rdMid fr d) 8 [] b
/-- A ship's bytes come back. -/
structure Shp.fits (t : Shp) : Prop where
  x0 : -2147483648 ≤ t.x
  x1 : t.x ≤ 2147483647
  y0 : -2147483648 ≤ t.y
  y1 : t.y ≤ 2147483647
  u0 : -2147483648 ≤ t.vx
  u1 : t.vx ≤ 2147483647
  v0 : -2147483648 ≤ t.vy
  v1 : t.vy ≤ 2147483647
  c0 : 0 ≤ t.cool
  c1 : t.cool < 256
  s0 : 0 ≤ t.score
  s1 : t.score < 4294967296
  off : t.on = false → t = zShp
structure Sht.fits (t : Sht) : Prop where
  x0 : -2147483648 ≤ t.x
  x1 : t.x ≤ 2147483647
  y0 : -2147483648 ≤ t.y
  y1 : t.y ≤ 2147483647
  u0 : -2147483648 ≤ t.vx
  u1 : t.vx ≤ 2147483647
  v0 : -2147483648 ≤ t.vy
  v1 : t.vy ≤ 2147483647
  c0 : 0 ≤ t.owner
  c1 : t.owner < 256
  s0 : 0 ≤ t.left
  s1 : t.left < 256
structure Seat.fits (t : Seat) : Prop where
  p0 : -1 ≤ t.peer
  p1 : t.peer < 255
  g0 : 0 ≤ t.gen
  g1 : t.gen < 65536
structure Ste.fits (s : Ste) : Prop where
  f0 : 0 ≤ s.g.fr
  f1 : s.g.fr < 4294967296
  d0 : 0 ≤ s.g.d
  d1 : s.g.d < 18446744073709551616
  s8 : s.g.S.length = 8
  ships : ∀ t ∈ s.g.S, t.fits
  few : s.g.L.length < 256
  shots : ∀ t ∈ s.g.L, t.fits
  v0 : 0 ≤ s.ver
  v1 : s.ver < 4294967296
  t8 : s.T.length = 8
  seats : ∀ t ∈ s.T, t.fits
theorem rdShip_put {st : Bool} {t : Shp} (r : List UInt8) (h : t.fits) : rdShip st (shipB t ++ r) = some (t, r) := by
  obtain ⟨x0, x1, y0, y1, u0, u1, v0, v1, c0, c1, s0, s1, off⟩ := h
  obtain ⟨o, x, y, u, v, c, s⟩ := t
  dsimp only at *
  cases o with
  | true =>
    simp only [shipB, rdShip, if_true, List.append_assoc]
    rw [rd_numB 1 1 _ (by decide)]
    simp only [Option.bind_eq_bind, Option.bind_some, if_true]
    rw [rd_numB 4 _ _ (lo32_lt x)]; simp only [Option.bind_some]
    rw [rd_numB 4 _ _ (lo32_lt y)]; simp only [Option.bind_some]
    rw [rd_numB 4 _ _ (lo32_lt u)]; simp only [Option.bind_some]
    rw [rd_numB 4 _ _ (lo32_lt v)]; simp only [Option.bind_some]
    rw [rd_numB 1 _ _ (by omega)]; simp only [Option.bind_some]
    rw [rd_numB 4 _ _ (by omega)]; simp only [Option.bind_some]
    rw [sg32_lo32 x x0 x1, sg32_lo32 y y0 y1, sg32_lo32 u u0 u1, sg32_lo32 v v0 v1, Int.toNat_of_nonneg c0, Int.toNat_of_nonneg s0]
  | false =>
    simp only [shipB, rdShip, Bool.false_eq_true, if_false]
    rw [rd_numB 1 0 _ (by decide)]
    simp [off rfl]
theorem rdShot_put {t : Sht} (r : List UInt8) (h : t.fits) : rdShot (shotB t ++ r) = some (t, r) := by
  obtain ⟨x0, x1, y0, y1, u0, u1, v0, v1, c0, c1, s0, s1⟩ := h
  obtain ⟨o, x, y, u, v, s⟩ := t
  dsimp only at *
  simp only [shotB, rdShot, List.append_assoc]
  rw [rd_numB 1 _ _ (by omega)]; simp only [Option.bind_eq_bind, Option.bind_some]
  rw [rd_numB 4 _ _ (lo32_lt x)]; simp only [Option.bind_some]
  rw [rd_numB 4 _ _ (lo32_lt y)]; simp only [Option.bind_some]
  rw [rd_numB 4 _ _ (lo32_lt u)]; simp only [Option.bind_some]
  rw [rd_numB 4 _ _ (lo32_lt v)]; simp only [Option.bind_some]
  rw [rd_numB 1 _ _ (by omega)]; simp only [Option.bind_some]
  rw [sg32_lo32 x x0 x1, sg32_lo32 y y0 y1, sg32_lo32 u u0 u1, sg32_lo32 v v0 v1, Int.toNat_of_nonneg c0, Int.toNat_of_nonneg s0]
theorem rdSeat_put {t : Seat} (r : List UInt8) (h : t.fits) : rdSeat (seatB t ++ r) = some (t, r) := by
  obtain ⟨p0, p1, g0, g1⟩ := h
  obtain ⟨p, g⟩ := t
  dsimp only at *
  simp only [seatB, rdSeat, List.append_assoc]
  rw [rd_numB 1 _ _ (by omega)]; simp only [Option.bind_eq_bind, Option.bind_some]
  rw [rd_numB 2 _ _ (by omega)]; simp only [Option.bind_some]
  rw [Int.toNat_of_nonneg (show 0 ≤ p + 1 by omega), Int.toNat_of_nonneg g0, show p + 1 - 1 = p by omega]
theorem rdMany_put {α β : Type} {one : List UInt8 → Option (α × List UInt8)} {put : α → List UInt8} {k : List α → List UInt8 → Option β} (r : List UInt8) :
    ∀ (l done : List α), (∀ t ∈ l, ∀ r, one (put t ++ r) = some (t, r)) → rdMany one k l.length done (l.flatMap put ++ r) = k (done ++ l) r
  | [], done, _ => by simp [rdMany]
  | t :: l, done, h => by
    rw [List.length_cons, rdMany, List.flatMap_cons, List.append_assoc, h t (by simp)]
    dsimp only
    rw [rdMany_put r l (done ++ [t]) (fun t ht => h t (by simp [ht])), List.append_assoc]
    rfl
theorem parse_put (st : Bool) (s : Ste) (r : List UInt8) (h : s.fits) : parse st (img s ++ r) = some (s, r) := by
  obtain ⟨f0, f1, d0, d1, s8, ships, few, shots, v0, v1, t8, seats⟩ := h
  obtain ⟨⟨fr, d, S, L⟩, ver, T⟩ := s
  dsimp only at *
  simp only [img, parse, List.append_assoc]
  rw [rd_numB 4 _ _ (by omega)]; simp only [Option.bind_eq_bind, Option.bind_some]
  rw [rd_numB 8 _ _ (by omega)]; simp only [Option.bind_some]
  rw [← s8, rdMany_put _ S [] (fun t ht r => rdShip_put r (ships t ht)), List.nil_append]
  unfold rdMid
  rw [rd_numB 1 _ _ (by omega)]; simp only [Option.bind_eq_bind, Option.bind_some]
  rw [rdMany_put _ L [] (fun t ht r => rdShot_put r (shots t ht)), List.nil_append]
  unfold rdEnd
  rw [rd_numB 4 _ _ (by omega)]; simp only [Option.bind_eq_bind, Option.bind_some]
  rw [← t8, rdMany_put _ T [] (fun t ht r => rdSeat_put r (seats t ht)), List.nil_append]
  rw [Int.toNat_of_nonneg f0, Int.toNat_of_nonneg d0, Int.toNat_of_nonneg v0]
/-- An image that stands at the head of another one is that one. -/
theorem img_head {s u : Ste} {r : List UInt8} (hs : s.fits) (hu : u.fits) (h : img s = img u ++ r) : s = u ∧ r = [] := by
  have h1 := parse_put false s [] hs
  have h2 := parse_put false u r hu
  rw [List.append_nil, h, h2] at h1
  injection h1 with h1
  injection h1 with h1 h3
  exact ⟨h1.symm, h3⟩
end Go.Proofs.Ytdopfonebpklkaa.game
