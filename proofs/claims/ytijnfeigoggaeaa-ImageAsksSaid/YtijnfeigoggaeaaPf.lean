/- What is read fits its bytes; what may be, fits: a state comes back from its bytes. -/
import Derived.Test.YtijnfeigoggaeaaGd
namespace Go.Proofs.Ytijnfeigoggaeaa.game
open Go.ChangeShapes Go.WideShapes Go.ChangeAt Go.RowKit dice

theorem rd_lt {k : Nat} {b r : List UInt8} {v : Nat} (h : rd k b = some (v, r)) : v < 256 ^ k := (rd_back h).2
theorem sg32_bd {v : Nat} (h : v < 256 ^ 4) : -2147483648 ≤ sg32 v ∧ sg32 v ≤ 2147483647 := by
  unfold sg32
  split <;> omega
theorem rdShip_fits {st : Bool} {b r : List UInt8} {t : Shp} (h : rdShip st b = some (t, r)) : t.fits := by
  unfold rdShip at h
  simp only [Option.bind_eq_bind, Option.bind_eq_some_iff] at h
  obtain ⟨⟨f, b0⟩, hf, h⟩ := h
  dsimp only at h
  split at h
  · simp only [Option.bind_eq_some_iff] at h
    obtain ⟨⟨x, b1⟩, hx, ⟨y, b2⟩, hy, ⟨u, b3⟩, hu, ⟨v, b4⟩, hv, ⟨c, b5⟩, hc, ⟨s, b6⟩, hs, h⟩ := h
    simp only [Option.some.injEq, Prod.mk.injEq] at h
    obtain ⟨rfl, _⟩ := h
    have h1 := sg32_bd (rd_lt hx)
    have h2 := sg32_bd (rd_lt hy)
    have h3 := sg32_bd (rd_lt hu)
    have h4 := sg32_bd (rd_lt hv)
    have h5 := rd_lt hc
    have h6 := rd_lt hs
    exact ⟨h1.1, h1.2, h2.1, h2.2, h3.1, h3.2, h4.1, h4.2, by dsimp only; omega, by dsimp only; omega, by dsimp only; omega, by dsimp only; omega, fun e => by cases e⟩
  · split at h
    · cases h
    · simp only [Option.some.injEq, Prod.mk.injEq] at h
      obtain ⟨rfl, _⟩ := h
      exact ⟨by decide, by decide, by decide, by decide, by decide, by decide, by decide, by decide, by decide, by decide, by decide, by decide, fun _ => rfl⟩
theorem rdShot_fits {b r : List UInt8} {t : Sht} (h : rdShot b = some (t, r)) : t.fits := by
  unfold rdShot at h
  simp only [Option.bind_eq_bind, Option.bind_eq_some_iff] at h
  obtain ⟨⟨o, b0⟩, ho, ⟨x, b1⟩, hx, ⟨y, b2⟩, hy, ⟨u, b3⟩, hu, ⟨v, b4⟩, hv, ⟨l, b5⟩, hl, h⟩ := h
  simp only [Option.some.injEq, Prod.mk.injEq] at h
  obtain ⟨rfl, _⟩ := h
  have h0 := rd_lt ho
  have h1 := sg32_bd (rd_lt hx)
  have h2 := sg32_bd (rd_lt hy)
  have h3 := sg32_bd (rd_lt hu)
  have h4 := sg32_bd (rd_lt hv)
  have h5 := rd_lt hl
  exact ⟨h1.1, h1.2, h2.1, h2.2, h3.1, h3.2, h4.1, h4.2, by dsimp only; omega, by dsimp only; omega, by dsimp only; omega, by dsimp only; omega⟩
theorem rdSeat_fits {b r : List UInt8} {t : Seat} (h : rdSeat b = some (t, r)) : t.fits := by
  unfold rdSeat at h
  simp only [Option.bind_eq_bind, Option.bind_eq_some_iff] at h
  obtain ⟨⟨p, b0⟩, hp, ⟨g, b1⟩, hg, h⟩ := h
  simp only [Option.some.injEq, Prod.mk.injEq] at h
  obtain ⟨rfl, _⟩ := h
  have h0 := rd_lt hp
  have h1 := rd_lt hg
  exact ⟨by dsimp only; omega, by dsimp only; omega, by dsimp only; omega, by dsimp only; omega⟩
theorem rdMany_all {α β : Type} {one : List UInt8 → Option (α × List UInt8)} {k : List α → List UInt8 → Option β} {P : α → Prop} (hone : ∀ b t b', one b = some (t, b') → P t) :
    ∀ (n : Nat) (done : List α) (b : List UInt8) (res : β), (∀ t ∈ done, P t) → rdMany one k n done b = some res → ∃ l b', k l b' = some res ∧ l.length = done.length + n ∧ ∀ t ∈ l, P t
  | 0, done, b, res, hd, h => ⟨done, b, h, rfl, hd⟩
  | n + 1, done, b, res, hd, h => by
    unfold rdMany at h
    cases ho : one b with
    | none => rw [ho] at h; cases h
    | some x =>
      obtain ⟨t, b'⟩ := x
      rw [ho] at h
      obtain ⟨l, b2, h1, h2, h3⟩ := rdMany_all hone n (done ++ [t]) b' res (fun u hu => by
        rcases List.mem_append.1 hu with hu | hu
        · exact hd u hu
        · rw [List.mem_singleton] at hu; subst hu; exact hone b _ b' ho) h
      exact ⟨l, b2, h1, by rw [h2, List.length_append]; simp; omega, h3⟩
theorem parse_fits {st : Bool} {b r : List UInt8} {s : Ste} (h : parse st b = some (s, r)) : s.fits := by
  unfold parse at h
  simp only [Option.bind_eq_bind, Option.bind_eq_some_iff] at h
  obtain ⟨⟨fr, b0⟩, hf, ⟨d, b1⟩, hd, h⟩ := h
  dsimp only at h
  obtain ⟨S, b2, h, hS, hSf⟩ := rdMany_all (P := Shp.fits) (fun b t b' => rdShip_fits) 8 [] b1 _ (by simp) h
  unfold rdMid at h
  simp only [Option.bind_eq_bind, Option.bind_eq_some_iff] at h
  obtain ⟨⟨n, b3⟩, hn, h⟩ := h
  dsimp only at h
  obtain ⟨L, b4, h, hL, hLf⟩ := rdMany_all (P := Sht.fits) (fun b t b' => rdShot_fits) n [] b3 _ (by simp) h
  unfold rdEnd at h
  simp only [Option.bind_eq_bind, Option.bind_eq_some_iff] at h
  obtain ⟨⟨v, b5⟩, hv, h⟩ := h
  dsimp only at h
  obtain ⟨T, b6, h, hT, hTf⟩ := rdMany_all (P := Seat.fits) (fun b t b' => rdSeat_fits) 8 [] b5 _ (by simp) h
  simp only [Option.some.injEq, Prod.mk.injEq] at h
  obtain ⟨rfl, _⟩ := h
  have h1 := rd_lt hf
  have h2 := rd_lt hd
  have h3 := rd_lt hn
  have h4 := rd_lt hv
  simp at hS hL hT
  exact ⟨by dsimp only; omega, by dsimp only; omega, by dsimp only; omega, by dsimp only; omega, hS, hSf, by dsimp only; omega, hLf, by dsimp only; omega, by dsimp only; omega, hT, hTf⟩
theorem w32 {a : Int} (h0 : -2147483648 ≤ a) (h1 : a ≤ 2147483647) : (Lit.int .i32 a).wf = true := by
  simp [Lit.wf, IntKind.min, IntKind.max, IntKind.signed, IntKind.bits]
  omega
theorem w64 {a : Int} (h0 : -9223372036854775808 ≤ a) (h1 : a ≤ 9223372036854775807) : (Lit.int .i64 a).wf = true := by
  simp [Lit.wf, IntKind.min, IntKind.max, IntKind.signed, IntKind.bits]
  omega
theorem wu64 {a : Int} (h0 : 0 ≤ a) (h1 : a < 18446744073709551616) : (Lit.int .u64 a).wf = true := by
  simp [Lit.wf, IntKind.min, IntKind.max, IntKind.signed, IntKind.bits]
  omega
theorem wu64_bd {a : Int} (h : (Lit.int .u64 a).wf = true) : 0 ≤ a ∧ a < 18446744073709551616 := by
  simp [Lit.wf, IntKind.min, IntKind.max, IntKind.signed, IntKind.bits] at h
  omega
theorem Ste.fits.wf {s : Ste} (h : s.fits) : s.g.wf := by
  have a := h.f0
  have b := h.f1
  refine ⟨w64 (by omega) (by omega), wu64 h.d0 h.d1, h.s8, fun t ht => ?_, fun t ht => ?_⟩
  · have f := h.ships t ht
    have c0 := f.c0
    have c1 := f.c1
    have s0 := f.s0
    have s1 := f.s1
    exact ⟨w32 f.x0 f.x1, w32 f.y0 f.y1, w32 f.u0 f.u1, w32 f.v0 f.v1, w64 (by omega) (by omega), w64 (by omega) (by omega)⟩
  · have f := h.shots t ht
    have c0 := f.c0
    have c1 := f.c1
    have s0 := f.s0
    have s1 := f.s1
    exact ⟨w32 f.x0 f.x1, w32 f.y0 f.y1, w32 f.u0 f.u1, w32 f.v0 f.v1, w64 (by omega) (by omega), w64 (by omega) (by omega)⟩
/-- What may be, fits. -/
theorem mayS_fits {s : Ste} (hg : s.g.wf) (t8 : s.T.length = 8) (h : mayS s = true) : s.fits := by
  have hok : s.g.ok := (Gme.may_ok hg.s8).1 (by unfold mayS at h; simp only [Bool.and_eq_true] at h; exact h.1.1)
  obtain ⟨v0, v1, hq⟩ := mayS_seats h
  have hd := wu64_bd hg.d
  have f0 := hok.f0
  have f1 := hok.f1
  have hm := hok.most
  refine ⟨f0, by omega, hd.1, hd.2, hg.s8, fun t ht => ?_, by omega, fun t ht => ?_, v0, by omega, t8, fun q hqm => ?_⟩
  · have o := hok.ships t ht
    unfold Shp.ok OkShip at o
    cases hon : t.on with
    | true =>
      rw [if_pos hon] at o
      exact ⟨by omega, by omega, by omega, by omega, by omega, by omega, by omega, by omega, by omega, by omega, by omega, by omega, fun e => by rw [hon] at e; cases e⟩
    | false =>
      rw [if_neg (by rw [hon]; simp)] at o
      obtain ⟨h1, h2, h3, h4, h5, h6⟩ := o
      refine ⟨by omega, by omega, by omega, by omega, by omega, by omega, by omega, by omega, by omega, by omega, by omega, by omega, fun _ => ?_⟩
      obtain ⟨on, x, y, u, v, c, s'⟩ := t
      dsimp only at *
      subst hon h1 h2 h3 h4 h5 h6
      rfl
  · obtain ⟨o0, o1, x0, x1, y0, y1, u0, u1, v0, v1, l0, l1⟩ := hok.shots t ht
    exact ⟨by omega, by omega, by omega, by omega, by omega, by omega, by omega, by omega, by omega, by omega, by omega, by omega⟩
  · obtain ⟨h1, h2, h3, h4⟩ := hq q hqm
    exact ⟨h1, by omega, h3, by omega⟩
/-- A state that may be comes back from its bytes. -/
theorem getF_img {s : Ste} (hf : s.fits) (h : mayS s = true) : getF (img s) = some s := by
  have := parse_put false s [] hf
  rw [List.append_nil] at this
  unfold getF
  rw [this]
  simp [h]
/-- What is told is what was put. -/
theorem getF_some {b : List UInt8} {s : Ste} (h : getF b = some s) : s.fits ∧ mayS s = true ∧ img s = b := by
  unfold getF at h
  cases hp : parse false b with
  | none => rw [hp] at h; cases h
  | some x =>
    obtain ⟨u, r⟩ := x
    rw [hp] at h
    dsimp only at h
    split at h
    · rename_i hc
      simp only [Option.some.injEq] at h
      subst h
      simp only [Bool.and_eq_true, beq_iff_eq] at hc
      exact ⟨parse_fits hp, hc.1, hc.2⟩
    · cases h
end Go.Proofs.Ytijnfeigoggaeaa.game
