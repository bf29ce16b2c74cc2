/- The reference's reader: R.Num, R.Int, R.four, R.End. It reads on when it is bad: noughts. -/
import Derived.Test.YtijnfeigoggaeaaKn
import Derived.Test.YtijnfeigoggaeaaPf
namespace Go.Proofs.Ytijnfeigoggaeaa.game
open Go.ChangeShapes Go.WideShapes Go.ChangeAt Go.RowKit
set_option maxRecDepth 100000

/-- The reader's state: is it bad; what is left. -/
abbrev Rst := Bool × List UInt8
def rv (k : Nat) (q : Rst) : Nat := if q.1 = true ∨ q.2.length < k then 0 else valB (q.2.take k)
def rn (k : Nat) (q : Rst) : Rst := if q.1 = true ∨ q.2.length < k then (true, []) else (false, q.2.drop k)
theorem rv_lt (k : Nat) (q : Rst) : rv k q < 256 ^ k := by
  unfold rv
  split
  · exact Nat.pow_pos (by decide)
  · rename_i h
    have := valB_lt (q.2.take k)
    rw [List.length_take, Nat.min_eq_left (by omega)] at this
    exact this
theorem rn_len (k : Nat) (q : Rst) : (rn k q).2.length ≤ q.2.length := by
  unfold rn
  split
  · simp
  · simp
/-- What is known of the whole, out of what is left. -/
def At {α : Type} (R : Option α) (K : List UInt8 → Option α) (q : Rst) : Prop := if q.1 = true then R = none else R = K q.2
theorem At.read {α : Type} {R : Option α} {K : List UInt8 → Option α} {k : Nat} {f : Nat × List UInt8 → Option α} {q : Rst} (h : At R K q) (hK : ∀ S, K S = (rd k S).bind f) : At R (fun S => f (rv k q, S)) (rn k q) := by
  obtain ⟨b, S⟩ := q
  unfold At at h ⊢
  unfold rn rv
  cases b with
  | true => simpa using h
  | false =>
    simp only [Bool.false_eq_true, if_false, false_or] at h ⊢
    rw [hK] at h
    unfold rd at h
    by_cases hl : S.length < k
    · rw [if_pos hl] at h
      simpa [hl] using h
    · rw [if_neg hl] at h
      simpa [hl] using h
def rC (q : Rst) : Array Value := #[.string (strB q.2), .bool q.1]
theorem info101 : (Try.prog.info? 101).map (·.size) = some 2 := by kernel_rfl
theorem info9 : (Try.prog.info? 9).map (·.size) = some 1 := by kernel_rfl
theorem rNum (r k : Nat) (q : Rst) (w0 : World) (hk1 : 1 ≤ k) (hk : k ≤ 8) (hm : q.2.length ≤ maxLen) (H0 : Sb [r] w0 w0 [(r, rC q, 101)] []) :
    Calls Try.prog 58 #[.pointer (some ⟨r, 0, none⟩), .int .i64 k] w0 fun e w' => e = .returned (.int .u64 (rv k q)) ∧ Sb [r] w0 w' [(r, rC (rn k q), 101)] [] := by
  have H := H0
  clear H0
  obtain ⟨b, S⟩ := q
  have hsz : (strB S).size = S.length := rfl
  cases b with
  | true =>
    have e1 : rv k (true, S) = 0 := by simp [rv]
    have e2 : rn k (true, S) = (true, []) := by simp [rn]
    rw [e1, e2]
    unfold rC at H ⊢
    dsimp only at *
    go_enter Try.func58, Try.ntmps58
    go_wp2_with (first | (refine wb_cell H rfl 0 4 _ rfl _ 1 rfl _ _ rfl Try.isAgg4 (.bool true) rfl ?_) | (refine wb_put H rfl 0 4 _ _ rfl _ 1 rfl _ _ rfl (.bool true) rfl 1 info4 rfl (Nat.le_of_ble_eq_true rfl) rfl #[.string (strB S), .bool true] rfl ?_; clear H; intro w H) | (refine wb_put H rfl 0 9 _ _ rfl _ 0 rfl _ _ rfl (.string { data := #[] }) rfl 1 info9 rfl (Nat.le_of_ble_eq_true rfl) rfl #[.string (strB []), .bool true] rfl ?_; clear H; intro w H))
    go_ret
    exact ⟨rfl, H⟩
  | false =>
    by_cases hl : S.length < k
    · have e1 : rv k (false, S) = 0 := by simp [rv, hl]
      have e2 : rn k (false, S) = (true, []) := by simp [rn, hl]
      rw [e1, e2]
      unfold rC at H ⊢
      dsimp only at *
      go_enter Try.func58, Try.ntmps58
      go_wp2_with (first | (refine wb_cell H rfl 0 4 _ rfl _ 1 rfl _ _ rfl Try.isAgg4 (.bool false) rfl ?_) | (refine wb_cell H rfl 0 9 _ rfl _ 0 rfl _ _ rfl Try.isAgg9 (.string (strB S)) rfl ?_) | (refine wb_put H rfl 0 4 _ _ rfl _ 1 rfl _ _ rfl (.bool true) rfl 1 info4 rfl (Nat.le_of_ble_eq_true rfl) rfl #[.string (strB S), .bool true] rfl ?_; clear H; intro w H) | (refine wb_put H rfl 0 9 _ _ rfl _ 0 rfl _ _ rfl (.string { data := #[] }) rfl 1 info9 rfl (Nat.le_of_ble_eq_true rfl) rfl #[.string (strB []), .bool true] rfl ?_; clear H; intro w H))
      go_ret
      exact ⟨rfl, H⟩
    · have e1 : rv k (false, S) = valB (S.take k) := by simp [rv, hl]
      have e2 : rn k (false, S) = (false, S.drop k) := by simp [rn, hl]
      rw [e1, e2]
      unfold rC at H ⊢
      dsimp only at *
      have hl' : k ≤ S.length := by omega
      go_enter Try.func58, Try.ntmps58
      go_wp2_with (first | (refine wb_cell H rfl 0 4 _ rfl _ 1 rfl _ _ rfl Try.isAgg4 (.bool false) rfl ?_) | (refine wb_cell H rfl 0 9 _ rfl _ 0 rfl _ _ rfl Try.isAgg9 (.string (strB S)) rfl ?_))
      have HB := Lib.hid H
      clear H
      go_loopw [5, 6] (fun x i W => ∃ j : Nat, j ≤ k ∧ i = .int .i64 ((j : Int) - 1) ∧ x = .int .u64 ((valB ((S.take k).drop j) : Nat) : Int) ∧ W = w0) (fun _ i _ => (intOf i + 1).toNat)
      case atStart => exact ⟨k, Nat.le_refl _, rfl, by simp [valB], rfl⟩
      case round =>
        obtain ⟨j, hj, rfl, rfl, rfl⟩ := hrel
        have hcr : wr.cell? ⟨r, 0, none⟩ = some (.string (strB S)) := cell_of_row wr r 0 _ 101 (0, 0) (HB.out.holds _ (List.mem_cons_self ..))
        by_cases h0 : 0 < j
        · obtain ⟨i, rfl⟩ : ∃ i, j = i + 1 := ⟨j - 1, by omega⟩
          have hi : i < (strB S).size := by rw [hsz]; omega
          rw [show (((i + 1 : Nat) : Int) - 1) = (i : Int) by omega]
          have hT : (S.take k).drop i = S[i]'(by omega) :: (S.take k).drop (i + 1) := by
            rw [List.drop_eq_getElem_cons (by rw [List.length_take]; omega)]
            simp
          have hV := valB_lt ((S.take k).drop (i + 1))
          have hVl : ((S.take k).drop (i + 1)).length = k - (i + 1) := by simp; omega
          rw [hVl] at hV
          have hV7 : 256 ^ (k - (i + 1)) ≤ 256 ^ 7 := Nat.pow_le_pow_right (by decide) (by omega)
          have hV8 : valB ((S.take k).drop (i + 1)) < 72057594037927936 := by omega
          have hst : valB ((S.take k).drop i) = 256 * valB ((S.take k).drop (i + 1)) + (S[i]'(by omega)).toNat := by
            rw [hT, valB, Nat.add_comm]
          have Hst := Lib.hid hst
          have Hor : Hid (∀ (A : Nat) (c : UInt8), A < 72057594037927936 → bits .or .u64 ((A : Int) * 256) (c.toNat : Int) = ((256 * A + c.toNat : Nat) : Int)) := Lib.hid (fun A c hA => by
            have hc := c.toNat_lt
            have e1 : (A : Int) * 256 = ((2 ^ 8 * A : Nat) : Int) := by simp; omega
            rw [e1, u64_or_nat _ _ (by omega) (by omega), ← Nat.two_pow_add_eq_or_of_lt hc])
          have hc8 := ((strB S)[i]).toNat_lt
          clear hT hV hVl hV7 hst
          go_wp2_with fail
          exact ⟨⟨i, by omega, rfl, by rw [Hor.out _ _ hV8, Hst.out]; rfl, trivial⟩, by simp only [intOf]; omega⟩
        · obtain rfl : j = 0 := by omega
          have H := HB.out
          clear HB
          obtain ⟨m, hm1⟩ : ∃ m : Int, (((0 : Nat) : Int) - 1) = m := ⟨_, rfl⟩
          have hneg : m < 0 := by omega
          rw [hm1, List.drop_zero]
          clear hm1
          have Hex : Hid ((strB S).extract k S.length = strB (S.drop k)) := Lib.hid (by
            apply ByteArray.ext
            simp [strB, ByteArray.data_extract]
            exact List.take_of_length_le (by simp))
          go_wp2_with (first | (refine wb_cell H rfl 0 9 _ rfl _ 0 rfl _ _ rfl Try.isAgg9 (.string (strB S)) rfl ?_) | (refine wb_put H rfl 0 9 _ _ rfl _ 0 rfl _ _ rfl (.string ((strB S).extract k S.length)) rfl 1 info9 rfl (Nat.le_of_ble_eq_true rfl) rfl #[.string ((strB S).extract k S.length), .bool false] rfl ?_; clear H; intro w H))
          rw [Hex.out] at H
          go_ret
          exact ⟨rfl, H⟩
theorem rn_step {W0 w : World} {l : List Blk} {R : List RowS} (q : Rst) (H : Sb [] W0 w l R) (i r : Nat) (hi : l[i]? = some (r, rC q, 101)) (hm : q.2.length ≤ maxLen) (k : Nat) (hk1 : 1 ≤ k) (hk : k ≤ 8) (kk : Int) (hkk : kk = (k : Int)) :
    Calls Try.prog 58 #[.pointer (some ⟨r, 0, none⟩), .int .i64 kk] w fun e w' => e = .returned (.int .u64 (rv k q)) ∧ Sb [] W0 w' (l.set i (r, rC (rn k q), 101)) R := by
  subst hkk
  have hst : Sb [r] w w [(r, rC q, 101)] [] := ⟨rfl, rfl, rfl, Nat.le_refl _, fun _ _ _ => rfl, fun p hp => by rw [List.mem_singleton] at hp; subst hp; exact H.holds _ (List.mem_of_getElem? hi), fun p hp => by rw [List.mem_singleton] at hp; subst hp; exact .inr (List.mem_cons_self ..), by simp, fun _ h => by simp at h, fun _ h => by simp at h, fun _ h => by simp at h, by simp⟩
  refine (rNum r k q w hk1 hk hm hst).mono ?_
  rintro e w' ⟨rfl, hS⟩
  exact ⟨rfl, H.turn i r _ _ 101 hi hS.os hS.tape hS.output hS.size (hS.holds _ (List.mem_cons_self ..)) (fun j hj hne => hS.fr j hj (by simpa using hne))⟩
theorem ri_step {W0 w : World} {l : List Blk} {R : List RowS} (q : Rst) (H : Sb [] W0 w l R) (i r : Nat) (hi : l[i]? = some (r, rC q, 101)) (hm : q.2.length ≤ maxLen) (k : Nat) (hk1 : 1 ≤ k) (hk : k ≤ 4) (kk : Int) (hkk : kk = (k : Int)) :
    Calls Try.prog 57 #[.pointer (some ⟨r, 0, none⟩), .int .i64 kk] w fun e w' => e = .returned (.int .i64 (rv k q)) ∧ Sb [] W0 w' (l.set i (r, rC (rn k q), 101)) R := by
  have HC := Lib.hid (rn_step q H i r hi hm k hk1 (by omega) kk hkk)
  have hv := rv_lt k q
  have h4 : 256 ^ k ≤ 256 ^ 4 := Nat.pow_le_pow_right (by decide) hk
  have hv4 : rv k q < 4294967296 := by omega
  generalize rv k q = v at *
  clear H hi hm hk1 hk hkk hv h4
  go_enter Try.func57, Try.ntmps57
  go_wp2_with fail
  refine HC.out.mono ?_; rintro e w' ⟨rfl, hS⟩
  have HS := Lib.hid hS
  clear hS HC
  go_wp2_with fail
  go_ret
  exact ⟨rfl, HS.out⟩
theorem r4_step {W0 w : World} {l : List Blk} {R : List RowS} (q : Rst) (H : Sb [] W0 w l R) (i r : Nat) (hi : l[i]? = some (r, rC q, 101)) (hm : q.2.length ≤ maxLen) :
    Calls Try.prog 59 #[.pointer (some ⟨r, 0, none⟩)] w fun e w' => e = .returned (.int .i32 (sg32 (rv 4 q))) ∧ Sb [] W0 w' (l.set i (r, rC (rn 4 q), 101)) R := by
  have HC := Lib.hid (rn_step q H i r hi hm 4 (by decide) (by decide) 4 rfl)
  have hn : rv 4 q < 4294967296 := rv_lt 4 q
  generalize rv 4 q = n at *
  clear H hi hm
  by_cases hs : n < 2147483648
  · rw [show sg32 n = (n : Int) by unfold sg32; rw [if_pos hs]]
    go_enter Try.func59, Try.ntmps59
    go_wp2_with fail
    refine HC.out.mono ?_; rintro e w' ⟨rfl, hS⟩
    have HS := Lib.hid hS
    clear hS HC
    go_wp2_with fail
    go_ret
    exact ⟨rfl, HS.out⟩
  · rw [show sg32 n = (n : Int) - 4294967296 by unfold sg32; rw [if_neg hs]]
    go_enter Try.func59, Try.ntmps59
    go_wp2_with fail
    refine HC.out.mono ?_; rintro e w' ⟨rfl, hS⟩
    have HS := Lib.hid hS
    clear hS HC
    go_wp2_with fail
    go_ret
    refine ⟨?_, HS.out⟩
    show Ending.returned (.int .i32 (wrap32 (n : Int))) = _
    rw [show wrap32 (n : Int) = (n : Int) - 4294967296 by unfold wrap32; omega]
theorem toList_strB (S : List UInt8) : (strB S).toList = S := by rw [ByteArray.toList_eq]; rfl
theorem rend_b {W0 w : World} {l : List Blk} {R : List RowS} (q : Rst) (H : Sb [] W0 w l R) (i r : Nat) (hi : l[i]? = some (r, rC q, 101)) :
    Calls Try.prog 60 #[.pointer (some ⟨r, 0, none⟩)] w fun e w' => e = .returned (.bool (!q.1 && q.2.isEmpty)) ∧ w = w' := by
  obtain ⟨b, S⟩ := q
  have hb := H.holds _ (List.mem_of_getElem? hi)
  have hc0 : w.cell? ⟨r, 0, none⟩ = some (.string (strB S)) := cell_of_row w r 0 _ 101 (0, 0) hb
  have hc1 : w.cell? ⟨r, 1, none⟩ = some (.bool b) := cell_of_row w r 1 _ 101 (0, 0) hb
  clear H hi hb
  cases b with
  | true =>
    go_enter Try.func60, Try.ntmps60
    go_wp2_with fail
    go_ret
    exact ⟨rfl, rfl⟩
  | false =>
    have e := toList_strB S
    generalize strB S = s at *
    go_enter Try.func60, Try.ntmps60
    go_wp2_with fail
    go_ret
    exact ⟨rfl, rfl⟩
end Go.Proofs.Ytijnfeigoggaeaa.game
