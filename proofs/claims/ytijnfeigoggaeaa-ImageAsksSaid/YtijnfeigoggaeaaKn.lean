/- The reference's Num: a number in so many bytes, as a text. -/
import Derived.Test.YtijnfeigoggaeaaBw
import Derived.Test.YtijnfeigoggaeaaSu
namespace Go.Proofs.Ytijnfeigoggaeaa.game
open Go.ChangeShapes Go.WideShapes Go.ChangeAt Go.RowKit
set_option maxRecDepth 100000

theorem rnumB (n k : Nat) (w0 : World) (hk : k ≤ 8) :
    Calls Try.prog 51 #[.int .u64 n, .int .i64 k] w0 fun e w' => e = .returned (.string (strB (numB k n))) ∧ Below w0.heap.size w0 w' := by
  obtain ⟨i5, hi, hz, hs, hby⟩ : ∃ i, Try.prog.info? 5 = some i ∧ i.zero = some (.int .u8 0) ∧ i.size = 1 ∧ i.bytes = 1 := by
    have := info5b
    cases hq : Try.prog.info? 5 with
    | none => simp [hq] at this
    | some i => simp [hq] at this; exact ⟨i, rfl, this.1, this.2.1, this.2.2⟩
  have H0 := Sb.start w0
  have HH := Lib.hid (Sw.nil H0)
  clear H0
  go_enter Try.func51, Try.ntmps51
  go_wp2_with fail
  go_loopw [5, 6] (fun x i W => ∃ (j : Nat), j ≤ k ∧ i = .int .i64 j ∧ Hid (Sw [] w0 W [] x (numB j n))) (fun _ i _ => k - (intOf i).toNat)
  case atStart => exact ⟨0, Nat.zero_le _, rfl, by simpa [numB] using HH⟩
  case round =>
    clear HH
    obtain ⟨j, hj, rfl, HB⟩ := hrel
    by_cases hlt : j < k
    · have H := HB.out
      have hj8 : j < 8 := by omega
      have Hsn : Hid (numB (j + 1) n = numB j n ++ [UInt8.ofNat (n / 256 ^ j)]) := Lib.hid (numB_snoc _ _)
      have Hl : Hid ((numB j n).length + 1 ≤ 100010) := Lib.hid (by rw [length_numB]; omega)
      obtain ⟨ad1, c1, rfl⟩ := row_form H.row
      have he : (n : Int) / 2 ^ (8 * j) = ((n / 256 ^ j : Nat) : Int) := by
        rw [show (256 : Nat) = 2 ^ 8 from rfl, ← Nat.pow_mul]; simp
      have He := Lib.hid he
      have HNh : Hid (∀ u : Value, Sw [] w0 (wr.alloc (.cells #[u] 5)) [(wr.heap.size, #[u], 5)] (.slice ad1 (numB j n).length c1) (numB j n)) := Lib.hid (fun u => H.new #[u] 5)
      have Hnews : Hid (∀ u : Value, ∀ j z, [u][j]? = some z → (wr.alloc (.cells #[u] 5)).cell? ((⟨wr.heap.size, 0, none⟩ : Addr).add j) = some z) := Lib.hid (fun u => cell_one_new _ _ _)
      have Hone : Hid (∀ (a : Int), ∀ u ∈ [Value.int .u8 a], u.oneCell' = true) := Lib.hid (fun a u hu => by rw [List.mem_singleton] at hu; subst hu; rfl)
      have Hvb : Hid (vb [UInt8.ofNat (n / 256 ^ j)] = [Value.int .u8 (((n / 256 ^ j : Nat) : Int) % 256)]) := Lib.hid (by simp [vb])
      have hmx : (numB j n).length + 1 ≤ maxLen := by have := Hl.out; unfold maxLen; omega
      have hbt : ((numB j n).length + 1) * 1 ≤ 140737488355328 := by have := Hl.out; omega
      clear HB he
      go_wp2_with (at_builtin; rw [He.out]; refine wpList_append_own_at _ rfl _ _ 36 rfl 0 5 i5 (.int .u8 0) 1 1 Try.underlying36 hi hz hs hby rfl (by decide) _ (numB j n).length (vb (numB j n)) rfl (HNh.out _).row ⟨wr.heap.size, 0, none⟩ 1 1 [.int .u8 (((n / 256 ^ j : Nat) : Int) % 256)] rfl rfl (Hnews.out _) (Hone.out _) hmx hbt (Nat.zero_le _) ?_; intro v2 w2 hown hgrow hnil hblk; have H9 := (HNh.out _).grow (more := [UInt8.ofNat (n / 256 ^ j)]) (by rw [Hvb.out]; exact hown) hgrow hblk; obtain ⟨ad2, c2, hv2⟩ := row_form hown; subst hv2; clear hown hgrow hnil hblk)
      exact ⟨⟨j + 1, hlt, rfl, by rw [Hsn.out]; exact Lib.hid H9.tail⟩, by simp only [intOf]; omega⟩
    · obtain rfl : j = k := by omega
      have H := HB.out
      have hcv := convB (Bs.of_row H.row)
      obtain ⟨ad1, c1, rfl⟩ := row_form H.row
      clear HB
      go_wp2_with fail
      go_ret
      exact ⟨rfl, H.st.below⟩
theorem rfourB (a : Int) (w0 : World) :
    Calls Try.prog 52 #[.int .i32 a] w0 fun e w' => e = .returned (.string (strB (numB 4 (lo32 a)))) ∧ Below w0.heap.size w0 w' := by
  have HN := Lib.hid (rnumB (lo32 a) 4 w0 (by decide))
  have he : a % 4294967296 = ((lo32 a : Nat) : Int) := (lo32_cast a).symm
  go_enter Try.func52, Try.ntmps52
  go_wp2_with fail
  rw [he]
  refine HN.out.mono ?_; rintro e w' ⟨rfl, hb⟩
  go_wp2_with fail
  go_ret
  exact ⟨rfl, hb⟩
end Go.Proofs.Ytijnfeigoggaeaa.game
