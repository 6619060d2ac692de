/- The values of leaves: filigreeref24.column, full, turned. -/
import Derived.Test.YtkhlllbceceikaaDoorRise
import Derived.Test.YtkhlllbceceikaaDoorStill
namespace Go.Proofs.YtkhlllbceceikaaDoor
open Go.RowKit
set_option linter.unusedVariables false
set_option linter.unusedSimpArgs false

theorem u64_and_nat (a b : Nat) (ha : a < 18446744073709551616) (hb : b < 18446744073709551616) : bits .and .u64 (a : Int) (b : Int) = ((a &&& b : Nat) : Int) := by
  have e : bits .and .u64 (a : Int) (b : Int) = IntKind.u64.wrap ((BitVec.ofInt 64 (a : Int) &&& BitVec.ofInt 64 (b : Int)).toNat : Int) := rfl
  have e1 : (BitVec.ofInt 64 (a : Int)).toNat = a := by simp; omega
  have e2 : (BitVec.ofInt 64 (b : Int)).toNat = b := by simp; omega
  have h : a &&& b ≤ a := Nat.and_le_left
  rw [e, BitVec.toNat_and, e1, e2]
  show ((a &&& b : Nat) : Int) % 18446744073709551616 = _
  omega
theorem u64_or_nat (a b : Nat) (ha : a < 18446744073709551616) (hb : b < 18446744073709551616) : bits .or .u64 (a : Int) (b : Int) = ((a ||| b : Nat) : Int) := by
  have e : bits .or .u64 (a : Int) (b : Int) = IntKind.u64.wrap ((BitVec.ofInt 64 (a : Int) ||| BitVec.ofInt 64 (b : Int)).toNat : Int) := rfl
  have e1 : (BitVec.ofInt 64 (a : Int)).toNat = a := by simp; omega
  have e2 : (BitVec.ofInt 64 (b : Int)).toNat = b := by simp; omega
  have h : a ||| b < 2 ^ 64 := Nat.or_lt_two_pow (by omega) (by omega)
  rw [e, BitVec.toNat_or, e1, e2]
  show ((a ||| b : Nat) : Int) % 18446744073709551616 = _
  omega
namespace Cut
/-- a leaf's values in the first rows -/
def colTo (k : Nat) : Nat → Nat
  | 0 => 0
  | i + 1 => if i / 2 ^ k % 2 = 1 then colTo k i ||| 2 ^ i else colTo k i
theorem colTo_lt (k : Nat) : ∀ i, i ≤ 64 → colTo k i < 18446744073709551616
  | 0, _ => by simp [colTo]
  | i + 1, h => by
    have ih := colTo_lt k i (by omega)
    rw [colTo]
    split
    · refine Nat.or_lt_two_pow (n := 64) ih ?_
      exact Nat.pow_lt_pow_right (by omega) (by omega)
    · exact ih
def colM (k n : Nat) : Nat := colTo k (2 ^ n)
theorem colM_lt (k n : Nat) (h : n ≤ 6) : colM k n < 18446744073709551616 := colTo_lt k _ (by
  have : 2 ^ n ≤ 2 ^ 6 := Nat.pow_le_pow_right (by omega) h
  omega)
theorem colM_eq (k n : Nat) (hk : k < n) (hn : n ≤ 6) : colM k n = col k &&& rows n := by
  rcases (show n = 1 ∨ n = 2 ∨ n = 3 ∨ n = 4 ∨ n = 5 ∨ n = 6 by omega) with rfl | rfl | rfl | rfl | rfl | rfl
  · obtain rfl : k = 0 := by omega
    decide
  · rcases (show k = 0 ∨ k = 1 by omega) with rfl | rfl <;> decide
  · rcases (show k = 0 ∨ k = 1 ∨ k = 2 by omega) with rfl | rfl | rfl <;> decide
  · rcases (show k = 0 ∨ k = 1 ∨ k = 2 ∨ k = 3 by omega) with rfl | rfl | rfl | rfl <;> decide +kernel
  · rcases (show k = 0 ∨ k = 1 ∨ k = 2 ∨ k = 3 ∨ k = 4 by omega) with rfl | rfl | rfl | rfl | rfl <;> decide +kernel
  · rcases (show k = 0 ∨ k = 1 ∨ k = 2 ∨ k = 3 ∨ k = 4 ∨ k = 5 by omega) with rfl | rfl | rfl | rfl | rfl | rfl <;> decide +kernel
theorem full_eq (n : Nat) (hn : n ≤ 6) : (colM 0 n ||| (colM 0 n / 2)) ||| 1 = rows n := by
  rcases (show n = 0 ∨ n = 1 ∨ n = 2 ∨ n = 3 ∨ n = 4 ∨ n = 5 ∨ n = 6 by omega) with rfl | rfl | rfl | rfl | rfl | rfl | rfl <;> decide +kernel
theorem rows_lt (n : Nat) (hn : n ≤ 6) : rows n < 18446744073709551616 := by
  rcases (show n = 0 ∨ n = 1 ∨ n = 2 ∨ n = 3 ∨ n = 4 ∨ n = 5 ∨ n = 6 by omega) with rfl | rfl | rfl | rfl | rfl | rfl | rfl <;> decide
end Cut
set_option maxRecDepth 100000 in
set_option maxHeartbeats 1000000 in
theorem column_any (k n : Nat) (w : World) (hk : k ≤ 5) (hn : n ≤ 6) :
    Calls Tryd.prog 54 #[.int .i64 (k : Int), .int .i64 (n : Int)] w fun r w' => r = .returned (.int .u64 (Cut.colM k n : Int)) ∧ w = w' := by
  obtain ⟨p, hp⟩ : ∃ p, 2 ^ n = p := ⟨_, rfl⟩
  obtain ⟨q, hq⟩ : ∃ q, 2 ^ k = q := ⟨_, rfl⟩
  have hp6 : p ≤ 64 := by
    have : 2 ^ n ≤ 2 ^ 6 := Nat.pow_le_pow_right (by omega) hn
    omega
  have HP := pow_nat hp
  have HQ := pow_nat hq
  have hc : Cut.colM k n = Cut.colTo k p := by rw [← hp]; rfl
  rw [hc]
  clear hc
  have HP2 := Lib.hid hp
  have HQ2 := Lib.hid hq
  clear hp hq
  go_enter Tryd.func54, Tryd.ntmps54
  go_wp2_with fail
  go_loop [5, 6] (fun v i => ∃ j : Nat, j ≤ p ∧ i = .int .i64 (j : Int) ∧ v = .int .u64 (Cut.colTo k j : Int)) (fun _ i => p - (intOf i).toNat)
  case atStart => exact ⟨0, by omega, rfl, rfl⟩
  case round =>
    obtain ⟨j, hj, rfl, rfl⟩ := hrel
    by_cases hlt : j < p
    case neg =>
      obtain rfl : j = p := by omega
      go_wp2_with fail
      go_ret
      exact ⟨rfl, rfl⟩
    obtain ⟨d, hd⟩ : ∃ d, j / q = d := ⟨_, rfl⟩
    have HD : (j : Int) / (q : Int) = (d : Int) := by rw [← hd]; rfl
    have hd6 : d ≤ 64 := by rw [← hd]; exact Nat.le_trans (Nat.div_le_self _ _) (by omega)
    have HB := and1_i64 d (by omega)
    obtain ⟨x, hx⟩ : ∃ x, Cut.colTo k j = x := ⟨_, rfl⟩
    have hx64 : x < 18446744073709551616 := by rw [← hx]; exact Cut.colTo_lt k j (by omega)
    obtain ⟨y, hy⟩ : ∃ y, 2 ^ j = y := ⟨_, rfl⟩
    have HY := pow_nat hy
    have hy64 : y < 18446744073709551616 := by rw [← hy]; exact Nat.pow_lt_pow_right (n := 64) (by omega) (by omega)
    have HO := u64_or_nat x y hx64 hy64
    by_cases hb : d % 2 = 1
    · have hnx : Cut.colTo k (j + 1) = x ||| y := by
        rw [Cut.colTo, HQ2.out, hd, if_pos hb, hx, hy]
      have HN := Lib.hid hnx
      rw [hb] at HB
      rw [hx]
      have HX := Lib.hid hx
      clear hx hnx hd hy
      go_wp2_with fail
      go_round
      · exact ⟨j + 1, by omega, by go_num, by rw [HN.out]⟩
      · simp [intOf]; omega
    · have hb0 : d % 2 = 0 := by omega
      have hnx : Cut.colTo k (j + 1) = x := by
        rw [Cut.colTo, HQ2.out, hd, if_neg hb, hx]
      have HN := Lib.hid hnx
      rw [hb0] at HB
      rw [hx]
      have HX := Lib.hid hx
      clear hx hnx hd hy
      go_wp2_with fail
      go_round
      · exact ⟨j + 1, by omega, by go_num, by rw [HN.out]⟩
      · simp [intOf]; omega
end Go.Proofs.YtkhlllbceceikaaDoor
