/- Plain facts on whole numbers as numbers. -/
import Derived.Test.YtijcjllojhpioaaPlain03b
import Derived.Lib.Zigzag
namespace Go.Proofs.Ytijcjllojhpioaa
open Go Go.RowKit Go.Fur Go.Proofs.YtijcjllojhpioaaW.PrintWords
set_option linter.unusedVariables false
/-- '^a'. -/
theorem i64_compl (a : Int) (h0 : -9223372036854775808 ≤ a) (h1 : a < 9223372036854775808) : bits .xor .i64 (-1) a = -1 - a := by
  show IntKind.i64.wrap ((BitVec.ofInt 64 (-1) ^^^ BitVec.ofInt 64 a).toNat : Int) = _
  have e1 : (BitVec.ofInt 64 (-1)).toNat = 2 ^ 64 - 1 := by decide
  have e2 : (BitVec.ofInt 64 a).toNat = (a % 18446744073709551616).toNat := by rw [BitVec.toNat_ofInt]; rfl
  rw [BitVec.toNat_xor, e1, e2, Lib.xor_ones64 _ (by omega), IntKind.wrap_i64]
  omega
/-- A whole number as a number. -/
def zig (y : Int) : Nat := if y < 0 then (2 * (-y - 1) + 1).toNat else (2 * y).toNat
theorem zig_lt (y : Int) (h0 : -9223372036854775808 ≤ y) (h1 : y < 9223372036854775808) : zig y < 18446744073709551616 := by
  unfold zig
  split <;> omega
theorem wrapU_is (x : Int) : IntKind.u64.wrap x = x % 18446744073709551616 := IntKind.wrap_u64 x
theorem zig_code (y : Int) (h0 : -9223372036854775808 ≤ y) (h1 : y < 9223372036854775808) :
    (y < 0 → IntKind.u64.wrap ((IntKind.u64.wrap (2 * (IntKind.u64.wrap (Go.bits .xor .i64 (-1) y)))) + 1) = (zig y : Int)) ∧ (¬ y < 0 → IntKind.u64.wrap (2 * (IntKind.u64.wrap (y))) = (zig y : Int)) := by
  constructor
  · intro h
    rw [i64_compl y h0 h1]
    simp only [wrapU_is]
    unfold zig
    rw [if_pos h]
    omega
  · intro h
    simp only [wrapU_is]
    unfold zig
    rw [if_neg h]
    omega
theorem zig_doc (y : Int) (h0 : -9223372036854775808 ≤ y) (h1 : y < 9223372036854775808) :
    (y < 0 → IntKind.u64.wrap ((IntKind.u64.wrap ((IntKind.u64.wrap (wrap64 (-(wrap64 (y + 1))))) * 2)) + 1) = (zig y : Int)) ∧ (¬ y < 0 → IntKind.u64.wrap ((IntKind.u64.wrap (y)) * 2) = (zig y : Int)) := by
  constructor
  · intro h
    rw [wrap64_id (y + 1) (by omega) (by omega), wrap64_id _ (by omega) (by omega)]
    simp only [wrapU_is]
    unfold zig
    rw [if_pos h]
    omega
  · intro h
    simp only [wrapU_is]
    unfold zig
    rw [if_neg h]
    omega
theorem sh_step (k : Nat) (h1 : 1 ≤ k) : sh k = sh (k - 1) + 256 ^ k := by
  obtain ⟨j, rfl⟩ : ∃ j, k = j + 1 := ⟨k - 1, by omega⟩
  rfl
theorem pow_le8 (k : Nat) (h : k ≤ 8) : 256 ^ k ≤ 18446744073709551616 := by
  have : 256 ^ k ≤ 256 ^ 8 := Nat.pow_le_pow_right (by omega) h
  have e : (256 : Nat) ^ 8 = 18446744073709551616 := by decide
  omega
theorem pow_le7 (k : Nat) (h : k ≤ 7) : 256 ^ k ≤ 72057594037927936 := by
  have : 256 ^ k ≤ 256 ^ 7 := Nat.pow_le_pow_right (by omega) h
  have e : (256 : Nat) ^ 7 = 72057594037927936 := by decide
  omega
end Go.Proofs.Ytijcjllojhpioaa
