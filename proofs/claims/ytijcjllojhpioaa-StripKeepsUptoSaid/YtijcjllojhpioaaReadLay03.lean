/- Plain facts: what was laid is read. -/
import Derived.Test.YtijcjllojhpioaaNum03
namespace Go.Proofs.Ytijcjllojhpioaa
open Go Go.RowKit Go.Fur Go.Proofs.YtijcjllojhpioaaW.PrintWords
set_option linter.unusedVariables false
theorem n256_dg (y k : Nat) : ∀ m, m ≤ k → n256 (dg y k m) = y / 256 ^ (k - m) % 256 ^ m
  | 0, _ => by simp [dg, n256, Nat.mod_one]
  | m + 1, h => by
    have ih := n256_dg y k m (by omega)
    rw [dg_succ, n256_snoc, ih, Int.toNat_natCast]
    have e1 : y / 256 ^ (k - m) = y / 256 ^ (k - 1 - m) / 256 := by
      rw [Nat.div_div_eq_div_mul, ← Nat.pow_succ, show (k - 1 - m).succ = k - m by omega]
    rw [e1, show k - (m + 1) = k - 1 - m by omega]
    generalize y / 256 ^ (k - 1 - m) = a
    have e2 := Nat.mod_mul (x := a) (a := 256) (b := 256 ^ m)
    rw [Nat.pow_succ, Nat.mul_comm (256 ^ m) 256, e2]
    omega
theorem readN_lay (pre rest : List Int) (x : Nat) (hx : x < 18446744073709551616) : readN (pre ++ (layN x ++ rest)) (pre.length : Int) = ((x : Int), ((pre.length + (layN x).length : Nat) : Int), 0) := by
  have hk8 := kl_le x
  have htop := kl_top x hx
  have hlo := kl_lo x
  have hhi := kl_hi x
  have hll := layN_length x
  unfold readN
  rw [if_neg (by simp; omega), Int.toNat_natCast, List.drop_left' rfl]
  unfold layN at hll ⊢
  generalize kl x = k at *
  by_cases h0 : k = 0
  · subst h0
    have h1 := hhi (by omega)
    rw [sh_vals.1] at h1
    rw [if_pos rfl]
    rw [List.singleton_append]
    dsimp only
    rw [if_pos (by omega)]
    congr 2
  · rw [if_neg h0, List.cons_append]
    dsimp only
    have htop := htop (by omega)
    have hlo := hlo (by omega)
    rw [if_neg (by omega), if_neg (by omega)]
    have hk : (((191 + k : Nat) : Int) - 191).toNat = k := by omega
    rw [hk, if_neg (by rw [List.length_append, dg_length]; omega), List.take_left' (dg_length _ _ _), n256_dg _ _ k (Nat.le_refl _), Nat.sub_self, Nat.pow_zero, Nat.div_one, Nat.mod_eq_of_lt htop, Nat.sub_add_cancel hlo, if_neg (by omega)]
    simp only [List.length_cons, dg_length]
    congr 2
    omega
theorem zig_back (y : Int) (h0 : -9223372036854775808 ≤ y) (h1 : y < 9223372036854775808) :
    (Int.tmod (zig y : Int) 2 = 1 → Go.bits .xor .i64 (-1) (wrap64 (IntKind.u64.wrap (Int.tdiv (zig y : Int) 2))) = y) ∧ (¬ Int.tmod (zig y : Int) 2 = 1 → wrap64 (IntKind.u64.wrap (Int.tdiv (zig y : Int) 2)) = y) := by
  have hz := zig_lt y h0 h1
  have hw : wrap64 (IntKind.u64.wrap (Int.tdiv (zig y : Int) 2)) = (zig y : Int) / 2 := by
    rw [Int.tdiv_eq_ediv_of_nonneg (by omega), wrapU_id _ (by omega) (by omega), wrap64_id _ (by omega) (by omega)]
  rw [hw, Int.tmod_eq_emod_of_nonneg (by omega)]
  unfold zig at hz ⊢
  constructor
  · intro h
    rw [i64_compl _ (by omega) (by omega)]
    split at h <;> split <;> omega
  · intro h
    split at h <;> split <;> omega
theorem readB_lay (pre rest p : List Int) (hp : p.length ≤ 1048576) : readB (pre ++ (layN p.length ++ (p ++ rest))) (pre.length : Int) = (p, ((pre.length + (layN p.length).length + p.length : Nat) : Int), 0) := by
  unfold readB
  rw [readN_lay pre (p ++ rest) p.length (by omega)]
  dsimp only
  rw [if_neg (by simp), if_neg (by omega), if_neg (by simp; omega), Int.toNat_natCast, Int.toNat_natCast, ← List.append_assoc, List.drop_left' (by simp), List.take_left' rfl]
  congr 2
end Go.Proofs.Ytijcjllojhpioaa
