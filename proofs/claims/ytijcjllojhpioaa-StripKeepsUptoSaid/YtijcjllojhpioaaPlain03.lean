/- Plain facts on strip's numbers and bytes: no program is walked here. -/
import Derived.Test.YtijcjllojhpioaaGiv03
namespace Go.Proofs.Ytijcjllojhpioaa
open Go Go.RowKit Go.Fur Go.Proofs.YtijcjllojhpioaaW.PrintWords
set_option linter.unusedVariables false
theorem wrap64_id (x : Int) (h0 : -9223372036854775808 ≤ x) (h1 : x < 9223372036854775808) : wrap64 x = x := by
  unfold wrap64
  omega
theorem wrapU_id (x : Int) (h0 : 0 ≤ x) (h1 : x < 18446744073709551616) : IntKind.u64.wrap x = x := by
  rw [IntKind.wrap_u64]
  omega
theorem u64_of {a : Int} (h : (Lit.int .u64 a).wf = true) : ∃ x : Nat, a = (x : Int) ∧ x < 18446744073709551616 := by
  have h2 : (decide ((0 : Int) ≤ a) && decide (a ≤ 18446744073709551615)) = true := h
  have : 0 ≤ a ∧ a ≤ 18446744073709551615 := by simpa using h2
  exact ⟨a.toNat, by omega, by omega⟩
theorem i64_of {a : Int} (h : (Lit.int .i64 a).wf = true) : -9223372036854775808 ≤ a ∧ a < 9223372036854775808 := by
  have h2 : (decide ((-9223372036854775808 : Int) ≤ a) && decide (a ≤ 9223372036854775807)) = true := h
  have : -9223372036854775808 ≤ a ∧ a ≤ 9223372036854775807 := by simpa using h2
  omega
theorem u8_of {a : Int} (h : (Lit.int .u8 a).wf = true) : 0 ≤ a ∧ a < 256 := by
  have h2 : (decide ((0 : Int) ≤ a) && decide (a ≤ 255)) = true := h
  have : 0 ≤ a ∧ a ≤ 255 := by simpa using h2
  omega
theorem byt_of {l : List Int} (h : ∀ x ∈ l, (Lit.int .u8 x).wf = true) : Byt l := fun x hx => u8_of (h x hx)
theorem okB_of {l : List Int} (h : Byt l) (hl : l.length ≤ 140737488355328) : okB l = true := okB_is.2 ⟨h, hl⟩
theorem size_f (x : Nat) (hx : x < 18446744073709551616) : strip_Size.f (x : Int) = some ((1 + kl x : Nat) : Int) := by
  unfold strip_Size.f
  rw [if_pos (by omega), Int.toNat_natCast]
theorem lay_f (l : List Int) (x : Nat) (hx : x < 18446744073709551616) (hl : l.length + 9 ≤ 140737488355328) : strip_Lay.f l (x : Int) = some (l ++ layN x) := by
  unfold strip_Lay.f
  rw [if_pos ⟨hl, by omega, by omega⟩, Int.toNat_natCast]
theorem read_f (l : List Int) (at_ : Int) (h : Byt l) (hl : l.length ≤ 140737488355328) : strip_Read.f l at_ = some (readN l at_) := by
  unfold strip_Read.f
  rw [if_pos (okB_of h hl)]
theorem readBytes_f (l : List Int) (at_ : Int) (h : Byt l) (hl : l.length ≤ 140737488355328) : strip_ReadBytes.f l at_ = some (readB l at_) := by
  unfold strip_ReadBytes.f
  rw [if_pos (okB_of h hl)]
theorem guard_f (l : List Int) (h : Byt l) (hl : l.length ≤ 140737488355328) : strip_Guard.f l = some (guardN l) := by
  unfold strip_Guard.f
  rw [if_pos (okB_of h hl)]
theorem mend_f (l : List Int) (h : Byt l) (hl : l.length ≤ 140737488355328) : strip_Mend.f l = some (mendN l) := by
  unfold strip_Mend.f
  rw [if_pos (okB_of h hl)]
theorem kl_mono (x y : Nat) (h : x ≤ y) : kl x ≤ kl y := by
  obtain ⟨k, hk8, hk, hlo, hhi⟩ := kl_spec x
  obtain ⟨j, hj8, hj, jlo, jhi⟩ := kl_spec y
  rw [hk, hj]
  by_cases hc : k ≤ j
  · exact hc
  · have h1 := hlo (by omega)
    have h2 := jhi (by omega)
    have h3 := sh_mono j (k - 1) (by omega)
    omega
theorem sh_lt (k : Nat) (hk : k ≤ 7) : sh k < 256 ^ (k + 1) := by
  have hk8 : k = 0 ∨ k = 1 ∨ k = 2 ∨ k = 3 ∨ k = 4 ∨ k = 5 ∨ k = 6 ∨ k = 7 := by omega
  rcases hk8 with rfl | rfl | rfl | rfl | rfl | rfl | rfl | rfl <;> decide
theorem sh_ge (k : Nat) (h0 : 0 < k) : 256 ^ k ≤ sh k := by
  obtain ⟨j, rfl⟩ : ∃ j, k = j + 1 := ⟨k - 1, by omega⟩
  exact Nat.le_add_left _ _
theorem kl_need (x i : Nat) (hx : x < 18446744073709551616) (h0 : i = 0 ∨ 256 ^ i ≤ x) (h1 : x < 256 ^ (i + 1)) : i ≤ kl x ∧ kl x ≤ i + 1 := by
  obtain ⟨k, hk8, hk, hlo, hhi⟩ := kl_spec x
  rw [hk]
  constructor
  · rcases Nat.lt_or_ge k i with h | h
    · have h2 := hhi
      by_cases h8 : k < 8
      · have h3 := hhi h8
        have h4 := sh_lt k (by omega)
        have h5 : 256 ^ (k + 1) ≤ 256 ^ i := Nat.pow_le_pow_right (by omega) h
        rcases h0 with h0 | h0 <;> omega
      · have : k = 8 := by omega
        subst this
        exfalso
        have h5 : 256 ^ 9 ≤ 256 ^ i := Nat.pow_le_pow_right (by omega) h
        have h6 : 256 ^ i ≤ x := by rcases h0 with h0 | h0 <;> omega
        have h7 : (256 : Nat) ^ 9 = 4722366482869645213696 := by decide
        omega
    · exact h
  · rcases Nat.lt_or_ge (i + 1) k with h | h
    · have h3 := hlo (by omega)
      have h4 := sh_ge (k - 1) (by omega)
      have h5 : 256 ^ (i + 1) ≤ 256 ^ (k - 1) := Nat.pow_le_pow_right (by omega) (by omega)
      omega
    · exact h
end Go.Proofs.Ytijcjllojhpioaa
