/- P3.1, P3.2: greater numbers never take fewer bytes, nor more than one byte more than the number itself has; all of one byte are read from that byte alone. No condition. -/
import Derived.Test.YtijcjllojhpioaaPStripSizesx1
import Derived.Test.YtijcjllojhpioaaPlain03
namespace Go.Proofs.Ytijcjllojhpioaa.Pure
open Go Go.RowKit Go.Fur Go.Proofs.Ytijcjllojhpioaa Go.Proofs.Ytijcjllojhpioaa.PStripSizes Go.Proofs.YtijcjllojhpioaaW.PrintWords Go.Proofs.YtijcjllojhpioaaW.PrintLast
set_option linter.unusedVariables false
theorem awake_true : furlonglaw03_awake.f = some true := by decide +kernel
theorem sizes_j1 (k : Nat) (c : Int) (h0 : 0 ≤ c) (h1 : c < 256) : furlonglaw03_StripSizes.j1 (k + 1) c false = some true := by
  rw [furlonglaw03_StripSizes.j1, if_neg (by simp), read_f [c] 0 (fun x hx => by rw [List.mem_singleton.1 hx]; omega) (by simp)]
  rw [Option.bind_some]
  by_cases c1 : c < 192
  · have e : readN [c] 0 = (c, 1, 0) := by unfold readN; rw [if_neg (by simp)]; simp [c1]
    rw [e, if_pos c1, wrapU_id c h0 (by omega), if_pos rfl, if_pos rfl]
    rfl
  rw [if_neg c1]
  by_cases c2 : c > 199
  · have e : readN [c] 0 = (0, 0, 4) := by unfold readN; rw [if_neg (by simp)]; simp [c1, c2]
    rw [e, if_pos c2, if_pos rfl]
    rfl
  · have e : readN [c] 0 = (0, 1, 5) := by
      unfold readN
      rw [if_neg (by simp)]
      have : 0 < (c - 191).toNat := by omega
      simp [c1, c2, this]
    rw [e, if_neg c2, if_pos rfl]
    rfl
theorem sizes_exit (x y : Nat) (hx : x < 18446744073709551616) (hy : y < 18446744073709551616) (c : Int) (h0 : 0 ≤ c) (h1 : c < 256) (i k : Nat) (hi8 : i ≤ 8) (hi : i = 0 ∨ 256 ^ i ≤ x) (hc : ¬ (255 : Int) < ((x / 256 ^ i : Nat) : Int)) :
    furlonglaw03_StripSizes.l0 (k + 2) (x : Int) (y : Int) c ((i : Int) + 1) ((x / 256 ^ i : Nat) : Int) = some true := by
  have hp : x < 256 ^ (i + 1) := by
    rw [Nat.pow_succ, Nat.mul_comm]
    exact (Nat.div_lt_iff_lt_mul (Nat.pow_pos (by omega))).1 (by omega)
  obtain ⟨n1, n2⟩ := kl_need x i hx hi hp
  have hk8 := kl_le x
  have hm := kl_mono x y
  rw [furlonglaw03_StripSizes.l0, if_neg hc, size_f x hx]
  generalize kl x = p at *
  rw [Option.bind_some]
  rw [wrap64_id _ (by omega) (by omega), if_neg (by omega), if_neg (by omega)]
  by_cases hxy : (y : Int) ≥ (x : Int)
  · rw [if_pos hxy, size_f y hy]
    rw [Option.bind_some]
    have hm := hm (by omega)
    rw [decide_eq_false (by omega)]
    exact sizes_j1 k c h0 h1
  · rw [if_neg hxy]
    exact sizes_j1 k c h0 h1
theorem sizes_step (x y : Nat) (hx : x < 18446744073709551616) (c : Int) (i k : Nat) (hi8 : i ≤ 8) (hc : (255 : Int) < ((x / 256 ^ i : Nat) : Int)) :
    256 ^ (i + 1) ≤ x ∧ furlonglaw03_StripSizes.l0 (k + 1) (x : Int) (y : Int) c ((i : Int) + 1) ((x / 256 ^ i : Nat) : Int) = furlonglaw03_StripSizes.l0 k (x : Int) (y : Int) c (((i + 1 : Nat) : Int) + 1) ((x / 256 ^ (i + 1) : Nat) : Int) := by
  have hp : 256 ^ (i + 1) ≤ x := by
    rw [Nat.pow_succ]
    have h2 : 256 ≤ x / 256 ^ i := by omega
    have := (Nat.le_div_iff_mul_le (Nat.pow_pos (by omega))).1 h2
    rwa [Nat.mul_comm] at this
  refine ⟨hp, ?_⟩
  have e1 : wrap64 ((i : Int) + 1 + 1) = ((i + 1 : Nat) : Int) + 1 := by rw [wrap64_id _ (by omega) (by omega)]; omega
  have e2 : IntKind.u64.wrap (Int.tdiv ((x / 256 ^ i : Nat) : Int) 256) = ((x / 256 ^ (i + 1) : Nat) : Int) := by
    have hle : x / 256 ^ i ≤ x := Nat.div_le_self _ _
    rw [Nat.pow_succ, ← Nat.div_div_eq_div_mul]
    generalize x / 256 ^ i = z at *
    rw [Int.tdiv_eq_ediv_of_nonneg (by omega), wrapU_id _ (by omega) (by omega)]
    omega
  rw [furlonglaw03_StripSizes.l0, if_pos hc, e1, e2]
theorem sizes_l0 (x y : Nat) (hx : x < 18446744073709551616) (hy : y < 18446744073709551616) (c : Int) (h0 : 0 ≤ c) (h1 : c < 256) (d : Nat) :
    ∀ (i k : Nat), i + d = 8 → (i = 0 ∨ 256 ^ i ≤ x) → furlonglaw03_StripSizes.l0 (k + d + 2) (x : Int) (y : Int) c ((i : Int) + 1) ((x / 256 ^ i : Nat) : Int) = some true := by
  induction d with
  | zero =>
    intro i k hd hi
    have h8 : i = 8 := by omega
    subst h8
    refine sizes_exit x y hx hy c h0 h1 8 k (by omega) hi (fun hc => ?_)
    have := (sizes_step x y hx c 8 k (by omega) hc).1
    have h9 : (256 : Nat) ^ (8 + 1) = 4722366482869645213696 := by decide
    omega
  | succ d ih =>
    intro i k hd hi
    by_cases hc : (255 : Int) < ((x / 256 ^ i : Nat) : Int)
    · obtain ⟨hp, he⟩ := sizes_step x y hx c i (k + d + 2) (by omega) hc
      rw [show k + (d + 1) + 2 = k + d + 2 + 1 by omega, he]
      exact ih (i + 1) k (by omega) (.inr hp)
    · exact sizes_exit x y hx hy c h0 h1 i (k + (d + 1)) (by omega) hi hc
theorem StripSizes : furlonglaw03_StripSizes.Pure := by
  intro a0 a1 a2 h0 h1 h2
  obtain ⟨x, rfl, hx⟩ := u64_of h0
  obtain ⟨y, rfl, hy⟩ := u64_of h1
  obtain ⟨c0, c1⟩ := u8_of h2
  refine ⟨20, ?_⟩
  unfold furlonglaw03_StripSizes.f
  rw [awake_true]
  rw [Option.bind_some, if_pos rfl]
  have := sizes_l0 x y hx hy a2 c0 c1 8 0 10 (by omega) (.inl rfl)
  simpa using this
end Go.Proofs.Ytijcjllojhpioaa.Pure
