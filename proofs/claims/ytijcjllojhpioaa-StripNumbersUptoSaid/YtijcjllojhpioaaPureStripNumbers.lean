/- P3.1: what is laid behind any bytes, and how many bytes it takes: for slices of at most 1048576 bytes together. -/
import Derived.Test.YtijcjllojhpioaaPStripNumbersx1
import Derived.Test.YtijcjllojhpioaaNum03
namespace Go.Proofs.Ytijcjllojhpioaa.Pure
open Go Go.RowKit Go.Fur Go.Proofs.Ytijcjllojhpioaa Go.Proofs.Ytijcjllojhpioaa.PStripNumbers Go.Proofs.YtijcjllojhpioaaW.PrintWords Go.Proofs.YtijcjllojhpioaaW.PrintLast Go.Proofs.YtijcjllojhpioaaW.PrintMore
set_option linter.unusedVariables false
theorem num_l1 (x s : Nat) (hs : s ≤ x) (hx : x < 18446744073709551616) (k : Nat) (hk : k ≤ 8) (d : Nat) : ∀ (m F : Nat), m + d = k →
    furlongref03_Num.l1 (F + 1 + d) (x : Int) (s : Int) (((191 + k : Nat) : Int) :: dg (x - s) k m) ((k : Int) - 1 - m) = some (((191 + k : Nat) : Int) :: dg (x - s) k k) := by
  induction d with
  | zero =>
    intro m F hm
    have : m = k := by omega
    subst this
    rw [furlongref03_Num.l1, if_neg (by omega)]
  | succ d ih =>
    intro m F hm
    have e1 : wrap64 (8 * ((k : Int) - 1 - m)) = ((8 * (k - 1 - m) : Nat) : Int) := by rw [wrap64_id _ (by omega) (by omega)]; omega
    have e2 : IntKind.u64.wrap ((x : Int) - (s : Int)) = ((x - s : Nat) : Int) := by rw [wrapU_id _ (by omega) (by omega)]; omega
    have e3 : shr .u64 ((x - s : Nat) : Int) ((8 * (k - 1 - m) : Nat) : Int) % 256 = (((x - s) / 256 ^ (k - 1 - m) % 256 : Nat) : Int) := by
      unfold shr
      rw [Int.toNat_natCast, Nat.min_eq_left (show 8 * (k - 1 - m) ≤ IntKind.u64.bits by show _ ≤ 64; omega)]
      have e : (256 : Nat) ^ (k - 1 - m) = 2 ^ (8 * (k - 1 - m)) := by rw [show (256 : Nat) = 2 ^ 8 from rfl, ← Nat.pow_mul]
      rw [e]
      simp
    rw [show F + 1 + (d + 1) = F + 1 + d + 1 by omega, furlongref03_Num.l1, if_pos (by omega), e1, if_pos (by omega), if_pos (by rw [List.length_cons, dg_length]; omega), e2, e3, wrap64_id _ (by omega) (by omega), List.cons_append, ← dg_succ]
    have := ih (m + 1) F (by omega)
    rw [show (k : Int) - 1 - ((m + 1 : Nat) : Int) = (k : Int) - 1 - (m : Int) - 1 by omega] at this
    exact this
theorem num_j1 (x k F : Nat) (hk1 : 1 ≤ k) (hk8 : k ≤ 8) (hx : x < 18446744073709551616) (hs : sh (k - 1) ≤ x) :
    furlongref03_Num.j1 (F + 10) (x : Int) ((sh (k - 1) : Nat) : Int) (k : Int) = some (((191 + k : Nat) : Int) :: dg (x - sh (k - 1)) k k) := by
  rw [furlongref03_Num.j1, wrap64_id (191 + (k : Int)) (by omega) (by omega), wrap64_id ((k : Int) - 1) (by omega) (by omega)]
  have := num_l1 x (sh (k - 1)) hs hx k hk8 k 0 (F + 8 - k) (by omega)
  rw [show F + 8 - k + 1 + k = F + 9 by omega, Int.natCast_zero, Int.sub_zero] at this
  rw [show (191 + (k : Int)) % 256 = ((191 + k : Nat) : Int) by omega]
  exact this
theorem num_l0 (x : Nat) (hx : x < 18446744073709551616) (d : Nat) : ∀ (k F : Nat), 1 ≤ k → k + d = 8 → sh (k - 1) ≤ x → (0 < kl x → k ≤ kl x) →
    furlongref03_Num.l0 (F + 11 + d) (x : Int) ((sh (k - 1) : Nat) : Int) ((256 ^ k % 18446744073709551616 : Nat) : Int) (k : Int) = some (layN x) := by
  have fin : ∀ (k F : Nat), 1 ≤ k → k ≤ 8 → sh (k - 1) ≤ x → (k < 8 → x < sh k) → furlongref03_Num.j1 (F + 10) (x : Int) ((sh (k - 1) : Nat) : Int) (k : Int) = some (layN x) := fun k F h1 h8 hlo hhi => by
    rw [num_j1 x k F h1 h8 hx hlo]
    have e := kl_is x k h8 (fun _ => hlo) hhi
    unfold layN
    rw [e, if_neg (by omega)]
  induction d with
  | zero =>
    intro k F h1 hd hlo _
    have : k = 8 := by omega
    subst this
    rw [furlongref03_Num.l0, if_neg (by omega)]
    exact fin 8 F h1 (by omega) hlo (by omega)
  | succ d ih =>
    intro k F h1 hd hlo _
    have hp := pow_le7 k (by omega)
    have hst := sh_step k h1
    have e0 : 256 ^ k % 18446744073709551616 = 256 ^ k := Nat.mod_eq_of_lt (by omega)
    have e1 : IntKind.u64.wrap ((x : Int) - ((sh (k - 1) : Nat) : Int)) = ((x - sh (k - 1) : Nat) : Int) := by rw [wrapU_id _ (by omega) (by omega)]; omega
    rw [show F + 11 + (d + 1) = F + 10 + 1 + d + 1 by omega, furlongref03_Num.l0, if_pos (by omega), e1, e0]
    by_cases h : ((x - sh (k - 1) : Nat) : Int) ≥ ((256 ^ k : Nat) : Int)
    · rw [if_pos h]
      have hs8 := sh_le k (by omega)
      have e2 : IntKind.u64.wrap (((sh (k - 1) : Nat) : Int) + ((256 ^ k : Nat) : Int)) = ((sh k : Nat) : Int) := by rw [wrapU_id _ (by omega) (by omega), hst]; omega
      have e3 : IntKind.u64.wrap (((256 ^ k : Nat) : Int) * 256) = ((256 ^ (k + 1) % 18446744073709551616 : Nat) : Int) := by
        rw [wrapU_is, Nat.pow_succ]
        omega
      rw [e2, e3, wrap64_id _ (by omega) (by omega)]
      have := ih (k + 1) F (by omega) (by omega) (by rw [Nat.add_sub_cancel]; omega) (fun _ => by
        rcases Nat.lt_or_ge k (kl x) with h3 | h3
        · exact h3
        · have := kl_hi x (by omega)
          have := sh_mono (kl x) k h3
          omega)
      rw [Nat.add_sub_cancel] at this
      exact this
    · rw [if_neg h]
      have := fin k (F + 1 + d) h1 (by omega) hlo (fun _ => by omega)
      rw [show F + 1 + d + 10 = F + 10 + 1 + d by omega] at this
      exact this
theorem num_f (x : Nat) (hx : x < 18446744073709551616) : furlongref03_Num.f 30 (x : Int) = some (layN x) := by
  unfold furlongref03_Num.f
  by_cases h : x < 192
  · rw [if_pos (by omega)]
    have e : kl x = 0 := kl_is x 0 (by omega) (by omega) (fun _ => by rw [sh_vals.1]; exact h)
    unfold layN
    rw [if_pos e, show (x : Int) % 256 = (x : Int) by omega]
  · rw [if_neg (by omega)]
    have := num_l0 x hx 7 1 12 (by omega) (by omega) (by rw [show 1 - 1 = 0 from rfl, sh_vals.1]; omega) (fun h => h)
    have e0 : sh 0 = 192 := sh_vals.1
    simpa [e0] using this
theorem after_f (l m : List Int) (h : l.length + m.length < 140737488355328) : furlongref03_After.f l m = some (l ++ m) := by
  unfold furlongref03_After.f
  rw [Option.bind_some, if_pos (by simp; omega), Option.bind_some, if_pos (by simp; omega), List.nil_append]
theorem whole_f (y : Int) (h0 : -9223372036854775808 ≤ y) (h1 : y < 9223372036854775808) : furlongref03_Whole.f 30 y = some (layN (zig y)) := by
  obtain ⟨d1, d2⟩ := zig_doc y h0 h1
  have hz := zig_lt y h0 h1
  unfold furlongref03_Whole.f
  by_cases h : y < 0
  · rw [if_pos h, d1 h, num_f _ hz, Option.bind_some]
  · rw [if_neg h, d2 h, num_f _ hz, Option.bind_some]
theorem layInt_f (l : List Int) (y : Int) (h0 : -9223372036854775808 ≤ y) (h1 : y < 9223372036854775808) (hl : l.length + 9 ≤ 140737488355328) : strip_LayInt.f l y = some (l ++ layN (zig y)) := by
  obtain ⟨d1, d2⟩ := zig_code y h0 h1
  have hz := zig_lt y h0 h1
  unfold strip_LayInt.f
  by_cases h : y < 0
  · rw [if_pos h, d1 h, lay_f l _ hz hl, Option.bind_some]
  · rw [if_neg h, d2 h, lay_f l _ hz hl, Option.bind_some]
theorem StripNumbersUpto (b : List Int) (a1 a2 : Int) (p : List Int) (_h0 : b.length ≤ maxLen) (_h1 : b.length * 1 ≤ 140737488351232) (h2 : ∀ x ∈ b, (Lit.int .u8 x).wf = true) (h3 : (Lit.int .u64 a1).wf = true) (h4 : (Lit.int .i64 a2).wf = true)
    (_h5 : p.length ≤ maxLen) (_h6 : p.length * 1 ≤ 140737488351232) (h7 : ∀ x ∈ p, (Lit.int .u8 x).wf = true) (hs : b.length + p.length ≤ 1048576) : ∃ k, furlonglaw03_StripNumbers.f k b a1 a2 p = some true := by
  obtain ⟨x, rfl, hx⟩ := u64_of h3
  obtain ⟨y0, y1⟩ := i64_of h4
  have k1 := kl_le x
  have k2 := kl_le (zig a2)
  have k3 := kl_le p.length
  have l1 := layN_length x
  have l2 := layN_length (zig a2)
  have l3 := layN_length p.length
  have e1 : IntKind.u64.wrap (p.length : Int) = ((p.length : Nat) : Int) := wrapU_id _ (by omega) (by omega)
  have hlb : strip_LayBytes.f b p = some (b ++ (layN p.length ++ p)) := by
    unfold strip_LayBytes.f
    rw [e1, lay_f b _ (by omega) (by omega), Option.bind_some, if_pos (by simp; omega), List.append_assoc]
  have htx : furlongref03_Text.f 30 p = some (layN p.length ++ p) := by
    unfold furlongref03_Text.f
    rw [e1, num_f _ (by omega), Option.bind_some, after_f _ _ (by omega), Option.bind_some]
  refine ⟨30, ?_⟩
  unfold furlonglaw03_StripNumbers.f furlonglaw03_awake.f
  rw [Option.bind_some, if_pos rfl, lay_f b x hx (by omega), Option.bind_some, num_f x hx, Option.bind_some, after_f b _ (by omega), Option.bind_some]
  unfold furlongref01_Bytes.f
  rw [str_self, Option.bind_some, if_pos rfl, layInt_f b a2 y0 y1 (by omega), Option.bind_some, whole_f a2 y0 y1, Option.bind_some, after_f b _ (by omega), Option.bind_some, str_self, Option.bind_some, if_pos rfl, hlb, Option.bind_some, htx, Option.bind_some, after_f b _ (by simp; omega), Option.bind_some, str_self, Option.bind_some, if_pos rfl, size_f x hx, Option.bind_some, Option.bind_some, l1]
  simp
end Go.Proofs.Ytijcjllojhpioaa.Pure
