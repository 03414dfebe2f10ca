/- strip: shelf, Size: contracts. -/
import Derived.Test.YtmdfipahbhbgjaaArr2
import Derived.Test.YtmdfipahbhbgjaaReg2
import Derived.Test.YtmdfipahbhbgjaaChecked
namespace Go.Fur
open Go Go.RowKit Go.Proofs
set_option linter.unusedVariables false
set_option linter.unusedSimpArgs false
/-- Where the shelf m + 1 begins. -/
def sh : Nat → Nat
  | 0 => 192
  | m + 1 => sh m + 256 ^ (m + 1)
def ShelfR (k : Nat) (w : World) (x i : Value) (wr : World) : Prop := ∃ m : Nat, m ≤ k - 1 ∧ x = .int .u64 (sh m) ∧ i = .int .i64 m ∧ w = wr
theorem shelf_calls (w : World) (k : Nat) (h1 : 1 ≤ k) (h8 : k ≤ 8) : Calls Try.prog 98 #[.int .i64 k] w fun e w' => e = .returned (.int .u64 (sh (k - 1))) ∧ w = w' := by
  have hw : IntKind.i64.wrap ((k : Int) - 1) = ((k - 1 : Nat) : Int) := by rw [IntKind.wrap_i64]; omega
  go_enter Try.func98, Try.ntmps98
  go_wp2_with fail
  go_loopw [3, 7] (fun x i wr => ShelfR k w x i wr) (fun _ i _ => k - (intOf i).toNat)
  case atStart => exact ⟨0, Nat.zero_le _, rfl, rfl, rfl⟩
  case round =>
    obtain ⟨m, hm, rfl, rfl, rfl⟩ := hrel
    by_cases hlt : m < k - 1
    · have hb : (m : Int) < ((k - 1 : Nat) : Int) := by omega
      have hm7 : m = 0 ∨ m = 1 ∨ m = 2 ∨ m = 3 ∨ m = 4 ∨ m = 5 ∨ m = 6 := by omega
      rcases hm7 with rfl | rfl | rfl | rfl | rfl | rfl | rfl <;>
        (go_wp2_with fail
         first
           | exact ⟨⟨1, by omega, congrArg _ (by decide), rfl, rfl⟩, by simp [intOf]; omega⟩
           | exact ⟨⟨2, by omega, congrArg _ (by decide), rfl, rfl⟩, by simp [intOf]; omega⟩
           | exact ⟨⟨3, by omega, congrArg _ (by decide), rfl, rfl⟩, by simp [intOf]; omega⟩
           | exact ⟨⟨4, by omega, congrArg _ (by decide), rfl, rfl⟩, by simp [intOf]; omega⟩
           | exact ⟨⟨5, by omega, congrArg _ (by decide), rfl, rfl⟩, by simp [intOf]; omega⟩
           | exact ⟨⟨6, by omega, congrArg _ (by decide), rfl, rfl⟩, by simp [intOf]; omega⟩
           | exact ⟨⟨7, by omega, congrArg _ (by decide), rfl, rfl⟩, by simp [intOf]; omega⟩)
    · have hb : ¬ (m : Int) < ((k - 1 : Nat) : Int) := by omega
      have hmk : m = k - 1 := by omega
      subst hmk
      go_wp2_with fail
      go_ret
      exact ⟨rfl, rfl⟩
/-- How many bytes stand behind the head. -/
def kl (x : Nat) : Nat := if x < sh 0 then 0 else if x < sh 1 then 1 else if x < sh 2 then 2 else if x < sh 3 then 3 else if x < sh 4 then 4 else if x < sh 5 then 5 else if x < sh 6 then 6 else if x < sh 7 then 7 else 8
theorem sh_vals : sh 0 = 192 ∧ sh 1 = 448 ∧ sh 2 = 65984 ∧ sh 3 = 16843200 ∧ sh 4 = 4311810496 ∧ sh 5 = 1103823438272 ∧ sh 6 = 282578800148928 ∧ sh 7 = 72340172838076864 := by decide
theorem sh_mono : ∀ (a b : Nat), a ≤ b → sh a ≤ sh b := fun a b h => by
  induction b with
  | zero =>
    have : a = 0 := by omega
    subst this
    exact Nat.le_refl _
  | succ b ih =>
    rcases Nat.lt_or_ge a (b + 1) with h1 | h1
    · exact Nat.le_trans (ih (by omega)) (Nat.le_add_right _ _)
    · have : a = b + 1 := by omega
      subst this
      exact Nat.le_refl _
theorem kl_le (x : Nat) : kl x ≤ 8 := by
  unfold kl
  repeat' split
  all_goals omega
/-- What tells it. -/
theorem kl_is (x k : Nat) (hk : k ≤ 8) (hlo : 0 < k → sh (k - 1) ≤ x) (hhi : k < 8 → x < sh k) : kl x = k := by
  obtain ⟨h0, h1, h2, h3, h4, h5, h6, h7⟩ := sh_vals
  have hk9 : k = 0 ∨ k = 1 ∨ k = 2 ∨ k = 3 ∨ k = 4 ∨ k = 5 ∨ k = 6 ∨ k = 7 ∨ k = 8 := by omega
  unfold kl
  rcases hk9 with rfl | rfl | rfl | rfl | rfl | rfl | rfl | rfl | rfl <;> simp only [h0, h1, h2, h3, h4, h5, h6, h7] at * <;> (repeat' split) <;> omega
theorem kl_spec (x : Nat) : ∃ k, k ≤ 8 ∧ kl x = k ∧ (0 < k → sh (k - 1) ≤ x) ∧ (k < 8 → x < sh k) := by
  have hx : ∃ k, k ≤ 8 ∧ (0 < k → sh (k - 1) ≤ x) ∧ (k < 8 → x < sh k) := by
    obtain ⟨h0, h1, h2, h3, h4, h5, h6, h7⟩ := sh_vals
    by_cases c0 : x < 192
    · exact ⟨0, by omega, by omega, fun _ => by omega⟩
    by_cases c1 : x < 448
    · exact ⟨1, by omega, fun _ => by simp only [Nat.sub_self]; omega, fun _ => by omega⟩
    by_cases c2 : x < 65984
    · exact ⟨2, by omega, fun _ => by simp only [Nat.reduceSub]; omega, fun _ => by omega⟩
    by_cases c3 : x < 16843200
    · exact ⟨3, by omega, fun _ => by simp only [Nat.reduceSub]; omega, fun _ => by omega⟩
    by_cases c4 : x < 4311810496
    · exact ⟨4, by omega, fun _ => by simp only [Nat.reduceSub]; omega, fun _ => by omega⟩
    by_cases c5 : x < 1103823438272
    · exact ⟨5, by omega, fun _ => by simp only [Nat.reduceSub]; omega, fun _ => by omega⟩
    by_cases c6 : x < 282578800148928
    · exact ⟨6, by omega, fun _ => by simp only [Nat.reduceSub]; omega, fun _ => by omega⟩
    by_cases c7 : x < 72340172838076864
    · exact ⟨7, by omega, fun _ => by simp only [Nat.reduceSub]; omega, fun _ => by omega⟩
    exact ⟨8, by omega, fun _ => by simp only [Nat.reduceSub]; omega, by omega⟩
  obtain ⟨k, h1, h2, h3⟩ := hx
  exact ⟨k, h1, kl_is x k h1 h2 h3, h2, h3⟩
theorem kl_lo (x : Nat) (h : 0 < kl x) : sh (kl x - 1) ≤ x := by
  obtain ⟨k, _, hk, h2, _⟩ := kl_spec x
  rw [hk] at h ⊢
  exact h2 h
theorem kl_hi (x : Nat) (h : kl x < 8) : x < sh (kl x) := by
  obtain ⟨k, _, hk, _, h2⟩ := kl_spec x
  rw [hk] at h ⊢
  exact h2 h
def SizeR (x : Nat) (w : World) (i : Value) (wr : World) : Prop := ∃ k : Nat, 1 ≤ k ∧ k ≤ 8 ∧ sh (k - 1) ≤ x ∧ i = .int .i64 k ∧ w = wr
theorem size_calls (w : World) (x : Nat) : Calls Try.prog 97 #[.int .u64 x] w fun e w' => e = .returned (.int .i64 (1 + kl x : Nat)) ∧ w = w' := by
  by_cases h0 : x < 192
  · have hb : (x : Int) < 192 := by omega
    have e : kl x = 0 := kl_is x 0 (by omega) (by omega) (fun _ => by rw [sh_vals.1]; exact h0)
    rw [e]
    go_enter Try.func97, Try.ntmps97
    go_wp2_with fail
    go_ret
    exact ⟨rfl, rfl⟩
  · have hb : ¬ (x : Int) < 192 := by omega
    go_enter Try.func97, Try.ntmps97
    go_wp2_with fail
    go_loopw [3] (fun i wr => SizeR x w i wr) (fun i _ => 9 - (intOf i).toNat)
    case atStart => exact ⟨1, Nat.le_refl _, by omega, by rw [sh_vals.1]; omega, rfl, rfl⟩
    case round =>
      obtain ⟨k, hk1, hk8, hlo, rfl, rfl⟩ := hrel
      by_cases hlt : k < 8
      · have hkb : (k : Int) < 8 := by omega
        go_wp2_with fail
        have hc := shelf_calls w (k + 1) (by omega) (by omega)
        refine hc.mono ?_
        rintro e w' ⟨rfl, rfl⟩
        simp only [Nat.add_sub_cancel]
        by_cases hx : sh k ≤ x
        · have hxb : (sh k : Int) ≤ (x : Int) := by omega
          go_wp2_with fail
          go_roundw
          case rel => exact ⟨k + 1, by omega, by omega, hx, rfl, rfl⟩
          case measure => simp [intOf]; omega
        · have hxb : ¬ (sh k : Int) ≤ (x : Int) := by omega
          go_wp2_with fail
          go_ret
          refine ⟨?_, rfl⟩
          rw [kl_is x k (by omega) (fun _ => hlo) (fun _ => by omega)]
          simp
      · have hk : k = 8 := by omega
        subst hk
        go_wp2_with fail
        go_ret
        refine ⟨?_, rfl⟩
        rw [kl_is x 8 (by omega) (fun _ => hlo) (by omega)]
        rfl
end Go.Fur
