/- P3.2: numbers stand in the order of their bytes, and none begins another one. No condition. -/
import Derived.Test.YtijcjllojhpioaaPStripOrderx1
import Derived.Test.YtijcjllojhpioaaPlain03b
namespace Go.Proofs.Ytijcjllojhpioaa.Pure
open Go Go.RowKit Go.Fur Go.Proofs.Ytijcjllojhpioaa Go.Proofs.Ytijcjllojhpioaa.PStripOrder Go.Proofs.YtijcjllojhpioaaW.PrintWords Go.Proofs.YtijcjllojhpioaaW.PrintLast
set_option linter.unusedVariables false
theorem ahead_f (x y : Nat) (hx : x < 18446744073709551616) (hy : y < 18446744073709551616) : furlonglaw03_ahead.f (layN x) (layN y) = some (decide (x < y)) := by
  have h1 := kl_le x
  have h2 := kl_le y
  unfold furlonglaw03_ahead.f
  rw [if_pos ⟨by rw [layN_length]; omega, by rw [layN_length]; omega⟩, lay_order x y hx hy]
theorem StripOrder : furlonglaw03_StripOrder.Pure := by
  intro a0 a1 h0 h1
  obtain ⟨x, rfl, hx⟩ := u64_of h0
  obtain ⟨y, rfl, hy⟩ := u64_of h1
  have e1 : decide (x < y) = decide ((x : Int) < (y : Int)) := by congr 1; simp
  have e2 : decide (y < x) = decide ((y : Int) < (x : Int)) := by congr 1; simp
  have e3 : decide (layN x = layN y) = ((x : Int) == (y : Int)) := by
    by_cases h : x = y
    · subst h
      simp
    · rw [decide_eq_false (fun e => h (lay_inj x y hx hy e))]
      symm
      simp only [beq_eq_false_iff_ne, ne_eq]
      omega
  unfold furlonglaw03_StripOrder.f furlonglaw03_awake.f furlongref01_Bytes.f
  rw [Option.bind_some, if_pos rfl, lay_f [] x hx (by simp), Option.bind_some, lay_f [] y hy (by simp), Option.bind_some, List.nil_append, List.nil_append, ahead_f x y hx hy, Option.bind_some, e1, if_pos (by simp), ahead_f y x hy hx, Option.bind_some, e2, if_pos (by simp), str_eq _ _ (layN_byt x) (layN_byt y), Option.bind_some, e3]
  simp
end Go.Proofs.Ytijcjllojhpioaa.Pure
