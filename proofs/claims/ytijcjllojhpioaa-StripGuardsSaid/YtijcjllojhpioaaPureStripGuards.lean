/- P3.3: bytes guarded, and any bytes mended. No condition. -/
import Derived.Test.YtijcjllojhpioaaPStripGuardsx1
import Derived.Test.YtijcjllojhpioaaPlain03b
namespace Go.Proofs.Ytijcjllojhpioaa.Pure
open Go Go.RowKit Go.Fur Go.Proofs.Ytijcjllojhpioaa Go.Proofs.Ytijcjllojhpioaa.PStripGuards Go.Proofs.YtijcjllojhpioaaW.PrintWords Go.Proofs.YtijcjllojhpioaaW.PrintLast
set_option linter.unusedVariables false
theorem rd_at (l : List Int) (i : Nat) (y : Int) (h : l[i]? = some y) : rd l (i : Int) = y := by
  unfold rd
  rw [Int.toNat_natCast, List.getD_eq_getElem?_getD, h]
  rfl
theorem weights_loop (l : List Int) (hb : Byt l) (hl : l.length ≤ 60000) (d : Nat) : ∀ (i F : Nat) (A B : Int), i + d = l.length → A = s0 (l.take i) → B = s1 (l.take i) → 0 ≤ A → A ≤ 255 * i → 0 ≤ B → B ≤ 15300255 * i →
    furlongref03_Weights.l0 (F + 1 + d) l A B (i : Int) = some (s0 l % 65521, s1 l % 65521) := by
  induction d with
  | zero =>
    intro i F A B hi hA hB a0 a1 b0 b1
    have : l.take i = l := List.take_of_length_le (by omega)
    rw [this] at hA hB
    rw [furlongref03_Weights.l0, if_neg (by omega), Int.tmod_eq_emod_of_nonneg a0, Int.tmod_eq_emod_of_nonneg b0, hA, hB]
  | succ d ih =>
    intro i F A B hi hA hB a0 a1 b0 b1
    obtain ⟨y, hy⟩ : ∃ y, l[i]? = some y := ⟨l[i]'(by omega), List.getElem?_eq_getElem (by omega)⟩
    have hyb := hb y (List.mem_of_getElem? hy)
    have hsn : l.take (i + 1) = l.take i ++ [y] := by rw [List.take_add_one, hy]; rfl
    have hl2 : (l.take i).length = i := by rw [List.length_take]; omega
    have e0 := s0_snoc (l.take i) y
    have e1 := s1_snoc (l.take i) y
    rw [← hsn] at e0 e1
    rw [hl2, Int.mul_comm] at e1
    have hp0 : 0 ≤ y * ((i : Int) + 1) := Int.mul_nonneg hyb.1 (by omega)
    have hp1 : y * ((i : Int) + 1) ≤ 255 * ((i : Int) + 1) := Int.mul_le_mul_of_nonneg_right (by omega) (by omega)
    rw [← hA] at e0
    rw [← hB] at e1
    rw [show F + 1 + (d + 1) = F + 1 + d + 1 by omega, furlongref03_Weights.l0, if_pos (by omega), if_pos (by omega), rd_at l i y hy, wrap64_id y (by omega) (by omega), wrap64_id ((i : Int) + 1) (by omega) (by omega)]
    generalize y * ((i : Int) + 1) = p at *
    rw [wrap64_id (A + y) (by omega) (by omega), wrap64_id p (by omega) (by omega), wrap64_id (B + p) (by omega) (by omega)]
    have := ih (i + 1) F (A + y) (B + p) (by omega) e0.symm e1.symm (by omega) (by omega) (by omega) (by omega)
    exact this
theorem weights_f (l : List Int) (hb : Byt l) (hl : l.length ≤ 60000) : furlongref03_Weights.f (60001) l = some (s0 l % 65521, s1 l % 65521) := by
  have := weights_loop l hb hl l.length 0 (60000 - l.length) 0 0 (by omega) (by simp [s0]) (by simp [s1]) (by omega) (by omega) (by omega) (by omega)
  rw [show 60000 - l.length + 1 + l.length = 60001 by omega] at this
  exact this
theorem after_f (l m : List Int) (h : l.length + m.length < 140737488355328) : furlongref03_After.f l m = some (l ++ m) := by
  unfold furlongref03_After.f
  rw [Option.bind_some, if_pos (by simp; omega), Option.bind_some, if_pos (by simp; omega), List.nil_append]
theorem guarded_f (l : List Int) (hb : Byt l) : furlongref03_Guarded.f 60001 l = some (guardN l) := by
  unfold furlongref03_Guarded.f guardN
  by_cases h : 60000 < l.length
  · rw [if_pos h, if_pos (by omega)]
  rw [if_neg h, if_neg (by omega), weights_f l hb (by omega), Option.bind_some]
  dsimp only
  have a0 : 0 ≤ s0 l % 65521 := by omega
  have a1 : s0 l % 65521 < 65521 := by omega
  have b0 : 0 ≤ s1 l % 65521 := by omega
  have b1 : s1 l % 65521 < 65521 := by omega
  unfold gtail
  generalize s0 l % 65521 = A at *
  generalize s1 l % 65521 = B at *
  have e : ∀ X : Int, 0 ≤ X → X < 65521 → (wrap64 (Int.tdiv X 256)) % 256 = X / 256 ∧ (Int.tmod X 256) % 256 = X % 256 := fun X h0 h1 => by
    rw [Int.tdiv_eq_ediv_of_nonneg h0, Int.tmod_eq_emod_of_nonneg h0, wrap64_id _ (by omega) (by omega)]
    omega
  rw [(e A a0 a1).1, (e A a0 a1).2, (e B b0 b1).1, (e B b0 b1).2, after_f _ _ (by simp; omega), Option.bind_some]
theorem StripGuards : furlonglaw03_StripGuards.Pure := by
  intro p b h0 h1 h2 h3 h4 h5
  have hp := byt_of h2
  have hb := byt_of h5
  refine ⟨60001, ?_⟩
  unfold furlonglaw03_StripGuards.f furlonglaw03_awake.f
  rw [Option.bind_some, if_pos rfl, guard_f p hp (by omega), Option.bind_some, guarded_f p hp, Option.bind_some]
  unfold furlongref01_Bytes.f
  rw [str_self, Option.bind_some, if_pos rfl, show ((guardN p).2 != (guardN p).2) = false by simp, furlonglaw03_StripGuards.j0, if_neg (by simp)]
  by_cases hl : (b.length : Int) > 3000
  · rw [if_pos hl]
  have hm : furlongref03_Mended.f b = some (mendN b) := by
    unfold furlongref03_Mended.f
    rw [if_pos (okB_of hb (by omega))]
  rw [if_neg hl, mend_f b hb (by omega), Option.bind_some, hm, Option.bind_some]
  unfold furlongref01_Bytes.f
  rw [str_self, Option.bind_some, if_pos rfl, if_pos rfl]
  simp
end Go.Proofs.Ytijcjllojhpioaa.Pure
