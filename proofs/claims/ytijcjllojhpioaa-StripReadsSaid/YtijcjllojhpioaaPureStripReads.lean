/- P3.1: what is read at any place of any bytes, or what is wrong there, and where. No condition. -/
import Derived.Test.YtijcjllojhpioaaPStripReadsx2
import Derived.Test.YtijcjllojhpioaaPlain03b
import Derived.Laws.DeepNot64
namespace Go.Proofs.Ytijcjllojhpioaa.Pure
open Go Go.RowKit Go.Fur Go.Proofs.Ytijcjllojhpioaa Go.Proofs.Ytijcjllojhpioaa.PStripReads Go.Proofs.YtijcjllojhpioaaW.PrintWords Go.Proofs.YtijcjllojhpioaaW.PrintLast
set_option linter.unusedVariables false
theorem begins_1 (m : Nat) : furlongref03_begins.f (m + 9) 1 = some 192 := by kernel_rfl
theorem begins_2 (m : Nat) : furlongref03_begins.f (m + 9) 2 = some 448 := by kernel_rfl
theorem begins_3 (m : Nat) : furlongref03_begins.f (m + 9) 3 = some 65984 := by kernel_rfl
theorem begins_4 (m : Nat) : furlongref03_begins.f (m + 9) 4 = some 16843200 := by kernel_rfl
theorem begins_5 (m : Nat) : furlongref03_begins.f (m + 9) 5 = some 4311810496 := by kernel_rfl
theorem begins_6 (m : Nat) : furlongref03_begins.f (m + 9) 6 = some 1103823438272 := by kernel_rfl
theorem begins_7 (m : Nat) : furlongref03_begins.f (m + 9) 7 = some 282578800148928 := by kernel_rfl
theorem begins_8 (m : Nat) : furlongref03_begins.f (m + 9) 8 = some 72340172838076864 := by kernel_rfl
theorem begins_f (j m : Nat) (h1 : 1 ≤ j) (h8 : j ≤ 8) : furlongref03_begins.f (m + 9) (j : Int) = some ((sh (j - 1) : Nat) : Int) := by
  have h : j = 1 ∨ j = 2 ∨ j = 3 ∨ j = 4 ∨ j = 5 ∨ j = 6 ∨ j = 7 ∨ j = 8 := by omega
  obtain ⟨e0, e1, e2, e3, e4, e5, e6, e7⟩ := sh_vals
  rcases h with rfl | rfl | rfl | rfl | rfl | rfl | rfl | rfl
  · rw [show sh (1 - 1) = 192 from e0]; exact begins_1 m
  · rw [show sh (2 - 1) = 448 from e1]; exact begins_2 m
  · rw [show sh (3 - 1) = 65984 from e2]; exact begins_3 m
  · rw [show sh (4 - 1) = 16843200 from e3]; exact begins_4 m
  · rw [show sh (5 - 1) = 4311810496 from e4]; exact begins_5 m
  · rw [show sh (6 - 1) = 1103823438272 from e5]; exact begins_6 m
  · rw [show sh (7 - 1) = 282578800148928 from e6]; exact begins_7 m
  · rw [show sh (8 - 1) = 72340172838076864 from e7]; exact begins_8 m
theorem rd_at (l : List Int) (i : Nat) (y : Int) (h : l[i]? = some y) : rd l (i : Int) = y := by
  unfold rd
  rw [Int.toNat_natCast, List.getD_eq_getElem?_getD, h]
  rfl
def numEnd (X : Nat) (i k : Nat) : Int × Int × Int := if 18446744073709551616 ≤ X + sh (k - 1) then (0, (i : Int), 4) else (((X + sh (k - 1) : Nat) : Int), (i : Int) + 1 + (k : Int), 0)
theorem num_exit (l : List Int) (i k X m : Nat) (hk1 : 1 ≤ k) (hk8 : k ≤ 8) (hi : i ≤ 140737488355328) (hX : X < 18446744073709551616) :
    furlongref03_GetNum.l0 (m + 10) l (i : Int) (k : Int) (X : Int) (k : Int) = some (numEnd X i k) := by
  have hs := sh_le k hk8
  rw [furlongref03_GetNum.l0, if_neg (by omega), begins_f k m hk1 hk8, Option.bind_some, Option.bind_some]
  unfold numEnd
  generalize sh (k - 1) = s at *
  have e1 : IntKind.u64.wrap (18446744073709551615 - (s : Int)) = 18446744073709551615 - (s : Int) := wrapU_id _ (by omega) (by omega)
  rw [e1]
  by_cases h : 18446744073709551616 ≤ X + s
  · rw [if_pos h, if_pos (by omega)]
  · rw [if_neg h, if_neg (by omega), wrapU_id _ (by omega) (by omega), wrap64_id ((i : Int) + 1) (by omega) (by omega), wrap64_id _ (by omega) (by omega)]
    congr 2
    omega
theorem num_step (l : List Int) (i k X m F : Nat) (y : Int) (hm : m < k) (hk8 : k ≤ 8) (hl : l.length ≤ 140737488355328) (hi : i + 1 + k ≤ l.length) (hX : X < 72057594037927936) (hy : l[i + 1 + m]? = some y) (h0 : 0 ≤ y) (h1 : y < 256) :
    furlongref03_GetNum.l0 (F + 1) l (i : Int) (k : Int) (X : Int) (m : Int) = furlongref03_GetNum.l0 F l (i : Int) (k : Int) ((256 * X + y.toNat : Nat) : Int) ((m + 1 : Nat) : Int) := by
  have e1 : wrap64 ((wrap64 ((i : Int) + 1)) + (m : Int)) = ((i + 1 + m : Nat) : Int) := by
    rw [wrap64_id ((i : Int) + 1) (by omega) (by omega), wrap64_id _ (by omega) (by omega)]
    omega
  rw [furlongref03_GetNum.l0, if_pos (by omega), e1, if_pos (by omega), if_pos (by omega), rd_at l _ y hy, wrapU_id ((X : Int) * 256) (by omega) (by omega), wrapU_id y h0 (by omega), wrapU_id _ (by omega) (by omega), wrap64_id ((m : Int) + 1) (by omega) (by omega)]
  congr 1
  omega
theorem num_loop (l : List Int) (hb : Byt l) (i k : Nat) (hk1 : 1 ≤ k) (hk8 : k ≤ 8) (hl : l.length ≤ 140737488355328) (hi : i + 1 + k ≤ l.length) (d : Nat) :
    ∀ (m F : Nat), m + d = k → furlongref03_GetNum.l0 (F + 10 + d) l (i : Int) (k : Int) ((n256 ((l.drop (i + 1)).take m) : Nat) : Int) (m : Int) = some (numEnd (n256 ((l.drop (i + 1)).take k)) i k) := by
  induction d with
  | zero =>
    intro m F hm
    have : m = k := by omega
    subst this
    have h1 := n256_lt ((l.drop (i + 1)).take m) ((hb.drop _).take _)
    have h2 : ((l.drop (i + 1)).take m).length ≤ 8 := by rw [List.length_take]; omega
    have h3 : 256 ^ ((l.drop (i + 1)).take m).length ≤ 256 ^ 8 := Nat.pow_le_pow_right (by omega) h2
    have h4 : (256 : Nat) ^ 8 = 18446744073709551616 := by decide
    exact num_exit l i m _ F hk1 hk8 (by omega) (by omega)
  | succ d ih =>
    intro m F hm
    obtain ⟨y, hy⟩ : ∃ y, l[i + 1 + m]? = some y := ⟨l[i + 1 + m]'(by omega), List.getElem?_eq_getElem (by omega)⟩
    have hyb := hb y (List.mem_of_getElem? hy)
    have h1 := n256_lt ((l.drop (i + 1)).take m) ((hb.drop _).take _)
    have h2 : ((l.drop (i + 1)).take m).length ≤ 7 := by rw [List.length_take]; omega
    have h3 : 256 ^ ((l.drop (i + 1)).take m).length ≤ 256 ^ 7 := Nat.pow_le_pow_right (by omega) h2
    have h4 : (256 : Nat) ^ 7 = 72057594037927936 := by decide
    rw [show F + 10 + (d + 1) = F + 10 + d + 1 by omega, num_step l i k _ m (F + 10 + d) y (by omega) hk8 hl hi (by omega) hy hyb.1 hyb.2]
    have e : 256 * n256 ((l.drop (i + 1)).take m) + y.toNat = n256 ((l.drop (i + 1)).take (m + 1)) := by
      rw [List.take_add_one, List.getElem?_drop, hy]
      exact (n256_snoc _ _).symm
    rw [e]
    exact ih (m + 1) F (by omega)
theorem getNum_f (l : List Int) (hb : Byt l) (hl : l.length ≤ 140737488355328) (at_ : Int) : furlongref03_GetNum.f 20 l at_ = some (readN l at_) := by
  unfold furlongref03_GetNum.f readN
  by_cases h0 : at_ < 0
  · rw [if_pos h0, if_pos (.inl h0), furlongref03_GetNum.j0, if_pos rfl]
  rw [if_neg h0]
  by_cases h1 : (l.length : Int) < at_
  · rw [if_pos (.inr h1), decide_eq_true h1, furlongref03_GetNum.j0, if_pos rfl]
  rw [if_neg (by omega), decide_eq_false h1, furlongref03_GetNum.j0, if_neg (by simp)]
  obtain ⟨i, rfl⟩ := Int.eq_ofNat_of_zero_le (show 0 ≤ at_ by omega)
  rw [Int.toNat_natCast]
  by_cases h2 : (i : Int) = (l.length : Int)
  · rw [if_pos h2, List.drop_eq_nil_of_le (by omega), h2]
  have hlt : i < l.length := by omega
  obtain ⟨h, t, hd⟩ : ∃ h t, l.drop i = h :: t := ⟨l[i], l.drop (i + 1), by rw [List.drop_eq_getElem_cons hlt]⟩
  have hli : l[i]? = some h := by
    have := congrArg (·[0]?) hd
    simpa using this
  have ht : t = l.drop (i + 1) := by
    have := congrArg List.tail hd
    simpa using this.symm
  have hby := hb h (List.mem_of_getElem? hli)
  have htl : t.length + (i + 1) = l.length := by rw [ht, List.length_drop]; omega
  rw [if_neg h2, if_pos (by omega), if_pos (by omega), rd_at l i h hli, hd]
  dsimp only
  by_cases h3 : h < 192
  · rw [if_pos h3, if_pos h3, wrapU_id h hby.1 (by omega), wrap64_id _ (by omega) (by omega)]
  rw [if_neg h3, if_neg h3]
  by_cases h4 : 199 < h
  · rw [if_pos h4, if_pos (by omega)]
  obtain ⟨k, hk⟩ : ∃ k : Nat, h = (k : Int) + 191 := ⟨(h - 191).toNat, by omega⟩
  have hkk : (h - 191).toNat = k := by omega
  rw [if_neg h4, if_neg (by omega), hkk, wrap64_id h (by omega) (by omega), wrap64_id (h - 191) (by omega) (by omega), wrap64_id ((l.length : Int) - i) (by omega) (by omega), wrap64_id _ (by omega) (by omega)]
  by_cases h5 : t.length < k
  · rw [if_pos h5, if_pos (by omega)]
  rw [if_neg h5, if_neg (by omega), show h - 191 = (k : Int) by omega]
  have := num_loop l hb i k (by omega) (by omega) hl (by omega) k 0 (9 - k) (by omega)
  rw [show 9 - k + 10 + k = 19 by omega] at this
  rw [ht]
  exact this
theorem whole_f (l : List Int) (hb : Byt l) (hl : l.length ≤ 140737488355328) (at_ : Int) : ∃ r, strip_ReadInt.f l at_ = some r ∧ furlongref03_GetWhole.f 20 l at_ = some r := by
  unfold strip_ReadInt.f furlongref03_GetWhole.f
  rw [read_f l at_ hb hl, getNum_f l hb hl at_, Option.bind_some, Option.bind_some]
  have hx : 0 ≤ (readN l at_).1 ∧ (readN l at_).1 < 18446744073709551616 := by
    by_cases h : (readN l at_).2.2 = 0
    · have := readN_ok l hb at_ h
      exact ⟨this.1, this.2.1⟩
    · have : (readN l at_).1 = 0 := by
        unfold readN at h ⊢
        split
        · rfl
        · rename_i h1
          rw [if_neg h1] at h
          split
          · rfl
          · rename_i h2
            rw [h2] at h
            dsimp only at h ⊢
            split
            · rename_i h3
              rw [if_pos h3] at h
              simp at h
            · rename_i h3
              rw [if_neg h3] at h
              split
              · rfl
              · rename_i h4
                rw [if_neg h4] at h
                split
                · rfl
                · rename_i h5
                  rw [if_neg h5] at h
                  split
                  · rfl
                  · rename_i h6
                    rw [if_neg h6] at h
                    simp at h
      omega
  generalize readN l at_ = r at *
  obtain ⟨x, n, e⟩ := r
  dsimp only at hx ⊢
  obtain ⟨X, rfl⟩ := Int.eq_ofNat_of_zero_le hx.1
  have e1 : IntKind.u64.wrap (Int.tdiv (X : Int) 2) = ((X / 2 : Nat) : Int) := by
    rw [Int.tdiv_eq_ediv_of_nonneg (by omega), wrapU_id _ (by omega) (by omega)]
    omega
  have e2 : wrap64 ((X / 2 : Nat) : Int) = ((X / 2 : Nat) : Int) := wrap64_id _ (by omega) (by omega)
  rw [e1, e2]
  by_cases h : Int.tmod (X : Int) 2 = 1
  · rw [if_pos h, if_pos h, i64_not (X / 2) (by omega), wrap64_id (-((X / 2 : Nat) : Int)) (by omega) (by omega), wrap64_id _ (by omega) (by omega)]
    refine ⟨_, rfl, ?_⟩
    congr 2
    omega
  · rw [if_neg h, if_neg h]
    exact ⟨_, rfl, rfl⟩
theorem text_f (l : List Int) (hb : Byt l) (hl : l.length ≤ 140737488351232) (at_ : Int) : furlongref03_GetText.f 20 l at_ = some (readB l at_) := by
  unfold furlongref03_GetText.f readB
  rw [getNum_f l hb (by omega) at_, Option.bind_some]
  have hok := readN_ok l hb at_
  generalize readN l at_ = r at *
  obtain ⟨x, n, e⟩ := r
  dsimp only at hok ⊢
  by_cases h0 : e = 0
  · subst h0
    obtain ⟨q1, q2, q3, q4, q5⟩ := hok rfl
    rw [if_pos rfl, if_neg (show ¬ ((0 : Int) ≠ 0) by simp)]
    by_cases h1 : 1048576 < x
    · rw [if_pos h1, if_pos h1]
    rw [if_neg h1, if_neg h1, wrap64_id x (by omega) (by omega), wrap64_id (n + x) (by omega) (by omega)]
    by_cases h2 : (l.length : Int) - n < x
    · rw [if_pos h2, if_pos (by omega)]
    rw [if_neg h2, if_neg (by omega), if_pos (by omega), if_pos (by omega), if_pos (by omega)]
    unfold furlongref01_Twin.f
    rw [Option.bind_some, if_pos, Option.bind_some]
    · congr 2
      rw [List.nil_append, List.drop_take]
      congr 1
      omega
    · simp only [List.length_nil, List.length_drop, List.length_take]
      omega
  · rw [if_neg h0, if_pos h0]
theorem StripReads : furlonglaw03_StripReads.Pure := by
  intro l at_ h0 h1 h2 h3
  have hb := byt_of h2
  have hl : l.length ≤ 140737488355328 := by omega
  refine ⟨20, ?_⟩
  obtain ⟨r, e1, e2⟩ := whole_f l hb hl at_
  unfold furlonglaw03_StripReads.f furlonglaw03_awake.f
  rw [Option.bind_some, if_pos rfl, read_f l at_ hb hl, Option.bind_some, getNum_f l hb hl at_, Option.bind_some, e1, Option.bind_some, e2, Option.bind_some, readBytes_f l at_ hb hl, Option.bind_some, text_f l hb (by omega) at_, Option.bind_some, if_pos rfl, if_pos rfl, if_pos rfl, if_pos rfl, if_pos rfl, if_pos rfl]
  unfold furlongref01_Bytes.f
  rw [str_self, Option.bind_some, if_pos rfl, if_pos rfl]
  simp
end Go.Proofs.Ytijcjllojhpioaa.Pure
