/- strip.ReadBytes: contract. -/
import Derived.Test.YtijcjllojhpioaaStripRead
namespace Go.Fur
open Go Go.RowKit Go.Proofs
set_option linter.unusedVariables false
set_option linter.unusedSimpArgs false
theorem readN_ok (l : List Int) (hb : Byt l) (at_ : Int) (h : (readN l at_).2.2 = 0) :
    0 ≤ (readN l at_).1 ∧ (readN l at_).1 < 18446744073709551616 ∧ at_ < (readN l at_).2.1 ∧ (readN l at_).2.1 ≤ l.length ∧ 0 ≤ at_ := by
  unfold readN at h ⊢
  by_cases h0 : at_ < 0 ∨ (l.length : Int) < at_
  · rw [if_pos h0] at h
    simp at h
  rw [if_neg h0] at h ⊢
  cases hd : l.drop at_.toNat with
  | nil => rw [hd] at h; simp at h
  | cons c t =>
    rw [hd] at h
    dsimp only at h ⊢
    have hl := congrArg List.length hd
    rw [List.length_drop, List.length_cons] at hl
    have hc := hb c (List.mem_of_mem_drop (hd ▸ List.mem_cons_self))
    by_cases h1 : c < 192
    · rw [if_pos h1]
      dsimp only
      omega
    rw [if_neg h1] at h ⊢
    by_cases h2 : 199 < c
    · rw [if_pos h2] at h
      simp at h
    rw [if_neg h2] at h ⊢
    by_cases h3 : t.length < (c - 191).toNat
    · rw [if_pos h3] at h
      simp at h
    rw [if_neg h3] at h ⊢
    generalize n256 (t.take (c - 191).toNat) + sh ((c - 191).toNat - 1) = y at *
    by_cases h4 : 18446744073709551616 ≤ y
    · rw [if_pos h4] at h
      simp at h
    rw [if_neg h4]
    dsimp only
    omega
/-- What is read as bytes: the bytes, the place behind them, the error. -/
def readB (l : List Int) (at_ : Int) : List Int × Int × Int :=
  if (readN l at_).2.2 ≠ 0 then ([], (readN l at_).2.1, (readN l at_).2.2) else
  if 1048576 < (readN l at_).1 then ([], at_, 3) else
  if (l.length : Int) - (readN l at_).2.1 < (readN l at_).1 then ([], (l.length : Int), 5) else
  ((l.drop (readN l at_).2.1.toNat).take (readN l at_).1.toNat, (readN l at_).2.1 + (readN l at_).1, 0)
def ReadBE (tb : TypeId) (r : List Int × Int × Int) (w : World) (e : Ending) (w' : World) : Prop := ∃ v, e = .returned (.tuple #[v, .int .i64 r.2.1, .int .i64 r.2.2]) ∧ Own w' w.heap.size tb 1 v r.1.length (bv r.1) ∧ Fr [] w w'
set_option maxRecDepth 100000 in
set_option maxHeartbeats 1000000 in
theorem readBytes_calls (w : World) (a : Option Addr) (n c : Nat) (l : List Int) (hl : l.length = n) (hc : n ≤ c) (hn : n ≤ 140737488355328) (hb : Byt l) (ra : Rd w a (bv l)) (at_ : Int) :
    Calls Try.prog 27 #[.slice a n c, .int .i64 at_] w (ReadBE 5 (readB l at_) w) := by
  subst hl
  have hrd := read_calls w a l.length c l rfl hc hn hb ra at_
  have hok := readN_ok l hb at_
  have hB : readB l at_ = if (readN l at_).2.2 ≠ 0 then ([], (readN l at_).2.1, (readN l at_).2.2) else
    if 1048576 < (readN l at_).1 then ([], at_, 3) else
    if (l.length : Int) - (readN l at_).2.1 < (readN l at_).1 then ([], (l.length : Int), 5) else
    ((l.drop (readN l at_).2.1.toNat).take (readN l at_).1.toNat, (readN l at_).2.1 + (readN l at_).1, 0) := rfl
  generalize readB l at_ = R at *
  generalize readN l at_ = r at *
  obtain ⟨x, nx, e⟩ := r
  dsimp only at hok hB
  have HC := Lib.hid hrd
  have HA := Lib.hid ra
  clear hrd ra
  by_cases he : e = 0
  · subst he
    rw [if_neg (by simp)] at hB
    obtain ⟨h0, h1, h2, h3, h4⟩ := hok rfl
    clear h1
    by_cases hL : 1048576 < x
    · rw [if_pos hL] at hB
      subst hB
      go_enter Try.func27, Try.ntmps27
      go_wp2_with fail
      refine HC.out.mono ?_
      rintro e w' ⟨rfl, rfl⟩
      go_wp2_with fail
      go_ret3
      exact ⟨_, rfl, Own.nil _ _ _ _, Fr.refl _ _⟩
    rw [if_neg hL] at hB
    obtain ⟨X, rfl⟩ := Int.eq_ofNat_of_zero_le h0
    obtain ⟨j, rfl⟩ := Int.eq_ofNat_of_zero_le (show 0 ≤ nx by omega)
    have hw1 : IntKind.u64.wrap ((l.length : Int) - (j : Int)) = (l.length : Int) - (j : Int) := by rw [IntKind.wrap_u64]; omega
    by_cases hS : (l.length : Int) - (j : Int) < (X : Int)
    · rw [if_pos hS] at hB
      subst hB
      go_enter Try.func27, Try.ntmps27
      go_wp2_with fail
      refine HC.out.mono ?_
      rintro e w' ⟨rfl, rfl⟩
      go_wp2_with fail
      go_ret3
      exact ⟨_, rfl, Own.nil _ _ _ _, Fr.refl _ _⟩
    rw [if_neg hS] at hB
    rw [Int.toNat_natCast, Int.toNat_natCast] at hB
    obtain ⟨b, o, rfl, hr⟩ := HA.out (by intro e; have := congrArg List.length e; simp at this; subst this; simp at h3; omega)
    have HB := Lib.hid hB
    have HR := Lib.hid hr
    have hj : j + X ≤ l.length := by omega
    have hjb : (j : Int) + (X : Int) ≤ (l.length : Int) := by omega
    clear hB hr hok
    by_cases hcap : j = c
    · subst hcap
      have hX : X = 0 := by omega
      subst hX
      go_enter Try.func27, Try.ntmps27
      go_wp2_with fail
      refine HC.out.mono ?_
      rintro e w' ⟨rfl, rfl⟩
      go_wp2_with fail
      go_ret3
      rw [HB.out]
      exact ⟨_, rfl, Own.nil _ _ _ _, Fr.refl _ _⟩
    · have hjc : j < c := by omega
      go_enter Try.func27, Try.ntmps27
      go_wp2_with fail
      refine HC.out.mono ?_
      rintro e w' ⟨rfl, rfl⟩
      have R1 : Rd w (some ⟨b, o + j, none⟩) (bv ((l.drop j).take X)) := by
        refine Rd.mk (fun q v hv => ?_)
        rw [bv_take, List.getElem?_take] at hv
        split at hv
        · rw [bv_drop, List.getElem?_drop] at hv
          have := HR.out (j + q) v hv
          rwa [show o + j + q = o + (j + q) by omega]
        · cases hv
      have L1 : ((l.drop j).take X).length = X := by rw [List.length_take, List.length_drop]; omega
      have HR1 := Lib.hid (And.intro R1 L1)
      clear R1 L1
      generalize (l.drop j).take X = ys at *
      go_wp2_with (first
        | (refine wpList_appB rfl _ _ 22 22 rfl w.heap.size 5 5 .u8 1 Try.underlying22 Try.underlying22 info_byte (.slice none 0 0) 0 [] (by rfl) (Own.nil _ _ _ _) (some ⟨b, o + j, none⟩) (j + X - j) (c - j) (bv ys) (by rfl) HR1.out.1 (by rw [bv_length, HR1.out.2]; omega) (bv_one _) (by simp only [maxLen]; omega) (by omega) (Nat.le_refl _) ?_; intro v2 w2 O2 F2 K2 _; have HO2 := Lib.hid O2; have HF2 := Lib.hid F2; clear O2 F2 K2))
      go_ret3
      rw [HB.out]
      refine ⟨v2, rfl, ?_, HF2.out⟩
      have := HO2.out
      simp only [Nat.zero_add, List.nil_append, Nat.add_sub_cancel_left] at this
      rw [HR1.out.2]
      exact this
  · rw [if_pos he] at hB
    subst hB
    have heb : (e == 0) = false := by simpa using he
    go_enter Try.func27, Try.ntmps27
    go_wp2_with fail
    refine HC.out.mono ?_
    rintro e w' ⟨rfl, rfl⟩
    go_wp2_with fail
    go_ret3
    exact ⟨_, rfl, Own.nil _ _ _ _, Fr.refl _ _⟩
end Go.Fur
