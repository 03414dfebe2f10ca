/- Plain facts: the order of numbers' bytes; bytes as strings. -/
import Derived.Test.YtijcjllojhpioaaAhead03
namespace Go.Proofs.Ytijcjllojhpioaa
open Go Go.RowKit Go.Fur Go.Proofs.YtijcjllojhpioaaW.PrintWords
set_option linter.unusedVariables false
theorem str_eq (l m : List Int) (hl : Byt l) (hm : Byt m) : ((strOfNums l).toList == (strOfNums m).toList) = decide (l = m) := by
  rw [ByteArray.toList_eq, ByteArray.toList_eq, strOfNums_data, strOfNums_data]
  by_cases h : l = m
  · subst h
    simp
  · rw [decide_eq_false h]
    refine beq_eq_false_iff_ne.2 (fun e => h ?_)
    apply List.ext_getElem?
    intro i
    have e2 := congrArg (·[i]?) e
    simp only [List.getElem?_map] at e2
    cases hx : l[i]? with
    | none =>
      rw [hx] at e2
      cases hy : m[i]? with
      | none => rfl
      | some y => rw [hy] at e2; cases e2
    | some x =>
      rw [hx] at e2
      cases hy : m[i]? with
      | none => rw [hy] at e2; cases e2
      | some y =>
        rw [hy] at e2
        have e3 : UInt8.ofNat x.toNat = UInt8.ofNat y.toNat := Option.some.inj e2
        have b1 := hl x (List.mem_of_getElem? hx)
        have b2 := hm y (List.mem_of_getElem? hy)
        have e4 := congrArg UInt8.toNat e3
        simp only [UInt8.toNat_ofNat'] at e4
        have : x = y := by omega
        rw [this]
theorem str_self (l : List Int) : ((strOfNums l).toList == (strOfNums l).toList) = true := by simp
theorem dg_cons (y k : Nat) : dg y (k + 1) (k + 1) = ((y / 256 ^ k % 256 : Nat) : Int) :: dg y k k := by
  unfold dg
  rw [List.range_succ_eq_map, List.map_cons, List.map_map]
  congr 1
  apply List.map_congr_left
  intro i hi
  simp only [Function.comp]
  rw [show k + 1 - 1 - (i + 1) = k - 1 - i by omega]
theorem dg_byt (y k m : Nat) : Byt (dg y k m) := fun x hx => by
  unfold dg at hx
  obtain ⟨i, _, rfl⟩ := List.mem_map.1 hx
  omega
theorem layN_byt (x : Nat) : Byt (layN x) := fun z hz => by
  unfold layN at hz
  split at hz
  · rename_i h
    rw [List.mem_singleton.1 hz]
    have := kl_hi x (by omega)
    rw [h, sh_vals.1] at this
    omega
  · rcases List.mem_cons.1 hz with rfl | hz
    · have := kl_le x
      omega
    · exact dg_byt _ _ _ z hz
theorem ahead_dg (X Y : Nat) : ∀ k, aheadN (dg X k k) (dg Y k k) = decide (X % 256 ^ k < Y % 256 ^ k)
  | 0 => by
    have : ¬ X % 256 ^ 0 < Y % 256 ^ 0 := by simp [Nat.mod_one]
    rw [decide_eq_false this]
    rfl
  | k + 1 => by
    rw [dg_cons, dg_cons, aheadN, ahead_dg X Y k]
    have e1 := Nat.mod_pow_succ (b := 256) (k := k) (x := X)
    have e2 := Nat.mod_pow_succ (b := 256) (k := k) (x := Y)
    have l1 : X % 256 ^ k < 256 ^ k := Nat.mod_lt _ (Nat.pow_pos (by omega))
    have l2 : Y % 256 ^ k < 256 ^ k := Nat.mod_lt _ (Nat.pow_pos (by omega))
    rw [e1, e2]
    generalize X / 256 ^ k % 256 = a at *
    generalize Y / 256 ^ k % 256 = b at *
    generalize X % 256 ^ k = c at *
    generalize Y % 256 ^ k = d at *
    generalize 256 ^ k = p at *
    by_cases h : a = b
    · subst h
      rw [if_pos rfl]
      congr 1
      simp
    · rw [if_neg (by omega)]
      congr 1
      rcases Nat.lt_or_ge a b with h1 | h1
      · have : p * (a + 1) ≤ p * b := Nat.mul_le_mul_left _ h1
        rw [Nat.mul_add] at this
        simp only [eq_iff_iff]
        omega
      · have : p * (b + 1) ≤ p * a := Nat.mul_le_mul_left _ (by omega)
        rw [Nat.mul_add] at this
        simp only [eq_iff_iff]
        omega
theorem kl_top (x : Nat) (hx : x < 18446744073709551616) (h : 0 < kl x) : x - sh (kl x - 1) < 256 ^ kl x := by
  have hlo := kl_lo x h
  by_cases h8 : kl x < 8
  · have hhi := kl_hi x h8
    obtain ⟨j, hj⟩ : ∃ j, kl x = j + 1 := ⟨kl x - 1, by omega⟩
    rw [hj] at hhi hlo ⊢
    have : sh (j + 1) = sh j + 256 ^ (j + 1) := rfl
    rw [Nat.add_sub_cancel] at hlo ⊢
    omega
  · have : kl x = 8 := by have := kl_le x; omega
    rw [this]
    have : (256 : Nat) ^ 8 = 18446744073709551616 := by decide
    omega
theorem lay_order (x y : Nat) (hx : x < 18446744073709551616) (hy : y < 18446744073709551616) : aheadN (layN x) (layN y) = decide (x < y) := by
  have tx := kl_top x hx
  have ty := kl_top y hy
  have lx := kl_lo x
  have ly := kl_lo y
  have hx1 := kl_hi x
  have hy1 := kl_hi y
  have x8 := kl_le x
  have y8 := kl_le y
  unfold layN
  generalize kl x = p at *
  generalize kl y = q at *
  by_cases hp : p = 0
  · subst hp
    rw [if_pos rfl]
    have h1 := hx1 (by omega)
    rw [sh_vals.1] at h1
    by_cases hq : q = 0
    · subst hq
      rw [if_pos rfl, aheadN]
      by_cases h : x = y
      · subst h
        rw [if_pos rfl, decide_eq_false (by omega)]
        rfl
      · rw [if_neg (by omega)]
        congr 1
        simp only [eq_iff_iff]
        omega
    · rw [if_neg hq, aheadN, if_neg (by omega), decide_eq_true (by omega), decide_eq_true]
      have h2 := ly (by omega)
      have h3 := sh_mono 0 (q - 1) (by omega)
      rw [sh_vals.1] at h3
      omega
  · rw [if_neg hp]
    have h1 := lx (by omega)
    by_cases hq : q = 0
    · subst hq
      have h2 := hy1 (by omega)
      rw [sh_vals.1] at h2
      have h3 := sh_mono 0 (p - 1) (by omega)
      rw [sh_vals.1] at h3
      rw [if_pos rfl, aheadN, if_neg (by omega), decide_eq_false (by omega), decide_eq_false (by omega)]
    · rw [if_neg hq, aheadN]
      have h2 := ly (by omega)
      by_cases hpq : p = q
      · subst hpq
        rw [if_pos rfl, ahead_dg]
        have t1 := tx (by omega)
        have t2 := ty (by omega)
        rw [Nat.mod_eq_of_lt t1, Nat.mod_eq_of_lt t2]
        congr 1
        simp only [eq_iff_iff]
        omega
      · rw [if_neg (by omega)]
        congr 1
        simp only [eq_iff_iff]
        rcases Nat.lt_or_ge p q with h | h
        · have h3 := hx1 (by omega)
          have h4 := sh_mono p (q - 1) (by omega)
          omega
        · have h3 := hy1 (by omega)
          have h4 := sh_mono q (p - 1) (by omega)
          omega
theorem ahead_self : ∀ l : List Int, aheadN l l = false
  | [] => rfl
  | a :: l => by rw [aheadN, if_pos rfl, ahead_self l]
theorem lay_inj (x y : Nat) (hx : x < 18446744073709551616) (hy : y < 18446744073709551616) (h : layN x = layN y) : x = y := by
  have h1 := lay_order x y hx hy
  have h2 := lay_order y x hy hx
  rw [h, ahead_self] at h1
  rw [h, ahead_self] at h2
  have h3 := of_decide_eq_false h1.symm
  have h4 := of_decide_eq_false h2.symm
  omega
end Go.Proofs.Ytijcjllojhpioaa
