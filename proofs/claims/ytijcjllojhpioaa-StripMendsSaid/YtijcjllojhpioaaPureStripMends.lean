/- P3.4, THE STAGE'S THEOREM: whatever one byte of guarded bytes is turned into, what was guarded is told, and, if it was turned at all, that it was. No condition. -/
import Derived.Test.YtijcjllojhpioaaPStripMendsx1
import Derived.Test.YtijcjllojhpioaaPlain03b
import Derived.Laws.BitsAllLaws
namespace Go.Proofs.Ytijcjllojhpioaa.Pure
open Go Go.RowKit Go.Fur Go.Proofs.Ytijcjllojhpioaa Go.Proofs.Ytijcjllojhpioaa.PStripMends Go.Proofs.YtijcjllojhpioaaW.PrintWords Go.Proofs.YtijcjllojhpioaaW.PrintLast
set_option linter.unusedVariables false
theorem cop : ∀ d : Nat, d < 256 → 0 < d → Nat.gcd 65521 d = 1 := by decide +kernel
theorem no_dvd (d a : Int) (h0 : d ≠ 0) (h1 : -256 < d) (h2 : d < 256) (h3 : -65521 < a) (h4 : a < 65521) (h : (d * a) % 65521 = 0) : a = 0 := by
  have hd : (65521 : Int) ∣ d * a := Int.dvd_of_emod_eq_zero h
  have hn : (65521 : Nat) ∣ d.natAbs * a.natAbs := by
    have := Int.natAbs_dvd_natAbs.2 hd
    rwa [Int.natAbs_mul] at this
  have hc : Nat.Coprime 65521 d.natAbs := cop d.natAbs (by omega) (by omega)
  have := hc.dvd_of_dvd_mul_left hn
  have := Nat.eq_zero_of_dvd_of_lt this (by omega)
  omega
theorem s0_append (l m : List Int) : s0 (l ++ m) = s0 l + s0 m := by simp [s0]
theorem s0_cons (a : Int) (l : List Int) : s0 (a :: l) = a + s0 l := by simp [s0]
theorem s0_set (l : List Int) (k : Nat) (y z : Int) (hy : l[k]? = some y) : s0 (l.set k z) = s0 l + (z - y) := by
  obtain ⟨hk, rfl⟩ := List.getElem?_eq_some_iff.1 hy
  have e1 : l = l.take k ++ l[k] :: l.drop (k + 1) := by rw [← List.drop_eq_getElem_cons hk, List.take_append_drop]
  have e2 : l.set k z = l.take k ++ z :: l.drop (k + 1) := by rw [List.set_eq_take_append_cons_drop, if_pos hk]
  have h1 : s0 l = s0 (l.take k) + (l[k] + s0 (l.drop (k + 1))) := by
    have := congrArg s0 e1
    rw [s0_append, s0_cons] at this
    exact this
  rw [e2, s0_append, h1, s0_cons]
  omega
theorem s1_from (l : List Int) (j : Nat) : ((l.zipIdx j).map fun p => ((p.2 : Int) + 1) * p.1).sum = s1 l + (j : Int) * s0 l := by
  induction l generalizing j with
  | nil => simp [s1, s0]
  | cons a l ih =>
    have h1 := ih (j + 1)
    have h2 := ih 1
    have e : s1 (a :: l) = a + ((l.zipIdx 1).map fun p => ((p.2 : Int) + 1) * p.1).sum := by simp [s1, List.zipIdx_cons]
    have e0 : s0 (a :: l) = a + s0 l := by simp [s0]
    rw [e, h2, e0, List.zipIdx_cons, List.map_cons, List.sum_cons, h1]
    simp only [Int.natCast_add, Int.natCast_one, Int.add_mul, Int.mul_add, Int.one_mul]
    omega
theorem s1_append (l m : List Int) : s1 (l ++ m) = s1 l + (s1 m + (l.length : Int) * s0 m) := by
  have := s1_from m l.length
  unfold s1 at this ⊢
  rw [List.zipIdx_append, List.map_append, List.sum_append]
  rw [Nat.zero_add, this]
theorem s1_cons (a : Int) (l : List Int) : s1 (a :: l) = a + (s1 l + s0 l) := by
  have := s1_from l 1
  have e : s1 (a :: l) = a + ((l.zipIdx 1).map fun p => ((p.2 : Int) + 1) * p.1).sum := by simp [s1, List.zipIdx_cons]
  rw [e, this]
  omega
theorem s1_set (l : List Int) (k : Nat) (y z : Int) (hy : l[k]? = some y) : s1 (l.set k z) = s1 l + ((k : Int) + 1) * (z - y) := by
  obtain ⟨hk, rfl⟩ := List.getElem?_eq_some_iff.1 hy
  have e1 : l = l.take k ++ l[k] :: l.drop (k + 1) := by rw [← List.drop_eq_getElem_cons hk, List.take_append_drop]
  have e2 : l.set k z = l.take k ++ z :: l.drop (k + 1) := by rw [List.set_eq_take_append_cons_drop, if_pos hk]
  have hl : (l.take k).length = k := by rw [List.length_take]; omega
  have h1 : s1 l = s1 (l.take k) + (s1 (l[k] :: l.drop (k + 1)) + (k : Int) * s0 (l[k] :: l.drop (k + 1))) := by
    have := congrArg s1 e1
    rw [s1_append, hl] at this
    exact this
  rw [e2, s1_append, hl, h1, s1_cons, s1_cons]
  have q1 : ∀ a : Int, s0 (a :: l.drop (k + 1)) = a + s0 (l.drop (k + 1)) := fun a => by simp [s0]
  rw [q1, q1]
  simp only [Int.mul_add, Int.add_mul, Int.mul_sub, Int.one_mul]
  omega
/-- The one byte is found. -/
theorem go_hit (p : List Int) (k : Nat) (d y : Int) (U V : Int) (hk : k < p.length) (hp : p.length ≤ 60000) (hd0 : d ≠ 0) (hd1 : -256 < d) (hd2 : d < 256) (hy0 : 0 ≤ y) (hy1 : y < 256) (hc : p[k]? = some (y + d)) (hU : U = (-d) % 65521) (hV : V = (-(((k : Int) + 1) * d)) % 65521) :
    ∀ (t : List Int) (i : Nat), i ≤ k → p.drop i = t → mendGo p U V i t = (p.set k y, (k : Int), 0)
  | [], i, hi, ht => by
    have := congrArg List.length ht
    simp at this
    omega
  | c :: t, i, hi, ht => by
    have hi2 : p[i]? = some c := by
      have := congrArg (·[0]?) ht
      simpa using this
    have ht2 : p.drop (i + 1) = t := by
      have := congrArg List.tail ht
      simpa using this
    have hU0 : U ≠ 0 := by omega
    have e : U * ((i : Int) + 1) % 65521 = (-(((i : Int) + 1) * d)) % 65521 := by
      rw [hU, Int.mul_emod, Int.emod_emod, ← Int.mul_emod, Int.neg_mul, Int.mul_comm]
    by_cases hik : i = k
    · subst hik
      have hcd : c = y + d := Option.some.inj (hi2.symm.trans hc)
      rw [mendGo, mendAt, e, ← hV, if_neg (by omega), mendX]
      by_cases h : c + U ≤ 255
      · rw [if_pos h]
        dsimp only
        rw [show c + U = y by omega]
      · rw [if_neg h, if_pos (by omega)]
        dsimp only
        rw [show c + U - 65521 = y by omega]
    · have hne : U * ((i : Int) + 1) % 65521 ≠ V := by
        rw [e, hV]
        intro h
        have h2 : (d * ((k : Int) - (i : Int))) % 65521 = 0 := by
          have h3 : d * ((k : Int) - (i : Int)) = -(((i : Int) + 1) * d) - -(((k : Int) + 1) * d) := by
            rw [Int.mul_sub, Int.add_mul, Int.add_mul, Int.mul_comm d k, Int.mul_comm d i]
            omega
          rw [h3]
          exact Int.emod_eq_emod_iff_emod_sub_eq_zero.1 h
        have := no_dvd d ((k : Int) - (i : Int)) hd0 hd1 hd2 (by omega) (by omega) h2
        omega
      rw [mendGo, mendAt, if_pos (.inr hne)]
      exact go_hit p k d y U V hk hp hd0 hd1 hd2 hy0 hy1 hc hU hV t (i + 1) (by omega) ht2
theorem mendN_of (p : List Int) (x0 x1 x2 x3 : Int) (hp : p.length ≤ 60000) : mendN (p ++ [x0, x1, x2, x3]) = mendQ p p.length (x0 * 256 + x1) (x2 * 256 + x3) := by
  have hl : (p ++ [x0, x1, x2, x3]).length = p.length + 4 := by simp
  have g : ∀ j, (p ++ [x0, x1, x2, x3]).getD (p.length + j) 0 = [x0, x1, x2, x3].getD j 0 := fun j => by
    rw [List.getD_eq_getElem?_getD, List.getD_eq_getElem?_getD, List.getElem?_append_right (by omega), Nat.add_sub_cancel_left]
  have g0 := g 0
  rw [Nat.add_zero] at g0
  unfold mendN
  rw [hl, if_neg (by omega), Nat.add_sub_cancel, if_neg (by omega), g0, g 1, g 2, g 3, List.take_left' rfl]
  rfl
theorem mend_none (p : List Int) (hp : p.length ≤ 60000) : mendN (p ++ gtail p) = (p, -1, 0) := by
  unfold gtail
  rw [mendN_of p _ _ _ _ hp]
  unfold mendQ
  rw [if_pos (by omega), if_pos (by omega)]
theorem mend_tail (p : List Int) (hp : p.length ≤ 60000) (j : Nat) (hj : j < 4) (y : Int) (hne : (gtail p)[j]? ≠ some y) (h0 : 0 ≤ y) (h1 : y < 256) :
    mendN (p ++ (gtail p).set j y) = (p, if j < 2 then (p.length : Int) else (p.length : Int) + 2, 0) := by
  unfold gtail at hne ⊢
  have hj4 : j = 0 ∨ j = 1 ∨ j = 2 ∨ j = 3 := by omega
  rcases hj4 with rfl | rfl | rfl | rfl
  · have : s0 p % 65521 / 256 ≠ y := fun e => hne (by rw [← e]; rfl)
    rw [show [s0 p % 65521 / 256, s0 p % 65521 % 256, s1 p % 65521 / 256, s1 p % 65521 % 256].set 0 y = [y, s0 p % 65521 % 256, s1 p % 65521 / 256, s1 p % 65521 % 256] from rfl, mendN_of p _ _ _ _ hp]
    unfold mendQ
    rw [if_neg (by omega), if_pos (by omega), if_pos (by omega)]
  · have : s0 p % 65521 % 256 ≠ y := fun e => hne (by rw [← e]; rfl)
    rw [show [s0 p % 65521 / 256, s0 p % 65521 % 256, s1 p % 65521 / 256, s1 p % 65521 % 256].set 1 y = [s0 p % 65521 / 256, y, s1 p % 65521 / 256, s1 p % 65521 % 256] from rfl, mendN_of p _ _ _ _ hp]
    unfold mendQ
    rw [if_neg (by omega), if_pos (by omega), if_pos (by omega)]
  · have : s1 p % 65521 / 256 ≠ y := fun e => hne (by rw [← e]; rfl)
    rw [show [s0 p % 65521 / 256, s0 p % 65521 % 256, s1 p % 65521 / 256, s1 p % 65521 % 256].set 2 y = [s0 p % 65521 / 256, s0 p % 65521 % 256, y, s1 p % 65521 % 256] from rfl, mendN_of p _ _ _ _ hp]
    unfold mendQ
    rw [if_pos (by omega), if_neg (by omega), if_neg (by omega)]
  · have : s1 p % 65521 % 256 ≠ y := fun e => hne (by rw [← e]; rfl)
    rw [show [s0 p % 65521 / 256, s0 p % 65521 % 256, s1 p % 65521 / 256, s1 p % 65521 % 256].set 3 y = [s0 p % 65521 / 256, s0 p % 65521 % 256, s1 p % 65521 / 256, y] from rfl, mendN_of p _ _ _ _ hp]
    unfold mendQ
    rw [if_pos (by omega), if_neg (by omega), if_neg (by omega)]
theorem mend_one (p : List Int) (hp : p.length ≤ 5000) (k : Nat) (x y : Int) (hx : p[k]? = some x) (x0 : 0 ≤ x) (x1 : x < 256) (h0 : 0 ≤ y) (h1 : y < 256) (hne : x ≠ y) :
    mendN (p.set k y ++ gtail p) = (p, (k : Int), 0) := by
  have hk := (List.getElem?_eq_some_iff.1 hx).1
  have hl : (p.set k y).length = p.length := List.length_set
  have e0 := s0_set p k x y hx
  have e1 := s1_set p k x y hx
  have hm : ((k : Int) + 1) * (y - x) % 65521 ≠ 0 := fun h => by
    rw [Int.mul_comm] at h
    have := no_dvd (y - x) ((k : Int) + 1) (by omega) (by omega) (by omega) (by omega) (by omega) h
    omega
  unfold gtail
  rw [mendN_of _ _ _ _ _ (by omega), hl]
  unfold mendQ
  generalize hq : ((k : Int) + 1) * (y - x) = q at *
  have hpx : p = (p.set k y).set k x := by
    rw [List.set_set]
    obtain ⟨_, e⟩ := List.getElem?_eq_some_iff.1 hx
    rw [← e, List.set_getElem_self]
  rw [e0, e1, if_neg (by omega), if_neg (by omega)]
  have := go_hit (p.set k y) k (y - x) x ((s0 p % 65521 / 256 * 256 + s0 p % 65521 % 256 - (s0 p + (y - x)) % 65521) % 65521) ((s1 p % 65521 / 256 * 256 + s1 p % 65521 % 256 - (s1 p + q) % 65521) % 65521) (by rw [hl]; exact hk) (by rw [hl]; omega) (by omega) (by omega) (by omega) x0 x1 (by rw [List.getElem?_set_self (by omega)]; congr 1; omega) (by omega) (by rw [hq]; omega) (p.set k y) 0 (by omega) rfl
  rw [← hpx] at this
  exact this
theorem xor_ne (x t : Int) (x0 : 0 ≤ x) (x1 : x < 256) (t0 : 0 ≤ t) (t1 : t < 256) : 0 ≤ Go.bits .xor .u8 x t ∧ Go.bits .xor .u8 x t < 256 ∧ (Go.bits .xor .u8 x t = x ↔ t = 0) := by
  rw [u8_xor x t x0 x1 t0 t1]
  have hlt : x.toNat ^^^ t.toNat < 2 ^ 8 := Nat.xor_lt_two_pow (by omega) (by omega)
  refine ⟨by omega, by omega, ?_⟩
  constructor
  · intro h
    have h2 : x.toNat ^^^ t.toNat = x.toNat := by omega
    have h3 : x.toNat ^^^ (x.toNat ^^^ t.toNat) = x.toNat ^^^ x.toNat := by rw [h2]
    rw [← Nat.xor_assoc, Nat.xor_self, Nat.zero_xor] at h3
    omega
  · rintro rfl
    simp
    omega
theorem gtail_byt (p : List Int) : Byt (gtail p) := fun x hx => by
  unfold gtail at hx
  simp only [List.mem_cons, List.not_mem_nil, or_false] at hx
  rcases hx with rfl | rfl | rfl | rfl <;> omega
/-- What is told of guarded bytes, one of which was turned. -/
theorem mend_turned (p : List Int) (hb : Byt p) (hp : p.length ≤ 5000) (k : Nat) (hk : k < p.length + 4) (t : Int) (t0 : 0 ≤ t) (t1 : t < 256) :
    ∃ at_ : Int, mendN ((p ++ gtail p).set k (Go.bits .xor .u8 ((p ++ gtail p).getD k 0) t)) = (p, at_, 0) ∧ (t = 0 → at_ = -1) ∧ (t ≠ 0 → at_ = k ∨ ((p.length ≤ k) ∧ at_ = (k : Int) - ((k : Int) - p.length) % 2)) ∧ (t ≠ 0 → 0 ≤ at_) := by
  have hgl : (p ++ gtail p).length = p.length + 4 := by simp [gtail]
  obtain ⟨x, hx⟩ : ∃ x, (p ++ gtail p)[k]? = some x := ⟨(p ++ gtail p)[k]'(by omega), List.getElem?_eq_getElem (by omega)⟩
  have hxb := hb.append (gtail_byt p) x (List.mem_of_getElem? hx)
  have hgd : (p ++ gtail p).getD k 0 = x := by rw [List.getD_eq_getElem?_getD, hx]; rfl
  rw [hgd]
  obtain ⟨y0, y1, hy⟩ := xor_ne x t hxb.1 hxb.2 t0 t1
  by_cases ht : t = 0
  · rw [hy.2 ht]
    refine ⟨-1, ?_, fun _ => rfl, fun h => absurd ht h, fun h => absurd ht h⟩
    obtain ⟨h1, h2⟩ := List.getElem?_eq_some_iff.1 hx
    rw [← h2, List.set_getElem_self]
    exact mend_none p (by omega)
  · have hne : Go.bits .xor .u8 x t ≠ x := fun h => ht (hy.1 h)
    generalize Go.bits .xor .u8 x t = y at *
    rcases Nat.lt_or_ge k p.length with h | h
    · rw [List.getElem?_append_left h] at hx
      rw [List.set_append_left _ _ h]
      exact ⟨k, mend_one p hp k x y hx hxb.1 hxb.2 y0 y1 (fun e => hne e.symm), fun h => absurd h ht, fun _ => .inl rfl, fun _ => by omega⟩
    · rw [List.getElem?_append_right h] at hx
      rw [List.set_append_right _ _ h]
      refine ⟨_, mend_tail p (by omega) (k - p.length) (by omega) y (fun e => hne ?_) y0 y1, fun h => absurd h ht, fun _ => .inr ⟨h, ?_⟩, fun _ => ?_⟩
      · rw [hx] at e
        exact (Option.some.inj e).symm
      · split <;> omega
      · split <;> omega
theorem StripMends : furlonglaw03_StripMends.Pure := by
  intro p a1 t h0 h1 h2 h3 h4
  have hb := byt_of h2
  obtain ⟨t0, t1⟩ := u8_of h4
  obtain ⟨b0, b1⟩ := i64_of h3
  refine ⟨1, ?_⟩
  unfold furlonglaw03_StripMends.f furlonglaw03_awake.f
  rw [Option.bind_some, if_pos rfl]
  by_cases hl : (p.length : Int) > 5000
  · rw [if_pos hl]
  rw [if_neg hl, guard_f p hb (by omega), Option.bind_some]
  have hg : guardN p = (p ++ gtail p, 0) := by unfold guardN; rw [if_neg (by omega)]
  rw [hg, if_pos rfl]
  dsimp only
  have hgl : (p ++ gtail p).length = p.length + 4 := by simp [gtail]
  rw [hgl, wrap64_id ((p.length : Int) + 4) (by omega) (by omega), show (((p.length + 4 : Nat) : Int) != (p.length : Int) + 4) = false by simp, furlonglaw03_StripMends.j0, if_neg (by simp), hgl]
  have e1 : IntKind.u64.wrap ((p.length + 4 : Nat) : Int) = ((p.length + 4 : Nat) : Int) := wrapU_id _ (by omega) (by omega)
  have e2 : 0 ≤ IntKind.u64.wrap a1 ∧ IntKind.u64.wrap a1 < 18446744073709551616 := by rw [IntKind.wrap_u64]; omega
  rw [e1]
  generalize IntKind.u64.wrap a1 = z at *
  have e3 : wrap64 (Int.tmod z ((p.length + 4 : Nat) : Int)) = (((z.toNat % (p.length + 4)) : Nat) : Int) := by
    rw [Int.tmod_eq_emod_of_nonneg e2.1]
    have hz : z = (z.toNat : Int) := by omega
    have hlt : z.toNat % (p.length + 4) < p.length + 4 := Nat.mod_lt _ (by omega)
    rw [hz, ← Int.natCast_emod, Int.toNat_natCast, wrap64_id _ (by omega) (by omega)]
  rw [e3]
  have hk : z.toNat % (p.length + 4) < p.length + 4 := Nat.mod_lt _ (by omega)
  generalize z.toNat % (p.length + 4) = k at *
  rw [if_neg (by omega), if_pos (by omega), if_pos (by omega), Int.toNat_natCast]
  have erd : rd (p ++ gtail p) (k : Int) = (p ++ gtail p).getD k 0 := by unfold rd; rw [Int.toNat_natCast]
  rw [erd]
  obtain ⟨at_, hm, m0, m1, m2⟩ := mend_turned p hb (by omega) k hk t t0 t1
  have hby : Byt ((p ++ gtail p).set k (Go.bits .xor .u8 ((p ++ gtail p).getD k 0) t)) := fun x hx => by
    rcases List.mem_or_eq_of_mem_set hx with h | rfl
    · exact hb.append (gtail_byt p) x h
    · have hxg : 0 ≤ (p ++ gtail p).getD k 0 ∧ (p ++ gtail p).getD k 0 < 256 := by
        rw [List.getD_eq_getElem?_getD, List.getElem?_eq_getElem (by omega)]
        exact hb.append (gtail_byt p) _ (List.getElem_mem _)
      have := xor_ne _ t hxg.1 hxg.2 t0 t1
      exact ⟨this.1, this.2.1⟩
  rw [mend_f _ hby (by rw [List.length_set]; omega), hm, Option.bind_some, if_pos rfl]
  unfold furlongref01_Bytes.f
  rw [str_self, Option.bind_some, if_pos rfl]
  dsimp only
  by_cases ht : t = 0
  · have := m0 ht
    rw [this, ht, if_neg (by simp), if_pos rfl]
  · have h2 := m2 ht
    rw [if_neg (by rw [decide_eq_false (by omega), beq_eq_false_iff_ne.2 ht]; decide), if_neg ht]
    rcases m1 ht with h | ⟨hk2, h⟩
    · rw [if_pos h]
    · by_cases he : at_ = (k : Int)
      · rw [if_pos he]
      · rw [if_neg he, if_pos (by omega), wrap64_id ((k : Int) - (p.length : Int)) (by omega) (by omega), Int.tmod_eq_emod_of_nonneg (by omega), wrap64_id _ (by omega) (by omega), ← h]
        simp
end Go.Proofs.Ytijcjllojhpioaa.Pure
