/- strip.mend: contract. -/
import Derived.Test.YtijcjllojhpioaaStripG
import Derived.WalkMore
import Derived.Outline
namespace Go.Fur
open Go Go.RowKit Go.Proofs
set_option linter.unusedVariables false
set_option linter.unusedSimpArgs false
/-- The byte that c may become. -/
def mendX (c u : Int) : Option Int := if c + u ≤ 255 then some (c + u) else if 0 ≤ c + u - 65521 then some (c + u - 65521) else none
def mendAt (u v : Int) (i : Nat) (c : Int) : Option Int := if u = 0 ∨ u * ((i : Int) + 1) % 65521 ≠ v then none else mendX c u
def mendGo (p : List Int) (u v : Int) : Nat → List Int → List Int × Int × Int
  | _, [] => ([], 0, 6)
  | i, c :: t => match mendAt u v i c with
    | some x => (p.set i x, (i : Int), 0)
    | none => mendGo p u v (i + 1) t
theorem mendGo_zero (p : List Int) (v : Int) : ∀ (t : List Int) (i : Nat), mendGo p 0 v i t = ([], 0, 6)
  | [], _ => rfl
  | c :: t, i => by
    rw [mendGo, mendAt, if_pos (.inl rfl)]
    exact mendGo_zero p v t (i + 1)
def MdE (tb base : Nat) (v0 : Value) (r : List Int × Int × Int) (w : World) (e : Ending) (w' : World) : Prop := ∃ v, e = .returned (.tuple #[v, .int .i64 r.2.1, .int .i64 r.2.2]) ∧ Own w' base tb 1 v r.1.length (bv r.1) ∧ Fr (ob v0) w w'
def MdR (w : World) (l : List Int) (u v : Int) (R : List Int × Int × Int) (i : Value) (wr : World) : Prop := ∃ m : Nat, m ≤ l.length ∧ i = .int .i64 m ∧ mendGo l u v m (l.drop m) = R ∧ w = wr
def MdZ (w : World) (l : List Int) (i : Value) (wr : World) : Prop := w = wr ∧ ∃ m : Nat, m ≤ l.length ∧ i = .int .i64 m
def MdI (w : World) (c u : Int) (j : Value) (wr : World) : Prop := w = wr ∧ (j = .int .i64 0 ∨ (j = .int .i64 1 ∧ 255 < c + u) ∨ (j = .int .i64 2 ∧ 255 < c + u ∧ c + u - 65521 < 0))
set_option maxRecDepth 100000 in
set_option maxHeartbeats 2000000 in
theorem mend0_calls (w : World) (base : Nat) (v0 : Value) (n : Nat) (l : List Int) (hl : l.length = n) (hn : n ≤ 60000) (hb : Byt l) (ho : Own w base 5 1 v0 n (bv l)) (u v : Int) (hu0 : 0 ≤ u) (hu1 : u < 65521) :
    Calls Try.prog 34 #[v0, .int .i64 u, .int .i64 v] w (MdE 5 base v0 (mendGo l u v 0 l) w) := by
  subst hl
  obtain ⟨a, c, rfl, hc1, hc2, hrd⟩ := ho.form
  have HO := Lib.hid ho
  have HB := Lib.hid hb
  clear ho hb hrd
  have R0 : MdR w l u v (mendGo l u v 0 l) (.int .i64 0) w := ⟨0, Nat.zero_le _, rfl, by simp, rfl⟩
  generalize mendGo l u v 0 l = R at *
  have HR0 := Lib.hid R0
  clear R0
  by_cases hu : u = 0
  · subst hu
    have hR : R = ([], 0, 6) := by
      obtain ⟨m, _, _, h, _⟩ := HR0.out
      rw [← h, mendGo_zero]
    have HR := Lib.hid hR
    clear hR HR0 hu1 hu0
    go_enter Try.func34, Try.ntmps34
    go_wp2_with fail
    go_step3
    go_wp2_with fail
    go_step3
    go_wp2_with fail
    go_loopw [15] (fun i wr => MdZ w l i wr) (fun i _ => l.length - (intOf i).toNat)
    case atStart => exact ⟨rfl, 0, Nat.zero_le _, rfl⟩
    case round =>
      obtain ⟨rfl, m, hm, rfl⟩ := hrel
      by_cases hlt : m < l.length
      · obtain ⟨g, cap, cur, y, hv, hg, hcur, hlc, hy, hcell, hset⟩ := HO.out.byteAt m hlt
        simp only [Value.slice.injEq] at hv
        obtain ⟨rfl, _, rfl⟩ := hv
        have k1 : (m : Int) < (l.length : Int) := by omega
        clear hg hcur hlc hset hy
        go_wp2_with fail
        go_roundw
        case rel => exact ⟨rfl, m + 1, by omega, rfl⟩
        case measure => simp [intOf]; omega
      · have hmk : m = l.length := by omega
        subst hmk
        go_wp2_with fail
        rw [Exit.noGoto_ret]
        go_ret3
        rw [HR.out]
        exact ⟨_, rfl, Own.nil _ _ _ _, Fr.refl _ _⟩
  have hub : (u == 0) = false := by simpa using hu
  have hup : 0 < u := by omega
  clear hu
  go_enter Try.func34, Try.ntmps34
  go_wp2_with fail
  go_step3
  go_wp2_with fail
  go_step3
  go_wp2_with fail
  go_loopw [15] (fun i wr => MdR w l u v R i wr) (fun i _ => l.length - (intOf i).toNat)
  case atStart => exact HR0.out
  case round =>
    obtain ⟨m, hm, rfl, hR, rfl⟩ := hrel
    by_cases hlt : m < l.length
    · obtain ⟨g, cap, cur, y, hv, hg, hcur, hlc, hy, hcell, hset⟩ := HO.out.byteAt m hlt
      simp only [Value.slice.injEq] at hv
      obtain ⟨rfl, _, rfl⟩ := hv
      have hyb := HB.out y (List.mem_of_getElem? hy)
      have hd : l.drop m = y :: l.drop (m + 1) := by
        obtain ⟨h1, h2⟩ := List.getElem?_eq_some_iff.1 hy
        rw [List.drop_eq_getElem_cons h1, h2]
      rw [hd, mendGo] at hR
      have hq1 : u * ((m : Int) + 1) ≤ 65521 * ((m : Int) + 1) := Int.mul_le_mul_of_nonneg_right (by omega) (by omega)
      have hq0 : 0 ≤ u * ((m : Int) + 1) := Int.mul_nonneg hu0 (by omega)
      obtain ⟨q, hq⟩ : ∃ q, u * ((m : Int) + 1) = q := ⟨_, rfl⟩
      rw [mendAt, hq] at hR
      have hy0 := hyb.1
      have hy1 := hyb.2
      rw [hq] at hq0 hq1
      have hq2 : q ≤ 65521 * 60001 := by omega
      have k1 : (m : Int) < (l.length : Int) := by omega
      have HS := Lib.hid (And.intro hg (And.intro hcur (And.intro hlc hset)))
      clear hg hcur hlc hset hq1 hd hyb
      by_cases hne : q % 65521 = v
      · rw [if_neg (by omega)] at hR
        have hnb : (q % 65521 == v) = true := by simpa using hne
        have HN := Lib.hid (And.intro hR hy)
        clear hR hne hy
        obtain ⟨i0, i1⟩ := index2 (.int .i64 (y + u)) (.int .i64 (y + u - 65521))
        go_wp2_with fail
        go_loopw [41] (fun j wr => MdI w y u j wr) (fun j _ => 2 - (intOf j).toNat)
        case atStart => exact ⟨rfl, .inl rfl⟩
        case round =>
          obtain ⟨rfl, hj⟩ := hrel
          rcases hj with rfl | ⟨rfl, hj⟩ | ⟨rfl, hj, hj2⟩
          · by_cases hx : y + u ≤ 255
            · have hR : R = (l.set m (y + u), (m : Int), 0) := by
                rw [← HN.out.1, mendX, if_pos hx]
              have HR := Lib.hid hR
              clear hR
              have hx0 : 0 ≤ y + u := by omega
              go_wp2_with (first
                | (refine wpList_store1 rfl 5 _ _ rfl g m (.int .u8 (y + u)) (by rfl) (by rfl) rfl 5 _ HS.out.2.1 (by have := HS.out.2.2.1; omega) (by kernel_rfl) rfl ?_; intro w2 B2 F2 S2; have HB2 := Lib.hid B2; have HF2 := Lib.hid F2; clear B2 F2 S2))
              rw [Exit.noGoto_ret]
              go_ret3
              rw [HR.out]
              refine ⟨_, rfl, ?_, by simpa using HF2.out⟩
              have h1 := HS.out.2.2.2 w2 _ HB2.out
              rw [List.length_set]
              exact h1
            · have hx2 : 255 < y + u := by omega
              have hx0 : 0 ≤ y + u := by omega
              go_wp2_with fail
              go_roundw
              case rel => exact ⟨rfl, .inr (.inl ⟨rfl, hx2⟩)⟩
              case measure => simp [intOf]
          · by_cases hx : 0 ≤ y + u - 65521
            · have hR : R = (l.set m (y + u - 65521), (m : Int), 0) := by
                rw [← HN.out.1, mendX, if_neg (by omega), if_pos hx]
              have HR := Lib.hid hR
              clear hR
              have hx0 : y + u - 65521 ≤ 255 := by omega
              go_wp2_with (first
                | (refine wpList_store1 rfl 5 _ _ rfl g m (.int .u8 (y + u - 65521)) (by rfl) (by rfl) rfl 5 _ HS.out.2.1 (by have := HS.out.2.2.1; omega) (by kernel_rfl) rfl ?_; intro w2 B2 F2 S2; have HB2 := Lib.hid B2; have HF2 := Lib.hid F2; clear B2 F2 S2))
              rw [Exit.noGoto_ret]
              go_ret3
              rw [HR.out]
              refine ⟨_, rfl, ?_, by simpa using HF2.out⟩
              have h1 := HS.out.2.2.2 w2 _ HB2.out
              rw [List.length_set]
              exact h1
            · have hx2 : y + u - 65521 < 0 := by omega
              go_wp2_with fail
              go_roundw
              case rel => first | exact ⟨rfl, .inr (.inr ⟨rfl, hj, hx2⟩)⟩ | ((repeat apply Exists.intro); exact ⟨⟨rfl, .inr (.inr ⟨rfl, hj, hx2⟩)⟩, rfl, rfl, rfl, rfl, rfl⟩)
              case measure => simp [intOf]
          · go_wp2_with fail
            refine ⟨⟨m + 1, by omega, rfl, ?_, rfl⟩, by simp [intOf]; omega⟩
            rw [← HN.out.1, mendX, if_neg (by omega), if_neg (by omega)]
      · rw [if_pos (.inr hne)] at hR
        have hnb : (q % 65521 == v) = false := by simpa using hne
        have HN := Lib.hid (And.intro hR hy)
        clear hR hne hy
        go_wp2_with fail
        go_roundw
        case rel => exact ⟨m + 1, by omega, rfl, HN.out.1, rfl⟩
        case measure => simp [intOf]; omega
    · have hmk : m = l.length := by omega
      subst hmk
      rw [List.drop_length] at hR
      have HN := Lib.hid hR
      clear hR
      go_wp2_with fail
      rw [Exit.noGoto_ret]
      go_ret3
      rw [← HN.out]
      exact ⟨_, rfl, Own.nil _ _ _ _, Fr.refl _ _⟩
end Go.Fur
