/- furlongref03.Weights, Mended: contracts. -/
import Derived.Test.YtijcjllojhpioaaAw03
import Derived.Test.YtijcjllojhpioaaUtil01
import Derived.Outline
namespace Go.Fur
open Go Go.RowKit Go.Proofs
set_option linter.unusedVariables false
set_option linter.unusedSimpArgs false
def WrR (w : World) (l : List Int) (a b i : Value) (wr : World) : Prop :=
  ∃ m : Nat, m ≤ l.length ∧ i = .int .i64 m ∧ a = .int .i64 (s0 (l.take m)) ∧ b = .int .i64 (s1 (l.take m)) ∧ 0 ≤ s0 (l.take m) ∧ s0 (l.take m) ≤ 255 * m ∧ 0 ≤ s1 (l.take m) ∧ s1 (l.take m) ≤ 15300255 * m ∧ w = wr
set_option maxRecDepth 100000 in
set_option maxHeartbeats 1000000 in
theorem weightsR_calls (w : World) (a : Option Addr) (n c : Nat) (l : List Int) (hl : l.length = n) (hn : n ≤ 60000) (hb : Byt l) (ra : Rd w a (bv l)) :
    Calls Try.prog 33 #[.slice a n c] w fun e w' => e = .returned (.tuple #[.int .i64 (s0 l % 65521), .int .i64 (s1 l % 65521)]) ∧ w = w' := by
  subst hl
  have R0 : WrR w l (.int .i64 0) (.int .i64 0) (.int .i64 0) w := ⟨0, Nat.zero_le _, rfl, rfl, rfl, by simp [s0], by simp [s0], by simp [s1], by simp [s1], rfl⟩
  have HR0 := Lib.hid R0
  have HA := Lib.hid ra
  have HB := Lib.hid hb
  clear ra hb R0
  go_enter Try.func33, Try.ntmps33
  go_wp2_with fail
  go_loopw [4, 5, 6] (fun a b i wr => WrR w l a b i wr) (fun _ _ i _ => l.length - (intOf i).toNat)
  case atStart => exact HR0.out
  case round =>
    obtain ⟨m, hm, rfl, rfl, rfl, a0, a1, b0, b1, rfl⟩ := hrel
    by_cases hlt : m < l.length
    · obtain ⟨y, hy⟩ : ∃ y, l[m]? = some y := ⟨l[m], List.getElem?_eq_getElem hlt⟩
      have hyb := HB.out y (List.mem_of_getElem? hy)
      obtain ⟨b, o, rfl, hr⟩ := HA.out (by intro e; have := congrArg List.length e; simp at this; subst this; simp at hlt)
      have hc : w.cell? ⟨b, o + m, none⟩ = some (.int .u8 y) := hr m _ (by rw [bv_get, hy]; rfl)
      have hsn : l.take (m + 1) = l.take m ++ [y] := by rw [List.take_add_one, hy]; rfl
      have hl2 : (l.take m).length = m := by rw [List.length_take]; omega
      have e0 := s0_snoc (l.take m) y
      have e1 := s1_snoc (l.take m) y
      rw [← hsn] at e0 e1
      rw [hl2, Int.mul_comm] at e1
      have hp0 : 0 ≤ y * ((m : Int) + 1) := Int.mul_nonneg hyb.1 (by omega)
      have hp1 : y * ((m : Int) + 1) ≤ 255 * ((m : Int) + 1) := Int.mul_le_mul_of_nonneg_right (by omega) (by omega)
      obtain ⟨p, hp⟩ : ∃ p, y * ((m : Int) + 1) = p := ⟨_, rfl⟩
      rw [hp] at e1 hp0 hp1
      have hp2 : p ≤ 15300255 := by omega
      have k1 : (m : Int) < (l.length : Int) := by omega
      have hy0 := hyb.1
      have hy1 := hyb.2
      have HE := Lib.hid (And.intro e0 e1)
      clear hr e0 e1 hsn hl2 hy hp1 hyb
      generalize s0 (l.take m) = A at *
      generalize s1 (l.take m) = B at *
      go_wp2_with fail
      go_roundw
      case rel =>
        obtain ⟨e0, e1⟩ := HE.out
        refine ⟨m + 1, by omega, rfl, by rw [e0], by rw [e1], ?_, ?_, ?_, ?_, rfl⟩
        all_goals first | rw [e0] | rw [e1]
        all_goals omega
      case measure => simp [intOf]; omega
    · have hmk : m = l.length := by omega
      subst hmk
      rw [List.take_length] at *
      go_wp2_with fail
      go_ret2
      exact ⟨rfl, rfl⟩
end Go.Fur
namespace Go.Fur
open Go Go.RowKit Go.Proofs
set_option linter.unusedVariables false
set_option linter.unusedSimpArgs false
/-- Does the byte x at the place i (where c lies) mend all? -/
def hits (A B T0 T1 c : Int) (i : Nat) (x : Int) : Prop := x - c ≠ 0 ∧ Int.tmod (A + (x - c) - T0) 65521 = 0 ∧ Int.tmod (B + (x - c) * ((i : Int) + 1) - T1) 65521 = 0
theorem tmod_zero (a : Int) : Int.tmod a 65521 = 0 ↔ a % 65521 = 0 := by
  constructor
  · intro h
    exact Int.emod_eq_zero_of_dvd (Int.dvd_of_tmod_eq_zero h)
  · intro h
    exact Int.tmod_eq_zero_of_dvd (Int.dvd_of_emod_eq_zero h)
theorem hits_iff (A B T0 T1 c : Int) (i : Nat) (x : Int) (c0 : 0 ≤ c) (c1 : c < 256) (x0 : 0 ≤ x) (x1 : x < 256) :
    hits A B T0 T1 c i x ↔ mendAt ((T0 - A) % 65521) ((T1 - B) % 65521) i c = some x := by
  have hm : ∀ U : Int, U % 65521 = (x - c) % 65521 → U * ((i : Int) + 1) % 65521 = (x - c) * ((i : Int) + 1) % 65521 := fun U h => by
    rw [Int.mul_emod, h, ← Int.mul_emod]
  unfold hits mendAt
  rw [tmod_zero, tmod_zero]
  generalize hU : (T0 - A) % 65521 = U at *
  have hm := hm U
  generalize hq : (x - c) * ((i : Int) + 1) = q at *
  generalize hr : U * ((i : Int) + 1) = r at *
  constructor
  · rintro ⟨h1, h2, h3⟩
    have := hm (by omega)
    rw [if_neg (by omega), mendX]
    by_cases h : c + U ≤ 255
    · rw [if_pos h]
      congr 1
      omega
    · rw [if_neg h, if_pos (by omega)]
      congr 1
      omega
  · intro h
    by_cases h0 : U = 0 ∨ r % 65521 ≠ (T1 - B) % 65521
    · rw [if_pos h0] at h
      cases h
    · rw [if_neg h0, mendX] at h
      have hx : (c + U ≤ 255 ∧ x = c + U) ∨ (¬ c + U ≤ 255 ∧ 0 ≤ c + U - 65521 ∧ x = c + U - 65521) := by
        by_cases h4 : c + U ≤ 255
        · rw [if_pos h4] at h
          exact .inl ⟨h4, (Option.some.inj h).symm⟩
        · rw [if_neg h4] at h
          by_cases h5 : 0 ≤ c + U - 65521
          · rw [if_pos h5] at h
            exact .inr ⟨h4, h5, (Option.some.inj h).symm⟩
          · rw [if_neg h5] at h
            cases h
      have := hm (by omega)
      refine ⟨by omega, by omega, by omega⟩
def MrO (w : World) (p : List Int) (U V : Int) (R : List Int × Int × Int) (i : Value) (wr : World) : Prop := ∃ k : Nat, k ≤ p.length ∧ i = .int .i64 k ∧ mendGo p U V k (p.drop k) = R ∧ w = wr
def MrI (w : World) (A B T0 T1 c : Int) (k : Nat) (x : Value) (wr : World) : Prop := ∃ j : Nat, j ≤ 256 ∧ x = .int .i64 j ∧ (∀ j' : Nat, j' < j → ¬ hits A B T0 T1 c k j') ∧ w = wr
set_option maxRecDepth 100000 in
set_option maxHeartbeats 4000000 in
theorem mended_calls (w : World) (a : Option Addr) (n c : Nat) (l : List Int) (hl : l.length = n) (hc : n ≤ c) (hn : n ≤ 140737488355328) (hb : Byt l) (ra : Rd w a (bv l)) :
    Calls Try.prog 16 #[.slice a n c] w (MeE 5 (mendN l) w) := by
  subst hl
  by_cases h0 : l.length < 4
  · have e : mendN l = ([], 0, 5) := by unfold mendN; rw [if_pos h0]
    rw [e]
    clear e
    have h0b : (l.length : Int) < 4 := by omega
    go_enter Try.func16, Try.ntmps16
    go_wp2_with fail
    go_ret3
    exact ⟨_, rfl, Own.nil _ _ _ _, Fr.refl _ _⟩
  obtain ⟨m, hm⟩ : ∃ m, l.length = m + 4 := ⟨l.length - 4, by omega⟩
  have hm4 : l.length - 4 = m := by omega
  have hr4 : (l.length : Int) - 4 = (m : Int) := by omega
  have h0b : ¬ (l.length : Int) < 4 := by omega
  by_cases h1 : 60000 < m
  · have e : mendN l = ([], 0, 3) := by unfold mendN; rw [if_neg h0, hm4, if_pos h1]
    rw [e]
    clear e
    have h1b : (60004 : Int) < (l.length : Int) := by omega
    have HM := Lib.hid (And.intro hm (And.intro hm4 hr4))
    clear hm hm4 hr4
    go_enter Try.func16, Try.ntmps16
    go_wp2_with fail
    go_ret3
    exact ⟨_, rfl, Own.nil _ _ _ _, Fr.refl _ _⟩
  have e : mendN l = mendQ (l.take m) m (l.getD m 0 * 256 + l.getD (m + 1) 0) (l.getD (m + 2) 0 * 256 + l.getD (m + 3) 0) := by unfold mendN; rw [if_neg h0, hm4, if_neg h1]
  unfold mendQ at e
  have hbt : ∀ i, 0 ≤ l.getD i 0 ∧ l.getD i 0 < 256 := fun i => by
    rw [List.getD_eq_getElem?_getD]
    cases hq : l[i]? with
    | none => simp
    | some x => exact hb x (List.mem_of_getElem? hq)
  have hcl : ∀ i, i < l.length → l[i]? = some (l.getD i 0) := fun i hi => by rw [List.getD_eq_getElem?_getD, List.getElem?_eq_getElem hi]; rfl
  have c0 := hcl m (by omega)
  have c1 := hcl (m + 1) (by omega)
  have c2 := hcl (m + 2) (by omega)
  have c3 := hcl (m + 3) (by omega)
  have x0 := hbt m
  have x1 := hbt (m + 1)
  have x2 := hbt (m + 2)
  have x3 := hbt (m + 3)
  generalize l.getD m 0 = y0 at *
  generalize l.getD (m + 1) 0 = y1 at *
  generalize l.getD (m + 2) 0 = y2 at *
  generalize l.getD (m + 3) 0 = y3 at *
  have hpl : (l.take m).length = m := by rw [List.length_take]; omega
  have hpb : Byt (l.take m) := hb.take m
  obtain ⟨b, o, rfl, hr⟩ := ra (by intro e; have := congrArg List.length e; simp at this; subst this; simp at hm)
  have hrp : Rd w (some ⟨b, o, none⟩) (bv (l.take m)) := Rd.mk (fun j v hv => hr j v (by rw [bv_take, List.getElem?_take] at hv; split at hv; exact hv; cases hv))
  have d0 : w.cell? ⟨b, o + m, none⟩ = some (.int .u8 y0) := hr m _ (by rw [bv_get, c0]; rfl)
  have d1 : w.cell? ⟨b, o + (m + 1), none⟩ = some (.int .u8 y1) := hr (m + 1) _ (by rw [bv_get, c1]; rfl)
  have d2 : w.cell? ⟨b, o + (m + 2), none⟩ = some (.int .u8 y2) := hr (m + 2) _ (by rw [bv_get, c2]; rfl)
  have d3 : w.cell? ⟨b, o + (m + 3), none⟩ = some (.int .u8 y3) := hr (m + 3) _ (by rw [bv_get, c3]; rfl)
  have hbw : b < w.heap.size := World.block_lt_of_cell? w _ d0
  generalize mendN l = R at *
  have a0 : 0 ≤ s0 (l.take m) % 65521 := by omega
  have a1 : s0 (l.take m) % 65521 < 65521 := by omega
  have b0 : 0 ≤ s1 (l.take m) % 65521 := by omega
  have b1 : s1 (l.take m) % 65521 < 65521 := by omega
  have hwr := weightsR_calls
  generalize hA : s0 (l.take m) % 65521 = A at *
  generalize hB : s1 (l.take m) % 65521 = B at *
  generalize l.take m = p at *
  have HAB := Lib.hid (And.intro hA hB)
  have HE := Lib.hid e
  have HP := Lib.hid (And.intro hpl (And.intro hpb hrp))
  have HD := Lib.hid (And.intro d0 (And.intro d1 (And.intro d2 d3)))
  have HM := Lib.hid (And.intro hm hm4)
  have h1b : ¬ (60004 : Int) < (l.length : Int) := by omega
  have hml : m ≤ l.length := by omega
  have hmc : m ≤ c := by omega
  have hm6 : m ≤ 60000 := by omega
  clear e hA hB hpl hpb hrp d0 d1 d2 d3 c0 c1 c2 c3 hbt hcl hb hr h0 h1 hm hm4 hwr
  go_enter Try.func16, Try.ntmps16
  go_wp2_with fail
  refine (twin_calls w (some ⟨b, o, none⟩) c m p HP.out.1 (by omega) HP.out.2.2).mono ?_
  rintro e w2 ⟨v6, rfl, O2, F2⟩
  obtain ⟨a6, c6, hv6, q1, q2, q3⟩ := O2.form
  subst hv6
  have HO2 := Lib.hid O2
  have HF2 := Lib.hid F2
  have HQ3 := Lib.hid q3
  clear O2 F2 q3
  go_wp2_with fail
  refine (weightsR_calls w2 a6 m c6 p HP.out.1 hm6 HP.out.2.1 HQ3.out).mono ?_
  rintro e w3 ⟨rfl, rfl⟩
  rw [HAB.out.1, HAB.out.2]
  have d0 : w2.cell? ⟨b, o + m, none⟩ = some (.int .u8 y0) := (World.cell?_of_block (HF2.out.block b hbw (by simp))).trans HD.out.1
  have d1 : w2.cell? ⟨b, o + (m + 1), none⟩ = some (.int .u8 y1) := (World.cell?_of_block (HF2.out.block b hbw (by simp))).trans HD.out.2.1
  have d2 : w2.cell? ⟨b, o + (m + 2), none⟩ = some (.int .u8 y2) := (World.cell?_of_block (HF2.out.block b hbw (by simp))).trans HD.out.2.2.1
  have d3 : w2.cell? ⟨b, o + (m + 3), none⟩ = some (.int .u8 y3) := (World.cell?_of_block (HF2.out.block b hbw (by simp))).trans HD.out.2.2.2
  have t0 : 0 ≤ y0 * 256 + y1 ∧ y0 * 256 + y1 < 65536 := by omega
  have t1 : 0 ≤ y2 * 256 + y3 ∧ y2 * 256 + y3 < 65536 := by omega
  obtain ⟨x00, x01⟩ := x0
  obtain ⟨x10, x11⟩ := x1
  obtain ⟨x20, x21⟩ := x2
  obtain ⟨x30, x31⟩ := x3
  go_wp2_with fail
  go_quiet (fail)
  generalize hT0 : y0 * 256 + y1 = T0 at *
  generalize hT1 : y2 * 256 + y3 = T1 at *
  clear hT0 hT1 d0 d1 d2 d3
  have HO9 := Lib.hid (HO2.out.fr0 ((Fr.refl [] w2).drewN nq))
  have HF9 := Lib.hid (HF2.out.trans0 ((Fr.refl [] w2).drewN nq))
  clear HQ3
  generalize w2.drewN nq = w9 at *
  by_cases hT0 : T0 = A
  · by_cases hT1 : T1 = B
    · have hR : R = (p, -1, 0) := by rw [HE.out, if_pos hT0, if_pos hT1]
      have HR := Lib.hid hR
      have k0 : (A == T0) = true := by simp [hT0]
      have k1 : (B == T1) = true := by simp [hT1]
      clear hR hT0 hT1 HE
      go_wp2_with fail
      go_ret3
      rw [HR.out]
      exact ⟨_, rfl, by rw [HP.out.1]; exact HO9.out, HF9.out⟩
    · have hR : R = (p, (m : Int) + 2, 0) := by rw [HE.out, if_pos hT0, if_neg hT1]
      have HR := Lib.hid hR
      have k0 : (A == T0) = true := by simp [hT0]
      have k1 : (B == T1) = false := by simp; omega
      clear hR hT0 hT1 HE
      go_wp2_with fail
      go_ret3
      rw [HR.out]
      exact ⟨_, rfl, by rw [HP.out.1]; exact HO9.out, HF9.out⟩
  have k0 : (A == T0) = false := by simp; omega
  by_cases hT1 : T1 = B
  · have hR : R = (p, (m : Int), 0) := by rw [HE.out, if_neg hT0, if_pos hT1]
    have HR := Lib.hid hR
    have k1 : (B == T1) = true := by simp [hT1]
    clear hR hT0 hT1 HE
    go_wp2_with fail
    go_ret3
    rw [HR.out]
    exact ⟨_, rfl, by rw [HP.out.1]; exact HO9.out, HF9.out⟩
  have hR : mendGo p ((T0 - A) % 65521) ((T1 - B) % 65521) 0 p = R := by rw [HE.out, if_neg hT0, if_neg hT1]
  have k1 : (B == T1) = false := by simp; omega
  have R0 : MrO w9 p ((T0 - A) % 65521) ((T1 - B) % 65521) R (.int .i64 0) w9 := ⟨0, Nat.zero_le _, rfl, hR, rfl⟩
  have HR0 := Lib.hid R0
  clear hR R0 hT0 hT1 HE
  obtain ⟨t00, t01⟩ := t0
  obtain ⟨t10, t11⟩ := t1
  go_wp2_with fail
  go_loopw [11] (fun i wr => MrO w9 p ((T0 - A) % 65521) ((T1 - B) % 65521) R i wr) (fun i _ => m - (intOf i).toNat)
  case atStart => exact HR0.out
  case round =>
    obtain ⟨k, hk, rfl, hR, rfl⟩ := hrel
    have hpm := HP.out.1
    by_cases hlt : k < m
    · obtain ⟨g, cap, cur, y, hv, hg, hcur, hlc, hy, hcell, hset⟩ := HO9.out.byteAt k hlt
      simp only [Value.slice.injEq] at hv
      obtain ⟨rfl, _, rfl⟩ := hv
      have hyb := HP.out.2.1 y (List.mem_of_getElem? hy)
      have hd : p.drop k = y :: p.drop (k + 1) := by
        obtain ⟨h1, h2⟩ := List.getElem?_eq_some_iff.1 hy
        rw [List.drop_eq_getElem_cons h1, h2]
      rw [hd, mendGo] at hR
      have HS := Lib.hid (And.intro hg (And.intro hcur (And.intro hlc hset)))
      have HR := Lib.hid hR
      have kb : (k : Int) < (m : Int) := by omega
      have hy0 := hyb.1
      have hy1 := hyb.2
      have HPM := Lib.hid hpm
      clear hg hcur hlc hset hd hyb hR hy hpm hk
      go_wp2_with fail
      go_loopw [12] (fun x wr => MrI w9 A B T0 T1 y k x wr) (fun x _ => 256 - (intOf x).toNat)
      case atStart => exact ⟨0, by omega, rfl, fun _ h => by omega, rfl⟩
      case round =>
        obtain ⟨j, hj, rfl, hno, rfl⟩ := hrel
        have HN := Lib.hid hno
        clear hno
        by_cases hj2 : j < 256
        · have jb : (j : Int) < 256 := by omega
          obtain ⟨d, hd⟩ : ∃ d, (j : Int) - y = d := ⟨_, rfl⟩
          have hd1 : -256 < d := by omega
          have hd2 : d < 256 := by omega
          obtain ⟨q, hq⟩ : ∃ q, d * ((k : Int) + 1) = q := ⟨_, rfl⟩
          have q1 : q ≤ 256 * ((k : Int) + 1) := by rw [← hq]; exact Int.mul_le_mul_of_nonneg_right (by omega) (by omega)
          have q2 : -256 * ((k : Int) + 1) ≤ q := by rw [← hq]; exact Int.mul_le_mul_of_nonneg_right (by omega) (by omega)
          have q3 : q ≤ 20000000 := by omega
          have q4 : -20000000 ≤ q := by omega
          have hh : hits A B T0 T1 y k j ↔ d ≠ 0 ∧ Int.tmod (A + d - T0) 65521 = 0 ∧ Int.tmod (B + q - T1) 65521 = 0 := by unfold hits; rw [hd, hq]
          have HH := Lib.hid hh
          clear hh q1 q2
          by_cases h1 : d = 0
          · subst h1
            have HNo : ¬ hits A B T0 T1 y k j := fun h => (HH.out.1 h).1 rfl
            have HX := Lib.hid HNo
            clear HNo HH
            go_wp2_with fail
            refine ⟨⟨j + 1, by omega, rfl, fun j' hj' h => ?_, rfl⟩, by simp [intOf]; omega⟩
            by_cases he : j' = j
            · subst he
              exact HX.out h
            · exact HN.out j' (by omega) h
          · have h1b : (d != 0) = true := by simpa using h1
            by_cases h2 : Int.tmod (A + d - T0) 65521 = 0
            · have h2b : (Int.tmod (A + d - T0) 65521 == 0) = true := by simpa using h2
              by_cases h3 : Int.tmod (B + q - T1) 65521 = 0
              · have h3b : (Int.tmod (B + q - T1) 65521 == 0) = true := by simpa using h3
                have HX := Lib.hid (HH.out.2 ⟨h1, h2, h3⟩)
                clear HH h1 h2 h3
                go_wp2_with (first
                  | (refine wpList_store1 rfl 5 _ _ rfl g k (.int .u8 (j : Int)) (by rfl) (by rfl) rfl 5 _ HS.out.2.1 (by have := HS.out.2.2.1; have := HPM.out; omega) (by kernel_rfl) rfl ?_; intro w7 B7 F7 S7; have HB7 := Lib.hid B7; have HF7 := Lib.hid F7; clear B7 F7 S7))
                go_ret3
                have hR : R = (p.set k (j : Int), (k : Int), 0) := by
                  have := HR.out
                  rw [(hits_iff A B T0 T1 y k (j : Int) hy0 hy1 (by omega) jb).1 HX.out] at this
                  exact this.symm
                rw [hR]
                refine ⟨_, rfl, ?_, HF9.out.trans (by simpa using HF7.out) (fun z hz hlt => by have := HS.out.1; simp at hz; omega)⟩
                have h1 := HS.out.2.2.2 w7 _ HB7.out
                rw [List.length_set, HPM.out]
                exact h1
              · have h3b : (Int.tmod (B + q - T1) 65521 == 0) = false := by simpa using h3
                have HX := Lib.hid (show ¬ hits A B T0 T1 y k j from fun h => h3 (HH.out.1 h).2.2)
                clear HH h1 h2 h3
                go_wp2_with fail
                refine ⟨⟨j + 1, by omega, rfl, fun j' hj' h => ?_, rfl⟩, by simp [intOf]; omega⟩
                by_cases he : j' = j
                · subst he
                  exact HX.out h
                · exact HN.out j' (by omega) h
            · have h2b : (Int.tmod (A + d - T0) 65521 == 0) = false := by simpa using h2
              have HX := Lib.hid (show ¬ hits A B T0 T1 y k j from fun h => h2 (HH.out.1 h).2.1)
              clear HH h1 h2
              go_wp2_with fail
              refine ⟨⟨j + 1, by omega, rfl, fun j' hj' h => ?_, rfl⟩, by simp [intOf]; omega⟩
              by_cases he : j' = j
              · subst he
                exact HX.out h
              · exact HN.out j' (by omega) h
        · have jb : ¬ (j : Int) < 256 := by omega
          have hn : mendAt ((T0 - A) % 65521) ((T1 - B) % 65521) k y = none := by
            cases hx : mendAt ((T0 - A) % 65521) ((T1 - B) % 65521) k y with
            | none => rfl
            | some x =>
              exfalso
              have hx2 : 0 ≤ x ∧ x < 256 := by
                unfold mendAt at hx
                split at hx
                · cases hx
                · unfold mendX at hx
                  split at hx
                  · have := Option.some.inj hx
                    omega
                  · split at hx
                    · have := Option.some.inj hx
                      omega
                    · cases hx
              refine HN.out x.toNat (by omega) ?_
              rw [show ((x.toNat : Nat) : Int) = x by omega]
              exact (hits_iff A B T0 T1 y k x hy0 hy1 hx2.1 hx2.2).2 hx
          have hR2 := HR.out
          rw [hn] at hR2
          have HR2 := Lib.hid hR2
          clear hR2 hn
          go_wp2_with fail
          refine ⟨⟨k + 1, by have := HPM.out; omega, rfl, HR2.out, rfl⟩, by simp [intOf]; omega⟩
    · have hmk : m = k := by omega
      subst hmk
      have hR2 : R = ([], 0, 6) := by
        rw [← hR, List.drop_eq_nil_of_le (by omega)]
        rfl
      have HR2 := Lib.hid hR2
      have HPM := Lib.hid hpm
      clear hR2 hR hpm hk
      go_wp2_with fail
      go_ret3
      rw [HR2.out]
      exact ⟨_, rfl, Own.nil _ _ _ _, HF9.out⟩
end Go.Fur
namespace Go.Proofs.Ytijcjllojhpioaa
open Go Go.RowKit Go.Fur Go.Proofs.YtijcjllojhpioaaW.PrintWords
set_option linter.unusedVariables false
def furlongref03_Mended.f (l : List Int) : Option (List Int × Int × Int) := if okB l = true then some (mendN l) else none
theorem furlongref03_Mended.calls (A0 : Option Addr) (c0 : Nat) (l0 : List Int) (r1 : List Int) (r2 : Int) (r3 : Int) (w : World) (hr0 : Kd.C (Kd.int .u8) w A0 l0.length l0) (hc0 : l0.length ≤ c0) (h : furlongref03_Mended.f l0 = some (r1, r2, r3)) :
    Calls Try.prog 16 #[.slice A0 l0.length c0] w fun e w' => ∃ v0_ : Value, e = .returned (.tuple #[v0_, .int .i64 r2, .int .i64 r3]) ∧ Kd.R (Kd.int .u8) 5 w' w.heap.size (fun _ => True) v0_ r1 ∧ Below w.heap.size w w' := by
  unfold furlongref03_Mended.f at h
  split at h
  · rename_i hc
    obtain ⟨h1, h2⟩ := okB_is.1 hc
    have h := Option.some.inj h
    refine (mended_calls w A0 l0.length c0 l0 rfl hc0 h2 h1 (rdb_of_C hr0)).mono ?_
    rintro e w' ⟨v, rfl, ho, hf⟩
    rw [h] at ho ⊢
    exact ⟨v, rfl, Rb_of_own ho, below_of_fr hf⟩
  · cases h
end Go.Proofs.Ytijcjllojhpioaa
