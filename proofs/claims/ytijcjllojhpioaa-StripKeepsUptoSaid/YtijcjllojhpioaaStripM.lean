/- strip.Mend: contract. -/
import Derived.Test.YtijcjllojhpioaaStripM0
import Derived.Deep.QuietTactic
import Derived.BigQuiet
import Derived.Laws.BitsAllLaws
namespace Go.Fur
open Go Go.RowKit Go.Proofs
set_option linter.unusedVariables false
set_option linter.unusedSimpArgs false
/-- Bytes, mended: the bytes, their number, the weights that are told. -/
def mendQ (p : List Int) (m : Nat) (t0 t1 : Int) : List Int × Int × Int :=
  if t0 = s0 p % 65521 then (if t1 = s1 p % 65521 then (p, -1, 0) else (p, (m : Int) + 2, 0))
  else if t1 = s1 p % 65521 then (p, (m : Int), 0)
  else mendGo p ((t0 - s0 p % 65521) % 65521) ((t1 - s1 p % 65521) % 65521) 0 p
def mendN (b : List Int) : List Int × Int × Int :=
  if b.length < 4 then ([], 0, 5) else if 60000 < b.length - 4 then ([], 0, 3) else
  mendQ (b.take (b.length - 4)) (b.length - 4) (b.getD (b.length - 4) 0 * 256 + b.getD (b.length - 4 + 1) 0) (b.getD (b.length - 4 + 2) 0 * 256 + b.getD (b.length - 4 + 3) 0)
theorem or_told (x y : Int) (h0 : 0 ≤ x) (h1 : x < 256) (h2 : 0 ≤ y) (h3 : y < 256) : bits BinOp.or IntKind.i64 (x * 256) y = x * 256 + y := by
  obtain ⟨X, rfl⟩ := Int.eq_ofNat_of_zero_le h0
  obtain ⟨Y, rfl⟩ := Int.eq_ofNat_of_zero_le h2
  have hor := Nat.two_pow_add_eq_or_of_lt (i := 8) (b := Y) (by omega) X
  have e : (X : Int) * 256 = ((X * 256 : Nat) : Int) := by omega
  rw [e]
  show IntKind.i64.wrap ((BitVec.ofInt 64 ((X * 256 : Nat) : Int) ||| BitVec.ofInt 64 (Y : Int)).toNat : Int) = _
  rw [BitVec.toNat_or, ofInt_u64 (X * 256) (by omega), ofInt_u64 Y (by omega), Nat.mul_comm X 256, ← show 2 ^ 8 * X = 256 * X from rfl, ← hor, IntKind.wrap_i64]
  omega
/-- Behind j rounds. -/
def MdS (tb t2 : Nat) (w : World) (v6 : Value) (m : Nat) (p : List Int) (g7 g8 : Nat) (A B t0 t1 : Int) (wrong at_ j : Value) (wr : World) : Prop :=
  Own wr w.heap.size tb 1 v6 m (bv p) ∧ Fr [] w wr ∧ Blk wr g7 t2 [.int .i64 A, .int .i64 B] ∧
  ((j = .int .i64 0 ∧ wrong = .int .i64 0 ∧ at_ = .int .i64 (-1) ∧ Blk wr g8 t2 [.int .i64 0, .int .i64 0]) ∨
   (j = .int .i64 1 ∧ Blk wr g8 t2 [.int .i64 ((t0 % 65521 - A + 65521) % 65521), .int .i64 0] ∧ ((t0 = A ∧ wrong = .int .i64 0 ∧ at_ = .int .i64 (-1)) ∨ (t0 ≠ A ∧ wrong = .int .i64 1 ∧ at_ = .int .i64 m))) ∨
   (j = .int .i64 2 ∧ Blk wr g8 t2 [.int .i64 ((t0 % 65521 - A + 65521) % 65521), .int .i64 ((t1 % 65521 - B + 65521) % 65521)] ∧
     ((t0 = A ∧ t1 = B ∧ wrong = .int .i64 0 ∧ at_ = .int .i64 (-1)) ∨ (t0 ≠ A ∧ t1 = B ∧ wrong = .int .i64 1 ∧ at_ = .int .i64 m) ∨
      (t0 = A ∧ t1 ≠ B ∧ wrong = .int .i64 1 ∧ at_ = .int .i64 ((m : Int) + 2)) ∨ (t0 ≠ A ∧ t1 ≠ B ∧ wrong = .int .i64 2 ∧ at_ = .int .i64 ((m : Int) + 2)))))
def MeE (tb : Nat) (r : List Int × Int × Int) (w : World) (e : Ending) (w' : World) : Prop := ∃ v, e = .returned (.tuple #[v, .int .i64 r.2.1, .int .i64 r.2.2]) ∧ Own w' w.heap.size tb 1 v r.1.length (bv r.1) ∧ Fr [] w w'
set_option maxRecDepth 100000 in
set_option maxHeartbeats 4000000 in
theorem mend_calls (w : World) (a : Option Addr) (n c : Nat) (l : List Int) (hl : l.length = n) (hc : n ≤ c) (hn : n ≤ 140737488355328) (hb : Byt l) (ra : Rd w a (bv l)) :
    Calls Try.prog 15 #[.slice a n c] w (MeE 5 (mendN l) w) := by
  subst hl
  by_cases h0 : l.length < 4
  · have e : mendN l = ([], 0, 5) := by unfold mendN; rw [if_pos h0]
    rw [e]
    clear e
    have h0b : (l.length : Int) - 4 < 0 := by omega
    go_enter Try.func15, Try.ntmps15
    go_wp2_with fail
    go_ret3
    exact ⟨_, rfl, Own.nil _ _ _ _, Fr.refl _ _⟩
  obtain ⟨m, hm⟩ : ∃ m, l.length = m + 4 := ⟨l.length - 4, by omega⟩
  have hm4 : l.length - 4 = m := by omega
  have hr4 : (l.length : Int) - 4 = (m : Int) := by omega
  by_cases h1 : 60000 < m
  · have e : mendN l = ([], 0, 3) := by unfold mendN; rw [if_neg h0, hm4, if_pos h1]
    rw [e]
    clear e
    have h1b : (60000 : Int) < (m : Int) := by omega
    have HM := Lib.hid (And.intro hm hm4)
    clear hm hm4
    go_enter Try.func15, Try.ntmps15
    go_wp2_with fail
    go_ret3
    exact ⟨_, rfl, Own.nil _ _ _ _, Fr.refl _ _⟩
  have e : mendN l = mendQ (l.take m) m (l.getD m 0 * 256 + l.getD (m + 1) 0) (l.getD (m + 2) 0 * 256 + l.getD (m + 3) 0) := by unfold mendN; rw [if_neg h0, hm4, if_neg h1]
  unfold mendQ at e
  have hbt : ∀ i, 0 ≤ l.getD i 0 ∧ l.getD i 0 < 256 := fun i => by
    rw [List.getD_eq_getElem?_getD]
    cases hq : l[i]? with
    | none => simp
    | some x => exact hb x (List.mem_of_getElem? hq)
  have hcl : ∀ i, i < l.length → l[i]? = some (l.getD i 0) := fun i hi => by rw [List.getD_eq_getElem?_getD, List.getElem?_eq_getElem hi]; rfl
  have c0 := hcl m (by omega)
  have c1 := hcl (m + 1) (by omega)
  have c2 := hcl (m + 2) (by omega)
  have c3 := hcl (m + 3) (by omega)
  have x0 := hbt m
  have x1 := hbt (m + 1)
  have x2 := hbt (m + 2)
  have x3 := hbt (m + 3)
  generalize l.getD m 0 = y0 at *
  generalize l.getD (m + 1) 0 = y1 at *
  generalize l.getD (m + 2) 0 = y2 at *
  generalize l.getD (m + 3) 0 = y3 at *
  have hpl : (l.take m).length = m := by rw [List.length_take]; omega
  have hpb : Byt (l.take m) := hb.take m
  obtain ⟨b, o, rfl, hr⟩ := ra (by intro e; have := congrArg List.length e; simp at this; subst this; simp at hm)
  have hrp : Rd w (some ⟨b, o, none⟩) (bv (l.take m)) := Rd.mk (fun j v hv => hr j v (by rw [bv_take, List.getElem?_take] at hv; split at hv; exact hv; cases hv))
  have d0 : w.cell? ⟨b, o + m, none⟩ = some (.int .u8 y0) := hr m _ (by rw [bv_get, c0]; rfl)
  have d1 : w.cell? ⟨b, o + (m + 1), none⟩ = some (.int .u8 y1) := hr (m + 1) _ (by rw [bv_get, c1]; rfl)
  have d2 : w.cell? ⟨b, o + (m + 2), none⟩ = some (.int .u8 y2) := hr (m + 2) _ (by rw [bv_get, c2]; rfl)
  have d3 : w.cell? ⟨b, o + (m + 3), none⟩ = some (.int .u8 y3) := hr (m + 3) _ (by rw [bv_get, c3]; rfl)
  have hbw : b < w.heap.size := World.block_lt_of_cell? w _ d0
  generalize mendN l = R at *
  have hwc : wcells (l.take m) = [.int .i64 (s0 (l.take m) % 65521), .int .i64 (s1 (l.take m) % 65521)] := rfl
  have a0 : 0 ≤ s0 (l.take m) % 65521 := by omega
  have a1 : s0 (l.take m) % 65521 < 65521 := by omega
  have b0 : 0 ≤ s1 (l.take m) % 65521 := by omega
  have b1 : s1 (l.take m) % 65521 < 65521 := by omega
  generalize s0 (l.take m) % 65521 = A at *
  generalize s1 (l.take m) % 65521 = B at *
  generalize l.take m = p at *
  have HE := Lib.hid (And.intro e hwc)
  have HP := Lib.hid (And.intro hpl (And.intro hpb hrp))
  have HD := Lib.hid (And.intro d0 (And.intro d1 (And.intro d2 d3)))
  have HM := Lib.hid (And.intro hm hm4)
  have h1b : ¬ (60000 : Int) < (m : Int) := by omega
  have hml : m ≤ l.length := by omega
  have hd0 : decide ((m : Int) < 0) = false := by simp
  have hmc : m ≤ c := by omega
  clear e hwc hpl hpb hrp d0 d1 d2 d3 c0 c1 c2 c3 hbt hcl hb hr h0 h1 hm hm4
  go_enter Try.func15, Try.ntmps15
  go_wp2_with (first
    | (refine wpList_appB rfl _ _ 22 22 rfl w.heap.size 5 5 .u8 1 Try.underlying22 Try.underlying22 info_byte (.slice none 0 0) 0 [] (by rfl) (Own.nil _ _ _ _) (some ⟨b, o, none⟩) m c (bv p) (by rfl) HP.out.2.2 (by rw [bv_length]; exact HP.out.1) (bv_one _) (by simp only [maxLen]; omega) (by omega) (Nat.le_refl _) ?_; intro v2 w2 O2 F2 K2 _; have HO2 := Lib.hid O2; have HF2 := Lib.hid F2; clear O2 F2 K2))
  have O2 := HO2.out
  simp only [Nat.zero_add, List.nil_append] at O2
  obtain ⟨a6, c6, hv6, q1, q2, q3⟩ := O2.form
  subst hv6
  refine (weights_calls w2 a6 m c6 p HP.out.1 (by omega) HP.out.2.1 q3).mono ?_
  rintro e w3 ⟨rfl, F3⟩
  rw [HE.out.2]
  have HO3 := Lib.hid (O2.fr0 F3)
  have HF3 := Lib.hid (HF2.out.trans0 F3)
  clear O2 HO2 HF2 F3 q3
  have hz3 := HF3.out.size
  go_wp2_with (first
    | (have z5 := HB5.out; clear z5; refine wpList_allocZ rfl 51 rfl _ two_zero ?_; intro w6 B6 F6 S6; have HB6 := Lib.hid B6; have HF6 := Lib.hid F6; clear B6 F6 S6)
    | (refine wpList_allocZ rfl 51 rfl _ two_zero ?_; intro w4 B4 F4 S4; have HB4 := Lib.hid B4; have HF4 := Lib.hid F4; clear B4 F4 S4)
    | (refine wpList_storeB rfl 51 _ _ rfl w3.heap.size 0 [.int .i64 A, .int .i64 B] (by rfl) (by rfl) 51 _ HB4.out (by simp [wcells]) two_size (by simp [Value.oneCell']) ?_; intro w5 B5 F5 S5; have HB5 := Lib.hid B5; have HF5 := Lib.hid F5; clear B5 F5 S5)
)
  have hg7 : w.heap.size ≤ w3.heap.size := hz3
  have hz5 := (HF4.out.ext.trans1 HF5.out).size
  generalize hG7 : w3.heap.size = g7 at *
  generalize hG8 : w5.heap.size = g8 at *
  have hne : g7 < g8 := by
    have := HB5.out.lt
    omega
  have hob : ∀ k ∈ ob (.slice a6 m c6), k < g7 := fun k hk => by have := (HO3.out.lt hk).2; omega
  have F45 : Fr [g7] w3 w6 := (HF4.out.ext.trans1 HF5.out).trans0 HF6.out
  have R0 : MdS 5 51 w (.slice a6 m c6) m p g7 g8 A B (y0 * 256 + y1) (y2 * 256 + y3) (.int .i64 0) (.int .i64 (-1)) (.int .i64 0) w6 :=
    ⟨HO3.out.fr F45 (fun k hk hm => by have := hob k hk; simp at hm; omega), HF3.out.trans F45 (fun k hk hlt => by simp at hk; omega), HB5.out.fr HF6.out (by simp), .inl ⟨rfl, rfl, rfl, HB6.out⟩⟩
  have HR0 := Lib.hid R0
  have HG := Lib.hid (And.intro hg7 (And.intro hne hob))
  clear R0 F45 HB6 HF6 HB5 HF5 HB4 HF4 HF3 HO3 hG7 hG8 hz5 hz3 hob hg7
  generalize hT0 : y0 * 256 + y1 = T0 at *
  generalize hT1 : y2 * 256 + y3 = T1 at *
  have o0 := or_told y0 y1 x0.1 x0.2 x1.1 x1.2
  have o1 := or_told y2 y3 x2.1 x2.2 x3.1 x3.2
  rw [hT0] at o0
  rw [hT1] at o1
  have t0 : 0 ≤ T0 ∧ T0 < 65536 := by omega
  have t1 : 0 ≤ T1 ∧ T1 < 65536 := by omega
  obtain ⟨t00, t01⟩ := t0
  obtain ⟨t10, t11⟩ := t1
  obtain ⟨x00, x01⟩ := x0
  obtain ⟨x10, x11⟩ := x1
  obtain ⟨x20, x21⟩ := x2
  obtain ⟨x30, x31⟩ := x3
  clear hT0 hT1
  have HO0 := Lib.hid o0
  have HO1 := Lib.hid o1
  clear o0 o1
  go_loopw [9, 10, 28] (fun wrong at_ j wr => MdS 5 51 w (.slice a6 m c6) m p g7 g8 A B T0 T1 wrong at_ j wr) (fun _ _ j _ => 2 - (intOf j).toNat)
  case atStart => exact HR0.out
  case round =>
    obtain ⟨hO, hF, hB7, hj⟩ := hrel
    have HO := Lib.hid hO
    have HF := Lib.hid hF
    have HB7 := Lib.hid hB7
    have e70 : wr.cell? ⟨g7, 0, none⟩ = some (.int .i64 A) := hB7.cellAt rfl
    have e71 : wr.cell? ⟨g7, 1, none⟩ = some (.int .i64 B) := hB7.cellAt rfl
    clear hO hF hB7
    rcases hj with ⟨rfl, rfl, rfl, hB8⟩ | ⟨rfl, hB8, hj⟩ | ⟨rfl, hB8, hj⟩
    · have d0 : wr.cell? ⟨b, o + m, none⟩ = some (.int .u8 y0) := (World.cell?_of_block (HF.out.block b hbw (by simp))).trans HD.out.1
      have d1 : wr.cell? ⟨b, o + (m + 1), none⟩ = some (.int .u8 y1) := (World.cell?_of_block (HF.out.block b hbw (by simp))).trans HD.out.2.1
      have HB8 := Lib.hid hB8
      clear hB8
      go_wp2_with fail
      go_quiet (fail)
      rw [HO0.out]
      have FN := Lib.hid ((Fr.refl [] wr).drewN nq)
      generalize wr.drewN nq = wn at *
      have e70 : wn.cell? ⟨g7, 0, none⟩ = some (.int .i64 A) := (HB7.out.fr FN.out (by simp)).cellAt rfl
      have e71 : wn.cell? ⟨g7, 1, none⟩ = some (.int .i64 B) := (HB7.out.fr FN.out (by simp)).cellAt rfl
      by_cases hT : T0 = A
      · have hTb : (T0 == A) = true := by simpa using hT
        have HT := Lib.hid hT
        clear hT
        go_wp2_with (first
          | (refine wpList_store1 rfl 3 _ _ rfl g8 0 (.int .i64 ((T0 % 65521 - A + 65521) % 65521)) (by rfl) (by rfl) rfl 51 _ (HB8.out.fr FN.out (by simp)) (by simp) (by kernel_rfl) rfl ?_; intro w8 B8 F8 S8; have e80 : w8.cell? ⟨g7, 0, none⟩ = some (.int .i64 A) := ((HB7.out.fr FN.out (by simp)).fr F8 (by simp; omega)).cellAt rfl; have HB8' := Lib.hid B8; have HF8 := Lib.hid F8; clear B8 F8 S8))
        have HOn := Lib.hid ((HO.out.fr FN.out (by simp)).fr HF8.out (fun k hk hm => by have := HG.out.2.2 k hk; simp at hm; omega))
        have HFn := Lib.hid ((HF.out.trans0 FN.out).trans HF8.out (fun x hx hlt => by have := HG.out.1; simp at hx; omega))
        have HBn := Lib.hid ((HB7.out.fr FN.out (by simp)).fr HF8.out (by simp; omega))
        go_roundw
        case rel => exact ⟨HOn.out, HFn.out, HBn.out, .inr (.inl ⟨rfl, HB8'.out, .inl ⟨HT.out, rfl, rfl⟩⟩)⟩
        case measure => simp [intOf]
      · have hTb : (T0 == A) = false := by simpa using hT
        have HT := Lib.hid hT
        clear hT
        go_wp2_with (first
          | (refine wpList_store1 rfl 3 _ _ rfl g8 0 (.int .i64 ((T0 % 65521 - A + 65521) % 65521)) (by rfl) (by rfl) rfl 51 _ (HB8.out.fr FN.out (by simp)) (by simp) (by kernel_rfl) rfl ?_; intro w8 B8 F8 S8; have e80 : w8.cell? ⟨g7, 0, none⟩ = some (.int .i64 A) := ((HB7.out.fr FN.out (by simp)).fr F8 (by simp; omega)).cellAt rfl; have HB8' := Lib.hid B8; have HF8 := Lib.hid F8; clear B8 F8 S8))
        have HOn := Lib.hid ((HO.out.fr FN.out (by simp)).fr HF8.out (fun k hk hm => by have := HG.out.2.2 k hk; simp at hm; omega))
        have HFn := Lib.hid ((HF.out.trans0 FN.out).trans HF8.out (fun x hx hlt => by have := HG.out.1; simp at hx; omega))
        have HBn := Lib.hid ((HB7.out.fr FN.out (by simp)).fr HF8.out (by simp; omega))
        go_roundw
        case rel => exact ⟨HOn.out, HFn.out, HBn.out, .inr (.inl ⟨rfl, HB8'.out, .inr ⟨HT.out, rfl, rfl⟩⟩)⟩
        case measure => simp [intOf]
    · have d0 : wr.cell? ⟨b, o + (m + 2), none⟩ = some (.int .u8 y2) := (World.cell?_of_block (HF.out.block b hbw (by simp))).trans HD.out.2.2.1
      have d1 : wr.cell? ⟨b, o + (m + 3), none⟩ = some (.int .u8 y3) := (World.cell?_of_block (HF.out.block b hbw (by simp))).trans HD.out.2.2.2
      have HB8 := Lib.hid hB8
      clear hB8
      go_wp2_with fail
      go_quiet (fail)
      rw [HO1.out]
      have FN := Lib.hid ((Fr.refl [] wr).drewN nq)
      generalize wr.drewN nq = wn at *
      have e70 : wn.cell? ⟨g7, 0, none⟩ = some (.int .i64 A) := (HB7.out.fr FN.out (by simp)).cellAt rfl
      have e71 : wn.cell? ⟨g7, 1, none⟩ = some (.int .i64 B) := (HB7.out.fr FN.out (by simp)).cellAt rfl
      by_cases hT : T1 = B
      · have hTb : (T1 == B) = true := by simpa using hT
        have HT := Lib.hid hT
        clear hT
        rcases hj with ⟨hT0, rfl, rfl⟩ | ⟨hT0, rfl, rfl⟩
        · have HT0 := Lib.hid hT0
          clear hT0
          go_wp2_with (first
            | (refine wpList_store1 rfl 3 _ _ rfl g8 1 (.int .i64 ((T1 % 65521 - B + 65521) % 65521)) (by rfl) (by rfl) rfl 51 _ (HB8.out.fr FN.out (by simp)) (by simp) (by kernel_rfl) rfl ?_; intro w8 B8 F8 S8; have e80 : w8.cell? ⟨g7, 1, none⟩ = some (.int .i64 B) := ((HB7.out.fr FN.out (by simp)).fr F8 (by simp; omega)).cellAt rfl; have HB8' := Lib.hid B8; have HF8 := Lib.hid F8; clear B8 F8 S8))
          have HOn := Lib.hid ((HO.out.fr FN.out (by simp)).fr HF8.out (fun k hk hm => by have := HG.out.2.2 k hk; simp at hm; omega))
          have HFn := Lib.hid ((HF.out.trans0 FN.out).trans HF8.out (fun x hx hlt => by have := HG.out.1; simp at hx; omega))
          have HBn := Lib.hid ((HB7.out.fr FN.out (by simp)).fr HF8.out (by simp; omega))
          go_roundw
          case rel => exact ⟨HOn.out, HFn.out, HBn.out, .inr (.inr ⟨rfl, HB8'.out, .inl ⟨HT0.out, HT.out, rfl, rfl⟩⟩)⟩
          case measure => simp [intOf]
        · have HT0 := Lib.hid hT0
          clear hT0
          go_wp2_with (first
            | (refine wpList_store1 rfl 3 _ _ rfl g8 1 (.int .i64 ((T1 % 65521 - B + 65521) % 65521)) (by rfl) (by rfl) rfl 51 _ (HB8.out.fr FN.out (by simp)) (by simp) (by kernel_rfl) rfl ?_; intro w8 B8 F8 S8; have e80 : w8.cell? ⟨g7, 1, none⟩ = some (.int .i64 B) := ((HB7.out.fr FN.out (by simp)).fr F8 (by simp; omega)).cellAt rfl; have HB8' := Lib.hid B8; have HF8 := Lib.hid F8; clear B8 F8 S8))
          have HOn := Lib.hid ((HO.out.fr FN.out (by simp)).fr HF8.out (fun k hk hm => by have := HG.out.2.2 k hk; simp at hm; omega))
          have HFn := Lib.hid ((HF.out.trans0 FN.out).trans HF8.out (fun x hx hlt => by have := HG.out.1; simp at hx; omega))
          have HBn := Lib.hid ((HB7.out.fr FN.out (by simp)).fr HF8.out (by simp; omega))
          go_roundw
          case rel => exact ⟨HOn.out, HFn.out, HBn.out, .inr (.inr ⟨rfl, HB8'.out, .inr (.inl ⟨HT0.out, HT.out, rfl, rfl⟩)⟩)⟩
          case measure => simp [intOf]
      · have hTb : (T1 == B) = false := by simpa using hT
        have HT := Lib.hid hT
        clear hT
        rcases hj with ⟨hT0, rfl, rfl⟩ | ⟨hT0, rfl, rfl⟩
        · have HT0 := Lib.hid hT0
          clear hT0
          go_wp2_with (first
            | (refine wpList_store1 rfl 3 _ _ rfl g8 1 (.int .i64 ((T1 % 65521 - B + 65521) % 65521)) (by rfl) (by rfl) rfl 51 _ (HB8.out.fr FN.out (by simp)) (by simp) (by kernel_rfl) rfl ?_; intro w8 B8 F8 S8; have e80 : w8.cell? ⟨g7, 1, none⟩ = some (.int .i64 B) := ((HB7.out.fr FN.out (by simp)).fr F8 (by simp; omega)).cellAt rfl; have HB8' := Lib.hid B8; have HF8 := Lib.hid F8; clear B8 F8 S8))
          have HOn := Lib.hid ((HO.out.fr FN.out (by simp)).fr HF8.out (fun k hk hm => by have := HG.out.2.2 k hk; simp at hm; omega))
          have HFn := Lib.hid ((HF.out.trans0 FN.out).trans HF8.out (fun x hx hlt => by have := HG.out.1; simp at hx; omega))
          have HBn := Lib.hid ((HB7.out.fr FN.out (by simp)).fr HF8.out (by simp; omega))
          go_roundw
          case rel => exact ⟨HOn.out, HFn.out, HBn.out, .inr (.inr ⟨rfl, HB8'.out, .inr (.inr (.inl ⟨HT0.out, HT.out, rfl, rfl⟩))⟩)⟩
          case measure => simp [intOf]
        · have HT0 := Lib.hid hT0
          clear hT0
          go_wp2_with (first
            | (refine wpList_store1 rfl 3 _ _ rfl g8 1 (.int .i64 ((T1 % 65521 - B + 65521) % 65521)) (by rfl) (by rfl) rfl 51 _ (HB8.out.fr FN.out (by simp)) (by simp) (by kernel_rfl) rfl ?_; intro w8 B8 F8 S8; have e80 : w8.cell? ⟨g7, 1, none⟩ = some (.int .i64 B) := ((HB7.out.fr FN.out (by simp)).fr F8 (by simp; omega)).cellAt rfl; have HB8' := Lib.hid B8; have HF8 := Lib.hid F8; clear B8 F8 S8))
          have HOn := Lib.hid ((HO.out.fr FN.out (by simp)).fr HF8.out (fun k hk hm => by have := HG.out.2.2 k hk; simp at hm; omega))
          have HFn := Lib.hid ((HF.out.trans0 FN.out).trans HF8.out (fun x hx hlt => by have := HG.out.1; simp at hx; omega))
          have HBn := Lib.hid ((HB7.out.fr FN.out (by simp)).fr HF8.out (by simp; omega))
          go_roundw
          case rel => exact ⟨HOn.out, HFn.out, HBn.out, .inr (.inr ⟨rfl, HB8'.out, .inr (.inr (.inr ⟨HT0.out, HT.out, rfl, rfl⟩))⟩)⟩
          case measure => simp [intOf]
    · have hh : (T0 ≠ A ∧ T1 ≠ B) ∨ ¬ (T0 ≠ A ∧ T1 ≠ B) := Classical.em _
      have HB8 := Lib.hid hB8
      clear hB8
      rcases hj with ⟨hT0, hT1, rfl, rfl⟩ | ⟨hT0, hT1, rfl, rfl⟩ | ⟨hT0, hT1, rfl, rfl⟩ | ⟨hT0, hT1, rfl, rfl⟩
      · have hR : R = (p, -1, 0) := by rw [HE.out.1, if_pos hT0, if_pos hT1]
        have HR := Lib.hid hR
        clear hR hT0 hT1 hh
        go_wp2_with fail
        go_ret3
        rw [HR.out]
        exact ⟨_, rfl, by rw [HP.out.1]; exact HO.out, HF.out⟩
      · have hR : R = (p, (m : Int), 0) := by rw [HE.out.1, if_neg hT0, if_pos hT1]
        have HR := Lib.hid hR
        clear hR hT0 hT1 hh
        go_wp2_with fail
        go_ret3
        rw [HR.out]
        exact ⟨_, rfl, by rw [HP.out.1]; exact HO.out, HF.out⟩
      · have hR : R = (p, (m : Int) + 2, 0) := by rw [HE.out.1, if_pos hT0, if_neg hT1]
        have HR := Lib.hid hR
        clear hR hT0 hT1 hh
        go_wp2_with fail
        go_ret3
        rw [HR.out]
        exact ⟨_, rfl, by rw [HP.out.1]; exact HO.out, HF.out⟩
      · have hR : R = mendGo p ((T0 - A) % 65521) ((T1 - B) % 65521) 0 p := by rw [HE.out.1, if_neg hT0, if_neg hT1]
        have HR := Lib.hid hR
        have e80 : wr.cell? ⟨g8, 0, none⟩ = some (.int .i64 ((T0 % 65521 - A + 65521) % 65521)) := HB8.out.cellAt rfl
        have e81 : wr.cell? ⟨g8, 1, none⟩ = some (.int .i64 ((T1 % 65521 - B + 65521) % 65521)) := HB8.out.cellAt rfl
        clear hR hT0 hT1 hh
        go_wp2_with fail
        refine (mend0_calls wr w.heap.size (.slice a6 m c6) m p HP.out.1 (by omega) HP.out.2.1 HO.out _ _ (by omega) (by omega)).mono ?_
        rintro e w' ⟨v, rfl, O9, F9⟩
        rw [← HR.out] at O9 ⊢
        have HO9 := Lib.hid O9
        have HF9 := Lib.hid F9
        clear O9 F9
        go_wp2_with fail
        go_ret3
        exact ⟨_, rfl, HO9.out, HF.out.trans HF9.out (fun x hx hlt => by have := (HO.out.lt hx).1; omega)⟩
end Go.Fur
