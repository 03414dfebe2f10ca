/- strip.Lay: contract. -/
import Derived.Test.YtmdfipahbhbgjaaStrip1
namespace Go.Fur
open Go Go.RowKit Go.Proofs
set_option linter.unusedVariables false
set_option linter.unusedSimpArgs false
theorem info_byte : (Try.prog.info? 5).map (fun i => (i.zero, i.size, i.bytes)) = some (some (.int .u8 0), 1, 1) := by kernel_rfl
theorem info_byteZ : (Try.prog.info? 5).map (fun i => (i.zero.map (·.cells), i.size, i.bytes)) = some (some [Value.int .u8 0].toArray, 1, 1) := by kernel_rfl
/-- The digits of y to the base 256, the first m of k. -/
def dg (y k m : Nat) : List Int := (List.range m).map fun i => ((y / 256 ^ (k - 1 - i) % 256 : Nat) : Int)
theorem dg_length (y k m : Nat) : (dg y k m).length = m := by simp [dg]
theorem dg_succ (y k m : Nat) : dg y k (m + 1) = dg y k m ++ [((y / 256 ^ (k - 1 - m) % 256 : Nat) : Int)] := by simp [dg, List.range_succ]
/-- The bytes of a number. -/
def layN (x : Nat) : List Int := if kl x = 0 then [(x : Int)] else ((191 + kl x : Nat) : Int) :: dg (x - sh (kl x - 1)) (kl x) (kl x)
theorem layN_length (x : Nat) : (layN x).length = 1 + kl x := by
  unfold layN
  split
  · rename_i h
    simp [h]
  · simp [dg_length]
    omega
def LayR (w : World) (n : Nat) (l : List Int) (y k : Nat) (v i : Value) (wr : World) : Prop :=
  ∃ m : Nat, m ≤ k ∧ i = .int .i64 m ∧ Own wr w.heap.size 5 1 v (n + 1 + m) (bv (l ++ ((191 + k : Nat) : Int) :: dg y k m)) ∧ Fr [] w wr
set_option maxRecDepth 100000 in
set_option maxHeartbeats 1000000 in
theorem lay_calls (w : World) (a : Option Addr) (n c : Nat) (l : List Int) (hl : l.length = n) (hn : n + 9 ≤ 140737488355328) (ra : Rd w a (bv l)) (x : Nat) (hx : x < 18446744073709551616) :
    Calls Try.prog 75 #[.slice a n c, .int .u64 x] w fun e w' => ∃ v, e = .returned v ∧ Own w' w.heap.size 5 1 v (n + (layN x).length) (bv (l ++ layN x)) ∧ Fr [] w w' := by
  subst hl
  have hb9 : (l.length : Int) + 9 ≤ 140737488355328 := by omega
  have hw9 : IntKind.i64.wrap ((l.length : Int) + 9) = ((l.length + 9 : Nat) : Int) := by rw [IntKind.wrap_i64]; omega
  have HA := Lib.hid ra
  obtain ⟨k, hk8, hk, hlo, hhi⟩ := kl_spec x
  have hly : layN x = if k = 0 then [(x : Int)] else ((191 + k : Nat) : Int) :: dg (x - sh (k - 1)) k k := by unfold layN; rw [hk]
  generalize layN x = L at *
  have HK := Lib.hid (And.intro hk (And.intro hlo (And.intro hhi hly)))
  clear ra hk hlo hhi hly
  go_enter Try.func75, Try.ntmps75
  go_wp2_with (first
    | (refine wpList_makeZ rfl 37 _ _ rfl 5 [.int .u8 0] 1 1 Try.underlying37 info_byteZ (by omega) rfl 0 (l.length + 9) (by rfl) (by rfl) (by omega) (by omega) (by simp only [maxLen]; omega) ?_; intro w1 B1 F1 S1; have O1 := Own.of_blk (base := w.heap.size) (size := 1) (n := 0) (cap := l.length + 9) (Nat.le_refl _) B1 (by omega) (by simp only [maxLen]; omega) (by rw [flat_length id 1 _ (fun x hx => by rw [List.eq_of_mem_replicate hx]; rfl)]; simp); have HO1 := Lib.hid O1; have HF1 := Lib.hid F1; have HS1 := Lib.hid S1; clear B1 F1 S1 O1)
    | (refine wpList_appB rfl _ _ 37 37 rfl _ 5 5 .u8 1 Try.underlying37 Try.underlying37 info_byte _ 0 _ (by rfl) HO1.out a l.length c (bv l) (by rfl) (HA.out.fr0 HF1.out) (by simp) (bv_one _) (by simp only [maxLen]; omega) (by omega) (by have := HS1.out; omega) ?_; intro v2 w2 O2 F2 K2 _; have HO2 := Lib.hid O2; have HF2 := Lib.hid (HF1.out.trans F2 (fun x hx hlt => by simp at hx; omega)); clear O2 F2 K2))
  refine (size_calls w2 x).mono ?_
  rintro e w' ⟨rfl, rfl⟩
  have O2 := HO2.out
  simp only [Nat.zero_mul, List.take_zero, List.nil_append, Nat.zero_add] at O2
  have HO2 := Lib.hid O2
  clear O2
  obtain ⟨hk, hlo, hhi, hly⟩ := HK.out
  rw [hk, show ((1 + k : Nat) : Int) = (k : Int) + 1 by omega]
  have hz2 := HF2.out.size
  by_cases h0 : k = 0
  · subst h0
    have h192 := hhi (by omega)
    rw [sh_vals.1] at h192
    have hxu : IntKind.u8.wrap (x : Int) = (x : Int) := by rw [IntKind.wrap_u8]; omega
    rw [if_pos rfl] at hly
    subst hly
    clear hk hlo hhi HK
    go_wp2_with (first
      | (refine wpList_buildSlice1 rfl 37 5 _ rfl [.int .u8 0] 1 1 Try.underlying37 info_byteZ (by simp) (by omega) (by omega) _ [.int .u8 x] (by rfl) (by rfl) (by simp) ?_; intro w3 B3 F3 S3; have HB3 := Lib.hid B3; have HF3 := Lib.hid F3; have HS3 := Lib.hid S3; clear B3 F3 S3)
      | (refine wpList_appB rfl _ _ 37 37 rfl _ 5 5 .u8 1 Try.underlying37 Try.underlying37 info_byte v2 l.length (bv l) (by rfl) (HO2.out.fr0 HF3.out) _ 1 1 [.int .u8 x] (by rfl) (by simpa using HB3.out.rd0 1) (by simp) (by simp [Value.oneCell']) (by simp only [maxLen]; omega) (by omega) (by have := HS3.out; omega) ?_; intro v4 w4 O4 F4 K4 _; have HO4 := Lib.hid O4; have HF4 := Lib.hid F4; clear O4 F4 K4))
    go_ret
    refine ⟨v4, rfl, ?_, (HF2.out.trans0 HF3.out).trans HF4.out (fun y hy hlt => by have := (HO2.out.lt hy).1; omega)⟩
    have e : bv l ++ [Value.int .u8 x] = bv (l ++ [(x : Int)]) := by simp [bv_append, bv]
    rw [← e]
    exact HO4.out
  · have h0b : ((k : Int) == 0) = false := by simpa using h0
    rw [if_neg h0] at hly
    have hlo := hlo (by omega)
    have hsb : sh (k - 1) ≤ x := hlo
    have hwk5 : IntKind.u8.wrap (192 + (k : Int) - 1) = 191 + (k : Int) := by rw [IntKind.wrap_u8]; omega
    have hsub : IntKind.u64.wrap ((x : Int) - (sh (k - 1) : Int)) = ((x - sh (k - 1) : Nat) : Int) := by rw [IntKind.wrap_u64]; omega
    have HL := Lib.hid hly
    have HSB := Lib.hid hsb
    have H0 := Lib.hid h0
    clear hly hk hhi HK hlo hsb h0 hb9 hw9
    generalize hY : x - sh (k - 1) = y at *
    generalize hS : sh (k - 1) = s at *
    go_wp2_with (first
      | (refine wpList_buildSlice1 rfl 37 5 _ rfl [.int .u8 0] 1 1 Try.underlying37 info_byteZ (by simp) (by omega) (by omega) _ [.int .u8 (191 + (k : Int))] (by rfl) (by rfl) (by simp) ?_; intro w3 B3 F3 S3; have HB3 := Lib.hid B3; have HF3 := Lib.hid F3; have HS3 := Lib.hid S3; clear B3 F3 S3)
      | (refine wpList_appB rfl _ _ 37 37 rfl _ 5 5 .u8 1 Try.underlying37 Try.underlying37 info_byte v2 l.length (bv l) (by rfl) (HO2.out.fr0 HF3.out) _ 1 1 [.int .u8 (191 + (k : Int))] (by rfl) (by simpa using HB3.out.rd0 1) (by simp) (by simp [Value.oneCell']) (by simp only [maxLen]; omega) (by omega) (by have := HS3.out; omega) ?_; intro v4 w4 O4 F4 K4 _; have HO4 := Lib.hid O4; have HF4 := Lib.hid F4; clear O4 F4 K4))
    refine (shelf_calls w4 k (by have := H0.out; omega) hk8).mono ?_
    rintro e w' ⟨rfl, rfl⟩
    rw [hS]
    go_wp2_with fail
    have R0 : LayR w l.length l y k v4 (.int .i64 (0 : Nat)) w4 := by
      refine ⟨0, Nat.zero_le _, rfl, ?_, (HF2.out.trans0 HF3.out).trans HF4.out (fun y hy hlt => by have := (HO2.out.lt hy).1; omega)⟩
      have e : bv l ++ [Value.int .u8 (191 + (k : Int))] = bv (l ++ ((191 + k : Nat) : Int) :: dg y k 0) := by simp [bv_append, bv, dg]
      rw [← e]
      exact HO4.out
    have HR0 := Lib.hid R0
    clear R0 HO4 HF4 HO2 HF3 HS3 HB3
    go_loopw [5, 36] (fun v i wr => LayR w l.length l y k v i wr) (fun _ i _ => k - (intOf i).toNat)
    case atStart => exact HR0.out
    case round =>
      obtain ⟨m, hm, rfl, hO, hF⟩ := hrel
      by_cases hlt : m < k
      · have hmb : (m : Int) < (k : Int) := by omega
        have HO := Lib.hid hO
        have HF := Lib.hid hF
        clear hO hF
        have hz := HF.out.size
        go_wp2_with (first
          | (refine wpList_buildSlice1 rfl 37 5 _ rfl [.int .u8 0] 1 1 Try.underlying37 info_byteZ (by simp) (by omega) (by omega) _ [.int .u8 ((y : Int) / 2 ^ (8 * (k - 1 - m)) % 256)] (by rfl) (by rfl) (by simp) ?_; intro w5 B5 F5 S5; have HB5 := Lib.hid B5; have HF5 := Lib.hid F5; have HS5 := Lib.hid S5; clear B5 F5 S5)
          | (refine wpList_appB rfl _ _ 37 37 rfl _ 5 5 .u8 1 Try.underlying37 Try.underlying37 info_byte _ (l.length + 1 + m) (bv (l ++ ((191 + k : Nat) : Int) :: dg y k m)) (by rfl) (HO.out.fr0 HF5.out) _ 1 1 [.int .u8 ((y : Int) / 2 ^ (8 * (k - 1 - m)) % 256)] (by rfl) (by simpa using HB5.out.rd0 1) (by simp) (by simp [Value.oneCell']) (by simp only [maxLen]; omega) (by omega) (by have := HS5.out; omega) ?_; intro v6 w6 O6 F6 K6 _; have HO6 := Lib.hid O6; have HF6 := Lib.hid F6; clear O6 F6 K6))
        have R6 : LayR w l.length l y k v6 (.int .i64 (m + 1 : Nat)) w6 := by
          refine ⟨m + 1, by omega, rfl, ?_, (HF.out.trans0 HF5.out).trans HF6.out (fun z hz hlt => by have := (HO.out.lt hz).1; omega)⟩
          have e1 : (y : Int) / 2 ^ (8 * (k - 1 - m)) % 256 = ((y / 256 ^ (k - 1 - m) % 256 : Nat) : Int) := by
            have : (256 : Nat) = 2 ^ 8 := rfl
            rw [show (256 : Nat) ^ (k - 1 - m) = 2 ^ (8 * (k - 1 - m)) by rw [this, ← Nat.pow_mul]]
            simp
          have e : bv (l ++ ((191 + k : Nat) : Int) :: dg y k m) ++ [Value.int .u8 ((y : Int) / 2 ^ (8 * (k - 1 - m)) % 256)] = bv (l ++ ((191 + k : Nat) : Int) :: dg y k (m + 1)) := by
            rw [e1, dg_succ]
            simp [bv]
          rw [← e]
          exact HO6.out
        have HR6 := Lib.hid R6
        clear R6
        go_wp2_with fail
        go_roundw
        case rel => exact HR6.out
        case measure => simp [intOf]; omega
      · have hmk : m = k := by omega
        subst hmk
        have hmb : ¬ (m : Int) < (m : Int) := by omega
        have HO := Lib.hid hO
        clear hO
        go_wp2_with fail
        go_ret
        refine ⟨_, rfl, ?_, hF⟩
        have e := HL.out
        rw [e]
        have := HO.out
        rwa [show l.length + (((191 + m : Nat) : Int) :: dg y m m).length = l.length + 1 + m by simp [dg_length]; omega]
end Go.Fur
