/- The document's numbers as bytes: Num, Whole, count: contracts. -/
import Derived.Test.YtmdfipahbhbgjaaCmdW
namespace Go.Fur
open Go Go.RowKit Go.Proofs
set_option linter.unusedVariables false
set_option linter.unusedSimpArgs false
/-- Bytes of one's own are answered. -/
def ByE (base : Nat) (l : List Int) (w : World) (e : Ending) (w' : World) : Prop := ∃ v, e = .returned v ∧ Own w' base 5 1 v l.length (bv l) ∧ Fr [] w w'
def NumR (x : Nat) (w : World) (b s i : Value) (wr : World) : Prop := ∃ k : Nat, 1 ≤ k ∧ k ≤ 8 ∧ sh (k - 1) ≤ x ∧ b = .int .u64 (sh (k - 1)) ∧ s = .int .u64 (256 ^ k % 18446744073709551616 : Nat) ∧ i = .int .i64 k ∧ w = wr
def NumR2 (w : World) (y k : Nat) (v i : Value) (wr : World) : Prop := ∃ j : Nat, j ≤ k ∧ i = .int .i64 ((j : Int) - 1) ∧ Own wr w.heap.size 5 1 v (1 + (k - j)) (bv (((191 + k : Nat) : Int) :: dg y k (k - j))) ∧ Fr [] w wr
theorem sh_step (k : Nat) (h1 : 1 ≤ k) (h8 : k < 8) : sh k = sh (k - 1) + 256 ^ k ∧ 256 ^ k % 18446744073709551616 = 256 ^ k ∧ 256 ^ k ≤ 72057594037927936 ∧ sh k ≤ 72340172838076864 ∧ 256 ^ (k + 1) = 256 ^ k * 256 := by
  have hk : k = 1 ∨ k = 2 ∨ k = 3 ∨ k = 4 ∨ k = 5 ∨ k = 6 ∨ k = 7 := by omega
  rcases hk with rfl | rfl | rfl | rfl | rfl | rfl | rfl <;> decide
set_option maxRecDepth 100000 in
set_option maxHeartbeats 1000000 in
theorem num_calls {w : World} {base : Nat} (hbase : base ≤ w.heap.size) (x : Nat) (hx : x < 18446744073709551616) : Calls Try.prog 38 #[.int .u64 x] w (ByE base (layN x) w) := by
  by_cases h0 : x < 192
  · have hb : (x : Int) < 192 := by omega
    have e : kl x = 0 := kl_is x 0 (by omega) (by omega) (fun _ => by rw [sh_vals.1]; exact h0)
    have hl : layN x = [(x : Int)] := by unfold layN; rw [if_pos e]
    have hw : IntKind.u8.wrap (x : Int) = (x : Int) := by rw [IntKind.wrap_u8]; omega
    rw [hl]
    go_enter Try.func38, Try.ntmps38
    go_wp2_with (refine wpList_buildSlice1 rfl 37 5 _ rfl [.int .u8 0] 1 1 Try.underlying37 info_byteZ (by simp) (by omega) (by omega) _ [.int .u8 x] (by rfl) (by rfl) (by simp) ?_; intro w3 B3 F3 S3; have HB3 := Lib.hid B3; have HF3 := Lib.hid F3; have HS3 := Lib.hid S3; clear B3 F3 S3)
    go_ret
    refine ⟨_, rfl, ?_, HF3.out⟩
    have := Own.of_blk (base := base) (size := 1) (n := 1) (cap := 1) hbase HB3.out (Nat.le_refl _) (by simp only [maxLen]; omega) (by simp)
    simpa [bv] using this
  · have hb : ¬ (x : Int) < 192 := by omega
    go_enter Try.func38, Try.ntmps38
    go_wp2_with fail
    go_loopw [3, 4, 5] (fun b s i wr => NumR x w b s i wr) (fun _ _ i _ => 9 - (intOf i).toNat)
    case atStart => exact ⟨1, Nat.le_refl _, by omega, by rw [sh_vals.1]; omega, by rw [sh_vals.1]; rfl, rfl, rfl, rfl⟩
    case round =>
      obtain ⟨k, hk1, hk8, hlo, rfl, rfl, rfl, rfl⟩ := hrel
      by_cases hlt : k < 8
      · have hkb : (k : Int) < 8 := by omega
        obtain ⟨s1, s2, s3, s4, s5⟩ := sh_step k hk1 hlt
        rw [s2]
        have hsub : IntKind.u64.wrap ((x : Int) - (sh (k - 1) : Int)) = ((x - sh (k - 1) : Nat) : Int) := by rw [IntKind.wrap_u64]; omega
        by_cases hx : sh k ≤ x
        · have hxb : ((256 ^ k : Nat) : Int) ≤ ((x - sh (k - 1) : Nat) : Int) := by omega
          have HR := Lib.hid (show NumR x w (.int .u64 (sh (k + 1 - 1))) (.int .u64 (256 ^ (k + 1) % 18446744073709551616 : Nat)) (.int .i64 (k + 1 : Nat)) w from ⟨k + 1, by omega, by omega, by simpa using hx, rfl, rfl, rfl, rfl⟩)
          have ha : IntKind.u64.wrap ((sh (k - 1) : Int) + ((256 ^ k : Nat) : Int)) = (sh (k + 1 - 1) : Int) := by rw [IntKind.wrap_u64, Nat.add_sub_cancel]; omega
          have hm : IntKind.u64.wrap (((256 ^ k : Nat) : Int) * 256) = ((256 ^ (k + 1) % 18446744073709551616 : Nat) : Int) := by rw [IntKind.wrap_u64, s5]; omega
          generalize 256 ^ (k + 1) % 18446744073709551616 = z1 at *
          generalize 256 ^ k = z at *
          generalize x - sh (k - 1) = y at *
          generalize sh (k + 1 - 1) = t1 at *
          generalize sh (k - 1) = t at *
          clear s1 s2 s3 s4 s5 hx hlo
          go_wp2_with fail
          go_roundw
          case rel => exact HR.out
          case measure => simp [intOf] <;> omega
        · have hxb : ¬ ((256 ^ k : Nat) : Int) ≤ ((x - sh (k - 1) : Nat) : Int) := by omega
          have hkl : kl x = k := kl_is x k hk8 (fun _ => hlo) (fun _ => by omega)
          generalize 256 ^ k = z at *
          clear s1 s2 s3 s4 s5 hx
          have hlay : layN x = ((191 + k : Nat) : Int) :: dg (x - sh (k - 1)) k k := by unfold layN; rw [hkl, if_neg (by omega)]
          have hw8 : IntKind.u8.wrap ((k : Int) + 191) = 191 + (k : Int) := by rw [IntKind.wrap_u8]; omega
          have hw9 : IntKind.u8.wrap (191 + (k : Int)) = 191 + (k : Int) := by rw [IntKind.wrap_u8]; omega
          have hsub : IntKind.u64.wrap ((x : Int) - (sh (k - 1) : Int)) = ((x - sh (k - 1) : Nat) : Int) := by rw [IntKind.wrap_u64]; omega
          generalize hY : x - sh (k - 1) = y at *
          generalize hS : sh (k - 1) = s at *
          have HL := Lib.hid hlay
          clear hlay hkl hlo hY hS
          go_wp2_with (refine wpList_buildSlice1 rfl 37 5 _ rfl [.int .u8 0] 1 1 Try.underlying37 info_byteZ (by simp) (by omega) (by omega) _ [.int .u8 (191 + (k : Int))] (by rfl) (by rfl) (by simp) ?_; intro w3 B3 F3 S3; have HB3 := Lib.hid B3; have HF3 := Lib.hid F3; have HS3 := Lib.hid S3; clear B3 F3 S3)
          have R0 : NumR2 w y k (.slice (some ⟨w.heap.size, 0, none⟩) 1 1) (.int .i64 ((k : Int) - 1)) w3 := by
            refine ⟨k, Nat.le_refl _, rfl, ?_, HF3.out⟩
            have := Own.of_blk (base := w.heap.size) (size := 1) (n := 1) (cap := 1) (Nat.le_refl _) HB3.out (Nat.le_refl _) (by simp only [maxLen]; omega) (by simp)
            simpa [bv, dg] using this
          have HR0 := Lib.hid R0
          clear R0 HB3 HF3 HS3
          go_loopw [6, 7] (fun v i wr => NumR2 w y k v i wr) (fun _ i _ => (intOf i + 1).toNat)
          case atStart => exact HR0.out
          case round =>
            obtain ⟨j, hj, rfl, hO, hF⟩ := hrel
            rcases j with _ | j
            · have HO := Lib.hid hO
              have HF := Lib.hid hF
              clear hO hF
              go_wp2_with fail
              go_ret
              refine ⟨_, rfl, ?_, HF.out⟩
              rw [HL.out]
              have := HO.out.base hbase
              rw [Nat.sub_zero] at this
              rwa [show (((191 + k : Nat) : Int) :: dg y k k).length = 1 + k by simp [dg_length]; omega]
            · rw [show ((j + 1 : Nat) : Int) - 1 = (j : Int) by omega]
              have HO := Lib.hid hO
              have HF := Lib.hid hF
              clear hO hF
              have hz := HF.out.size
              have hj8 : (j : Int) < 8 := by omega
              go_wp2_with (first
                | (refine wpList_buildSlice1 rfl 37 5 _ rfl [.int .u8 0] 1 1 Try.underlying37 info_byteZ (by simp) (by omega) (by omega) _ [.int .u8 ((y : Int) / 2 ^ (8 * j) % 256)] (by rfl) (by rfl) (by simp) ?_; intro w5 B5 F5 S5; have HB5 := Lib.hid B5; have HF5 := Lib.hid F5; have HS5 := Lib.hid S5; clear B5 F5 S5)
                | (refine wpList_appB rfl _ _ 37 37 rfl _ 5 5 .u8 1 Try.underlying37 Try.underlying37 info_byte _ (1 + (k - (j + 1))) (bv (((191 + k : Nat) : Int) :: dg y k (k - (j + 1)))) (by rfl) (HO.out.fr0 HF5.out) _ 1 1 [.int .u8 ((y : Int) / 2 ^ (8 * j) % 256)] (by rfl) (by simpa using HB5.out.rd0 1) (by simp) (by simp [Value.oneCell']) (by simp only [maxLen]; omega) (by omega) (by have := HS5.out; omega) ?_; intro v6 w6 O6 F6 K6 _; have HO6 := Lib.hid O6; have HF6 := Lib.hid F6; clear O6 F6 K6))
              have R6 : NumR2 w y k v6 (.int .i64 ((j : Int) - 1)) w6 := by
                refine ⟨j, by omega, rfl, ?_, (HF.out.trans0 HF5.out).trans HF6.out (fun z hz hlt => by have := (HO.out.lt hz).1; omega)⟩
                have e1 : (y : Int) / 2 ^ (8 * j) % 256 = ((y / 256 ^ j % 256 : Nat) : Int) := by
                  have : (256 : Nat) = 2 ^ 8 := rfl
                  rw [show (256 : Nat) ^ j = 2 ^ (8 * j) by rw [this, ← Nat.pow_mul]]
                  simp
                have e2 : k - j = (k - (j + 1)) + 1 := by omega
                have e3 : k - 1 - (k - (j + 1)) = j := by omega
                have e : bv (((191 + k : Nat) : Int) :: dg y k (k - (j + 1))) ++ [Value.int .u8 ((y : Int) / 2 ^ (8 * j) % 256)] = bv (((191 + k : Nat) : Int) :: dg y k (k - j)) := by
                  rw [e1, e2, dg_succ, e3]
                  simp [bv]
                rw [← e, e2]
                exact HO6.out
              have HR6 := Lib.hid R6
              clear R6
              go_wp2_with fail
              go_roundw
              case rel => exact HR6.out
              case measure => simp [intOf] <;> omega
      · have hk : k = 8 := by omega
        have hkb : ¬ (k : Int) < 8 := by omega
        have hkl : kl x = k := kl_is x k hk8 (fun _ => hlo) (fun h => absurd h hlt)
        clear hk
        generalize 256 ^ k % 18446744073709551616 = z at *
        have hlay : layN x = ((191 + k : Nat) : Int) :: dg (x - sh (k - 1)) k k := by unfold layN; rw [hkl, if_neg (by omega)]
        have hw8 : IntKind.u8.wrap ((k : Int) + 191) = 191 + (k : Int) := by rw [IntKind.wrap_u8]; omega
        have hw9 : IntKind.u8.wrap (191 + (k : Int)) = 191 + (k : Int) := by rw [IntKind.wrap_u8]; omega
        have hsub : IntKind.u64.wrap ((x : Int) - (sh (k - 1) : Int)) = ((x - sh (k - 1) : Nat) : Int) := by rw [IntKind.wrap_u64]; omega
        generalize hY : x - sh (k - 1) = y at *
        generalize hS : sh (k - 1) = s at *
        have HL := Lib.hid hlay
        clear hlay hkl hlo hY hS
        go_wp2_with (refine wpList_buildSlice1 rfl 37 5 _ rfl [.int .u8 0] 1 1 Try.underlying37 info_byteZ (by simp) (by omega) (by omega) _ [.int .u8 (191 + (k : Int))] (by rfl) (by rfl) (by simp) ?_; intro w3 B3 F3 S3; have HB3 := Lib.hid B3; have HF3 := Lib.hid F3; have HS3 := Lib.hid S3; clear B3 F3 S3)
        have R0 : NumR2 w y k (.slice (some ⟨w.heap.size, 0, none⟩) 1 1) (.int .i64 ((k : Int) - 1)) w3 := by
          refine ⟨k, Nat.le_refl _, rfl, ?_, HF3.out⟩
          have := Own.of_blk (base := w.heap.size) (size := 1) (n := 1) (cap := 1) (Nat.le_refl _) HB3.out (Nat.le_refl _) (by simp only [maxLen]; omega) (by simp)
          simpa [bv, dg] using this
        have HR0 := Lib.hid R0
        clear R0 HB3 HF3 HS3
        go_loopw [6, 7] (fun v i wr => NumR2 w y k v i wr) (fun _ i _ => (intOf i + 1).toNat)
        case atStart => exact HR0.out
        case round =>
          obtain ⟨j, hj, rfl, hO, hF⟩ := hrel
          rcases j with _ | j
          · have HO := Lib.hid hO
            have HF := Lib.hid hF
            clear hO hF
            go_wp2_with fail
            go_ret
            refine ⟨_, rfl, ?_, HF.out⟩
            rw [HL.out]
            have := HO.out.base hbase
            rw [Nat.sub_zero] at this
            rwa [show (((191 + k : Nat) : Int) :: dg y k k).length = 1 + k by simp [dg_length]; omega]
          · rw [show ((j + 1 : Nat) : Int) - 1 = (j : Int) by omega]
            have HO := Lib.hid hO
            have HF := Lib.hid hF
            clear hO hF
            have hz := HF.out.size
            have hj8 : (j : Int) < 8 := by omega
            go_wp2_with (first
              | (refine wpList_buildSlice1 rfl 37 5 _ rfl [.int .u8 0] 1 1 Try.underlying37 info_byteZ (by simp) (by omega) (by omega) _ [.int .u8 ((y : Int) / 2 ^ (8 * j) % 256)] (by rfl) (by rfl) (by simp) ?_; intro w5 B5 F5 S5; have HB5 := Lib.hid B5; have HF5 := Lib.hid F5; have HS5 := Lib.hid S5; clear B5 F5 S5)
              | (refine wpList_appB rfl _ _ 37 37 rfl _ 5 5 .u8 1 Try.underlying37 Try.underlying37 info_byte _ (1 + (k - (j + 1))) (bv (((191 + k : Nat) : Int) :: dg y k (k - (j + 1)))) (by rfl) (HO.out.fr0 HF5.out) _ 1 1 [.int .u8 ((y : Int) / 2 ^ (8 * j) % 256)] (by rfl) (by simpa using HB5.out.rd0 1) (by simp) (by simp [Value.oneCell']) (by simp only [maxLen]; omega) (by omega) (by have := HS5.out; omega) ?_; intro v6 w6 O6 F6 K6 _; have HO6 := Lib.hid O6; have HF6 := Lib.hid F6; clear O6 F6 K6))
            have R6 : NumR2 w y k v6 (.int .i64 ((j : Int) - 1)) w6 := by
              refine ⟨j, by omega, rfl, ?_, (HF.out.trans0 HF5.out).trans HF6.out (fun z hz hlt => by have := (HO.out.lt hz).1; omega)⟩
              have e1 : (y : Int) / 2 ^ (8 * j) % 256 = ((y / 256 ^ j % 256 : Nat) : Int) := by
                have : (256 : Nat) = 2 ^ 8 := rfl
                rw [show (256 : Nat) ^ j = 2 ^ (8 * j) by rw [this, ← Nat.pow_mul]]
                simp
              have e2 : k - j = (k - (j + 1)) + 1 := by omega
              have e3 : k - 1 - (k - (j + 1)) = j := by omega
              have e : bv (((191 + k : Nat) : Int) :: dg y k (k - (j + 1))) ++ [Value.int .u8 ((y : Int) / 2 ^ (8 * j) % 256)] = bv (((191 + k : Nat) : Int) :: dg y k (k - j)) := by
                rw [e1, e2, dg_succ, e3]
                simp [bv]
              rw [← e, e2]
              exact HO6.out
            have HR6 := Lib.hid R6
            clear R6
            go_wp2_with fail
            go_roundw
            case rel => exact HR6.out
            case measure => simp [intOf] <;> omega
set_option maxRecDepth 100000 in
set_option maxHeartbeats 1000000 in
theorem whole_calls {w : World} {base : Nat} (hbase : base ≤ w.heap.size) (y : Int) (hy : I64 y) : Calls Try.prog 76 #[.int .i64 y] w (ByE base (layI y) w) := by
  have hz := zig_lt y hy
  have hc := num_calls (w := w) hbase (zig y) hz
  have HC := Lib.hid hc
  obtain ⟨h0, h1⟩ := hy
  unfold layI
  by_cases hn : y < 0
  · have e : -(y + 1) * 2 + 1 = (zig y : Int) := by
      unfold zig
      rw [if_pos hn]
      omega
    clear hc hz
    generalize zig y = z at *
    have HE := Lib.hid e
    clear e
    go_enter Try.func76, Try.ntmps76
    go_wp2_with fail
    rw [HE.out]
    refine HC.out.mono ?_
    rintro e w' ⟨v, rfl, ho, hf⟩
    have HO := Lib.hid ho
    have HF := Lib.hid hf
    clear ho hf
    go_wp2_with fail
    go_ret
    exact ⟨v, rfl, HO.out, HF.out⟩
  · have e : y * 2 = (zig y : Int) := by
      unfold zig
      rw [if_neg hn]
      omega
    clear hc hz
    generalize zig y = z at *
    have HE := Lib.hid e
    clear e
    go_enter Try.func76, Try.ntmps76
    go_wp2_with fail
    rw [HE.out]
    refine HC.out.mono ?_
    rintro e w' ⟨v, rfl, ho, hf⟩
    have HO := Lib.hid ho
    have HF := Lib.hid hf
    clear ho hf
    go_wp2_with fail
    go_ret
    exact ⟨v, rfl, HO.out, HF.out⟩
set_option maxRecDepth 100000 in
set_option maxHeartbeats 1000000 in
theorem count_calls_ref {w : World} {base : Nat} (hbase : base ≤ w.heap.size) (n : Nat) (hn : n < 9223372036854775808) : Calls Try.prog 73 #[.int .i64 n] w (ByE base (layN n) w) := by
  have hc := num_calls (w := w) hbase n (by omega)
  have HC := Lib.hid hc
  have hw : IntKind.u64.wrap (n : Int) = (n : Int) := by rw [IntKind.wrap_u64]; omega
  clear hc
  go_enter Try.func73, Try.ntmps73
  go_wp2_with fail
  refine HC.out.mono ?_
  rintro e w' ⟨v, rfl, ho, hf⟩
  have HO := Lib.hid ho
  have HF := Lib.hid hf
  clear ho hf
  go_wp2_with fail
  go_ret
  exact ⟨v, rfl, HO.out, HF.out⟩
end Go.Fur
