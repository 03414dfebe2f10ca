/- strip.Guard: contract. -/
import Derived.Test.YtijcjllojhpioaaStripW
namespace Go.Fur
open Go Go.RowKit Go.Proofs
set_option linter.unusedVariables false
set_option linter.unusedSimpArgs false
section
variable {P : Program}
/-- A slice literal of n elements, its run told ahead. -/
theorem wpList_buildN {w : World} {ops : Array Oper} {rest : List Oper} {o : Oper} {a : Act} {Q : Exit → Act → World → Prop} (hgd : o.guard = none) (t e : TypeId) (n : Nat) (ps : List (Nat × Operand)) (ho : o.op = .buildSlice t n ps.toArray)
    (parts : List (Nat × Value)) (hp : (ps.map fun p => (p.1, a.eval p.2)) = parts) (cs : List Value)
    (hr : ∀ W : World, (Instr.buildSlice t n parts.toArray).run P W = .ok (.slice (some ⟨W.heap.size, 0, none⟩) n n) (W.alloc (.cells cs.toArray e)))
    (h : ∀ w1 : World, Blk w1 w.heap.size e cs → Fr [] w w1 → w1.heap.size = w.heap.size + 1 → wpList P ops Q rest (a.put o.dst (.slice (some ⟨w.heap.size, 0, none⟩) n n)) w1) : wpList P ops Q (o :: rest) a w :=
  wpList_plain hgd fun K hK => by
    unfold Oper.wp execOp
    simp only [ho, List.map_toArray, hp, Sem.run_bind, hr, Result.andThen_ok, Sem.run_pure]
    exact hK _ _ (h _ (Blk.new w e cs) ((Fr.refl [] w).alloc _) (by simp))
end
theorem build2_bytes (x y : Int) : ∀ W : World, (Instr.buildSlice 22 2 [(0, .int .u8 x), (1, .int .u8 y)].toArray).run Try.prog W = .ok (.slice (some ⟨W.heap.size, 0, none⟩) 2 2) (W.alloc (.cells [Value.int .u8 x, .int .u8 y].toArray 5)) := fun W => by kernel_rfl
theorem index2 (x y : Value) : (∀ w, (Instr.index 51 (.agg [x, y].toArray) (.int .i64 0)).run Try.prog w = .ok x w) ∧ (∀ w, (Instr.index 51 (.agg [x, y].toArray) (.int .i64 1)).run Try.prog w = .ok y w) := ⟨fun _ => by kernel_rfl, fun _ => by kernel_rfl⟩
/-- The bytes behind guarded ones. -/
def gtail (l : List Int) : List Int := [s0 l % 65521 / 256, s0 l % 65521 % 256, s1 l % 65521 / 256, s1 l % 65521 % 256]
def guardN (l : List Int) : List Int × Int := if 60000 < l.length then ([], 3) else (l ++ gtail l, 0)
def GuE (tb : TypeId) (r : List Int × Int) (w : World) (e : Ending) (w' : World) : Prop := ∃ v, e = .returned (.tuple #[v, .int .i64 r.2]) ∧ Own w' w.heap.size tb 1 v r.1.length (bv r.1) ∧ Fr [] w w'
def GuR (tb : TypeId) (w : World) (l : List Int) (A B : Int) (v i : Value) (wr : World) : Prop :=
  ∃ m : Nat, m ≤ 2 ∧ i = .int .i64 m ∧ Own wr w.heap.size tb 1 v (l.length + 2 * m) (bv (l ++ [A / 256, A % 256, B / 256, B % 256].take (2 * m))) ∧ Fr [] w wr
set_option maxRecDepth 100000 in
set_option maxHeartbeats 1000000 in
theorem guard_calls (w : World) (a : Option Addr) (n c : Nat) (l : List Int) (hl : l.length = n) (hc : n ≤ c) (hn : n ≤ 140737488355328) (hb : Byt l) (ra : Rd w a (bv l)) :
    Calls Try.prog 12 #[.slice a n c] w (GuE 5 (guardN l) w) := by
  subst hl
  by_cases h0 : 60000 < l.length
  · have e : guardN l = ([], 3) := by unfold guardN; rw [if_pos h0]
    rw [e]
    clear e
    have h0b : (60000 : Int) < (l.length : Int) := by omega
    go_enter Try.func12, Try.ntmps12
    go_wp2_with fail
    go_ret2
    exact ⟨_, rfl, Own.nil _ _ _ _, Fr.refl _ _⟩
  have e : guardN l = (l ++ gtail l, 0) := by unfold guardN; rw [if_neg h0]
  have h0b : ¬ (60000 : Int) < (l.length : Int) := by omega
  have HE := Lib.hid e
  have HA := Lib.hid ra
  have HB := Lib.hid hb
  generalize guardN l = R at *
  clear e ra hb h0
  have hw4 : IntKind.i64.wrap ((l.length : Int) + 4) = ((l.length + 4 : Nat) : Int) := by rw [IntKind.wrap_i64]; omega
  go_enter Try.func12, Try.ntmps12
  go_wp2_with (first
    | (refine wpList_makeZ rfl 22 _ _ rfl 5 [.int .u8 0] 1 1 Try.underlying22 info_byteZ (by omega) rfl 0 (l.length + 4) (by rfl) (by rfl) (by omega) (by omega) (by simp only [maxLen]; omega) ?_; intro w1 B1 F1 S1; have O1 := Own.of_blk (base := w.heap.size) (size := 1) (n := 0) (cap := l.length + 4) (Nat.le_refl _) B1 (by omega) (by simp only [maxLen]; omega) (by rw [flat_length id 1 _ (fun x hx => by rw [List.eq_of_mem_replicate hx]; rfl)]; simp); have HO1 := Lib.hid O1; have HF1 := Lib.hid F1; have HS1 := Lib.hid S1; clear B1 F1 S1 O1)
    | (refine wpList_appB rfl _ _ 22 22 rfl _ 5 5 .u8 1 Try.underlying22 Try.underlying22 info_byte _ 0 _ (by rfl) HO1.out a l.length c (bv l) (by rfl) (HA.out.fr0 HF1.out) (by simp) (bv_one _) (by simp only [maxLen]; omega) (by omega) (by have := HS1.out; omega) ?_; intro v2 w2 O2 F2 K2 _; have HO2 := Lib.hid O2; have HF2 := Lib.hid (HF1.out.trans F2 (fun x hx hlt => by simp at hx; omega)); clear O2 F2 K2))
  refine (weights_calls w2 a l.length c l rfl (by omega) HB.out (HA.out.fr0 HF2.out)).mono ?_
  rintro e w3 ⟨rfl, F3⟩
  have O3 := HO2.out
  simp only [Nat.zero_mul, List.take_zero, List.nil_append, Nat.zero_add] at O3
  have HO3 := Lib.hid (O3.fr0 F3)
  have HF3 := Lib.hid (HF2.out.trans0 F3)
  have hg : gtail l = [s0 l % 65521 / 256, s0 l % 65521 % 256, s1 l % 65521 / 256, s1 l % 65521 % 256] := rfl
  have hwc : wcells l = [.int .i64 (s0 l % 65521), .int .i64 (s1 l % 65521)] := rfl
  rw [hwc]
  have a0 : 0 ≤ s0 l % 65521 := by omega
  have a1 : s0 l % 65521 < 65521 := by omega
  have b0 : 0 ≤ s1 l % 65521 := by omega
  have b1 : s1 l % 65521 < 65521 := by omega
  generalize s0 l % 65521 = A at *
  generalize s1 l % 65521 = B at *
  have HG := Lib.hid hg
  clear hg hwc O3 F3 HO2 HF2
  have R0 : GuR 5 w l A B v2 (.int .i64 0) w3 := ⟨0, by omega, rfl, by simpa using HO3.out, HF3.out⟩
  have HR0 := Lib.hid R0
  clear R0
  obtain ⟨i0, i1⟩ := index2 (.int .i64 A) (.int .i64 B)
  go_wp2_with fail
  go_loopw [4, 18] (fun v i wr => GuR 5 w l A B v i wr) (fun _ i _ => 2 - (intOf i).toNat)
  case atStart => exact HR0.out
  case round =>
    obtain ⟨m, hm, rfl, hO, hF⟩ := hrel
    have HO := Lib.hid hO
    have HF := Lib.hid hF
    clear hO hF
    have hz := HF.out.size
    have hm3 : m = 0 ∨ m = 1 ∨ m = 2 := by omega
    rcases hm3 with rfl | rfl | rfl
    · go_wp2_with (first
        | (refine wpList_buildN rfl 22 5 2 [(0, .tmp 24), (1, .tmp 26)] rfl [(0, .int .u8 (A / 256)), (1, .int .u8 (A % 256))] (by rfl) _ (build2_bytes (A / 256) (A % 256)) ?_; intro w4 B4 F4 S4; have HB4 := Lib.hid B4; have HF4 := Lib.hid F4; have HS4 := Lib.hid S4; clear B4 F4 S4)
        | (refine wpList_appB rfl _ _ 22 22 rfl _ 5 5 .u8 1 Try.underlying22 Try.underlying22 info_byte _ _ _ (by rfl) (HO.out.fr0 HF4.out) _ 2 2 [.int .u8 (A / 256), .int .u8 (A % 256)] (by rfl) (by simpa using HB4.out.rd0 2) (by simp) (by simp [Value.oneCell']) (by simp only [maxLen]; omega) (by omega) (by have := HS4.out; omega) ?_; intro v5 w5 O5 F5 K5 _; have HO5 := Lib.hid O5; have HF5 := Lib.hid ((HF.out.trans0 HF4.out).trans F5 (fun x hx hlt => by have := (HO.out.lt hx).1; omega)); clear O5 F5 K5))
      have R1 : GuR 5 w l A B v5 (.int .i64 1) w5 := by
        refine ⟨1, by omega, rfl, ?_, HF5.out⟩
        have := HO5.out
        rw [show bv (l ++ [A / 256, A % 256, B / 256, B % 256].take (2 * 0)) ++ [Value.int .u8 (A / 256), .int .u8 (A % 256)] = bv (l ++ [A / 256, A % 256, B / 256, B % 256].take (2 * 1)) by simp [bv]] at this
        exact this
      go_roundw
      case rel => exact R1
      case measure => simp [intOf]
    · go_wp2_with (first
        | (refine wpList_buildN rfl 22 5 2 [(0, .tmp 24), (1, .tmp 26)] rfl [(0, .int .u8 (B / 256)), (1, .int .u8 (B % 256))] (by rfl) _ (build2_bytes (B / 256) (B % 256)) ?_; intro w4 B4 F4 S4; have HB4 := Lib.hid B4; have HF4 := Lib.hid F4; have HS4 := Lib.hid S4; clear B4 F4 S4)
        | (refine wpList_appB rfl _ _ 22 22 rfl _ 5 5 .u8 1 Try.underlying22 Try.underlying22 info_byte _ _ _ (by rfl) (HO.out.fr0 HF4.out) _ 2 2 [.int .u8 (B / 256), .int .u8 (B % 256)] (by rfl) (by simpa using HB4.out.rd0 2) (by simp) (by simp [Value.oneCell']) (by simp only [maxLen]; omega) (by omega) (by have := HS4.out; omega) ?_; intro v5 w5 O5 F5 K5 _; have HO5 := Lib.hid O5; have HF5 := Lib.hid ((HF.out.trans0 HF4.out).trans F5 (fun x hx hlt => by have := (HO.out.lt hx).1; omega)); clear O5 F5 K5))
      have R1 : GuR 5 w l A B v5 (.int .i64 2) w5 := by
        refine ⟨2, by omega, rfl, ?_, HF5.out⟩
        have := HO5.out
        rw [show bv (l ++ [A / 256, A % 256, B / 256, B % 256].take (2 * 1)) ++ [Value.int .u8 (B / 256), .int .u8 (B % 256)] = bv (l ++ [A / 256, A % 256, B / 256, B % 256].take (2 * 2)) by simp [bv]] at this
        exact this
      go_roundw
      case rel => exact R1
      case measure => simp [intOf]
    · go_wp2_with fail
      go_ret2
      rw [HE.out]
      refine ⟨_, rfl, ?_, HF.out⟩
      have h1 := HO.out
      rw [HG.out]
      simpa using h1
end Go.Fur
