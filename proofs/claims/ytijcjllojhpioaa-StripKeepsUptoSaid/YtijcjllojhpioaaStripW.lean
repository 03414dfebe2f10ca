/- strip.weights: contract. -/
import Derived.Test.YtijcjllojhpioaaStripLay
namespace Go.Fur
open Go Go.RowKit Go.Proofs
set_option linter.unusedVariables false
set_option linter.unusedSimpArgs false
/-- The two sums of some bytes. -/
def s0 (l : List Int) : Int := l.sum
def s1 : List Int → Int := fun l => (l.zipIdx.map fun p => ((p.2 : Int) + 1) * p.1).sum
theorem s0_snoc (l : List Int) (c : Int) : s0 (l ++ [c]) = s0 l + c := by simp [s0]
theorem s1_snoc (l : List Int) (c : Int) : s1 (l ++ [c]) = s1 l + ((l.length : Int) + 1) * c := by simp [s1, List.zipIdx_append]
def wcells (l : List Int) : List Value := [.int .i64 (s0 l % 65521), .int .i64 (s1 l % 65521)]
theorem two_zero : ∀ w, (zeroValue 51).run Try.prog w = .ok (.agg (wcells []).toArray) w := fun w => by kernel_rfl
theorem two_size : (Try.prog.info? 51).map (·.size) = some 2 := by kernel_rfl
def WtR (w : World) (l : List Int) (i : Value) (wr : World) : Prop := ∃ m : Nat, m ≤ l.length ∧ i = .int .i64 m ∧ Blk wr w.heap.size 51 (wcells (l.take m)) ∧ Fr [] w wr
def WtE (l : List Int) (w : World) (e : Ending) (w' : World) : Prop := e = .returned (.agg (wcells l).toArray) ∧ Fr [] w w'
set_option maxRecDepth 100000 in
set_option maxHeartbeats 1000000 in
theorem weights_calls (w : World) (a : Option Addr) (n c : Nat) (l : List Int) (hl : l.length = n) (hn : n ≤ 140737488355328) (hb : Byt l) (ra : Rd w a (bv l)) :
    Calls Try.prog 32 #[.slice a n c] w (WtE l w) := by
  subst hl
  have HA := Lib.hid ra
  have HB := Lib.hid hb
  clear ra hb
  go_enter Try.func32, Try.ntmps32
  go_wp2_with (first
    | (refine wpList_allocZ rfl 51 rfl _ two_zero ?_; intro w1 B1 F1 S1; have HB1 := Lib.hid B1; have HF1 := Lib.hid F1; clear B1 F1 S1))
  go_loopw [7] (fun i wr => WtR w l i wr) (fun i _ => l.length - (intOf i).toNat)
  case atStart => exact ⟨0, Nat.zero_le _, rfl, HB1.out, HF1.out⟩
  case round =>
    obtain ⟨m, hm, rfl, hB, hF⟩ := hrel
    by_cases hlt : m < l.length
    · obtain ⟨y, hy⟩ : ∃ y, l[m]? = some y := ⟨l[m], List.getElem?_eq_getElem hlt⟩
      have hyb := HB.out y (List.mem_of_getElem? hy)
      obtain ⟨b, o, rfl, hr⟩ := HA.out (by intro e; have := congrArg List.length e; simp at this; subst this; simp at hlt)
      have hrr := rangeAt_fr hr hF (by simp)
      have hc : wr.cell? ⟨b, o + m, none⟩ = some (.int .u8 y) := hrr m _ (by rw [bv_get, hy]; rfl)
      have c0 : wr.cell? ⟨w.heap.size, 0, none⟩ = some (.int .i64 (s0 (l.take m) % 65521)) := hB.cellAt rfl
      have hsn : l.take (m + 1) = l.take m ++ [y] := by rw [List.take_add_one, hy]; rfl
      have hl2 : (l.take m).length = m := by rw [List.length_take]; omega
      have e0 := s0_snoc (l.take m) y
      have e1 := s1_snoc (l.take m) y
      rw [← hsn] at e0 e1
      rw [hl2] at e1
      have hp0 : 0 ≤ ((m : Int) + 1) * y := Int.mul_nonneg (by omega) hyb.1
      have hp1 : ((m : Int) + 1) * y ≤ ((m : Int) + 1) * 255 := Int.mul_le_mul_of_nonneg_left (by omega) (by omega)
      obtain ⟨p, hp⟩ : ∃ p, ((m : Int) + 1) * y = p := ⟨_, rfl⟩
      rw [hp] at e1 hp0 hp1
      have hp2 : p ≤ 36028797018963968 := by omega
      have ht : wcells (l.take (m + 1)) = [.int .i64 (s0 (l.take (m + 1)) % 65521), .int .i64 (s1 (l.take (m + 1)) % 65521)] := rfl
      have hB' : Blk wr w.heap.size 51 [.int .i64 (s0 (l.take m) % 65521), .int .i64 (s1 (l.take m) % 65521)] := hB
      have HT := Lib.hid (And.intro ht (And.intro e0 e1))
      have HB' := Lib.hid hB'
      have HF := Lib.hid hF
      have k1 : (m : Int) < (l.length : Int) := by omega
      have hy0 := hyb.1
      have hy1 := hyb.2
      clear hr hrr hB hB' hF e0 e1 ht hsn hl2 hy hp1 hyb
      generalize hW : wcells (l.take (m + 1)) = W at *
      have HW := Lib.hid hW
      clear hW
      generalize s0 (l.take m) = A at *
      generalize s1 (l.take m) = B at *
      generalize s0 (l.take (m + 1)) = A' at *
      generalize s1 (l.take (m + 1)) = B' at *
      have a0 : 0 ≤ A % 65521 := by omega
      have a1 : A % 65521 < 65521 := by omega
      have b0 : 0 ≤ B % 65521 := by omega
      have b1 : B % 65521 < 65521 := by omega
      generalize hA : A % 65521 = A0 at *
      generalize hBB : B % 65521 = B0 at *
      have HM := Lib.hid (And.intro hA hBB)
      clear hA hBB
      go_wp2_with (first
        | (refine wpList_store1 rfl 3 _ _ rfl w.heap.size 0 (.int .i64 ((A0 + y) % 65521)) (by rfl) (by rfl) rfl 51 _ HB'.out (by simp) (by kernel_rfl) rfl ?_; intro w2 B2 F2 S2; have c1 : w2.cell? ⟨w.heap.size, 1, none⟩ = some (.int .i64 B0) := B2.cellAt rfl; have HB2 := Lib.hid B2; have HF2 := Lib.hid F2; clear B2 F2 S2)
        | (refine wpList_store1 rfl 3 _ _ rfl w.heap.size 1 (.int .i64 ((B0 + p) % 65521)) (by rfl) (by rfl) rfl 51 _ HB2.out (by simp) (by kernel_rfl) rfl ?_; intro w3 B3 F3 S3; have HB3 := Lib.hid B3; have HF3 := Lib.hid F3; clear B3 F3 S3))
      have R : WtR w l (.int .i64 ((m + 1 : Nat) : Int)) w3 := by
        refine ⟨m + 1, by omega, rfl, ?_, (HF.out.trans HF2.out (fun x hx hlt => by simp at hx; omega)).trans HF3.out (fun x hx hlt => by simp at hx; omega)⟩
        obtain ⟨q1, q2, q3⟩ := HT.out
        obtain ⟨q4, q5⟩ := HM.out
        have q6 : (A0 + y) % 65521 = A' % 65521 := by omega
        have q7 : (B0 + p) % 65521 = B' % 65521 := by omega
        have := HB3.out
        rw [q6, q7] at this
        rw [HW.out, q1]
        exact this
      go_roundw
      case rel => exact R
      case measure => simp [intOf]; omega
    · have hmk : m = l.length := by omega
      subst hmk
      rw [List.take_length] at hB
      have HB2 := Lib.hid hB
      clear hB
      go_wp2_with (first
        | (refine wpList_loadB rfl 51 _ rfl w.heap.size (by rfl) 51 _ _ HB2.out Try.underlying51 rfl two_size ?_)
        | (refine wpList_storeB rfl 51 _ _ rfl w.heap.size 0 (wcells l) (by rfl) (by rfl) 51 _ HB2.out (by simp [wcells]) two_size (by simp [wcells, Value.oneCell']) ?_; intro w4 B4 F4 S4))
      refine bodyPost_ret (results_cellB rfl _ _ w.heap.size 51 _ _ (by rfl) B4 Try.underlying51 rfl two_size) rfl ⟨?_, hF.trans F4 (fun x hx hlt => by simp at hx; omega)⟩
      rfl
end Go.Fur
