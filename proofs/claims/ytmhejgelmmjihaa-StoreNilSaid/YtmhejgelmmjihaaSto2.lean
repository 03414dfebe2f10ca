/- Four bytes behind others: contract. -/
import Derived.Test.YtmhejgelmmjihaaSto1
import Derived.Test.YtmhejgelmmjihaaArr2
namespace Go.Fur
open Go Go.RowKit Go.Proofs
set_option linter.unusedVariables false
set_option linter.unusedSimpArgs false
section
variable {P : Program}
/-- A slice literal of n elements, its run told ahead. -/
theorem wpList_buildN {w : World} {ops : Array Oper} {rest : List Oper} {o : Oper} {a : Act} {Q : Exit → Act → World → Prop} (hgd : o.guard = none) (t e : TypeId) (n : Nat) (ps : List (Nat × Operand)) (ho : o.op = .buildSlice t n ps.toArray)
    (parts : List (Nat × Value)) (hp : (ps.map fun p => (p.1, a.eval p.2)) = parts) (cs : List Value)
    (hr : ∀ W : World, (Instr.buildSlice t n parts.toArray).run P W = .ok (.slice (some ⟨W.heap.size, 0, none⟩) n n) (W.alloc (.cells cs.toArray e)))
    (h : ∀ w1 : World, Blk w1 w.heap.size e cs → Fr [] w w1 → w1.heap.size = w.heap.size + 1 → wpList P ops Q rest (a.put o.dst (.slice (some ⟨w.heap.size, 0, none⟩) n n)) w1) : wpList P ops Q (o :: rest) a w :=
  wpList_plain hgd fun K hK => by
    unfold Oper.wp execOp
    simp only [ho, List.map_toArray, hp, Sem.run_bind, hr, Result.andThen_ok, Sem.run_pure]
    exact hK _ _ (h _ (Blk.new w e cs) ((Fr.refl [] w).alloc _) (by simp))
end
/-- A number's four bytes, the lowest first. -/
def le4 (x : Nat) : List Int := [(x : Int) % 256, (x : Int) / 256 % 256, (x : Int) / 65536 % 256, (x : Int) / 16777216]
theorem bytes_build4 (a b c d : Int) : ∀ W : World, (Instr.buildSlice 24 4 [(0, .int .u8 a), (1, .int .u8 b), (2, .int .u8 c), (3, .int .u8 d)].toArray).run Try.prog W = .ok (.slice (some ⟨W.heap.size, 0, none⟩) 4 4) (W.alloc (.cells [Value.int .u8 a, Value.int .u8 b, Value.int .u8 c, Value.int .u8 d].toArray 5)) := fun W => by kernel_rfl
set_option maxRecDepth 100000 in
set_option maxHeartbeats 1000000 in
theorem put4_calls {w : World} {base n : Nat} {v : Value} {l : List Int} (ho : Own w base 5 1 v n (bv l)) (hn : n ≤ 1000000000) (hbase : base ≤ w.heap.size) (x : Nat) (hx : x < 4294967296) :
    Calls Try.prog 33 #[v, .int .u32 x] w fun e w' => ∃ v', e = .returned v' ∧ Own w' base 5 1 v' (n + 4) (bv (l ++ le4 x)) ∧ Fr (ob v) w w' ∧ (∀ k ∈ ob v', k ∈ ob v ∨ w.heap.size ≤ k) := by
  have HO := Lib.hid ho
  clear ho
  go_enter Try.func33, Try.ntmps33
  go_wp2_with (first
    | (have z := HB1.out; clear z; refine wpList_appB rfl _ _ 24 24 rfl base 5 5 .u8 1 Try.underlying24 Try.underlying24 info_byte v n (bv l) (by rfl) (HO.out.fr0 HF1.out) _ 4 4 (bv (le4 x)) (by rfl) (HB1.out.rd0 4) (by simp [bv, le4]) (by simp [bv, le4, Value.oneCell']) (by simp only [maxLen]; omega) (by omega) (by have := HF1.out.size; omega) ?_; intro v2 w2 O2 F2 K2 _; have HO2 := Lib.hid O2; have HF2 := Lib.hid (HF1.out.ext (S := ob v) |>.trans1 F2); have HK2 := Lib.hid K2; clear O2 F2 K2)
    | (refine wpList_buildN rfl 24 5 4 [(0, .tmp 7), (1, .tmp 10), (2, .tmp 13), (3, .tmp 16)] rfl [(0, .int .u8 ((x : Int) % 256)), (1, .int .u8 ((x : Int) / 256 % 256)), (2, .int .u8 ((x : Int) / 65536 % 256)), (3, .int .u8 ((x : Int) / 16777216))] (by rfl) (bv (le4 x)) (bytes_build4 _ _ _ _) ?_; intro w1 B1 F1 S1; have HB1 := Lib.hid B1; have HF1 := Lib.hid F1; have HS1 := Lib.hid S1; clear B1 F1 S1))
  go_ret
  refine ⟨v2, rfl, ?_, HF2.out, fun k hk => ?_⟩
  · have h := HO2.out
    rwa [← bv_append] at h
  · rcases HK2.out with h | h
    · exact .inl (h ▸ hk)
    · rw [h] at hk
      have := List.mem_singleton.1 hk
      exact .inr (by have := HF1.out.size; omega)
end Go.Fur
