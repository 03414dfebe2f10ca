/- The document's writing of command: put, queue, node, numbers, task: contracts. -/
import Derived.Test.YtmdfipahbhbgjaaRefN
import Derived.Test.YtmdfipahbhbgjaaCmdE
namespace Go.Fur
open Go Go.RowKit Go.Proofs
set_option linter.unusedVariables false
set_option linter.unusedSimpArgs false
/-- Bytes that are written behind others. -/
def PutE (base : Nat) (v : Value) (bs : List Int) (w : World) (e : Ending) (w' : World) : Prop := ∃ v', e = .returned v' ∧ Own w' base 5 1 v' bs.length (bv bs) ∧ Fr (ob v) w w' ∧ ∀ k ∈ ob v', k ∈ ob v ∨ w.heap.size ≤ k
/-- A row behind which bytes are written: it grows, or is laid anew. -/
def Grow (base : Nat) (v : Value) (w : World) (v' : Value) (bs : List Int) (wr : World) : Prop := Own wr base 5 1 v' bs.length (bv bs) ∧ Fr (ob v) w wr ∧ ∀ k ∈ ob v', k ∈ ob v ∨ w.heap.size ≤ k
def PutR (base : Nat) (v : Value) (bs l : List Int) (w : World) (x i : Value) (wr : World) : Prop := ∃ k : Nat, k ≤ l.length ∧ i = .int .i64 k ∧ Grow base v w x (bs ++ intsE (l.take k)) wr
theorem Grow.fr0 {base : Nat} {v : Value} {w : World} {v' : Value} {bs : List Int} {wr w2 : World} (h : Grow base v w v' bs wr) (f : Fr [] wr w2) : Grow base v w v' bs w2 :=
  ⟨h.1.fr0 f, h.2.1.trans0 f, h.2.2⟩
/-- One more append. -/
theorem Grow.app {base : Nat} {v : Value} {w : World} {v' v2 : Value} {bs cs : List Int} {wr w2 : World} (h : Grow base v w v' bs wr) (o : Own w2 base 5 1 v2 (bs.length + cs.length) (bv bs ++ bv cs)) (f : Fr (ob v') wr w2) (k : ob v2 = ob v' ∨ ob v2 = [wr.heap.size]) : Grow base v w v2 (bs ++ cs) w2 := by
  refine ⟨by rw [List.length_append, bv_append]; exact o, h.2.1.trans f (fun x hx hlt => ?_), fun x hx => ?_⟩
  · rcases h.2.2 x hx with h1 | h1
    · exact h1
    · omega
  · rcases k with k | k <;> rw [k] at hx
    · exact h.2.2 x hx
    · have := List.mem_singleton.1 hx
      have := h.2.1.size
      exact .inr (by omega)
set_option maxRecDepth 100000 in
set_option maxHeartbeats 1000000 in
theorem put_calls {w : World} {base : Nat} (hbase : base ≤ w.heap.size) (v : Value) (bs : List Int) (ho : Own w base 5 1 v bs.length (bv bs)) (a : Option Addr) (n c : Nat) (l : List Int) (hn : l.length = n) (ra : RdA w (fun k => k ∈ ob v) a (iv l)) (hI : ∀ x ∈ l, I64 x) (hr : bs.length + 9 * (n + 1) ≤ 70368744177664) :
    Calls Try.prog 37 #[v, .slice a n c] w (PutE base v (bs ++ intsE l) w) := by
  subst hn
  have HO := Lib.hid ho
  have HA := Lib.hid ra
  have HI := Lib.hid hI
  clear ho ra hI
  go_enter Try.func37, Try.ntmps37
  go_wp2_with fail
  go_loopw [0, 9] (fun x i wr => PutR base v bs l w x i wr) (fun _ i _ => l.length - (intOf i).toNat)
  case atStart => exact ⟨0, Nat.zero_le _, rfl, by simpa [intsE] using HO.out, Fr.refl _ _, fun k hk => .inl hk⟩
  case round =>
    obtain ⟨k, hk, rfl, hG⟩ := hrel
    have HG := Lib.hid hG
    by_cases hlt : k < l.length
    · obtain ⟨y, hy⟩ : ∃ y, l[k]? = some y := ⟨l[k], List.getElem?_eq_getElem hlt⟩
      have hyI := HI.out y (List.mem_of_getElem? hy)
      have kb : (k : Int) < (l.length : Int) := by omega
      obtain ⟨b, o, rfl, hrg⟩ := (HA.out.step hG.2.1 (fun k hk => .inl hk) (X' := fun k => k ∈ ob v) (fun k hk => .inl hk)).rd (by
        intro h0
        have := congrArg List.length h0
        simp [iv] at this
        subst this
        simp at hlt)
      have cy : wr.cell? ⟨b, o + k, none⟩ = some (.int .i64 y) := hrg k _ (by unfold iv; rw [List.getElem?_map, hy]; rfl)
      have hsn : l.take (k + 1) = l.take k ++ [y] := by rw [List.take_add_one, hy]; rfl
      have hle := intsE_length (l.take k)
      have hlk : (l.take k).length = k := by rw [List.length_take]; omega
      have hYl := layI_length y
      have hbs : base ≤ wr.heap.size := Nat.le_trans hbase hG.2.1.size
      have HC := Lib.hid (whole_calls hbs y hyI)
      have hbl : (bs ++ intsE (l.take k)).length + 9 ≤ 70368744177664 := by rw [List.length_append]; omega
      have HN := Lib.hid (show bs ++ intsE (l.take k) ++ layI y = bs ++ intsE (l.take (k + 1)) by rw [hsn, intsE_snoc, List.append_assoc])
      clear hG hsn hy hyI hle hlk hrg
      generalize bs ++ intsE (l.take k) = B at *
      go_wp2_with fail
      refine HC.out.mono ?_
      rintro e w1 ⟨u, rfl, O1, F1⟩
      obtain ⟨a1, c1, rfl, g1, g2, g3⟩ := O1.form
      have HG1 := Lib.hid (HG.out.fr0 F1)
      have HR1 := Lib.hid g3
      have hz1 := F1.size
      clear O1 F1 g1 g2 g3
      go_wp2_with (refine wpList_appB rfl _ _ 37 37 rfl base 5 5 .u8 1 Try.underlying37 Try.underlying37 info_byte _ B.length (bv B) (by rfl) HG1.out.1 a1 (layI y).length c1 (bv (layI y)) (by rfl) HR1.out (by simp) (bv_one _) (by simp only [maxLen]; omega) (by omega) (by omega) ?_; intro v2 w2 O2 F2 K2 _; have HG2 := Lib.hid (HG1.out.app O2 F2 K2); clear O2 F2 K2)
      have HR := Lib.hid (show PutR base v bs l w v2 (.int .i64 ((k + 1 : Nat) : Int)) w2 from ⟨k + 1, by omega, rfl, by rw [← HN.out]; exact HG2.out⟩)
      go_roundw
      case rel => exact HR.out
      case measure => simp [intOf] <;> omega
    · have hkl : k = l.length := by omega
      subst hkl
      rw [List.take_length] at HG
      go_wp2_with fail
      go_ret
      exact ⟨_, rfl, HG.out⟩
set_option maxRecDepth 100000 in
set_option maxHeartbeats 1000000 in
theorem numbers_calls {w : World} {base : Nat} (hbase : base ≤ w.heap.size) (a : Option Addr) (n c : Nat) (l : List Int) (hn : l.length = n) (ra : Rd w a (iv l)) (hI : ∀ x ∈ l, I64 x) (hr : 9 * (n + 2) ≤ 70368744177664) :
    Calls Try.prog 65 #[.slice a n c] w (ByE base (listE l) w) := by
  subst hn
  have HA := Lib.hid ra
  have HI := Lib.hid hI
  have HC0 := Lib.hid (count_calls_ref (w := w) (base := w.heap.size) (Nat.le_refl _) l.length (by omega))
  clear ra hI
  go_enter Try.func65, Try.ntmps65
  go_wp2_with fail
  refine HC0.out.mono ?_
  rintro e w0 ⟨u0, rfl, O0, F0⟩
  have HF0 := Lib.hid F0
  have HG0 := Lib.hid (show PutR w.heap.size (.slice none 0 0) (layN l.length) l w u0 (.int .i64 (0 : Nat)) w0 from ⟨0, Nat.zero_le _, rfl, by simpa [intsE] using O0, F0, fun k hk => .inr (O0.lt hk).1⟩)
  have hl9 := layN_length l.length
  have hk8 := kl_le l.length
  have HL := Lib.hid (show layN l.length ++ intsE l = listE l from rfl)
  generalize layN l.length = hd at *
  clear O0 F0
  go_wp2_with fail
  go_loopw [3, 11] (fun x i wr => PutR w.heap.size (.slice none 0 0) hd l w x i wr) (fun _ i _ => l.length - (intOf i).toNat)
  case atStart => exact HG0.out
  case round =>
    obtain ⟨k, hk, rfl, hG⟩ := hrel
    have HG := Lib.hid hG
    by_cases hlt : k < l.length
    · obtain ⟨y, hy⟩ : ∃ y, l[k]? = some y := ⟨l[k], List.getElem?_eq_getElem hlt⟩
      have hyI := HI.out y (List.mem_of_getElem? hy)
      have kb : (k : Int) < (l.length : Int) := by omega
      obtain ⟨b, o, rfl, hrg⟩ := (HA.out.fr0 hG.2.1) (by
        intro h0
        have := congrArg List.length h0
        simp [iv] at this
        subst this
        simp at hlt)
      have cy : wr.cell? ⟨b, o + k, none⟩ = some (.int .i64 y) := hrg k _ (by unfold iv; rw [List.getElem?_map, hy]; rfl)
      have hsn : l.take (k + 1) = l.take k ++ [y] := by rw [List.take_add_one, hy]; rfl
      have hle := intsE_length (l.take k)
      have hlk : (l.take k).length = k := by rw [List.length_take]; omega
      have hYl := layI_length y
      have hbs : w.heap.size ≤ wr.heap.size := hG.2.1.size
      have HC := Lib.hid (whole_calls hbs y hyI)
      have hbl : (hd ++ intsE (l.take k)).length + 9 ≤ 70368744177664 := by rw [List.length_append]; omega
      have HN := Lib.hid (show hd ++ intsE (l.take k) ++ layI y = hd ++ intsE (l.take (k + 1)) by rw [hsn, intsE_snoc, List.append_assoc])
      clear hG hsn hy hyI hle hlk hrg
      generalize hd ++ intsE (l.take k) = B at *
      go_wp2_with fail
      refine HC.out.mono ?_
      rintro e w1 ⟨u, rfl, O1, F1⟩
      obtain ⟨a1, c1, rfl, g1, g2, g3⟩ := O1.form
      have HG1 := Lib.hid (HG.out.fr0 F1)
      have HR1 := Lib.hid g3
      have hz1 := F1.size
      clear O1 F1 g1 g2 g3
      go_wp2_with (refine wpList_appB rfl _ _ 37 37 rfl w.heap.size 5 5 .u8 1 Try.underlying37 Try.underlying37 info_byte _ B.length (bv B) (by rfl) HG1.out.1 a1 (layI y).length c1 (bv (layI y)) (by rfl) HR1.out (by simp) (bv_one _) (by simp only [maxLen]; omega) (by omega) (by omega) ?_; intro v2 w2 O2 F2 K2 _; have HG2 := Lib.hid (HG1.out.app O2 F2 K2); clear O2 F2 K2)
      have HR := Lib.hid (show PutR w.heap.size (.slice none 0 0) hd l w v2 (.int .i64 ((k + 1 : Nat) : Int)) w2 from ⟨k + 1, by omega, rfl, by rw [← HN.out]; exact HG2.out⟩)
      go_roundw
      case rel => exact HR.out
      case measure => simp [intOf] <;> omega
    · have hkl : k = l.length := by omega
      subst hkl
      rw [List.take_length, HL.out] at HG
      go_wp2_with fail
      go_ret
      exact ⟨_, rfl, HG.out.1.base hbase, HG.out.2.1⟩
/-- Whole numbers in a row of their own are answered. -/
def IvE (l : List Int) (w : World) (e : Ending) (w' : World) : Prop := ∃ g, e = .returned (.slice (some ⟨g, 0, none⟩) l.length l.length) ∧ w.heap.size ≤ g ∧ Blk w' g 2 (iv l) ∧ Fr [] w w'
set_option maxRecDepth 100000 in
set_option maxHeartbeats 1000000 in
theorem rq_calls (w : World) (q : Que) : Calls Try.prog 39 #[.agg q.cells.toArray] w (IvE q.ints w) := by
  go_enter Try.func39, Try.ntmps39
  go_wp2_with (first
    | (refine wpList_boxB rfl 25 _ rfl q.cells (by rfl) ?_; intro w1 B1 F1 S1; have c0 : w1.cell? ⟨w.heap.size, 0, none⟩ = some (.int .i64 q.id) := B1.cellAt rfl; have c1 : w1.cell? ⟨w.heap.size, 1, none⟩ = some (.int .i64 q.parent) := B1.cellAt rfl; have c2 : w1.cell? ⟨w.heap.size, 2, none⟩ = some (.int .i64 q.weight) := B1.cellAt rfl; have c3 : w1.cell? ⟨w.heap.size, 3, none⟩ = some (.int .i64 q.qc) := B1.cellAt rfl; have c4 : w1.cell? ⟨w.heap.size, 4, none⟩ = some (.int .i64 q.qm) := B1.cellAt rfl; have c5 : w1.cell? ⟨w.heap.size, 5, none⟩ = some (.int .i64 q.mc) := B1.cellAt rfl; have c6 : w1.cell? ⟨w.heap.size, 6, none⟩ = some (.int .i64 q.mm) := B1.cellAt rfl; have HF1 := Lib.hid F1; have HS1 := Lib.hid S1; clear B1 F1 S1)
    | (refine wpList_buildN rfl 81 2 7 [(0, .tmp 4), (1, .tmp 6), (2, .tmp 8), (3, .tmp 11), (4, .tmp 14), (5, .tmp 17), (6, .tmp 20)] rfl [(0, .int .i64 q.id), (1, .int .i64 q.parent), (2, .int .i64 q.weight), (3, .int .i64 q.qc), (4, .int .i64 q.qm), (5, .int .i64 q.mc), (6, .int .i64 q.mm)] (by rfl) _ (buildI_7 q.id q.parent q.weight q.qc q.qm q.mc q.mm) ?_; intro w2 B2 F2 S2; have HB2 := Lib.hid B2; have HF2 := Lib.hid F2; clear B2 F2 S2))
  go_ret
  exact ⟨_, rfl, HF1.out.size, HB2.out, HF1.out.trans0 HF2.out⟩
set_option maxRecDepth 100000 in
set_option maxHeartbeats 1000000 in
theorem rn_calls (w : World) (q : Nod) : Calls Try.prog 40 #[.agg q.cells.toArray] w (IvE q.ints w) := by
  go_enter Try.func40, Try.ntmps40
  go_wp2_with (first
    | (refine wpList_boxB rfl 27 _ rfl q.cells (by rfl) ?_; intro w1 B1 F1 S1; have c0 : w1.cell? ⟨w.heap.size, 0, none⟩ = some (.int .i64 q.id) := B1.cellAt rfl; have c1 : w1.cell? ⟨w.heap.size, 1, none⟩ = some (.int .i64 q.cores) := B1.cellAt rfl; have c2 : w1.cell? ⟨w.heap.size, 2, none⟩ = some (.int .i64 q.mem) := B1.cellAt rfl; have c3 : w1.cell? ⟨w.heap.size, 3, none⟩ = some (.int .i64 q.inc) := B1.cellAt rfl; have c4 : w1.cell? ⟨w.heap.size, 4, none⟩ = some (.int .i64 q.beat) := B1.cellAt rfl; have HF1 := Lib.hid F1; have HS1 := Lib.hid S1; clear B1 F1 S1)
    | (refine wpList_buildN rfl 81 2 5 [(0, .tmp 4), (1, .tmp 6), (2, .tmp 8), (3, .tmp 10), (4, .tmp 12)] rfl [(0, .int .i64 q.id), (1, .int .i64 q.cores), (2, .int .i64 q.mem), (3, .int .i64 q.inc), (4, .int .i64 q.beat)] (by rfl) _ (buildI_5 q.id q.cores q.mem q.inc q.beat) ?_; intro w2 B2 F2 S2; have HB2 := Lib.hid B2; have HF2 := Lib.hid F2; clear B2 F2 S2))
  go_ret
  exact ⟨_, rfl, HF1.out.size, HB2.out, HF1.out.trans0 HF2.out⟩
end Go.Fur
