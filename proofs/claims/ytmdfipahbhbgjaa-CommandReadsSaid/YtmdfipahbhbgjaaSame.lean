/- Ints, SameTask, SameEntry of the document: contracts. -/
import Derived.Test.YtmdfipahbhbgjaaCmdE
import Derived.Test.YtmdfipahbhbgjaaWEqStruct
import Derived.Test.YtmdfipahbhbgjaaWGuard
namespace Go.Fur
open Go Go.RowKit Go.Proofs Go.Proofs.YtmdfipahbhbgjaaW.PrintWords
set_option linter.unusedVariables false
set_option linter.unusedSimpArgs false
def IntsR (w : World) (a b : List Int) (i : Value) (wr : World) : Prop := ∃ k : Nat, k ≤ a.length ∧ i = .int .i64 k ∧ a.take k = b.take k ∧ Fr [] w wr
/-- A Bool is handed back. -/
def BoolE (r : Bool) (w : World) (e : Ending) (w' : World) : Prop := e = .returned (.bool r) ∧ Fr [] w w'
set_option maxRecDepth 100000 in
set_option maxHeartbeats 1000000 in
theorem ints_calls {w : World} (A B : Option Addr) (c d : Nat) (a b : List Int) (ha : Rd w A (iv a)) (hb : Rd w B (iv b)) (hla : a.length ≤ 4611686018427387904) :
    Calls Try.prog 55 #[.slice A a.length c, .slice B b.length d] w (BoolE (decide (a = b)) w) := by
  have HA := Lib.hid ha
  have HB := Lib.hid hb
  clear ha hb
  by_cases hl : a.length = b.length
  · have h1 : ((a.length : Int) != (b.length : Int)) = false := by rw [bne_eq_false_iff_eq]; omega
    have R0 := Lib.hid (show IntsR w a b (.int .i64 0) w from ⟨0, Nat.zero_le _, rfl, rfl, Fr.refl _ _⟩)
    have HLn := Lib.hid hl
    clear hl
    go_enter Try.func55, Try.ntmps55
    go_wp2_with fail
    clear h1
    go_loopw [13] (fun i wr => IntsR w a b i wr) (fun i _ => a.length - (intOf i).toNat)
    case atStart => exact R0.out
    case round =>
      obtain ⟨k, hk, rfl, ht, hf⟩ := hrel
      by_cases hlt : k < a.length
      · obtain ⟨x, hx⟩ : ∃ x, a[k]? = some x := ⟨a[k], List.getElem?_eq_getElem hlt⟩
        obtain ⟨y, hy⟩ : ∃ y, b[k]? = some y := ⟨b[k]'(by have := HLn.out; omega), List.getElem?_eq_getElem (by have := HLn.out; omega)⟩
        obtain ⟨b1, o1, rfl, r1⟩ := (HA.out.fr0 hf) (by unfold iv; intro e; have := congrArg List.length e; simp at this; subst this; simp at hlt)
        obtain ⟨b2, o2, rfl, r2⟩ := (HB.out.fr0 hf) (by unfold iv; intro e; have := congrArg List.length e; simp at this; subst this; simp at hy)
        have c1 : wr.cell? ⟨b1, o1 + k, none⟩ = some (.int .i64 x) := r1 k _ (by unfold iv; rw [List.getElem?_map, hx]; rfl)
        have c2 : wr.cell? ⟨b2, o2 + k, none⟩ = some (.int .i64 y) := r2 k _ (by unfold iv; rw [List.getElem?_map, hy]; rfl)
        have kb1 : (k : Int) < (a.length : Int) := by omega
        have kb2 : (k : Int) < (b.length : Int) := by have := HLn.out; omega
        have hkw : wrap64 ((k : Int) + 1) = (k : Int) + 1 := by unfold wrap64; omega
        have HT := Lib.hid ht
        have HF := Lib.hid hf
        have HX := Lib.hid (And.intro hx hy)
        clear ht hf hx hy r1 r2
        by_cases hxy : x = y
        · have h2 : (x != y) = false := by simpa using hxy
          have HXY := Lib.hid hxy
          clear hxy
          go_wp2_with fail
          go_quiet (fail)
          have HG := Lib.hid ((Fr.refl [] wr).drewN nq)
          generalize wr.drewN nq = wq at *
          go_wp2_with fail
          go_roundw
          case rel =>
            refine ⟨k + 1, hlt, by first | rfl | (congr 1; omega), ?_, HF.out.trans0 HG.out⟩
            rw [List.take_add_one, List.take_add_one, HT.out, HX.out.1, HX.out.2, HXY.out]
          case measure => simp [intOf]; omega
        · have h2 : (x != y) = true := by simpa using hxy
          have HXY := Lib.hid hxy
          clear hxy
          go_wp2_with fail
          go_quiet (fail)
          have HG := Lib.hid ((Fr.refl [] wr).drewN nq)
          generalize wr.drewN nq = wq at *
          go_wp2_with fail
          go_ret
          refine ⟨?_, HF.out.trans0 HG.out⟩
          have : ¬ a = b := fun e => HXY.out (by have h1 := HX.out.1; rw [e, HX.out.2] at h1; exact (Option.some.inj h1).symm)
          simp [this]
      · obtain rfl : k = a.length := by omega
        have : a = b := by
          have h3 := ht
          rw [List.take_length, HLn.out, List.take_length] at h3
          exact h3
        have HE := Lib.hid this
        have HF := Lib.hid hf
        clear ht this hf
        go_wp2_with fail
        go_ret
        refine ⟨?_, HF.out⟩
        simp [HE.out]
  · have h1 : ((a.length : Int) != (b.length : Int)) = true := by rw [bne_iff_ne]; omega
    have HLn := Lib.hid hl
    clear hl
    go_enter Try.func55, Try.ntmps55
    go_wp2_with fail
    go_ret
    refine ⟨?_, Fr.refl _ _⟩
    have : ¬ a = b := fun e => HLn.out (by rw [e])
    simp [this]
theorem eqA23 (d : Nat) (w : World) (x0 y0 : Int) (x1 y1 : Int) :
    (Op.equalIn (d + 2) 23 (.agg #[.int .i64 x0, .int .i64 x1]) (.agg #[.int .i64 y0, .int .i64 y1])).run Try.prog w = .ok (x0 == y0 && (x1 == y1)) w := by
  refine eqA_of Try.underlying23 (by kernel_rfl) ?_
  refine eqf_cons (by rfl) (by go_simp; rfl) (by go_simp; rfl) (by go_simp) ?_
  exact eqf_last (by rfl) (by go_simp; rfl) (by go_simp; rfl) (by go_simp)
theorem eqA25 (d : Nat) (w : World) (x0 y0 : Int) (x1 y1 : Int) (x2 y2 : Int) (x3 y3 : Int) (x4 y4 : Int) (x5 y5 : Int) (x6 y6 : Int) :
    (Op.equalIn (d + 3) 25 (.agg #[.int .i64 x0, .int .i64 x1, .int .i64 x2, .int .i64 x3, .int .i64 x4, .int .i64 x5, .int .i64 x6]) (.agg #[.int .i64 y0, .int .i64 y1, .int .i64 y2, .int .i64 y3, .int .i64 y4, .int .i64 y5, .int .i64 y6])).run Try.prog w = .ok (x0 == y0 && (x1 == y1 && (x2 == y2 && ((x3 == y3 && (x4 == y4)) && ((x5 == y5 && (x6 == y6))))))) w := by
  refine eqA_of Try.underlying25 (by kernel_rfl) ?_
  refine eqf_cons (by rfl) (by go_simp; rfl) (by go_simp; rfl) (by go_simp) ?_
  refine eqf_cons (by rfl) (by go_simp; rfl) (by go_simp; rfl) (by go_simp) ?_
  refine eqf_cons (by rfl) (by go_simp; rfl) (by go_simp; rfl) (by go_simp) ?_
  refine eqf_cons (by rfl) (by go_simp) (by go_simp) (eqA23 (d + 0) w _ _ _ _) ?_
  exact eqf_last (by rfl) (by go_simp) (by go_simp) (eqA23 (d + 0) w _ _ _ _)
theorem eqA27 (d : Nat) (w : World) (x0 y0 : Int) (x1 y1 : Int) (x2 y2 : Int) (x3 y3 : Int) (x4 y4 : Int) :
    (Op.equalIn (d + 2) 27 (.agg #[.int .i64 x0, .int .i64 x1, .int .i64 x2, .int .i64 x3, .int .i64 x4]) (.agg #[.int .i64 y0, .int .i64 y1, .int .i64 y2, .int .i64 y3, .int .i64 y4])).run Try.prog w = .ok (x0 == y0 && (x1 == y1 && (x2 == y2 && (x3 == y3 && (x4 == y4))))) w := by
  refine eqA_of Try.underlying27 (by kernel_rfl) ?_
  refine eqf_cons (by rfl) (by go_simp; rfl) (by go_simp; rfl) (by go_simp) ?_
  refine eqf_cons (by rfl) (by go_simp; rfl) (by go_simp; rfl) (by go_simp) ?_
  refine eqf_cons (by rfl) (by go_simp; rfl) (by go_simp; rfl) (by go_simp) ?_
  refine eqf_cons (by rfl) (by go_simp; rfl) (by go_simp; rfl) (by go_simp) ?_
  exact eqf_last (by rfl) (by go_simp; rfl) (by go_simp; rfl) (by go_simp)
/-- Two tasks alike. -/
def sameT (x y : Tas) : Bool := (x.id == y.id) && ((x.queue == y.queue) && ((x.cpu == y.cpu && x.mem == y.mem) && ((x.work == y.work) && ((x.state == y.state) && decide (x.tickets = y.tickets)))))
attribute [local go_sem high] eqA23
set_option maxRecDepth 100000 in
set_option maxHeartbeats 4000000 in
theorem sameT_calls {w : World} (x y : Tas) (a b : Option Addr) (c d : Nat) (ha : Rd w a (iv x.tickets)) (hb : Rd w b (iv y.tickets)) (hlx : x.tickets.length ≤ 4611686018427387904) :
    Calls Try.prog 42 #[.agg (x.cells a c).toArray, .agg (y.cells b d).toArray] w (BoolE (sameT x y) w) := by
  have HI := Lib.hid (fun (W : World) (f : Fr [] w W) => ints_calls (w := W) a b c d x.tickets y.tickets (ha.fr0 f) (hb.fr0 f) hlx)
  have hSS : sameT x y = sameT x y := rfl
  generalize hr : sameT x y = r at hSS ⊢
  have HSS := Lib.hid hr
  clear ha hb hlx hSS hr
  cases h0 : (x.id == y.id) with
  | false =>
    have H0 := Lib.hid h0
    go_enter Try.func42, Try.ntmps42
    go_wp2_with (first
      | (have z := HB1.out; clear z; refine wpList_boxB rfl 30 _ rfl (y.cells b d) (by rfl) ?_; intro w2 B2 F2 S2; have hb1 := HB1.out.fr F2 (by simp); have cx0 : w2.cell? ⟨w.heap.size, 0, none⟩ = some (.int .i64 x.id) := hb1.cellAt rfl; have cy0 : w2.cell? ⟨w1.heap.size, 0, none⟩ = some (.int .i64 y.id) := B2.cellAt rfl; have cx1 : w2.cell? ⟨w.heap.size, 1, none⟩ = some (.int .i64 x.queue) := hb1.cellAt rfl; have cy1 : w2.cell? ⟨w1.heap.size, 1, none⟩ = some (.int .i64 y.queue) := B2.cellAt rfl; have cx4 : w2.cell? ⟨w.heap.size, 4, none⟩ = some (.int .i64 x.work) := hb1.cellAt rfl; have cy4 : w2.cell? ⟨w1.heap.size, 4, none⟩ = some (.int .i64 y.work) := B2.cellAt rfl; have cx6 : w2.cell? ⟨w.heap.size, 6, none⟩ = some (.int .i64 x.state) := hb1.cellAt rfl; have cy6 : w2.cell? ⟨w1.heap.size, 6, none⟩ = some (.int .i64 y.state) := B2.cellAt rfl; have cx5 : w2.cell? ⟨w.heap.size, 5, none⟩ = some (.slice a x.tickets.length c) := hb1.cellAt rfl; have cy5 : w2.cell? ⟨w1.heap.size, 5, none⟩ = some (.slice b y.tickets.length d) := B2.cellAt rfl; have HBX := Lib.hid hb1; clear hb1; have HB2 := Lib.hid B2; have HF2 := Lib.hid F2; have HS2 := Lib.hid S2; clear B2 F2 S2)
      | (refine wpList_boxB rfl 30 _ rfl (x.cells a c) (by rfl) ?_; intro w1 B1 F1 S1; have HB1 := Lib.hid B1; have HF1 := Lib.hid F1; have HS1 := Lib.hid S1; clear B1 F1 S1)
      | (refine gate_guard (by rfl) ?_; dsimp only; refine wpList_load_mid rfl 23 _ rfl w.heap.size 2 rfl [.int .i64 x.cpu, .int .i64 x.mem] _ (HBX.out.range 2 2) Try.underlying23 rfl vec_size ?_)
      | (refine gate_guard (by rfl) ?_; dsimp only; refine wpList_load_mid rfl 23 _ rfl w1.heap.size 2 rfl [.int .i64 y.cpu, .int .i64 y.mem] _ (HB2.out.range 2 2) Try.underlying23 rfl vec_size ?_))
    go_ret
    refine ⟨?_, HF1.out.trans0 HF2.out⟩
    rw [← HSS.out]
    unfold sameT
    rw [H0.out]
    rfl
  | true =>
    have H0 := Lib.hid h0
    cases h1 : (x.queue == y.queue) with
    | false =>
      have H1 := Lib.hid h1
      go_enter Try.func42, Try.ntmps42
      go_wp2_with (first
        | (have z := HB1.out; clear z; refine wpList_boxB rfl 30 _ rfl (y.cells b d) (by rfl) ?_; intro w2 B2 F2 S2; have hb1 := HB1.out.fr F2 (by simp); have cx0 : w2.cell? ⟨w.heap.size, 0, none⟩ = some (.int .i64 x.id) := hb1.cellAt rfl; have cy0 : w2.cell? ⟨w1.heap.size, 0, none⟩ = some (.int .i64 y.id) := B2.cellAt rfl; have cx1 : w2.cell? ⟨w.heap.size, 1, none⟩ = some (.int .i64 x.queue) := hb1.cellAt rfl; have cy1 : w2.cell? ⟨w1.heap.size, 1, none⟩ = some (.int .i64 y.queue) := B2.cellAt rfl; have cx4 : w2.cell? ⟨w.heap.size, 4, none⟩ = some (.int .i64 x.work) := hb1.cellAt rfl; have cy4 : w2.cell? ⟨w1.heap.size, 4, none⟩ = some (.int .i64 y.work) := B2.cellAt rfl; have cx6 : w2.cell? ⟨w.heap.size, 6, none⟩ = some (.int .i64 x.state) := hb1.cellAt rfl; have cy6 : w2.cell? ⟨w1.heap.size, 6, none⟩ = some (.int .i64 y.state) := B2.cellAt rfl; have cx5 : w2.cell? ⟨w.heap.size, 5, none⟩ = some (.slice a x.tickets.length c) := hb1.cellAt rfl; have cy5 : w2.cell? ⟨w1.heap.size, 5, none⟩ = some (.slice b y.tickets.length d) := B2.cellAt rfl; have HBX := Lib.hid hb1; clear hb1; have HB2 := Lib.hid B2; have HF2 := Lib.hid F2; have HS2 := Lib.hid S2; clear B2 F2 S2)
        | (refine wpList_boxB rfl 30 _ rfl (x.cells a c) (by rfl) ?_; intro w1 B1 F1 S1; have HB1 := Lib.hid B1; have HF1 := Lib.hid F1; have HS1 := Lib.hid S1; clear B1 F1 S1)
        | (refine gate_guard (by rfl) ?_; dsimp only; refine wpList_load_mid rfl 23 _ rfl w.heap.size 2 rfl [.int .i64 x.cpu, .int .i64 x.mem] _ (HBX.out.range 2 2) Try.underlying23 rfl vec_size ?_)
        | (refine gate_guard (by rfl) ?_; dsimp only; refine wpList_load_mid rfl 23 _ rfl w1.heap.size 2 rfl [.int .i64 y.cpu, .int .i64 y.mem] _ (HB2.out.range 2 2) Try.underlying23 rfl vec_size ?_))
      go_ret
      refine ⟨?_, HF1.out.trans0 HF2.out⟩
      rw [← HSS.out]
      unfold sameT
      rw [H0.out, H1.out]
      rfl
    | true =>
      have H1 := Lib.hid h1
      cases h2 : (x.cpu == y.cpu && x.mem == y.mem) with
      | false =>
        have H2 := Lib.hid h2
        go_enter Try.func42, Try.ntmps42
        go_wp2_with (first
          | (have z := HB1.out; clear z; refine wpList_boxB rfl 30 _ rfl (y.cells b d) (by rfl) ?_; intro w2 B2 F2 S2; have hb1 := HB1.out.fr F2 (by simp); have cx0 : w2.cell? ⟨w.heap.size, 0, none⟩ = some (.int .i64 x.id) := hb1.cellAt rfl; have cy0 : w2.cell? ⟨w1.heap.size, 0, none⟩ = some (.int .i64 y.id) := B2.cellAt rfl; have cx1 : w2.cell? ⟨w.heap.size, 1, none⟩ = some (.int .i64 x.queue) := hb1.cellAt rfl; have cy1 : w2.cell? ⟨w1.heap.size, 1, none⟩ = some (.int .i64 y.queue) := B2.cellAt rfl; have cx4 : w2.cell? ⟨w.heap.size, 4, none⟩ = some (.int .i64 x.work) := hb1.cellAt rfl; have cy4 : w2.cell? ⟨w1.heap.size, 4, none⟩ = some (.int .i64 y.work) := B2.cellAt rfl; have cx6 : w2.cell? ⟨w.heap.size, 6, none⟩ = some (.int .i64 x.state) := hb1.cellAt rfl; have cy6 : w2.cell? ⟨w1.heap.size, 6, none⟩ = some (.int .i64 y.state) := B2.cellAt rfl; have cx5 : w2.cell? ⟨w.heap.size, 5, none⟩ = some (.slice a x.tickets.length c) := hb1.cellAt rfl; have cy5 : w2.cell? ⟨w1.heap.size, 5, none⟩ = some (.slice b y.tickets.length d) := B2.cellAt rfl; have HBX := Lib.hid hb1; clear hb1; have HB2 := Lib.hid B2; have HF2 := Lib.hid F2; have HS2 := Lib.hid S2; clear B2 F2 S2)
          | (refine wpList_boxB rfl 30 _ rfl (x.cells a c) (by rfl) ?_; intro w1 B1 F1 S1; have HB1 := Lib.hid B1; have HF1 := Lib.hid F1; have HS1 := Lib.hid S1; clear B1 F1 S1)
          | (refine gate_guard (by rfl) ?_; dsimp only; refine wpList_load_mid rfl 23 _ rfl w.heap.size 2 rfl [.int .i64 x.cpu, .int .i64 x.mem] _ (HBX.out.range 2 2) Try.underlying23 rfl vec_size ?_)
          | (refine gate_guard (by rfl) ?_; dsimp only; refine wpList_load_mid rfl 23 _ rfl w1.heap.size 2 rfl [.int .i64 y.cpu, .int .i64 y.mem] _ (HB2.out.range 2 2) Try.underlying23 rfl vec_size ?_))
        go_ret
        refine ⟨?_, HF1.out.trans0 HF2.out⟩
        rw [← HSS.out]
        unfold sameT
        rw [H0.out, H1.out, H2.out]
        rfl
      | true =>
        have H2 := Lib.hid h2
        cases h3 : (x.work == y.work) with
        | false =>
          have H3 := Lib.hid h3
          go_enter Try.func42, Try.ntmps42
          go_wp2_with (first
            | (have z := HB1.out; clear z; refine wpList_boxB rfl 30 _ rfl (y.cells b d) (by rfl) ?_; intro w2 B2 F2 S2; have hb1 := HB1.out.fr F2 (by simp); have cx0 : w2.cell? ⟨w.heap.size, 0, none⟩ = some (.int .i64 x.id) := hb1.cellAt rfl; have cy0 : w2.cell? ⟨w1.heap.size, 0, none⟩ = some (.int .i64 y.id) := B2.cellAt rfl; have cx1 : w2.cell? ⟨w.heap.size, 1, none⟩ = some (.int .i64 x.queue) := hb1.cellAt rfl; have cy1 : w2.cell? ⟨w1.heap.size, 1, none⟩ = some (.int .i64 y.queue) := B2.cellAt rfl; have cx4 : w2.cell? ⟨w.heap.size, 4, none⟩ = some (.int .i64 x.work) := hb1.cellAt rfl; have cy4 : w2.cell? ⟨w1.heap.size, 4, none⟩ = some (.int .i64 y.work) := B2.cellAt rfl; have cx6 : w2.cell? ⟨w.heap.size, 6, none⟩ = some (.int .i64 x.state) := hb1.cellAt rfl; have cy6 : w2.cell? ⟨w1.heap.size, 6, none⟩ = some (.int .i64 y.state) := B2.cellAt rfl; have cx5 : w2.cell? ⟨w.heap.size, 5, none⟩ = some (.slice a x.tickets.length c) := hb1.cellAt rfl; have cy5 : w2.cell? ⟨w1.heap.size, 5, none⟩ = some (.slice b y.tickets.length d) := B2.cellAt rfl; have HBX := Lib.hid hb1; clear hb1; have HB2 := Lib.hid B2; have HF2 := Lib.hid F2; have HS2 := Lib.hid S2; clear B2 F2 S2)
            | (refine wpList_boxB rfl 30 _ rfl (x.cells a c) (by rfl) ?_; intro w1 B1 F1 S1; have HB1 := Lib.hid B1; have HF1 := Lib.hid F1; have HS1 := Lib.hid S1; clear B1 F1 S1)
            | (refine gate_guard (by rfl) ?_; dsimp only; refine wpList_load_mid rfl 23 _ rfl w.heap.size 2 rfl [.int .i64 x.cpu, .int .i64 x.mem] _ (HBX.out.range 2 2) Try.underlying23 rfl vec_size ?_)
            | (refine gate_guard (by rfl) ?_; dsimp only; refine wpList_load_mid rfl 23 _ rfl w1.heap.size 2 rfl [.int .i64 y.cpu, .int .i64 y.mem] _ (HB2.out.range 2 2) Try.underlying23 rfl vec_size ?_))
          go_ret
          refine ⟨?_, HF1.out.trans0 HF2.out⟩
          rw [← HSS.out]
          unfold sameT
          rw [H0.out, H1.out, H2.out, H3.out]
          rfl
        | true =>
          have H3 := Lib.hid h3
          cases h4 : (x.state == y.state) with
          | false =>
            have H4 := Lib.hid h4
            go_enter Try.func42, Try.ntmps42
            go_wp2_with (first
              | (have z := HB1.out; clear z; refine wpList_boxB rfl 30 _ rfl (y.cells b d) (by rfl) ?_; intro w2 B2 F2 S2; have hb1 := HB1.out.fr F2 (by simp); have cx0 : w2.cell? ⟨w.heap.size, 0, none⟩ = some (.int .i64 x.id) := hb1.cellAt rfl; have cy0 : w2.cell? ⟨w1.heap.size, 0, none⟩ = some (.int .i64 y.id) := B2.cellAt rfl; have cx1 : w2.cell? ⟨w.heap.size, 1, none⟩ = some (.int .i64 x.queue) := hb1.cellAt rfl; have cy1 : w2.cell? ⟨w1.heap.size, 1, none⟩ = some (.int .i64 y.queue) := B2.cellAt rfl; have cx4 : w2.cell? ⟨w.heap.size, 4, none⟩ = some (.int .i64 x.work) := hb1.cellAt rfl; have cy4 : w2.cell? ⟨w1.heap.size, 4, none⟩ = some (.int .i64 y.work) := B2.cellAt rfl; have cx6 : w2.cell? ⟨w.heap.size, 6, none⟩ = some (.int .i64 x.state) := hb1.cellAt rfl; have cy6 : w2.cell? ⟨w1.heap.size, 6, none⟩ = some (.int .i64 y.state) := B2.cellAt rfl; have cx5 : w2.cell? ⟨w.heap.size, 5, none⟩ = some (.slice a x.tickets.length c) := hb1.cellAt rfl; have cy5 : w2.cell? ⟨w1.heap.size, 5, none⟩ = some (.slice b y.tickets.length d) := B2.cellAt rfl; have HBX := Lib.hid hb1; clear hb1; have HB2 := Lib.hid B2; have HF2 := Lib.hid F2; have HS2 := Lib.hid S2; clear B2 F2 S2)
              | (refine wpList_boxB rfl 30 _ rfl (x.cells a c) (by rfl) ?_; intro w1 B1 F1 S1; have HB1 := Lib.hid B1; have HF1 := Lib.hid F1; have HS1 := Lib.hid S1; clear B1 F1 S1)
              | (refine gate_guard (by rfl) ?_; dsimp only; refine wpList_load_mid rfl 23 _ rfl w.heap.size 2 rfl [.int .i64 x.cpu, .int .i64 x.mem] _ (HBX.out.range 2 2) Try.underlying23 rfl vec_size ?_)
              | (refine gate_guard (by rfl) ?_; dsimp only; refine wpList_load_mid rfl 23 _ rfl w1.heap.size 2 rfl [.int .i64 y.cpu, .int .i64 y.mem] _ (HB2.out.range 2 2) Try.underlying23 rfl vec_size ?_))
            go_ret
            refine ⟨?_, HF1.out.trans0 HF2.out⟩
            rw [← HSS.out]
            unfold sameT
            rw [H0.out, H1.out, H2.out, H3.out, H4.out]
            rfl
          | true =>
            have H4 := Lib.hid h4
            go_enter Try.func42, Try.ntmps42
            go_wp2_with (first
              | (have z := HB1.out; clear z; refine wpList_boxB rfl 30 _ rfl (y.cells b d) (by rfl) ?_; intro w2 B2 F2 S2; have hb1 := HB1.out.fr F2 (by simp); have cx0 : w2.cell? ⟨w.heap.size, 0, none⟩ = some (.int .i64 x.id) := hb1.cellAt rfl; have cy0 : w2.cell? ⟨w1.heap.size, 0, none⟩ = some (.int .i64 y.id) := B2.cellAt rfl; have cx1 : w2.cell? ⟨w.heap.size, 1, none⟩ = some (.int .i64 x.queue) := hb1.cellAt rfl; have cy1 : w2.cell? ⟨w1.heap.size, 1, none⟩ = some (.int .i64 y.queue) := B2.cellAt rfl; have cx4 : w2.cell? ⟨w.heap.size, 4, none⟩ = some (.int .i64 x.work) := hb1.cellAt rfl; have cy4 : w2.cell? ⟨w1.heap.size, 4, none⟩ = some (.int .i64 y.work) := B2.cellAt rfl; have cx6 : w2.cell? ⟨w.heap.size, 6, none⟩ = some (.int .i64 x.state) := hb1.cellAt rfl; have cy6 : w2.cell? ⟨w1.heap.size, 6, none⟩ = some (.int .i64 y.state) := B2.cellAt rfl; have cx5 : w2.cell? ⟨w.heap.size, 5, none⟩ = some (.slice a x.tickets.length c) := hb1.cellAt rfl; have cy5 : w2.cell? ⟨w1.heap.size, 5, none⟩ = some (.slice b y.tickets.length d) := B2.cellAt rfl; have HBX := Lib.hid hb1; clear hb1; have HB2 := Lib.hid B2; have HF2 := Lib.hid F2; have HS2 := Lib.hid S2; clear B2 F2 S2)
              | (refine wpList_boxB rfl 30 _ rfl (x.cells a c) (by rfl) ?_; intro w1 B1 F1 S1; have HB1 := Lib.hid B1; have HF1 := Lib.hid F1; have HS1 := Lib.hid S1; clear B1 F1 S1)
              | (refine gate_guard (by rfl) ?_; dsimp only; refine wpList_load_mid rfl 23 _ rfl w.heap.size 2 rfl [.int .i64 x.cpu, .int .i64 x.mem] _ (HBX.out.range 2 2) Try.underlying23 rfl vec_size ?_)
              | (refine gate_guard (by rfl) ?_; dsimp only; refine wpList_load_mid rfl 23 _ rfl w1.heap.size 2 rfl [.int .i64 y.cpu, .int .i64 y.mem] _ (HB2.out.range 2 2) Try.underlying23 rfl vec_size ?_))
            refine (HI.out _ (HF1.out.trans0 HF2.out)).mono ?_
            rintro e w3 ⟨rfl, hf⟩
            have HF3 := Lib.hid hf
            clear hf
            go_wp2_with fail
            go_ret
            refine ⟨?_, (HF1.out.trans0 HF2.out).trans0 HF3.out⟩
            rw [← HSS.out]
            unfold sameT
            rw [H0.out, H1.out, H2.out, H3.out, H4.out]
            rfl
end Go.Fur
