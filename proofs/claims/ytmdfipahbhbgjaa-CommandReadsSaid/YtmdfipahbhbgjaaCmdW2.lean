/- The writer of command: count, list, queue, node, task, lease, done: contracts. -/
import Derived.Test.YtmdfipahbhbgjaaCmdW
import Derived.Test.YtmdfipahbhbgjaaArr2
import Derived.Test.YtmdfipahbhbgjaaGiv
namespace Go.Fur
open Go Go.RowKit Go.Proofs
set_option linter.unusedVariables false
set_option linter.unusedSimpArgs false
theorem buildI_1 (x0 : Int) : ∀ W : World, (Instr.buildSlice 81 1 [(0, .int .i64 x0)].toArray).run Try.prog W = .ok (.slice (some ⟨W.heap.size, 0, none⟩) 1 1) (W.alloc (.cells [Value.int .i64 x0].toArray 2)) := fun W => by kernel_rfl
theorem buildI_2 (x0 x1 : Int) : ∀ W : World, (Instr.buildSlice 81 2 [(0, .int .i64 x0), (1, .int .i64 x1)].toArray).run Try.prog W = .ok (.slice (some ⟨W.heap.size, 0, none⟩) 2 2) (W.alloc (.cells [Value.int .i64 x0, Value.int .i64 x1].toArray 2)) := fun W => by kernel_rfl
theorem buildI_3 (x0 x1 x2 : Int) : ∀ W : World, (Instr.buildSlice 81 3 [(0, .int .i64 x0), (1, .int .i64 x1), (2, .int .i64 x2)].toArray).run Try.prog W = .ok (.slice (some ⟨W.heap.size, 0, none⟩) 3 3) (W.alloc (.cells [Value.int .i64 x0, Value.int .i64 x1, Value.int .i64 x2].toArray 2)) := fun W => by kernel_rfl
theorem buildI_4 (x0 x1 x2 x3 : Int) : ∀ W : World, (Instr.buildSlice 81 4 [(0, .int .i64 x0), (1, .int .i64 x1), (2, .int .i64 x2), (3, .int .i64 x3)].toArray).run Try.prog W = .ok (.slice (some ⟨W.heap.size, 0, none⟩) 4 4) (W.alloc (.cells [Value.int .i64 x0, Value.int .i64 x1, Value.int .i64 x2, Value.int .i64 x3].toArray 2)) := fun W => by kernel_rfl
theorem buildI_5 (x0 x1 x2 x3 x4 : Int) : ∀ W : World, (Instr.buildSlice 81 5 [(0, .int .i64 x0), (1, .int .i64 x1), (2, .int .i64 x2), (3, .int .i64 x3), (4, .int .i64 x4)].toArray).run Try.prog W = .ok (.slice (some ⟨W.heap.size, 0, none⟩) 5 5) (W.alloc (.cells [Value.int .i64 x0, Value.int .i64 x1, Value.int .i64 x2, Value.int .i64 x3, Value.int .i64 x4].toArray 2)) := fun W => by kernel_rfl
theorem buildI_7 (x0 x1 x2 x3 x4 x5 x6 : Int) : ∀ W : World, (Instr.buildSlice 81 7 [(0, .int .i64 x0), (1, .int .i64 x1), (2, .int .i64 x2), (3, .int .i64 x3), (4, .int .i64 x4), (5, .int .i64 x5), (6, .int .i64 x6)].toArray).run Try.prog W = .ok (.slice (some ⟨W.heap.size, 0, none⟩) 7 7) (W.alloc (.cells [Value.int .i64 x0, Value.int .i64 x1, Value.int .i64 x2, Value.int .i64 x3, Value.int .i64 x4, Value.int .i64 x5, Value.int .i64 x6].toArray 2)) := fun W => by kernel_rfl
/-- A slice laid behind the writer: apart from it. -/
theorem Wr.ap {w : World} {base p : Nat} {v : Value} {bs : List Int} {e : Int} (h : Wr w base p v bs e) {g : Nat} (hg : w.heap.size ≤ g) : g ≠ p ∧ g ∉ ob v :=
  ⟨fun e => by have := h.hp.lt; omega, fun hm => by have := (h.own.lt hm).2; omega⟩
/-- The blocks of the writer. -/
def Wx (p : Nat) (v : Value) (k : Nat) : Prop := k = p ∨ k ∈ ob v
theorem WS.rd {p : Nat} {v v' : Value} {w w' : World} (s : WS p v w w' v') {a : Option Addr} {cs : List Value} (h : RdA w (Wx p v) a cs) : RdA w' (Wx p v') a cs :=
  h.step s.fr (fun k hk => by
    rcases List.mem_cons.1 hk with rfl | hk
    · exact .inl (.inl rfl)
    · exact .inl (.inr hk)) (fun k hk => by
    rcases hk with rfl | hk
    · exact .inl (.inl rfl)
    · rcases s.sub k hk with h1 | h1
      · exact .inl (.inr h1)
      · exact .inr h1)
def cntE (n : Nat) (er : Int) : Int := if 1024 < n then 3 else er
set_option maxRecDepth 100000 in
set_option maxHeartbeats 1000000 in
theorem count_calls {w : World} {base p : Nat} {v : Value} {bs : List Int} {er : Int} (h : Wr w base p v bs er) (n : Nat) (hn : n ≤ 70368744177664) (hr : bs.length + 9 ≤ 70368744177664) :
    Calls Try.prog 95 #[.pointer (some ⟨p, 0, none⟩), .int .i64 n] w (WrE base p v (bs ++ layN n) (cntE n er) w) := by
  have hw : IntKind.u64.wrap (n : Int) = (n : Int) := by rw [IntKind.wrap_u64]; omega
  have HH := Lib.hid h
  by_cases h1 : 1024 < n
  · have h1b : (1024 : Int) < (n : Int) := by omega
    have he : cntE n er = 3 := by unfold cntE; rw [if_pos h1]
    rw [he]
    clear h he
    go_enter Try.func95, Try.ntmps95
    go_wp2_with (first
      | (refine wpList_store1 rfl 38 _ _ rfl p 1 (.int .i64 3) (by rfl) (by rfl) rfl 72 _ HH.out.hp (by simp) (by kernel_rfl) rfl ?_; intro w1 B1 F1 S1; have HB1 := Lib.hid B1; have HF1 := Lib.hid F1; clear B1 F1 S1))
    have hW : Wr w1 base p v bs 3 := ⟨HB1.out, HH.out.ge, HH.out.own.fr HF1.out (fun g hg hm => (Blk.ne_own HH.out.hp HH.out.own (by decide)) (mem_ob.1 (List.mem_singleton.1 hm ▸ hg)))⟩
    refine (uint_calls hW n (by omega) hr).mono ?_
    rintro e w2 ⟨rfl, v2, hW2, hS2⟩
    have HR := Lib.hid (And.intro hW2 hS2)
    clear hW hW2 hS2
    go_wp2_with fail
    go_end0
    refine ⟨rfl, v2, HR.out.1, ⟨(HF1.out.mono (S' := p :: ob v) (by simp)).trans1 HR.out.2.fr, fun k hk => ?_⟩⟩
    rcases HR.out.2.sub k hk with h1 | h1
    · exact .inl h1
    · have := HF1.out.size
      exact .inr (by omega)
  · have h1b : ¬ (1024 : Int) < (n : Int) := by omega
    have he : cntE n er = er := by unfold cntE; rw [if_neg h1]
    rw [he]
    clear h he
    go_enter Try.func95, Try.ntmps95
    go_wp2_with fail
    refine (uint_calls HH.out n (by omega) hr).mono ?_
    rintro e w2 ⟨rfl, v2, hW2, hS2⟩
    have HR := Lib.hid (And.intro hW2 hS2)
    clear hW2 hS2
    go_wp2_with fail
    go_end0
    exact ⟨rfl, v2, HR.out.1, HR.out.2⟩
def listE (l : List Int) : List Int := layN l.length ++ intsE l
def ListW (w : World) (base p : Nat) (v : Value) (bs : List Int) (er : Int) (l : List Int) (i : Value) (wr : World) : Prop :=
  ∃ k : Nat, k ≤ l.length ∧ i = .int .i64 k ∧ ∃ v', Wr wr base p v' (bs ++ layN l.length ++ intsE (l.take k)) er ∧ WS p v w wr v'
set_option maxRecDepth 100000 in
set_option maxHeartbeats 1000000 in
theorem list_calls {w : World} {base p : Nat} {v : Value} {bs : List Int} {er : Int} (h : Wr w base p v bs er) (hbw : base ≤ w.heap.size) (a : Option Addr) (n c : Nat) (l : List Int) (hn : l.length = n) (ra : RdA w (Wx p v) a (iv l)) (hI : ∀ x ∈ l, I64 x) (hr : bs.length + 9 * (n + 2) ≤ 70368744177664) :
    Calls Try.prog 61 #[.pointer (some ⟨p, 0, none⟩), .slice a n c] w (WrE base p v (bs ++ listE l) (cntE n er) w) := by
  subst hn
  have HH := Lib.hid h
  have HA := Lib.hid ra
  have HI := Lib.hid hI
  have hlay : (layN l.length).length ≤ 9 := by rw [layN_length]; have := kl_le l.length; omega
  clear h ra hI
  go_enter Try.func61, Try.ntmps61
  go_wp2_with fail
  refine (count_calls HH.out l.length (by omega) (by omega)).mono ?_
  rintro e w1 ⟨rfl, v1, hW1, hS1⟩
  generalize cntE l.length er = er1 at *
  have R0 : ListW w base p v bs er1 l (.int .i64 0) w1 := ⟨0, Nat.zero_le _, rfl, v1, by simpa [intsE] using hW1, hS1⟩
  have HR0 := Lib.hid R0
  clear R0 hW1 hS1
  go_wp2_with fail
  go_loopw [12] (fun i wr => ListW w base p v bs er1 l i wr) (fun i _ => l.length - (intOf i).toNat)
  case atStart => exact HR0.out
  case round =>
    obtain ⟨k, hk, rfl, v2, hW, hS⟩ := hrel
    by_cases hlt : k < l.length
    · obtain ⟨y, hy⟩ : ∃ y, l[k]? = some y := ⟨l[k], List.getElem?_eq_getElem hlt⟩
      have hyI := HI.out y (List.mem_of_getElem? hy)
      have kb : (k : Int) < (l.length : Int) := by omega
      obtain ⟨b, o, rfl, hb, hrng, hcell⟩ := (hS.rd HA.out).cellAt (i := k) (v := .int .i64 y) (by unfold iv; rw [List.getElem?_map, hy]; rfl)
      have hsn : l.take (k + 1) = l.take k ++ [y] := by rw [List.take_add_one, hy]; rfl
      have hle := intsE_length (l.take k)
      have hlk : (l.take k).length = k := by rw [List.length_take]; omega
      have hYl := layI_length y
      have HW := Lib.hid hW
      have HS := Lib.hid hS
      have HN := Lib.hid hsn
      have HYI := Lib.hid hyI
      have hbw2 : base ≤ wr.heap.size := by have := hS.fr.size; omega
      have hbl : (bs ++ layN l.length ++ intsE (l.take k)).length + 18 ≤ 70368744177664 := by simp only [List.length_append]; omega
      have HBL := Lib.hid hbl
      clear hW hS hsn hy hyI hle hrng hbl
      go_wp2_with (first
        | (refine wpList_buildSlice1 rfl 81 2 _ rfl [.int .i64 0] 1 8 Try.underlying81 (by kernel_rfl) (by simp) (by omega) (by omega) _ [.int .i64 y] (by rfl) (by rfl) (by simp) ?_; intro w3 B3 F3 S3; have HB3 := Lib.hid B3; have HF3 := Lib.hid F3; clear B3 F3))
      have hap := HW.out.ap (Nat.le_refl _)
      refine (int_calls (HW.out.fr0 HF3.out) (by omega) wr.heap.size 1 [y] HB3.out hap.1 hap.2 1 rfl (fun x hx => by rw [List.mem_singleton.1 hx]; exact HYI.out) (by have := HBL.out; omega)).mono ?_
      rintro e w4 ⟨rfl, v4, hW4, hS4⟩
      have HR := Lib.hid (show ListW w base p v bs er1 l (.int .i64 ((k + 1 : Nat) : Int)) w4 from ⟨k + 1, by omega, rfl, v4, by rw [HN.out, intsE_snoc, ← List.append_assoc]; simpa [intsE] using hW4, HS.out.trans (hS4.pre HF3.out)⟩)
      clear hW4 hS4
      go_wp2_with fail
      go_roundw
      case rel => exact HR.out
      case measure => simp [intOf]; omega
    · have hkl : k = l.length := by omega
      subst hkl
      rw [List.take_length, List.append_assoc] at hW
      have HR := Lib.hid (And.intro hW hS)
      clear hW hS
      go_wp2_with fail
      go_end0
      exact ⟨rfl, v2, HR.out.1, HR.out.2⟩
/-- A queue. -/
structure Que where
  id : Int
  parent : Int
  weight : Int
  qc : Int
  qm : Int
  mc : Int
  mm : Int
def Que.ints (q : Que) : List Int := [q.id, q.parent, q.weight, q.qc, q.qm, q.mc, q.mm]
def Que.cells (q : Que) : List Value := [.int .i64 q.id, .int .i64 q.parent, .int .i64 q.weight, .int .i64 q.qc, .int .i64 q.qm, .int .i64 q.mc, .int .i64 q.mm]
def Que.ok (q : Que) : Prop := ∀ x ∈ q.ints, I64 x
/-- A node. -/
structure Nod where
  id : Int
  cores : Int
  mem : Int
  inc : Int
  beat : Int
def Nod.ints (q : Nod) : List Int := [q.id, q.cores, q.mem, q.inc, q.beat]
def Nod.cells (q : Nod) : List Value := [.int .i64 q.id, .int .i64 q.cores, .int .i64 q.mem, .int .i64 q.inc, .int .i64 q.beat]
def Nod.ok (q : Nod) : Prop := ∀ x ∈ q.ints, I64 x
set_option maxRecDepth 100000 in
set_option maxHeartbeats 1000000 in
theorem queue_calls {w : World} {base p : Nat} {v : Value} {bs : List Int} {er : Int} (h : Wr w base p v bs er) (hbw : base ≤ w.heap.size) (q : Que) (hq : q.ok) (hr : bs.length + 99 ≤ 70368744177664) :
    Calls Try.prog 33 #[.pointer (some ⟨p, 0, none⟩), .agg q.cells.toArray] w (WrE base p v (bs ++ intsE q.ints) er w) := by
  have HH := Lib.hid h
  have HQ := Lib.hid hq
  have hpl := h.hp.lt
  clear h hq
  go_enter Try.func33, Try.ntmps33
  go_wp2_with (first
    | (refine wpList_boxB rfl 25 _ rfl q.cells (by rfl) ?_; intro w1 B1 F1 S1; have c0 : w1.cell? ⟨w.heap.size, 0, none⟩ = some (.int .i64 q.id) := B1.cellAt rfl; have c1 : w1.cell? ⟨w.heap.size, 1, none⟩ = some (.int .i64 q.parent) := B1.cellAt rfl; have c2 : w1.cell? ⟨w.heap.size, 2, none⟩ = some (.int .i64 q.weight) := B1.cellAt rfl; have c3 : w1.cell? ⟨w.heap.size, 3, none⟩ = some (.int .i64 q.qc) := B1.cellAt rfl; have c4 : w1.cell? ⟨w.heap.size, 4, none⟩ = some (.int .i64 q.qm) := B1.cellAt rfl; have c5 : w1.cell? ⟨w.heap.size, 5, none⟩ = some (.int .i64 q.mc) := B1.cellAt rfl; have c6 : w1.cell? ⟨w.heap.size, 6, none⟩ = some (.int .i64 q.mm) := B1.cellAt rfl; have HF1 := Lib.hid F1; have HS1 := Lib.hid S1; clear B1 F1 S1)
    | (refine wpList_buildN rfl 81 2 7 [(0, .tmp 6), (1, .tmp 8), (2, .tmp 10), (3, .tmp 13), (4, .tmp 16), (5, .tmp 19), (6, .tmp 22)] rfl [(0, .int .i64 q.id), (1, .int .i64 q.parent), (2, .int .i64 q.weight), (3, .int .i64 q.qc), (4, .int .i64 q.qm), (5, .int .i64 q.mc), (6, .int .i64 q.mm)] (by rfl) _ (buildI_7 q.id q.parent q.weight q.qc q.qm q.mc q.mm) ?_; intro w2 B2 F2 S2; have HB2 := Lib.hid B2; have HF2 := Lib.hid F2; clear B2 F2 S2))
  have FF := HF1.out.trans0 HF2.out
  have hap := HH.out.ap (g := w1.heap.size) (by have := HS1.out; omega)
  refine (int_calls (HH.out.fr0 FF) (by have := FF.size; omega) w1.heap.size 7 q.ints HB2.out hap.1 hap.2 7 rfl HQ.out (by omega)).mono ?_
  rintro e w3 ⟨rfl, v3, hW3, hS3⟩
  have HR := Lib.hid (And.intro hW3 (hS3.pre FF))
  clear hW3 hS3 FF
  go_wp2_with fail
  go_end0
  exact ⟨rfl, v3, HR.out.1, HR.out.2⟩
set_option maxRecDepth 100000 in
set_option maxHeartbeats 1000000 in
theorem node_calls {w : World} {base p : Nat} {v : Value} {bs : List Int} {er : Int} (h : Wr w base p v bs er) (hbw : base ≤ w.heap.size) (q : Nod) (hq : q.ok) (hr : bs.length + 99 ≤ 70368744177664) :
    Calls Try.prog 34 #[.pointer (some ⟨p, 0, none⟩), .agg q.cells.toArray] w (WrE base p v (bs ++ intsE q.ints) er w) := by
  have HH := Lib.hid h
  have HQ := Lib.hid hq
  have hpl := h.hp.lt
  clear h hq
  go_enter Try.func34, Try.ntmps34
  go_wp2_with (first
    | (refine wpList_boxB rfl 27 _ rfl q.cells (by rfl) ?_; intro w1 B1 F1 S1; have c0 : w1.cell? ⟨w.heap.size, 0, none⟩ = some (.int .i64 q.id) := B1.cellAt rfl; have c1 : w1.cell? ⟨w.heap.size, 1, none⟩ = some (.int .i64 q.cores) := B1.cellAt rfl; have c2 : w1.cell? ⟨w.heap.size, 2, none⟩ = some (.int .i64 q.mem) := B1.cellAt rfl; have c3 : w1.cell? ⟨w.heap.size, 3, none⟩ = some (.int .i64 q.inc) := B1.cellAt rfl; have c4 : w1.cell? ⟨w.heap.size, 4, none⟩ = some (.int .i64 q.beat) := B1.cellAt rfl; have HF1 := Lib.hid F1; have HS1 := Lib.hid S1; clear B1 F1 S1)
    | (refine wpList_buildN rfl 81 2 5 [(0, .tmp 6), (1, .tmp 8), (2, .tmp 10), (3, .tmp 12), (4, .tmp 14)] rfl [(0, .int .i64 q.id), (1, .int .i64 q.cores), (2, .int .i64 q.mem), (3, .int .i64 q.inc), (4, .int .i64 q.beat)] (by rfl) _ (buildI_5 q.id q.cores q.mem q.inc q.beat) ?_; intro w2 B2 F2 S2; have HB2 := Lib.hid B2; have HF2 := Lib.hid F2; clear B2 F2 S2))
  have FF := HF1.out.trans0 HF2.out
  have hap := HH.out.ap (g := w1.heap.size) (by have := HS1.out; omega)
  refine (int_calls (HH.out.fr0 FF) (by have := FF.size; omega) w1.heap.size 5 q.ints HB2.out hap.1 hap.2 5 rfl HQ.out (by omega)).mono ?_
  rintro e w3 ⟨rfl, v3, hW3, hS3⟩
  have HR := Lib.hid (And.intro hW3 (hS3.pre FF))
  clear hW3 hS3 FF
  go_wp2_with fail
  go_end0
  exact ⟨rfl, v3, HR.out.1, HR.out.2⟩
end Go.Fur
