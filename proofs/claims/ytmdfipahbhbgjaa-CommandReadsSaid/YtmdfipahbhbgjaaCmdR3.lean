/- The reader of command: task, command, entry. Written by genr2.py. -/
import Derived.Test.YtmdfipahbhbgjaaCmdA
import Derived.Test.YtmdfipahbhbgjaaCmdW3
namespace Go.Fur
open Go Go.RowKit Go.Proofs
set_option linter.unusedVariables false
set_option linter.unusedSimpArgs false
theorem rU_le (l : List Int) (hb : Byt l) (most bad : Int) (hm : 0 ≤ most) (s : Int × Int) : 0 ≤ (rU l most bad s).1 ∧ (rU l most bad s).1 ≤ most := by
  have h := rU_bnd l hb most bad hm s
  refine ⟨h.1, ?_⟩
  by_cases he : (readN l s.1).2.2 = 0
  · exact h.2.2 he
  · have h0 := readN_err l s.1 he
    unfold rU
    split
    · rw [if_neg (fun hh => he hh.1), h0]
      exact hm
    · exact hm
structure Cmd where
  kind : Int
  id : Int
  inc : Int
  beat : Int
  since : Int
  queue : Que
  node : Nod
  task : Tas
structure Ent where
  gap : Int
  client : Int
  seq : Int
  cmd : Cmd
def Cmd.cells (t : Cmd) (a : Option Addr) (c : Nat) : List Value := [.int .i64 t.kind, .int .i64 t.id, .int .i64 t.inc, .int .i64 t.beat, .int .i64 t.since] ++ t.queue.cells ++ t.node.cells ++ t.task.cells a c
def Ent.cells (t : Ent) (a : Option Addr) (c : Nat) : List Value := [.int .i64 t.gap, .int .i64 t.client, .int .i64 t.seq] ++ t.cmd.cells a c
/-- A value that owns a list of ints. -/
def TasO (base : Nat) (t : Tas) (v : Value) (w : World) : Prop := ∃ a c, v = .agg (t.cells a c).toArray ∧ Own w base 3 1 (.slice a t.tickets.length c) t.tickets.length (iv t.tickets)
def LeaO (base : Nat) (t : Lea) (v : Value) (w : World) : Prop := ∃ a c, v = .agg (t.cells a c).toArray ∧ Own w base 3 1 (.slice a t.cores.length c) t.cores.length (iv t.cores)
def CmdO (base : Nat) (t : Cmd) (v : Value) (w : World) : Prop := ∃ a c, v = .agg (t.cells a c).toArray ∧ Own w base 3 1 (.slice a t.task.tickets.length c) t.task.tickets.length (iv t.task.tickets)
def EntO (base : Nat) (t : Ent) (v : Value) (w : World) : Prop := ∃ a c, v = .agg (t.cells a c).toArray ∧ Own w base 3 1 (.slice a t.cmd.task.tickets.length c) t.cmd.task.tickets.length (iv t.cmd.task.tickets)
/-- What a reader's step answers, where that owns memory. -/
def RoE {β : Type} (base p : Nat) (a : Option Addr) (n c : Nat) (l : List Int) (El : Nat → β → Value → World → Prop) (x : β) (s' : Int × Int) (w : World) (e : Ending) (w' : World) : Prop := ∃ v, e = .returned v ∧ El base x v w' ∧ Rr w' p a n c l s' ∧ Fr [p] w w'
def rT (l : List Int) (s : Int × Int) : Tas × Int × Int := let r1 := rI l s; let r2 := rI l r1.2; let r3 := rV l r2.2; let r4 := rI l r3.2; let r5 := allR l (rI l) r4.2; let r6 := rI l r5.2; (⟨r1.1, r2.1, r3.1.1, r3.1.2, r4.1, r5.1, r6.1⟩, r6.2)
theorem rtask_zero : ∀ w, (zeroValue 30).run Try.prog w = .ok (.agg (([.int .i64 0, .int .i64 0, .int .i64 0, .int .i64 0, .int .i64 0, .slice none 0 0, .int .i64 0] : List Value)).toArray) w := fun w => by kernel_rfl
theorem rtask_size : (Try.prog.info? 30).map (·.size) = some 7 := by kernel_rfl
theorem rtask_build (x1 : Int) (x2 : Int) (x3 y3 : Int) (x4 : Int) (a5 : Option Addr) (n5 k5 : Nat) (x6 : Int) (w : World) : (Instr.build 30 [(0, .int .i64 x1), (1, .int .i64 x2), (2, .agg #[.int .i64 x3, .int .i64 y3]), (3, .int .i64 x4), (4, .slice a5 n5 k5), (5, .int .i64 x6)].toArray).run Try.prog w = .ok (.agg (([.int .i64 x1, .int .i64 x2, .int .i64 x3, .int .i64 y3, .int .i64 x4, .slice a5 n5 k5, .int .i64 x6] : List Value)).toArray) w := by kernel_rfl
set_option maxRecDepth 100000 in
set_option maxHeartbeats 1000000 in
theorem rtask_calls {w : World} {base p : Nat} {a : Option Addr} {n c : Nat} {l : List Int} {s : Int × Int} (hbase : base ≤ w.heap.size) (h : Rr w p a n c l s) :
    Calls Try.prog 92 #[.pointer (some ⟨p, 0, none⟩)] w (RoE base p a n c l TasO (rT l s).1 (rT l s).2 w) := by
  have hbyt := h.src.byt
  unfold rT
  dsimp only
  have HC1 := fun W (hW : Rr W p a n c l s) => int_rcalls hW
  generalize rI l s = r1 at *
  obtain ⟨x1, s1⟩ := r1
  dsimp only at HC1 ⊢
  have HD1 := Lib.hid HC1
  clear HC1
  have HC2 := fun W (hW : Rr W p a n c l s1) => int_rcalls hW
  generalize rI l s1 = r2 at *
  obtain ⟨x2, s2⟩ := r2
  dsimp only at HC2 ⊢
  have HD2 := Lib.hid HC2
  clear HC2
  have HC3 := fun W (hW : Rr W p a n c l s2) => vec_calls hW
  generalize rV l s2 = r3 at *
  obtain ⟨⟨x3, y3⟩, s3⟩ := r3
  dsimp only at HC3 ⊢
  have HD3 := Lib.hid HC3
  clear HC3
  have HC4 := fun W (hW : Rr W p a n c l s3) => int_rcalls hW
  generalize rI l s3 = r4 at *
  obtain ⟨x4, s4⟩ := r4
  dsimp only at HC4 ⊢
  have HD4 := Lib.hid HC4
  clear HC4
  have HC5 := fun W (hW : Rr W p a n c l s4) => all_calls (Nat.le_refl W.heap.size) hW
  generalize allR l (rI l) s4 = r5 at *
  obtain ⟨x5, s5⟩ := r5
  dsimp only at HC5 ⊢
  have HD5 := Lib.hid HC5
  clear HC5
  have HC6 := fun W (hW : Rr W p a n c l s5) => int_rcalls hW
  generalize rI l s5 = r6 at *
  obtain ⟨x6, s6⟩ := r6
  dsimp only at HC6 ⊢
  have HD6 := Lib.hid HC6
  clear HC6
  have HH := Lib.hid h
  have hpl := h.hp.lt
  clear h
  go_enter Try.func92, Try.ntmps92
  go_wp2_with (refine wpList_allocZ rfl 30 rfl _ rtask_zero ?_; intro w1 B1 F1 S1; have HB1 := Lib.hid B1; have HF1 := Lib.hid F1; have HS1 := Lib.hid S1; clear B1 F1 S1)
  have hn : w.heap.size ≠ p := by omega
  have HW1 := Lib.hid (HH.out.fr0 HF1.out)
  have HG1 := Lib.hid (Fr.ext (S := [p]) HF1.out)
  refine (HD1.out _ HW1.out).mono ?_
  rintro e w2 ⟨rfl, hr1, hf1⟩
  have HB2 := Lib.hid (HB1.out.fr hf1 (by simpa using hn))
  have HG2 := Lib.hid (HG1.out.trans1 hf1)
  have HW2 := Lib.hid hr1
  have HZ2 := Lib.hid (show w1.heap.size ≤ w2.heap.size by have := hf1.size; omega)
  clear hr1 hf1 HB1 HW1 HG1
  go_wp2_with fail
  refine (HD2.out _ HW2.out).mono ?_
  rintro e w3 ⟨rfl, hr2, hf2⟩
  have HB3 := Lib.hid (HB2.out.fr hf2 (by simpa using hn))
  have HG3 := Lib.hid (HG2.out.trans1 hf2)
  have HW3 := Lib.hid hr2
  have HZ3 := Lib.hid (show w1.heap.size ≤ w3.heap.size by have := hf2.size; have := HZ2.out; omega)
  clear hr2 hf2 HB2 HW2 HG2
  go_wp2_with fail
  refine (HD3.out _ HW3.out).mono ?_
  rintro e w4 ⟨rfl, hr3, hf3⟩
  have HB4 := Lib.hid (HB3.out.fr hf3 (by simpa using hn))
  have HG4 := Lib.hid (HG3.out.trans1 hf3)
  have HW4 := Lib.hid hr3
  have HZ4 := Lib.hid (show w1.heap.size ≤ w4.heap.size by have := hf3.size; have := HZ3.out; omega)
  clear hr3 hf3 HB3 HW3 HG3
  go_wp2_with fail
  refine (HD4.out _ HW4.out).mono ?_
  rintro e w5 ⟨rfl, hr4, hf4⟩
  have HB5 := Lib.hid (HB4.out.fr hf4 (by simpa using hn))
  have HG5 := Lib.hid (HG4.out.trans1 hf4)
  have HW5 := Lib.hid hr4
  have HZ5 := Lib.hid (show w1.heap.size ≤ w5.heap.size by have := hf4.size; have := HZ4.out; omega)
  clear hr4 hf4 HB4 HW4 HG4
  go_wp2_with fail
  refine (HD5.out _ HW5.out).mono ?_
  rintro e w6 ⟨v5, rfl, ho5, hr5, hf5⟩
  obtain ⟨a5, k5, rfl, q1, q2, q3⟩ := ho5.form
  clear q1 q2 q3
  have HO5_6 := Lib.hid (ho5.base (show w1.heap.size ≤ w5.heap.size by have := HZ5.out; omega))
  clear ho5
  have HB6 := Lib.hid (HB5.out.fr hf5 (by simpa using hn))
  have HG6 := Lib.hid (HG5.out.trans1 hf5)
  have HW6 := Lib.hid hr5
  have HZ6 := Lib.hid (show w1.heap.size ≤ w6.heap.size by have := hf5.size; have := HZ5.out; omega)
  clear hr5 hf5 HB5 HW5 HG5
  go_wp2_with fail
  refine (HD6.out _ HW6.out).mono ?_
  rintro e w7 ⟨rfl, hr6, hf6⟩
  have HO5_7 := Lib.hid (HO5_6.out.fr hf6 (fun g hg hm => by have := (HO5_6.out.lt hg).1; have := HS1.out; have := List.mem_singleton.1 hm; omega))
  have HB7 := Lib.hid (HB6.out.fr hf6 (by simpa using hn))
  have HG7 := Lib.hid (HG6.out.trans1 hf6)
  have HW7 := Lib.hid hr6
  have HZ7 := Lib.hid (show w1.heap.size ≤ w7.heap.size by have := hf6.size; have := HZ6.out; omega)
  clear hr6 hf6 HB6 HW6 HG6 HO5_6
  go_wp2_with (first
    | (refine wpList_buildV rfl 30 [(0, .tmp 4), (1, .tmp 6), (2, .tmp 8), (3, .tmp 10), (4, .tmp 14), (5, .tmp 16)] rfl [(0, .int .i64 x1), (1, .int .i64 x2), (2, .agg #[.int .i64 x3, .int .i64 y3]), (3, .int .i64 x4), (4, .slice a5 x5.length k5), (5, .int .i64 x6)] (by rfl) _ (rtask_build x1 x2 x3 y3 x4 a5 x5.length k5 x6 _) ?_)
    | (refine wpList_storeB rfl 30 _ _ rfl w.heap.size 0 (([.int .i64 x1, .int .i64 x2, .int .i64 x3, .int .i64 y3, .int .i64 x4, .slice a5 x5.length k5, .int .i64 x6] : List Value)) (by rfl) (by rfl) 30 _ HB7.out (by simp [Que.cells, Nod.cells, Tas.cells, Cmd.cells]) (by simpa [Que.cells, Nod.cells, Tas.cells, Cmd.cells] using rtask_size) (by simp [Value.oneCell', Que.cells, Nod.cells, Tas.cells, Cmd.cells]) ?_; intro w0 B0 F0 S0))
  have FF := HG7.out.trans F0 (fun k hk hlt => by simp at hk; omega)
  have B9 : Blk w0 w.heap.size 30 (([.int .i64 x1, .int .i64 x2, .int .i64 x3, .int .i64 y3, .int .i64 x4, .slice a5 x5.length k5, .int .i64 x6] : List Value)) := by simpa [splice, Que.cells, Nod.cells, Tas.cells, Cmd.cells] using B0
  refine bodyPost_ret (results_cellB rfl _ _ w.heap.size 30 _ _ (by rfl) B9 Try.underlying30 rfl (by simpa [Que.cells, Nod.cells, Tas.cells, Cmd.cells] using rtask_size)) rfl ⟨_, rfl, ⟨a5, k5, by simp [Tas.cells], ?_⟩, ⟨HW7.out.hp.fr F0 (by simpa using hn.symm), HH.out.rd.step FF (fun k hk => .inl (by simpa using hk)) (fun k hk => .inl hk), HW7.out.src⟩, FF⟩
  exact (HO5_7.out.fr F0 (fun g hg hm => by have := (HO5_7.out.lt hg).1; have := HS1.out; have := List.mem_singleton.1 hm; omega)).base (by have := HS1.out; omega)
def rL (l : List Int) (s : Int × Int) : Lea × Int × Int := let r1 := rI l s; let r2 := rI l r1.2; let r3 := rI l r2.2; let r4 := allR l (rI l) r3.2; let r5 := rI l r4.2; let r6 := rI l r5.2; let r7 := rI l r6.2; let r8 := rU l 1 4 r7.2; (⟨r1.1, r2.1, r3.1, r4.1, r5.1, r6.1, r7.1, (r8.1 == 1)⟩, r8.2)
theorem rlease_zero : ∀ w, (zeroValue 124).run Try.prog w = .ok (.agg (([.int .i64 0, .int .i64 0, .int .i64 0, .slice none 0 0, .int .i64 0, .int .i64 0, .int .i64 0, .bool false] : List Value)).toArray) w := fun w => by kernel_rfl
theorem rlease_size : (Try.prog.info? 124).map (·.size) = some 8 := by kernel_rfl
theorem rlease_build (x1 : Int) (x2 : Int) (x3 : Int) (a4 : Option Addr) (n4 k4 : Nat) (x5 : Int) (x6 : Int) (x7 : Int) (x8 : Bool) (w : World) : (Instr.build 124 [(0, .int .i64 x1), (1, .int .i64 x2), (2, .int .i64 x3), (3, .slice a4 n4 k4), (4, .int .i64 x5), (5, .int .i64 x6), (6, .int .i64 x7), (7, .bool x8)].toArray).run Try.prog w = .ok (.agg (([.int .i64 x1, .int .i64 x2, .int .i64 x3, .slice a4 n4 k4, .int .i64 x5, .int .i64 x6, .int .i64 x7, .bool x8] : List Value)).toArray) w := by kernel_rfl
set_option maxRecDepth 100000 in
set_option maxHeartbeats 1000000 in
theorem rlease_calls {w : World} {base p : Nat} {a : Option Addr} {n c : Nat} {l : List Int} {s : Int × Int} (hbase : base ≤ w.heap.size) (h : Rr w p a n c l s) :
    Calls Try.prog 84 #[.pointer (some ⟨p, 0, none⟩)] w (RoE base p a n c l LeaO (rL l s).1 (rL l s).2 w) := by
  have hbyt := h.src.byt
  unfold rL
  dsimp only
  have HC1 := fun W (hW : Rr W p a n c l s) => int_rcalls hW
  generalize rI l s = r1 at *
  obtain ⟨x1, s1⟩ := r1
  dsimp only at HC1 ⊢
  have HD1 := Lib.hid HC1
  clear HC1
  have HC2 := fun W (hW : Rr W p a n c l s1) => int_rcalls hW
  generalize rI l s1 = r2 at *
  obtain ⟨x2, s2⟩ := r2
  dsimp only at HC2 ⊢
  have HD2 := Lib.hid HC2
  clear HC2
  have HC3 := fun W (hW : Rr W p a n c l s2) => int_rcalls hW
  generalize rI l s2 = r3 at *
  obtain ⟨x3, s3⟩ := r3
  dsimp only at HC3 ⊢
  have HD3 := Lib.hid HC3
  clear HC3
  have HC4 := fun W (hW : Rr W p a n c l s3) => all_calls (Nat.le_refl W.heap.size) hW
  generalize allR l (rI l) s3 = r4 at *
  obtain ⟨x4, s4⟩ := r4
  dsimp only at HC4 ⊢
  have HD4 := Lib.hid HC4
  clear HC4
  have HC5 := fun W (hW : Rr W p a n c l s4) => int64_calls hW
  generalize rI l s4 = r5 at *
  obtain ⟨x5, s5⟩ := r5
  dsimp only at HC5 ⊢
  have HD5 := Lib.hid HC5
  clear HC5
  have HC6 := fun W (hW : Rr W p a n c l s5) => int64_calls hW
  generalize rI l s5 = r6 at *
  obtain ⟨x6, s6⟩ := r6
  dsimp only at HC6 ⊢
  have HD6 := Lib.hid HC6
  clear HC6
  have HC7 := fun W (hW : Rr W p a n c l s6) => int64_calls hW
  generalize rI l s6 = r7 at *
  obtain ⟨x7, s7⟩ := r7
  dsimp only at HC7 ⊢
  have HD7 := Lib.hid HC7
  clear HC7
  obtain ⟨hle80, hle81⟩ := rU_le l hbyt 1 4 (by omega) s7
  have HC8 := fun W (hW : Rr W p a n c l s7) => upto_calls hW 1 4
  generalize rU l 1 4 s7 = r8 at *
  obtain ⟨x8, s8⟩ := r8
  dsimp only at HC8 hle80 hle81 ⊢
  have HD8 := Lib.hid HC8
  clear HC8 hle80 hle81
  have HH := Lib.hid h
  have hpl := h.hp.lt
  clear h
  go_enter Try.func84, Try.ntmps84
  go_wp2_with (refine wpList_allocZ rfl 124 rfl _ rlease_zero ?_; intro w1 B1 F1 S1; have HB1 := Lib.hid B1; have HF1 := Lib.hid F1; have HS1 := Lib.hid S1; clear B1 F1 S1)
  have hn : w.heap.size ≠ p := by omega
  have HW1 := Lib.hid (HH.out.fr0 HF1.out)
  have HG1 := Lib.hid (Fr.ext (S := [p]) HF1.out)
  refine (HD1.out _ HW1.out).mono ?_
  rintro e w2 ⟨rfl, hr1, hf1⟩
  have HB2 := Lib.hid (HB1.out.fr hf1 (by simpa using hn))
  have HG2 := Lib.hid (HG1.out.trans1 hf1)
  have HW2 := Lib.hid hr1
  have HZ2 := Lib.hid (show w1.heap.size ≤ w2.heap.size by have := hf1.size; omega)
  clear hr1 hf1 HB1 HW1 HG1
  go_wp2_with fail
  refine (HD2.out _ HW2.out).mono ?_
  rintro e w3 ⟨rfl, hr2, hf2⟩
  have HB3 := Lib.hid (HB2.out.fr hf2 (by simpa using hn))
  have HG3 := Lib.hid (HG2.out.trans1 hf2)
  have HW3 := Lib.hid hr2
  have HZ3 := Lib.hid (show w1.heap.size ≤ w3.heap.size by have := hf2.size; have := HZ2.out; omega)
  clear hr2 hf2 HB2 HW2 HG2
  go_wp2_with fail
  refine (HD3.out _ HW3.out).mono ?_
  rintro e w4 ⟨rfl, hr3, hf3⟩
  have HB4 := Lib.hid (HB3.out.fr hf3 (by simpa using hn))
  have HG4 := Lib.hid (HG3.out.trans1 hf3)
  have HW4 := Lib.hid hr3
  have HZ4 := Lib.hid (show w1.heap.size ≤ w4.heap.size by have := hf3.size; have := HZ3.out; omega)
  clear hr3 hf3 HB3 HW3 HG3
  go_wp2_with fail
  refine (HD4.out _ HW4.out).mono ?_
  rintro e w5 ⟨v4, rfl, ho4, hr4, hf4⟩
  obtain ⟨a4, k4, rfl, q1, q2, q3⟩ := ho4.form
  clear q1 q2 q3
  have HO4_5 := Lib.hid (ho4.base (show w1.heap.size ≤ w4.heap.size by have := HZ4.out; omega))
  clear ho4
  have HB5 := Lib.hid (HB4.out.fr hf4 (by simpa using hn))
  have HG5 := Lib.hid (HG4.out.trans1 hf4)
  have HW5 := Lib.hid hr4
  have HZ5 := Lib.hid (show w1.heap.size ≤ w5.heap.size by have := hf4.size; have := HZ4.out; omega)
  clear hr4 hf4 HB4 HW4 HG4
  go_wp2_with fail
  refine (HD5.out _ HW5.out).mono ?_
  rintro e w6 ⟨rfl, hr5, hf5⟩
  have HO4_6 := Lib.hid (HO4_5.out.fr hf5 (fun g hg hm => by have := (HO4_5.out.lt hg).1; have := HS1.out; have := List.mem_singleton.1 hm; omega))
  have HB6 := Lib.hid (HB5.out.fr hf5 (by simpa using hn))
  have HG6 := Lib.hid (HG5.out.trans1 hf5)
  have HW6 := Lib.hid hr5
  have HZ6 := Lib.hid (show w1.heap.size ≤ w6.heap.size by have := hf5.size; have := HZ5.out; omega)
  clear hr5 hf5 HB5 HW5 HG5 HO4_5
  go_wp2_with fail
  refine (HD6.out _ HW6.out).mono ?_
  rintro e w7 ⟨rfl, hr6, hf6⟩
  have HO4_7 := Lib.hid (HO4_6.out.fr hf6 (fun g hg hm => by have := (HO4_6.out.lt hg).1; have := HS1.out; have := List.mem_singleton.1 hm; omega))
  have HB7 := Lib.hid (HB6.out.fr hf6 (by simpa using hn))
  have HG7 := Lib.hid (HG6.out.trans1 hf6)
  have HW7 := Lib.hid hr6
  have HZ7 := Lib.hid (show w1.heap.size ≤ w7.heap.size by have := hf6.size; have := HZ6.out; omega)
  clear hr6 hf6 HB6 HW6 HG6 HO4_6
  go_wp2_with fail
  refine (HD7.out _ HW7.out).mono ?_
  rintro e w8 ⟨rfl, hr7, hf7⟩
  have HO4_8 := Lib.hid (HO4_7.out.fr hf7 (fun g hg hm => by have := (HO4_7.out.lt hg).1; have := HS1.out; have := List.mem_singleton.1 hm; omega))
  have HB8 := Lib.hid (HB7.out.fr hf7 (by simpa using hn))
  have HG8 := Lib.hid (HG7.out.trans1 hf7)
  have HW8 := Lib.hid hr7
  have HZ8 := Lib.hid (show w1.heap.size ≤ w8.heap.size by have := hf7.size; have := HZ7.out; omega)
  clear hr7 hf7 HB7 HW7 HG7 HO4_7
  go_wp2_with fail
  refine (HD8.out _ HW8.out).mono ?_
  rintro e w9 ⟨rfl, hr8, hf8⟩
  have HO4_9 := Lib.hid (HO4_8.out.fr hf8 (fun g hg hm => by have := (HO4_8.out.lt hg).1; have := HS1.out; have := List.mem_singleton.1 hm; omega))
  have HB9 := Lib.hid (HB8.out.fr hf8 (by simpa using hn))
  have HG9 := Lib.hid (HG8.out.trans1 hf8)
  have HW9 := Lib.hid hr8
  have HZ9 := Lib.hid (show w1.heap.size ≤ w9.heap.size by have := hf8.size; have := HZ8.out; omega)
  clear hr8 hf8 HB8 HW8 HG8 HO4_8
  go_wp2_with (first
    | (refine wpList_buildV rfl 124 [(0, .tmp 4), (1, .tmp 6), (2, .tmp 8), (3, .tmp 12), (4, .tmp 14), (5, .tmp 16), (6, .tmp 18), (7, .tmp 21)] rfl [(0, .int .i64 x1), (1, .int .i64 x2), (2, .int .i64 x3), (3, .slice a4 x4.length k4), (4, .int .i64 x5), (5, .int .i64 x6), (6, .int .i64 x7), (7, .bool (x8 == 1))] (by rfl) _ (rlease_build x1 x2 x3 a4 x4.length k4 x5 x6 x7 (x8 == 1) _) ?_)
    | (refine wpList_storeB rfl 124 _ _ rfl w.heap.size 0 (([.int .i64 x1, .int .i64 x2, .int .i64 x3, .slice a4 x4.length k4, .int .i64 x5, .int .i64 x6, .int .i64 x7, .bool (x8 == 1)] : List Value)) (by rfl) (by rfl) 124 _ HB9.out (by simp [Que.cells, Nod.cells, Tas.cells, Cmd.cells]) (by simpa [Que.cells, Nod.cells, Tas.cells, Cmd.cells] using rlease_size) (by simp [Value.oneCell', Que.cells, Nod.cells, Tas.cells, Cmd.cells]) ?_; intro w0 B0 F0 S0))
  have FF := HG9.out.trans F0 (fun k hk hlt => by simp at hk; omega)
  have B9 : Blk w0 w.heap.size 124 (([.int .i64 x1, .int .i64 x2, .int .i64 x3, .slice a4 x4.length k4, .int .i64 x5, .int .i64 x6, .int .i64 x7, .bool (x8 == 1)] : List Value)) := by simpa [splice, Que.cells, Nod.cells, Tas.cells, Cmd.cells] using B0
  refine bodyPost_ret (results_cellB rfl _ _ w.heap.size 124 _ _ (by rfl) B9 Try.underlying124 rfl (by simpa [Que.cells, Nod.cells, Tas.cells, Cmd.cells] using rlease_size)) rfl ⟨_, rfl, ⟨a4, k4, by simp [Lea.cells], ?_⟩, ⟨HW9.out.hp.fr F0 (by simpa using hn.symm), HH.out.rd.step FF (fun k hk => .inl (by simpa using hk)) (fun k hk => .inl hk), HW9.out.src⟩, FF⟩
  exact (HO4_9.out.fr F0 (fun g hg hm => by have := (HO4_9.out.lt hg).1; have := HS1.out; have := List.mem_singleton.1 hm; omega)).base (by have := HS1.out; omega)
def rC (l : List Int) (s : Int × Int) : Cmd × Int × Int := let r1 := rU l 9223372036854775807 4 s; let r2 := rI l r1.2; let r3 := rI l r2.2; let r4 := rI l r3.2; let r5 := rI l r4.2; let r6 := rQ l r5.2; let r7 := rN l r6.2; let r8 := rT l r7.2; (⟨r1.1, r2.1, r3.1, r4.1, r5.1, r6.1, r7.1, r8.1⟩, r8.2)
theorem rcommand_zero : ∀ w, (zeroValue 32).run Try.prog w = .ok (.agg (([.int .i64 0, .int .i64 0, .int .i64 0, .int .i64 0, .int .i64 0, .int .i64 0, .int .i64 0, .int .i64 0, .int .i64 0, .int .i64 0, .int .i64 0, .int .i64 0, .int .i64 0, .int .i64 0, .int .i64 0, .int .i64 0, .int .i64 0, .int .i64 0, .int .i64 0, .int .i64 0, .int .i64 0, .int .i64 0, .slice none 0 0, .int .i64 0] : List Value)).toArray) w := fun w => by kernel_rfl
theorem rcommand_size : (Try.prog.info? 32).map (·.size) = some 24 := by kernel_rfl
theorem rcommand_build (x1 : Int) (x2 : Int) (x3 : Int) (x4 : Int) (x5 : Int) (x6 : Que) (x7 : Nod) (x8 : Tas) (a8 : Option Addr) (k8 : Nat) (w : World) : (Instr.build 32 [(0, .int .i64 x1), (1, .int .i64 x2), (2, .int .i64 x3), (3, .int .i64 x4), (4, .int .i64 x5), (5, .agg x6.cells.toArray), (6, .agg x7.cells.toArray), (7, .agg (x8.cells a8 k8).toArray)].toArray).run Try.prog w = .ok (.agg (([.int .i64 x1, .int .i64 x2, .int .i64 x3, .int .i64 x4, .int .i64 x5] ++ x6.cells ++ x7.cells ++ x8.cells a8 k8 : List Value)).toArray) w := by kernel_rfl
set_option maxRecDepth 100000 in
set_option maxHeartbeats 1000000 in
theorem rcommand_calls {w : World} {base p : Nat} {a : Option Addr} {n c : Nat} {l : List Int} {s : Int × Int} (hbase : base ≤ w.heap.size) (h : Rr w p a n c l s) :
    Calls Try.prog 79 #[.pointer (some ⟨p, 0, none⟩)] w (RoE base p a n c l CmdO (rC l s).1 (rC l s).2 w) := by
  have hbyt := h.src.byt
  unfold rC
  dsimp only
  obtain ⟨hle10, hle11⟩ := rU_le l hbyt 9223372036854775807 4 (by omega) s
  have HC1 := fun W (hW : Rr W p a n c l s) => upto_calls hW 9223372036854775807 4
  generalize rU l 9223372036854775807 4 s = r1 at *
  obtain ⟨x1, s1⟩ := r1
  dsimp only at HC1 hle10 hle11 ⊢
  have hwr1 : wrap64 x1 = x1 := by unfold wrap64; omega
  have HD1 := Lib.hid HC1
  clear HC1
  have HC2 := fun W (hW : Rr W p a n c l s1) => int_rcalls hW
  generalize rI l s1 = r2 at *
  obtain ⟨x2, s2⟩ := r2
  dsimp only at HC2 ⊢
  have HD2 := Lib.hid HC2
  clear HC2
  have HC3 := fun W (hW : Rr W p a n c l s2) => int_rcalls hW
  generalize rI l s2 = r3 at *
  obtain ⟨x3, s3⟩ := r3
  dsimp only at HC3 ⊢
  have HD3 := Lib.hid HC3
  clear HC3
  have HC4 := fun W (hW : Rr W p a n c l s3) => int_rcalls hW
  generalize rI l s3 = r4 at *
  obtain ⟨x4, s4⟩ := r4
  dsimp only at HC4 ⊢
  have HD4 := Lib.hid HC4
  clear HC4
  have HC5 := fun W (hW : Rr W p a n c l s4) => int64_calls hW
  generalize rI l s4 = r5 at *
  obtain ⟨x5, s5⟩ := r5
  dsimp only at HC5 ⊢
  have HD5 := Lib.hid HC5
  clear HC5
  have HC6 := fun W (hW : Rr W p a n c l s5) => rqueue_calls hW
  generalize rQ l s5 = r6 at *
  obtain ⟨x6, s6⟩ := r6
  dsimp only at HC6 ⊢
  have HD6 := Lib.hid HC6
  clear HC6
  have HC7 := fun W (hW : Rr W p a n c l s6) => rnode_calls hW
  generalize rN l s6 = r7 at *
  obtain ⟨x7, s7⟩ := r7
  dsimp only at HC7 ⊢
  have HD7 := Lib.hid HC7
  clear HC7
  have HC8 := fun W (hW : Rr W p a n c l s7) => rtask_calls (Nat.le_refl W.heap.size) hW
  generalize rT l s7 = r8 at *
  obtain ⟨x8, s8⟩ := r8
  dsimp only at HC8 ⊢
  have HD8 := Lib.hid HC8
  clear HC8
  have HH := Lib.hid h
  have hpl := h.hp.lt
  clear h
  go_enter Try.func79, Try.ntmps79
  go_wp2_with (refine wpList_allocZ rfl 32 rfl _ rcommand_zero ?_; intro w1 B1 F1 S1; have HB1 := Lib.hid B1; have HF1 := Lib.hid F1; have HS1 := Lib.hid S1; clear B1 F1 S1)
  have hn : w.heap.size ≠ p := by omega
  have HW1 := Lib.hid (HH.out.fr0 HF1.out)
  have HG1 := Lib.hid (Fr.ext (S := [p]) HF1.out)
  refine (HD1.out _ HW1.out).mono ?_
  rintro e w2 ⟨rfl, hr1, hf1⟩
  have HB2 := Lib.hid (HB1.out.fr hf1 (by simpa using hn))
  have HG2 := Lib.hid (HG1.out.trans1 hf1)
  have HW2 := Lib.hid hr1
  have HZ2 := Lib.hid (show w1.heap.size ≤ w2.heap.size by have := hf1.size; omega)
  clear hr1 hf1 HB1 HW1 HG1
  go_wp2_with fail
  refine (HD2.out _ HW2.out).mono ?_
  rintro e w3 ⟨rfl, hr2, hf2⟩
  have HB3 := Lib.hid (HB2.out.fr hf2 (by simpa using hn))
  have HG3 := Lib.hid (HG2.out.trans1 hf2)
  have HW3 := Lib.hid hr2
  have HZ3 := Lib.hid (show w1.heap.size ≤ w3.heap.size by have := hf2.size; have := HZ2.out; omega)
  clear hr2 hf2 HB2 HW2 HG2
  go_wp2_with fail
  refine (HD3.out _ HW3.out).mono ?_
  rintro e w4 ⟨rfl, hr3, hf3⟩
  have HB4 := Lib.hid (HB3.out.fr hf3 (by simpa using hn))
  have HG4 := Lib.hid (HG3.out.trans1 hf3)
  have HW4 := Lib.hid hr3
  have HZ4 := Lib.hid (show w1.heap.size ≤ w4.heap.size by have := hf3.size; have := HZ3.out; omega)
  clear hr3 hf3 HB3 HW3 HG3
  go_wp2_with fail
  refine (HD4.out _ HW4.out).mono ?_
  rintro e w5 ⟨rfl, hr4, hf4⟩
  have HB5 := Lib.hid (HB4.out.fr hf4 (by simpa using hn))
  have HG5 := Lib.hid (HG4.out.trans1 hf4)
  have HW5 := Lib.hid hr4
  have HZ5 := Lib.hid (show w1.heap.size ≤ w5.heap.size by have := hf4.size; have := HZ4.out; omega)
  clear hr4 hf4 HB4 HW4 HG4
  go_wp2_with fail
  refine (HD5.out _ HW5.out).mono ?_
  rintro e w6 ⟨rfl, hr5, hf5⟩
  have HB6 := Lib.hid (HB5.out.fr hf5 (by simpa using hn))
  have HG6 := Lib.hid (HG5.out.trans1 hf5)
  have HW6 := Lib.hid hr5
  have HZ6 := Lib.hid (show w1.heap.size ≤ w6.heap.size by have := hf5.size; have := HZ5.out; omega)
  clear hr5 hf5 HB5 HW5 HG5
  go_wp2_with fail
  refine (HD6.out _ HW6.out).mono ?_
  rintro e w7 ⟨rfl, hr6, hf6⟩
  have HB7 := Lib.hid (HB6.out.fr hf6 (by simpa using hn))
  have HG7 := Lib.hid (HG6.out.trans1 hf6)
  have HW7 := Lib.hid hr6
  have HZ7 := Lib.hid (show w1.heap.size ≤ w7.heap.size by have := hf6.size; have := HZ6.out; omega)
  clear hr6 hf6 HB6 HW6 HG6
  go_wp2_with fail
  refine (HD7.out _ HW7.out).mono ?_
  rintro e w8 ⟨rfl, hr7, hf7⟩
  have HB8 := Lib.hid (HB7.out.fr hf7 (by simpa using hn))
  have HG8 := Lib.hid (HG7.out.trans1 hf7)
  have HW8 := Lib.hid hr7
  have HZ8 := Lib.hid (show w1.heap.size ≤ w8.heap.size by have := hf7.size; have := HZ7.out; omega)
  clear hr7 hf7 HB7 HW7 HG7
  go_wp2_with fail
  refine (HD8.out _ HW8.out).mono ?_
  rintro e w9 ⟨v8, rfl, ⟨a8, k8, rfl, ho8⟩, hr8, hf8⟩
  have HO8_9 := Lib.hid (ho8.base (show w1.heap.size ≤ w8.heap.size by have := HZ8.out; omega))
  clear ho8
  have HB9 := Lib.hid (HB8.out.fr hf8 (by simpa using hn))
  have HG9 := Lib.hid (HG8.out.trans1 hf8)
  have HW9 := Lib.hid hr8
  have HZ9 := Lib.hid (show w1.heap.size ≤ w9.heap.size by have := hf8.size; have := HZ8.out; omega)
  clear hr8 hf8 HB8 HW8 HG8
  go_wp2_with (first
    | (refine wpList_buildV rfl 32 [(0, .tmp 5), (1, .tmp 7), (2, .tmp 9), (3, .tmp 11), (4, .tmp 13), (5, .tmp 15), (6, .tmp 17), (7, .tmp 19)] rfl [(0, .int .i64 x1), (1, .int .i64 x2), (2, .int .i64 x3), (3, .int .i64 x4), (4, .int .i64 x5), (5, .agg x6.cells.toArray), (6, .agg x7.cells.toArray), (7, .agg (x8.cells a8 k8).toArray)] (by rfl) _ (rcommand_build x1 x2 x3 x4 x5 x6 x7 x8 a8 k8 _) ?_)
    | (refine wpList_storeB rfl 32 _ _ rfl w.heap.size 0 (([.int .i64 x1, .int .i64 x2, .int .i64 x3, .int .i64 x4, .int .i64 x5] ++ x6.cells ++ x7.cells ++ x8.cells a8 k8 : List Value)) (by rfl) (by rfl) 32 _ HB9.out (by simp [Que.cells, Nod.cells, Tas.cells, Cmd.cells]) (by simpa [Que.cells, Nod.cells, Tas.cells, Cmd.cells] using rcommand_size) (by simp [Value.oneCell', Que.cells, Nod.cells, Tas.cells, Cmd.cells]) ?_; intro w0 B0 F0 S0))
  have FF := HG9.out.trans F0 (fun k hk hlt => by simp at hk; omega)
  have B9 : Blk w0 w.heap.size 32 (([.int .i64 x1, .int .i64 x2, .int .i64 x3, .int .i64 x4, .int .i64 x5] ++ x6.cells ++ x7.cells ++ x8.cells a8 k8 : List Value)) := by simpa [splice, Que.cells, Nod.cells, Tas.cells, Cmd.cells] using B0
  refine bodyPost_ret (results_cellB rfl _ _ w.heap.size 32 _ _ (by rfl) B9 Try.underlying32 rfl (by simpa [Que.cells, Nod.cells, Tas.cells, Cmd.cells] using rcommand_size)) rfl ⟨_, rfl, ⟨a8, k8, by simp [Cmd.cells], ?_⟩, ⟨HW9.out.hp.fr F0 (by simpa using hn.symm), HH.out.rd.step FF (fun k hk => .inl (by simpa using hk)) (fun k hk => .inl hk), HW9.out.src⟩, FF⟩
  exact (HO8_9.out.fr F0 (fun g hg hm => by have := (HO8_9.out.lt hg).1; have := HS1.out; have := List.mem_singleton.1 hm; omega)).base (by have := HS1.out; omega)
def rE (l : List Int) (s : Int × Int) : Ent × Int × Int := let r1 := rI l s; let r2 := rI l r1.2; let r3 := rI l r2.2; let r4 := rC l r3.2; (⟨r1.1, r2.1, r3.1, r4.1⟩, r4.2)
theorem rentry_zero : ∀ w, (zeroValue 34).run Try.prog w = .ok (.agg (([.int .i64 0, .int .i64 0, .int .i64 0, .int .i64 0, .int .i64 0, .int .i64 0, .int .i64 0, .int .i64 0, .int .i64 0, .int .i64 0, .int .i64 0, .int .i64 0, .int .i64 0, .int .i64 0, .int .i64 0, .int .i64 0, .int .i64 0, .int .i64 0, .int .i64 0, .int .i64 0, .int .i64 0, .int .i64 0, .int .i64 0, .int .i64 0, .int .i64 0, .slice none 0 0, .int .i64 0] : List Value)).toArray) w := fun w => by kernel_rfl
theorem rentry_size : (Try.prog.info? 34).map (·.size) = some 27 := by kernel_rfl
theorem rentry_build (x1 : Int) (x2 : Int) (x3 : Int) (x4 : Cmd) (a4 : Option Addr) (k4 : Nat) (w : World) : (Instr.build 34 [(0, .int .i64 x1), (1, .int .i64 x2), (2, .int .i64 x3), (3, .agg (x4.cells a4 k4).toArray)].toArray).run Try.prog w = .ok (.agg (([.int .i64 x1, .int .i64 x2, .int .i64 x3] ++ x4.cells a4 k4 : List Value)).toArray) w := by kernel_rfl
set_option maxRecDepth 100000 in
set_option maxHeartbeats 1000000 in
theorem rentry_calls {w : World} {base p : Nat} {a : Option Addr} {n c : Nat} {l : List Int} {s : Int × Int} (hbase : base ≤ w.heap.size) (h : Rr w p a n c l s) :
    Calls Try.prog 44 #[.pointer (some ⟨p, 0, none⟩)] w (RoE base p a n c l EntO (rE l s).1 (rE l s).2 w) := by
  have hbyt := h.src.byt
  unfold rE
  dsimp only
  have HC1 := fun W (hW : Rr W p a n c l s) => int64_calls hW
  generalize rI l s = r1 at *
  obtain ⟨x1, s1⟩ := r1
  dsimp only at HC1 ⊢
  have HD1 := Lib.hid HC1
  clear HC1
  have HC2 := fun W (hW : Rr W p a n c l s1) => int_rcalls hW
  generalize rI l s1 = r2 at *
  obtain ⟨x2, s2⟩ := r2
  dsimp only at HC2 ⊢
  have HD2 := Lib.hid HC2
  clear HC2
  have HC3 := fun W (hW : Rr W p a n c l s2) => int_rcalls hW
  generalize rI l s2 = r3 at *
  obtain ⟨x3, s3⟩ := r3
  dsimp only at HC3 ⊢
  have HD3 := Lib.hid HC3
  clear HC3
  have HC4 := fun W (hW : Rr W p a n c l s3) => rcommand_calls (Nat.le_refl W.heap.size) hW
  generalize rC l s3 = r4 at *
  obtain ⟨x4, s4⟩ := r4
  dsimp only at HC4 ⊢
  have HD4 := Lib.hid HC4
  clear HC4
  have HH := Lib.hid h
  have hpl := h.hp.lt
  clear h
  go_enter Try.func44, Try.ntmps44
  go_wp2_with (refine wpList_allocZ rfl 34 rfl _ rentry_zero ?_; intro w1 B1 F1 S1; have HB1 := Lib.hid B1; have HF1 := Lib.hid F1; have HS1 := Lib.hid S1; clear B1 F1 S1)
  have hn : w.heap.size ≠ p := by omega
  have HW1 := Lib.hid (HH.out.fr0 HF1.out)
  have HG1 := Lib.hid (Fr.ext (S := [p]) HF1.out)
  refine (HD1.out _ HW1.out).mono ?_
  rintro e w2 ⟨rfl, hr1, hf1⟩
  have HB2 := Lib.hid (HB1.out.fr hf1 (by simpa using hn))
  have HG2 := Lib.hid (HG1.out.trans1 hf1)
  have HW2 := Lib.hid hr1
  have HZ2 := Lib.hid (show w1.heap.size ≤ w2.heap.size by have := hf1.size; omega)
  clear hr1 hf1 HB1 HW1 HG1
  go_wp2_with fail
  refine (HD2.out _ HW2.out).mono ?_
  rintro e w3 ⟨rfl, hr2, hf2⟩
  have HB3 := Lib.hid (HB2.out.fr hf2 (by simpa using hn))
  have HG3 := Lib.hid (HG2.out.trans1 hf2)
  have HW3 := Lib.hid hr2
  have HZ3 := Lib.hid (show w1.heap.size ≤ w3.heap.size by have := hf2.size; have := HZ2.out; omega)
  clear hr2 hf2 HB2 HW2 HG2
  go_wp2_with fail
  refine (HD3.out _ HW3.out).mono ?_
  rintro e w4 ⟨rfl, hr3, hf3⟩
  have HB4 := Lib.hid (HB3.out.fr hf3 (by simpa using hn))
  have HG4 := Lib.hid (HG3.out.trans1 hf3)
  have HW4 := Lib.hid hr3
  have HZ4 := Lib.hid (show w1.heap.size ≤ w4.heap.size by have := hf3.size; have := HZ3.out; omega)
  clear hr3 hf3 HB3 HW3 HG3
  go_wp2_with fail
  refine (HD4.out _ HW4.out).mono ?_
  rintro e w5 ⟨v4, rfl, ⟨a4, k4, rfl, ho4⟩, hr4, hf4⟩
  have HO4_5 := Lib.hid (ho4.base (show w1.heap.size ≤ w4.heap.size by have := HZ4.out; omega))
  clear ho4
  have HB5 := Lib.hid (HB4.out.fr hf4 (by simpa using hn))
  have HG5 := Lib.hid (HG4.out.trans1 hf4)
  have HW5 := Lib.hid hr4
  have HZ5 := Lib.hid (show w1.heap.size ≤ w5.heap.size by have := hf4.size; have := HZ4.out; omega)
  clear hr4 hf4 HB4 HW4 HG4
  go_wp2_with (first
    | (refine wpList_buildV rfl 34 [(0, .tmp 4), (1, .tmp 6), (2, .tmp 8), (3, .tmp 10)] rfl [(0, .int .i64 x1), (1, .int .i64 x2), (2, .int .i64 x3), (3, .agg (x4.cells a4 k4).toArray)] (by rfl) _ (rentry_build x1 x2 x3 x4 a4 k4 _) ?_)
    | (refine wpList_storeB rfl 34 _ _ rfl w.heap.size 0 (([.int .i64 x1, .int .i64 x2, .int .i64 x3] ++ x4.cells a4 k4 : List Value)) (by rfl) (by rfl) 34 _ HB5.out (by simp [Que.cells, Nod.cells, Tas.cells, Cmd.cells]) (by simpa [Que.cells, Nod.cells, Tas.cells, Cmd.cells] using rentry_size) (by simp [Value.oneCell', Que.cells, Nod.cells, Tas.cells, Cmd.cells]) ?_; intro w0 B0 F0 S0))
  have FF := HG5.out.trans F0 (fun k hk hlt => by simp at hk; omega)
  have B9 : Blk w0 w.heap.size 34 (([.int .i64 x1, .int .i64 x2, .int .i64 x3] ++ x4.cells a4 k4 : List Value)) := by simpa [splice, Que.cells, Nod.cells, Tas.cells, Cmd.cells] using B0
  refine bodyPost_ret (results_cellB rfl _ _ w.heap.size 34 _ _ (by rfl) B9 Try.underlying34 rfl (by simpa [Que.cells, Nod.cells, Tas.cells, Cmd.cells] using rentry_size)) rfl ⟨_, rfl, ⟨a4, k4, by simp [Ent.cells], ?_⟩, ⟨HW5.out.hp.fr F0 (by simpa using hn.symm), HH.out.rd.step FF (fun k hk => .inl (by simpa using hk)) (fun k hk => .inl hk), HW5.out.src⟩, FF⟩
  exact (HO4_5.out.fr F0 (fun g hg hm => by have := (HO4_5.out.lt hg).1; have := HS1.out; have := List.mem_singleton.1 hm; omega)).base (by have := HS1.out; omega)
end Go.Fur
