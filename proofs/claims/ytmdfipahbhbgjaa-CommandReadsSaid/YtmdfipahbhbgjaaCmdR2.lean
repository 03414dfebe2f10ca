/- The reader of command: vec, queue, node, hunger. Written by genr.py. -/
import Derived.Test.YtmdfipahbhbgjaaCmdR
import Derived.Test.YtmdfipahbhbgjaaCmdW2
namespace Go.Fur
open Go Go.RowKit Go.Proofs
set_option linter.unusedVariables false
set_option linter.unusedSimpArgs false
theorem run_build_at {P : Program} {a : Act} {w : World} {o : Oper} (t : TypeId) (ps : List (Nat × Operand)) (ho : o.op = .build t ps.toArray) (parts : List (Nat × Value)) (hp : (ps.map fun p => (p.1, a.eval p.2)) = parts) (v : Value) (hr : (Instr.build t parts.toArray).run P w = .ok v w) :
    (execOp a.eval o).run P w = .ok (.value v) w := by
  unfold execOp
  simp only [ho, List.map_toArray, hp, Sem.run_bind, hr, Result.andThen_ok, Sem.run_pure]
theorem wpList_buildV {P : Program} {ops : Array Oper} {rest : List Oper} {o : Oper} {a : Act} {w : World} {Q : Exit → Act → World → Prop} (hgd : o.guard = none) (t : TypeId) (ps : List (Nat × Operand)) (ho : o.op = .build t ps.toArray) (parts : List (Nat × Value)) (hp : (ps.map fun p => (p.1, a.eval p.2)) = parts) (v : Value) (hr : (Instr.build t parts.toArray).run P w = .ok v w)
    (h : wpList P ops Q rest (a.put o.dst v) w) : wpList P ops Q (o :: rest) a w :=
  wpList_plain hgd fun K hK => by
    unfold Oper.wp
    rw [run_build_at t ps ho parts hp v hr]
    exact hK _ _ h
def rV (l : List Int) (s : Int × Int) : (Int × Int) × Int × Int := let r1 := rI l s; let r2 := rI l r1.2; ((r1.1, r2.1), r2.2)
theorem vec_zero : ∀ w, (zeroValue 23).run Try.prog w = .ok (.agg [.int .i64 0, .int .i64 0].toArray) w := fun w => by kernel_rfl
theorem vec_size : (Try.prog.info? 23).map (·.size) = some 2 := by kernel_rfl
theorem vec_build (x1 x2 : Int) (w : World) : (Instr.build 23 [(0, .int .i64 x1), (1, .int .i64 x2)].toArray).run Try.prog w = .ok (.agg [.int .i64 x1, .int .i64 x2].toArray) w := by kernel_rfl
set_option maxRecDepth 100000 in
set_option maxHeartbeats 1000000 in
theorem vec_calls {w : World} {p : Nat} {a : Option Addr} {n c : Nat} {l : List Int} {s : Int × Int} (h : Rr w p a n c l s) :
    Calls Try.prog 106 #[.pointer (some ⟨p, 0, none⟩)] w (RrE p a n c l (.agg #[.int .i64 (rV l s).1.1, .int .i64 (rV l s).1.2]) (rV l s).2 w) := by
  unfold rV
  dsimp only
  have HC1 := fun W (hW : Rr W p a n c l s) => int64_calls hW
  generalize rI l s = r1 at *
  obtain ⟨x1, s1⟩ := r1
  dsimp only at HC1 ⊢
  have HD1 := Lib.hid HC1
  clear HC1
  have HC2 := fun W (hW : Rr W p a n c l s1) => int64_calls hW
  generalize rI l s1 = r2 at *
  obtain ⟨x2, s2⟩ := r2
  dsimp only at HC2 ⊢
  have HD2 := Lib.hid HC2
  clear HC2
  have HH := Lib.hid h
  have hpl := h.hp.lt
  clear h
  go_enter Try.func106, Try.ntmps106
  go_wp2_with (refine wpList_allocZ rfl 23 rfl _ vec_zero ?_; intro w1 B1 F1 S1; have HB1 := Lib.hid B1; have HF1 := Lib.hid F1; have HS1 := Lib.hid S1; clear B1 F1 S1)
  have hn : w.heap.size ≠ p := by omega
  have HW1 := Lib.hid (HH.out.fr0 HF1.out)
  have HG1 := Lib.hid (Fr.ext (S := [p]) HF1.out)
  refine (HD1.out _ HW1.out).mono ?_
  rintro e w2 ⟨rfl, hr1, hf1⟩
  have HB2 := Lib.hid (HB1.out.fr hf1 (by simpa using hn))
  have HG2 := Lib.hid (HG1.out.trans1 hf1)
  have HW2 := Lib.hid hr1
  clear hr1 hf1 HB1 HW1 HG1
  go_wp2_with fail
  refine (HD2.out _ HW2.out).mono ?_
  rintro e w3 ⟨rfl, hr2, hf2⟩
  have HB3 := Lib.hid (HB2.out.fr hf2 (by simpa using hn))
  have HG3 := Lib.hid (HG2.out.trans1 hf2)
  have HW3 := Lib.hid hr2
  clear hr2 hf2 HB2 HW2 HG2
  go_wp2_with (first
    | (refine wpList_buildV rfl 23 [(0, .tmp 4), (1, .tmp 6)] rfl [(0, .int .i64 x1), (1, .int .i64 x2)] (by rfl) _ (vec_build x1 x2 _) ?_)
    | (refine wpList_storeB rfl 23 _ _ rfl w.heap.size 0 [.int .i64 x1, .int .i64 x2] (by rfl) (by rfl) 23 _ HB3.out (by simp) vec_size (by simp [Value.oneCell']) ?_; intro w0 B0 F0 S0))
  have FF := HG3.out.trans F0 (fun k hk hlt => by simp at hk; omega)
  refine bodyPost_ret (results_cellB rfl _ _ w.heap.size 23 _ _ (by rfl) B0 Try.underlying23 rfl (by simpa [splice] using vec_size)) rfl ⟨by simp [splice], ⟨HW3.out.hp.fr F0 (by simpa using hn.symm), HH.out.rd.step FF (fun k hk => .inl (by simpa using hk)) (fun k hk => .inl hk), HW3.out.src⟩, FF⟩
def rQ (l : List Int) (s : Int × Int) : Que × Int × Int := let r1 := rI l s; let r2 := rI l r1.2; let r3 := rI l r2.2; let r4 := rV l r3.2; let r5 := rV l r4.2; (⟨r1.1, r2.1, r3.1, r4.1.1, r4.1.2, r5.1.1, r5.1.2⟩, r5.2)
theorem rqueue_zero : ∀ w, (zeroValue 25).run Try.prog w = .ok (.agg [.int .i64 0, .int .i64 0, .int .i64 0, .int .i64 0, .int .i64 0, .int .i64 0, .int .i64 0].toArray) w := fun w => by kernel_rfl
theorem rqueue_size : (Try.prog.info? 25).map (·.size) = some 7 := by kernel_rfl
theorem rqueue_build (x1 x2 x3 x4 y4 x5 y5 : Int) (w : World) : (Instr.build 25 [(0, .int .i64 x1), (1, .int .i64 x2), (2, .int .i64 x3), (3, .agg #[.int .i64 x4, .int .i64 y4]), (4, .agg #[.int .i64 x5, .int .i64 y5])].toArray).run Try.prog w = .ok (.agg [.int .i64 x1, .int .i64 x2, .int .i64 x3, .int .i64 x4, .int .i64 y4, .int .i64 x5, .int .i64 y5].toArray) w := by kernel_rfl
set_option maxRecDepth 100000 in
set_option maxHeartbeats 1000000 in
theorem rqueue_calls {w : World} {p : Nat} {a : Option Addr} {n c : Nat} {l : List Int} {s : Int × Int} (h : Rr w p a n c l s) :
    Calls Try.prog 88 #[.pointer (some ⟨p, 0, none⟩)] w (RrE p a n c l (.agg (rQ l s).1.cells.toArray) (rQ l s).2 w) := by
  unfold rQ
  dsimp only
  have HC1 := fun W (hW : Rr W p a n c l s) => int_rcalls hW
  generalize rI l s = r1 at *
  obtain ⟨x1, s1⟩ := r1
  dsimp only at HC1 ⊢
  have HD1 := Lib.hid HC1
  clear HC1
  have HC2 := fun W (hW : Rr W p a n c l s1) => int_rcalls hW
  generalize rI l s1 = r2 at *
  obtain ⟨x2, s2⟩ := r2
  dsimp only at HC2 ⊢
  have HD2 := Lib.hid HC2
  clear HC2
  have HC3 := fun W (hW : Rr W p a n c l s2) => int64_calls hW
  generalize rI l s2 = r3 at *
  obtain ⟨x3, s3⟩ := r3
  dsimp only at HC3 ⊢
  have HD3 := Lib.hid HC3
  clear HC3
  have HC4 := fun W (hW : Rr W p a n c l s3) => vec_calls hW
  generalize rV l s3 = r4 at *
  obtain ⟨⟨x4, y4⟩, s4⟩ := r4
  dsimp only at HC4 ⊢
  have HD4 := Lib.hid HC4
  clear HC4
  have HC5 := fun W (hW : Rr W p a n c l s4) => vec_calls hW
  generalize rV l s4 = r5 at *
  obtain ⟨⟨x5, y5⟩, s5⟩ := r5
  dsimp only at HC5 ⊢
  have HD5 := Lib.hid HC5
  clear HC5
  have HH := Lib.hid h
  have hpl := h.hp.lt
  clear h
  go_enter Try.func88, Try.ntmps88
  go_wp2_with (refine wpList_allocZ rfl 25 rfl _ rqueue_zero ?_; intro w1 B1 F1 S1; have HB1 := Lib.hid B1; have HF1 := Lib.hid F1; have HS1 := Lib.hid S1; clear B1 F1 S1)
  have hn : w.heap.size ≠ p := by omega
  have HW1 := Lib.hid (HH.out.fr0 HF1.out)
  have HG1 := Lib.hid (Fr.ext (S := [p]) HF1.out)
  refine (HD1.out _ HW1.out).mono ?_
  rintro e w2 ⟨rfl, hr1, hf1⟩
  have HB2 := Lib.hid (HB1.out.fr hf1 (by simpa using hn))
  have HG2 := Lib.hid (HG1.out.trans1 hf1)
  have HW2 := Lib.hid hr1
  clear hr1 hf1 HB1 HW1 HG1
  go_wp2_with fail
  refine (HD2.out _ HW2.out).mono ?_
  rintro e w3 ⟨rfl, hr2, hf2⟩
  have HB3 := Lib.hid (HB2.out.fr hf2 (by simpa using hn))
  have HG3 := Lib.hid (HG2.out.trans1 hf2)
  have HW3 := Lib.hid hr2
  clear hr2 hf2 HB2 HW2 HG2
  go_wp2_with fail
  refine (HD3.out _ HW3.out).mono ?_
  rintro e w4 ⟨rfl, hr3, hf3⟩
  have HB4 := Lib.hid (HB3.out.fr hf3 (by simpa using hn))
  have HG4 := Lib.hid (HG3.out.trans1 hf3)
  have HW4 := Lib.hid hr3
  clear hr3 hf3 HB3 HW3 HG3
  go_wp2_with fail
  refine (HD4.out _ HW4.out).mono ?_
  rintro e w5 ⟨rfl, hr4, hf4⟩
  have HB5 := Lib.hid (HB4.out.fr hf4 (by simpa using hn))
  have HG5 := Lib.hid (HG4.out.trans1 hf4)
  have HW5 := Lib.hid hr4
  clear hr4 hf4 HB4 HW4 HG4
  go_wp2_with fail
  refine (HD5.out _ HW5.out).mono ?_
  rintro e w6 ⟨rfl, hr5, hf5⟩
  have HB6 := Lib.hid (HB5.out.fr hf5 (by simpa using hn))
  have HG6 := Lib.hid (HG5.out.trans1 hf5)
  have HW6 := Lib.hid hr5
  clear hr5 hf5 HB5 HW5 HG5
  go_wp2_with (first
    | (refine wpList_buildV rfl 25 [(0, .tmp 4), (1, .tmp 6), (2, .tmp 8), (3, .tmp 10), (4, .tmp 12)] rfl [(0, .int .i64 x1), (1, .int .i64 x2), (2, .int .i64 x3), (3, .agg #[.int .i64 x4, .int .i64 y4]), (4, .agg #[.int .i64 x5, .int .i64 y5])] (by rfl) _ (rqueue_build x1 x2 x3 x4 y4 x5 y5 _) ?_)
    | (refine wpList_storeB rfl 25 _ _ rfl w.heap.size 0 [.int .i64 x1, .int .i64 x2, .int .i64 x3, .int .i64 x4, .int .i64 y4, .int .i64 x5, .int .i64 y5] (by rfl) (by rfl) 25 _ HB6.out (by simp) rqueue_size (by simp [Value.oneCell']) ?_; intro w0 B0 F0 S0))
  have FF := HG6.out.trans F0 (fun k hk hlt => by simp at hk; omega)
  refine bodyPost_ret (results_cellB rfl _ _ w.heap.size 25 _ _ (by rfl) B0 Try.underlying25 rfl (by simpa [splice] using rqueue_size)) rfl ⟨by simp [splice, Que.cells], ⟨HW6.out.hp.fr F0 (by simpa using hn.symm), HH.out.rd.step FF (fun k hk => .inl (by simpa using hk)) (fun k hk => .inl hk), HW6.out.src⟩, FF⟩
def rN (l : List Int) (s : Int × Int) : Nod × Int × Int := let r1 := rI l s; let r2 := rI l r1.2; let r3 := rI l r2.2; let r4 := rI l r3.2; let r5 := rI l r4.2; (⟨r1.1, r2.1, r3.1, r4.1, r5.1⟩, r5.2)
theorem rnode_zero : ∀ w, (zeroValue 27).run Try.prog w = .ok (.agg [.int .i64 0, .int .i64 0, .int .i64 0, .int .i64 0, .int .i64 0].toArray) w := fun w => by kernel_rfl
theorem rnode_size : (Try.prog.info? 27).map (·.size) = some 5 := by kernel_rfl
theorem rnode_build (x1 x2 x3 x4 x5 : Int) (w : World) : (Instr.build 27 [(0, .int .i64 x1), (1, .int .i64 x2), (2, .int .i64 x3), (3, .int .i64 x4), (4, .int .i64 x5)].toArray).run Try.prog w = .ok (.agg [.int .i64 x1, .int .i64 x2, .int .i64 x3, .int .i64 x4, .int .i64 x5].toArray) w := by kernel_rfl
set_option maxRecDepth 100000 in
set_option maxHeartbeats 1000000 in
theorem rnode_calls {w : World} {p : Nat} {a : Option Addr} {n c : Nat} {l : List Int} {s : Int × Int} (h : Rr w p a n c l s) :
    Calls Try.prog 90 #[.pointer (some ⟨p, 0, none⟩)] w (RrE p a n c l (.agg (rN l s).1.cells.toArray) (rN l s).2 w) := by
  unfold rN
  dsimp only
  have HC1 := fun W (hW : Rr W p a n c l s) => int_rcalls hW
  generalize rI l s = r1 at *
  obtain ⟨x1, s1⟩ := r1
  dsimp only at HC1 ⊢
  have HD1 := Lib.hid HC1
  clear HC1
  have HC2 := fun W (hW : Rr W p a n c l s1) => int_rcalls hW
  generalize rI l s1 = r2 at *
  obtain ⟨x2, s2⟩ := r2
  dsimp only at HC2 ⊢
  have HD2 := Lib.hid HC2
  clear HC2
  have HC3 := fun W (hW : Rr W p a n c l s2) => int64_calls hW
  generalize rI l s2 = r3 at *
  obtain ⟨x3, s3⟩ := r3
  dsimp only at HC3 ⊢
  have HD3 := Lib.hid HC3
  clear HC3
  have HC4 := fun W (hW : Rr W p a n c l s3) => int_rcalls hW
  generalize rI l s3 = r4 at *
  obtain ⟨x4, s4⟩ := r4
  dsimp only at HC4 ⊢
  have HD4 := Lib.hid HC4
  clear HC4
  have HC5 := fun W (hW : Rr W p a n c l s4) => int_rcalls hW
  generalize rI l s4 = r5 at *
  obtain ⟨x5, s5⟩ := r5
  dsimp only at HC5 ⊢
  have HD5 := Lib.hid HC5
  clear HC5
  have HH := Lib.hid h
  have hpl := h.hp.lt
  clear h
  go_enter Try.func90, Try.ntmps90
  go_wp2_with (refine wpList_allocZ rfl 27 rfl _ rnode_zero ?_; intro w1 B1 F1 S1; have HB1 := Lib.hid B1; have HF1 := Lib.hid F1; have HS1 := Lib.hid S1; clear B1 F1 S1)
  have hn : w.heap.size ≠ p := by omega
  have HW1 := Lib.hid (HH.out.fr0 HF1.out)
  have HG1 := Lib.hid (Fr.ext (S := [p]) HF1.out)
  refine (HD1.out _ HW1.out).mono ?_
  rintro e w2 ⟨rfl, hr1, hf1⟩
  have HB2 := Lib.hid (HB1.out.fr hf1 (by simpa using hn))
  have HG2 := Lib.hid (HG1.out.trans1 hf1)
  have HW2 := Lib.hid hr1
  clear hr1 hf1 HB1 HW1 HG1
  go_wp2_with fail
  refine (HD2.out _ HW2.out).mono ?_
  rintro e w3 ⟨rfl, hr2, hf2⟩
  have HB3 := Lib.hid (HB2.out.fr hf2 (by simpa using hn))
  have HG3 := Lib.hid (HG2.out.trans1 hf2)
  have HW3 := Lib.hid hr2
  clear hr2 hf2 HB2 HW2 HG2
  go_wp2_with fail
  refine (HD3.out _ HW3.out).mono ?_
  rintro e w4 ⟨rfl, hr3, hf3⟩
  have HB4 := Lib.hid (HB3.out.fr hf3 (by simpa using hn))
  have HG4 := Lib.hid (HG3.out.trans1 hf3)
  have HW4 := Lib.hid hr3
  clear hr3 hf3 HB3 HW3 HG3
  go_wp2_with fail
  refine (HD4.out _ HW4.out).mono ?_
  rintro e w5 ⟨rfl, hr4, hf4⟩
  have HB5 := Lib.hid (HB4.out.fr hf4 (by simpa using hn))
  have HG5 := Lib.hid (HG4.out.trans1 hf4)
  have HW5 := Lib.hid hr4
  clear hr4 hf4 HB4 HW4 HG4
  go_wp2_with fail
  refine (HD5.out _ HW5.out).mono ?_
  rintro e w6 ⟨rfl, hr5, hf5⟩
  have HB6 := Lib.hid (HB5.out.fr hf5 (by simpa using hn))
  have HG6 := Lib.hid (HG5.out.trans1 hf5)
  have HW6 := Lib.hid hr5
  clear hr5 hf5 HB5 HW5 HG5
  go_wp2_with (first
    | (refine wpList_buildV rfl 27 [(0, .tmp 4), (1, .tmp 6), (2, .tmp 8), (3, .tmp 10), (4, .tmp 12)] rfl [(0, .int .i64 x1), (1, .int .i64 x2), (2, .int .i64 x3), (3, .int .i64 x4), (4, .int .i64 x5)] (by rfl) _ (rnode_build x1 x2 x3 x4 x5 _) ?_)
    | (refine wpList_storeB rfl 27 _ _ rfl w.heap.size 0 [.int .i64 x1, .int .i64 x2, .int .i64 x3, .int .i64 x4, .int .i64 x5] (by rfl) (by rfl) 27 _ HB6.out (by simp) rnode_size (by simp [Value.oneCell']) ?_; intro w0 B0 F0 S0))
  have FF := HG6.out.trans F0 (fun k hk hlt => by simp at hk; omega)
  refine bodyPost_ret (results_cellB rfl _ _ w.heap.size 27 _ _ (by rfl) B0 Try.underlying27 rfl (by simpa [splice] using rnode_size)) rfl ⟨by simp [splice, Nod.cells], ⟨HW6.out.hp.fr F0 (by simpa using hn.symm), HH.out.rd.step FF (fun k hk => .inl (by simpa using hk)) (fun k hk => .inl hk), HW6.out.src⟩, FF⟩
def rH (l : List Int) (s : Int × Int) : (Int × Int) × Int × Int := let r1 := rI l s; let r2 := rI l r1.2; ((r1.1, r2.1), r2.2)
theorem rhunger_zero : ∀ w, (zeroValue 119).run Try.prog w = .ok (.agg [.int .i64 0, .int .i64 0].toArray) w := fun w => by kernel_rfl
theorem rhunger_size : (Try.prog.info? 119).map (·.size) = some 2 := by kernel_rfl
theorem rhunger_build (x1 x2 : Int) (w : World) : (Instr.build 119 [(0, .int .i64 x1), (1, .int .i64 x2)].toArray).run Try.prog w = .ok (.agg [.int .i64 x1, .int .i64 x2].toArray) w := by kernel_rfl
set_option maxRecDepth 100000 in
set_option maxHeartbeats 1000000 in
theorem rhunger_calls {w : World} {p : Nat} {a : Option Addr} {n c : Nat} {l : List Int} {s : Int × Int} (h : Rr w p a n c l s) :
    Calls Try.prog 94 #[.pointer (some ⟨p, 0, none⟩)] w (RrE p a n c l (.agg #[.int .i64 (rH l s).1.1, .int .i64 (rH l s).1.2]) (rH l s).2 w) := by
  unfold rH
  dsimp only
  have HC1 := fun W (hW : Rr W p a n c l s) => int_rcalls hW
  generalize rI l s = r1 at *
  obtain ⟨x1, s1⟩ := r1
  dsimp only at HC1 ⊢
  have HD1 := Lib.hid HC1
  clear HC1
  have HC2 := fun W (hW : Rr W p a n c l s1) => int64_calls hW
  generalize rI l s1 = r2 at *
  obtain ⟨x2, s2⟩ := r2
  dsimp only at HC2 ⊢
  have HD2 := Lib.hid HC2
  clear HC2
  have HH := Lib.hid h
  have hpl := h.hp.lt
  clear h
  go_enter Try.func94, Try.ntmps94
  go_wp2_with (refine wpList_allocZ rfl 119 rfl _ rhunger_zero ?_; intro w1 B1 F1 S1; have HB1 := Lib.hid B1; have HF1 := Lib.hid F1; have HS1 := Lib.hid S1; clear B1 F1 S1)
  have hn : w.heap.size ≠ p := by omega
  have HW1 := Lib.hid (HH.out.fr0 HF1.out)
  have HG1 := Lib.hid (Fr.ext (S := [p]) HF1.out)
  refine (HD1.out _ HW1.out).mono ?_
  rintro e w2 ⟨rfl, hr1, hf1⟩
  have HB2 := Lib.hid (HB1.out.fr hf1 (by simpa using hn))
  have HG2 := Lib.hid (HG1.out.trans1 hf1)
  have HW2 := Lib.hid hr1
  clear hr1 hf1 HB1 HW1 HG1
  go_wp2_with fail
  refine (HD2.out _ HW2.out).mono ?_
  rintro e w3 ⟨rfl, hr2, hf2⟩
  have HB3 := Lib.hid (HB2.out.fr hf2 (by simpa using hn))
  have HG3 := Lib.hid (HG2.out.trans1 hf2)
  have HW3 := Lib.hid hr2
  clear hr2 hf2 HB2 HW2 HG2
  go_wp2_with (first
    | (refine wpList_buildV rfl 119 [(0, .tmp 4), (1, .tmp 6)] rfl [(0, .int .i64 x1), (1, .int .i64 x2)] (by rfl) _ (rhunger_build x1 x2 _) ?_)
    | (refine wpList_storeB rfl 119 _ _ rfl w.heap.size 0 [.int .i64 x1, .int .i64 x2] (by rfl) (by rfl) 119 _ HB3.out (by simp) rhunger_size (by simp [Value.oneCell']) ?_; intro w0 B0 F0 S0))
  have FF := HG3.out.trans F0 (fun k hk hlt => by simp at hk; omega)
  refine bodyPost_ret (results_cellB rfl _ _ w.heap.size 119 _ _ (by rfl) B0 Try.underlying119 rfl (by simpa [splice] using rhunger_size)) rfl ⟨by simp [splice], ⟨HW3.out.hp.fr F0 (by simpa using hn.symm), HH.out.rd.step FF (fun k hk => .inl (by simpa using hk)) (fun k hk => .inl hk), HW3.out.src⟩, FF⟩
end Go.Fur
