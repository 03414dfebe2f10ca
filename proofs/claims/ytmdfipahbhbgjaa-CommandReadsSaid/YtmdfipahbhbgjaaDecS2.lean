/- The reader's answer and state: contracts. Written by gendecs.py. -/
import Derived.Test.YtmdfipahbhbgjaaDecS
namespace Go.Fur
open Go Go.RowKit Go.Proofs
set_option linter.unusedVariables false
set_option linter.unusedSimpArgs false
theorem answer_zero : ∀ w, (zeroValue 49).run Try.prog w = .ok (.agg (([.int .i64 0, .int .i64 0, .int .i64 0, .slice none 0 0, .slice none 0 0] : List Value)).toArray) w := fun w => by kernel_rfl
theorem state_zero2 : ∀ w, (zeroValue 58).run Try.prog w = .ok (.agg (([.int .i64 0, .int .i64 0, .int .i64 0, .slice none 0 0, .slice none 0 0, .slice none 0 0, .slice none 0 0, .slice none 0 0] : List Value)).toArray) w := fun w => by kernel_rfl
theorem ranswer_build (x1 : Int) (x2 : Int) (x3 : Int) (a4 : Option Addr) (n4 k4 : Nat) (a5 : Option Addr) (n5 k5 : Nat) (w : World) : (Instr.build 49 [(0, .int .i64 x1), (1, .int .i64 x2), (2, .int .i64 x3), (3, .slice a4 n4 k4), (4, .slice a5 n5 k5)].toArray).run Try.prog w = .ok (.agg (([.int .i64 x1, .int .i64 x2, .int .i64 x3, .slice a4 n4 k4, .slice a5 n5 k5] : List Value)).toArray) w := by kernel_rfl
theorem ranswer_size : (Try.prog.info? 49).map (·.size) = some 5 := by kernel_rfl
set_option maxRecDepth 100000 in
set_option maxHeartbeats 2000000 in
theorem ranswer_calls {w : World} {base p : Nat} {a : Option Addr} {n c : Nat} {l : List Int} {s : Int × Int} (hbase : base ≤ w.heap.size) (h : Rr w p a n c l s) :
    Calls Try.prog 52 #[.pointer (some ⟨p, 0, none⟩)] w (RoE base p a n c l AnsO (rA l s).1 (rA l s).2 w) := by
  have hbyt := h.src.byt
  unfold rA
  dsimp only
  have HC1 := fun W (hW : Rr W p a n c l s) => int_rcalls hW
  generalize rI l s = r1 at *
  obtain ⟨x1, s1⟩ := r1
  dsimp only at HC1 ⊢
  have HD1 := Lib.hid HC1
  clear HC1
  have HC2 := fun W (hW : Rr W p a n c l s1) => int_rcalls hW
  generalize rI l s1 = r2 at *
  obtain ⟨x2, s2⟩ := r2
  dsimp only at HC2 ⊢
  have HD2 := Lib.hid HC2
  clear HC2
  have HC3 := fun W (hW : Rr W p a n c l s2) => int_rcalls hW
  generalize rI l s2 = r3 at *
  obtain ⟨x3, s3⟩ := r3
  dsimp only at HC3 ⊢
  have HD3 := Lib.hid HC3
  clear HC3
  have HC4 := fun W (hW : Rr W p a n c l s3) => all_calls (Nat.le_refl W.heap.size) hW
  generalize allR l (rI l) s3 = r4 at *
  obtain ⟨x4, s4⟩ := r4
  dsimp only at HC4 ⊢
  have HD4 := Lib.hid HC4
  clear HC4
  have HC5 := fun W (hW : Rr W p a n c l s4) => readL hW
  generalize allR l (rL l) s4 = r5 at *
  obtain ⟨x5, s5⟩ := r5
  dsimp only at HC5 ⊢
  have HD5 := Lib.hid HC5
  clear HC5
  have HH := Lib.hid h
  have hpl := h.hp.lt
  clear h
  go_enter Try.func52, Try.ntmps52
  go_wp2_with (refine wpList_allocZ rfl 49 rfl _ answer_zero ?_; intro w1 B1 F1 S1; have HB1 := Lib.hid B1; have HF1 := Lib.hid F1; have HS1 := Lib.hid S1; clear B1 F1 S1)
  have hn : w.heap.size ≠ p := by omega
  have HW1 := Lib.hid (HH.out.fr0 HF1.out)
  have HG1 := Lib.hid (Fr.ext (S := [p]) HF1.out)
  have HZ1 := Lib.hid (Nat.le_refl w1.heap.size)
  have hpb : ∀ g ∈ [p], g < w1.heap.size := fun g hg => by rw [List.mem_singleton.1 hg]; have := HS1.out; omega
  have hwb : ∀ g ∈ [w.heap.size], g < w1.heap.size := fun g hg => by rw [List.mem_singleton.1 hg]; have := HS1.out; omega
  refine (HD1.out _ HW1.out).mono ?_
  rintro e w2 ⟨rfl, hr, hf⟩
  have HB2 := Lib.hid (HB1.out.fr hf (by simpa using hn))
  have HG2 := Lib.hid (HG1.out.trans1 hf)
  have HW2 := Lib.hid hr
  have HZ2 := Lib.hid (show w1.heap.size ≤ w2.heap.size by have := hf.size; have := HZ1.out; omega)
  clear hr hf HB1 HW1 HG1 
  go_wp2_with fail
  refine (HD2.out _ HW2.out).mono ?_
  rintro e w3 ⟨rfl, hr, hf⟩
  have HB3 := Lib.hid (HB2.out.fr hf (by simpa using hn))
  have HG3 := Lib.hid (HG2.out.trans1 hf)
  have HW3 := Lib.hid hr
  have HZ3 := Lib.hid (show w1.heap.size ≤ w3.heap.size by have := hf.size; have := HZ2.out; omega)
  clear hr hf HB2 HW2 HG2 
  go_wp2_with fail
  refine (HD3.out _ HW3.out).mono ?_
  rintro e w4 ⟨rfl, hr, hf⟩
  have HB4 := Lib.hid (HB3.out.fr hf (by simpa using hn))
  have HG4 := Lib.hid (HG3.out.trans1 hf)
  have HW4 := Lib.hid hr
  have HZ4 := Lib.hid (show w1.heap.size ≤ w4.heap.size by have := hf.size; have := HZ3.out; omega)
  clear hr hf HB3 HW3 HG3 
  go_wp2_with fail
  refine (HD4.out _ HW4.out).mono ?_
  rintro e w5 ⟨v4, rfl, ho, hr, hf⟩
  obtain ⟨a4, k4, rfl, _, _, _⟩ := ho.form
  have HO4_5 := Lib.hid (ho.base HZ4.out)
  clear ho
  have HB5 := Lib.hid (HB4.out.fr hf (by simpa using hn))
  have HG5 := Lib.hid (HG4.out.trans1 hf)
  have HW5 := Lib.hid hr
  have HZ5 := Lib.hid (show w1.heap.size ≤ w5.heap.size by have := hf.size; have := HZ4.out; omega)
  clear hr hf HB4 HW4 HG4 
  go_wp2_with fail
  refine (HD5.out _ HW5.out).mono ?_
  rintro e w6 ⟨v5, rfl, ho, hr, hf⟩
  obtain ⟨a5, k5, rfl, _, _⟩ := ho.form
  have HO5_6 := Lib.hid ((ho.base HZ5.out).map (fun cs t h => LeaW.base HZ5.out h))
  clear ho
  have HO4_6 := Lib.hid (HO4_5.out.fr hf (fun g hg hm => by have := (HO4_5.out.lt hg).1; have := hpb g hm; omega))
  have HB6 := Lib.hid (HB5.out.fr hf (by simpa using hn))
  have HG6 := Lib.hid (HG5.out.trans1 hf)
  have HW6 := Lib.hid hr
  have HZ6 := Lib.hid (show w1.heap.size ≤ w6.heap.size by have := hf.size; have := HZ5.out; omega)
  clear hr hf HB5 HW5 HG5 HO4_5
  go_wp2_with (first
    | (refine wpList_buildV rfl 49 [(0, .tmp 4), (1, .tmp 6), (2, .tmp 8), (3, .tmp 12), (4, .tmp 16)] rfl [(0, .int .i64 x1), (1, .int .i64 x2), (2, .int .i64 x3), (3, .slice a4 x4.length k4), (4, .slice a5 x5.length k5)] (by rfl) _ (ranswer_build x1 x2 x3 a4 x4.length k4 a5 x5.length k5 _) ?_)
    | (refine wpList_storeB rfl 49 _ _ rfl w.heap.size 0 (([.int .i64 x1, .int .i64 x2, .int .i64 x3, .slice a4 x4.length k4, .slice a5 x5.length k5] : List Value)) (by rfl) (by rfl) 49 _ HB6.out (by show 0 + 5 ≤ 5; omega) ranswer_size (by simp [Value.oneCell']) ?_; intro w0 B0 F0 S0))
  have FF := HG6.out.trans F0 (fun k hk hlt => by rw [List.mem_singleton.1 hk] at hlt; omega)
  have B9 : Blk w0 w.heap.size 49 (([.int .i64 x1, .int .i64 x2, .int .i64 x3, .slice a4 x4.length k4, .slice a5 x5.length k5] : List Value)) := by rw [splice_all _ _ (by rfl)] at B0; exact B0
  have HO4 := HO4_6.out.fr F0 (fun g hg hm => by have := (HO4_6.out.lt hg).1; have := hwb g hm; omega)
  have HO5 := HO5_6.out.ltB hwb F0 (fun cs t h => LeaW.lt hwb F0 h)
  have hb1 : base ≤ w1.heap.size := by have := HS1.out; omega
  refine bodyPost_ret (results_cellB rfl _ _ w.heap.size 49 _ _ (by rfl) B9 Try.underlying49 rfl ranswer_size) rfl ⟨_, rfl, ?_, ⟨HW6.out.hp.fr F0 (by simpa using hn.symm), HH.out.rd.step FF (fun k hk => .inl (by simpa using hk)) (fun k hk => .inl hk), HW6.out.src⟩, FF⟩
  exact AnsO.base hb1 ⟨a4, k4, a5, k5, rfl, HO4, HO5⟩
theorem rstate_build (x1 : Int) (x2 : Int) (x3 : Int) (a4 : Option Addr) (n4 k4 : Nat) (a5 : Option Addr) (n5 k5 : Nat) (a6 : Option Addr) (n6 k6 : Nat) (a7 : Option Addr) (n7 k7 : Nat) (a8 : Option Addr) (n8 k8 : Nat) (w : World) : (Instr.build 58 [(0, .int .i64 x1), (1, .int .i64 x2), (2, .int .i64 x3), (3, .slice a4 n4 k4), (4, .slice a5 n5 k5), (5, .slice a6 n6 k6), (6, .slice a7 n7 k7), (7, .slice a8 n8 k8)].toArray).run Try.prog w = .ok (.agg (([.int .i64 x1, .int .i64 x2, .int .i64 x3, .slice a4 n4 k4, .slice a5 n5 k5, .slice a6 n6 k6, .slice a7 n7 k7, .slice a8 n8 k8] : List Value)).toArray) w := by kernel_rfl
theorem rstate_size : (Try.prog.info? 58).map (·.size) = some 8 := by kernel_rfl
set_option maxRecDepth 100000 in
set_option maxHeartbeats 2000000 in
theorem rstate_calls {w : World} {base p : Nat} {a : Option Addr} {n c : Nat} {l : List Int} {s : Int × Int} (hbase : base ≤ w.heap.size) (h : Rr w p a n c l s) :
    Calls Try.prog 58 #[.pointer (some ⟨p, 0, none⟩)] w (RoE base p a n c l StaO (rS l s).1 (rS l s).2 w) := by
  have hbyt := h.src.byt
  unfold rS
  dsimp only
  have HC1 := fun W (hW : Rr W p a n c l s) => int64_calls hW
  generalize rI l s = r1 at *
  obtain ⟨x1, s1⟩ := r1
  dsimp only at HC1 ⊢
  have HD1 := Lib.hid HC1
  clear HC1
  have HC2 := fun W (hW : Rr W p a n c l s1) => int64_calls hW
  generalize rI l s1 = r2 at *
  obtain ⟨x2, s2⟩ := r2
  dsimp only at HC2 ⊢
  have HD2 := Lib.hid HC2
  clear HC2
  have HC3 := fun W (hW : Rr W p a n c l s2) => int64_calls hW
  generalize rI l s2 = r3 at *
  obtain ⟨x3, s3⟩ := r3
  dsimp only at HC3 ⊢
  have HD3 := Lib.hid HC3
  clear HC3
  have HC4 := fun W (hW : Rr W p a n c l s3) => readQ hW
  generalize allR l (rQ l) s3 = r4 at *
  obtain ⟨x4, s4⟩ := r4
  dsimp only at HC4 ⊢
  have HD4 := Lib.hid HC4
  clear HC4
  have HC5 := fun W (hW : Rr W p a n c l s4) => readN_ hW
  generalize allR l (rN l) s4 = r5 at *
  obtain ⟨x5, s5⟩ := r5
  dsimp only at HC5 ⊢
  have HD5 := Lib.hid HC5
  clear HC5
  have HC6 := fun W (hW : Rr W p a n c l s5) => readT hW
  generalize allR l (rT l) s5 = r6 at *
  obtain ⟨x6, s6⟩ := r6
  dsimp only at HC6 ⊢
  have HD6 := Lib.hid HC6
  clear HC6
  have HC7 := fun W (hW : Rr W p a n c l s6) => readL hW
  generalize allR l (rL l) s6 = r7 at *
  obtain ⟨x7, s7⟩ := r7
  dsimp only at HC7 ⊢
  have HD7 := Lib.hid HC7
  clear HC7
  have HC8 := fun W (hW : Rr W p a n c l s7) => readH hW
  generalize allR l (rH l) s7 = r8 at *
  obtain ⟨x8, s8⟩ := r8
  dsimp only at HC8 ⊢
  have HD8 := Lib.hid HC8
  clear HC8
  have HH := Lib.hid h
  have hpl := h.hp.lt
  clear h
  go_enter Try.func58, Try.ntmps58
  go_wp2_with (refine wpList_allocZ rfl 58 rfl _ state_zero2 ?_; intro w1 B1 F1 S1; have HB1 := Lib.hid B1; have HF1 := Lib.hid F1; have HS1 := Lib.hid S1; clear B1 F1 S1)
  have hn : w.heap.size ≠ p := by omega
  have HW1 := Lib.hid (HH.out.fr0 HF1.out)
  have HG1 := Lib.hid (Fr.ext (S := [p]) HF1.out)
  have HZ1 := Lib.hid (Nat.le_refl w1.heap.size)
  have hpb : ∀ g ∈ [p], g < w1.heap.size := fun g hg => by rw [List.mem_singleton.1 hg]; have := HS1.out; omega
  have hwb : ∀ g ∈ [w.heap.size], g < w1.heap.size := fun g hg => by rw [List.mem_singleton.1 hg]; have := HS1.out; omega
  refine (HD1.out _ HW1.out).mono ?_
  rintro e w2 ⟨rfl, hr, hf⟩
  have HB2 := Lib.hid (HB1.out.fr hf (by simpa using hn))
  have HG2 := Lib.hid (HG1.out.trans1 hf)
  have HW2 := Lib.hid hr
  have HZ2 := Lib.hid (show w1.heap.size ≤ w2.heap.size by have := hf.size; have := HZ1.out; omega)
  clear hr hf HB1 HW1 HG1 
  go_wp2_with fail
  refine (HD2.out _ HW2.out).mono ?_
  rintro e w3 ⟨rfl, hr, hf⟩
  have HB3 := Lib.hid (HB2.out.fr hf (by simpa using hn))
  have HG3 := Lib.hid (HG2.out.trans1 hf)
  have HW3 := Lib.hid hr
  have HZ3 := Lib.hid (show w1.heap.size ≤ w3.heap.size by have := hf.size; have := HZ2.out; omega)
  clear hr hf HB2 HW2 HG2 
  go_wp2_with fail
  refine (HD3.out _ HW3.out).mono ?_
  rintro e w4 ⟨rfl, hr, hf⟩
  have HB4 := Lib.hid (HB3.out.fr hf (by simpa using hn))
  have HG4 := Lib.hid (HG3.out.trans1 hf)
  have HW4 := Lib.hid hr
  have HZ4 := Lib.hid (show w1.heap.size ≤ w4.heap.size by have := hf.size; have := HZ3.out; omega)
  clear hr hf HB3 HW3 HG3 
  go_wp2_with fail
  refine (HD4.out _ HW4.out).mono ?_
  rintro e w5 ⟨v4, rfl, ho, hr, hf⟩
  obtain ⟨a4, k4, rfl, _, _⟩ := ho.form
  have HO4_5 := Lib.hid (ho.base HZ4.out)
  clear ho
  have HB5 := Lib.hid (HB4.out.fr hf (by simpa using hn))
  have HG5 := Lib.hid (HG4.out.trans1 hf)
  have HW5 := Lib.hid hr
  have HZ5 := Lib.hid (show w1.heap.size ≤ w5.heap.size by have := hf.size; have := HZ4.out; omega)
  clear hr hf HB4 HW4 HG4 
  go_wp2_with fail
  refine (HD5.out _ HW5.out).mono ?_
  rintro e w6 ⟨v5, rfl, ho, hr, hf⟩
  obtain ⟨a5, k5, rfl, _, _⟩ := ho.form
  have HO5_6 := Lib.hid (ho.base HZ5.out)
  clear ho
  have HO4_6 := Lib.hid (HO4_5.out.ltB hpb hf (fun cs t h => h))
  have HB6 := Lib.hid (HB5.out.fr hf (by simpa using hn))
  have HG6 := Lib.hid (HG5.out.trans1 hf)
  have HW6 := Lib.hid hr
  have HZ6 := Lib.hid (show w1.heap.size ≤ w6.heap.size by have := hf.size; have := HZ5.out; omega)
  clear hr hf HB5 HW5 HG5 HO4_5
  go_wp2_with fail
  refine (HD6.out _ HW6.out).mono ?_
  rintro e w7 ⟨v6, rfl, ho, hr, hf⟩
  obtain ⟨a6, k6, rfl, _, _⟩ := ho.form
  have HO6_7 := Lib.hid ((ho.base HZ6.out).map (fun cs t h => TasW.base HZ6.out h))
  clear ho
  have HO4_7 := Lib.hid (HO4_6.out.ltB hpb hf (fun cs t h => h))
  have HO5_7 := Lib.hid (HO5_6.out.ltB hpb hf (fun cs t h => h))
  have HB7 := Lib.hid (HB6.out.fr hf (by simpa using hn))
  have HG7 := Lib.hid (HG6.out.trans1 hf)
  have HW7 := Lib.hid hr
  have HZ7 := Lib.hid (show w1.heap.size ≤ w7.heap.size by have := hf.size; have := HZ6.out; omega)
  clear hr hf HB6 HW6 HG6 HO4_6 HO5_6
  go_wp2_with fail
  refine (HD7.out _ HW7.out).mono ?_
  rintro e w8 ⟨v7, rfl, ho, hr, hf⟩
  obtain ⟨a7, k7, rfl, _, _⟩ := ho.form
  have HO7_8 := Lib.hid ((ho.base HZ7.out).map (fun cs t h => LeaW.base HZ7.out h))
  clear ho
  have HO4_8 := Lib.hid (HO4_7.out.ltB hpb hf (fun cs t h => h))
  have HO5_8 := Lib.hid (HO5_7.out.ltB hpb hf (fun cs t h => h))
  have HO6_8 := Lib.hid (HO6_7.out.ltB hpb hf (fun cs t h => TasW.lt hpb hf h))
  have HB8 := Lib.hid (HB7.out.fr hf (by simpa using hn))
  have HG8 := Lib.hid (HG7.out.trans1 hf)
  have HW8 := Lib.hid hr
  have HZ8 := Lib.hid (show w1.heap.size ≤ w8.heap.size by have := hf.size; have := HZ7.out; omega)
  clear hr hf HB7 HW7 HG7 HO4_7 HO5_7 HO6_7
  go_wp2_with fail
  refine (HD8.out _ HW8.out).mono ?_
  rintro e w9 ⟨v8, rfl, ho, hr, hf⟩
  obtain ⟨a8, k8, rfl, _, _⟩ := ho.form
  have HO8_9 := Lib.hid (ho.base HZ8.out)
  clear ho
  have HO4_9 := Lib.hid (HO4_8.out.ltB hpb hf (fun cs t h => h))
  have HO5_9 := Lib.hid (HO5_8.out.ltB hpb hf (fun cs t h => h))
  have HO6_9 := Lib.hid (HO6_8.out.ltB hpb hf (fun cs t h => TasW.lt hpb hf h))
  have HO7_9 := Lib.hid (HO7_8.out.ltB hpb hf (fun cs t h => LeaW.lt hpb hf h))
  have HB9 := Lib.hid (HB8.out.fr hf (by simpa using hn))
  have HG9 := Lib.hid (HG8.out.trans1 hf)
  have HW9 := Lib.hid hr
  have HZ9 := Lib.hid (show w1.heap.size ≤ w9.heap.size by have := hf.size; have := HZ8.out; omega)
  clear hr hf HB8 HW8 HG8 HO4_8 HO5_8 HO6_8 HO7_8
  go_wp2_with (first
    | (refine wpList_buildV rfl 58 [(0, .tmp 4), (1, .tmp 6), (2, .tmp 8), (3, .tmp 12), (4, .tmp 16), (5, .tmp 20), (6, .tmp 24), (7, .tmp 28)] rfl [(0, .int .i64 x1), (1, .int .i64 x2), (2, .int .i64 x3), (3, .slice a4 x4.length k4), (4, .slice a5 x5.length k5), (5, .slice a6 x6.length k6), (6, .slice a7 x7.length k7), (7, .slice a8 x8.length k8)] (by rfl) _ (rstate_build x1 x2 x3 a4 x4.length k4 a5 x5.length k5 a6 x6.length k6 a7 x7.length k7 a8 x8.length k8 _) ?_)
    | (refine wpList_storeB rfl 58 _ _ rfl w.heap.size 0 (([.int .i64 x1, .int .i64 x2, .int .i64 x3, .slice a4 x4.length k4, .slice a5 x5.length k5, .slice a6 x6.length k6, .slice a7 x7.length k7, .slice a8 x8.length k8] : List Value)) (by rfl) (by rfl) 58 _ HB9.out (by show 0 + 8 ≤ 8; omega) rstate_size (by simp [Value.oneCell']) ?_; intro w0 B0 F0 S0))
  have FF := HG9.out.trans F0 (fun k hk hlt => by rw [List.mem_singleton.1 hk] at hlt; omega)
  have B9 : Blk w0 w.heap.size 58 (([.int .i64 x1, .int .i64 x2, .int .i64 x3, .slice a4 x4.length k4, .slice a5 x5.length k5, .slice a6 x6.length k6, .slice a7 x7.length k7, .slice a8 x8.length k8] : List Value)) := by rw [splice_all _ _ (by rfl)] at B0; exact B0
  have HO4 := HO4_9.out.ltB hwb F0 (fun cs t h => h)
  have HO5 := HO5_9.out.ltB hwb F0 (fun cs t h => h)
  have HO6 := HO6_9.out.ltB hwb F0 (fun cs t h => TasW.lt hwb F0 h)
  have HO7 := HO7_9.out.ltB hwb F0 (fun cs t h => LeaW.lt hwb F0 h)
  have HO8 := HO8_9.out.ltB hwb F0 (fun cs t h => h)
  have hb1 : base ≤ w1.heap.size := by have := HS1.out; omega
  refine bodyPost_ret (results_cellB rfl _ _ w.heap.size 58 _ _ (by rfl) B9 Try.underlying58 rfl rstate_size) rfl ⟨_, rfl, ?_, ⟨HW9.out.hp.fr F0 (by simpa using hn.symm), HH.out.rd.step FF (fun k hk => .inl (by simpa using hk)) (fun k hk => .inl hk), HW9.out.src⟩, FF⟩
  refine StaO.base hb1 ⟨⟨a4, k4, a5, k5, a6, k6, a7, k7, a8, k8⟩, ?_, HO4, HO5, HO6, HO7, ?_⟩
  · show _ = Value.agg (List.toArray [_, _, _, _, _, _, _, Value.slice a8 (x8.map hunP).length k8])
    rw [List.length_map]
  · show RowW HuW 2 _ _ _ (.slice a8 (x8.map hunP).length k8) (x8.map hunP)
    rw [List.length_map]
    exact HO8.mapL hunP (fun cs t h => h)
end Go.Fur
