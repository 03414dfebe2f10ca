/- CommandEntries: TwinTask, TwinEntry; the walk. -/
import Derived.Test.YtmdfipahbhbgjaaRefE
import Derived.Test.YtmdfipahbhbgjaaApart10
namespace Go.Fur
open Go Go.RowKit Go.Proofs
set_option linter.unusedVariables false
set_option linter.unusedSimpArgs false
theorem ints_build0 : ∀ W : World, (Instr.buildSlice 28 0 #[]).run Try.prog W = .ok (.slice (some ⟨W.heap.size, 0, none⟩) 0 0) (W.alloc (.cells #[] 3)) := fun W => by kernel_rfl
theorem task_zero3 : ∀ w, (zeroValue 30).run Try.prog w = .ok (.agg (tas0.cells none 0).toArray) w := fun w => by kernel_rfl
theorem task_size3 (x : Tas) (a : Option Addr) (c : Nat) : (Try.prog.info? 30).map (·.size) = some (x.cells a c).length := by
  have h : (x.cells a c).length = 7 := rfl
  have h2 : (Try.prog.info? 30).map (·.size) = some 7 := by kernel_rfl
  rw [h, h2]
theorem Tas.one3 (x : Tas) (a : Option Addr) (c : Nat) : ∀ v ∈ x.cells a c, v.oneCell' = true := by
  simp [Value.oneCell', Tas.cells]
/-- A thing of one's own is answered. -/
def OwnE {β : Type} (base : Nat) (El : Nat → β → Value → World → Prop) (x : β) (w : World) (e : Ending) (w' : World) : Prop := ∃ v, e = .returned v ∧ El base x v w' ∧ Fr [] w w'
theorem iv_one3 (l : List Int) : ∀ v ∈ iv l, v.oneCell' = true := fun v hv => by
  obtain ⟨x, _, rfl⟩ := List.mem_map.1 hv
  rfl
set_option maxRecDepth 100000 in
set_option maxHeartbeats 1000000 in
theorem twinT_calls {w : World} (t : Tas) (a : Option Addr) (c : Nat) (hr : Rd w a (iv t.tickets)) (hlen : t.tickets.length ≤ 1048576) :
    Calls Try.prog 30 #[.agg (t.cells a c).toArray] w (OwnE w.heap.size TasO t w) := by
  have HR := Lib.hid hr
  clear hr
  go_enter Try.func30, Try.ntmps30
  go_wp2_with (first
    | (have z := HB5.out; clear z; refine wpList_loadB rfl 30 _ rfl w.heap.size (by rfl) 30 _ _ HB5.out Try.underlying30 rfl (task_size3 t g4 k4) ?_)
    | (have z := HB5.out; clear z; refine wpList_storeB rfl 30 _ _ rfl w1.heap.size 0 (t.cells g4 k4) (by rfl) (by rfl) 30 _ HC5.out (by show 0 + 7 ≤ 7; omega) (task_size3 t g4 k4) (t.one3 g4 k4) ?_; intro w6 B6 F6 S6; rw [splice_all _ _ (by rfl)] at B6; have HO6 := Lib.hid (HO5.out.fr F6 (fun g hg hm => by have := (HO5.out.lt hg).1; rw [List.mem_singleton.1 hm] at this; have := HS2.out; omega)); have HB6 := Lib.hid B6; have HF6 := Lib.hid (HF5.out.trans F6 (fun k hk hlt => by have := HS1.out; rw [List.mem_singleton.1 hk] at hlt; omega)); clear B6 F6 S6)
    | (refine wpList_store1 rfl 28 _ _ rfl w.heap.size 5 (.slice g4 t.tickets.length k4) (by rfl) (by rfl) rfl 30 _ HB4.out (by simp [Tas.cells]) (by kernel_rfl) rfl ?_; intro w5 B5 F5 S5; have HB5 := Lib.hid (show Blk w5 w.heap.size 30 (t.cells g4 k4) from B5); have HC5 := Lib.hid (HC4.out.fr F5 (by have := HS1.out; simp; omega)); have HO5 := Lib.hid (HO4.out.fr F5 (fun g hg hm => by have := (HO4.out.lt hg).1; rw [List.mem_singleton.1 hm] at this; have := HF1.out.size; have := HF2.out.size; have := HS1.out; have := HS2.out; omega)); have HF5 := Lib.hid (HF4.out.trans F5 (fun k hk hlt => by rw [List.mem_singleton.1 hk] at hlt; omega)); clear B5 F5 S5)
    | (refine wpList_appB rfl _ _ 28 28 rfl w2.heap.size 3 3 .i64 8 Try.underlying28 Try.underlying28 info_int _ 0 [] (by rfl) HO3.out a t.tickets.length c (iv t.tickets) (by rfl) (HR.out.fr0 HF3.out) (by simp [iv]) (iv_one3 _) (by simp only [maxLen]; omega) (by omega) (by have := HS3.out; omega) ?_; intro v4 w4 O4 F4 K4 _; rw [List.nil_append, Nat.zero_add] at O4; obtain ⟨g4, k4, hv4, _⟩ := O4.form; subst hv4; have HO4 := Lib.hid O4; have HF4 := Lib.hid (HF3.out.trans F4 (fun k hk hlt => by have := (HO3.out.lt hk).1; have := HS1.out; have := HS2.out; omega)); have HB4 := Lib.hid (HB3.out.fr F4 (fun hm => by have := (HO3.out.lt hm).1; have := HS1.out; have := HS2.out; omega)); have HC4 := Lib.hid (HC3.out.fr F4 (fun hm => by have := (HO3.out.lt hm).1; have := HS1.out; have := HS2.out; omega)); clear O4 F4 K4 c5)
    | (refine wpList_boxB rfl 30 _ rfl (t.cells a c) (by rfl) ?_; intro w1 B1 F1 S1; have HB1 := Lib.hid B1; have HF1 := Lib.hid F1; have HS1 := Lib.hid S1; clear B1 F1 S1)
    | (refine wpList_allocZ rfl 30 rfl _ task_zero3 ?_; intro w2 B2 F2 S2; have HB2 := Lib.hid B2; have HF2 := Lib.hid F2; have HS2 := Lib.hid S2; clear B2 F2 S2)
    | (refine wpList_build0 rfl 28 3 1 rfl ints_build0 ?_; intro w3 O3 F3 S3; have c5 : w3.cell? ⟨w.heap.size, 5, none⟩ = some (.slice a t.tickets.length c) := ((HB1.out.fr HF2.out (by simp)).fr F3 (by simp)).cellAt rfl; have HO3 := Lib.hid O3; have HB3 := Lib.hid ((HB1.out.fr HF2.out (by simp)).fr F3 (by simp)); have HC3 := Lib.hid (HB2.out.fr F3 (by simp)); have HF3 := Lib.hid ((HF1.out.trans0 HF2.out).trans0 F3); have HS3 := Lib.hid S3; clear O3 F3 S3))
  refine bodyPost_ret (results_cellB rfl _ _ w1.heap.size 30 _ _ (by rfl) HB6.out Try.underlying30 rfl (task_size3 t g4 k4)) rfl ⟨_, rfl, ⟨g4, k4, rfl, HO6.out.base (by have := HS1.out; have := HS2.out; omega)⟩, HF6.out⟩
set_option maxRecDepth 100000 in
set_option maxHeartbeats 1000000 in
theorem twinE_calls {w : World} (t : Ent) (a : Option Addr) (c : Nat) (hr : Rd w a (iv t.cmd.task.tickets)) (hlen : t.cmd.task.tickets.length ≤ 1048576) :
    Calls Try.prog 11 #[.agg (t.cells a c).toArray] w (OwnE w.heap.size EntO t w) := by
  have HR := Lib.hid hr
  clear hr
  go_enter Try.func11, Try.ntmps11
  go_wp2_with (first
    | (refine wpList_load_mid rfl 30 _ rfl w.heap.size 20 rfl (t.cmd.task.cells a c) _ ((HB1.out.fr HF2.out (by simp)).range 20 7) Try.underlying30 rfl (task_size3 _ a c) ?_)
    | (refine wpList_boxB rfl 34 _ rfl (t.cells a c) (by rfl) ?_; intro w1 B1 F1 S1; have HB1 := Lib.hid B1; have HF1 := Lib.hid F1; have HS1 := Lib.hid S1; clear B1 F1 S1)
    | (refine wpList_allocZ rfl 34 rfl _ entry_zero2 ?_; intro w2 B2 F2 S2; have HB2 := Lib.hid B2; have HF2 := Lib.hid F2; have HS2 := Lib.hid S2; clear B2 F2 S2))
  refine (twinT_calls (w := w2) t.cmd.task a c (HR.out.fr0 (HF1.out.trans0 HF2.out)) hlen).mono ?_
  rintro e w3 ⟨v3, rfl, ⟨a3, k3, rfl, O3⟩, F3⟩
  have HB3 := Lib.hid ((HB1.out.fr HF2.out (by simp)).fr F3 (by simp))
  have HC3 := Lib.hid (HB2.out.fr F3 (by simp))
  have HF3 := Lib.hid ((HF1.out.trans0 HF2.out).trans0 F3)
  have HO3 := Lib.hid O3
  clear O3 F3
  go_wp2_with (first
    | (have z := HB4.out; clear z; refine wpList_loadB rfl 34 _ rfl w.heap.size (by rfl) 34 _ _ HB4.out Try.underlying34 rfl (entry_size2 t a3 k3) ?_)
    | (have z := HB4.out; clear z; refine wpList_storeB rfl 34 _ _ rfl w1.heap.size 0 (t.cells a3 k3) (by rfl) (by rfl) 34 _ HC4.out (by show 0 + 27 ≤ 27; omega) (entry_size2 t a3 k3) (t.one a3 k3) ?_; intro w5 B5 F5 S5; rw [splice_all _ _ (by rfl)] at B5; have HO5 := Lib.hid (HO4.out.fr F5 (fun g hg hm => by have := (HO4.out.lt hg).1; rw [List.mem_singleton.1 hm] at this; have := HS2.out; omega)); have HB5 := Lib.hid B5; have HF5 := Lib.hid (HF4.out.trans F5 (fun k hk hlt => by have := HS1.out; rw [List.mem_singleton.1 hk] at hlt; omega)); clear B5 F5 S5)
    | (refine wpList_storeB rfl 30 _ _ rfl w.heap.size 20 (t.cmd.task.cells a3 k3) (by rfl) (by rfl) 34 _ HB3.out (by show 20 + 7 ≤ 27; omega) (task_size3 _ a3 k3) (t.cmd.task.one3 a3 k3) ?_; intro w4 B4 F4 S4; have HB4 := Lib.hid (show Blk w4 w.heap.size 34 (t.cells a3 k3) from B4); have HC4 := Lib.hid (HC3.out.fr F4 (by have := HS1.out; simp; omega)); have HO4 := Lib.hid (HO3.out.fr F4 (fun g hg hm => by have := (HO3.out.lt hg).1; rw [List.mem_singleton.1 hm] at this; have := HS1.out; have := HS2.out; omega)); have HF4 := Lib.hid (HF3.out.trans F4 (fun k hk hlt => by rw [List.mem_singleton.1 hk] at hlt; omega)); clear B4 F4 S4))
  refine bodyPost_ret (results_cellB rfl _ _ w1.heap.size 34 _ _ (by rfl) HB5.out Try.underlying34 rfl (entry_size2 t a3 k3)) rfl ⟨_, rfl, ⟨a3, k3, rfl, HO5.out.base (by have := HS1.out; have := HS2.out; omega)⟩, HF5.out⟩
end Go.Fur
