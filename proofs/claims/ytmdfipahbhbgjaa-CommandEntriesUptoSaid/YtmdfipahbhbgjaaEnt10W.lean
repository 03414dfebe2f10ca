/- CommandEntries: the walk. -/
import Derived.Test.YtmdfipahbhbgjaaEnt10
namespace Go.Fur
open Go Go.RowKit Go.Proofs Go.Proofs.YtmdfipahbhbgjaaW.PrintWords
set_option linter.unusedVariables false
set_option linter.unusedSimpArgs false
theorem sameE_refl (t : Ent) : sameE t t = true := (sameE_is t t).2 rfl
set_option maxRecDepth 100000 in
set_option maxHeartbeats 4000000 in
theorem CommandEntries_calls {w : World} (x : Ent) (a : Option Addr) (c : Nat) (ha : Rd w a (iv x.cmd.task.tickets)) (hx : x.ok) (lx : x.cmd.task.tickets.length ≤ 1048576) :
    Calls Try.prog 3 #[.agg (x.cells a c).toArray] w (BoolE true w) := by
  have HT := Lib.hid (fun (W : World) (f : Fr [] w W) => twinE_calls (w := W) x a c (ha.fr0 f) lx)
  have HA := Lib.hid (fun (W : World) (b : Option Addr) (d : Nat) (h : Rd W b (iv x.cmd.task.tickets)) => encodeE_calls (w := W) (base := W.heap.size) (Nat.le_refl _) x b d h hx lx)
  have HB := Lib.hid (fun (W : World) (f : Fr [] w W) => entryR_calls (w := W) (base := W.heap.size) (Nat.le_refl _) x a c (ha.fr0 f) hx lx)
  have HS := Lib.hid (fun (W : World) (f : Fr [] w W) (b : Option Addr) (d : Nat) (h : Rd W b (iv x.cmd.task.tickets)) => sameE_calls (w := W) x x b a d c h (ha.fr0 f) (by omega))
  have HY := Lib.hid (encE_byt x)
  rw [sameE_refl] at HS
  generalize encE x = rx at *
  obtain ⟨bx, ex⟩ := rx
  clear ha hx lx
  go_enter Try.func3, Try.ntmps3
  go_wp2_with (refine wpList_boxB rfl 34 _ rfl (x.cells a c) (by rfl) ?_; intro w1 B1 F1 S1; have HB1 := Lib.hid B1; have HF1 := Lib.hid F1; have HS1 := Lib.hid S1; clear B1 F1 S1)
  refine (awake_calls w1).mono ?_
  rintro e w2 ⟨rfl, f2⟩
  have HB2 := Lib.hid (HB1.out.fr f2 (by simp))
  have HF2 := Lib.hid (HF1.out.trans0 f2)
  clear f2
  go_wp2_with (refine wpList_loadB rfl 34 _ rfl w.heap.size (by rfl) 34 _ _ HB2.out Try.underlying34 rfl (entry_size2 x a c) ?_)
  refine (HT.out _ HF2.out).mono ?_
  rintro e w3 ⟨v3, rfl, ⟨a3, k3, rfl, O3⟩, f3⟩
  have HB3 := Lib.hid (HB2.out.fr f3 (by simp))
  have HF3 := Lib.hid (HF2.out.trans0 f3)
  have HO3 := Lib.hid O3
  clear f3 O3
  go_wp2_with (first
    | (have z := HB5.out; clear z; refine wpList_loadB rfl 34 _ rfl w3.heap.size (by rfl) 34 _ _ HC5.out Try.underlying34 rfl (entry_size2 x a3 k3) ?_)
    | (refine wpList_storeB rfl 34 _ _ rfl w3.heap.size 0 (x.cells a3 k3) (by rfl) (by rfl) 34 _ HC4.out (by show 0 + 27 ≤ 27; omega) (entry_size2 x a3 k3) (x.one a3 k3) ?_; intro w5 B5 F5 S5; rw [splice_all _ _ (by rfl)] at B5; have HO5 := Lib.hid ((HO3.out.fr0 HF34.out).fr F5 (fun g hg hm => by have := (HO3.out.lt hg).2; rw [List.mem_singleton.1 hm] at this; omega)); have HB5 := Lib.hid (HB4.out.fr F5 (by have := HB3.out.lt; simp; omega)); have HC5 := Lib.hid B5; have HF5 := Lib.hid (HF4.out.trans F5 (fun k hk hlt => by have := HF3.out.size; rw [List.mem_singleton.1 hk] at hlt; omega)); clear B5 F5 S5)
    | (refine wpList_allocZ rfl 34 rfl _ entry_zero2 ?_; intro w4 B4 F4 S4; have HC4 := Lib.hid B4; have HF34 := Lib.hid F4; have HF4 := Lib.hid (HF3.out.trans0 F4); have HB4 := Lib.hid (HB3.out.fr F4 (by simp)); clear B4 F4 S4))
  obtain ⟨_, _, hv5, _, _, R5⟩ := HO5.out.form
  simp only [Value.slice.injEq] at hv5
  obtain ⟨rfl, _, rfl⟩ := hv5
  have HR5 := Lib.hid R5
  clear R5
  refine (HA.out w5 _ _ HR5.out).mono ?_
  rintro e w6 ⟨v6, rfl, O6, f6⟩
  obtain ⟨a6, k6, rfl, _, _, R6⟩ := O6.form
  have HB6 := Lib.hid (HB5.out.fr f6 (by simp))
  have HC6 := Lib.hid (HC5.out.fr f6 (by simp))
  have HF6 := Lib.hid (HF5.out.trans0 f6)
  have HR6 := Lib.hid R6
  have HT6 := Lib.hid (HR5.out.fr0 f6)
  clear O6 R6 f6
  dsimp only
  go_wp2_with (refine wpList_loadB rfl 34 _ rfl w.heap.size (by rfl) 34 _ _ HB6.out Try.underlying34 rfl (entry_size2 x a c) ?_)
  refine (HB.out w6 HF6.out).mono ?_
  rintro e w7 ⟨v7, rfl, O7, f7⟩
  obtain ⟨a7, k7, rfl, _, _, R7⟩ := O7.form
  have HB7 := Lib.hid (HB6.out.fr f7 (by simp))
  have HC7 := Lib.hid (HC6.out.fr f7 (by simp))
  have HF7 := Lib.hid (HF6.out.trans0 f7)
  have HR7 := Lib.hid R7
  have HR67 := Lib.hid (HR6.out.fr0 f7)
  have HT7 := Lib.hid (HT6.out.fr0 f7)
  clear O7 R7 f7
  dsimp only
  go_wp2_with fail
  refine (bytes_calls w7 a6 a7 k6 k7 bx.length bx.length bx bx rfl rfl HY.out HY.out HR67.out HR7.out).mono ?_
  rintro e w8 ⟨rfl, rfl⟩
  rw [show decide (bx = bx) = true from decide_eq_true rfl]
  go_wp2_with (first
    | (refine gate_guard (by rfl) (wpList_loadB rfl 34 _ rfl w3.heap.size (by rfl) 34 _ _ HC7.out Try.underlying34 rfl (entry_size2 x a3 k3) ?_))
    | (refine gate_guard (by rfl) (wpList_loadB rfl 34 _ rfl w.heap.size (by rfl) 34 _ _ HB7.out Try.underlying34 rfl (entry_size2 x a c) ?_)))
  refine (HS.out w7 HF7.out a3 k3 HT7.out).mono ?_
  rintro e w9 ⟨rfl, f9⟩
  have HF9 := Lib.hid (HF7.out.trans0 f9)
  clear f9
  go_wp2_with fail
  go_ret
  exact ⟨rfl, HF9.out⟩
end Go.Fur
