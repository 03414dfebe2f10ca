/- CommandCuts: the walk. -/
import Derived.Test.YtmdfipahbhbgjaaApart10
import Derived.Test.YtmdfipahbhbgjaaCuts10
namespace Go.Fur
open Go Go.RowKit Go.Proofs Go.Proofs.YtmdfipahbhbgjaaW.PrintWords
set_option linter.unusedVariables false
set_option linter.unusedSimpArgs false
theorem Ent.enc_length (t : Ent) : 0 < t.enc.length ∧ t.enc.length ≤ 9 * (t.cmd.task.tickets.length + 50) := by
  unfold Ent.enc Cmd.enc
  simp only [List.length_append]
  have h1 := intsE_length [t.gap, t.client, t.seq]
  have h2 := intsE_length [t.cmd.id, t.cmd.inc, t.cmd.beat, t.cmd.since]
  have h3 := intsE_length t.cmd.queue.ints
  have h4 := intsE_length t.cmd.node.ints
  have h5 := Tas.enc_length t.cmd.task
  have h6 := layN_length (u64 t.cmd.kind)
  have h7 := kl_le (u64 t.cmd.kind)
  simp only [List.length_cons, List.length_nil] at h1 h2
  have h8 : t.cmd.queue.ints.length = 7 := rfl
  have h9 : t.cmd.node.ints.length = 5 := rfl
  omega
theorem bytes_build0 : ∀ W : World, (Instr.buildSlice 37 0 #[]).run Try.prog W = .ok (.slice (some ⟨W.heap.size, 0, none⟩) 0 0) (W.alloc (.cells #[] 5)) := fun W => by kernel_rfl
theorem Rd.take {w : World} {a : Option Addr} {cs : List Value} (h : Rd w a cs) (n : Nat) : Rd w a (cs.take n) := fun hn => by
  obtain ⟨b, o, ha, hr⟩ := h (fun h0 => hn (by rw [h0, List.take_nil]))
  refine ⟨b, o, ha, fun j v hv => hr j v ?_⟩
  rw [List.getElem?_take] at hv
  split at hv
  · exact hv
  · cases hv
theorem entry_build0 (w : World) : (Instr.build 34 ([] : List (Nat × Value)).toArray).run Try.prog w = .ok (.agg (ent0.cells none 0).toArray) w := by kernel_rfl
theorem same_ent0 : sameE ent0 ent0 = true := by decide
set_option maxRecDepth 100000 in
set_option maxHeartbeats 4000000 in
theorem CommandCuts_calls {w : World} (x : Ent) (a : Option Addr) (c : Nat) (ha : Rd w a (iv x.cmd.task.tickets)) (hx : x.ok) (lx : x.cmd.task.tickets.length ≤ 1048576) (cut m : Int) (hcut : I64 cut) (hm : 0 ≤ m ∧ m < 256) :
    Calls Try.prog 4 #[.agg (x.cells a c).toArray, .int .i64 cut, .int .u8 m] w (BoolE true w) := by
  have HA := Lib.hid (fun (W : World) (f : Fr [] w W) => encodeE_calls (w := W) (base := W.heap.size) (Nat.le_refl _) x a c (ha.fr0 f) hx lx)
  have hex : (encE x).2 = x.err := by unfold encE; split <;> simp_all
  go_enter Try.func4, Try.ntmps4
  go_wp2_with (refine wpList_boxB rfl 34 _ rfl (x.cells a c) (by rfl) ?_; intro w1 B1 F1 S1; have HB1 := Lib.hid B1; have HF1 := Lib.hid F1; have HS1 := Lib.hid S1; clear B1 F1 S1)
  refine (awake_calls w1).mono ?_
  rintro e w3 ⟨rfl, f3⟩
  have HBX3 := Lib.hid (HB1.out.fr f3 (by simp))
  have HF3 := Lib.hid (HF1.out.trans0 f3)
  clear f3
  go_wp2_with (refine wpList_loadB rfl 34 _ rfl w.heap.size (by rfl) 34 _ _ HBX3.out Try.underlying34 rfl (entry_size2 x a c) ?_)
  by_cases h1 : x.err = 0
  · obtain ⟨hl0, hl1⟩ := x.enc_length
    obtain ⟨ht0, ht1⟩ := err_ok h1
    have HD1 := Lib.hid (fun (j : Nat) (hj : j < x.enc.length) (W : World) (ad : Option Addr) (k : Nat) (hk : x.enc.length ≤ k) (hr : Rd W ad (bv x.enc)) => by
      have h := decodeE_calls (w := W) (base := W.heap.size) (Nat.le_refl _) (a := ad) (n := j) (c := k) (l := x.enc.take j) ⟨by rw [List.length_take]; omega, by omega, by omega, x.enc_byt.take j⟩ (by rw [bv_take]; exact hr.take j)
      rw [dec_cut hx h1 j hj] at h
      exact h)
    have HD2 := Lib.hid (fun (W : World) (ad : Option Addr) (k : Nat) (hk : x.enc.length + 1 ≤ k) (hr : Rd W ad (bv (x.enc ++ [m]))) => by
      have h := decodeE_calls (w := W) (base := W.heap.size) (Nat.le_refl _) (a := ad) (n := x.enc.length + 1) (c := k) (l := x.enc ++ [m]) ⟨by rw [List.length_append]; rfl, by omega, by omega, x.enc_byt.append (fun z hz => by rw [List.mem_singleton.1 hz]; exact hm)⟩ hr
      rw [dec_more hx h1 m] at h
      exact h)
    have e1 : encE x = (x.enc, 0) := by unfold encE; rw [if_pos h1]
    rw [e1] at HA
    generalize x.enc = bx at *
    clear ha hx lx hex e1 ht1
    refine (HA.out _ HF3.out).mono ?_
    rintro e w4 ⟨v4, rfl, o4, f4⟩
    obtain ⟨a4, k4, rfl, g1, g2, g3⟩ := o4.form
    have HF4 := Lib.hid (HF3.out.trans0 f4)
    have HO4 := Lib.hid o4
    have HR4 := Lib.hid g3
    have HNB := Lib.hid (show bv bx ≠ [] from fun h0 => by have := congrArg List.length h0; simp at this; subst this; simp at hl0)
    have g1' : bx.length ≤ k4 := g1
    clear f4 o4 g1 g3 HA
    dsimp only
    have p0 : (0 : Int) ≤ (bx.length : Int) := by omega
    have p1 : ((bx.length : Int) == 0) = false := beq_eq_false_iff_ne.2 (by omega)
    have p2 : ¬ (bx.length : Int) = 0 := by omega
    by_cases hc : 0 ≤ cut ∧ cut < (bx.length : Int)
    · obtain ⟨j, rfl⟩ : ∃ j : Nat, cut = (j : Int) := ⟨cut.toNat, by omega⟩
      have q1 : ¬ ((j : Int) < 0 ∨ (bx.length : Int) ≤ (j : Int)) := by omega
      have q2 : (0 : Int) ≤ (j : Int) ∧ (j : Int) ≤ (k4 : Int) := by omega
      go_wp2_with fail
      refine (HD1.out j (by omega) w4 a4 k4 (by omega) HR4.out).mono ?_
      rintro e w5 ⟨v5, rfl, ⟨a6, k6, rfl, ho5⟩, hf5⟩
      have HF5 := Lib.hid (HF4.out.trans0 hf5)
      have HO5 := Lib.hid (HR4.out.fr0 hf5)
      clear ho5 hf5
      dsimp only
      go_wp2_with (first
        | (have z := HO9.out; clear z; refine wpList_appB rfl _ _ 37 37 rfl _ 5 5 .u8 1 Try.underlying37 Try.underlying37 info_byte v9 (0 + bx.length) ([] ++ bv bx) (by rfl) (HO9.out.fr0 HF10.out) _ 1 1 [.int .u8 m] (by rfl) (by simpa using HB10.out.rd0 1) (by simp) (by simp [Value.oneCell']) (by simp only [maxLen]; omega) (by omega) (by have := HS8.out; have := HF9.out.size; have := HF10.out.size; omega) ?_; intro v11 w11 O11 F11 K11 _; have HO11 := Lib.hid O11; have HF11 := Lib.hid ((HF9.out.trans0 HF10.out).trans F11 (fun k hk hlt => by have := (HO9.out.lt hk).1; omega)); clear O11 F11 K11)
        | (have z := HO9.out; clear z; refine wpList_buildSlice1 rfl 37 5 _ rfl [.int .u8 0] 1 1 Try.underlying37 info_byteZ (by simp) (by omega) (by omega) _ [.int .u8 m] (by rfl) (by rfl) (by simp) ?_; intro w10 B10 F10 S10; have HB10 := Lib.hid B10; have HF10 := Lib.hid F10; have HS10 := Lib.hid S10; clear B10 F10 S10)
        | (have z := HO8.out; clear z; refine wpList_appB rfl _ _ 37 37 rfl w7.heap.size 5 5 .u8 1 Try.underlying37 Try.underlying37 info_byte _ 0 [] (by rfl) HO8.out a4 bx.length k4 (bv bx) (by rfl) (HO7.out.fr0 HF8.out) (by simp) (bv_one _) (by simp only [maxLen]; omega) (by omega) (by have := HS8.out; omega) ?_; intro v9 w9 O9 F9 K9 _; have HF9 := Lib.hid (HF8.out.trans F9 (fun k hk hlt => by have := (HO8.out.lt hk).1; omega)); have HO9 := Lib.hid O9; clear O9 F9 K9)
        | (refine wpList_storeB rfl 34 _ _ rfl w5.heap.size 0 (ent0.cells a6 k6) (by rfl) (by rfl) 34 _ HB6.out (by rw [Ent.len, Ent.len]; omega) (entry_size2 ent0 a6 k6) (ent0.one a6 k6) ?_; intro w7 B7 F7 S7; have HF7 := Lib.hid ((HF5.out.trans0 HF6.out).trans F7 (fun k hk hlt => by have := HF5.out.size; rw [List.mem_singleton.1 hk] at hlt; omega)); have HO7 := Lib.hid ((HO5.out.fr0 HF6.out).fr F7 (fun x hx hm => by obtain ⟨b, o, hb, hlt⟩ := HO5.out.lt (HNB.out); rw [hb] at hx; injection hx with hx; subst hx; have := List.mem_singleton.1 hm; dsimp only at this; omega)); clear B7 F7 S7)
        | (refine wpList_build0 rfl 37 5 1 rfl bytes_build0 ?_; intro w8 O8 F8 S8; have HO8 := Lib.hid O8; have HF8 := Lib.hid F8; have HS8 := Lib.hid S8; clear O8 F8 S8)
        | (refine wpList_allocZ rfl 34 rfl _ entry_zero2 ?_; intro w6 B6 F6 S6; have HB6 := Lib.hid B6; have HF6 := Lib.hid F6; have HS6 := Lib.hid S6; clear B6 F6 S6))
      obtain ⟨a11, k11, rfl, q11, q12, r11⟩ := HO11.out.form
      have e11 : [] ++ bv bx ++ [Value.int .u8 m] = bv (bx ++ [m]) := by rw [List.nil_append, bv_append]; rfl
      rw [e11] at r11
      rw [Nat.zero_add] at q11
      simp only [Nat.zero_add]
      refine (HD2.out w11 a11 k11 q11 r11).mono ?_
      rintro e w12 ⟨v12, rfl, ⟨a13, k13, rfl, ho12⟩, hf12⟩
      have HF12 := Lib.hid ((HF7.out.trans0 HF11.out).trans0 hf12)
      clear ho12 hf12 e11 r11 q11 q12
      dsimp only
      go_wp2_with (first
        | (refine wpList_storeB rfl 34 _ _ rfl w12.heap.size 0 (ent0.cells a13 k13) (by rfl) (by rfl) 34 _ HB13.out (by rw [Ent.len, Ent.len]; omega) (entry_size2 ent0 a13 k13) (ent0.one a13 k13) ?_; intro w14 B14 F14 S14; rw [splice_all _ _ (by rfl)] at B14; have HF14 := Lib.hid ((HF12.out.trans0 HF13.out).trans F14 (fun k hk hlt => by have := HF12.out.size; rw [List.mem_singleton.1 hk] at hlt; omega)); have HB14 := Lib.hid B14; clear B14 F14 S14)
        | (refine wpList_allocZ rfl 34 rfl _ entry_zero2 ?_; intro w13 B13 F13 S13; have HB13 := Lib.hid B13; have HF13 := Lib.hid F13; have HS13 := Lib.hid S13; clear B13 F13 S13)
        | (refine gate_guard (by rfl) (wpList_loadB rfl 34 _ rfl w12.heap.size (by rfl) 34 _ _ HB14.out Try.underlying34 rfl (entry_size2 ent0 a13 k13) ?_))
        | (refine gate_guard (by rfl) (wpList_buildV rfl 34 [] rfl [] (by rfl) _ (entry_build0 _) ?_)))
      refine (sameE_calls (w := w14) ent0 ent0 a13 none k13 0 (Rd.nil _ _) (Rd.nil _ _) (by decide)).mono ?_
      rintro e w15 ⟨rfl, f15⟩
      have HF15 := Lib.hid (HF14.out.trans0 f15)
      clear f15
      rw [same_ent0]
      go_wp2_with fail
      go_ret
      exact ⟨rfl, HF15.out⟩
    · have q1 : cut < 0 ∨ (bx.length : Int) ≤ cut := by omega
      have hsm : bx.length ≤ 9 * (1024 + 50) := by omega
      have q2 : (bx.length : Int) - 1 = ((bx.length - 1 : Nat) : Int) := by omega
      have q3 : (0 : Int) ≤ ((bx.length - 1 : Nat) : Int) ∧ ((bx.length - 1 : Nat) : Int) ≤ (k4 : Int) := by omega
      generalize hj : bx.length - 1 = j at *
      by_cases hneg : cut < 0
      · go_wp2_with fail
        refine (HD1.out j (by omega) w4 a4 k4 (by omega) HR4.out).mono ?_
        rintro e w5 ⟨v5, rfl, ⟨a6, k6, rfl, ho5⟩, hf5⟩
        have HF5 := Lib.hid (HF4.out.trans0 hf5)
        have HO5 := Lib.hid (HR4.out.fr0 hf5)
        clear ho5 hf5
        dsimp only
        go_wp2_with (first
          | (have z := HO9.out; clear z; refine wpList_appB rfl _ _ 37 37 rfl _ 5 5 .u8 1 Try.underlying37 Try.underlying37 info_byte v9 (0 + bx.length) ([] ++ bv bx) (by rfl) (HO9.out.fr0 HF10.out) _ 1 1 [.int .u8 m] (by rfl) (by simpa using HB10.out.rd0 1) (by simp) (by simp [Value.oneCell']) (by simp only [maxLen]; omega) (by omega) (by have := HS8.out; have := HF9.out.size; have := HF10.out.size; omega) ?_; intro v11 w11 O11 F11 K11 _; have HO11 := Lib.hid O11; have HF11 := Lib.hid ((HF9.out.trans0 HF10.out).trans F11 (fun k hk hlt => by have := (HO9.out.lt hk).1; omega)); clear O11 F11 K11)
          | (have z := HO9.out; clear z; refine wpList_buildSlice1 rfl 37 5 _ rfl [.int .u8 0] 1 1 Try.underlying37 info_byteZ (by simp) (by omega) (by omega) _ [.int .u8 m] (by rfl) (by rfl) (by simp) ?_; intro w10 B10 F10 S10; have HB10 := Lib.hid B10; have HF10 := Lib.hid F10; have HS10 := Lib.hid S10; clear B10 F10 S10)
          | (have z := HO8.out; clear z; refine wpList_appB rfl _ _ 37 37 rfl w7.heap.size 5 5 .u8 1 Try.underlying37 Try.underlying37 info_byte _ 0 [] (by rfl) HO8.out a4 bx.length k4 (bv bx) (by rfl) (HO7.out.fr0 HF8.out) (by simp) (bv_one _) (by simp only [maxLen]; omega) (by omega) (by have := HS8.out; omega) ?_; intro v9 w9 O9 F9 K9 _; have HF9 := Lib.hid (HF8.out.trans F9 (fun k hk hlt => by have := (HO8.out.lt hk).1; omega)); have HO9 := Lib.hid O9; clear O9 F9 K9)
          | (refine wpList_storeB rfl 34 _ _ rfl w5.heap.size 0 (ent0.cells a6 k6) (by rfl) (by rfl) 34 _ HB6.out (by rw [Ent.len, Ent.len]; omega) (entry_size2 ent0 a6 k6) (ent0.one a6 k6) ?_; intro w7 B7 F7 S7; have HF7 := Lib.hid ((HF5.out.trans0 HF6.out).trans F7 (fun k hk hlt => by have := HF5.out.size; rw [List.mem_singleton.1 hk] at hlt; omega)); have HO7 := Lib.hid ((HO5.out.fr0 HF6.out).fr F7 (fun x hx hm => by obtain ⟨b, o, hb, hlt⟩ := HO5.out.lt (HNB.out); rw [hb] at hx; injection hx with hx; subst hx; have := List.mem_singleton.1 hm; dsimp only at this; omega)); clear B7 F7 S7)
          | (refine wpList_build0 rfl 37 5 1 rfl bytes_build0 ?_; intro w8 O8 F8 S8; have HO8 := Lib.hid O8; have HF8 := Lib.hid F8; have HS8 := Lib.hid S8; clear O8 F8 S8)
          | (refine wpList_allocZ rfl 34 rfl _ entry_zero2 ?_; intro w6 B6 F6 S6; have HB6 := Lib.hid B6; have HF6 := Lib.hid F6; have HS6 := Lib.hid S6; clear B6 F6 S6))
        obtain ⟨a11, k11, rfl, q11, q12, r11⟩ := HO11.out.form
        have e11 : [] ++ bv bx ++ [Value.int .u8 m] = bv (bx ++ [m]) := by rw [List.nil_append, bv_append]; rfl
        rw [e11] at r11
        rw [Nat.zero_add] at q11
        simp only [Nat.zero_add]
        refine (HD2.out w11 a11 k11 q11 r11).mono ?_
        rintro e w12 ⟨v12, rfl, ⟨a13, k13, rfl, ho12⟩, hf12⟩
        have HF12 := Lib.hid ((HF7.out.trans0 HF11.out).trans0 hf12)
        clear ho12 hf12 e11 r11 q11 q12
        dsimp only
        go_wp2_with (first
          | (refine wpList_storeB rfl 34 _ _ rfl w12.heap.size 0 (ent0.cells a13 k13) (by rfl) (by rfl) 34 _ HB13.out (by rw [Ent.len, Ent.len]; omega) (entry_size2 ent0 a13 k13) (ent0.one a13 k13) ?_; intro w14 B14 F14 S14; rw [splice_all _ _ (by rfl)] at B14; have HF14 := Lib.hid ((HF12.out.trans0 HF13.out).trans F14 (fun k hk hlt => by have := HF12.out.size; rw [List.mem_singleton.1 hk] at hlt; omega)); have HB14 := Lib.hid B14; clear B14 F14 S14)
          | (refine wpList_allocZ rfl 34 rfl _ entry_zero2 ?_; intro w13 B13 F13 S13; have HB13 := Lib.hid B13; have HF13 := Lib.hid F13; have HS13 := Lib.hid S13; clear B13 F13 S13)
          | (refine gate_guard (by rfl) (wpList_loadB rfl 34 _ rfl w12.heap.size (by rfl) 34 _ _ HB14.out Try.underlying34 rfl (entry_size2 ent0 a13 k13) ?_))
          | (refine gate_guard (by rfl) (wpList_buildV rfl 34 [] rfl [] (by rfl) _ (entry_build0 _) ?_)))
        refine (sameE_calls (w := w14) ent0 ent0 a13 none k13 0 (Rd.nil _ _) (Rd.nil _ _) (by decide)).mono ?_
        rintro e w15 ⟨rfl, f15⟩
        have HF15 := Lib.hid (HF14.out.trans0 f15)
        clear f15
        rw [same_ent0]
        go_wp2_with fail
        go_ret
        exact ⟨rfl, HF15.out⟩
      · go_wp2_with fail
        refine (HD1.out j (by omega) w4 a4 k4 (by omega) HR4.out).mono ?_
        rintro e w5 ⟨v5, rfl, ⟨a6, k6, rfl, ho5⟩, hf5⟩
        have HF5 := Lib.hid (HF4.out.trans0 hf5)
        have HO5 := Lib.hid (HR4.out.fr0 hf5)
        clear ho5 hf5
        dsimp only
        go_wp2_with (first
          | (have z := HO9.out; clear z; refine wpList_appB rfl _ _ 37 37 rfl _ 5 5 .u8 1 Try.underlying37 Try.underlying37 info_byte v9 (0 + bx.length) ([] ++ bv bx) (by rfl) (HO9.out.fr0 HF10.out) _ 1 1 [.int .u8 m] (by rfl) (by simpa using HB10.out.rd0 1) (by simp) (by simp [Value.oneCell']) (by simp only [maxLen]; omega) (by omega) (by have := HS8.out; have := HF9.out.size; have := HF10.out.size; omega) ?_; intro v11 w11 O11 F11 K11 _; have HO11 := Lib.hid O11; have HF11 := Lib.hid ((HF9.out.trans0 HF10.out).trans F11 (fun k hk hlt => by have := (HO9.out.lt hk).1; omega)); clear O11 F11 K11)
          | (have z := HO9.out; clear z; refine wpList_buildSlice1 rfl 37 5 _ rfl [.int .u8 0] 1 1 Try.underlying37 info_byteZ (by simp) (by omega) (by omega) _ [.int .u8 m] (by rfl) (by rfl) (by simp) ?_; intro w10 B10 F10 S10; have HB10 := Lib.hid B10; have HF10 := Lib.hid F10; have HS10 := Lib.hid S10; clear B10 F10 S10)
          | (have z := HO8.out; clear z; refine wpList_appB rfl _ _ 37 37 rfl w7.heap.size 5 5 .u8 1 Try.underlying37 Try.underlying37 info_byte _ 0 [] (by rfl) HO8.out a4 bx.length k4 (bv bx) (by rfl) (HO7.out.fr0 HF8.out) (by simp) (bv_one _) (by simp only [maxLen]; omega) (by omega) (by have := HS8.out; omega) ?_; intro v9 w9 O9 F9 K9 _; have HF9 := Lib.hid (HF8.out.trans F9 (fun k hk hlt => by have := (HO8.out.lt hk).1; omega)); have HO9 := Lib.hid O9; clear O9 F9 K9)
          | (refine wpList_storeB rfl 34 _ _ rfl w5.heap.size 0 (ent0.cells a6 k6) (by rfl) (by rfl) 34 _ HB6.out (by rw [Ent.len, Ent.len]; omega) (entry_size2 ent0 a6 k6) (ent0.one a6 k6) ?_; intro w7 B7 F7 S7; have HF7 := Lib.hid ((HF5.out.trans0 HF6.out).trans F7 (fun k hk hlt => by have := HF5.out.size; rw [List.mem_singleton.1 hk] at hlt; omega)); have HO7 := Lib.hid ((HO5.out.fr0 HF6.out).fr F7 (fun x hx hm => by obtain ⟨b, o, hb, hlt⟩ := HO5.out.lt (HNB.out); rw [hb] at hx; injection hx with hx; subst hx; have := List.mem_singleton.1 hm; dsimp only at this; omega)); clear B7 F7 S7)
          | (refine wpList_build0 rfl 37 5 1 rfl bytes_build0 ?_; intro w8 O8 F8 S8; have HO8 := Lib.hid O8; have HF8 := Lib.hid F8; have HS8 := Lib.hid S8; clear O8 F8 S8)
          | (refine wpList_allocZ rfl 34 rfl _ entry_zero2 ?_; intro w6 B6 F6 S6; have HB6 := Lib.hid B6; have HF6 := Lib.hid F6; have HS6 := Lib.hid S6; clear B6 F6 S6))
        obtain ⟨a11, k11, rfl, q11, q12, r11⟩ := HO11.out.form
        have e11 : [] ++ bv bx ++ [Value.int .u8 m] = bv (bx ++ [m]) := by rw [List.nil_append, bv_append]; rfl
        rw [e11] at r11
        rw [Nat.zero_add] at q11
        simp only [Nat.zero_add]
        refine (HD2.out w11 a11 k11 q11 r11).mono ?_
        rintro e w12 ⟨v12, rfl, ⟨a13, k13, rfl, ho12⟩, hf12⟩
        have HF12 := Lib.hid ((HF7.out.trans0 HF11.out).trans0 hf12)
        clear ho12 hf12 e11 r11 q11 q12
        dsimp only
        go_wp2_with (first
          | (refine wpList_storeB rfl 34 _ _ rfl w12.heap.size 0 (ent0.cells a13 k13) (by rfl) (by rfl) 34 _ HB13.out (by rw [Ent.len, Ent.len]; omega) (entry_size2 ent0 a13 k13) (ent0.one a13 k13) ?_; intro w14 B14 F14 S14; rw [splice_all _ _ (by rfl)] at B14; have HF14 := Lib.hid ((HF12.out.trans0 HF13.out).trans F14 (fun k hk hlt => by have := HF12.out.size; rw [List.mem_singleton.1 hk] at hlt; omega)); have HB14 := Lib.hid B14; clear B14 F14 S14)
          | (refine wpList_allocZ rfl 34 rfl _ entry_zero2 ?_; intro w13 B13 F13 S13; have HB13 := Lib.hid B13; have HF13 := Lib.hid F13; have HS13 := Lib.hid S13; clear B13 F13 S13)
          | (refine gate_guard (by rfl) (wpList_loadB rfl 34 _ rfl w12.heap.size (by rfl) 34 _ _ HB14.out Try.underlying34 rfl (entry_size2 ent0 a13 k13) ?_))
          | (refine gate_guard (by rfl) (wpList_buildV rfl 34 [] rfl [] (by rfl) _ (entry_build0 _) ?_)))
        refine (sameE_calls (w := w14) ent0 ent0 a13 none k13 0 (Rd.nil _ _) (Rd.nil _ _) (by decide)).mono ?_
        rintro e w15 ⟨rfl, f15⟩
        have HF15 := Lib.hid (HF14.out.trans0 f15)
        clear f15
        rw [same_ent0]
        go_wp2_with fail
        go_ret
        exact ⟨rfl, HF15.out⟩
  · have hb1 : (x.err != 0) = true := by simpa using h1
    refine (HA.out _ HF3.out).mono ?_
    rintro e w4 ⟨v4, rfl, o4, f4⟩
    rw [hex]
    have HF4 := Lib.hid (HF3.out.trans0 f4)
    clear f4 o4 h1
    dsimp only
    go_wp2_with fail
    go_ret
    exact ⟨rfl, HF4.out⟩
end Go.Fur
