/- The document's reading of answers and entries: contracts. -/
import Derived.Test.YtmdfipahbhbgjaaReadsA
import Derived.Test.YtmdfipahbhbgjaaBack2
import Derived.Test.YtmdfipahbhbgjaaWGuard
import Derived.Deep.CutBlock
import Derived.Test.YtmdfipahbhbgjaaWrit
import Derived.Test.YtmdfipahbhbgjaaAwake10
namespace Go.Fur
open Go Go.RowKit Go.Proofs Go.Proofs.YtmdfipahbhbgjaaW.PrintWords
set_option linter.unusedVariables false
set_option linter.unusedSimpArgs false
theorem read_build (a : Option Addr) (n c : Nat) (w : World) : (Instr.build 92 [(0, .slice a n c)].toArray).run Try.prog w = .ok (.agg (rdc a n c (0, 0)).toArray) w := by kernel_rfl
theorem ans_build0 (w : World) : (Instr.build 49 ([] : List (Nat × Value)).toArray).run Try.prog w = .ok (.agg (ans0.cells none 0 none 0).toArray) w := by kernel_rfl
theorem ent_build0 (w : World) : (Instr.build 34 ([] : List (Nat × Value)).toArray).run Try.prog w = .ok (.agg (ent0.cells none 0).toArray) w := by kernel_rfl
theorem endR_0 {l : List Int} {s : Int × Int} (h : (endR l s).2 = 0) : endR l s = (0, 0) ∧ s.2 = 0 := by
  unfold endR at h ⊢
  by_cases h0 : s.2 = 0
  · rw [if_pos h0] at h ⊢
    by_cases h1 : s.1 < (l.length : Int)
    · rw [if_pos h1] at h
      simp at h
    · rw [if_neg h1]
      exact ⟨rfl, h0⟩
  · rw [if_neg h0] at h
    exact absurd h h0
theorem dec_yes {β : Type} {l : List Int} {zero : β} {r : β × Int × Int} (h : (endR l r.2).2 = 0) : decR l zero r = (r.1, 0, 0) := by
  unfold decR
  rw [if_pos h, (endR_0 h).1]
theorem dec_no {β : Type} {l : List Int} {zero : β} {r : β × Int × Int} (h : ¬ (endR l r.2).2 = 0) : decR l zero r = (zero, endR l r.2) := by
  unfold decR
  rw [if_neg h]
set_option maxRecDepth 100000 in
set_option maxHeartbeats 8000000 in
theorem docA_calls {w : World} {a : Option Addr} {n c : Nat} {l : List Int} (hs : Src l a n c) (hr : Rd w a (bv l)) :
    Calls Try.prog 19 #[.slice a n c] w (DecE w.heap.size AnsO (decR l ans0 (rA l (0, 0))) w) := by
  have HK0 := Lib.hid (fun (W : World) (f : Fr [] w W) => numsR_calls (w := W) hs (hr.fr0 f) (0, 0) 3 (by decide))
  rw [nums_3] at HK0
  have hb := hs.byt
  unfold rA
  dsimp only
  generalize rI l (0, 0) = r1 at *
  obtain ⟨x1, t1⟩ := r1
  dsimp only at HK0 ⊢
  generalize rI l t1 = r2 at *
  obtain ⟨x2, t2⟩ := r2
  dsimp only at HK0 ⊢
  generalize rI l t2 = r3 at *
  obtain ⟨x3, s0⟩ := r3
  dsimp only at HK0 ⊢
  have HK1 := Lib.hid (fun (W : World) (f : Fr [] w W) => listR_calls (w := W) hs (hr.fr0 f) s0)
  generalize allR l (rI l) s0 = r4 at *
  obtain ⟨ys, s1⟩ := r4
  dsimp only at HK1 ⊢
  have HK2 := Lib.hid (fun (W : World) (f : Fr [] w W) => leasR_calls (w := W) hs (hr.fr0 f) s1)
  have g5 := allR_got hb (fun s => rL_got hb s) s1
  generalize allR l (rL l) s1 = r5 at *
  obtain ⟨zs, s2⟩ := r5
  dsimp only at HK2 ⊢
  have HKE := Lib.hid (fun h => (g5 h).1)
  have HK3 := Lib.hid (fun (W : World) (f : Fr [] w W) => endR_calls (w := W) (a := a) (c := c) hs.len s2)
  have HY := Lib.hid (fun (h : (endR l s2).2 = 0) => dec_yes (l := l) (zero := ans0) (r := ((⟨x1, x2, x3, ys, zs⟩ : Ans), s2)) h)
  have HN := Lib.hid (fun (h : ¬ (endR l s2).2 = 0) => dec_no (l := l) (zero := ans0) (r := ((⟨x1, x2, x3, ys, zs⟩ : Ans), s2)) h)
  have HE0 := Lib.hid (fun (h : (endR l s2).2 = 0) => (endR_0 h).2)
  generalize decR l ans0 ((⟨x1, x2, x3, ys, zs⟩ : Ans), s2) = dr at *
  generalize endR l s2 = er at *
  obtain ⟨ea, ee⟩ := er
  dsimp only at HK3 HY HN HE0
  clear hs hr hb g5
  go_enter Try.func19, Try.ntmps19
  go_wp2_with (first
    | (refine wpList_buildV rfl 92 [(0, .tmp 12)] rfl [(0, .slice a n c)] (by rfl) _ (read_build a n c _) ?_)
    | (refine wpList_allocZ rfl 49 rfl _ answer_zero3 ?_; intro w1 B1 F1 S1; have HA1 := Lib.hid B1; have HF1 := Lib.hid F1; have HS1 := Lib.hid S1; clear B1 F1 S1))
  refine (HK0.out w1 HF1.out).mono ?_
  rintro e w2 ⟨g0, rfl, hg0, G, f2⟩
  have HG2 := Lib.hid G
  have HF2 := Lib.hid (HF1.out.trans0 f2)
  have HA2 := Lib.hid (HA1.out.fr f2 (by simp))
  have hgw : w.heap.size < g0 := by have := HS1.out; omega
  clear G f2
  dsimp only
  go_wp2_with (first
    | (have z := HB4.out; clear z; refine wpList_loadB rfl 92 _ rfl w2.heap.size (by rfl) 92 _ _ HB4.out Try.underlying92 rfl (read_size a n c s0) ?_)
    | (have z := HB3.out; clear z; refine wpList_storeB rfl 92 _ _ rfl w2.heap.size 0 (rdc a n c s0) (by rfl) (by rfl) 92 _ HB3.out (by show 0 + 3 ≤ 3; omega) (read_size a n c s0) (rdc_one _ _ _ _) ?_; intro w4 B F S; rw [splice_all _ _ (by rfl)] at B; have HB4 := Lib.hid B; have HX4 := Lib.hid (HX3.out.trans F (fun k hk hlt => by rw [List.mem_singleton.1 hk] at hlt; omega)); clear B F S)
    | (refine wpList_allocZ rfl 92 rfl _ read_zero ?_; intro w3 B3 F3 S3; have HB3 := Lib.hid B3; have HX3 := Lib.hid F3; clear B3 F3 S3))
  have HF4 := Lib.hid (HF2.out.trans0 HX4.out)
  have HA4 := Lib.hid (HA2.out.fr HX4.out (by simp))
  have HG4 := Lib.hid (HG2.out.fr HX4.out (by simp))
  have hw12 : w1.heap.size ≤ w2.heap.size := by have := HS1.out; have := HG2.out.lt; omega
  have hgr : g0 < w2.heap.size := HG2.out.lt
  have h24 : w2.heap.size < w4.heap.size := HB4.out.lt
  refine (HK1.out w4 HF4.out).mono ?_
  rintro e w5 ⟨v1, xs, rfl, O, hxs, f5⟩
  obtain ⟨a1, k1, rfl, _, _, _⟩ := O.form
  have HO5 := Lib.hid (O.base (base' := w2.heap.size + 1) h24)
  have HXS := Lib.hid hxs
  have HB5 := Lib.hid (HB4.out.fr f5 (by simp))
  have HA5 := Lib.hid (HA4.out.fr f5 (by simp))
  have HG5 := Lib.hid (HG4.out.fr f5 (by simp))
  have HF5 := Lib.hid (HF4.out.trans0 f5)
  have h45 := f5.size
  clear O hxs f5
  dsimp only
  go_wp2_with (first
    | (have z := HB6.out; clear z; refine wpList_loadB rfl 92 _ rfl w2.heap.size (by rfl) 92 _ _ HB6.out Try.underlying92 rfl (read_size a n c s1) ?_)
    | (refine wpList_storeB rfl 92 _ _ rfl w2.heap.size 0 (rdc a n c s1) (by rfl) (by rfl) 92 _ HB5.out (by show 0 + 3 ≤ 3; omega) (read_size a n c s1) (rdc_one _ _ _ _) ?_; intro w6 B F S; rw [splice_all _ _ (by rfl)] at B; have HB6 := Lib.hid B; have HX6 := Lib.hid F; clear B F S))
  have HF6 := Lib.hid (HF5.out.trans HX6.out (fun k hk hlt => by rw [List.mem_singleton.1 hk] at hlt; have := HF2.out.size; omega))
  have HA6 := Lib.hid (HA5.out.fr HX6.out (by have := HA2.out.lt; simp; omega))
  have HG6 := Lib.hid (HG5.out.fr HX6.out (by simp; omega))
  have HO6 := Lib.hid (HO5.out.fr HX6.out (fun g hg hm => by have := (HO5.out.lt hg).1; rw [List.mem_singleton.1 hm] at this; omega))
  refine (HK2.out w6 HF6.out).mono ?_
  rintro e w7 ⟨v2, ls, rfl, R, hls, f7⟩
  obtain ⟨a2, k2, rfl, _, _⟩ := R.form
  have h46 : w2.heap.size + 1 ≤ w6.heap.size := by have := HX6.out.size; omega
  have HR7 := Lib.hid ((R.base (base' := w2.heap.size + 1) h46).map (fun cs t h => LeaW.base (b' := w2.heap.size + 1) h46 h))
  have HLS := Lib.hid hls
  have HB7 := Lib.hid (HB6.out.fr f7 (by simp))
  have HA7 := Lib.hid (HA6.out.fr f7 (by simp))
  have HG7 := Lib.hid (HG6.out.fr f7 (by simp))
  have HO7 := Lib.hid (HO6.out.fr0 f7)
  have HF7 := Lib.hid (HF6.out.trans0 f7)
  clear R hls f7
  dsimp only
  go_wp2_with (first
    | (have z := HB8.out; clear z; refine wpList_loadB rfl 92 _ rfl w2.heap.size (by rfl) 92 _ _ HB8.out Try.underlying92 rfl (read_size a n c s2) ?_)
    | (refine wpList_storeB rfl 92 _ _ rfl w2.heap.size 0 (rdc a n c s2) (by rfl) (by rfl) 92 _ HB7.out (by show 0 + 3 ≤ 3; omega) (read_size a n c s2) (rdc_one _ _ _ _) ?_; intro w8 B F S; rw [splice_all _ _ (by rfl)] at B; have HB8 := Lib.hid B; have HX8 := Lib.hid F; clear B F S))
  have HF8 := Lib.hid (HF7.out.trans HX8.out (fun k hk hlt => by rw [List.mem_singleton.1 hk] at hlt; have := HF2.out.size; omega))
  have HA8 := Lib.hid (HA7.out.fr HX8.out (by have := HA2.out.lt; simp; omega))
  have HG8 := Lib.hid (HG7.out.fr HX8.out (by simp; omega))
  have HO8 := Lib.hid (HO7.out.fr HX8.out (fun g hg hm => by have := (HO7.out.lt hg).1; rw [List.mem_singleton.1 hm] at this; omega))
  have HR8 := Lib.hid (HR7.out.ltB (S := [w2.heap.size]) (fun g hg => by rw [List.mem_singleton.1 hg]; omega) HX8.out (fun cs t h => LeaW.lt (fun g hg => by rw [List.mem_singleton.1 hg]; omega) HX8.out h))
  refine (HK3.out w8 HF8.out).mono ?_
  rintro e w9 ⟨rfl, f9⟩
  have HF9 := Lib.hid (HF8.out.trans0 f9)
  have HA9 := Lib.hid (HA8.out.fr f9 (by simp))
  have HG9 := Lib.hid (HG8.out.fr f9 (by simp))
  have HO9 := Lib.hid (HO8.out.fr0 f9)
  have HR9 := Lib.hid (HR8.out.fr f9 (by simp) (fun cs t h => LeaW.lt (S := []) (by simp) f9 h))
  clear f9 HO5 HO6 HO7 HO8 HR7 HR8 HA1 HA2 HA4 HA5 HA6 HA7 HA8 HG2 HG4 HG5 HG6 HG7 HG8 HB4 HB5 HB6 HB7 HB8 HF1 HF4 HF5 HF6 HF7 HF8 HX4 HX6 HX8 HX3 HB3
  dsimp only
  by_cases he : ee = 0
  · subst he
    have e1 := HXS.out (HKE.out (HE0.out rfl))
    have e2 := HLS.out (HE0.out rfl)
    have e3 := HY.out rfl
    clear HXS HLS HKE HE0 HY HN HK0 HK1 HK2 HK3
    subst e1 e2 e3
    go_wp2_with fail
    refine wp_region_ord (Fr [w.heap.size] w9) [0, 1, 2, 3, 4, 5, 6, 7, 8, 9, 10, 11, 12, 13, 14, 15] [] [13] [2, 5, 8] mixed (by kernel_rfl) ?_
    have hS : Fr [w.heap.size] w9 w9.drew := (Fr.refl _ _).drew
    have d1 : ∀ W, Fr [w.heap.size] w9 W → W.cell? ⟨g0, 0, none⟩ = some (.int .i64 x1) := fun W f => (HG9.out.fr f (by simp; omega)).cellAt rfl
    have d2 : ∀ W, Fr [w.heap.size] w9 W → W.cell? ⟨g0, 1, none⟩ = some (.int .i64 x2) := fun W f => (HG9.out.fr f (by simp; omega)).cellAt rfl
    have d3 : ∀ W, Fr [w.heap.size] w9 W → W.cell? ⟨g0, 2, none⟩ = some (.int .i64 x3) := fun W f => (HG9.out.fr f (by simp; omega)).cellAt rfl
    simp only [pairs, pickN]
    repeat (first | (refine wpO_free ?_ (by rfl) (by rfl) (fun w' => ?_) ?_; rotate_left; (go_simp; rfl); simp only [Act.put, List.setIfInBounds_toArray, List.set_cons_zero, List.set_cons_succ]) | (refine wpO_take ?_ hS (by rfl) (by rfl) (fun w' hw' => ?_) ?_; rotate_left; (go_simp; rfl); simp only [Act.put, List.setIfInBounds_toArray, List.set_cons_zero, List.set_cons_succ]) | (refine wpO_pass (by rfl) ?_; simp only [Act.put, List.setIfInBounds_toArray, List.set_cons_zero, List.set_cons_succ]))
    refine wpO_eff (by rfl) ?_
    refine wpList_storeB rfl 49 _ _ rfl w.heap.size 0 ([.int .i64 x1, .int .i64 x2, .int .i64 x3, .slice a1 xs.length k1, .slice a2 ls.length k2] : List Value) (by rfl) (by rfl) 49 _ (Blk.drew HA9.out) (by show 0 + 5 ≤ 5; omega) (by kernel_rfl) (by simp [Value.oneCell']) ?_
    intro wa Ba Fa Sa
    rw [splice_all _ _ (by rfl)] at Ba
    have Sa1 : Fr [w.heap.size] w9 wa := hS.trans1 Fa
    refine effQ_keep Sa1 ?_
    simp only [Act.put, List.setIfInBounds_toArray, List.set_cons_zero, List.set_cons_succ]
    repeat (first | (refine wpO_free ?_ (by rfl) (by rfl) (fun w' => ?_) ?_; rotate_left; (go_simp; rfl); simp only [Act.put, List.setIfInBounds_toArray, List.set_cons_zero, List.set_cons_succ]) | (refine wpO_pass (by rfl) ?_; simp only [Act.put, List.setIfInBounds_toArray, List.set_cons_zero, List.set_cons_succ]))
    refine wpO_nil ?_
    have HBa := Lib.hid Ba
    have HSa := Lib.hid Sa1
    clear hS d1 d2 d3 Ba Fa Sa Sa1
    go_wp2_with fail
    refine bodyPost_ret (results_cellB_tmp2 rfl _ _ w.heap.size 49 _ _ (by rfl) HBa.out Try.underlying49 rfl (by kernel_rfl)) rfl ⟨_, by rfl, ⟨a1, k1, a2, k2, rfl, ?_, ?_⟩, HF9.out.trans HSa.out (fun k hk hlt => by rw [List.mem_singleton.1 hk] at hlt; omega)⟩
    · exact (HO9.out.fr HSa.out (fun g hg hm => by have := (HO9.out.lt hg).1; rw [List.mem_singleton.1 hm] at this; omega)).base (by omega)
    · exact ((HR9.out.ltB (S := [w.heap.size]) (fun g hg => by rw [List.mem_singleton.1 hg]; omega) HSa.out (fun cs t h => LeaW.lt (fun g hg => by rw [List.mem_singleton.1 hg]; omega) HSa.out h)).base (by omega)).map (fun cs t h => LeaW.base (by omega) h)
  · have hb : (ee != 0) = true := by simpa using he
    have e3 := HN.out he
    clear HXS HLS HKE HE0 HY HN he HK0 HK1 HK2 HK3
    subst e3
    go_wp2_with (first
      | (refine wpList_buildV rfl 49 [] rfl [] (by rfl) _ (ans_build0 _) ?_)
      | (refine wpList_storeB rfl 49 _ _ rfl w.heap.size 0 (ans0.cells none 0 none 0) (by rfl) (by rfl) 49 _ HA9.out (by show 0 + 5 ≤ 5; omega) (by kernel_rfl) (by simp [Value.oneCell', Ans.cells]) ?_; intro wa Ba Fa Sa; rw [splice_all _ _ (by rfl)] at Ba; have HBa := Lib.hid Ba; have HSa := Lib.hid Fa; clear Ba Fa Sa))
    exact bodyPost_ret (results_cellB_tmp2 rfl _ _ w.heap.size 49 _ _ (by rfl) HBa.out Try.underlying49 rfl (by kernel_rfl)) rfl ⟨_, by rfl, ans0_O _ _, HF9.out.trans HSa.out (fun k hk hlt => by rw [List.mem_singleton.1 hk] at hlt; omega)⟩
end Go.Fur
namespace Go.Fur
open Go Go.RowKit Go.Proofs Go.Proofs.YtmdfipahbhbgjaaW.PrintWords
set_option linter.unusedVariables false
set_option linter.unusedSimpArgs false
theorem nums_4 (l : List Int) (s : Int × Int) : numsP l 4 s = ([(rI l s).1, (rI l (rI l s).2).1, (rI l (rI l (rI l s).2).2).1, (rI l (rI l (rI l (rI l s).2).2).2).1], (rI l (rI l (rI l (rI l s).2).2).2).2) := rfl
set_option maxRecDepth 100000 in
set_option maxHeartbeats 8000000 in
theorem docE_calls {w : World} {a : Option Addr} {n c : Nat} {l : List Int} (hs : Src l a n c) (hr : Rd w a (bv l)) :
    Calls Try.prog 17 #[.slice a n c] w (DecE w.heap.size EntO (decR l ent0 (rE l (0, 0))) w) := by
  have HK0 := Lib.hid (fun (W : World) (f : Fr [] w W) => numsR_calls (w := W) hs (hr.fr0 f) (0, 0) 3 (by decide))
  rw [nums_3] at HK0
  have hb := hs.byt
  unfold rE rC
  dsimp only
  generalize rI l (0, 0) = r1 at *
  obtain ⟨x1, t1⟩ := r1
  dsimp only at HK0 ⊢
  generalize rI l t1 = r2 at *
  obtain ⟨x2, t2⟩ := r2
  dsimp only at HK0 ⊢
  generalize rI l t2 = r3 at *
  obtain ⟨x3, s0⟩ := r3
  dsimp only at HK0 ⊢
  have HK1 := Lib.hid (fun (W : World) (f : Fr [] w W) => uptoR_calls (w := W) hs (hr.fr0 f) s0 9223372036854775807 (by decide) (by decide))
  generalize rU l 9223372036854775807 4 s0 = r4 at *
  obtain ⟨z, s1⟩ := r4
  dsimp only at HK1 ⊢
  have HK2 := Lib.hid (fun (W : World) (f : Fr [] w W) => numsR_calls (w := W) hs (hr.fr0 f) s1 4 (by decide))
  rw [nums_4] at HK2
  generalize rI l s1 = r5 at *
  obtain ⟨y1, t4⟩ := r5
  dsimp only at HK2 ⊢
  generalize rI l t4 = r6 at *
  obtain ⟨y2, t5⟩ := r6
  dsimp only at HK2 ⊢
  generalize rI l t5 = r7 at *
  obtain ⟨y3, t6⟩ := r7
  dsimp only at HK2 ⊢
  generalize rI l t6 = r8 at *
  obtain ⟨y4, s2⟩ := r8
  dsimp only at HK2 ⊢
  have HK3 := Lib.hid (fun (W : World) (f : Fr [] w W) => aQueueR_calls (w := W) hs (hr.fr0 f) s2)
  generalize rQ l s2 = r9 at *
  obtain ⟨q, s3⟩ := r9
  dsimp only at HK3 ⊢
  have HK4 := Lib.hid (fun (W : World) (f : Fr [] w W) => aNodeR_calls (w := W) hs (hr.fr0 f) s3)
  generalize rN l s3 = r10 at *
  obtain ⟨nd, s4⟩ := r10
  dsimp only at HK4 ⊢
  have HK5 := Lib.hid (fun (W : World) (f : Fr [] w W) => aTaskR_calls (w := W) hs (hr.fr0 f) s4)
  generalize rT l s4 = r11 at *
  obtain ⟨tk, s5⟩ := r11
  dsimp only at ⊢
  have HK6 := Lib.hid (fun (W : World) (f : Fr [] w W) => endR_calls (w := W) (a := a) (c := c) hs.len s5)
  have HY := Lib.hid (fun (h : (endR l s5).2 = 0) => dec_yes (l := l) (zero := ent0) (r := ((⟨x1, x2, x3, ⟨z, y1, y2, y3, y4, q, nd, tk⟩⟩ : Ent), s5)) h)
  have HN := Lib.hid (fun (h : ¬ (endR l s5).2 = 0) => dec_no (l := l) (zero := ent0) (r := ((⟨x1, x2, x3, ⟨z, y1, y2, y3, y4, q, nd, tk⟩⟩ : Ent), s5)) h)
  have HE0 := Lib.hid (fun (h : (endR l s5).2 = 0) => (endR_0 h).2)
  generalize decR l ent0 ((⟨x1, x2, x3, ⟨z, y1, y2, y3, y4, q, nd, tk⟩⟩ : Ent), s5) = dr at *
  generalize endR l s5 = er at *
  obtain ⟨ea, ee⟩ := er
  dsimp only at HK6 HY HN HE0
  clear hs hr hb
  go_enter Try.func17, Try.ntmps17
  go_wp2_with (first
    | (refine wpList_buildV rfl 92 [(0, .tmp 15)] rfl [(0, .slice a n c)] (by rfl) _ (read_build a n c _) ?_)
    | (refine wpList_allocZ rfl 34 rfl _ entry_zero2 ?_; intro w1 B1 F1 S1; have HA1 := Lib.hid B1; have HF1 := Lib.hid F1; have HS1 := Lib.hid S1; clear B1 F1 S1))
  refine (HK0.out w1 HF1.out).mono ?_
  rintro e w2 ⟨g0, rfl, hg0, G, f2⟩
  have HG0_2 := Lib.hid G
  have HF2 := Lib.hid (HF1.out.trans0 f2)
  have HA2 := Lib.hid (HA1.out.fr f2 (by simp))
  have hi0 : w.heap.size < g0 := by have := HS1.out; omega
  have hi1 : g0 < w2.heap.size := HG0_2.out.lt
  clear G f2
  dsimp only
  go_wp2_with (first
    | (have z := HB4.out; clear z; refine wpList_loadB rfl 92 _ rfl w2.heap.size (by rfl) 92 _ _ HB4.out Try.underlying92 rfl (read_size a n c s0) ?_)
    | (have z := HB3.out; clear z; refine wpList_storeB rfl 92 _ _ rfl w2.heap.size 0 (rdc a n c s0) (by rfl) (by rfl) 92 _ HB3.out (by show 0 + 3 ≤ 3; omega) (read_size a n c s0) (rdc_one _ _ _ _) ?_; intro w4 B F S; rw [splice_all _ _ (by rfl)] at B; have HB4 := Lib.hid B; have HX4 := Lib.hid (HX3.out.trans F (fun k hk hlt => by rw [List.mem_singleton.1 hk] at hlt; omega)); clear B F S)
    | (refine wpList_allocZ rfl 92 rfl _ read_zero ?_; intro w3 B3 F3 S3; have HB3 := Lib.hid B3; have HX3 := Lib.hid F3; clear B3 F3 S3))
  have HF4 := Lib.hid (HF2.out.trans0 HX4.out)
  have HA4 := Lib.hid (HA2.out.fr HX4.out (by simp))
  have HG0_4 := Lib.hid (HG0_2.out.fr HX4.out (by simp))
  clear HX4 HX3 HB3 HA1 HF1
  refine (HK1.out w4 HF4.out).mono ?_
  rintro e w5 ⟨rfl, f⟩
  have HA5 := Lib.hid (HA4.out.fr f (by simp))
  have HG0_5 := Lib.hid (HG0_4.out.fr f (by simp))
  have HB5 := Lib.hid (HB4.out.fr f (by simp))
  have HF5 := Lib.hid (HF4.out.trans0 f)
  clear f
  dsimp only
  go_wp2_with (first
    | (have z := HB6.out; clear z; refine wpList_loadB rfl 92 _ rfl w2.heap.size (by rfl) 92 _ _ HB6.out Try.underlying92 rfl (read_size a n c s1) ?_)
    | (refine wpList_storeB rfl 92 _ _ rfl w2.heap.size 0 (rdc a n c s1) (by rfl) (by rfl) 92 _ HB5.out (by show 0 + 3 ≤ 3; omega) (read_size a n c s1) (rdc_one _ _ _ _) ?_; intro w6 B F S; rw [splice_all _ _ (by rfl)] at B; have HB6 := Lib.hid B; have HX6 := Lib.hid F; clear B F S))
  have HA6 := Lib.hid (HA5.out.fr HX6.out (by simp; omega))
  have HG0_6 := Lib.hid (HG0_5.out.fr HX6.out (by simp; omega))
  have HF6 := Lib.hid (HF5.out.trans HX6.out (fun k hk hlt => by rw [List.mem_singleton.1 hk] at hlt; omega))
  clear HA4 HG0_4 HB4 HF4 HA5 HG0_5 HB5 HF5 HX6
  refine (HK2.out w6 HF6.out).mono ?_
  rintro e w7 ⟨g2, rfl, hg2, G, f⟩
  have HG2_7 := Lib.hid G
  have hi2 : w2.heap.size < g2 := by have := HB6.out.lt; omega
  clear G
  have HA7 := Lib.hid (HA6.out.fr f (by simp))
  have HG0_7 := Lib.hid (HG0_6.out.fr f (by simp))
  have HB7 := Lib.hid (HB6.out.fr f (by simp))
  have HF7 := Lib.hid (HF6.out.trans0 f)
  clear f
  dsimp only
  go_wp2_with (first
    | (have z := HB8.out; clear z; refine wpList_loadB rfl 92 _ rfl w2.heap.size (by rfl) 92 _ _ HB8.out Try.underlying92 rfl (read_size a n c s2) ?_)
    | (refine wpList_storeB rfl 92 _ _ rfl w2.heap.size 0 (rdc a n c s2) (by rfl) (by rfl) 92 _ HB7.out (by show 0 + 3 ≤ 3; omega) (read_size a n c s2) (rdc_one _ _ _ _) ?_; intro w8 B F S; rw [splice_all _ _ (by rfl)] at B; have HB8 := Lib.hid B; have HX8 := Lib.hid F; clear B F S))
  have HA8 := Lib.hid (HA7.out.fr HX8.out (by simp; omega))
  have HG0_8 := Lib.hid (HG0_7.out.fr HX8.out (by simp; omega))
  have HG2_8 := Lib.hid (HG2_7.out.fr HX8.out (by simp; omega))
  have HF8 := Lib.hid (HF7.out.trans HX8.out (fun k hk hlt => by rw [List.mem_singleton.1 hk] at hlt; omega))
  clear HA6 HG0_6 HB6 HF6 HA7 HG0_7 HG2_7 HB7 HF7 HX8
  refine (HK3.out w8 HF8.out).mono ?_
  rintro e w9 ⟨rfl, f⟩
  have HA9 := Lib.hid (HA8.out.fr f (by simp))
  have HG0_9 := Lib.hid (HG0_8.out.fr f (by simp))
  have HG2_9 := Lib.hid (HG2_8.out.fr f (by simp))
  have HB9 := Lib.hid (HB8.out.fr f (by simp))
  have HF9 := Lib.hid (HF8.out.trans0 f)
  clear f
  dsimp only
  go_wp2_with (first
    | (have z := HB12.out; clear z; refine wpList_loadB rfl 92 _ rfl w2.heap.size (by rfl) 92 _ _ HB12.out Try.underlying92 rfl (read_size a n c s3) ?_)
    | (have z := HB11.out; clear z; refine wpList_storeB rfl 25 _ _ rfl w9.heap.size 0 q.cells (by rfl) (by rfl) 25 _ HN11.out (by show 0 + 7 ≤ 7; omega) (by kernel_rfl) (by simp [Value.oneCell', Que.cells]) ?_; intro w12 B F S; rw [splice_all _ _ (by rfl)] at B; have HG3_12 := Lib.hid B; have HB12 := Lib.hid (HB11.out.fr F (by have := HB9.out.lt; simp; omega)); have HX12 := Lib.hid (HX11.out.trans F (fun k hk hlt => by rw [List.mem_singleton.1 hk] at hlt; omega)); clear B F S)
    | (have z := HN10.out; clear z; refine wpList_storeB rfl 92 _ _ rfl w2.heap.size 0 (rdc a n c s3) (by rfl) (by rfl) 92 _ (HB9.out.fr HN10F.out (by simp)) (by show 0 + 3 ≤ 3; omega) (read_size a n c s3) (rdc_one _ _ _ _) ?_; intro w11 B F S; rw [splice_all _ _ (by rfl)] at B; have HB11 := Lib.hid B; have HN11 := Lib.hid (HN10.out.fr F (by have := HB9.out.lt; simp; omega)); have HX11 := Lib.hid ((HN10F.out.ext (S := [w2.heap.size])).trans1 F); clear B F S)
    | (refine wpList_allocZ rfl 25 rfl _ rqueue_zero ?_; intro w10 B F S; have HN10 := Lib.hid B; have HN10F := Lib.hid F; clear B F S))
  have HA12 := Lib.hid (HA9.out.fr HX12.out (by simp; omega))
  have HG0_12 := Lib.hid (HG0_9.out.fr HX12.out (by simp; omega))
  have HG2_12 := Lib.hid (HG2_9.out.fr HX12.out (by simp; omega))
  have HF12 := Lib.hid (HF9.out.trans HX12.out (fun k hk hlt => by rw [List.mem_singleton.1 hk] at hlt; omega))
  have hi3 : g2 < w9.heap.size := HG2_9.out.lt
  clear HA8 HG0_8 HG2_8 HB8 HF8 HA9 HG0_9 HG2_9 HB9 HF9 HX12
  refine (HK4.out w12 HF12.out).mono ?_
  rintro e w13 ⟨rfl, f⟩
  have HA13 := Lib.hid (HA12.out.fr f (by simp))
  have HG0_13 := Lib.hid (HG0_12.out.fr f (by simp))
  have HG2_13 := Lib.hid (HG2_12.out.fr f (by simp))
  have HG3_13 := Lib.hid (HG3_12.out.fr f (by simp))
  have HB13 := Lib.hid (HB12.out.fr f (by simp))
  have HF13 := Lib.hid (HF12.out.trans0 f)
  clear f
  dsimp only
  go_wp2_with (first
    | (have z := HB16.out; clear z; refine wpList_loadB rfl 92 _ rfl w2.heap.size (by rfl) 92 _ _ HB16.out Try.underlying92 rfl (read_size a n c s4) ?_)
    | (have z := HB15.out; clear z; refine wpList_storeB rfl 27 _ _ rfl w13.heap.size 0 nd.cells (by rfl) (by rfl) 27 _ HN15.out (by show 0 + 5 ≤ 5; omega) (by kernel_rfl) (by simp [Value.oneCell', Nod.cells]) ?_; intro w16 B F S; rw [splice_all _ _ (by rfl)] at B; have HG4_16 := Lib.hid B; have HB16 := Lib.hid (HB15.out.fr F (by have := HB13.out.lt; simp; omega)); have HX16 := Lib.hid (HX15.out.trans F (fun k hk hlt => by rw [List.mem_singleton.1 hk] at hlt; omega)); clear B F S)
    | (have z := HN14.out; clear z; refine wpList_storeB rfl 92 _ _ rfl w2.heap.size 0 (rdc a n c s4) (by rfl) (by rfl) 92 _ (HB13.out.fr HN14F.out (by simp)) (by show 0 + 3 ≤ 3; omega) (read_size a n c s4) (rdc_one _ _ _ _) ?_; intro w15 B F S; rw [splice_all _ _ (by rfl)] at B; have HB15 := Lib.hid B; have HN15 := Lib.hid (HN14.out.fr F (by have := HB13.out.lt; simp; omega)); have HX15 := Lib.hid ((HN14F.out.ext (S := [w2.heap.size])).trans1 F); clear B F S)
    | (refine wpList_allocZ rfl 27 rfl _ rnode_zero ?_; intro w14 B F S; have HN14 := Lib.hid B; have HN14F := Lib.hid F; clear B F S))
  have HA16 := Lib.hid (HA13.out.fr HX16.out (by simp; omega))
  have HG0_16 := Lib.hid (HG0_13.out.fr HX16.out (by simp; omega))
  have HG2_16 := Lib.hid (HG2_13.out.fr HX16.out (by simp; omega))
  have HG3_16 := Lib.hid (HG3_13.out.fr HX16.out (by simp; omega))
  have HF16 := Lib.hid (HF13.out.trans HX16.out (fun k hk hlt => by rw [List.mem_singleton.1 hk] at hlt; omega))
  have hi4 : w9.heap.size < w13.heap.size := HG3_13.out.lt
  clear HA12 HG0_12 HG2_12 HG3_12 HB12 HF12 HA13 HG0_13 HG2_13 HG3_13 HB13 HF13 HX16
  refine (HK5.out w16 HF16.out).mono ?_
  rintro e w17 ⟨tt, a5, c5, rfl, O, htt, f⟩
  have HTT := Lib.hid htt
  have HA17 := Lib.hid (HA16.out.fr f (by simp))
  have HG0_17 := Lib.hid (HG0_16.out.fr f (by simp))
  have HG2_17 := Lib.hid (HG2_16.out.fr f (by simp))
  have HG3_17 := Lib.hid (HG3_16.out.fr f (by simp))
  have HG4_17 := Lib.hid (HG4_16.out.fr f (by simp))
  have HB17 := Lib.hid (HB16.out.fr f (by simp))
  have HF17 := Lib.hid (HF16.out.trans0 f)
  have HO_17 := Lib.hid (O.base (base' := w2.heap.size + 1) (by have := HB16.out.lt; omega))
  clear O htt
  clear f
  dsimp only
  go_wp2_with (first
    | (have z := HB20.out; clear z; refine wpList_loadB rfl 92 _ rfl w2.heap.size (by rfl) 92 _ _ HB20.out Try.underlying92 rfl (read_size a n c s5) ?_)
    | (have z := HB19.out; clear z; refine wpList_storeB rfl 30 _ _ rfl w17.heap.size 0 (tt.cells a5 c5) (by rfl) (by rfl) 30 _ HN19.out (by show 0 + 7 ≤ 7; omega) (task_size3 tt a5 c5) (tt.one3 a5 c5) ?_; intro w20 B F S; rw [splice_all _ _ (by rfl)] at B; have HG5_20 := Lib.hid B; have HB20 := Lib.hid (HB19.out.fr F (by have := HB17.out.lt; simp; omega)); have HX20 := Lib.hid (HX19.out.trans F (fun k hk hlt => by rw [List.mem_singleton.1 hk] at hlt; omega)); clear B F S)
    | (have z := HN18.out; clear z; refine wpList_storeB rfl 92 _ _ rfl w2.heap.size 0 (rdc a n c s5) (by rfl) (by rfl) 92 _ (HB17.out.fr HN18F.out (by simp)) (by show 0 + 3 ≤ 3; omega) (read_size a n c s5) (rdc_one _ _ _ _) ?_; intro w19 B F S; rw [splice_all _ _ (by rfl)] at B; have HB19 := Lib.hid B; have HN19 := Lib.hid (HN18.out.fr F (by have := HB17.out.lt; simp; omega)); have HX19 := Lib.hid ((HN18F.out.ext (S := [w2.heap.size])).trans1 F); clear B F S)
    | (refine wpList_allocZ rfl 30 rfl _ rtask_zero ?_; intro w18 B F S; have HN18 := Lib.hid B; have HN18F := Lib.hid F; clear B F S))
  have HA20 := Lib.hid (HA17.out.fr HX20.out (by simp; omega))
  have HG0_20 := Lib.hid (HG0_17.out.fr HX20.out (by simp; omega))
  have HG2_20 := Lib.hid (HG2_17.out.fr HX20.out (by simp; omega))
  have HG3_20 := Lib.hid (HG3_17.out.fr HX20.out (by simp; omega))
  have HG4_20 := Lib.hid (HG4_17.out.fr HX20.out (by simp; omega))
  have HF20 := Lib.hid (HF17.out.trans HX20.out (fun k hk hlt => by rw [List.mem_singleton.1 hk] at hlt; omega))
  have HO_20 := Lib.hid (HO_17.out.fr HX20.out (fun g hg hm => by have := (HO_17.out.lt hg).1; rw [List.mem_singleton.1 hm] at this; omega))
  have hi5 : w13.heap.size < w17.heap.size := HG4_17.out.lt
  clear HA16 HG0_16 HG2_16 HG3_16 HG4_16 HB16 HF16 HA17 HG0_17 HG2_17 HG3_17 HG4_17 HB17 HF17 HX20
  refine (HK6.out w20 HF20.out).mono ?_
  rintro e w21 ⟨rfl, f⟩
  have HA21 := Lib.hid (HA20.out.fr f (by simp))
  have HG0_21 := Lib.hid (HG0_20.out.fr f (by simp))
  have HG2_21 := Lib.hid (HG2_20.out.fr f (by simp))
  have HG3_21 := Lib.hid (HG3_20.out.fr f (by simp))
  have HG4_21 := Lib.hid (HG4_20.out.fr f (by simp))
  have HG5_21 := Lib.hid (HG5_20.out.fr f (by simp))
  have HF21 := Lib.hid (HF20.out.trans0 f)
  have HO_21 := Lib.hid (HO_20.out.fr0 f)
  clear f
  dsimp only
  by_cases he : ee = 0
  · subst he
    have e1 := HTT.out (HE0.out rfl)
    have e3 := HY.out rfl
    clear HTT HE0 HY HN HK0 HK1 HK2 HK3 HK4 HK5 HK6
    subst e1 e3
    go_wp2_with fail
    refine wp_region_ord (Fr [w.heap.size] w21) [0, 1, 2, 3, 4, 5, 6, 7, 8, 9, 10, 11, 12, 13, 14, 15, 16, 17, 18, 19, 20, 21, 22, 23, 24, 25, 26, 27, 28, 29, 30] [] [28] [2, 5, 8, 12, 15, 18, 21, 22, 23, 24] mixed (by kernel_rfl) ?_
    have hS : Fr [w.heap.size] w21 w21.drew := (Fr.refl _ _).drew
    have d0 : ∀ W, Fr [w.heap.size] w21 W → W.cell? ⟨g0, 0, none⟩ = some (.int .i64 x1) := fun W f => (HG0_21.out.fr f (by simp; omega)).cellAt rfl
    have d1 : ∀ W, Fr [w.heap.size] w21 W → W.cell? ⟨g0, 1, none⟩ = some (.int .i64 x2) := fun W f => (HG0_21.out.fr f (by simp; omega)).cellAt rfl
    have d2 : ∀ W, Fr [w.heap.size] w21 W → W.cell? ⟨g0, 2, none⟩ = some (.int .i64 x3) := fun W f => (HG0_21.out.fr f (by simp; omega)).cellAt rfl
    have d3 : ∀ W, Fr [w.heap.size] w21 W → W.cell? ⟨g2, 0, none⟩ = some (.int .i64 y1) := fun W f => (HG2_21.out.fr f (by simp; omega)).cellAt rfl
    have d4 : ∀ W, Fr [w.heap.size] w21 W → W.cell? ⟨g2, 1, none⟩ = some (.int .i64 y2) := fun W f => (HG2_21.out.fr f (by simp; omega)).cellAt rfl
    have d5 : ∀ W, Fr [w.heap.size] w21 W → W.cell? ⟨g2, 2, none⟩ = some (.int .i64 y3) := fun W f => (HG2_21.out.fr f (by simp; omega)).cellAt rfl
    have d6 : ∀ W, Fr [w.heap.size] w21 W → W.cell? ⟨g2, 3, none⟩ = some (.int .i64 y4) := fun W f => (HG2_21.out.fr f (by simp; omega)).cellAt rfl
    simp only [pairs, pickN]
    repeat (first | (refine wpO_free ?_ (by rfl) (by rfl) (fun w' => ?_) ?_; rotate_left; (go_simp; rfl); simp only [Act.put, List.setIfInBounds_toArray, List.set_cons_zero, List.set_cons_succ]) | (refine wpO_take ?_ hS (by rfl) (by rfl) (fun w' hw' => ?_) ?_; rotate_left; (go_simp; rfl); simp only [Act.put, List.setIfInBounds_toArray, List.set_cons_zero, List.set_cons_succ]) | (refine wpO_pass (by rfl) ?_; simp only [Act.put, List.setIfInBounds_toArray, List.set_cons_zero, List.set_cons_succ]))
    refine wpO_take (.agg (q.cells).toArray) hS (by rfl) (by rfl) (fun w' hw' => run_loadB 25 _ rfl w9.heap.size (by rfl) 25 _ _ (HG3_21.out.fr hw' (by simp; omega)) Try.underlying25 rfl (by kernel_rfl)) ?_
    simp only [Act.put, List.setIfInBounds_toArray, List.set_cons_zero, List.set_cons_succ]
    refine wpO_take (.agg (nd.cells).toArray) hS (by rfl) (by rfl) (fun w' hw' => run_loadB 27 _ rfl w13.heap.size (by rfl) 27 _ _ (HG4_21.out.fr hw' (by simp; omega)) Try.underlying27 rfl (by kernel_rfl)) ?_
    simp only [Act.put, List.setIfInBounds_toArray, List.set_cons_zero, List.set_cons_succ]
    refine wpO_take (.agg ((tt.cells a5 c5)).toArray) hS (by rfl) (by rfl) (fun w' hw' => run_loadB 30 _ rfl w17.heap.size (by rfl) 30 _ _ (HG5_21.out.fr hw' (by simp; omega)) Try.underlying30 rfl (task_size3 tt a5 c5)) ?_
    simp only [Act.put, List.setIfInBounds_toArray, List.set_cons_zero, List.set_cons_succ]
    refine wpO_build _ (by rfl) _ _ rfl rfl [(0, .int .i64 z), (1, .int .i64 y1), (2, .int .i64 y2), (3, .int .i64 y3), (4, .int .i64 y4), (5, .agg q.cells.toArray), (6, .agg nd.cells.toArray), (7, .agg (tt.cells a5 c5).toArray)] (by rfl) (rcommand_build z y1 y2 y3 y4 q nd tt a5 c5) ?_
    simp only [Act.put, List.setIfInBounds_toArray, List.set_cons_zero, List.set_cons_succ]
    refine wpO_build _ (by rfl) _ _ rfl rfl [(0, .int .i64 x1), (1, .int .i64 x2), (2, .int .i64 x3), (3, .agg ((⟨z, y1, y2, y3, y4, q, nd, tt⟩ : Cmd).cells a5 c5).toArray)] (by rfl) (rentry_build x1 x2 x3 ⟨z, y1, y2, y3, y4, q, nd, tt⟩ a5 c5) ?_
    simp only [Act.put, List.setIfInBounds_toArray, List.set_cons_zero, List.set_cons_succ]
    repeat (first | (refine wpO_free ?_ (by rfl) (by rfl) (fun w' => ?_) ?_; rotate_left; (go_simp; rfl); simp only [Act.put, List.setIfInBounds_toArray, List.set_cons_zero, List.set_cons_succ]) | (refine wpO_pass (by rfl) ?_; simp only [Act.put, List.setIfInBounds_toArray, List.set_cons_zero, List.set_cons_succ]))
    refine wpO_eff (by rfl) ?_
    refine wpList_storeB rfl 34 _ _ rfl w.heap.size 0 ((⟨x1, x2, x3, ⟨z, y1, y2, y3, y4, q, nd, tt⟩⟩ : Ent).cells a5 c5) (by rfl) (by rfl) 34 _ (Blk.drew HA21.out) (by show 0 + 27 ≤ 27; omega) (entry_size2 _ _ _) (Ent.one _ _ _) ?_
    intro wa Ba Fa Sa
    rw [splice_all _ _ (by rfl)] at Ba
    have Sa1 : Fr [w.heap.size] w21 wa := hS.trans1 Fa
    refine effQ_keep Sa1 ?_
    simp only [Act.put, List.setIfInBounds_toArray, List.set_cons_zero, List.set_cons_succ]
    repeat (first | (refine wpO_free ?_ (by rfl) (by rfl) (fun w' => ?_) ?_; rotate_left; (go_simp; rfl); simp only [Act.put, List.setIfInBounds_toArray, List.set_cons_zero, List.set_cons_succ]) | (refine wpO_pass (by rfl) ?_; simp only [Act.put, List.setIfInBounds_toArray, List.set_cons_zero, List.set_cons_succ]))
    refine wpO_nil ?_
    have HBa := Lib.hid Ba
    have HSa := Lib.hid Sa1
    clear hS d0 d1 d2 d3 d4 d5 d6 Ba Fa Sa Sa1
    go_wp2_with fail
    refine bodyPost_ret (results_cellB_tmp2 rfl _ _ w.heap.size 34 _ _ (by rfl) HBa.out Try.underlying34 rfl (entry_size2 _ _ _)) rfl ⟨_, by rfl, ⟨a5, c5, rfl, ?_⟩, HF21.out.trans HSa.out (fun k hk hlt => by rw [List.mem_singleton.1 hk] at hlt; omega)⟩
    exact (HO_21.out.fr HSa.out (fun g hg hm => by have := (HO_21.out.lt hg).1; rw [List.mem_singleton.1 hm] at this; omega)).base (by omega)
  · have hb : (ee != 0) = true := by simpa using he
    have e3 := HN.out he
    clear HTT HE0 HY HN he HK0 HK1 HK2 HK3 HK4 HK5 HK6
    subst e3
    go_wp2_with (first
      | (refine wpList_buildV rfl 34 [] rfl [] (by rfl) _ (ent_build0 _) ?_)
      | (refine wpList_storeB rfl 34 _ _ rfl w.heap.size 0 (ent0.cells none 0) (by rfl) (by rfl) 34 _ HA21.out (by show 0 + 27 ≤ 27; omega) (entry_size2 _ _ _) (Ent.one _ _ _) ?_; intro wa Ba Fa Sa; rw [splice_all _ _ (by rfl)] at Ba; have HBa := Lib.hid Ba; have HSa := Lib.hid Fa; clear Ba Fa Sa))
    exact bodyPost_ret (results_cellB_tmp2 rfl _ _ w.heap.size 34 _ _ (by rfl) HBa.out Try.underlying34 rfl (entry_size2 _ _ _)) rfl ⟨_, by rfl, ⟨none, 0, rfl, Own.nil _ _ _ _⟩, HF21.out.trans HSa.out (fun k hk hlt => by rw [List.mem_singleton.1 hk] at hlt; omega)⟩
end Go.Fur
namespace Go.Fur
open Go Go.RowKit Go.Proofs Go.Proofs.YtmdfipahbhbgjaaW.PrintWords
set_option linter.unusedVariables false
set_option linter.unusedSimpArgs false
theorem sta_build0 (w : World) : (Instr.build 58 ([] : List (Nat × Value)).toArray).run Try.prog w = .ok (.agg (sta0.cells staP0).toArray) w := by kernel_rfl
/-- The rows of a state. -/
structure Rows5 (B : Nat) (x : Sta) (s : StaP) (W : World) : Prop where
  q : RowW QueW 7 25 B W (.slice s.a1 x.queues.length s.c1) x.queues
  n : RowW NodW 5 27 B W (.slice s.a2 x.nodes.length s.c2) x.nodes
  t : RowW (TasW B) 7 30 B W (.slice s.a3 x.tasks.length s.c3) x.tasks
  l : RowW (LeaW B) 8 124 B W (.slice s.a4 x.leases.length s.c4) x.leases
  h : RowW HuW 2 119 B W (.slice s.a5 x.hungry.length s.c5) x.hungry
theorem Rows5.ltB {B : Nat} {x : Sta} {s : StaP} {W W' : World} {S : List Nat} (h : Rows5 B x s W) (hS : ∀ g ∈ S, g < B) (f : Fr S W W') : Rows5 B x s W' :=
  ⟨h.q.ltB hS f (fun _ _ h => h), h.n.ltB hS f (fun _ _ h => h), h.t.ltB hS f (fun _ _ h => TasW.lt hS f h), h.l.ltB hS f (fun _ _ h => LeaW.lt hS f h), h.h.ltB hS f (fun _ _ h => h)⟩
theorem RowW.frT {τ : Type} {EW : World → List Value → τ → Prop} {k : Nat} {e e' : TypeId} {base : Nat} {w w' : World} {v : Value} {l : List τ} {S : List Nat} (h : RowW EW k e base w v l) (hS : ∀ g ∈ S, ∃ cur, Blk w g e' cur) (f : Fr S w w') (ht : e ≠ e') (hE : ∀ cs t, EW w cs t → EW w' cs t) : RowW EW k e base w' v l :=
  h.fr f (fun g hg hm => by obtain ⟨c, hc⟩ := hS g hm; exact h.ne hc ht hg) hE
/-- What the loops hold: the reading's block, the state's block with its rows, the result's block. -/
structure Dc (w W : World) (B b1 bS : Nat) (a : Option Addr) (n c : Nat) (sj : Int × Int) (x : Sta) : Prop where
  rd : Blk W b1 92 (rdc a n c sj)
  st : ∃ s, Blk W bS 58 (x.cells s) ∧ Rows5 B x s W
  z : Blk W w.heap.size 58 (sta0.cells staP0)
  fr : Fr [] w W
  sz : B ≤ W.heap.size
theorem lp_end {β : Type} {one : Int × Int → β × Int × Int} {m j : Nat} {sr sj : Int × Int} {xs : List β} (hj : j ≤ m) (hn : ¬ (j < m ∧ sj.2 = 0)) (hd : (sj.2 = 0 ∧ manyR one m sr = (xs ++ (manyR one (m - j) sj).1, (manyR one (m - j) sj).2)) ∨ (sj.2 ≠ 0 ∧ (manyR one m sr).2 = sj)) :
    (manyR one m sr).2 = sj ∧ (sj.2 = 0 → xs = (manyR one m sr).1) := by
  rcases hd with ⟨h0, h1⟩ | ⟨h0, h1⟩
  · have hjm : j = m := by
      rcases Nat.lt_or_ge j m with h | h
      · exact absurd ⟨h, h0⟩ hn
      · omega
    subst hjm
    rw [Nat.sub_self, manyR] at h1
    rw [h1]
    exact ⟨rfl, fun _ => by simp⟩
  · exact ⟨h1, fun h => absurd h h0⟩
theorem lp_step {β : Type} {one : Int × Int → β × Int × Int} {m j : Nat} {sr sj : Int × Int} {xs : List β} {y : β} (hj : j < m) (h0 : sj.2 = 0) (hy : (one sj).2.2 = 0 → y = (one sj).1) (hd : (sj.2 = 0 ∧ manyR one m sr = (xs ++ (manyR one (m - j) sj).1, (manyR one (m - j) sj).2)) ∨ (sj.2 ≠ 0 ∧ (manyR one m sr).2 = sj)) :
    ((one sj).2.2 = 0 ∧ manyR one m sr = ((xs ++ [y]) ++ (manyR one (m - (j + 1)) (one sj).2).1, (manyR one (m - (j + 1)) (one sj).2).2)) ∨ ((one sj).2.2 ≠ 0 ∧ (manyR one m sr).2 = (one sj).2) := by
  rcases hd with ⟨_, h1⟩ | ⟨h2, _⟩
  · rw [show m - j = (m - (j + 1)) + 1 by omega, manyR] at h1
    by_cases he : (one sj).2.2 = 0
    · rw [if_pos he] at h1
      exact .inl ⟨he, by rw [h1, hy he]; simp⟩
    · rw [if_neg he] at h1
      exact .inr ⟨he, by rw [h1]⟩
  · exact absurd h0 h2
theorem lp_start {β : Type} {l : List Int} {one : Int × Int → β × Int × Int} {m : Nat} {s : Int × Int} (hm : (rU l 1024 3 s).1 = (m : Int)) :
    ((rU l 1024 3 s).2.2 = 0 ∧ manyR one m (rU l 1024 3 s).2 = ([] ++ (manyR one (m - 0) (rU l 1024 3 s).2).1, (manyR one (m - 0) (rU l 1024 3 s).2).2)) ∨ ((rU l 1024 3 s).2.2 ≠ 0 ∧ (manyR one m (rU l 1024 3 s).2).2 = (rU l 1024 3 s).2) := by
  by_cases h : (rU l 1024 3 s).2.2 = 0
  · exact .inl ⟨h, by simp⟩
  · refine .inr ⟨h, ?_⟩
    have hz : (rU l 1024 3 s).1 = 0 := by
      clear hm
      unfold rU at h ⊢
      split
      · rename_i h1
        rw [if_pos h1] at h
        split
        · rfl
        · rename_i h2
          rw [if_neg h2] at h
          unfold readN at h ⊢
          split
          · rfl
          · rename_i h3
            rw [if_neg h3] at h
            split
            · rfl
            · rename_i hd
              rw [hd] at h
              dsimp only at h
              split
              · rename_i h4; rw [if_pos h4] at h; simp at h
              · rename_i h4
                rw [if_neg h4] at h
                split
                · rfl
                · rename_i h5
                  rw [if_neg h5] at h
                  split
                  · rfl
                  · rename_i h6
                    rw [if_neg h6] at h
                    split
                    · rfl
                    · rename_i h7
                      rw [if_neg h7] at h
                      simp at h
      · rfl
    have : m = 0 := by rw [hm] at hz; omega
    subst this
    rfl
theorem Rows5.putQ {B : Nat} {x : Sta} {s : StaP} {W W' : World} (h : Rows5 B x s W) (y : Que) {a : Option Addr} {c : Nat} (f : Fr (ob (.slice s.a1 x.queues.length s.c1)) W W') (hr : RowW QueW 7 25 B W' (.slice a (x.queues ++ [y]).length c) (x.queues ++ [y])) : Rows5 B { x with queues := x.queues ++ [y] } { s with a1 := a, c1 := c } W' :=
  ⟨hr, h.n.frT (fun g hg => h.q.blkOf hg) f (by decide) (fun _ _ h => h), h.t.frT (fun g hg => h.q.blkOf hg) f (by decide) (fun _ _ hh => TasW.frT (fun g hg => h.q.blkOf hg) f (by decide) hh), h.l.frT (fun g hg => h.q.blkOf hg) f (by decide) (fun _ _ hh => LeaW.frT (fun g hg => h.q.blkOf hg) f (by decide) hh), h.h.frT (fun g hg => h.q.blkOf hg) f (by decide) (fun _ _ h => h)⟩
theorem Rows5.putN {B : Nat} {x : Sta} {s : StaP} {W W' : World} (h : Rows5 B x s W) (y : Nod) {a : Option Addr} {c : Nat} (f : Fr (ob (.slice s.a2 x.nodes.length s.c2)) W W') (hr : RowW NodW 5 27 B W' (.slice a (x.nodes ++ [y]).length c) (x.nodes ++ [y])) : Rows5 B { x with nodes := x.nodes ++ [y] } { s with a2 := a, c2 := c } W' :=
  ⟨h.q.frT (fun g hg => h.n.blkOf hg) f (by decide) (fun _ _ h => h), hr, h.t.frT (fun g hg => h.n.blkOf hg) f (by decide) (fun _ _ hh => TasW.frT (fun g hg => h.n.blkOf hg) f (by decide) hh), h.l.frT (fun g hg => h.n.blkOf hg) f (by decide) (fun _ _ hh => LeaW.frT (fun g hg => h.n.blkOf hg) f (by decide) hh), h.h.frT (fun g hg => h.n.blkOf hg) f (by decide) (fun _ _ h => h)⟩
theorem Rows5.putT {B : Nat} {x : Sta} {s : StaP} {W W' : World} (h : Rows5 B x s W) (y : Tas) {a : Option Addr} {c : Nat} (f : Fr (ob (.slice s.a3 x.tasks.length s.c3)) W W') (hr : RowW (TasW B) 7 30 B W' (.slice a (x.tasks ++ [y]).length c) (x.tasks ++ [y])) : Rows5 B { x with tasks := x.tasks ++ [y] } { s with a3 := a, c3 := c } W' :=
  ⟨h.q.frT (fun g hg => h.t.blkOf hg) f (by decide) (fun _ _ h => h), h.n.frT (fun g hg => h.t.blkOf hg) f (by decide) (fun _ _ h => h), hr, h.l.frT (fun g hg => h.t.blkOf hg) f (by decide) (fun _ _ hh => LeaW.frT (fun g hg => h.t.blkOf hg) f (by decide) hh), h.h.frT (fun g hg => h.t.blkOf hg) f (by decide) (fun _ _ h => h)⟩
theorem Rows5.putH {B : Nat} {x : Sta} {s : StaP} {W W' : World} (h : Rows5 B x s W) (y : Hun) {a : Option Addr} {c : Nat} (f : Fr (ob (.slice s.a5 x.hungry.length s.c5)) W W') (hr : RowW HuW 2 119 B W' (.slice a (x.hungry ++ [y]).length c) (x.hungry ++ [y])) : Rows5 B { x with hungry := x.hungry ++ [y] } { s with a5 := a, c5 := c } W' :=
  ⟨h.q.frT (fun g hg => h.h.blkOf hg) f (by decide) (fun _ _ h => h), h.n.frT (fun g hg => h.h.blkOf hg) f (by decide) (fun _ _ h => h), h.t.frT (fun g hg => h.h.blkOf hg) f (by decide) (fun _ _ hh => TasW.frT (fun g hg => h.h.blkOf hg) f (by decide) hh), h.l.frT (fun g hg => h.h.blkOf hg) f (by decide) (fun _ _ hh => LeaW.frT (fun g hg => h.h.blkOf hg) f (by decide) hh), hr⟩
end Go.Fur
namespace Go.Fur
open Go Go.RowKit Go.Proofs Go.Proofs.YtmdfipahbhbgjaaW.PrintWords
set_option linter.unusedVariables false
set_option linter.unusedSimpArgs false
theorem sta_build3 (x1 x2 x3 : Int) (w : World) : (Instr.build 58 [(0, .int .i64 x1), (1, .int .i64 x2), (2, .int .i64 x3)].toArray).run Try.prog w = .ok (.agg ((⟨x1, x2, x3, [], [], [], [], []⟩ : Sta).cells staP0).toArray) w := by kernel_rfl
def DcR {β : Type} (w : World) (B b1 bS : Nat) (a : Option Addr) (n c : Nat) (up : List β → Sta) (one : Int × Int → β × Int × Int) (m : Nat) (sr : Int × Int) (i : Value) (wr : World) : Prop :=
  ∃ (j : Nat) (sj : Int × Int) (xs : List β), j ≤ m ∧ i = .int .i64 j ∧ xs.length = j ∧ Dc w wr B b1 bS a n c sj (up xs) ∧ ((sj.2 = 0 ∧ manyR one m sr = (xs ++ (manyR one (m - j) sj).1, (manyR one (m - j) sj).2)) ∨ (sj.2 ≠ 0 ∧ (manyR one m sr).2 = sj))
def DcE {β : Type} (w : World) (B b1 bS : Nat) (a : Option Addr) (n c : Nat) (up : List β → Sta) (Q : List β × Int × Int) (wx : World) : Prop := ∃ xs : List β, Dc w wx B b1 bS a n c Q.2 (up xs) ∧ (Q.2.2 = 0 → xs = Q.1)
set_option maxRecDepth 100000 in
set_option maxHeartbeats 16000000 in
theorem docS_calls {w : World} {a : Option Addr} {n c : Nat} {l : List Int} (hs : Src l a n c) (hr : Rd w a (bv l)) :
    Calls Try.prog 22 #[.slice a n c] w (DecE w.heap.size StaO (decR l sta0 (rS l (0, 0))) w) := by
  have HK0 := Lib.hid (fun (W : World) (f : Fr [] w W) => numsR_calls (w := W) hs (hr.fr0 f) (0, 0) 3 (by decide))
  rw [nums_3] at HK0
  have hby := hs.byt
  unfold rS
  dsimp only
  generalize rI l (0, 0) = r1 at *
  obtain ⟨x1, t1⟩ := r1
  dsimp only at HK0 ⊢
  generalize rI l t1 = r2 at *
  obtain ⟨x2, t2⟩ := r2
  dsimp only at HK0 ⊢
  generalize rI l t2 = r3 at *
  obtain ⟨x3, s0⟩ := r3
  dsimp only at HK0 ⊢
  obtain ⟨m1, hm1, hr1⟩ := rU_1024 l hby s0
  have HT1 := Lib.hid (fun (W : World) (f : Fr [] w W) => totalR_calls (w := W) hs (hr.fr0 f) s0)
  have hp1 := lp_start (one := rQ l) hr1
  have hq1 : allR l (rQ l) s0 = manyR (rQ l) m1 (rU l 1024 3 s0).2 := by unfold allR; rw [hr1, Int.toNat_natCast]
  generalize rU l 1024 3 s0 = r at *
  obtain ⟨r1, sr1⟩ := r
  dsimp only at hr1 HT1 hp1 hq1
  subst hr1
  have hk1 : (allR l (rQ l) s0).2.2 = 0 → (s0).2 = 0 := fun h => (allR_got hby (fun s => rQ_got hby s) s0 h).1
  generalize allR l (rQ l) s0 = Q at *
  obtain ⟨ys1, s1⟩ := Q
  have HQ1 := Lib.hid hq1
  have HP1 := Lib.hid hp1
  have HKE1 := Lib.hid (show (s1).2 = 0 → (s0).2 = 0 from hk1)
  dsimp only
  clear hq1 hp1 hk1
  have HKK1 := Lib.hid (fun (W : World) (f : Fr [] w W) (s : Int × Int) => aQueueR_calls (w := W) hs (hr.fr0 f) s)
  obtain ⟨m2, hm2, hr2⟩ := rU_1024 l hby s1
  have HT2 := Lib.hid (fun (W : World) (f : Fr [] w W) => totalR_calls (w := W) hs (hr.fr0 f) s1)
  have hp2 := lp_start (one := rN l) hr2
  have hq2 : allR l (rN l) s1 = manyR (rN l) m2 (rU l 1024 3 s1).2 := by unfold allR; rw [hr2, Int.toNat_natCast]
  generalize rU l 1024 3 s1 = r at *
  obtain ⟨r1, sr2⟩ := r
  dsimp only at hr2 HT2 hp2 hq2
  subst hr2
  have hk2 : (allR l (rN l) s1).2.2 = 0 → (s1).2 = 0 := fun h => (allR_got hby (fun s => rN_got hby s) s1 h).1
  generalize allR l (rN l) s1 = Q at *
  obtain ⟨ys2, s2⟩ := Q
  have HQ2 := Lib.hid hq2
  have HP2 := Lib.hid hp2
  have HKE2 := Lib.hid (show (s2).2 = 0 → (s1).2 = 0 from hk2)
  dsimp only
  clear hq2 hp2 hk2
  have HKK2 := Lib.hid (fun (W : World) (f : Fr [] w W) (s : Int × Int) => aNodeR_calls (w := W) hs (hr.fr0 f) s)
  obtain ⟨m3, hm3, hr3⟩ := rU_1024 l hby s2
  have HT3 := Lib.hid (fun (W : World) (f : Fr [] w W) => totalR_calls (w := W) hs (hr.fr0 f) s2)
  have hp3 := lp_start (one := rT l) hr3
  have hq3 : allR l (rT l) s2 = manyR (rT l) m3 (rU l 1024 3 s2).2 := by unfold allR; rw [hr3, Int.toNat_natCast]
  generalize rU l 1024 3 s2 = r at *
  obtain ⟨r1, sr3⟩ := r
  dsimp only at hr3 HT3 hp3 hq3
  subst hr3
  have hk3 : (allR l (rT l) s2).2.2 = 0 → (s2).2 = 0 := fun h => (allR_got hby (fun s => rT_got hby s) s2 h).1
  generalize allR l (rT l) s2 = Q at *
  obtain ⟨ys3, s3⟩ := Q
  have HQ3 := Lib.hid hq3
  have HP3 := Lib.hid hp3
  have HKE3 := Lib.hid (show (s3).2 = 0 → (s2).2 = 0 from hk3)
  dsimp only
  clear hq3 hp3 hk3
  have HKK3 := Lib.hid (fun (W : World) (f : Fr [] w W) (s : Int × Int) => aTaskR_calls (w := W) hs (hr.fr0 f) s)
  have HKL := Lib.hid (fun (W : World) (f : Fr [] w W) => leasR_calls (w := W) hs (hr.fr0 f) s3)
  have hk4 : (allR l (rL l) s3).2.2 = 0 → s3.2 = 0 := fun h => (allR_got hby (fun s => rL_got hby s) s3 h).1
  generalize allR l (rL l) s3 = Q at *
  obtain ⟨ys4, s4⟩ := Q
  have HKE4 := Lib.hid (show s4.2 = 0 → s3.2 = 0 from hk4)
  dsimp only
  clear hk4
  obtain ⟨m5, hm5, hr5⟩ := rU_1024 l hby s4
  have HT5 := Lib.hid (fun (W : World) (f : Fr [] w W) => totalR_calls (w := W) hs (hr.fr0 f) s4)
  have hp5 := lp_start (one := rH l) hr5
  have hq5 : allR l (rH l) s4 = manyR (rH l) m5 (rU l 1024 3 s4).2 := by unfold allR; rw [hr5, Int.toNat_natCast]
  generalize rU l 1024 3 s4 = r at *
  obtain ⟨r1, sr5⟩ := r
  dsimp only at hr5 HT5 hp5 hq5
  subst hr5
  have hk5 : (allR l (rH l) s4).2.2 = 0 → (s4).2 = 0 := fun h => (allR_got hby (fun s => rH_got hby s) s4 h).1
  generalize allR l (rH l) s4 = Q at *
  obtain ⟨ys5, s5⟩ := Q
  have HQ5 := Lib.hid hq5
  have HP5 := Lib.hid hp5
  have HKE5 := Lib.hid (show (s5).2 = 0 → (s4).2 = 0 from hk5)
  dsimp only
  clear hq5 hp5 hk5
  have HKK5 := Lib.hid (fun (W : World) (f : Fr [] w W) (s : Int × Int) => numsR_calls (w := W) hs (hr.fr0 f) s 2 (by decide))
  have HKF := Lib.hid (fun (W : World) (f : Fr [] w W) => endR_calls (w := W) (a := a) (c := c) hs.len s5)
  have HY := Lib.hid (fun (h : (endR l s5).2 = 0) => dec_yes (l := l) (zero := sta0) (r := ((⟨x1, x2, x3, ys1, ys2, ys3, ys4, ys5.map hunP⟩ : Sta), s5)) h)
  have HN := Lib.hid (fun (h : ¬ (endR l s5).2 = 0) => dec_no (l := l) (zero := sta0) (r := ((⟨x1, x2, x3, ys1, ys2, ys3, ys4, ys5.map hunP⟩ : Sta), s5)) h)
  have HEE := Lib.hid (fun (h : (endR l s5).2 = 0) => (endR_0 h).2)
  generalize decR l sta0 ((⟨x1, x2, x3, ys1, ys2, ys3, ys4, ys5.map hunP⟩ : Sta), s5) = dr at *
  generalize endR l s5 = er at *
  obtain ⟨ea, ee⟩ := er
  dsimp only at HKF HY HN HEE
  clear hs hr hby
  go_enter Try.func22, Try.ntmps22
  go_wp2_with (first
    | (refine wpList_buildV rfl 92 [(0, .tmp 20)] rfl [(0, .slice a n c)] (by rfl) _ (read_build a n c _) ?_)
    | (refine wpList_allocZ rfl 58 rfl _ state_zero ?_; intro w1 B1 F1 S1; have HA1 := Lib.hid B1; have HF1 := Lib.hid F1; have HS1 := Lib.hid S1; clear B1 F1 S1))
  refine (HK0.out w1 HF1.out).mono ?_
  rintro e w2 ⟨g0, rfl, hg0, G, f2⟩
  have HG2 := Lib.hid G
  have HF2 := Lib.hid (HF1.out.trans0 f2)
  have HA2 := Lib.hid (HA1.out.fr f2 (by simp))
  have hi0 : w.heap.size < g0 := by have := HS1.out; omega
  have hi1 : g0 < w2.heap.size := HG2.out.lt
  clear G f2
  dsimp only
  go_wp2_with (first
    | (have z := HB3.out; clear z; refine wpList_storeB rfl 92 _ _ rfl w2.heap.size 0 (rdc a n c s0) (by rfl) (by rfl) 92 _ HB3.out (by show 0 + 3 ≤ 3; omega) (read_size a n c s0) (rdc_one _ _ _ _) ?_; intro w4 B F S; rw [splice_all _ _ (by rfl)] at B; have HB4 := Lib.hid B; have HX4 := Lib.hid (HX3.out.trans F (fun k hk hlt => by rw [List.mem_singleton.1 hk] at hlt; omega)); clear B F S)
    | (refine wpList_allocZ rfl 92 rfl _ read_zero ?_; intro w3 B3 F3 S3; have HB3 := Lib.hid B3; have HX3 := Lib.hid F3; clear B3 F3 S3))
  have HF4 := Lib.hid (HF2.out.trans0 HX4.out)
  have HA4 := Lib.hid (HA2.out.fr HX4.out (by simp))
  have HG4 := Lib.hid (HG2.out.fr HX4.out (by simp))
  have hi2 : w2.heap.size < w4.heap.size := HB4.out.lt
  refine wp_region_ord (Fr [] w4) [0, 1, 2, 3, 4, 5, 6, 7, 8, 9, 10, 11] [] [10, 11] [2, 5, 8] mixed (by kernel_rfl) ?_
  have hS : Fr [] w4 w4.drew := (Fr.refl _ _).drew
  have d1 : ∀ W, Fr [] w4 W → W.cell? ⟨g0, 0, none⟩ = some (.int .i64 x1) := fun W f => (HG4.out.fr f (by simp)).cellAt rfl
  have d2 : ∀ W, Fr [] w4 W → W.cell? ⟨g0, 1, none⟩ = some (.int .i64 x2) := fun W f => (HG4.out.fr f (by simp)).cellAt rfl
  have d3 : ∀ W, Fr [] w4 W → W.cell? ⟨g0, 2, none⟩ = some (.int .i64 x3) := fun W f => (HG4.out.fr f (by simp)).cellAt rfl
  simp only [pairs, pickN]
  repeat (first | (refine wpO_free ?_ (by rfl) (by rfl) (fun w' => ?_) ?_; rotate_left; (go_simp; rfl); simp only [Act.put, List.setIfInBounds_toArray, List.set_cons_zero, List.set_cons_succ]) | (refine wpO_take ?_ hS (by rfl) (by rfl) (fun w' hw' => ?_) ?_; rotate_left; (go_simp; rfl); simp only [Act.put, List.setIfInBounds_toArray, List.set_cons_zero, List.set_cons_succ]) | (refine wpO_pass (by rfl) ?_; simp only [Act.put, List.setIfInBounds_toArray, List.set_cons_zero, List.set_cons_succ]))
  refine wpO_eff (by rfl) ?_
  refine wpList_allocZ rfl 58 rfl _ state_zero ?_
  intro wa Ba Fa Sa
  refine effQ_keep (hS.trans0 Fa) ?_
  simp only [Act.put, List.setIfInBounds_toArray, List.set_cons_zero, List.set_cons_succ]
  refine wpO_eff (by rfl) ?_
  refine wpList_storeB rfl 58 _ _ rfl w4.drew.heap.size 0 ((⟨x1, x2, x3, [], [], [], [], []⟩ : Sta).cells staP0) (by rfl) (by rfl) 58 _ Ba (by show 0 + 8 ≤ 8; omega) (state_size _ _) (Sta.one _ _) ?_
  intro wb Bb Fb Sb
  rw [splice_all _ _ (by rfl)] at Bb
  have Sb1 : Fr [] w4 wb := (hS.trans0 Fa).trans Fb (fun k hk hlt => by rw [List.mem_singleton.1 hk] at hlt; have : w4.drew.heap.size = w4.heap.size := rfl; omega)
  refine effQ_keep Sb1 ?_
  simp only [Act.put, List.setIfInBounds_toArray, List.set_cons_zero, List.set_cons_succ]
  refine wpO_nil ?_
  have hz : w4.drew.heap.size = w4.heap.size := rfl
  have Bb2 : Blk wb w4.heap.size 58 ((⟨x1, x2, x3, [], [], [], [], []⟩ : Sta).cells staP0) := Bb
  have HD0 := Lib.hid (show Dc w wb (w4.heap.size + 1) w2.heap.size w4.heap.size a n c s0 ⟨x1, x2, x3, [], [], [], [], []⟩ from ⟨HB4.out.fr Sb1 (by simp), ⟨staP0, Bb2, RowW.nil _, RowW.nil _, RowW.nil _, RowW.nil _, RowW.nil _⟩, HA4.out.fr Sb1 (by simp), HF4.out.trans0 Sb1, Bb2.lt⟩)
  have hi3 : w.heap.size < w2.heap.size := by omega
  clear hS d1 d2 d3 Ba Bb Fa Fb Sa Sb Sb1 HA1 HA2 HA4 HB3 HB4 HX3 HX4 HF1 HF2 HF4 HG2 HG4 Bb2
  try rw [hz]
  clear hz
  generalize w4.heap.size = bS at *
  obtain ⟨B, hB⟩ : ∃ B, B = bS + 1 := ⟨_, rfl⟩
  rw [← hB] at HD0
  have hi4 : bS < B := by omega
  clear hB hi1 hi0 hg0
  have HD := HD0
  clear HD0
  go_wp2_with (refine wpList_loadB rfl 92 _ rfl w2.heap.size (by rfl) 92 _ _ HD.out.rd Try.underlying92 rfl (read_size a n c s0) ?_)
  refine (HT1.out wb (HD.out.fr)).mono ?_
  rintro e w3 ⟨rfl, f3⟩
  have HD3 := Lib.hid (show Dc w w3 B w2.heap.size bS a n c s0 (⟨x1, x2, x3, [], [], [], [], []⟩) from ⟨HD.out.rd.fr f3 (by simp), HD.out.st.elim fun s h => ⟨s, h.1.fr f3 (by simp), h.2.ltB (S := []) (by simp) f3⟩, HD.out.z.fr f3 (by simp), HD.out.fr.trans0 f3, Nat.le_trans HD.out.sz f3.size⟩)
  clear f3 HD
  dsimp only
  go_upto_block 0 with (refine wpList_storeB rfl 92 _ _ rfl w2.heap.size 0 (rdc a n c sr1) (by rfl) (by rfl) 92 _ HD3.out.rd (by show 0 + 3 ≤ 3; omega) (read_size a n c sr1) (rdc_one _ _ _ _) ?_; intro w4 B4 F4 S4; rw [splice_all _ _ (by rfl)] at B4; have HD4 := Lib.hid (show Dc w w4 B w2.heap.size bS a n c sr1 (⟨x1, x2, x3, [], [], [], [], []⟩) from ⟨B4, HD3.out.st.elim fun s h => ⟨s, h.1.fr F4 (by simp; omega), h.2.ltB (fun g hg => by rw [List.mem_singleton.1 hg]; omega) F4⟩, HD3.out.z.fr F4 (by simp; omega), HD3.out.fr.trans F4 (fun k hk hlt => by rw [List.mem_singleton.1 hk] at hlt; omega), Nat.le_trans HD3.out.sz F4.size⟩); clear B4 F4 S4)
  go_cut [9, 10] from 40 to 60 (fun s9 s10 wx => DcE w B w2.heap.size bS a n c (fun xs => ⟨x1, x2, x3, xs, [], [], [], []⟩) (ys1, s1) wx)
  case first =>
    go_wp2_with fail
    go_loopw [9] (fun i wr => DcR w B w2.heap.size bS a n c (fun xs => ⟨x1, x2, x3, xs, [], [], [], []⟩) (rQ l) m1 sr1 i wr) (fun i _ => m1 - (intOf i).toNat)
    case atStart => exact ⟨0, sr1, [], Nat.zero_le _, rfl, rfl, HD4.out, HP1.out⟩
    case round =>
      obtain ⟨j, sj, xs, hj, rfl, hlen, hD, hd⟩ := hrel
      have HDD := Lib.hid hd
      clear hd HD4
      by_cases hlt : j < m1
      · have jb : (j : Int) < (m1 : Int) := by omega
        have c2 : wr.cell? ⟨w2.heap.size, 2, none⟩ = some (.int .i64 sj.2) := hD.rd.cellAt rfl
        have HD := Lib.hid hD
        clear hD
        by_cases he : sj.2 = 0
        · rw [he] at c2
          obtain ⟨st, hst, hrows⟩ := HD.out.st
          have HST := Lib.hid hst
          have HRW := Lib.hid hrows
          have HK := Lib.hid (fun (W : World) (f : Fr [] wr W) => HKK1.out W (HD.out.fr.trans0 f) sj)
          have HLS := Lib.hid (fun y hy => lp_step (y := y) hlt he hy HDD.out)
          have HLEN := Lib.hid hlen
          have hbw : bS < wr.heap.size := hst.lt
          generalize (rQ l) sj = r at *
          obtain ⟨y, sk⟩ := r
          have HE0 := Lib.hid he
          clear hst hrows HDD he hlen
          dsimp only at HK HLS
          go_wp2_with (first
            | (have z := HN5.out; clear z; refine wpList_loadB rfl 92 _ rfl w2.heap.size (by rfl) 92 _ _ (HD.out.rd.fr HF5.out (by simp)) Try.underlying92 rfl (read_size a n c sj) ?_)
            | (refine wpList_allocZ rfl 25 rfl _ rqueue_zero ?_; intro w5 B5 F5 S5; have HN5 := Lib.hid B5; have HF5 := Lib.hid F5; have HS5 := Lib.hid S5; clear B5 F5 S5))
          refine (HK.out w5 HF5.out).mono ?_
          rintro e w6 ⟨rfl, f6⟩
          have HN6 := Lib.hid (HN5.out.fr f6 (by simp))
          have HB6 := Lib.hid ((HD.out.rd.fr HF5.out (by simp)).fr f6 (by simp))
          have HF6 := Lib.hid (HF5.out.trans0 f6)
          have h56 : wr.heap.size < w5.heap.size := by have := HS5.out; omega
          clear f6
          dsimp only
          go_wp2_with (first
            | (have z := HR10.out; clear z; refine wpList_store1 rfl 53 _ _ rfl bS 3 (.slice a10 (xs.length + 1) k10) (by rfl) (by rfl) rfl 58 _ HS10.out (by simp [Sta.cells]) (by kernel_rfl) rfl ?_; intro w11 B11 F11 S11; have HD11 := Lib.hid (show Dc w w11 B w2.heap.size bS a n c sk ((fun xs => (⟨x1, x2, x3, xs, [], [], [], []⟩ : Sta)) (xs ++ [y])) from ⟨HB10.out.fr F11 (by simp; omega), ⟨{ st with a1 := a10, c1 := k10 }, by have h := B11; rw [show xs.length + 1 = (xs ++ [y]).length from by simp] at h; exact h, HR10.out.ltB (S := [bS]) (fun g hg => by rw [List.mem_singleton.1 hg]; omega) F11⟩, HZ10.out.fr F11 (by simp; omega), HF10.out.trans F11 (fun k hk hlt => by rw [List.mem_singleton.1 hk] at hlt; omega), Nat.le_trans HG10.out F11.size⟩); clear B11 F11 S11)
            | (have z := HR9.out; clear z; refine wpList_appW rfl _ _ 53 53 rfl B 25 25 que0.cells 7 56 Try.underlying53 Try.underlying53 info_queZ rfl (by decide) _ xs (by rfl) HR9.out.q _ 1 (by rfl) 25 (y.cells) HD9.out rfl (by simp [Value.oneCell', Que.cells]) y HW9.out (by simp only [maxLen]; have := HLEN.out; omega) (by have := HLEN.out; omega) (Nat.le_trans HD.out.sz HX9.out.size) (fun w' cs t f h => h) ?_; intro v10 w10 R10 F10 K10; obtain ⟨a10, k10, hv10, _, _⟩ := R10.form; subst hv10; have HR10 := Lib.hid (HR9.out.putQ y F10 R10); have HS10 := Lib.hid ((HS8.out.fr HX89.out (by simp)).fr F10 (HR9.out.q.ne (HS8.out.fr HX89.out (by simp)) (by decide))); have HB10 := Lib.hid ((HB8.out.fr HX89.out (by simp)).fr F10 (HR9.out.q.ne (HB8.out.fr HX89.out (by simp)) (by decide))); have HZ9 := HD.out.z.fr HX9.out (by simp; omega); have HZ10 := Lib.hid (HZ9.fr F10 (HR9.out.q.ne HZ9 (by decide))); have HF10 := Lib.hid ((HD.out.fr.trans HX9.out (fun k hk hlt => by rw [List.mem_singleton.1 hk] at hlt; omega)).trans F10 (fun k hk hlt => by have := (HR9.out.q.lt hk).1; omega)); have HG10 := Lib.hid (Nat.le_trans (Nat.le_trans HD.out.sz HX9.out.size) F10.size); clear R10 F10 K10 HZ9)
            | (have z := HN8.out; clear z; refine wpList_buildSlice1 rfl 53 25 _ rfl que0.cells 7 56 Try.underlying53 info_queZ (by rfl) (by omega) (by omega) _ (y.cells) (by rfl) (by rfl) (by rfl) ?_; intro w9 B9 F9 S9; have HD9 := Lib.hid B9; have HX89 := Lib.hid F9; have HX9 := Lib.hid (HX8.out.trans0 F9); have HR9 := Lib.hid (HRW.out.ltB (S := [w2.heap.size]) (fun g hg => by rw [List.mem_singleton.1 hg]; omega) HX9.out); have HW9 := Lib.hid (show QueW w9 y.cells y from rfl); clear B9 F9 S9)
            | (have z := HN8.out; clear z; refine wpList_loadB rfl 25 _ rfl wr.heap.size (by rfl) 25 _ _ HN8.out Try.underlying25 rfl (by kernel_rfl) ?_)
            | (have z := HB7.out; clear z; refine wpList_storeB rfl 25 _ _ rfl wr.heap.size 0 (y.cells) (by rfl) (by rfl) 25 _ HN7.out (by show 0 + 7 ≤ 7; omega) (by kernel_rfl) (by simp [Value.oneCell', Que.cells]) ?_; intro w8 B8 F8 S8; rw [splice_all _ _ (by rfl)] at B8; have HN8 := Lib.hid B8; have HB8 := Lib.hid (HB7.out.fr F8 (by simp; omega)); have hs8 := (HST.out.fr HX7.out (by simp; omega)).fr F8 (by simp; omega); have c3 : w8.cell? ⟨bS, 3, none⟩ = some (.slice st.a1 xs.length st.c1) := hs8.cellAt rfl; have HS8 := Lib.hid hs8; have HX8 := Lib.hid (HX7.out.trans F8 (fun k hk hlt => by rw [List.mem_singleton.1 hk] at hlt; omega)); have hq1 := hi4; clear B8 F8 S8 hs8)
            | (refine wpList_storeB rfl 92 _ _ rfl w2.heap.size 0 (rdc a n c sk) (by rfl) (by rfl) 92 _ HB6.out (by show 0 + 3 ≤ 3; omega) (read_size a n c sk) (rdc_one _ _ _ _) ?_; intro w7 B7 F7 S7; rw [splice_all _ _ (by rfl)] at B7; have HB7 := Lib.hid B7; have HN7 := Lib.hid (HN6.out.fr F7 (by simp; omega)); have HX7 := Lib.hid ((HF6.out.ext (S := [w2.heap.size])).trans1 F7); have hq0 := hi4; clear B7 F7 S7))
          have HR := Lib.hid (show DcR w B w2.heap.size bS a n c (fun xs => (⟨x1, x2, x3, xs, [], [], [], []⟩ : Sta)) (rQ l) m1 sr1 (.int .i64 ((j + 1 : Nat) : Int)) w11 from ⟨j + 1, sk, xs ++ [y], by omega, rfl, by rw [List.length_append, HLEN.out]; rfl, HD11.out, HLS.out y (fun _ => rfl)⟩)
          go_roundw
          case rel => exact HR.out
          case measure => simp [intOf] <;> omega
        · have hb : (sj.2 == 0) = false := by simpa using he
          have HE := Lib.hid (lp_end hj (fun h => he h.2) HDD.out)
          clear he
          go_wp2_with fail
          go_meet
          have h1 := HE.out
          rw [← HQ1.out] at h1
          obtain ⟨h1, h2⟩ := h1
          dsimp only at h1 h2
          exact ⟨xs, by dsimp only; rw [h1]; exact HD.out, by dsimp only; rw [h1]; exact h2⟩
      · have jb : ¬ (j : Int) < (m1 : Int) := by omega
        have HE := Lib.hid (lp_end hj (fun h => hlt h.1) HDD.out)
        have HD := Lib.hid hD
        clear hD
        go_wp2_with fail
        go_meet
        have h1 := HE.out
        rw [← HQ1.out] at h1
        obtain ⟨h1, h2⟩ := h1
        dsimp only at h1 h2
        exact ⟨xs, by dsimp only; rw [h1]; exact HD.out, by dsimp only; rw [h1]; exact h2⟩
  obtain ⟨xs1, hD, hx⟩ := hcut
  have HD := Lib.hid hD
  have HXS1 := Lib.hid hx
  clear hD hx HD3 HD4 HP1 HT1 HQ1
  dsimp only at HD HXS1
  go_wp2_with (refine wpList_loadB rfl 92 _ rfl w2.heap.size (by rfl) 92 _ _ HD.out.rd Try.underlying92 rfl (read_size a n c s1) ?_)
  refine (HT2.out wc (HD.out.fr)).mono ?_
  rintro e w3 ⟨rfl, f3⟩
  have HD3 := Lib.hid (show Dc w w3 B w2.heap.size bS a n c s1 (⟨x1, x2, x3, xs1, [], [], [], []⟩) from ⟨HD.out.rd.fr f3 (by simp), HD.out.st.elim fun s h => ⟨s, h.1.fr f3 (by simp), h.2.ltB (S := []) (by simp) f3⟩, HD.out.z.fr f3 (by simp), HD.out.fr.trans0 f3, Nat.le_trans HD.out.sz f3.size⟩)
  clear f3 HD
  dsimp only
  go_upto_block 2 with (refine wpList_storeB rfl 92 _ _ rfl w2.heap.size 0 (rdc a n c sr2) (by rfl) (by rfl) 92 _ HD3.out.rd (by show 0 + 3 ≤ 3; omega) (read_size a n c sr2) (rdc_one _ _ _ _) ?_; intro w4 B4 F4 S4; rw [splice_all _ _ (by rfl)] at B4; have HD4 := Lib.hid (show Dc w w4 B w2.heap.size bS a n c sr2 (⟨x1, x2, x3, xs1, [], [], [], []⟩) from ⟨B4, HD3.out.st.elim fun s h => ⟨s, h.1.fr F4 (by simp; omega), h.2.ltB (fun g hg => by rw [List.mem_singleton.1 hg]; omega) F4⟩, HD3.out.z.fr F4 (by simp; omega), HD3.out.fr.trans F4 (fun k hk hlt => by rw [List.mem_singleton.1 hk] at hlt; omega), Nat.le_trans HD3.out.sz F4.size⟩); clear B4 F4 S4)
  go_cut [11, 12] from 66 to 86 (fun s9 s10 wx => DcE w B w2.heap.size bS a n c (fun xs => ⟨x1, x2, x3, xs1, xs, [], [], []⟩) (ys2, s2) wx)
  case first =>
    go_wp2_with fail
    go_loopw [11] (fun i wr => DcR w B w2.heap.size bS a n c (fun xs => ⟨x1, x2, x3, xs1, xs, [], [], []⟩) (rN l) m2 sr2 i wr) (fun i _ => m2 - (intOf i).toNat)
    case atStart => exact ⟨0, sr2, [], Nat.zero_le _, rfl, rfl, HD4.out, HP2.out⟩
    case round =>
      obtain ⟨j, sj, xs, hj, rfl, hlen, hD, hd⟩ := hrel
      have HDD := Lib.hid hd
      clear hd HD4
      by_cases hlt : j < m2
      · have jb : (j : Int) < (m2 : Int) := by omega
        have c2 : wr.cell? ⟨w2.heap.size, 2, none⟩ = some (.int .i64 sj.2) := hD.rd.cellAt rfl
        have HD := Lib.hid hD
        clear hD
        by_cases he : sj.2 = 0
        · rw [he] at c2
          obtain ⟨st, hst, hrows⟩ := HD.out.st
          have HST := Lib.hid hst
          have HRW := Lib.hid hrows
          have HK := Lib.hid (fun (W : World) (f : Fr [] wr W) => HKK2.out W (HD.out.fr.trans0 f) sj)
          have HLS := Lib.hid (fun y hy => lp_step (y := y) hlt he hy HDD.out)
          have HLEN := Lib.hid hlen
          have hbw : bS < wr.heap.size := hst.lt
          generalize (rN l) sj = r at *
          obtain ⟨y, sk⟩ := r
          have HE0 := Lib.hid he
          clear hst hrows HDD he hlen
          dsimp only at HK HLS
          go_wp2_with (first
            | (have z := HN5.out; clear z; refine wpList_loadB rfl 92 _ rfl w2.heap.size (by rfl) 92 _ _ (HD.out.rd.fr HF5.out (by simp)) Try.underlying92 rfl (read_size a n c sj) ?_)
            | (refine wpList_allocZ rfl 27 rfl _ rnode_zero ?_; intro w5 B5 F5 S5; have HN5 := Lib.hid B5; have HF5 := Lib.hid F5; have HS5 := Lib.hid S5; clear B5 F5 S5))
          refine (HK.out w5 HF5.out).mono ?_
          rintro e w6 ⟨rfl, f6⟩
          have HN6 := Lib.hid (HN5.out.fr f6 (by simp))
          have HB6 := Lib.hid ((HD.out.rd.fr HF5.out (by simp)).fr f6 (by simp))
          have HF6 := Lib.hid (HF5.out.trans0 f6)
          have h56 : wr.heap.size < w5.heap.size := by have := HS5.out; omega
          clear f6
          dsimp only
          go_wp2_with (first
            | (have z := HR10.out; clear z; refine wpList_store1 rfl 54 _ _ rfl bS 4 (.slice a10 (xs.length + 1) k10) (by rfl) (by rfl) rfl 58 _ HS10.out (by simp [Sta.cells]) (by kernel_rfl) rfl ?_; intro w11 B11 F11 S11; have HD11 := Lib.hid (show Dc w w11 B w2.heap.size bS a n c sk ((fun xs => (⟨x1, x2, x3, xs1, xs, [], [], []⟩ : Sta)) (xs ++ [y])) from ⟨HB10.out.fr F11 (by simp; omega), ⟨{ st with a2 := a10, c2 := k10 }, by have h := B11; rw [show xs.length + 1 = (xs ++ [y]).length from by simp] at h; exact h, HR10.out.ltB (S := [bS]) (fun g hg => by rw [List.mem_singleton.1 hg]; omega) F11⟩, HZ10.out.fr F11 (by simp; omega), HF10.out.trans F11 (fun k hk hlt => by rw [List.mem_singleton.1 hk] at hlt; omega), Nat.le_trans HG10.out F11.size⟩); clear B11 F11 S11)
            | (have z := HR9.out; clear z; refine wpList_appW rfl _ _ 54 54 rfl B 27 27 nod0.cells 5 40 Try.underlying54 Try.underlying54 info_nodZ rfl (by decide) _ xs (by rfl) HR9.out.n _ 1 (by rfl) 27 (y.cells) HD9.out rfl (by simp [Value.oneCell', Nod.cells]) y HW9.out (by simp only [maxLen]; have := HLEN.out; omega) (by have := HLEN.out; omega) (Nat.le_trans HD.out.sz HX9.out.size) (fun w' cs t f h => h) ?_; intro v10 w10 R10 F10 K10; obtain ⟨a10, k10, hv10, _, _⟩ := R10.form; subst hv10; have HR10 := Lib.hid (HR9.out.putN y F10 R10); have HS10 := Lib.hid ((HS8.out.fr HX89.out (by simp)).fr F10 (HR9.out.n.ne (HS8.out.fr HX89.out (by simp)) (by decide))); have HB10 := Lib.hid ((HB8.out.fr HX89.out (by simp)).fr F10 (HR9.out.n.ne (HB8.out.fr HX89.out (by simp)) (by decide))); have HZ9 := HD.out.z.fr HX9.out (by simp; omega); have HZ10 := Lib.hid (HZ9.fr F10 (HR9.out.n.ne HZ9 (by decide))); have HF10 := Lib.hid ((HD.out.fr.trans HX9.out (fun k hk hlt => by rw [List.mem_singleton.1 hk] at hlt; omega)).trans F10 (fun k hk hlt => by have := (HR9.out.n.lt hk).1; omega)); have HG10 := Lib.hid (Nat.le_trans (Nat.le_trans HD.out.sz HX9.out.size) F10.size); clear R10 F10 K10 HZ9)
            | (have z := HN8.out; clear z; refine wpList_buildSlice1 rfl 54 27 _ rfl nod0.cells 5 40 Try.underlying54 info_nodZ (by rfl) (by omega) (by omega) _ (y.cells) (by rfl) (by rfl) (by rfl) ?_; intro w9 B9 F9 S9; have HD9 := Lib.hid B9; have HX89 := Lib.hid F9; have HX9 := Lib.hid (HX8.out.trans0 F9); have HR9 := Lib.hid (HRW.out.ltB (S := [w2.heap.size]) (fun g hg => by rw [List.mem_singleton.1 hg]; omega) HX9.out); have HW9 := Lib.hid (show NodW w9 y.cells y from rfl); clear B9 F9 S9)
            | (have z := HN8.out; clear z; refine wpList_loadB rfl 27 _ rfl wr.heap.size (by rfl) 27 _ _ HN8.out Try.underlying27 rfl (by kernel_rfl) ?_)
            | (have z := HB7.out; clear z; refine wpList_storeB rfl 27 _ _ rfl wr.heap.size 0 (y.cells) (by rfl) (by rfl) 27 _ HN7.out (by show 0 + 5 ≤ 5; omega) (by kernel_rfl) (by simp [Value.oneCell', Nod.cells]) ?_; intro w8 B8 F8 S8; rw [splice_all _ _ (by rfl)] at B8; have HN8 := Lib.hid B8; have HB8 := Lib.hid (HB7.out.fr F8 (by simp; omega)); have hs8 := (HST.out.fr HX7.out (by simp; omega)).fr F8 (by simp; omega); have c3 : w8.cell? ⟨bS, 4, none⟩ = some (.slice st.a2 xs.length st.c2) := hs8.cellAt rfl; have HS8 := Lib.hid hs8; have HX8 := Lib.hid (HX7.out.trans F8 (fun k hk hlt => by rw [List.mem_singleton.1 hk] at hlt; omega)); have hq1 := hi4; clear B8 F8 S8 hs8)
            | (refine wpList_storeB rfl 92 _ _ rfl w2.heap.size 0 (rdc a n c sk) (by rfl) (by rfl) 92 _ HB6.out (by show 0 + 3 ≤ 3; omega) (read_size a n c sk) (rdc_one _ _ _ _) ?_; intro w7 B7 F7 S7; rw [splice_all _ _ (by rfl)] at B7; have HB7 := Lib.hid B7; have HN7 := Lib.hid (HN6.out.fr F7 (by simp; omega)); have HX7 := Lib.hid ((HF6.out.ext (S := [w2.heap.size])).trans1 F7); have hq0 := hi4; clear B7 F7 S7))
          have HR := Lib.hid (show DcR w B w2.heap.size bS a n c (fun xs => (⟨x1, x2, x3, xs1, xs, [], [], []⟩ : Sta)) (rN l) m2 sr2 (.int .i64 ((j + 1 : Nat) : Int)) w11 from ⟨j + 1, sk, xs ++ [y], by omega, rfl, by rw [List.length_append, HLEN.out]; rfl, HD11.out, HLS.out y (fun _ => rfl)⟩)
          go_roundw
          case rel => exact HR.out
          case measure => simp [intOf] <;> omega
        · have hb : (sj.2 == 0) = false := by simpa using he
          have HE := Lib.hid (lp_end hj (fun h => he h.2) HDD.out)
          clear he
          go_wp2_with fail
          go_meet
          have h1 := HE.out
          rw [← HQ2.out] at h1
          obtain ⟨h1, h2⟩ := h1
          dsimp only at h1 h2
          exact ⟨xs, by dsimp only; rw [h1]; exact HD.out, by dsimp only; rw [h1]; exact h2⟩
      · have jb : ¬ (j : Int) < (m2 : Int) := by omega
        have HE := Lib.hid (lp_end hj (fun h => hlt h.1) HDD.out)
        have HD := Lib.hid hD
        clear hD
        go_wp2_with fail
        go_meet
        have h1 := HE.out
        rw [← HQ2.out] at h1
        obtain ⟨h1, h2⟩ := h1
        dsimp only at h1 h2
        exact ⟨xs, by dsimp only; rw [h1]; exact HD.out, by dsimp only; rw [h1]; exact h2⟩
  obtain ⟨xs2, hD, hx⟩ := hcut
  have HD := Lib.hid hD
  have HXS2 := Lib.hid hx
  clear hD hx HD3 HD4 HP2 HT2 HQ2
  dsimp only at HD HXS2
  go_wp2_with (refine wpList_loadB rfl 92 _ rfl w2.heap.size (by rfl) 92 _ _ HD.out.rd Try.underlying92 rfl (read_size a n c s2) ?_)
  refine (HT3.out wc (HD.out.fr)).mono ?_
  rintro e w3 ⟨rfl, f3⟩
  have HD3 := Lib.hid (show Dc w w3 B w2.heap.size bS a n c s2 (⟨x1, x2, x3, xs1, xs2, [], [], []⟩) from ⟨HD.out.rd.fr f3 (by simp), HD.out.st.elim fun s h => ⟨s, h.1.fr f3 (by simp), h.2.ltB (S := []) (by simp) f3⟩, HD.out.z.fr f3 (by simp), HD.out.fr.trans0 f3, Nat.le_trans HD.out.sz f3.size⟩)
  clear f3 HD
  dsimp only
  go_upto_block 4 with (refine wpList_storeB rfl 92 _ _ rfl w2.heap.size 0 (rdc a n c sr3) (by rfl) (by rfl) 92 _ HD3.out.rd (by show 0 + 3 ≤ 3; omega) (read_size a n c sr3) (rdc_one _ _ _ _) ?_; intro w4 B4 F4 S4; rw [splice_all _ _ (by rfl)] at B4; have HD4 := Lib.hid (show Dc w w4 B w2.heap.size bS a n c sr3 (⟨x1, x2, x3, xs1, xs2, [], [], []⟩) from ⟨B4, HD3.out.st.elim fun s h => ⟨s, h.1.fr F4 (by simp; omega), h.2.ltB (fun g hg => by rw [List.mem_singleton.1 hg]; omega) F4⟩, HD3.out.z.fr F4 (by simp; omega), HD3.out.fr.trans F4 (fun k hk hlt => by rw [List.mem_singleton.1 hk] at hlt; omega), Nat.le_trans HD3.out.sz F4.size⟩); clear B4 F4 S4)
  go_cut [13, 14] from 92 to 112 (fun s9 s10 wx => DcE w B w2.heap.size bS a n c (fun xs => ⟨x1, x2, x3, xs1, xs2, xs, [], []⟩) (ys3, s3) wx)
  case first =>
    go_wp2_with fail
    go_loopw [13] (fun i wr => DcR w B w2.heap.size bS a n c (fun xs => ⟨x1, x2, x3, xs1, xs2, xs, [], []⟩) (rT l) m3 sr3 i wr) (fun i _ => m3 - (intOf i).toNat)
    case atStart => exact ⟨0, sr3, [], Nat.zero_le _, rfl, rfl, HD4.out, HP3.out⟩
    case round =>
      obtain ⟨j, sj, xs, hj, rfl, hlen, hD, hd⟩ := hrel
      have HDD := Lib.hid hd
      clear hd HD4
      by_cases hlt : j < m3
      · have jb : (j : Int) < (m3 : Int) := by omega
        have c2 : wr.cell? ⟨w2.heap.size, 2, none⟩ = some (.int .i64 sj.2) := hD.rd.cellAt rfl
        have HD := Lib.hid hD
        clear hD
        by_cases he : sj.2 = 0
        · rw [he] at c2
          obtain ⟨st, hst, hrows⟩ := HD.out.st
          have HST := Lib.hid hst
          have HRW := Lib.hid hrows
          have HK := Lib.hid (fun (W : World) (f : Fr [] wr W) => HKK3.out W (HD.out.fr.trans0 f) sj)
          have HLS := Lib.hid (fun y hy => lp_step (y := y) hlt he hy HDD.out)
          have HLEN := Lib.hid hlen
          have hbw : bS < wr.heap.size := hst.lt
          generalize (rT l) sj = r at *
          obtain ⟨y, sk⟩ := r
          have HE0 := Lib.hid he
          clear hst hrows HDD he hlen
          dsimp only at HK HLS
          go_wp2_with (first
            | (have z := HN5.out; clear z; refine wpList_loadB rfl 92 _ rfl w2.heap.size (by rfl) 92 _ _ (HD.out.rd.fr HF5.out (by simp)) Try.underlying92 rfl (read_size a n c sj) ?_)
            | (refine wpList_allocZ rfl 30 rfl _ rtask_zero ?_; intro w5 B5 F5 S5; have HN5 := Lib.hid B5; have HF5 := Lib.hid F5; have HS5 := Lib.hid S5; clear B5 F5 S5))
          refine (HK.out w5 HF5.out).mono ?_
          (rintro e w6 ⟨y', a5, c5, rfl, O, hyy, f6⟩; have HO6 := Lib.hid O; have HYY := Lib.hid hyy; clear O hyy)
          have HN6 := Lib.hid (HN5.out.fr f6 (by simp))
          have HB6 := Lib.hid ((HD.out.rd.fr HF5.out (by simp)).fr f6 (by simp))
          have HF6 := Lib.hid (HF5.out.trans0 f6)
          have h56 : wr.heap.size < w5.heap.size := by have := HS5.out; omega
          clear f6
          dsimp only
          go_wp2_with (first
            | (have z := HR10.out; clear z; refine wpList_store1 rfl 55 _ _ rfl bS 5 (.slice a10 (xs.length + 1) k10) (by rfl) (by rfl) rfl 58 _ HS10.out (by simp [Sta.cells]) (by kernel_rfl) rfl ?_; intro w11 B11 F11 S11; have HD11 := Lib.hid (show Dc w w11 B w2.heap.size bS a n c sk ((fun xs => (⟨x1, x2, x3, xs1, xs2, xs, [], []⟩ : Sta)) (xs ++ [y'])) from ⟨HB10.out.fr F11 (by simp; omega), ⟨{ st with a3 := a10, c3 := k10 }, by have h := B11; rw [show xs.length + 1 = (xs ++ [y']).length from by simp] at h; exact h, HR10.out.ltB (S := [bS]) (fun g hg => by rw [List.mem_singleton.1 hg]; omega) F11⟩, HZ10.out.fr F11 (by simp; omega), HF10.out.trans F11 (fun k hk hlt => by rw [List.mem_singleton.1 hk] at hlt; omega), Nat.le_trans HG10.out F11.size⟩); clear B11 F11 S11)
            | (have z := HR9.out; clear z; refine wpList_appW rfl _ _ 55 55 rfl B 30 30 (tas0.cells none 0) 7 72 Try.underlying55 Try.underlying55 info_taskZ rfl (by decide) _ xs (by rfl) HR9.out.t _ 1 (by rfl) 30 (y'.cells a5 c5) HD9.out rfl (y'.one3 a5 c5) y' HW9.out (by simp only [maxLen]; have := HLEN.out; omega) (by have := HLEN.out; omega) (Nat.le_trans HD.out.sz HX9.out.size) (fun w' cs t f h => TasW.frT (fun g hg => HR9.out.t.blkOf hg) f (by decide) h) ?_; intro v10 w10 R10 F10 K10; obtain ⟨a10, k10, hv10, _, _⟩ := R10.form; subst hv10; have HR10 := Lib.hid (HR9.out.putT y' F10 R10); have HS10 := Lib.hid ((HS8.out.fr HX89.out (by simp)).fr F10 (HR9.out.t.ne (HS8.out.fr HX89.out (by simp)) (by decide))); have HB10 := Lib.hid ((HB8.out.fr HX89.out (by simp)).fr F10 (HR9.out.t.ne (HB8.out.fr HX89.out (by simp)) (by decide))); have HZ9 := HD.out.z.fr HX9.out (by simp; omega); have HZ10 := Lib.hid (HZ9.fr F10 (HR9.out.t.ne HZ9 (by decide))); have HF10 := Lib.hid ((HD.out.fr.trans HX9.out (fun k hk hlt => by rw [List.mem_singleton.1 hk] at hlt; omega)).trans F10 (fun k hk hlt => by have := (HR9.out.t.lt hk).1; omega)); have HG10 := Lib.hid (Nat.le_trans (Nat.le_trans HD.out.sz HX9.out.size) F10.size); clear R10 F10 K10 HZ9)
            | (have z := HN8.out; clear z; refine wpList_buildSlice1 rfl 55 30 _ rfl (tas0.cells none 0) 7 72 Try.underlying55 info_taskZ (by rfl) (by omega) (by omega) _ (y'.cells a5 c5) (by rfl) (by rfl) (by rfl) ?_; intro w9 B9 F9 S9; have HD9 := Lib.hid B9; have HX89 := Lib.hid F9; have HX9 := Lib.hid (HX8.out.trans0 F9); have HR9 := Lib.hid (HRW.out.ltB (S := [w2.heap.size]) (fun g hg => by rw [List.mem_singleton.1 hg]; omega) HX9.out); have HW9 := Lib.hid (show TasW B w9 (y'.cells a5 c5) y' from ⟨a5, c5, rfl, (HO8.out.fr0 F9).base (by have := HD.out.sz; omega)⟩); clear B9 F9 S9)
            | (have z := HN8.out; clear z; refine wpList_loadB rfl 30 _ rfl wr.heap.size (by rfl) 30 _ _ HN8.out Try.underlying30 rfl (task_size3 y' a5 c5) ?_)
            | (have z := HB7.out; clear z; refine wpList_storeB rfl 30 _ _ rfl wr.heap.size 0 (y'.cells a5 c5) (by rfl) (by rfl) 30 _ HN7.out (by show 0 + 7 ≤ 7; omega) (task_size3 y' a5 c5) (y'.one3 a5 c5) ?_; intro w8 B8 F8 S8; rw [splice_all _ _ (by rfl)] at B8; have HN8 := Lib.hid B8; have HB8 := Lib.hid (HB7.out.fr F8 (by simp; omega)); have hs8 := (HST.out.fr HX7.out (by simp; omega)).fr F8 (by simp; omega); have c3 : w8.cell? ⟨bS, 5, none⟩ = some (.slice st.a3 xs.length st.c3) := hs8.cellAt rfl; have HS8 := Lib.hid hs8; have HX8 := Lib.hid (HX7.out.trans F8 (fun k hk hlt => by rw [List.mem_singleton.1 hk] at hlt; omega)); have HO8 := Lib.hid (HO7.out.fr F8 (fun g hg hm => by have := (HO7.out.lt hg).1; rw [List.mem_singleton.1 hm] at this; omega)); clear B8 F8 S8 hs8)
            | (refine wpList_storeB rfl 92 _ _ rfl w2.heap.size 0 (rdc a n c sk) (by rfl) (by rfl) 92 _ HB6.out (by show 0 + 3 ≤ 3; omega) (read_size a n c sk) (rdc_one _ _ _ _) ?_; intro w7 B7 F7 S7; rw [splice_all _ _ (by rfl)] at B7; have HB7 := Lib.hid B7; have HN7 := Lib.hid (HN6.out.fr F7 (by simp; omega)); have HX7 := Lib.hid ((HF6.out.ext (S := [w2.heap.size])).trans1 F7); have HO7 := Lib.hid (HO6.out.fr F7 (fun g hg hm => by have := (HO6.out.lt hg).1; rw [List.mem_singleton.1 hm] at this; omega)); clear B7 F7 S7))
          have HR := Lib.hid (show DcR w B w2.heap.size bS a n c (fun xs => (⟨x1, x2, x3, xs1, xs2, xs, [], []⟩ : Sta)) (rT l) m3 sr3 (.int .i64 ((j + 1 : Nat) : Int)) w11 from ⟨j + 1, sk, xs ++ [y'], by omega, rfl, by rw [List.length_append, HLEN.out]; rfl, HD11.out, HLS.out y' HYY.out⟩)
          go_roundw
          case rel => exact HR.out
          case measure => simp [intOf] <;> omega
        · have hb : (sj.2 == 0) = false := by simpa using he
          have HE := Lib.hid (lp_end hj (fun h => he h.2) HDD.out)
          clear he
          go_wp2_with fail
          go_meet
          have h1 := HE.out
          rw [← HQ3.out] at h1
          obtain ⟨h1, h2⟩ := h1
          dsimp only at h1 h2
          exact ⟨xs, by dsimp only; rw [h1]; exact HD.out, by dsimp only; rw [h1]; exact h2⟩
      · have jb : ¬ (j : Int) < (m3 : Int) := by omega
        have HE := Lib.hid (lp_end hj (fun h => hlt h.1) HDD.out)
        have HD := Lib.hid hD
        clear hD
        go_wp2_with fail
        go_meet
        have h1 := HE.out
        rw [← HQ3.out] at h1
        obtain ⟨h1, h2⟩ := h1
        dsimp only at h1 h2
        exact ⟨xs, by dsimp only; rw [h1]; exact HD.out, by dsimp only; rw [h1]; exact h2⟩
  obtain ⟨xs3, hD, hx⟩ := hcut
  have HD := Lib.hid hD
  have HXS3 := Lib.hid hx
  clear hD hx HD3 HD4 HP3 HT3 HQ3
  dsimp only at HD HXS3
  go_wp2_with (refine wpList_loadB rfl 92 _ rfl w2.heap.size (by rfl) 92 _ _ HD.out.rd Try.underlying92 rfl (read_size a n c s3) ?_)
  refine (HKL.out wc HD.out.fr).mono ?_
  rintro e w3 ⟨v4, ls, rfl, R, hls, f3⟩
  obtain ⟨a4, k4, rfl, _, _⟩ := R.form
  have HR3 := Lib.hid ((R.base HD.out.sz).map (fun cs t h => LeaW.base HD.out.sz h))
  have HXS4 := Lib.hid hls
  have HF3 := Lib.hid f3
  clear R hls f3
  dsimp only
  obtain ⟨st, hst, hrows⟩ := HD.out.st
  have HS3 := Lib.hid (hst.fr HF3.out (by simp))
  have HW3 := Lib.hid (hrows.ltB (S := []) (by simp) HF3.out)
  clear hst hrows
  go_wp2_with (first
    | (have z := HD5.out; clear z; refine wpList_loadB rfl 92 _ rfl w2.heap.size (by rfl) 92 _ _ HD5.out.rd Try.underlying92 rfl (read_size a n c s4) ?_)
    | (have z := HB4.out; clear z; refine wpList_store1 rfl 47 _ _ rfl bS 6 (.slice a4 ls.length k4) (by rfl) (by rfl) rfl 58 _ HS4.out (by simp [Sta.cells]) (by kernel_rfl) rfl ?_; intro w5 B5 F5 S5; have HD5 := Lib.hid (show Dc w w5 B w2.heap.size bS a n c s4 ⟨x1, x2, x3, xs1, xs2, xs3, ls, []⟩ from ⟨HB4.out.fr F5 (by simp; omega), ⟨{ st with a4 := a4, c4 := k4 }, B5, HW4.out.ltB (S := [bS]) (fun g hg => by rw [List.mem_singleton.1 hg]; omega) F5⟩, (HD.out.z.fr (HF3.out.ext (S := [w2.heap.size]) |>.trans1 HF4.out) (by simp; omega)).fr F5 (by simp; omega), ((HD.out.fr.trans0 HF3.out).trans HF4.out (fun k hk hlt => by rw [List.mem_singleton.1 hk] at hlt; omega)).trans F5 (fun k hk hlt => by rw [List.mem_singleton.1 hk] at hlt; omega), Nat.le_trans (Nat.le_trans (Nat.le_trans HD.out.sz HF3.out.size) HF4.out.size) F5.size⟩); clear B5 F5 S5)
    | (refine wpList_storeB rfl 92 _ _ rfl w2.heap.size 0 (rdc a n c s4) (by rfl) (by rfl) 92 _ (HD.out.rd.fr HF3.out (by simp)) (by show 0 + 3 ≤ 3; omega) (read_size a n c s4) (rdc_one _ _ _ _) ?_; intro w4 B4 F4 S4; rw [splice_all _ _ (by rfl)] at B4; have HB4 := Lib.hid B4; have HF4 := Lib.hid F4; have HS4 := Lib.hid (HS3.out.fr F4 (by simp; omega)); have hw4 := HW3.out.ltB (S := [w2.heap.size]) (fun g hg => by rw [List.mem_singleton.1 hg]; omega) F4; have HW4 := Lib.hid (show Rows5 B ⟨x1, x2, x3, xs1, xs2, xs3, ls, []⟩ { st with a4 := a4, c4 := k4 } w4 from ⟨hw4.q, hw4.n, hw4.t, HR3.out.ltB (S := [w2.heap.size]) (fun g hg => by rw [List.mem_singleton.1 hg]; omega) F4 (fun cs t h => LeaW.lt (fun g hg => by rw [List.mem_singleton.1 hg]; omega) F4 h), hw4.h⟩); clear B4 F4 S4 hw4))
  have HD := HD5
  clear HD5 HS3 HW3 HR3 HF3 HB4 HF4 HS4 HW4
  refine (HT5.out w5 (HD.out.fr)).mono ?_
  rintro e w3 ⟨rfl, f3⟩
  have HD3 := Lib.hid (show Dc w w3 B w2.heap.size bS a n c s4 (⟨x1, x2, x3, xs1, xs2, xs3, ls, []⟩) from ⟨HD.out.rd.fr f3 (by simp), HD.out.st.elim fun s h => ⟨s, h.1.fr f3 (by simp), h.2.ltB (S := []) (by simp) f3⟩, HD.out.z.fr f3 (by simp), HD.out.fr.trans0 f3, Nat.le_trans HD.out.sz f3.size⟩)
  clear f3 HD
  dsimp only
  go_upto_block 6 with (refine wpList_storeB rfl 92 _ _ rfl w2.heap.size 0 (rdc a n c sr5) (by rfl) (by rfl) 92 _ HD3.out.rd (by show 0 + 3 ≤ 3; omega) (read_size a n c sr5) (rdc_one _ _ _ _) ?_; intro w4 B4 F4 S4; rw [splice_all _ _ (by rfl)] at B4; have HD4 := Lib.hid (show Dc w w4 B w2.heap.size bS a n c sr5 (⟨x1, x2, x3, xs1, xs2, xs3, ls, []⟩) from ⟨B4, HD3.out.st.elim fun s h => ⟨s, h.1.fr F4 (by simp; omega), h.2.ltB (fun g hg => by rw [List.mem_singleton.1 hg]; omega) F4⟩, HD3.out.z.fr F4 (by simp; omega), HD3.out.fr.trans F4 (fun k hk hlt => by rw [List.mem_singleton.1 hk] at hlt; omega), Nat.le_trans HD3.out.sz F4.size⟩); clear B4 F4 S4)
  go_cut [15, 16] from 124 to 150 (fun s9 s10 wx => DcE w B w2.heap.size bS a n c (fun xs : List (Int × Int) => ⟨x1, x2, x3, xs1, xs2, xs3, ls, xs.map hunP⟩) (ys5, s5) wx)
  case first =>
    go_wp2_with fail
    go_loopw [15] (fun i wr => DcR w B w2.heap.size bS a n c (fun xs : List (Int × Int) => ⟨x1, x2, x3, xs1, xs2, xs3, ls, xs.map hunP⟩) (rH l) m5 sr5 i wr) (fun i _ => m5 - (intOf i).toNat)
    case atStart => exact ⟨0, sr5, [], Nat.zero_le _, rfl, rfl, HD4.out, HP5.out⟩
    case round =>
      obtain ⟨j, sj, xs, hj, rfl, hlen, hD, hd⟩ := hrel
      have HDD := Lib.hid hd
      clear hd HD4
      by_cases hlt : j < m5
      · have jb : (j : Int) < (m5 : Int) := by omega
        have c2 : wr.cell? ⟨w2.heap.size, 2, none⟩ = some (.int .i64 sj.2) := hD.rd.cellAt rfl
        have HD := Lib.hid hD
        clear hD
        by_cases he : sj.2 = 0
        · rw [he] at c2
          obtain ⟨st, hst, hrows⟩ := HD.out.st
          have HST := Lib.hid hst
          have HRW := Lib.hid hrows
          have HK := Lib.hid (fun (W : World) (f : Fr [] wr W) => HKK5.out W (HD.out.fr.trans0 f) sj)
          have HLS := Lib.hid (fun y hy => lp_step (y := y) hlt he hy HDD.out)
          have HLEN := Lib.hid hlen
          have hbw : bS < wr.heap.size := hst.lt
          have hn2 : numsP l 2 sj = ([(rH l sj).1.1, (rH l sj).1.2], (rH l sj).2) := rfl
          rw [hn2] at HK
          generalize rH l sj = r at *
          obtain ⟨⟨y1, y2⟩, sk⟩ := r
          have HE0 := Lib.hid he
          clear hst hrows HDD he hlen hn2
          dsimp only at HK HLS
          go_wp2_with (refine wpList_loadB rfl 92 _ rfl w2.heap.size (by rfl) 92 _ _ HD.out.rd Try.underlying92 rfl (read_size a n c sj) ?_)
          refine (HK.out wr (Fr.refl _ _)).mono ?_
          rintro e w6 ⟨g, rfl, hg, G, f6⟩
          have HG6 := Lib.hid G
          have HB6 := Lib.hid (HD.out.rd.fr f6 (by simp))
          have HF6 := Lib.hid f6
          clear G f6
          dsimp only
          go_wp2_with (refine wpList_storeB rfl 92 _ _ rfl w2.heap.size 0 (rdc a n c sk) (by rfl) (by rfl) 92 _ HB6.out (by show 0 + 3 ≤ 3; omega) (read_size a n c sk) (rdc_one _ _ _ _) ?_; intro w7 B7 F7 S7; rw [splice_all _ _ (by rfl)] at B7; have HB7 := Lib.hid B7; have HG7 := Lib.hid (HG6.out.fr F7 (by simp; omega)); have HX7 := Lib.hid ((HF6.out.ext (S := [w2.heap.size])).trans1 F7); clear B7 F7 S7)
          have HS7 := Lib.hid (HST.out.fr HX7.out (by simp; omega))
          refine wp_region_ord (Fr [] w7) [0, 1, 2, 3, 4, 5, 6, 7, 8, 9, 10, 11, 12] [10, 12] [9, 10, 12] [1, 4, 7] mixed (by kernel_rfl) ?_
          have hS : Fr [] w7 w7.drew := (Fr.refl _ _).drew
          have d0 : ∀ W, Fr [] w7 W → W.cell? ⟨bS, 7, none⟩ = some (.slice st.a5 (xs.map hunP).length st.c5) := fun W f => (HS7.out.fr f (by simp)).cellAt rfl
          have d1 : ∀ W, Fr [] w7 W → W.cell? ⟨g, 0, none⟩ = some (.int .i64 y1) := fun W f => (HG7.out.fr f (by simp)).cellAt rfl
          have d2 : ∀ W, Fr [] w7 W → W.cell? ⟨g, 1, none⟩ = some (.int .i64 y2) := fun W f => (HG7.out.fr f (by simp)).cellAt rfl
          simp only [List.length_map] at d0
          simp only [pairs, pickN]
          repeat (first | (refine wpO_free ?_ (by rfl) (by rfl) (fun w' => ?_) ?_; rotate_left; (go_simp; rfl); simp only [Act.put, List.setIfInBounds_toArray, List.set_cons_zero, List.set_cons_succ]) | (refine wpO_take ?_ hS (by rfl) (by rfl) (fun w' hw' => ?_) ?_; rotate_left; (go_simp; rfl); simp only [Act.put, List.setIfInBounds_toArray, List.set_cons_zero, List.set_cons_succ]) | (refine wpO_pass (by rfl) ?_; simp only [Act.put, List.setIfInBounds_toArray, List.set_cons_zero, List.set_cons_succ]))
          refine wpO_eff (by rfl) ?_
          refine wpList_buildSlice1 rfl 56 119 _ rfl [.int .i64 0, .int .i64 0] 2 16 Try.underlying56 info_hunZ (by rfl) (by omega) (by omega) _ ([.int .i64 y1, .int .i64 y2] : List Value) (by rfl) (by rfl) (by rfl) ?_
          intro w9 B9 F9 S9
          have F79 : Fr [] w7 w9 := hS.trans0 F9
          refine effQ_keep F79 ?_
          simp only [Act.put, List.setIfInBounds_toArray, List.set_cons_zero, List.set_cons_succ]
          refine wpO_eff (by rfl) ?_
          have hX9 : Fr [w2.heap.size] wr w9 := HX7.out.trans0 F79
          have hR9 := HRW.out.ltB (S := [w2.heap.size]) (fun g hg => by rw [List.mem_singleton.1 hg]; omega) hX9
          refine wpList_appW rfl _ _ 56 56 rfl B 119 119 [.int .i64 0, .int .i64 0] 2 16 Try.underlying56 Try.underlying56 info_hunZ rfl (by decide) _ (xs.map hunP) (by first | rfl | (rw [List.length_map]; rfl)) hR9.h _ 1 (by rfl) 119 ([.int .i64 y1, .int .i64 y2] : List Value) B9 rfl (by simp [Value.oneCell']) (⟨y1, y2⟩ : Hun) (show HuW w9 [.int .i64 y1, .int .i64 y2] ⟨y1, y2⟩ from rfl) (by simp only [maxLen]; rw [List.length_map]; have := HLEN.out; omega) (by rw [List.length_map]; have := HLEN.out; omega) (Nat.le_trans HD.out.sz hX9.size) (fun w' cs t f h => h) ?_
          intro v10 w10 R10 F10 K10
          obtain ⟨a10, k10, hv10, _, _⟩ := R10.form
          subst hv10
          have hR10 := hR9.putH ⟨y1, y2⟩ F10 R10
          have hs9 := HS7.out.fr F79 (by simp)
          have hs10 := hs9.fr F10 (hR9.h.ne hs9 (by decide))
          have hb9 := HB7.out.fr F79 (by simp)
          have hb10 := hb9.fr F10 (hR9.h.ne hb9 (by decide))
          have hz9 := HD.out.z.fr hX9 (by simp; omega)
          have hz10 := hz9.fr F10 (hR9.h.ne hz9 (by decide))
          have hF10 := (HD.out.fr.trans hX9 (fun k hk hlt => by rw [List.mem_singleton.1 hk] at hlt; omega)).trans F10 (fun k hk hlt => by have := (hR9.h.lt hk).1; omega)
          have hG10 := Nat.le_trans (Nat.le_trans HD.out.sz hX9.size) F10.size
          refine effQ_skip (by decide) ?_
          simp only [Act.put, List.setIfInBounds_toArray, List.set_cons_zero, List.set_cons_succ]
          repeat (first | (refine wpO_free ?_ (by rfl) (by rfl) (fun w' => ?_) ?_; rotate_left; (go_simp; rfl); simp only [Act.put, List.setIfInBounds_toArray, List.set_cons_zero, List.set_cons_succ]) | (refine wpO_pass (by rfl) ?_; simp only [Act.put, List.setIfInBounds_toArray, List.set_cons_zero, List.set_cons_succ]))
          refine wpO_eff (by rfl) ?_
          refine wpList_store1 rfl 56 _ _ rfl bS 7 (.slice a10 (xs.map hunP ++ [(⟨y1, y2⟩ : Hun)]).length k10) (by rfl) (by rfl) rfl 58 _ hs10 (by simp [Sta.cells]) (by kernel_rfl) rfl ?_
          intro w11 B11 F11 S11
          have HD11 := Lib.hid (show Dc w w11 B w2.heap.size bS a n c sk ⟨x1, x2, x3, xs1, xs2, xs3, ls, (xs ++ [(y1, y2)]).map hunP⟩ from ⟨hb10.fr F11 (by simp; omega), ⟨{ st with a5 := a10, c5 := k10 }, by rw [List.map_append]; exact B11, by rw [List.map_append]; exact hR10.ltB (S := [bS]) (fun g hg => by rw [List.mem_singleton.1 hg]; omega) F11⟩, hz10.fr F11 (by simp; omega), hF10.trans F11 (fun k hk hlt => by rw [List.mem_singleton.1 hk] at hlt; omega), Nat.le_trans hG10 F11.size⟩)
          refine effQ_skip (by decide) (wpO_nil ?_)
          clear hS d0 d1 d2 B9 F9 S9 F79 hX9 hR9 R10 F10 K10 hR10 hs9 hs10 hb9 hb10 hz9 hz10 hF10 hG10 B11 F11 S11
          have HR := Lib.hid (show DcR w B w2.heap.size bS a n c (fun xs : List (Int × Int) => (⟨x1, x2, x3, xs1, xs2, xs3, ls, xs.map hunP⟩ : Sta)) (rH l) m5 sr5 (.int .i64 ((j + 1 : Nat) : Int)) w11 from ⟨j + 1, sk, xs ++ [(y1, y2)], by omega, rfl, by rw [List.length_append, HLEN.out]; rfl, HD11.out, HLS.out (y1, y2) (fun _ => rfl)⟩)
          go_wp2_with fail
          go_roundw
          case rel => exact HR.out
          case measure => simp [intOf] <;> omega
        · have hb : (sj.2 == 0) = false := by simpa using he
          have HE := Lib.hid (lp_end hj (fun h => he h.2) HDD.out)
          clear he
          go_wp2_with fail
          go_meet
          have h1 := HE.out
          rw [← HQ5.out] at h1
          obtain ⟨h1, h2⟩ := h1
          dsimp only at h1 h2
          exact ⟨xs, by dsimp only; rw [h1]; exact HD.out, by dsimp only; rw [h1]; exact h2⟩
      · have jb : ¬ (j : Int) < (m5 : Int) := by omega
        have HE := Lib.hid (lp_end hj (fun h => hlt h.1) HDD.out)
        have HD := Lib.hid hD
        clear hD
        go_wp2_with fail
        go_meet
        have h1 := HE.out
        rw [← HQ5.out] at h1
        obtain ⟨h1, h2⟩ := h1
        dsimp only at h1 h2
        exact ⟨xs, by dsimp only; rw [h1]; exact HD.out, by dsimp only; rw [h1]; exact h2⟩
  obtain ⟨xs5, hD, hx⟩ := hcut
  have HD := Lib.hid hD
  have HXS5 := Lib.hid hx
  clear hD hx HD3 HD4 HP5 HT5 HQ5
  dsimp only at HD HXS5
  go_wp2_with (refine wpList_loadB rfl 92 _ rfl w2.heap.size (by rfl) 92 _ _ HD.out.rd Try.underlying92 rfl (read_size a n c s5) ?_)
  refine (HKF.out wc HD.out.fr).mono ?_
  rintro e w6 ⟨rfl, f6⟩
  obtain ⟨st, hst, hrows⟩ := HD.out.st
  have HS6 := Lib.hid (hst.fr f6 (by simp))
  have HW6 := Lib.hid (hrows.ltB (S := []) (by simp) f6)
  have HZ6 := Lib.hid (HD.out.z.fr f6 (by simp))
  have HF6 := Lib.hid (HD.out.fr.trans0 f6)
  clear hst hrows f6 HD
  dsimp only
  by_cases he : ee = 0
  · subst he
    have h5 := HEE.out rfl
    have h4 := HKE5.out h5
    have h3 := HKE4.out h4
    have h2 := HKE3.out h3
    have h1 := HKE2.out h2
    have e5 := HXS5.out h5
    have e4 := HXS4.out h4
    have e3 := HXS3.out h3
    have e2 := HXS2.out h2
    have e1 := HXS1.out h1
    have e0 := HY.out rfl
    clear h1 h2 h3 h4 h5 HXS1 HXS2 HXS3 HXS4 HXS5 HY HN HEE HKE1 HKE2 HKE3 HKE4 HKE5 HKK1 HKK2 HKK3 HKK5 HKL HKF HK0
    try dsimp only at e1 e2 e3 e4 e5
    subst e1 e2 e3 e4 e5 e0
    go_wp2_with (first
      | (refine wpList_loadB rfl 58 _ rfl bS (by rfl) 58 _ _ HS6.out Try.underlying58 rfl (state_size _ _) ?_)
      | (refine wpList_storeB rfl 58 _ _ rfl w.heap.size 0 ((⟨x1, x2, x3, xs1, xs2, xs3, ls, xs5.map hunP⟩ : Sta).cells st) (by rfl) (by rfl) 58 _ HZ6.out (by show 0 + 8 ≤ 8; omega) (state_size _ _) (Sta.one _ _) ?_; intro wa Ba Fa Sa; rw [splice_all _ _ (by rfl)] at Ba; have HBa := Lib.hid Ba; have HSa := Lib.hid Fa; clear Ba Fa Sa))
    have HRa := HW6.out.ltB (S := [w.heap.size]) (fun g hg => by rw [List.mem_singleton.1 hg]; omega) HSa.out
    exact bodyPost_ret (results_cellB_tmp2 rfl _ _ w.heap.size 58 _ _ (by rfl) HBa.out Try.underlying58 rfl (state_size _ _)) rfl ⟨_, by rfl, (show StaO B _ _ _ from ⟨st, rfl, HRa.q, HRa.n, HRa.t, HRa.l, HRa.h⟩).base (by omega), HF6.out.trans HSa.out (fun k hk hlt => by rw [List.mem_singleton.1 hk] at hlt; omega)⟩
  · have hb : (ee != 0) = true := by simpa using he
    have e0 := HN.out he
    clear HXS1 HXS2 HXS3 HXS4 HXS5 HY HN HEE HKE1 HKE2 HKE3 HKE4 HKE5 HKK1 HKK2 HKK3 HKK5 HKL HKF HK0 he
    subst e0
    go_wp2_with (first
      | (refine wpList_buildV rfl 58 [] rfl [] (by rfl) _ (sta_build0 _) ?_)
      | (refine wpList_storeB rfl 58 _ _ rfl w.heap.size 0 (sta0.cells staP0) (by rfl) (by rfl) 58 _ HZ6.out (by show 0 + 8 ≤ 8; omega) (state_size _ _) (Sta.one _ _) ?_; intro wa Ba Fa Sa; rw [splice_all _ _ (by rfl)] at Ba; have HBa := Lib.hid Ba; have HSa := Lib.hid Fa; clear Ba Fa Sa))
    exact bodyPost_ret (results_cellB_tmp2 rfl _ _ w.heap.size 58 _ _ (by rfl) HBa.out Try.underlying58 rfl (state_size _ _)) rfl ⟨_, by rfl, sta0_O _ _, HF6.out.trans HSa.out (fun k hk hlt => by rw [List.mem_singleton.1 hk] at hlt; omega)⟩
end Go.Fur
namespace Go.Fur
open Go Go.RowKit Go.Proofs Go.Proofs.YtmdfipahbhbgjaaW.PrintWords
set_option linter.unusedVariables false
set_option linter.unusedSimpArgs false
theorem decR_zero {β : Type} {l : List Int} {zero : β} {r : β × Int × Int} (h : ¬ (decR l zero r).2.2 = 0) : (decR l zero r).1 = zero := by
  unfold decR at h ⊢
  by_cases h0 : (endR l r.2).2 = 0
  · rw [if_pos h0] at h
    exact absurd h0 h
  · rw [if_neg h0]
theorem sum_le {τ : Type} (f : τ → Nat) (k : Nat) : ∀ l : List τ, (∀ t ∈ l, f t ≤ k) → (l.map f).sum ≤ k * l.length
  | [], _ => by simp
  | t :: l, h => by
    have h1 := h t List.mem_cons_self
    have h2 := sum_le f k l (fun x hx => h x (List.mem_cons_of_mem _ hx))
    rw [List.map_cons, List.sum_cons, List.length_cons, Nat.mul_succ]
    omega
theorem readsE_small {l : List Int} (hb : Byt l) : (decR l ent0 (rE l (0, 0))).1.cmd.task.tickets.length ≤ 1048576 := by
  by_cases h : (decR l ent0 (rE l (0, 0))).2.2 = 0
  · obtain ⟨h1, h2, h3, h4⟩ := got_back (rE_got hb (0, 0)) h
    rw [h1]
    have := (err_ok h4).1
    omega
  · rw [decR_zero h]
    exact Nat.zero_le _
theorem Ans.small {x : Ans} (h : x.er = 0) : x.bulk ≤ 1000000000 := by
  rw [Ans.er_is] at h
  have h1 : ¬ 1024 < x.cores.length := fun h1 => by rw [if_pos (.inl h1)] at h; simp at h
  have h2 : shortL x.leases = true := by
    cases hs : shortL x.leases with
    | true => rfl
    | false => rw [if_pos (.inr hs)] at h; simp at h
  obtain ⟨h3, h4⟩ := of_decide_eq_true h2
  have h5 := sum_le (fun t : Lea => t.cores.length + 1) 1025 x.leases (fun t ht => by have := h3 t ht; omega)
  unfold Ans.bulk
  omega
theorem Sta.small {x : Sta} (h : x.er = 0) : x.bulk ≤ 1000000000 := by
  obtain ⟨h1, h2, h3, h4, h5, h6, h7⟩ := Sta.of_er h
  have h8 := sum_le (fun t : Lea => t.cores.length + 1) 1025 x.leases (fun t ht => by have := h6 t ht; omega)
  have h9 := sum_le (fun t : Tas => t.tickets.length + 1) 1025 x.tasks (fun t ht => by have := h7 t ht; omega)
  unfold Sta.bulk
  omega
theorem readsA_small {l : List Int} (hb : Byt l) : (decR l ans0 (rA l (0, 0))).1.bulk ≤ 1000000000 := by
  by_cases h : (decR l ans0 (rA l (0, 0))).2.2 = 0
  · obtain ⟨h1, h2, h3, h4⟩ := got_back (rA_got hb (0, 0)) h
    rw [h1]
    exact Ans.small h4
  · rw [decR_zero h]
    exact Nat.zero_le _
theorem readsS_small {l : List Int} (hb : Byt l) : (decR l sta0 (rS l (0, 0))).1.bulk ≤ 1000000000 := by
  by_cases h : (decR l sta0 (rS l (0, 0))).2.2 = 0
  · obtain ⟨h1, h2, h3, h4⟩ := got_back (rS_got hb (0, 0)) h
    rw [h1]
    exact Sta.small h4
  · rw [decR_zero h]
    exact Nat.zero_le _
set_option maxRecDepth 100000 in
set_option maxHeartbeats 8000000 in
theorem CommandReads_calls {w : World} {a : Option Addr} {n c : Nat} {l : List Int} (hs : Src l a n c) (hr : Rd w a (bv l)) :
    Calls Try.prog 6 #[.slice a n c] w (BoolE true w) := by
  have HDE := Lib.hid (fun (W : World) (f : Fr [] w W) => decodeE_calls (w := W) (base := W.heap.size) (Nat.le_refl _) hs (hr.fr0 f))
  have HDA := Lib.hid (fun (W : World) (f : Fr [] w W) => decodeA_calls (w := W) (base := W.heap.size) (Nat.le_refl _) hs (hr.fr0 f))
  have HDS := Lib.hid (fun (W : World) (f : Fr [] w W) => decodeS_calls (w := W) (base := W.heap.size) (Nat.le_refl _) hs (hr.fr0 f))
  have HEE := Lib.hid (fun (W : World) (f : Fr [] w W) => docE_calls (w := W) hs (hr.fr0 f))
  have HEA := Lib.hid (fun (W : World) (f : Fr [] w W) => docA_calls (w := W) hs (hr.fr0 f))
  have HES := Lib.hid (fun (W : World) (f : Fr [] w W) => docS_calls (w := W) hs (hr.fr0 f))
  have HLE := Lib.hid (readsE_small hs.byt)
  have HLA := Lib.hid (readsA_small hs.byt)
  have HLS := Lib.hid (readsS_small hs.byt)
  generalize decR l ent0 (rE l (0, 0)) = re at *
  generalize decR l ans0 (rA l (0, 0)) = ra at *
  generalize decR l sta0 (rS l (0, 0)) = rs at *
  obtain ⟨xe, ate, ee⟩ := re
  obtain ⟨xa, ata, ea⟩ := ra
  obtain ⟨xs, ats, es⟩ := rs
  dsimp only at HLE HLA HLS
  have HSE := Lib.hid (fun (W : World) (a b : Option Addr) (c d : Nat) (h1 : Rd W a (iv xe.cmd.task.tickets)) (h2 : Rd W b (iv xe.cmd.task.tickets)) => by
    have h := sameE_calls (w := W) xe xe a b c d h1 h2 (by have := HLE.out; omega)
    rw [(sameE_is xe xe).2 rfl] at h
    exact h)
  clear hs hr
  go_enter Try.func6, Try.ntmps6
  go_wp2_with fail
  refine (awake_calls w).mono ?_
  rintro e w0 ⟨rfl, f0⟩
  have HFv := Lib.hid f0
  clear f0
  go_wp2_with fail
  refine (HDE.out w0 HFv.out).mono ?_
  rintro e w1 ⟨v, rfl, O, f1⟩
  obtain ⟨a1, c1, rfl, own⟩ := O; have HV1 := Lib.hid (own.rdS (X := X0) (fun _ _ h => h)).1.rd; clear own
  have HF1 := Lib.hid ((HFv.out).trans0 f1)
  clear f1
  dsimp only
  go_wp2_with (first
    | (refine wpList_storeB rfl 34 _ _ rfl w1.heap.size 0 (xe.cells a1 c1) (by rfl) (by rfl) 34 _ HB2.out (by show 0 + 27 ≤ 27; omega) (entry_size2 xe a1 c1) (xe.one a1 c1) ?_; intro w3 B3 F3 S3; rw [splice_all _ _ (by rfl)] at B3; have HB3 := Lib.hid B3; have HX3 := Lib.hid (HX2.out.trans F3 (fun k hk hlt => by rw [List.mem_singleton.1 hk] at hlt; omega)); clear B3 F3 S3)
    | (refine wpList_allocZ rfl 34 rfl _ entry_zero2 ?_; intro w2 B2 F2 S2; have HB2 := Lib.hid B2; have HX2 := Lib.hid F2; clear B2 F2 S2))
  have HF3 := Lib.hid (HF1.out.trans0 HX3.out)
  refine (HEE.out w3 HF3.out).mono ?_
  rintro e w4 ⟨v4, rfl, O, f4⟩
  obtain ⟨a2, c2, rfl, own⟩ := O; have HV2 := Lib.hid (own.rdS (X := X0) (fun _ _ h => h)).1.rd; clear own
  have HF4 := Lib.hid (HF3.out.trans0 f4)
  have HX4 := Lib.hid (HX3.out.trans0 f4)
  have HB4 := Lib.hid (HB3.out.fr f4 (by simp))
  clear f4
  dsimp only
  go_wp2_with (first
    | (have z := HB6.out; clear z; refine wpList_loadB rfl 34 _ rfl w1.heap.size (by rfl) 34 _ _ (HB4.out.fr HX6.out (by simp)) Try.underlying34 rfl (entry_size2 xe a1 c1) ?_)
    | (have z := HB6.out; clear z; refine wpList_loadB rfl 34 _ rfl w4.heap.size (by rfl) 34 _ _ HB6.out Try.underlying34 rfl (entry_size2 xe a2 c2) ?_)
    | (refine wpList_storeB rfl 34 _ _ rfl w4.heap.size 0 (xe.cells a2 c2) (by rfl) (by rfl) 34 _ HB5.out (by show 0 + 27 ≤ 27; omega) (entry_size2 xe a2 c2) (xe.one a2 c2) ?_; intro w6 B6 F6 S6; rw [splice_all _ _ (by rfl)] at B6; have HB6 := Lib.hid B6; have HX6 := Lib.hid (HX5.out.trans F6 (fun k hk hlt => by rw [List.mem_singleton.1 hk] at hlt; omega)); clear B6 F6 S6)
    | (refine wpList_allocZ rfl 34 rfl _ entry_zero2 ?_; intro w5 B5 F5 S5; have HB5 := Lib.hid B5; have HX5 := Lib.hid F5; clear B5 F5 S5))
  have HX := Lib.hid (HX4.out.trans0 HX6.out)
  refine (HSE.out w6 a1 a2 c1 c2 (HV1.out.fr0 HX.out) (HV2.out.fr0 HX6.out)).mono ?_
  rintro e w7 ⟨rfl, f7⟩
  have HFx := Lib.hid ((HF4.out.trans0 HX6.out).trans0 f7)
  clear f7 HX HX6 HX5 HX4 HX3 HX2 HB2 HB3 HB4 HB5 HB6 HF1 HF3 HF4
  generalize w7 = wx at *
  go_wp2_with fail
  refine (HDA.out wx HFx.out).mono ?_
  rintro e w1 ⟨v, rfl, O, f1⟩
  obtain ⟨p1, q1, p2, q2, rfl, own, rw1⟩ := O; have HV1 := Lib.hid (And.intro (own.rdS (X := X0) (fun _ _ h => h)).1.rd (rw1.rowA (EL := LeaAt) (fun _ _ h => LeaW.at h))); clear own rw1
  have HF1 := Lib.hid ((HFx.out).trans0 f1)
  clear f1
  dsimp only
  go_wp2_with (first
    | (refine wpList_storeB rfl 49 _ _ rfl w1.heap.size 0 (xa.cells p1 q1 p2 q2) (by rfl) (by rfl) 49 _ HB2.out (by show 0 + 5 ≤ 5; omega) (answer_size xa p1 q1 p2 q2) (by simp [Value.oneCell', Ans.cells]) ?_; intro w3 B3 F3 S3; rw [splice_all _ _ (by rfl)] at B3; have HB3 := Lib.hid B3; have HX3 := Lib.hid (HX2.out.trans F3 (fun k hk hlt => by rw [List.mem_singleton.1 hk] at hlt; omega)); clear B3 F3 S3)
    | (refine wpList_allocZ rfl 49 rfl _ answer_zero3 ?_; intro w2 B2 F2 S2; have HB2 := Lib.hid B2; have HX2 := Lib.hid F2; clear B2 F2 S2))
  have HF3 := Lib.hid (HF1.out.trans0 HX3.out)
  refine (HEA.out w3 HF3.out).mono ?_
  rintro e w4 ⟨v4, rfl, O, f4⟩
  obtain ⟨p3, q3, p4, q4, rfl, own, rw1⟩ := O; have HV2 := Lib.hid (And.intro (own.rdS (X := X0) (fun _ _ h => h)).1.rd (rw1.rowA (EL := LeaAt) (fun _ _ h => LeaW.at h))); clear own rw1
  have HF4 := Lib.hid (HF3.out.trans0 f4)
  have HX4 := Lib.hid (HX3.out.trans0 f4)
  have HB4 := Lib.hid (HB3.out.fr f4 (by simp))
  clear f4
  dsimp only
  go_wp2_with (first
    | (have z := HB6.out; clear z; refine wpList_loadB rfl 49 _ rfl w1.heap.size (by rfl) 49 _ _ (HB4.out.fr HX6.out (by simp)) Try.underlying49 rfl (answer_size xa p1 q1 p2 q2) ?_)
    | (have z := HB6.out; clear z; refine wpList_loadB rfl 49 _ rfl w4.heap.size (by rfl) 49 _ _ HB6.out Try.underlying49 rfl (answer_size xa p3 q3 p4 q4) ?_)
    | (refine wpList_storeB rfl 49 _ _ rfl w4.heap.size 0 (xa.cells p3 q3 p4 q4) (by rfl) (by rfl) 49 _ HB5.out (by show 0 + 5 ≤ 5; omega) (answer_size xa p3 q3 p4 q4) (by simp [Value.oneCell', Ans.cells]) ?_; intro w6 B6 F6 S6; rw [splice_all _ _ (by rfl)] at B6; have HB6 := Lib.hid B6; have HX6 := Lib.hid (HX5.out.trans F6 (fun k hk hlt => by rw [List.mem_singleton.1 hk] at hlt; omega)); clear B6 F6 S6)
    | (refine wpList_allocZ rfl 49 rfl _ answer_zero3 ?_; intro w5 B5 F5 S5; have HB5 := Lib.hid B5; have HX5 := Lib.hid F5; clear B5 F5 S5))
  have HX := Lib.hid (HX4.out.trans0 HX6.out)
  refine (sameA_calls (w := w6) xa p1 p2 p3 p4 q1 q2 q3 q4 (HV1.out.1.fr0 HX.out) (HV2.out.1.fr0 HX6.out) (HV1.out.2.elim fun css h => ⟨css, h.fr0 HX.out (fun _ _ _ _ f h => LeaAt.fr0 f h)⟩) (HV2.out.2.elim fun css h => ⟨css, h.fr0 HX6.out (fun _ _ _ _ f h => LeaAt.fr0 f h)⟩) HLA.out).mono ?_
  rintro e w7 ⟨rfl, f7⟩
  have HFy := Lib.hid ((HF4.out.trans0 HX6.out).trans0 f7)
  clear f7 HX HX6 HX5 HX4 HX3 HX2 HB2 HB3 HB4 HB5 HB6 HF1 HF3 HF4
  generalize w7 = wy at *
  go_wp2_with fail
  refine (HDS.out wy HFy.out).mono ?_
  rintro e w1 ⟨v, rfl, O, f1⟩
  obtain ⟨s1, rfl, hst⟩ := O.at; have HV1 := Lib.hid hst; clear hst O
  have HF1 := Lib.hid ((HFy.out).trans0 f1)
  clear f1
  dsimp only
  go_wp2_with (first
    | (refine wpList_storeB rfl 58 _ _ rfl w1.heap.size 0 (xs.cells s1) (by rfl) (by rfl) 58 _ HB2.out (by show 0 + 8 ≤ 8; omega) (state_size xs s1) (xs.one s1) ?_; intro w3 B3 F3 S3; rw [splice_all _ _ (by rfl)] at B3; have HB3 := Lib.hid B3; have HX3 := Lib.hid (HX2.out.trans F3 (fun k hk hlt => by rw [List.mem_singleton.1 hk] at hlt; omega)); clear B3 F3 S3)
    | (refine wpList_allocZ rfl 58 rfl _ state_zero ?_; intro w2 B2 F2 S2; have HB2 := Lib.hid B2; have HX2 := Lib.hid F2; clear B2 F2 S2))
  have HF3 := Lib.hid (HF1.out.trans0 HX3.out)
  refine (HES.out w3 HF3.out).mono ?_
  rintro e w4 ⟨v4, rfl, O, f4⟩
  obtain ⟨s2, rfl, hst⟩ := O.at; have HV2 := Lib.hid hst; clear hst O
  have HF4 := Lib.hid (HF3.out.trans0 f4)
  have HX4 := Lib.hid (HX3.out.trans0 f4)
  have HB4 := Lib.hid (HB3.out.fr f4 (by simp))
  clear f4
  dsimp only
  go_wp2_with (first
    | (have z := HB6.out; clear z; refine wpList_loadB rfl 58 _ rfl w1.heap.size (by rfl) 58 _ _ (HB4.out.fr HX6.out (by simp)) Try.underlying58 rfl (state_size xs s1) ?_)
    | (have z := HB6.out; clear z; refine wpList_loadB rfl 58 _ rfl w4.heap.size (by rfl) 58 _ _ HB6.out Try.underlying58 rfl (state_size xs s2) ?_)
    | (refine wpList_storeB rfl 58 _ _ rfl w4.heap.size 0 (xs.cells s2) (by rfl) (by rfl) 58 _ HB5.out (by show 0 + 8 ≤ 8; omega) (state_size xs s2) (xs.one s2) ?_; intro w6 B6 F6 S6; rw [splice_all _ _ (by rfl)] at B6; have HB6 := Lib.hid B6; have HX6 := Lib.hid (HX5.out.trans F6 (fun k hk hlt => by rw [List.mem_singleton.1 hk] at hlt; omega)); clear B6 F6 S6)
    | (refine wpList_allocZ rfl 58 rfl _ state_zero ?_; intro w5 B5 F5 S5; have HB5 := Lib.hid B5; have HX5 := Lib.hid F5; clear B5 F5 S5))
  have HX := Lib.hid (HX4.out.trans0 HX6.out)
  refine (sameS_calls (w := w6) xs s1 s2 (HV1.out.fr0 HX.out) (HV2.out.fr0 HX6.out) HLS.out).mono ?_
  rintro e w7 ⟨rfl, f7⟩
  have HFz := Lib.hid ((HF4.out.trans0 HX6.out).trans0 f7)
  clear f7 HX HX6 HX5 HX4 HX3 HX2 HB2 HB3 HB4 HB5 HB6 HF1 HF3 HF4
  generalize w7 = wz at *
  go_wp2_with fail
  go_ret
  exact ⟨rfl, HFz.out⟩
end Go.Fur
