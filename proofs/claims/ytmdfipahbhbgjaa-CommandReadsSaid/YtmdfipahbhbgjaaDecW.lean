/- whole of answers and states, DecodeAnswer, DecodeState: contracts. -/
import Derived.Test.YtmdfipahbhbgjaaDecS2
import Derived.Test.YtmdfipahbhbgjaaCmdD
namespace Go.Fur
open Go Go.RowKit Go.Proofs
set_option linter.unusedVariables false
set_option linter.unusedSimpArgs false
def ans0 : Ans := ⟨0, 0, 0, [], []⟩
theorem AnsO.form {base : Nat} {x : Ans} {v : Value} {w : World} (h : AnsO base x v w) : ∃ cs : List Value, v = .agg cs.toArray ∧ cs.length = 5 ∧ ∀ u ∈ cs, u.oneCell' = true := by
  obtain ⟨a, c, b, d, h1, _⟩ := h
  exact ⟨_, h1, rfl, by simp [Value.oneCell', Ans.cells]⟩
theorem StaO.form {base : Nat} {x : Sta} {v : Value} {w : World} (h : StaO base x v w) : ∃ cs : List Value, v = .agg cs.toArray ∧ cs.length = 8 ∧ ∀ u ∈ cs, u.oneCell' = true := by
  obtain ⟨s, h1, _⟩ := h
  exact ⟨_, h1, rfl, by simp [Value.oneCell', Sta.cells]⟩
theorem ans0_O (base : Nat) (w : World) : AnsO base ans0 (.agg (ans0.cells none 0 none 0).toArray) w := ⟨none, 0, none, 0, rfl, Own.nil _ _ _ _, RowW.nil _⟩
theorem sta0_O (base : Nat) (w : World) : StaO base sta0 (.agg (sta0.cells staP0).toArray) w := ⟨staP0, rfl, RowW.nil _, RowW.nil _, RowW.nil _, RowW.nil _, RowW.nil _⟩
theorem answer_zero3 : ∀ w, (zeroValue 49).run Try.prog w = .ok (.agg (ans0.cells none 0 none 0).toArray) w := fun w => by kernel_rfl
theorem answer_size3 : (Try.prog.info? 49).map (·.size) = some 5 := by kernel_rfl
theorem state_size3 : (Try.prog.info? 58).map (·.size) = some 8 := by kernel_rfl
set_option maxRecDepth 100000 in
set_option maxHeartbeats 1000000 in
theorem wholeA_calls {w : World} {base : Nat} {a : Option Addr} {n c : Nat} {l : List Int} (hbase : base ≤ w.heap.size) (hs : Src l a n c) (hr : Rd w a (bv l)) :
    Calls Try.prog 51 #[.slice a n c, .func (.func 52) #[] #[]] w (DecE base AnsO (decR l ans0 (rA l (0, 0))) w) := by
  have hC : ∀ W b p, b ≤ W.heap.size → Rr W p a n c l (0, 0) → Calls Try.prog 52 #[.pointer (some ⟨p, 0, none⟩)] W (RoE b p a n c l AnsO (rA l (0, 0)).1 (rA l (0, 0)).2 W) := fun W b p hb h => ranswer_calls hb h
  generalize rA l (0, 0) = r at *
  obtain ⟨x, at1, er1⟩ := r
  have HC := Lib.hid hC
  have HR := Lib.hid hr
  have HS := Lib.hid hs
  have hln := hs.len
  clear hC hr hs
  by_cases he : er1 = 0
  · subst he
    by_cases hlt : at1 < (n : Int)
    · have e1 : decR l ans0 (x, at1, 0) = (ans0, at1, 7) := by unfold decR endR; dsimp only; rw [if_pos rfl, hln, if_pos hlt, if_neg (fun h => by cases h)]
      rw [e1]
      clear e1
      go_enter Try.func51, Try.ntmps51
      go_wp2_with (first
        | (refine wpList_allocZ rfl 49 rfl _ answer_zero3 ?_; intro w1 B1 F1 S1; have HB1 := Lib.hid B1; have HF1 := Lib.hid F1; have HS1 := Lib.hid S1; clear B1 F1 S1)
        | (refine wpList_buildV rfl 140 [(0, .tmp 9)] rfl [(0, .slice a n c)] (by rfl) _ (reader_build a n c _) ?_)
        | (refine wpList_boxB rfl 140 _ rfl [.slice a n c, .int .i64 0, .int .i64 0] (by rfl) ?_; intro w2 B2 F2 S2; have HB2 := Lib.hid B2; have HF2 := Lib.hid F2; have HS2 := Lib.hid S2; clear B2 F2 S2))
      have R2 : Rr w2 w1.heap.size a n c l (0, 0) := ⟨HB2.out, fun hne => by
        obtain ⟨b, o, ha, hlt⟩ := HR.out.lt hne
        have := HS1.out
        have := HS2.out
        obtain ⟨b', o', ha', hr'⟩ := (HR.out.fr0 (HF1.out.trans0 HF2.out)) hne
        have hbb : b' = b := by rw [ha] at ha'; injection ha' with h; injection h with h1; exact h1.symm
        subst hbb
        exact ⟨b', o', ha', by dsimp only; omega, by omega, hr'⟩, HS.out⟩
      refine (HC.out w2 w1.heap.size w1.heap.size (by have := HS1.out; have := HS2.out; omega) R2).mono ?_
      rintro e w3 ⟨v, rfl, hel, hr3, hf3⟩
      have hne : w.heap.size ≠ w1.heap.size := by have := HS1.out; omega
      obtain ⟨cs3, hv3, hl3, h13⟩ := AnsO.form hel
      subst hv3
      have HB3 := Lib.hid ((HB1.out.fr HF2.out (by simp)).fr hf3 (by simpa using hne))
      have HR3 := Lib.hid hr3
      have HO3 := Lib.hid hel
      have HF3 := Lib.hid ((HF1.out.trans0 HF2.out).trans hf3 (fun k hk hlt => by have := HS1.out; rw [List.mem_singleton.1 hk] at hlt; omega))
      clear hr3 hel hf3 R2
      go_wp2_with (first
        | (have z := HP5.out; clear z; refine wpList_allocZ rfl 49 rfl _ answer_zero3 ?_; intro w6 B6 F6 S6; have HB6 := Lib.hid B6; have HF6 := Lib.hid F6; have HS6 := Lib.hid S6; have HP6 := Lib.hid (HP5.out.fr F6 (by simp)); clear B6 F6 S6)
        | (refine wpList_store1 rfl 38 _ _ rfl w1.heap.size 2 (.int .i64 7) (by rfl) (by rfl) rfl 140 _ HP4.out (by simp) (by kernel_rfl) rfl ?_; intro w5 B5 F5 S5; have HP5 := Lib.hid B5; have HF5 := Lib.hid F5; have HS5 := Lib.hid S5; have HB5 := Lib.hid (HB4.out.fr F5 (by simpa using hne)); have c2 : w5.cell? ⟨w1.heap.size, 2, none⟩ = some (.int .i64 7) := B5.cellAt rfl; clear B5 F5 S5)
        | (refine wpList_storeB rfl 49 _ _ rfl w.heap.size 0 cs3 (by rfl) (by rfl) 49 _ HB3.out (by rw [hl3]; show 0 + 5 ≤ 5; omega) (by rw [hl3]; exact answer_size3) h13 ?_; intro w4 B4 F4 S4; rw [splice_all _ _ (by rw [hl3]; rfl)] at B4; have hp4 := HR3.out.hp.fr F4 (by simpa using hne.symm); have c1 : w4.cell? ⟨w1.heap.size, 1, none⟩ = some (.int .i64 at1) := hp4.cellAt rfl; have c2 : w4.cell? ⟨w1.heap.size, 2, none⟩ = some (.int .i64 0) := hp4.cellAt rfl; have hpl := hp4.lt; have HP4 := Lib.hid hp4; clear hp4; have HB4 := Lib.hid B4; have HF4 := Lib.hid F4; have HS4 := Lib.hid S4; clear B4 F4 S4))
      refine wp_region_ord (Fr [w.heap.size] w6) [0, 1, 2, 3, 4, 5, 6, 7, 8, 9, 10, 11] [] [9] [0, 4, 8] mixed (by kernel_rfl) ?_
      have hS : Fr [w.heap.size] w6 w6.drew := (Fr.refl _ _).drew
      have d1 : ∀ W, Fr [w.heap.size] w6 W → W.cell? ⟨w1.heap.size, 1, none⟩ = some (.int .i64 at1) := fun W f => (HP6.out.fr f (by simpa using hne.symm)).cellAt rfl
      have d2 : ∀ W, Fr [w.heap.size] w6 W → W.cell? ⟨w1.heap.size, 2, none⟩ = some (.int .i64 7) := fun W f => (HP6.out.fr f (by simpa using hne.symm)).cellAt rfl
      simp only [pairs, pickN]
      refine wpO_take (.agg (ans0.cells none 0 none 0).toArray) hS (by rfl) (by rfl) (fun w' hw' => run_loadB 49 _ rfl w5.heap.size (by rfl) 49 _ _ (HB6.out.fr hw' (by have := HB5.out.lt; simp; omega)) Try.underlying49 rfl answer_size3) ?_
      simp only [Act.put, List.setIfInBounds_toArray, List.set_cons_zero, List.set_cons_succ]
      repeat (first | (refine wpO_free ?_ (by rfl) (by rfl) (fun w' => ?_) ?_; rotate_left; (go_simp; rfl); simp only [Act.put, List.setIfInBounds_toArray, List.set_cons_zero, List.set_cons_succ]) | (refine wpO_take ?_ hS (by rfl) (by rfl) (fun w' hw' => ?_) ?_; rotate_left; (go_simp; rfl); simp only [Act.put, List.setIfInBounds_toArray, List.set_cons_zero, List.set_cons_succ]) | (refine wpO_pass (by rfl) ?_; simp only [Act.put, List.setIfInBounds_toArray, List.set_cons_zero, List.set_cons_succ]))
      refine wpO_eff (by rfl) ?_
      refine wpList_storeB rfl 49 _ _ rfl w.heap.size 0 (ans0.cells none 0 none 0) (by rfl) (by rfl) 49 _ (Blk.drew (HB5.out.fr HF6.out (by simp))) (by rw [hl3]; show 0 + 5 ≤ 5; omega) answer_size3 (by simp [Value.oneCell', Ans.cells, Sta.cells]) ?_
      intro w7 B7 F7 S7
      rw [splice_all _ _ (by rw [hl3]; rfl)] at B7
      refine effQ_keep (hS.trans1 F7) ?_
      simp only [Act.put, List.setIfInBounds_toArray, List.set_cons_zero, List.set_cons_succ]
      repeat (first | (refine wpO_free ?_ (by rfl) (by rfl) (fun w' => ?_) ?_; rotate_left; (go_simp; rfl); simp only [Act.put, List.setIfInBounds_toArray, List.set_cons_zero, List.set_cons_succ]) | (refine wpO_pass (by rfl) ?_; simp only [Act.put, List.setIfInBounds_toArray, List.set_cons_zero, List.set_cons_succ]))
      refine wpO_nil ?_
      have HB7 := Lib.hid B7
      have HF7 := Lib.hid (hS.trans1 F7)
      clear d1 d2 hS B7 F7 S7
      go_wp2_with fail
      refine bodyPost_ret (results_cellB_tmp2 rfl _ _ w.heap.size 49 _ _ (by rfl) HB7.out Try.underlying49 rfl answer_size3) rfl ⟨_, by rfl, ans0_O _ _, ?_⟩
      exact (((HF3.out.trans HF4.out (fun k hk hlt => by rw [List.mem_singleton.1 hk] at hlt; omega)).trans HF5.out (fun k hk hlt => by have := HS1.out; rw [List.mem_singleton.1 hk] at hlt; omega)).trans0 HF6.out).trans HF7.out (fun k hk hlt => by rw [List.mem_singleton.1 hk] at hlt; omega)
    · have e1 : decR l ans0 (x, at1, 0) = (x, 0, 0) := by unfold decR endR; dsimp only; rw [if_pos rfl, hln, if_neg hlt, if_pos rfl]
      rw [e1]
      clear e1
      go_enter Try.func51, Try.ntmps51
      go_wp2_with (first
        | (refine wpList_allocZ rfl 49 rfl _ answer_zero3 ?_; intro w1 B1 F1 S1; have HB1 := Lib.hid B1; have HF1 := Lib.hid F1; have HS1 := Lib.hid S1; clear B1 F1 S1)
        | (refine wpList_buildV rfl 140 [(0, .tmp 9)] rfl [(0, .slice a n c)] (by rfl) _ (reader_build a n c _) ?_)
        | (refine wpList_boxB rfl 140 _ rfl [.slice a n c, .int .i64 0, .int .i64 0] (by rfl) ?_; intro w2 B2 F2 S2; have HB2 := Lib.hid B2; have HF2 := Lib.hid F2; have HS2 := Lib.hid S2; clear B2 F2 S2))
      have R2 : Rr w2 w1.heap.size a n c l (0, 0) := ⟨HB2.out, fun hne => by
        obtain ⟨b, o, ha, hlt⟩ := HR.out.lt hne
        have := HS1.out
        have := HS2.out
        obtain ⟨b', o', ha', hr'⟩ := (HR.out.fr0 (HF1.out.trans0 HF2.out)) hne
        have hbb : b' = b := by rw [ha] at ha'; injection ha' with h; injection h with h1; exact h1.symm
        subst hbb
        exact ⟨b', o', ha', by dsimp only; omega, by omega, hr'⟩, HS.out⟩
      refine (HC.out w2 w1.heap.size w1.heap.size (by have := HS1.out; have := HS2.out; omega) R2).mono ?_
      rintro e w3 ⟨v, rfl, hel, hr3, hf3⟩
      have hne : w.heap.size ≠ w1.heap.size := by have := HS1.out; omega
      obtain ⟨cs3, hv3, hl3, h13⟩ := AnsO.form hel
      subst hv3
      have HB3 := Lib.hid ((HB1.out.fr HF2.out (by simp)).fr hf3 (by simpa using hne))
      have HR3 := Lib.hid hr3
      have HO3 := Lib.hid hel
      have HF3 := Lib.hid ((HF1.out.trans0 HF2.out).trans hf3 (fun k hk hlt => by have := HS1.out; rw [List.mem_singleton.1 hk] at hlt; omega))
      clear hr3 hel hf3 R2
      go_wp2_with (first
        | (refine wpList_loadB rfl 49 _ rfl w.heap.size (by rfl) 49 _ _ HB4.out Try.underlying49 rfl (by rw [hl3]; exact answer_size3) ?_)
        | (refine wpList_storeB rfl 49 _ _ rfl w.heap.size 0 cs3 (by rfl) (by rfl) 49 _ HB4.out (by rw [hl3]; show 0 + 5 ≤ 5; omega) (by rw [hl3]; exact answer_size3) h13 ?_; intro w5 B5 F5 S5; rw [splice_all _ _ (by rfl)] at B5; have HB5 := Lib.hid B5; have HF5 := Lib.hid F5; clear B5 F5 S5)
        | (refine wpList_storeB rfl 49 _ _ rfl w.heap.size 0 cs3 (by rfl) (by rfl) 49 _ HB3.out (by rw [hl3]; show 0 + 5 ≤ 5; omega) (by rw [hl3]; exact answer_size3) h13 ?_; intro w4 B4 F4 S4; rw [splice_all _ _ (by rw [hl3]; rfl)] at B4; have hp4 := HR3.out.hp.fr F4 (by simpa using hne.symm); have c1 : w4.cell? ⟨w1.heap.size, 1, none⟩ = some (.int .i64 at1) := hp4.cellAt rfl; have c2 : w4.cell? ⟨w1.heap.size, 2, none⟩ = some (.int .i64 0) := hp4.cellAt rfl; have hpl := hp4.lt; have HP4 := Lib.hid hp4; clear hp4; have HB4 := Lib.hid B4; have HF4 := Lib.hid F4; have HS4 := Lib.hid S4; clear B4 F4 S4))
      have hsb : ∀ g ∈ [w.heap.size], g < w1.heap.size := fun g hg => by rw [List.mem_singleton.1 hg]; have := HS1.out; omega
      refine bodyPost_ret (results_cellB_tmp2 rfl _ _ w.heap.size 49 _ _ (by rfl) HB5.out Try.underlying49 rfl (by rw [hl3]; exact answer_size3)) rfl ⟨_, by rfl, AnsO.base (by have := HS1.out; omega) (AnsO.ltB (AnsO.ltB HO3.out hsb HF4.out) hsb HF5.out), ?_⟩
      exact (HF3.out.trans HF4.out (fun k hk hlt => by rw [List.mem_singleton.1 hk] at hlt; omega)).trans HF5.out (fun k hk hlt => by rw [List.mem_singleton.1 hk] at hlt; omega)
  · have e1 : decR l ans0 (x, at1, er1) = (ans0, at1, er1) := by unfold decR endR; dsimp only; rw [if_neg he, if_neg he]
    rw [e1]
    clear e1
    have hb1 : (er1 != 0) = true := by simpa using he
    have hb2 : (er1 == 0) = false := by simpa using he
    clear he
    go_enter Try.func51, Try.ntmps51
    go_wp2_with (first
      | (refine wpList_allocZ rfl 49 rfl _ answer_zero3 ?_; intro w1 B1 F1 S1; have HB1 := Lib.hid B1; have HF1 := Lib.hid F1; have HS1 := Lib.hid S1; clear B1 F1 S1)
      | (refine wpList_buildV rfl 140 [(0, .tmp 9)] rfl [(0, .slice a n c)] (by rfl) _ (reader_build a n c _) ?_)
      | (refine wpList_boxB rfl 140 _ rfl [.slice a n c, .int .i64 0, .int .i64 0] (by rfl) ?_; intro w2 B2 F2 S2; have HB2 := Lib.hid B2; have HF2 := Lib.hid F2; have HS2 := Lib.hid S2; clear B2 F2 S2))
    have R2 : Rr w2 w1.heap.size a n c l (0, 0) := ⟨HB2.out, fun hne => by
      obtain ⟨b, o, ha, hlt⟩ := HR.out.lt hne
      have := HS1.out
      have := HS2.out
      obtain ⟨b', o', ha', hr'⟩ := (HR.out.fr0 (HF1.out.trans0 HF2.out)) hne
      have hbb : b' = b := by rw [ha] at ha'; injection ha' with h; injection h with h1; exact h1.symm
      subst hbb
      exact ⟨b', o', ha', by dsimp only; omega, by omega, hr'⟩, HS.out⟩
    refine (HC.out w2 w1.heap.size w1.heap.size (by have := HS1.out; have := HS2.out; omega) R2).mono ?_
    rintro e w3 ⟨v, rfl, hel, hr3, hf3⟩
    have hne : w.heap.size ≠ w1.heap.size := by have := HS1.out; omega
    obtain ⟨cs3, hv3, hl3, h13⟩ := AnsO.form hel
    subst hv3
    have HB3 := Lib.hid ((HB1.out.fr HF2.out (by simp)).fr hf3 (by simpa using hne))
    have HR3 := Lib.hid hr3
    have HO3 := Lib.hid hel
    have HF3 := Lib.hid ((HF1.out.trans0 HF2.out).trans hf3 (fun k hk hlt => by have := HS1.out; rw [List.mem_singleton.1 hk] at hlt; omega))
    clear hr3 hel hf3 R2
    go_wp2_with (first
      | (have z := HP4.out; clear z; refine wpList_allocZ rfl 49 rfl _ answer_zero3 ?_; intro w6 B6 F6 S6; have HB6 := Lib.hid B6; have HF6 := Lib.hid F6; have HS6 := Lib.hid S6; have HP6 := Lib.hid (HP4.out.fr F6 (by simp)); have HB5 := Lib.hid (HB4.out); clear B6 F6 S6)
      | (refine wpList_storeB rfl 49 _ _ rfl w.heap.size 0 cs3 (by rfl) (by rfl) 49 _ HB3.out (by rw [hl3]; show 0 + 5 ≤ 5; omega) (by rw [hl3]; exact answer_size3) h13 ?_; intro w4 B4 F4 S4; rw [splice_all _ _ (by rw [hl3]; rfl)] at B4; have hp4 := HR3.out.hp.fr F4 (by simpa using hne.symm); have c1 : w4.cell? ⟨w1.heap.size, 1, none⟩ = some (.int .i64 at1) := hp4.cellAt rfl; have c2 : w4.cell? ⟨w1.heap.size, 2, none⟩ = some (.int .i64 er1) := hp4.cellAt rfl; have hpl := hp4.lt; have HP4 := Lib.hid hp4; clear hp4; have HB4 := Lib.hid B4; have HF4 := Lib.hid F4; have HS4 := Lib.hid S4; clear B4 F4 S4))
    refine wp_region_ord (Fr [w.heap.size] w6) [0, 1, 2, 3, 4, 5, 6, 7, 8, 9, 10, 11] [] [9] [0, 4, 8] mixed (by kernel_rfl) ?_
    have hS : Fr [w.heap.size] w6 w6.drew := (Fr.refl _ _).drew
    have d1 : ∀ W, Fr [w.heap.size] w6 W → W.cell? ⟨w1.heap.size, 1, none⟩ = some (.int .i64 at1) := fun W f => (HP6.out.fr f (by simpa using hne.symm)).cellAt rfl
    have d2 : ∀ W, Fr [w.heap.size] w6 W → W.cell? ⟨w1.heap.size, 2, none⟩ = some (.int .i64 er1) := fun W f => (HP6.out.fr f (by simpa using hne.symm)).cellAt rfl
    simp only [pairs, pickN]
    refine wpO_take (.agg (ans0.cells none 0 none 0).toArray) hS (by rfl) (by rfl) (fun w' hw' => run_loadB 49 _ rfl w4.heap.size (by rfl) 49 _ _ (HB6.out.fr hw' (by have := HB5.out.lt; simp; omega)) Try.underlying49 rfl answer_size3) ?_
    simp only [Act.put, List.setIfInBounds_toArray, List.set_cons_zero, List.set_cons_succ]
    repeat (first | (refine wpO_free ?_ (by rfl) (by rfl) (fun w' => ?_) ?_; rotate_left; (go_simp; rfl); simp only [Act.put, List.setIfInBounds_toArray, List.set_cons_zero, List.set_cons_succ]) | (refine wpO_take ?_ hS (by rfl) (by rfl) (fun w' hw' => ?_) ?_; rotate_left; (go_simp; rfl); simp only [Act.put, List.setIfInBounds_toArray, List.set_cons_zero, List.set_cons_succ]) | (refine wpO_pass (by rfl) ?_; simp only [Act.put, List.setIfInBounds_toArray, List.set_cons_zero, List.set_cons_succ]))
    refine wpO_eff (by rfl) ?_
    refine wpList_storeB rfl 49 _ _ rfl w.heap.size 0 (ans0.cells none 0 none 0) (by rfl) (by rfl) 49 _ (Blk.drew (HB5.out.fr HF6.out (by simp))) (by rw [hl3]; show 0 + 5 ≤ 5; omega) answer_size3 (by simp [Value.oneCell', Ans.cells, Sta.cells]) ?_
    intro w7 B7 F7 S7
    rw [splice_all _ _ (by rw [hl3]; rfl)] at B7
    refine effQ_keep (hS.trans1 F7) ?_
    simp only [Act.put, List.setIfInBounds_toArray, List.set_cons_zero, List.set_cons_succ]
    repeat (first | (refine wpO_free ?_ (by rfl) (by rfl) (fun w' => ?_) ?_; rotate_left; (go_simp; rfl); simp only [Act.put, List.setIfInBounds_toArray, List.set_cons_zero, List.set_cons_succ]) | (refine wpO_pass (by rfl) ?_; simp only [Act.put, List.setIfInBounds_toArray, List.set_cons_zero, List.set_cons_succ]))
    refine wpO_nil ?_
    have HB7 := Lib.hid B7
    have HF7 := Lib.hid (hS.trans1 F7)
    clear d1 d2 hS B7 F7 S7
    go_wp2_with fail
    refine bodyPost_ret (results_cellB_tmp2 rfl _ _ w.heap.size 49 _ _ (by rfl) HB7.out Try.underlying49 rfl answer_size3) rfl ⟨_, by rfl, ans0_O _ _, ?_⟩
    exact (((HF3.out.trans HF4.out (fun k hk hlt => by rw [List.mem_singleton.1 hk] at hlt; omega))).trans0 HF6.out).trans HF7.out (fun k hk hlt => by rw [List.mem_singleton.1 hk] at hlt; omega)
set_option maxRecDepth 100000 in
set_option maxHeartbeats 1000000 in
theorem decodeA_calls {w : World} {base : Nat} {a : Option Addr} {n c : Nat} {l : List Int} (hbase : base ≤ w.heap.size) (hs : Src l a n c) (hr : Rd w a (bv l)) :
    Calls Try.prog 18 #[.slice a n c] w (DecE base AnsO (decR l ans0 (rA l (0, 0))) w) := by
  have hC : ∀ W, Fr [] w W → Calls Try.prog 51 #[.slice a n c, .func (.func 52) #[] #[]] W (DecE W.heap.size AnsO (decR l ans0 (rA l (0, 0))) W) := fun W f => wholeA_calls (Nat.le_refl _) hs (hr.fr0 f)
  generalize decR l ans0 (rA l (0, 0)) = r at *
  obtain ⟨x, at1, er1⟩ := r
  have HC := Lib.hid hC
  clear hC hr hs
  go_enter Try.func18, Try.ntmps18
  go_wp2_with (refine wpList_allocZ rfl 49 rfl _ answer_zero3 ?_; intro w1 B1 F1 S1; have HB1 := Lib.hid B1; have HF1 := Lib.hid F1; have HS1 := Lib.hid S1; clear B1 F1 S1)
  refine (HC.out w1 HF1.out).mono ?_
  rintro e w3 ⟨v, rfl, hel, hf3⟩
  obtain ⟨cs3, hv3, hl3, h13⟩ := AnsO.form hel
  subst hv3
  have HB3 := Lib.hid (HB1.out.fr hf3 (by simp))
  have HO3 := Lib.hid hel
  have HF3 := Lib.hid (HF1.out.trans0 hf3)
  clear hel hf3
  dsimp only
  go_wp2_with (refine wpList_storeB rfl 49 _ _ rfl w.heap.size 0 cs3 (by rfl) (by rfl) 49 _ HB3.out (by rw [hl3]; show 0 + 5 ≤ 5; omega) (by rw [hl3]; exact answer_size3) h13 ?_; intro w4 B4 F4 S4; rw [splice_all _ _ (by rw [hl3]; rfl)] at B4; have HB4 := Lib.hid B4; have HF4 := Lib.hid F4; clear B4 F4 S4)
  have hsb : ∀ g ∈ [w.heap.size], g < w1.heap.size := fun g hg => by rw [List.mem_singleton.1 hg]; have := HS1.out; omega
  refine bodyPost_ret (results_cellB_tmp2 rfl _ _ w.heap.size 49 _ _ (by rfl) HB4.out Try.underlying49 rfl (by rw [hl3]; exact answer_size3)) rfl ⟨_, by rfl, AnsO.base (by have := HS1.out; omega) (AnsO.ltB HO3.out hsb HF4.out), ?_⟩
  exact HF3.out.trans HF4.out (fun k hk hlt => by rw [List.mem_singleton.1 hk] at hlt; omega)
set_option maxRecDepth 100000 in
set_option maxHeartbeats 1000000 in
theorem wholeS_calls {w : World} {base : Nat} {a : Option Addr} {n c : Nat} {l : List Int} (hbase : base ≤ w.heap.size) (hs : Src l a n c) (hr : Rd w a (bv l)) :
    Calls Try.prog 57 #[.slice a n c, .func (.func 58) #[] #[]] w (DecE base StaO (decR l sta0 (rS l (0, 0))) w) := by
  have hC : ∀ W b p, b ≤ W.heap.size → Rr W p a n c l (0, 0) → Calls Try.prog 58 #[.pointer (some ⟨p, 0, none⟩)] W (RoE b p a n c l StaO (rS l (0, 0)).1 (rS l (0, 0)).2 W) := fun W b p hb h => rstate_calls hb h
  generalize rS l (0, 0) = r at *
  obtain ⟨x, at1, er1⟩ := r
  have HC := Lib.hid hC
  have HR := Lib.hid hr
  have HS := Lib.hid hs
  have hln := hs.len
  clear hC hr hs
  by_cases he : er1 = 0
  · subst he
    by_cases hlt : at1 < (n : Int)
    · have e1 : decR l sta0 (x, at1, 0) = (sta0, at1, 7) := by unfold decR endR; dsimp only; rw [if_pos rfl, hln, if_pos hlt, if_neg (fun h => by cases h)]
      rw [e1]
      clear e1
      go_enter Try.func57, Try.ntmps57
      go_wp2_with (first
        | (refine wpList_allocZ rfl 58 rfl _ state_zero ?_; intro w1 B1 F1 S1; have HB1 := Lib.hid B1; have HF1 := Lib.hid F1; have HS1 := Lib.hid S1; clear B1 F1 S1)
        | (refine wpList_buildV rfl 140 [(0, .tmp 9)] rfl [(0, .slice a n c)] (by rfl) _ (reader_build a n c _) ?_)
        | (refine wpList_boxB rfl 140 _ rfl [.slice a n c, .int .i64 0, .int .i64 0] (by rfl) ?_; intro w2 B2 F2 S2; have HB2 := Lib.hid B2; have HF2 := Lib.hid F2; have HS2 := Lib.hid S2; clear B2 F2 S2))
      have R2 : Rr w2 w1.heap.size a n c l (0, 0) := ⟨HB2.out, fun hne => by
        obtain ⟨b, o, ha, hlt⟩ := HR.out.lt hne
        have := HS1.out
        have := HS2.out
        obtain ⟨b', o', ha', hr'⟩ := (HR.out.fr0 (HF1.out.trans0 HF2.out)) hne
        have hbb : b' = b := by rw [ha] at ha'; injection ha' with h; injection h with h1; exact h1.symm
        subst hbb
        exact ⟨b', o', ha', by dsimp only; omega, by omega, hr'⟩, HS.out⟩
      refine (HC.out w2 w1.heap.size w1.heap.size (by have := HS1.out; have := HS2.out; omega) R2).mono ?_
      rintro e w3 ⟨v, rfl, hel, hr3, hf3⟩
      have hne : w.heap.size ≠ w1.heap.size := by have := HS1.out; omega
      obtain ⟨cs3, hv3, hl3, h13⟩ := StaO.form hel
      subst hv3
      have HB3 := Lib.hid ((HB1.out.fr HF2.out (by simp)).fr hf3 (by simpa using hne))
      have HR3 := Lib.hid hr3
      have HO3 := Lib.hid hel
      have HF3 := Lib.hid ((HF1.out.trans0 HF2.out).trans hf3 (fun k hk hlt => by have := HS1.out; rw [List.mem_singleton.1 hk] at hlt; omega))
      clear hr3 hel hf3 R2
      go_wp2_with (first
        | (have z := HP5.out; clear z; refine wpList_allocZ rfl 58 rfl _ state_zero ?_; intro w6 B6 F6 S6; have HB6 := Lib.hid B6; have HF6 := Lib.hid F6; have HS6 := Lib.hid S6; have HP6 := Lib.hid (HP5.out.fr F6 (by simp)); clear B6 F6 S6)
        | (refine wpList_store1 rfl 38 _ _ rfl w1.heap.size 2 (.int .i64 7) (by rfl) (by rfl) rfl 140 _ HP4.out (by simp) (by kernel_rfl) rfl ?_; intro w5 B5 F5 S5; have HP5 := Lib.hid B5; have HF5 := Lib.hid F5; have HS5 := Lib.hid S5; have HB5 := Lib.hid (HB4.out.fr F5 (by simpa using hne)); have c2 : w5.cell? ⟨w1.heap.size, 2, none⟩ = some (.int .i64 7) := B5.cellAt rfl; clear B5 F5 S5)
        | (refine wpList_storeB rfl 58 _ _ rfl w.heap.size 0 cs3 (by rfl) (by rfl) 58 _ HB3.out (by rw [hl3]; show 0 + 8 ≤ 8; omega) (by rw [hl3]; exact state_size3) h13 ?_; intro w4 B4 F4 S4; rw [splice_all _ _ (by rw [hl3]; rfl)] at B4; have hp4 := HR3.out.hp.fr F4 (by simpa using hne.symm); have c1 : w4.cell? ⟨w1.heap.size, 1, none⟩ = some (.int .i64 at1) := hp4.cellAt rfl; have c2 : w4.cell? ⟨w1.heap.size, 2, none⟩ = some (.int .i64 0) := hp4.cellAt rfl; have hpl := hp4.lt; have HP4 := Lib.hid hp4; clear hp4; have HB4 := Lib.hid B4; have HF4 := Lib.hid F4; have HS4 := Lib.hid S4; clear B4 F4 S4))
      refine wp_region_ord (Fr [w.heap.size] w6) [0, 1, 2, 3, 4, 5, 6, 7, 8, 9, 10, 11] [] [9] [0, 4, 8] mixed (by kernel_rfl) ?_
      have hS : Fr [w.heap.size] w6 w6.drew := (Fr.refl _ _).drew
      have d1 : ∀ W, Fr [w.heap.size] w6 W → W.cell? ⟨w1.heap.size, 1, none⟩ = some (.int .i64 at1) := fun W f => (HP6.out.fr f (by simpa using hne.symm)).cellAt rfl
      have d2 : ∀ W, Fr [w.heap.size] w6 W → W.cell? ⟨w1.heap.size, 2, none⟩ = some (.int .i64 7) := fun W f => (HP6.out.fr f (by simpa using hne.symm)).cellAt rfl
      simp only [pairs, pickN]
      refine wpO_take (.agg (sta0.cells staP0).toArray) hS (by rfl) (by rfl) (fun w' hw' => run_loadB 58 _ rfl w5.heap.size (by rfl) 58 _ _ (HB6.out.fr hw' (by have := HB5.out.lt; simp; omega)) Try.underlying58 rfl state_size3) ?_
      simp only [Act.put, List.setIfInBounds_toArray, List.set_cons_zero, List.set_cons_succ]
      repeat (first | (refine wpO_free ?_ (by rfl) (by rfl) (fun w' => ?_) ?_; rotate_left; (go_simp; rfl); simp only [Act.put, List.setIfInBounds_toArray, List.set_cons_zero, List.set_cons_succ]) | (refine wpO_take ?_ hS (by rfl) (by rfl) (fun w' hw' => ?_) ?_; rotate_left; (go_simp; rfl); simp only [Act.put, List.setIfInBounds_toArray, List.set_cons_zero, List.set_cons_succ]) | (refine wpO_pass (by rfl) ?_; simp only [Act.put, List.setIfInBounds_toArray, List.set_cons_zero, List.set_cons_succ]))
      refine wpO_eff (by rfl) ?_
      refine wpList_storeB rfl 58 _ _ rfl w.heap.size 0 (sta0.cells staP0) (by rfl) (by rfl) 58 _ (Blk.drew (HB5.out.fr HF6.out (by simp))) (by rw [hl3]; show 0 + 8 ≤ 8; omega) state_size3 (by simp [Value.oneCell', Ans.cells, Sta.cells]) ?_
      intro w7 B7 F7 S7
      rw [splice_all _ _ (by rw [hl3]; rfl)] at B7
      refine effQ_keep (hS.trans1 F7) ?_
      simp only [Act.put, List.setIfInBounds_toArray, List.set_cons_zero, List.set_cons_succ]
      repeat (first | (refine wpO_free ?_ (by rfl) (by rfl) (fun w' => ?_) ?_; rotate_left; (go_simp; rfl); simp only [Act.put, List.setIfInBounds_toArray, List.set_cons_zero, List.set_cons_succ]) | (refine wpO_pass (by rfl) ?_; simp only [Act.put, List.setIfInBounds_toArray, List.set_cons_zero, List.set_cons_succ]))
      refine wpO_nil ?_
      have HB7 := Lib.hid B7
      have HF7 := Lib.hid (hS.trans1 F7)
      clear d1 d2 hS B7 F7 S7
      go_wp2_with fail
      refine bodyPost_ret (results_cellB_tmp2 rfl _ _ w.heap.size 58 _ _ (by rfl) HB7.out Try.underlying58 rfl state_size3) rfl ⟨_, by rfl, sta0_O _ _, ?_⟩
      exact (((HF3.out.trans HF4.out (fun k hk hlt => by rw [List.mem_singleton.1 hk] at hlt; omega)).trans HF5.out (fun k hk hlt => by have := HS1.out; rw [List.mem_singleton.1 hk] at hlt; omega)).trans0 HF6.out).trans HF7.out (fun k hk hlt => by rw [List.mem_singleton.1 hk] at hlt; omega)
    · have e1 : decR l sta0 (x, at1, 0) = (x, 0, 0) := by unfold decR endR; dsimp only; rw [if_pos rfl, hln, if_neg hlt, if_pos rfl]
      rw [e1]
      clear e1
      go_enter Try.func57, Try.ntmps57
      go_wp2_with (first
        | (refine wpList_allocZ rfl 58 rfl _ state_zero ?_; intro w1 B1 F1 S1; have HB1 := Lib.hid B1; have HF1 := Lib.hid F1; have HS1 := Lib.hid S1; clear B1 F1 S1)
        | (refine wpList_buildV rfl 140 [(0, .tmp 9)] rfl [(0, .slice a n c)] (by rfl) _ (reader_build a n c _) ?_)
        | (refine wpList_boxB rfl 140 _ rfl [.slice a n c, .int .i64 0, .int .i64 0] (by rfl) ?_; intro w2 B2 F2 S2; have HB2 := Lib.hid B2; have HF2 := Lib.hid F2; have HS2 := Lib.hid S2; clear B2 F2 S2))
      have R2 : Rr w2 w1.heap.size a n c l (0, 0) := ⟨HB2.out, fun hne => by
        obtain ⟨b, o, ha, hlt⟩ := HR.out.lt hne
        have := HS1.out
        have := HS2.out
        obtain ⟨b', o', ha', hr'⟩ := (HR.out.fr0 (HF1.out.trans0 HF2.out)) hne
        have hbb : b' = b := by rw [ha] at ha'; injection ha' with h; injection h with h1; exact h1.symm
        subst hbb
        exact ⟨b', o', ha', by dsimp only; omega, by omega, hr'⟩, HS.out⟩
      refine (HC.out w2 w1.heap.size w1.heap.size (by have := HS1.out; have := HS2.out; omega) R2).mono ?_
      rintro e w3 ⟨v, rfl, hel, hr3, hf3⟩
      have hne : w.heap.size ≠ w1.heap.size := by have := HS1.out; omega
      obtain ⟨cs3, hv3, hl3, h13⟩ := StaO.form hel
      subst hv3
      have HB3 := Lib.hid ((HB1.out.fr HF2.out (by simp)).fr hf3 (by simpa using hne))
      have HR3 := Lib.hid hr3
      have HO3 := Lib.hid hel
      have HF3 := Lib.hid ((HF1.out.trans0 HF2.out).trans hf3 (fun k hk hlt => by have := HS1.out; rw [List.mem_singleton.1 hk] at hlt; omega))
      clear hr3 hel hf3 R2
      go_wp2_with (first
        | (refine wpList_loadB rfl 58 _ rfl w.heap.size (by rfl) 58 _ _ HB4.out Try.underlying58 rfl (by rw [hl3]; exact state_size3) ?_)
        | (refine wpList_storeB rfl 58 _ _ rfl w.heap.size 0 cs3 (by rfl) (by rfl) 58 _ HB4.out (by rw [hl3]; show 0 + 8 ≤ 8; omega) (by rw [hl3]; exact state_size3) h13 ?_; intro w5 B5 F5 S5; rw [splice_all _ _ (by rfl)] at B5; have HB5 := Lib.hid B5; have HF5 := Lib.hid F5; clear B5 F5 S5)
        | (refine wpList_storeB rfl 58 _ _ rfl w.heap.size 0 cs3 (by rfl) (by rfl) 58 _ HB3.out (by rw [hl3]; show 0 + 8 ≤ 8; omega) (by rw [hl3]; exact state_size3) h13 ?_; intro w4 B4 F4 S4; rw [splice_all _ _ (by rw [hl3]; rfl)] at B4; have hp4 := HR3.out.hp.fr F4 (by simpa using hne.symm); have c1 : w4.cell? ⟨w1.heap.size, 1, none⟩ = some (.int .i64 at1) := hp4.cellAt rfl; have c2 : w4.cell? ⟨w1.heap.size, 2, none⟩ = some (.int .i64 0) := hp4.cellAt rfl; have hpl := hp4.lt; have HP4 := Lib.hid hp4; clear hp4; have HB4 := Lib.hid B4; have HF4 := Lib.hid F4; have HS4 := Lib.hid S4; clear B4 F4 S4))
      have hsb : ∀ g ∈ [w.heap.size], g < w1.heap.size := fun g hg => by rw [List.mem_singleton.1 hg]; have := HS1.out; omega
      refine bodyPost_ret (results_cellB_tmp2 rfl _ _ w.heap.size 58 _ _ (by rfl) HB5.out Try.underlying58 rfl (by rw [hl3]; exact state_size3)) rfl ⟨_, by rfl, StaO.base (by have := HS1.out; omega) (StaO.ltB (StaO.ltB HO3.out hsb HF4.out) hsb HF5.out), ?_⟩
      exact (HF3.out.trans HF4.out (fun k hk hlt => by rw [List.mem_singleton.1 hk] at hlt; omega)).trans HF5.out (fun k hk hlt => by rw [List.mem_singleton.1 hk] at hlt; omega)
  · have e1 : decR l sta0 (x, at1, er1) = (sta0, at1, er1) := by unfold decR endR; dsimp only; rw [if_neg he, if_neg he]
    rw [e1]
    clear e1
    have hb1 : (er1 != 0) = true := by simpa using he
    have hb2 : (er1 == 0) = false := by simpa using he
    clear he
    go_enter Try.func57, Try.ntmps57
    go_wp2_with (first
      | (refine wpList_allocZ rfl 58 rfl _ state_zero ?_; intro w1 B1 F1 S1; have HB1 := Lib.hid B1; have HF1 := Lib.hid F1; have HS1 := Lib.hid S1; clear B1 F1 S1)
      | (refine wpList_buildV rfl 140 [(0, .tmp 9)] rfl [(0, .slice a n c)] (by rfl) _ (reader_build a n c _) ?_)
      | (refine wpList_boxB rfl 140 _ rfl [.slice a n c, .int .i64 0, .int .i64 0] (by rfl) ?_; intro w2 B2 F2 S2; have HB2 := Lib.hid B2; have HF2 := Lib.hid F2; have HS2 := Lib.hid S2; clear B2 F2 S2))
    have R2 : Rr w2 w1.heap.size a n c l (0, 0) := ⟨HB2.out, fun hne => by
      obtain ⟨b, o, ha, hlt⟩ := HR.out.lt hne
      have := HS1.out
      have := HS2.out
      obtain ⟨b', o', ha', hr'⟩ := (HR.out.fr0 (HF1.out.trans0 HF2.out)) hne
      have hbb : b' = b := by rw [ha] at ha'; injection ha' with h; injection h with h1; exact h1.symm
      subst hbb
      exact ⟨b', o', ha', by dsimp only; omega, by omega, hr'⟩, HS.out⟩
    refine (HC.out w2 w1.heap.size w1.heap.size (by have := HS1.out; have := HS2.out; omega) R2).mono ?_
    rintro e w3 ⟨v, rfl, hel, hr3, hf3⟩
    have hne : w.heap.size ≠ w1.heap.size := by have := HS1.out; omega
    obtain ⟨cs3, hv3, hl3, h13⟩ := StaO.form hel
    subst hv3
    have HB3 := Lib.hid ((HB1.out.fr HF2.out (by simp)).fr hf3 (by simpa using hne))
    have HR3 := Lib.hid hr3
    have HO3 := Lib.hid hel
    have HF3 := Lib.hid ((HF1.out.trans0 HF2.out).trans hf3 (fun k hk hlt => by have := HS1.out; rw [List.mem_singleton.1 hk] at hlt; omega))
    clear hr3 hel hf3 R2
    go_wp2_with (first
      | (have z := HP4.out; clear z; refine wpList_allocZ rfl 58 rfl _ state_zero ?_; intro w6 B6 F6 S6; have HB6 := Lib.hid B6; have HF6 := Lib.hid F6; have HS6 := Lib.hid S6; have HP6 := Lib.hid (HP4.out.fr F6 (by simp)); have HB5 := Lib.hid (HB4.out); clear B6 F6 S6)
      | (refine wpList_storeB rfl 58 _ _ rfl w.heap.size 0 cs3 (by rfl) (by rfl) 58 _ HB3.out (by rw [hl3]; show 0 + 8 ≤ 8; omega) (by rw [hl3]; exact state_size3) h13 ?_; intro w4 B4 F4 S4; rw [splice_all _ _ (by rw [hl3]; rfl)] at B4; have hp4 := HR3.out.hp.fr F4 (by simpa using hne.symm); have c1 : w4.cell? ⟨w1.heap.size, 1, none⟩ = some (.int .i64 at1) := hp4.cellAt rfl; have c2 : w4.cell? ⟨w1.heap.size, 2, none⟩ = some (.int .i64 er1) := hp4.cellAt rfl; have hpl := hp4.lt; have HP4 := Lib.hid hp4; clear hp4; have HB4 := Lib.hid B4; have HF4 := Lib.hid F4; have HS4 := Lib.hid S4; clear B4 F4 S4))
    refine wp_region_ord (Fr [w.heap.size] w6) [0, 1, 2, 3, 4, 5, 6, 7, 8, 9, 10, 11] [] [9] [0, 4, 8] mixed (by kernel_rfl) ?_
    have hS : Fr [w.heap.size] w6 w6.drew := (Fr.refl _ _).drew
    have d1 : ∀ W, Fr [w.heap.size] w6 W → W.cell? ⟨w1.heap.size, 1, none⟩ = some (.int .i64 at1) := fun W f => (HP6.out.fr f (by simpa using hne.symm)).cellAt rfl
    have d2 : ∀ W, Fr [w.heap.size] w6 W → W.cell? ⟨w1.heap.size, 2, none⟩ = some (.int .i64 er1) := fun W f => (HP6.out.fr f (by simpa using hne.symm)).cellAt rfl
    simp only [pairs, pickN]
    refine wpO_take (.agg (sta0.cells staP0).toArray) hS (by rfl) (by rfl) (fun w' hw' => run_loadB 58 _ rfl w4.heap.size (by rfl) 58 _ _ (HB6.out.fr hw' (by have := HB5.out.lt; simp; omega)) Try.underlying58 rfl state_size3) ?_
    simp only [Act.put, List.setIfInBounds_toArray, List.set_cons_zero, List.set_cons_succ]
    repeat (first | (refine wpO_free ?_ (by rfl) (by rfl) (fun w' => ?_) ?_; rotate_left; (go_simp; rfl); simp only [Act.put, List.setIfInBounds_toArray, List.set_cons_zero, List.set_cons_succ]) | (refine wpO_take ?_ hS (by rfl) (by rfl) (fun w' hw' => ?_) ?_; rotate_left; (go_simp; rfl); simp only [Act.put, List.setIfInBounds_toArray, List.set_cons_zero, List.set_cons_succ]) | (refine wpO_pass (by rfl) ?_; simp only [Act.put, List.setIfInBounds_toArray, List.set_cons_zero, List.set_cons_succ]))
    refine wpO_eff (by rfl) ?_
    refine wpList_storeB rfl 58 _ _ rfl w.heap.size 0 (sta0.cells staP0) (by rfl) (by rfl) 58 _ (Blk.drew (HB5.out.fr HF6.out (by simp))) (by rw [hl3]; show 0 + 8 ≤ 8; omega) state_size3 (by simp [Value.oneCell', Ans.cells, Sta.cells]) ?_
    intro w7 B7 F7 S7
    rw [splice_all _ _ (by rw [hl3]; rfl)] at B7
    refine effQ_keep (hS.trans1 F7) ?_
    simp only [Act.put, List.setIfInBounds_toArray, List.set_cons_zero, List.set_cons_succ]
    repeat (first | (refine wpO_free ?_ (by rfl) (by rfl) (fun w' => ?_) ?_; rotate_left; (go_simp; rfl); simp only [Act.put, List.setIfInBounds_toArray, List.set_cons_zero, List.set_cons_succ]) | (refine wpO_pass (by rfl) ?_; simp only [Act.put, List.setIfInBounds_toArray, List.set_cons_zero, List.set_cons_succ]))
    refine wpO_nil ?_
    have HB7 := Lib.hid B7
    have HF7 := Lib.hid (hS.trans1 F7)
    clear d1 d2 hS B7 F7 S7
    go_wp2_with fail
    refine bodyPost_ret (results_cellB_tmp2 rfl _ _ w.heap.size 58 _ _ (by rfl) HB7.out Try.underlying58 rfl state_size3) rfl ⟨_, by rfl, sta0_O _ _, ?_⟩
    exact (((HF3.out.trans HF4.out (fun k hk hlt => by rw [List.mem_singleton.1 hk] at hlt; omega))).trans0 HF6.out).trans HF7.out (fun k hk hlt => by rw [List.mem_singleton.1 hk] at hlt; omega)
set_option maxRecDepth 100000 in
set_option maxHeartbeats 1000000 in
theorem decodeS_calls {w : World} {base : Nat} {a : Option Addr} {n c : Nat} {l : List Int} (hbase : base ≤ w.heap.size) (hs : Src l a n c) (hr : Rd w a (bv l)) :
    Calls Try.prog 21 #[.slice a n c] w (DecE base StaO (decR l sta0 (rS l (0, 0))) w) := by
  have hC : ∀ W, Fr [] w W → Calls Try.prog 57 #[.slice a n c, .func (.func 58) #[] #[]] W (DecE W.heap.size StaO (decR l sta0 (rS l (0, 0))) W) := fun W f => wholeS_calls (Nat.le_refl _) hs (hr.fr0 f)
  generalize decR l sta0 (rS l (0, 0)) = r at *
  obtain ⟨x, at1, er1⟩ := r
  have HC := Lib.hid hC
  clear hC hr hs
  go_enter Try.func21, Try.ntmps21
  go_wp2_with (refine wpList_allocZ rfl 58 rfl _ state_zero ?_; intro w1 B1 F1 S1; have HB1 := Lib.hid B1; have HF1 := Lib.hid F1; have HS1 := Lib.hid S1; clear B1 F1 S1)
  refine (HC.out w1 HF1.out).mono ?_
  rintro e w3 ⟨v, rfl, hel, hf3⟩
  obtain ⟨cs3, hv3, hl3, h13⟩ := StaO.form hel
  subst hv3
  have HB3 := Lib.hid (HB1.out.fr hf3 (by simp))
  have HO3 := Lib.hid hel
  have HF3 := Lib.hid (HF1.out.trans0 hf3)
  clear hel hf3
  dsimp only
  go_wp2_with (refine wpList_storeB rfl 58 _ _ rfl w.heap.size 0 cs3 (by rfl) (by rfl) 58 _ HB3.out (by rw [hl3]; show 0 + 8 ≤ 8; omega) (by rw [hl3]; exact state_size3) h13 ?_; intro w4 B4 F4 S4; rw [splice_all _ _ (by rw [hl3]; rfl)] at B4; have HB4 := Lib.hid B4; have HF4 := Lib.hid F4; clear B4 F4 S4)
  have hsb : ∀ g ∈ [w.heap.size], g < w1.heap.size := fun g hg => by rw [List.mem_singleton.1 hg]; have := HS1.out; omega
  refine bodyPost_ret (results_cellB_tmp2 rfl _ _ w.heap.size 58 _ _ (by rfl) HB4.out Try.underlying58 rfl (by rw [hl3]; exact state_size3)) rfl ⟨_, by rfl, StaO.base (by have := HS1.out; omega) (StaO.ltB HO3.out hsb HF4.out), ?_⟩
  exact HF3.out.trans HF4.out (fun k hk hlt => by rw [List.mem_singleton.1 hk] at hlt; omega)
end Go.Fur
