/- CommandStates: the walk. -/
import Derived.Test.YtmdfipahbhbgjaaSameS
import Derived.Test.YtmdfipahbhbgjaaTwinS
import Derived.Test.YtmdfipahbhbgjaaRefS
namespace Go.Fur
open Go Go.RowKit Go.Proofs Go.Proofs.YtmdfipahbhbgjaaW.PrintWords
set_option linter.unusedVariables false
set_option linter.unusedSimpArgs false
theorem Lea.enc_byt2 (t : Lea) : Byt t.enc := by
  unfold Lea.enc listE
  exact (((intsE_byt _).append ((layN_byt _).append (intsE_byt _))).append (intsE_byt _)).append (layN_byt _)
theorem eachE_byt {τ : Type} (enc : τ → List Int) (h : ∀ t, Byt (enc t)) (l : List τ) : Byt (eachE enc l) := by
  unfold eachE
  refine (layN_byt _).append (fun x hx => ?_)
  obtain ⟨t, _, ht⟩ := List.mem_flatMap.1 hx
  exact h t x ht
theorem encS_byt (x : Sta) : Byt (encS x).1 := by
  unfold encS
  split
  · unfold Sta.enc
    exact (((((intsE_byt _).append (eachE_byt _ (fun t => intsE_byt _) _)).append (eachE_byt _ (fun t => intsE_byt _) _)).append (eachE_byt _ (fun t => t.enc_byt) _)).append (eachE_byt _ (fun t => t.enc_byt2) _)).append (eachE_byt _ (fun t => intsE_byt _) _)
  · exact Byt.nil
set_option maxRecDepth 100000 in
set_option maxHeartbeats 4000000 in
theorem CommandStates_calls {w : World} (x : Sta) (s : StaP) (hr : StaAt w X0 x s) (hok : x.ok) (hlen : x.bulk ≤ 1048576) :
    Calls Try.prog 8 #[.agg (x.cells s).toArray] w (BoolE true w) := by
  have HT := Lib.hid (fun (W : World) (f : Fr [] w W) => twinS_calls (w := W) x s (hr.fr0 f) hlen)
  have HA := Lib.hid (fun (W : World) (r : StaP) (h : StaAt W X0 x r) => encodeS_calls (w := W) (base := W.heap.size) (Nat.le_refl _) x r h hok hlen)
  have HB := Lib.hid (fun (W : World) (f : Fr [] w W) => stateR_calls (w := W) (base := W.heap.size) (Nat.le_refl _) x s (hr.fr0 f) hok hlen)
  have HS := Lib.hid (fun (W : World) (f : Fr [] w W) (r : StaP) (h : StaAt W X0 x r) => sameS_calls (w := W) x r s h (hr.fr0 f) hlen)
  have HY := Lib.hid (encS_byt x)
  generalize encS x = rx at *
  obtain ⟨bx, ex⟩ := rx
  clear hr hok hlen
  go_enter Try.func8, Try.ntmps8
  go_wp2_with (refine wpList_boxB rfl 58 _ rfl (x.cells s) (by rfl) ?_; intro w1 B1 F1 S1; have HB1 := Lib.hid B1; have HF1 := Lib.hid F1; have HS1 := Lib.hid S1; clear B1 F1 S1)
  refine (awake_calls w1).mono ?_
  rintro e w2 ⟨rfl, f2⟩
  have HB2 := Lib.hid (HB1.out.fr f2 (by simp))
  have HF2 := Lib.hid (HF1.out.trans0 f2)
  clear f2
  go_wp2_with (refine wpList_loadB rfl 58 _ rfl w.heap.size (by rfl) 58 _ _ HB2.out Try.underlying58 rfl (state_size x s) ?_)
  refine (HT.out _ HF2.out).mono ?_
  rintro e w3 ⟨r, rfl, A3, f3⟩
  have HB3 := Lib.hid (HB2.out.fr f3 (by simp))
  have HF3 := Lib.hid (HF2.out.trans0 f3)
  have HA3 := Lib.hid A3
  clear f3 A3
  go_wp2_with (first
    | (have z := HB5.out; clear z; refine wpList_loadB rfl 58 _ rfl w3.heap.size (by rfl) 58 _ _ HC5.out Try.underlying58 rfl (state_size x r) ?_)
    | (refine wpList_storeB rfl 58 _ _ rfl w3.heap.size 0 (x.cells r) (by rfl) (by rfl) 58 _ HC4.out (by show 0 + 8 ≤ 8; omega) (state_size x r) (x.one r) ?_; intro w5 B5 F5 S5; rw [splice_all _ _ (by rfl)] at B5; have HF35 := Lib.hid (HF34.out.trans F5 (fun k hk hlt => by rw [List.mem_singleton.1 hk] at hlt; omega)); have HB5 := Lib.hid (HB4.out.fr F5 (by have := HB3.out.lt; simp; omega)); have HC5 := Lib.hid B5; clear B5 F5 S5)
    | (refine wpList_allocZ rfl 58 rfl _ state_zero ?_; intro w4 B4 F4 S4; have HC4 := Lib.hid B4; have HF34 := Lib.hid F4; have HB4 := Lib.hid (HB3.out.fr F4 (by simp)); clear B4 F4 S4))
  have HA5 := Lib.hid (HA3.out.fr0 HF35.out)
  have HF5 := Lib.hid (HF3.out.trans0 HF35.out)
  refine (HA.out w5 r HA5.out).mono ?_
  rintro e w6 ⟨v6, rfl, O6, f6⟩
  obtain ⟨a6, k6, rfl, _, _, R6⟩ := O6.form
  have HB6 := Lib.hid (HB5.out.fr f6 (by simp))
  have HC6 := Lib.hid (HC5.out.fr f6 (by simp))
  have HF6 := Lib.hid (HF5.out.trans0 f6)
  have HR6 := Lib.hid R6
  have HA6 := Lib.hid (HA5.out.fr0 f6)
  clear O6 R6 f6
  dsimp only
  go_wp2_with (refine wpList_loadB rfl 58 _ rfl w.heap.size (by rfl) 58 _ _ HB6.out Try.underlying58 rfl (state_size x s) ?_)
  refine (HB.out w6 HF6.out).mono ?_
  rintro e w7 ⟨v7, rfl, O7, f7⟩
  obtain ⟨a7, k7, rfl, _, _, R7⟩ := O7.form
  have HB7 := Lib.hid (HB6.out.fr f7 (by simp))
  have HC7 := Lib.hid (HC6.out.fr f7 (by simp))
  have HF7 := Lib.hid (HF6.out.trans0 f7)
  have HR7 := Lib.hid R7
  have HR67 := Lib.hid (HR6.out.fr0 f7)
  have HA7 := Lib.hid (HA6.out.fr0 f7)
  clear O7 R7 f7
  dsimp only
  go_wp2_with fail
  refine (bytes_calls w7 a6 a7 k6 k7 bx.length bx.length bx bx rfl rfl HY.out HY.out HR67.out HR7.out).mono ?_
  rintro e w8 ⟨rfl, rfl⟩
  rw [show decide (bx = bx) = true from decide_eq_true rfl]
  go_wp2_with (first
    | (refine gate_guard (by rfl) (wpList_loadB rfl 58 _ rfl w3.heap.size (by rfl) 58 _ _ HC7.out Try.underlying58 rfl (state_size x r) ?_))
    | (refine gate_guard (by rfl) (wpList_loadB rfl 58 _ rfl w.heap.size (by rfl) 58 _ _ HB7.out Try.underlying58 rfl (state_size x s) ?_)))
  refine (HS.out w7 HF7.out r HA7.out).mono ?_
  rintro e w9 ⟨rfl, f9⟩
  have HF9 := Lib.hid (HF7.out.trans0 f9)
  clear f9
  go_wp2_with fail
  go_ret
  exact ⟨rfl, HF9.out⟩
end Go.Fur
