/- The document's Answer: contract; CommandAnswers: the walk. -/
import Derived.Test.YtmdfipahbhbgjaaAns
import Derived.Test.YtmdfipahbhbgjaaApart10
namespace Go.Fur
open Go Go.RowKit Go.Proofs Go.Proofs.YtmdfipahbhbgjaaW.PrintWords
set_option linter.unusedVariables false
set_option linter.unusedSimpArgs false
theorem LeaAt.x0 {w w' : World} (f : Fr [] w w') {b : Option Addr} {l : List Lea} {css : List (List Value)} (h : RowA LeaAt 8 w X0 b l css) : RowA LeaAt 8 w' X0 b l css := h.fr0 f (fun _ _ _ _ f h => LeaAt.fr0 f h)
theorem Ans.one (x : Ans) (a : Option Addr) (c : Nat) (b : Option Addr) (d : Nat) : ∀ v ∈ x.cells a c b d, v.oneCell' = true := by
  simp [Value.oneCell', Ans.cells]
set_option maxRecDepth 100000 in
set_option maxHeartbeats 2000000 in
theorem answerR_calls {w : World} {base : Nat} (hbase : base ≤ w.heap.size) (x : Ans) (a : Option Addr) (c : Nat) (b : Option Addr) (d : Nat) (css : List (List Value)) (hr : RdA w X0 a (iv x.cores)) (hrow : RowA LeaAt 8 w X0 b x.leases css) (hok : x.ok) (hlen : x.bulk ≤ 1048576) :
    Calls Try.prog 25 #[.agg (x.cells a c b d).toArray] w (EncE base (encA x) w) := by
  have HQ := Lib.hid hok
  have HR := Lib.hid hr
  have HW := Lib.hid hrow
  have hs10 := sum_10 x.leases
  have hs1 := len_1 x.leases
  have hen : encA x = if x.er = 0 then (x.enc, 0) else ([], x.er) := rfl
  rw [x.er_is] at hen
  unfold Ans.bulk at hlen
  clear hok hr hrow
  by_cases h1 : 1024 < x.cores.length
  · rw [if_neg (by simp [h1])] at hen
    rw [if_pos (.inl h1)] at hen
    rw [hen]
    clear hen
    have h1b : (1024 : Int) < (x.cores.length : Int) := by omega
    go_enter Try.func25, Try.ntmps25
    go_wp2_with (refine wpList_boxB rfl 49 _ rfl (x.cells a c b d) (by rfl) ?_; intro w1 B1 F1 S1; have c3 : w1.cell? ⟨w.heap.size, 3, none⟩ = some (.slice a x.cores.length c) := B1.cellAt rfl; have HF1 := Lib.hid F1; clear B1 F1 S1)
    go_ret2
    exact ⟨_, rfl, Own.nil _ _ _ _, HF1.out⟩
  · have h1b : ¬ (1024 : Int) < (x.cores.length : Int) := by omega
    cases hsh : shortL x.leases with
    | false =>
      rw [if_neg (by simp [hsh])] at hen
      rw [if_pos (.inr hsh)] at hen
      rw [hen]
      clear hen
      go_enter Try.func25, Try.ntmps25
      go_wp2_with (refine wpList_boxB rfl 49 _ rfl (x.cells a c b d) (by rfl) ?_; intro w1 B1 F1 S1; have c3 : w1.cell? ⟨w.heap.size, 3, none⟩ = some (.slice a x.cores.length c) := B1.cellAt rfl; have c4 : w1.cell? ⟨w.heap.size, 4, none⟩ = some (.slice b x.leases.length d) := B1.cellAt rfl; have HF1 := Lib.hid F1; clear B1 F1 S1)
      refine (short_calls b d x.leases css (LeaAt.x0 HF1.out HW.out) (by omega)).mono ?_
      rintro e w2 ⟨rfl, f2⟩
      rw [hsh]
      have HF2 := Lib.hid f2
      clear f2
      go_wp2_with fail
      go_ret2
      exact ⟨_, rfl, Own.nil _ _ _ _, HF1.out.trans0 HF2.out⟩
    | true =>
      have hno : ¬ (1024 < x.cores.length ∨ shortL x.leases = false) := by simp [hsh]; omega
      rw [if_neg hno, if_pos rfl] at hen
      rw [hen]
      clear hen hno
      go_enter Try.func25, Try.ntmps25
      go_wp2_with (refine wpList_boxB rfl 49 _ rfl (x.cells a c b d) (by rfl) ?_; intro w1 B1 F1 S1; have c3 : w1.cell? ⟨w.heap.size, 3, none⟩ = some (.slice a x.cores.length c) := B1.cellAt rfl; have c4 : w1.cell? ⟨w.heap.size, 4, none⟩ = some (.slice b x.leases.length d) := B1.cellAt rfl; have HF1 := Lib.hid F1; have HB1 := Lib.hid B1; have HS1 := Lib.hid S1; clear B1 F1 S1)
      refine (short_calls b d x.leases css (LeaAt.x0 HF1.out HW.out) (by omega)).mono ?_
      rintro e w2 ⟨rfl, f2⟩
      rw [hsh]
      have HF2 := Lib.hid (HF1.out.trans0 f2)
      have HB2 := HB1.out.fr f2 (by simp)
      have d0 : w2.cell? ⟨w.heap.size, 0, none⟩ = some (.int .i64 x.err) := HB2.cellAt rfl
      have d1 : w2.cell? ⟨w.heap.size, 1, none⟩ = some (.int .i64 x.task) := HB2.cellAt rfl
      have d2 : w2.cell? ⟨w.heap.size, 2, none⟩ = some (.int .i64 x.node) := HB2.cellAt rfl
      have HB2 := Lib.hid HB2
      clear f2 c3 c4
      go_wp2_with (refine wpList_buildN rfl 81 2 3 [(0, .tmp 16), (1, .tmp 18), (2, .tmp 20)] rfl [(0, .int .i64 x.err), (1, .int .i64 x.task), (2, .int .i64 x.node)] (by rfl) _ (buildI_3 x.err x.task x.node) ?_; intro w4 B4 F4 S4; have HB4 := Lib.hid B4; have HF4 := Lib.hid F4; clear B4 F4 S4)
      have G4 := Grow.nil (base := w.heap.size) (HF2.out.trans0 HF4.out)
      refine (put_calls (w := w4) (base := w.heap.size) G4.2.1.size (.slice none 0 0) [] G4.1 _ 3 3 [x.err, x.task, x.node] rfl (HB4.out.rdA (by simp)) HQ.out.1 (by simp)).mono ?_
      rintro e w5 ⟨v5, rfl, O5, F5, K5⟩
      have HG5 := Lib.hid (G4.put O5 F5 K5)
      have HC5 := Lib.hid ((HB2.out.fr HF4.out (by simp)).fr F5 (by simp))
      have e3 : w5.cell? ⟨w.heap.size, 3, none⟩ = some (.slice a x.cores.length c) := HC5.out.cellAt rfl
      clear G4 O5 F5 K5 d0 d1 d2
      rw [List.nil_append] at HG5
      have hl3 := intsE_length [x.err, x.task, x.node]
      simp only [List.length_cons, List.length_nil] at hl3
      have HE := Lib.hid (show intsE [x.err, x.task, x.node] ++ listE x.cores ++ eachE Lea.enc x.leases = x.enc from rfl)
      generalize intsE [x.err, x.task, x.node] = b5 at *
      go_wp2_with fail
      refine (numbers_calls (w := w5) (base := w.heap.size) HG5.out.2.1.size a _ c x.cores rfl (HR.out.rd.fr0 HG5.out.2.1) HQ.out.2.1 (by omega)).mono ?_
      rintro e w6 ⟨v6, rfl, O6, F6⟩
      obtain ⟨a6, k6, rfl, _, _, R6⟩ := O6.form
      have HG6 := Lib.hid (HG5.out.fr0 F6)
      have HC6 := Lib.hid (HC5.out.fr F6 (by simp))
      have HR6 := Lib.hid R6
      have hl6 := listE_length x.cores
      clear O6 F6 R6 e3
      generalize listE x.cores = b6 at *
      have hz6 := HG6.out.2.1.size
      go_wp2_with (refine wpList_appB rfl _ _ 37 37 rfl w.heap.size 5 5 .u8 1 Try.underlying37 Try.underlying37 info_byte _ b5.length (bv b5) (by rfl) HG6.out.1 a6 b6.length k6 (bv b6) (by rfl) HR6.out (by simp) (bv_one _) (by simp only [maxLen]; omega) (by omega) (by omega) ?_; intro v7 w7 O7 F7 K7 _; have HG7 := Lib.hid (HG6.out.app O7 F7 K7); have HC7 := Lib.hid (HC6.out.fr F7 (HG6.out.ne HC6.out (by decide))); have e4 : w7.cell? ⟨w.heap.size, 4, none⟩ = some (.slice b x.leases.length d) := HC7.out.cellAt rfl; clear O7 F7 K7)
      refine (leasesR_calls (w := w7) (base := w.heap.size) HG7.out.2.1.size b d x.leases css (LeaAt.x0 HG7.out.2.1 HW.out) HQ.out.2.2 (by omega)).mono ?_
      rintro e w8 ⟨v8, rfl, O8, F8⟩
      obtain ⟨a8, k8, rfl, _, _, R8⟩ := O8.form
      have HG8 := Lib.hid (HG7.out.fr0 F8)
      have HR8 := Lib.hid R8
      have hfl := flatMap_len Lea.enc (fun t => t.cores.length) x.leases (fun t _ => by have := t.enc_length; omega)
      have hl8 : (eachE Lea.enc x.leases).length ≤ 9 * ((x.leases.map fun t => t.cores.length + 10).sum + 1) := by
        unfold eachE
        rw [List.length_append, layN_length]
        have := kl_le x.leases.length
        omega
      clear O8 F8 R8 e4 hfl
      generalize eachE Lea.enc x.leases = b8 at *
      have hz8 := HG8.out.2.1.size
      go_wp2_with (refine wpList_appB rfl _ _ 37 37 rfl w.heap.size 5 5 .u8 1 Try.underlying37 Try.underlying37 info_byte _ (b5 ++ b6).length (bv (b5 ++ b6)) (by rfl) HG8.out.1 a8 b8.length k8 (bv b8) (by rfl) HR8.out (by simp) (bv_one _) (by simp only [maxLen, List.length_append]; omega) (by simp only [List.length_append]; omega) (by omega) ?_; intro v9 w9 O9 F9 K9 _; have HG9 := Lib.hid (HG8.out.app O9 F9 K9); clear O9 F9 K9)
      go_ret2
      have h9 := HG9.out
      rw [HE.out] at h9
      exact ⟨v9, rfl, h9.1.base hbase, h9.2.1⟩
theorem Lea.enc_byt (t : Lea) : Byt t.enc := by
  unfold Lea.enc listE
  exact (((intsE_byt _).append ((layN_byt _).append (intsE_byt _))).append (intsE_byt _)).append (layN_byt _)
theorem flatMap_byt {τ : Type} (enc : τ → List Int) (h : ∀ t, Byt (enc t)) (l : List τ) : Byt (l.flatMap enc) := fun x hx => by
  obtain ⟨t, _, ht⟩ := List.mem_flatMap.1 hx
  exact h t x ht
theorem encA_byt (x : Ans) : Byt (encA x).1 := by
  unfold encA
  split
  · unfold Ans.enc eachE listE
    exact ((intsE_byt _).append ((layN_byt _).append (intsE_byt _))).append ((layN_byt _).append (flatMap_byt _ Lea.enc_byt _))
  · exact Byt.nil
set_option maxRecDepth 100000 in
set_option maxHeartbeats 4000000 in
theorem CommandAnswers_calls {w : World} (x : Ans) (a : Option Addr) (c : Nat) (b : Option Addr) (d : Nat) (css : List (List Value)) (hr : RdA w X0 a (iv x.cores)) (hrow : RowA LeaAt 8 w X0 b x.leases css) (hok : x.ok) (hlen : x.bulk ≤ 1048576) :
    Calls Try.prog 7 #[.agg (x.cells a c b d).toArray] w (BoolE true w) := by
  have HA := Lib.hid (fun (W : World) (f : Fr [] w W) => encodeA_calls (w := W) (base := W.heap.size) (Nat.le_refl _) x a c b d css (hr.fr0 f) (LeaAt.x0 f hrow) hok hlen)
  have HB := Lib.hid (fun (W : World) (f : Fr [] w W) => answerR_calls (w := W) (base := W.heap.size) (Nat.le_refl _) x a c b d css (hr.fr0 f) (LeaAt.x0 f hrow) hok hlen)
  have HY := Lib.hid (encA_byt x)
  generalize encA x = rx at *
  obtain ⟨bx, ex⟩ := rx
  clear hr hrow hok hlen
  go_enter Try.func7, Try.ntmps7
  go_wp2_with (refine wpList_boxB rfl 49 _ rfl (x.cells a c b d) (by rfl) ?_; intro w1 B1 F1 S1; have HB1 := Lib.hid B1; have HF1 := Lib.hid F1; have HS1 := Lib.hid S1; clear B1 F1 S1)
  refine (awake_calls w1).mono ?_
  rintro e w2 ⟨rfl, f2⟩
  have HB2 := Lib.hid (HB1.out.fr f2 (by simp))
  have HF2 := Lib.hid (HF1.out.trans0 f2)
  clear f2
  go_wp2_with (refine wpList_loadB rfl 49 _ rfl w.heap.size (by rfl) 49 _ _ HB2.out Try.underlying49 rfl (answer_size x a c b d) ?_)
  refine (HA.out _ HF2.out).mono ?_
  rintro e w6 ⟨v6, rfl, O6, f6⟩
  obtain ⟨a6, k6, rfl, _, _, R6⟩ := O6.form
  have HB6 := Lib.hid (HB2.out.fr f6 (by simp))
  have HF6 := Lib.hid (HF2.out.trans0 f6)
  have HR6 := Lib.hid R6
  clear O6 R6 f6
  dsimp only
  go_wp2_with (refine wpList_loadB rfl 49 _ rfl w.heap.size (by rfl) 49 _ _ HB6.out Try.underlying49 rfl (answer_size x a c b d) ?_)
  refine (HB.out w6 HF6.out).mono ?_
  rintro e w7 ⟨v7, rfl, O7, f7⟩
  obtain ⟨a7, k7, rfl, _, _, R7⟩ := O7.form
  have HF7 := Lib.hid (HF6.out.trans0 f7)
  have HR7 := Lib.hid R7
  have HR67 := Lib.hid (HR6.out.fr0 f7)
  clear O7 R7 f7
  dsimp only
  go_wp2_with fail
  refine (bytes_calls w7 a6 a7 k6 k7 bx.length bx.length bx bx rfl rfl HY.out HY.out HR67.out HR7.out).mono ?_
  rintro e w8 ⟨rfl, rfl⟩
  rw [show decide (bx = bx) = true from decide_eq_true rfl]
  go_wp2_with fail
  go_ret
  exact ⟨rfl, HF7.out⟩
end Go.Fur
