/- SameAnswer of two that hold the same; written: contracts. -/
import Derived.Test.YtmdfipahbhbgjaaSameS
import Derived.Test.YtmdfipahbhbgjaaBack2
namespace Go.Fur
open Go Go.RowKit Go.Proofs Go.Proofs.YtmdfipahbhbgjaaW.PrintWords
set_option linter.unusedVariables false
set_option linter.unusedSimpArgs false
set_option maxRecDepth 100000 in
set_option maxHeartbeats 4000000 in
theorem sameA_calls {w : World} (x : Ans) (a b a' b' : Option Addr) (c d c' d' : Nat) (ha : Rd w a (iv x.cores)) (hb : Rd w a' (iv x.cores)) (la : ∃ css, RowA LeaAt 8 w X0 b x.leases css) (lb : ∃ css, RowA LeaAt 8 w X0 b' x.leases css) (hl : x.bulk ≤ 1000000000) :
    Calls Try.prog 20 #[.agg (x.cells a c b d).toArray, .agg (x.cells a' c' b' d').toArray] w (BoolE true w) := by
  unfold Ans.bulk at hl
  have HI := Lib.hid (fun (W : World) (f : Fr [] w W) => ints_calls (w := W) a a' c c' x.cores x.cores (ha.fr0 f) (hb.fr0 f) (by omega))
  have HL := Lib.hid (fun (W : World) (f : Fr [] w W) => sameLes_calls (w := W) x.leases b b' d d' (la.elim fun css h => ⟨css, h.fr0 f (fun _ _ _ _ f h => LeaAt.fr0 f h)⟩) (lb.elim fun css h => ⟨css, h.fr0 f (fun _ _ _ _ f h => LeaAt.fr0 f h)⟩) (by omega))
  clear ha hb la lb hl
  go_enter Try.func20, Try.ntmps20
  go_wp2_with (first
    | (have z := HB1.out; clear z; refine wpList_boxB rfl 49 _ rfl (x.cells a' c' b' d') (by rfl) ?_; intro w2 B2 F2 S2; have hb1 := HB1.out.fr F2 (by simp); have cx0 : w2.cell? ⟨w.heap.size, 0, none⟩ = some (.int .i64 x.err) := hb1.cellAt rfl; have cy0 : w2.cell? ⟨w1.heap.size, 0, none⟩ = some (.int .i64 x.err) := B2.cellAt rfl; have cx1 : w2.cell? ⟨w.heap.size, 1, none⟩ = some (.int .i64 x.task) := hb1.cellAt rfl; have cy1 : w2.cell? ⟨w1.heap.size, 1, none⟩ = some (.int .i64 x.task) := B2.cellAt rfl; have cx2 : w2.cell? ⟨w.heap.size, 2, none⟩ = some (.int .i64 x.node) := hb1.cellAt rfl; have cy2 : w2.cell? ⟨w1.heap.size, 2, none⟩ = some (.int .i64 x.node) := B2.cellAt rfl; have cx3 : w2.cell? ⟨w.heap.size, 3, none⟩ = some (.slice a x.cores.length c) := hb1.cellAt rfl; have cy3 : w2.cell? ⟨w1.heap.size, 3, none⟩ = some (.slice a' x.cores.length c') := B2.cellAt rfl; have HB2 := Lib.hid hb1; have HC2 := Lib.hid B2; have HF2 := Lib.hid (HF1.out.trans0 F2); clear B2 F2 S2 hb1)
    | (refine wpList_boxB rfl 49 _ rfl (x.cells a c b d) (by rfl) ?_; intro w1 B1 F1 S1; have HB1 := Lib.hid B1; have HF1 := Lib.hid F1; have HS1 := Lib.hid S1; clear B1 F1 S1))
  refine (HI.out w2 HF2.out).mono ?_
  rintro e w3 ⟨rfl, f3⟩
  have HF3 := Lib.hid (HF2.out.trans0 f3)
  have cx4 : w3.cell? ⟨w.heap.size, 4, none⟩ = some (.slice b x.leases.length d) := (HB2.out.fr f3 (by simp)).cellAt rfl
  have cy4 : w3.cell? ⟨w1.heap.size, 4, none⟩ = some (.slice b' x.leases.length d') := (HC2.out.fr f3 (by simp)).cellAt rfl
  clear f3 cx0 cy0 cx1 cy1 cx2 cy2 cx3 cy3
  first | rw [show decide (x.cores = x.cores) = true from decide_eq_true rfl] | simp only [decide_true]
  go_wp2_with fail
  refine (HL.out w3 HF3.out).mono ?_
  rintro e w4 ⟨rfl, f4⟩
  have HF4 := Lib.hid (HF3.out.trans0 f4)
  clear f4
  go_wp2_with fail
  go_ret
  exact ⟨rfl, HF4.out⟩
set_option maxRecDepth 100000 in
set_option maxHeartbeats 8000000 in
theorem written_calls {w : World} {a : Option Addr} {n c : Nat} {l : List Int} (hs : Src l a n c) (hr : Rd w a (bv l)) (hn : l.length ≤ 1048576) :
    Calls Try.prog 29 #[.slice a n c] w (BoolE true w) := by
  have HDE := Lib.hid (fun (W : World) (f : Fr [] w W) => decodeE_calls (w := W) (base := W.heap.size) (Nat.le_refl _) hs (hr.fr0 f))
  have HDA := Lib.hid (fun (W : World) (f : Fr [] w W) => decodeA_calls (w := W) (base := W.heap.size) (Nat.le_refl _) hs (hr.fr0 f))
  have HDS := Lib.hid (fun (W : World) (f : Fr [] w W) => decodeS_calls (w := W) (base := W.heap.size) (Nat.le_refl _) hs (hr.fr0 f))
  have HXE := Lib.hid (fun h => And.intro (enc_decE hs.byt h).1 (And.intro (enc_decE hs.byt h).2 (Nat.le_trans (decE_small hs.byt h) hn)))
  have HXA := Lib.hid (fun h => And.intro (enc_decA hs.byt h).1 (And.intro (enc_decA hs.byt h).2 (Nat.le_trans (decA_small hs.byt h) hn)))
  have HXS := Lib.hid (fun h => And.intro (enc_decS hs.byt h).1 (And.intro (enc_decS hs.byt h).2 (Nat.le_trans (decS_small hs.byt h) hn)))
  generalize decR l ent0 (rE l (0, 0)) = re at *
  generalize decR l ans0 (rA l (0, 0)) = ra at *
  generalize decR l sta0 (rS l (0, 0)) = rs at *
  obtain ⟨xe, ate, ee⟩ := re
  obtain ⟨xa, ata, ea⟩ := ra
  obtain ⟨xs, ats, es⟩ := rs
  dsimp only at HXE HXA HXS
  have HS := Lib.hid hs
  have HR := Lib.hid hr
  clear hs hr hn
  have HFv := Lib.hid (Fr.refl [] w)
  go_enter Try.func29, Try.ntmps29
  go_wp2_with fail
  refine (HDE.out w HFv.out).mono ?_
  rintro e w1 ⟨v, rfl, O, f1⟩
  obtain ⟨ae, ce, rfl, own⟩ := O; have HV := Lib.hid (own.rdS (X := X0) (fun _ _ h => h)).1; have HF1 := Lib.hid f1; clear f1 own
  dsimp only
  by_cases he : ee = 0
  · obtain ⟨henc, hok, hsm⟩ := HXE.out he
    have HEN := Lib.hid henc
    have HOK := Lib.hid hok
    have HSM := Lib.hid hsm
    rw [he]
    clear henc hok hsm he
    go_wp2_with (first
      | (have z := HB3.out; clear z; refine wpList_loadB rfl 34 _ rfl w1.heap.size (by rfl) 34 _ _ HB3.out Try.underlying34 rfl (entry_size2 xe ae ce) ?_)
      | (refine wpList_storeB rfl 34 _ _ rfl w1.heap.size 0 (xe.cells ae ce) (by rfl) (by rfl) 34 _ HB2.out (by show 0 + 27 ≤ 27; omega) (entry_size2 xe ae ce) (xe.one ae ce) ?_; intro w3 B3 F3 S3; rw [splice_all _ _ (by rfl)] at B3; have HB3 := Lib.hid B3; have HF3 := Lib.hid (HF2.out.trans F3 (fun k hk hlt => by rw [List.mem_singleton.1 hk] at hlt; omega)); clear B3 F3 S3)
      | (refine wpList_allocZ rfl 34 rfl _ entry_zero2 ?_; intro w2 B2 F2 S2; have HB2 := Lib.hid B2; have HF2 := Lib.hid F2; clear B2 F2 S2))
    have HFB := Lib.hid ((HFv.out).trans0 (HF1.out.trans0 HF3.out))
    refine (encodeE_calls (w := w3) (base := w3.heap.size) (Nat.le_refl _) xe ae ce (HV.out.rd.fr0 HF3.out) HOK.out HSM.out).mono ?_
    rintro e w4 ⟨v4, rfl, o4, f4⟩
    rw [HEN.out] at o4 ⊢
    obtain ⟨a4, k4, rfl, _, _, r4⟩ := o4.form
    have HFW := Lib.hid (HFB.out.trans0 f4)
    have HR4 := Lib.hid r4
    clear o4 r4 f4
    dsimp only
    go_wp2_with fail
    refine (bytes_calls w4 a4 a k4 c l.length n l l rfl HS.out.len HS.out.byt HS.out.byt HR4.out (HR.out.fr0 HFW.out)).mono ?_
    rintro e w5 ⟨rfl, rfl⟩
    rw [show decide (l = l) = true from decide_eq_true rfl]
    go_wp2_with fail
    generalize w4 = wx at *
    have HFx := Lib.hid HFW.out
    clear HFW HR4 HFB HF3 HB3 HB2 HF2 HF1
    refine (HDA.out wx HFx.out).mono ?_
    rintro e w1 ⟨v, rfl, O, f1⟩
    obtain ⟨aa, ca, ab, cb, rfl, own, rw1⟩ := O; have HV := Lib.hid (And.intro (own.rdS (X := X0) (fun _ _ h => h)).1 (rw1.rowA (EL := LeaAt) (fun _ _ h => LeaW.at h))); have HF1 := Lib.hid f1; clear f1 own rw1
    dsimp only
    by_cases he : ea = 0
    · obtain ⟨henc, hok, hsm⟩ := HXA.out he
      have HEN := Lib.hid henc
      have HOK := Lib.hid hok
      have HSM := Lib.hid hsm
      rw [he]
      clear henc hok hsm he
      go_wp2_with (first
        | (have z := HB3.out; clear z; refine wpList_loadB rfl 49 _ rfl w1.heap.size (by rfl) 49 _ _ HB3.out Try.underlying49 rfl (answer_size xa aa ca ab cb) ?_)
        | (refine wpList_storeB rfl 49 _ _ rfl w1.heap.size 0 (xa.cells aa ca ab cb) (by rfl) (by rfl) 49 _ HB2.out (by show 0 + 5 ≤ 5; omega) (answer_size xa aa ca ab cb) (by simp [Value.oneCell', Ans.cells]) ?_; intro w3 B3 F3 S3; rw [splice_all _ _ (by rfl)] at B3; have HB3 := Lib.hid B3; have HF3 := Lib.hid (HF2.out.trans F3 (fun k hk hlt => by rw [List.mem_singleton.1 hk] at hlt; omega)); clear B3 F3 S3)
        | (refine wpList_allocZ rfl 49 rfl _ answer_zero3 ?_; intro w2 B2 F2 S2; have HB2 := Lib.hid B2; have HF2 := Lib.hid F2; clear B2 F2 S2))
      have HFB := Lib.hid ((HFx.out).trans0 (HF1.out.trans0 HF3.out))
      refine (encodeA_calls (w := w3) (base := w3.heap.size) (Nat.le_refl _) xa aa ca ab cb _ (HV.out.1.fr0 HF3.out) ((Classical.choose_spec HV.out.2).fr0 HF3.out (fun _ _ _ _ f h => LeaAt.fr0 f h)) HOK.out HSM.out).mono ?_
      rintro e w4 ⟨v4, rfl, o4, f4⟩
      rw [HEN.out] at o4 ⊢
      obtain ⟨a4, k4, rfl, _, _, r4⟩ := o4.form
      have HFW := Lib.hid (HFB.out.trans0 f4)
      have HR4 := Lib.hid r4
      clear o4 r4 f4
      dsimp only
      go_wp2_with fail
      refine (bytes_calls w4 a4 a k4 c l.length n l l rfl HS.out.len HS.out.byt HS.out.byt HR4.out (HR.out.fr0 HFW.out)).mono ?_
      rintro e w5 ⟨rfl, rfl⟩
      rw [show decide (l = l) = true from decide_eq_true rfl]
      go_wp2_with fail
      generalize w4 = wy at *
      have HFy := Lib.hid HFW.out
      clear HFW HR4 HFB HF3 HB3 HB2 HF2 HF1
      refine (HDS.out wy HFy.out).mono ?_
      rintro e w1 ⟨v, rfl, O, f1⟩
      obtain ⟨s, rfl, hst⟩ := O.at; have HV := Lib.hid hst; have HF1 := Lib.hid f1; clear hst f1 O
      dsimp only
      by_cases he : es = 0
      · obtain ⟨henc, hok, hsm⟩ := HXS.out he
        have HEN := Lib.hid henc
        have HOK := Lib.hid hok
        have HSM := Lib.hid hsm
        rw [he]
        clear henc hok hsm he
        go_wp2_with (first
          | (have z := HB3.out; clear z; refine wpList_loadB rfl 58 _ rfl w1.heap.size (by rfl) 58 _ _ HB3.out Try.underlying58 rfl (state_size xs s) ?_)
          | (refine wpList_storeB rfl 58 _ _ rfl w1.heap.size 0 (xs.cells s) (by rfl) (by rfl) 58 _ HB2.out (by show 0 + 8 ≤ 8; omega) (state_size xs s) (xs.one s) ?_; intro w3 B3 F3 S3; rw [splice_all _ _ (by rfl)] at B3; have HB3 := Lib.hid B3; have HF3 := Lib.hid (HF2.out.trans F3 (fun k hk hlt => by rw [List.mem_singleton.1 hk] at hlt; omega)); clear B3 F3 S3)
          | (refine wpList_allocZ rfl 58 rfl _ state_zero ?_; intro w2 B2 F2 S2; have HB2 := Lib.hid B2; have HF2 := Lib.hid F2; clear B2 F2 S2))
        have HFB := Lib.hid ((HFy.out).trans0 (HF1.out.trans0 HF3.out))
        refine (encodeS_calls (w := w3) (base := w3.heap.size) (Nat.le_refl _) xs s (HV.out.fr0 HF3.out) HOK.out HSM.out).mono ?_
        rintro e w4 ⟨v4, rfl, o4, f4⟩
        rw [HEN.out] at o4 ⊢
        obtain ⟨a4, k4, rfl, _, _, r4⟩ := o4.form
        have HFW := Lib.hid (HFB.out.trans0 f4)
        have HR4 := Lib.hid r4
        clear o4 r4 f4
        dsimp only
        go_wp2_with fail
        refine (bytes_calls w4 a4 a k4 c l.length n l l rfl HS.out.len HS.out.byt HS.out.byt HR4.out (HR.out.fr0 HFW.out)).mono ?_
        rintro e w5 ⟨rfl, rfl⟩
        rw [show decide (l = l) = true from decide_eq_true rfl]
        go_wp2_with fail
        generalize w4 = wz at *
        have HFz := Lib.hid HFW.out
        clear HFW HR4 HFB HF3 HB3 HB2 HF2 HF1
        (first | (go_ret; exact ⟨rfl, HFz.out⟩) | (go_wp2_with fail; go_ret; exact ⟨rfl, HFz.out⟩))
      · have hb : (es == 0) = false := by simpa using he
        have HNE := Lib.hid he
        clear he
        go_wp2_with (first
          | (refine wpList_storeB rfl 58 _ _ rfl w1.heap.size 0 (xs.cells s) (by rfl) (by rfl) 58 _ HB2.out (by show 0 + 8 ≤ 8; omega) (state_size xs s) (xs.one s) ?_; intro w3 B3 F3 S3; have HF3 := Lib.hid (HF2.out.trans F3 (fun k hk hlt => by rw [List.mem_singleton.1 hk] at hlt; omega)); clear B3 F3 S3)
          | (refine wpList_allocZ rfl 58 rfl _ state_zero ?_; intro w2 B2 F2 S2; have HB2 := Lib.hid B2; have HF2 := Lib.hid F2; clear B2 F2 S2))
        have HFz := Lib.hid ((HFy.out).trans0 (HF1.out.trans0 HF3.out))
        generalize w3 = wz at *
        clear HF3 HB2 HF2 HF1 hb HNE
        (first | (go_ret; exact ⟨rfl, HFz.out⟩) | (go_wp2_with fail; go_ret; exact ⟨rfl, HFz.out⟩))
    · have hb : (ea == 0) = false := by simpa using he
      have HNE := Lib.hid he
      clear he
      go_wp2_with (first
        | (refine wpList_storeB rfl 49 _ _ rfl w1.heap.size 0 (xa.cells aa ca ab cb) (by rfl) (by rfl) 49 _ HB2.out (by show 0 + 5 ≤ 5; omega) (answer_size xa aa ca ab cb) (by simp [Value.oneCell', Ans.cells]) ?_; intro w3 B3 F3 S3; have HF3 := Lib.hid (HF2.out.trans F3 (fun k hk hlt => by rw [List.mem_singleton.1 hk] at hlt; omega)); clear B3 F3 S3)
        | (refine wpList_allocZ rfl 49 rfl _ answer_zero3 ?_; intro w2 B2 F2 S2; have HB2 := Lib.hid B2; have HF2 := Lib.hid F2; clear B2 F2 S2))
      have HFy := Lib.hid ((HFx.out).trans0 (HF1.out.trans0 HF3.out))
      generalize w3 = wy at *
      clear HF3 HB2 HF2 HF1 hb HNE
      refine (HDS.out wy HFy.out).mono ?_
      rintro e w1 ⟨v, rfl, O, f1⟩
      obtain ⟨s, rfl, hst⟩ := O.at; have HV := Lib.hid hst; have HF1 := Lib.hid f1; clear hst f1 O
      dsimp only
      by_cases he : es = 0
      · obtain ⟨henc, hok, hsm⟩ := HXS.out he
        have HEN := Lib.hid henc
        have HOK := Lib.hid hok
        have HSM := Lib.hid hsm
        rw [he]
        clear henc hok hsm he
        go_wp2_with (first
          | (have z := HB3.out; clear z; refine wpList_loadB rfl 58 _ rfl w1.heap.size (by rfl) 58 _ _ HB3.out Try.underlying58 rfl (state_size xs s) ?_)
          | (refine wpList_storeB rfl 58 _ _ rfl w1.heap.size 0 (xs.cells s) (by rfl) (by rfl) 58 _ HB2.out (by show 0 + 8 ≤ 8; omega) (state_size xs s) (xs.one s) ?_; intro w3 B3 F3 S3; rw [splice_all _ _ (by rfl)] at B3; have HB3 := Lib.hid B3; have HF3 := Lib.hid (HF2.out.trans F3 (fun k hk hlt => by rw [List.mem_singleton.1 hk] at hlt; omega)); clear B3 F3 S3)
          | (refine wpList_allocZ rfl 58 rfl _ state_zero ?_; intro w2 B2 F2 S2; have HB2 := Lib.hid B2; have HF2 := Lib.hid F2; clear B2 F2 S2))
        have HFB := Lib.hid ((HFy.out).trans0 (HF1.out.trans0 HF3.out))
        refine (encodeS_calls (w := w3) (base := w3.heap.size) (Nat.le_refl _) xs s (HV.out.fr0 HF3.out) HOK.out HSM.out).mono ?_
        rintro e w4 ⟨v4, rfl, o4, f4⟩
        rw [HEN.out] at o4 ⊢
        obtain ⟨a4, k4, rfl, _, _, r4⟩ := o4.form
        have HFW := Lib.hid (HFB.out.trans0 f4)
        have HR4 := Lib.hid r4
        clear o4 r4 f4
        dsimp only
        go_wp2_with fail
        refine (bytes_calls w4 a4 a k4 c l.length n l l rfl HS.out.len HS.out.byt HS.out.byt HR4.out (HR.out.fr0 HFW.out)).mono ?_
        rintro e w5 ⟨rfl, rfl⟩
        rw [show decide (l = l) = true from decide_eq_true rfl]
        go_wp2_with fail
        generalize w4 = wz at *
        have HFz := Lib.hid HFW.out
        clear HFW HR4 HFB HF3 HB3 HB2 HF2 HF1
        (first | (go_ret; exact ⟨rfl, HFz.out⟩) | (go_wp2_with fail; go_ret; exact ⟨rfl, HFz.out⟩))
      · have hb : (es == 0) = false := by simpa using he
        have HNE := Lib.hid he
        clear he
        go_wp2_with (first
          | (refine wpList_storeB rfl 58 _ _ rfl w1.heap.size 0 (xs.cells s) (by rfl) (by rfl) 58 _ HB2.out (by show 0 + 8 ≤ 8; omega) (state_size xs s) (xs.one s) ?_; intro w3 B3 F3 S3; have HF3 := Lib.hid (HF2.out.trans F3 (fun k hk hlt => by rw [List.mem_singleton.1 hk] at hlt; omega)); clear B3 F3 S3)
          | (refine wpList_allocZ rfl 58 rfl _ state_zero ?_; intro w2 B2 F2 S2; have HB2 := Lib.hid B2; have HF2 := Lib.hid F2; clear B2 F2 S2))
        have HFz := Lib.hid ((HFy.out).trans0 (HF1.out.trans0 HF3.out))
        generalize w3 = wz at *
        clear HF3 HB2 HF2 HF1 hb HNE
        (first | (go_ret; exact ⟨rfl, HFz.out⟩) | (go_wp2_with fail; go_ret; exact ⟨rfl, HFz.out⟩))
  · have hb : (ee == 0) = false := by simpa using he
    have HNE := Lib.hid he
    clear he
    go_wp2_with (first
      | (refine wpList_storeB rfl 34 _ _ rfl w1.heap.size 0 (xe.cells ae ce) (by rfl) (by rfl) 34 _ HB2.out (by show 0 + 27 ≤ 27; omega) (entry_size2 xe ae ce) (xe.one ae ce) ?_; intro w3 B3 F3 S3; have HF3 := Lib.hid (HF2.out.trans F3 (fun k hk hlt => by rw [List.mem_singleton.1 hk] at hlt; omega)); clear B3 F3 S3)
      | (refine wpList_allocZ rfl 34 rfl _ entry_zero2 ?_; intro w2 B2 F2 S2; have HB2 := Lib.hid B2; have HF2 := Lib.hid F2; clear B2 F2 S2))
    have HFx := Lib.hid ((HFv.out).trans0 (HF1.out.trans0 HF3.out))
    generalize w3 = wx at *
    clear HF3 HB2 HF2 HF1 hb HNE
    refine (HDA.out wx HFx.out).mono ?_
    rintro e w1 ⟨v, rfl, O, f1⟩
    obtain ⟨aa, ca, ab, cb, rfl, own, rw1⟩ := O; have HV := Lib.hid (And.intro (own.rdS (X := X0) (fun _ _ h => h)).1 (rw1.rowA (EL := LeaAt) (fun _ _ h => LeaW.at h))); have HF1 := Lib.hid f1; clear f1 own rw1
    dsimp only
    by_cases he : ea = 0
    · obtain ⟨henc, hok, hsm⟩ := HXA.out he
      have HEN := Lib.hid henc
      have HOK := Lib.hid hok
      have HSM := Lib.hid hsm
      rw [he]
      clear henc hok hsm he
      go_wp2_with (first
        | (have z := HB3.out; clear z; refine wpList_loadB rfl 49 _ rfl w1.heap.size (by rfl) 49 _ _ HB3.out Try.underlying49 rfl (answer_size xa aa ca ab cb) ?_)
        | (refine wpList_storeB rfl 49 _ _ rfl w1.heap.size 0 (xa.cells aa ca ab cb) (by rfl) (by rfl) 49 _ HB2.out (by show 0 + 5 ≤ 5; omega) (answer_size xa aa ca ab cb) (by simp [Value.oneCell', Ans.cells]) ?_; intro w3 B3 F3 S3; rw [splice_all _ _ (by rfl)] at B3; have HB3 := Lib.hid B3; have HF3 := Lib.hid (HF2.out.trans F3 (fun k hk hlt => by rw [List.mem_singleton.1 hk] at hlt; omega)); clear B3 F3 S3)
        | (refine wpList_allocZ rfl 49 rfl _ answer_zero3 ?_; intro w2 B2 F2 S2; have HB2 := Lib.hid B2; have HF2 := Lib.hid F2; clear B2 F2 S2))
      have HFB := Lib.hid ((HFx.out).trans0 (HF1.out.trans0 HF3.out))
      refine (encodeA_calls (w := w3) (base := w3.heap.size) (Nat.le_refl _) xa aa ca ab cb _ (HV.out.1.fr0 HF3.out) ((Classical.choose_spec HV.out.2).fr0 HF3.out (fun _ _ _ _ f h => LeaAt.fr0 f h)) HOK.out HSM.out).mono ?_
      rintro e w4 ⟨v4, rfl, o4, f4⟩
      rw [HEN.out] at o4 ⊢
      obtain ⟨a4, k4, rfl, _, _, r4⟩ := o4.form
      have HFW := Lib.hid (HFB.out.trans0 f4)
      have HR4 := Lib.hid r4
      clear o4 r4 f4
      dsimp only
      go_wp2_with fail
      refine (bytes_calls w4 a4 a k4 c l.length n l l rfl HS.out.len HS.out.byt HS.out.byt HR4.out (HR.out.fr0 HFW.out)).mono ?_
      rintro e w5 ⟨rfl, rfl⟩
      rw [show decide (l = l) = true from decide_eq_true rfl]
      go_wp2_with fail
      generalize w4 = wy at *
      have HFy := Lib.hid HFW.out
      clear HFW HR4 HFB HF3 HB3 HB2 HF2 HF1
      refine (HDS.out wy HFy.out).mono ?_
      rintro e w1 ⟨v, rfl, O, f1⟩
      obtain ⟨s, rfl, hst⟩ := O.at; have HV := Lib.hid hst; have HF1 := Lib.hid f1; clear hst f1 O
      dsimp only
      by_cases he : es = 0
      · obtain ⟨henc, hok, hsm⟩ := HXS.out he
        have HEN := Lib.hid henc
        have HOK := Lib.hid hok
        have HSM := Lib.hid hsm
        rw [he]
        clear henc hok hsm he
        go_wp2_with (first
          | (have z := HB3.out; clear z; refine wpList_loadB rfl 58 _ rfl w1.heap.size (by rfl) 58 _ _ HB3.out Try.underlying58 rfl (state_size xs s) ?_)
          | (refine wpList_storeB rfl 58 _ _ rfl w1.heap.size 0 (xs.cells s) (by rfl) (by rfl) 58 _ HB2.out (by show 0 + 8 ≤ 8; omega) (state_size xs s) (xs.one s) ?_; intro w3 B3 F3 S3; rw [splice_all _ _ (by rfl)] at B3; have HB3 := Lib.hid B3; have HF3 := Lib.hid (HF2.out.trans F3 (fun k hk hlt => by rw [List.mem_singleton.1 hk] at hlt; omega)); clear B3 F3 S3)
          | (refine wpList_allocZ rfl 58 rfl _ state_zero ?_; intro w2 B2 F2 S2; have HB2 := Lib.hid B2; have HF2 := Lib.hid F2; clear B2 F2 S2))
        have HFB := Lib.hid ((HFy.out).trans0 (HF1.out.trans0 HF3.out))
        refine (encodeS_calls (w := w3) (base := w3.heap.size) (Nat.le_refl _) xs s (HV.out.fr0 HF3.out) HOK.out HSM.out).mono ?_
        rintro e w4 ⟨v4, rfl, o4, f4⟩
        rw [HEN.out] at o4 ⊢
        obtain ⟨a4, k4, rfl, _, _, r4⟩ := o4.form
        have HFW := Lib.hid (HFB.out.trans0 f4)
        have HR4 := Lib.hid r4
        clear o4 r4 f4
        dsimp only
        go_wp2_with fail
        refine (bytes_calls w4 a4 a k4 c l.length n l l rfl HS.out.len HS.out.byt HS.out.byt HR4.out (HR.out.fr0 HFW.out)).mono ?_
        rintro e w5 ⟨rfl, rfl⟩
        rw [show decide (l = l) = true from decide_eq_true rfl]
        go_wp2_with fail
        generalize w4 = wz at *
        have HFz := Lib.hid HFW.out
        clear HFW HR4 HFB HF3 HB3 HB2 HF2 HF1
        (first | (go_ret; exact ⟨rfl, HFz.out⟩) | (go_wp2_with fail; go_ret; exact ⟨rfl, HFz.out⟩))
      · have hb : (es == 0) = false := by simpa using he
        have HNE := Lib.hid he
        clear he
        go_wp2_with (first
          | (refine wpList_storeB rfl 58 _ _ rfl w1.heap.size 0 (xs.cells s) (by rfl) (by rfl) 58 _ HB2.out (by show 0 + 8 ≤ 8; omega) (state_size xs s) (xs.one s) ?_; intro w3 B3 F3 S3; have HF3 := Lib.hid (HF2.out.trans F3 (fun k hk hlt => by rw [List.mem_singleton.1 hk] at hlt; omega)); clear B3 F3 S3)
          | (refine wpList_allocZ rfl 58 rfl _ state_zero ?_; intro w2 B2 F2 S2; have HB2 := Lib.hid B2; have HF2 := Lib.hid F2; clear B2 F2 S2))
        have HFz := Lib.hid ((HFy.out).trans0 (HF1.out.trans0 HF3.out))
        generalize w3 = wz at *
        clear HF3 HB2 HF2 HF1 hb HNE
        (first | (go_ret; exact ⟨rfl, HFz.out⟩) | (go_wp2_with fail; go_ret; exact ⟨rfl, HFz.out⟩))
    · have hb : (ea == 0) = false := by simpa using he
      have HNE := Lib.hid he
      clear he
      go_wp2_with (first
        | (refine wpList_storeB rfl 49 _ _ rfl w1.heap.size 0 (xa.cells aa ca ab cb) (by rfl) (by rfl) 49 _ HB2.out (by show 0 + 5 ≤ 5; omega) (answer_size xa aa ca ab cb) (by simp [Value.oneCell', Ans.cells]) ?_; intro w3 B3 F3 S3; have HF3 := Lib.hid (HF2.out.trans F3 (fun k hk hlt => by rw [List.mem_singleton.1 hk] at hlt; omega)); clear B3 F3 S3)
        | (refine wpList_allocZ rfl 49 rfl _ answer_zero3 ?_; intro w2 B2 F2 S2; have HB2 := Lib.hid B2; have HF2 := Lib.hid F2; clear B2 F2 S2))
      have HFy := Lib.hid ((HFx.out).trans0 (HF1.out.trans0 HF3.out))
      generalize w3 = wy at *
      clear HF3 HB2 HF2 HF1 hb HNE
      refine (HDS.out wy HFy.out).mono ?_
      rintro e w1 ⟨v, rfl, O, f1⟩
      obtain ⟨s, rfl, hst⟩ := O.at; have HV := Lib.hid hst; have HF1 := Lib.hid f1; clear hst f1 O
      dsimp only
      by_cases he : es = 0
      · obtain ⟨henc, hok, hsm⟩ := HXS.out he
        have HEN := Lib.hid henc
        have HOK := Lib.hid hok
        have HSM := Lib.hid hsm
        rw [he]
        clear henc hok hsm he
        go_wp2_with (first
          | (have z := HB3.out; clear z; refine wpList_loadB rfl 58 _ rfl w1.heap.size (by rfl) 58 _ _ HB3.out Try.underlying58 rfl (state_size xs s) ?_)
          | (refine wpList_storeB rfl 58 _ _ rfl w1.heap.size 0 (xs.cells s) (by rfl) (by rfl) 58 _ HB2.out (by show 0 + 8 ≤ 8; omega) (state_size xs s) (xs.one s) ?_; intro w3 B3 F3 S3; rw [splice_all _ _ (by rfl)] at B3; have HB3 := Lib.hid B3; have HF3 := Lib.hid (HF2.out.trans F3 (fun k hk hlt => by rw [List.mem_singleton.1 hk] at hlt; omega)); clear B3 F3 S3)
          | (refine wpList_allocZ rfl 58 rfl _ state_zero ?_; intro w2 B2 F2 S2; have HB2 := Lib.hid B2; have HF2 := Lib.hid F2; clear B2 F2 S2))
        have HFB := Lib.hid ((HFy.out).trans0 (HF1.out.trans0 HF3.out))
        refine (encodeS_calls (w := w3) (base := w3.heap.size) (Nat.le_refl _) xs s (HV.out.fr0 HF3.out) HOK.out HSM.out).mono ?_
        rintro e w4 ⟨v4, rfl, o4, f4⟩
        rw [HEN.out] at o4 ⊢
        obtain ⟨a4, k4, rfl, _, _, r4⟩ := o4.form
        have HFW := Lib.hid (HFB.out.trans0 f4)
        have HR4 := Lib.hid r4
        clear o4 r4 f4
        dsimp only
        go_wp2_with fail
        refine (bytes_calls w4 a4 a k4 c l.length n l l rfl HS.out.len HS.out.byt HS.out.byt HR4.out (HR.out.fr0 HFW.out)).mono ?_
        rintro e w5 ⟨rfl, rfl⟩
        rw [show decide (l = l) = true from decide_eq_true rfl]
        go_wp2_with fail
        generalize w4 = wz at *
        have HFz := Lib.hid HFW.out
        clear HFW HR4 HFB HF3 HB3 HB2 HF2 HF1
        (first | (go_ret; exact ⟨rfl, HFz.out⟩) | (go_wp2_with fail; go_ret; exact ⟨rfl, HFz.out⟩))
      · have hb : (es == 0) = false := by simpa using he
        have HNE := Lib.hid he
        clear he
        go_wp2_with (first
          | (refine wpList_storeB rfl 58 _ _ rfl w1.heap.size 0 (xs.cells s) (by rfl) (by rfl) 58 _ HB2.out (by show 0 + 8 ≤ 8; omega) (state_size xs s) (xs.one s) ?_; intro w3 B3 F3 S3; have HF3 := Lib.hid (HF2.out.trans F3 (fun k hk hlt => by rw [List.mem_singleton.1 hk] at hlt; omega)); clear B3 F3 S3)
          | (refine wpList_allocZ rfl 58 rfl _ state_zero ?_; intro w2 B2 F2 S2; have HB2 := Lib.hid B2; have HF2 := Lib.hid F2; clear B2 F2 S2))
        have HFz := Lib.hid ((HFy.out).trans0 (HF1.out.trans0 HF3.out))
        generalize w3 = wz at *
        clear HF3 HB2 HF2 HF1 hb HNE
        (first | (go_ret; exact ⟨rfl, HFz.out⟩) | (go_wp2_with fail; go_ret; exact ⟨rfl, HFz.out⟩))
end Go.Fur
