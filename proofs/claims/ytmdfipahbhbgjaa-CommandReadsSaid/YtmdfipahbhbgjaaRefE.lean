/- The document's Entry: contract. -/
import Derived.Test.YtmdfipahbhbgjaaRefT
import Derived.Test.YtmdfipahbhbgjaaReg2
import Derived.Test.YtmdfipahbhbgjaaCmdE
import Derived.Test.YtmdfipahbhbgjaaSameE
namespace Go.Fur
open Go Go.RowKit Go.Proofs
set_option linter.unusedVariables false
set_option linter.unusedSimpArgs false
set_option maxRecDepth 100000 in
set_option maxHeartbeats 2000000 in
theorem entryR_calls {w : World} {base : Nat} (hbase : base ≤ w.heap.size) (t : Ent) (a : Option Addr) (c : Nat) (hr : Rd w a (iv t.cmd.task.tickets)) (hok : t.ok) (hlen : t.cmd.task.tickets.length ≤ 1048576) :
    Calls Try.prog 13 #[.agg (t.cells a c).toArray] w (EncE base (encE t) w) := by
  have HQ := Lib.hid hok
  have HR := Lib.hid hr
  have HL := Lib.hid hlen
  clear hok hr
  by_cases h1 : 1024 < t.cmd.task.tickets.length
  · have h1b : (1024 : Int) < (t.cmd.task.tickets.length : Int) := by omega
    have e1 : encE t = ([], 3) := by unfold encE Ent.err; rw [if_pos h1]; rfl
    rw [e1]
    clear e1
    go_enter Try.func13, Try.ntmps13
    go_wp2_with (first
      | (refine wpList_boxB rfl 34 _ rfl (t.cells a c) (by rfl) ?_; intro w1 B1 F1 S1; have HB1 := Lib.hid B1; have HF1 := Lib.hid F1; have HS1 := Lib.hid S1; clear B1 F1 S1)
      | (refine wpList_load_mid rfl 32 _ rfl w.heap.size 3 rfl (t.cmd.cells a c) _ (HB1.out.range 3 24) Try.underlying32 rfl (cmd_size2 t.cmd a c) ?_)
      | (refine wpList_allocZ rfl 32 rfl _ rcommand_zero ?_; intro w2 B2 F2 S2; have HB2 := Lib.hid B2; have HF2 := Lib.hid F2; have HS2 := Lib.hid S2; clear B2 F2 S2)
      | (refine wpList_storeB rfl 32 _ _ rfl w1.heap.size 0 (t.cmd.cells a c) (by rfl) (by rfl) 32 _ HB2.out (by simp [Que.cells, Nod.cells, Tas.cells, Cmd.cells]) (cmd_size2 t.cmd a c) (t.cmd.one a c) ?_; intro w3 B3 F3 S3; rw [splice_all _ _ (by simp [Que.cells, Nod.cells, Tas.cells, Cmd.cells])] at B3; have HE4 := (HB1.out.fr HF2.out (by simp)).fr F3 (by have := HS1.out; simp; omega); have c0 : w3.cell? ⟨w.heap.size, 0, none⟩ = some (.int .i64 t.gap) := HE4.cellAt rfl; have c1 : w3.cell? ⟨w.heap.size, 1, none⟩ = some (.int .i64 t.client) := HE4.cellAt rfl; have c2 : w3.cell? ⟨w.heap.size, 2, none⟩ = some (.int .i64 t.seq) := HE4.cellAt rfl; have d0 : w3.cell? ⟨w1.heap.size, 0, none⟩ = some (.int .i64 t.cmd.kind) := B3.cellAt rfl; have d22 : w3.cell? ⟨w1.heap.size, 22, none⟩ = some (.slice a t.cmd.task.tickets.length c) := B3.cellAt rfl; have HC3 := Lib.hid B3; have HF3 := Lib.hid ((HF1.out.trans0 HF2.out).trans F3 (fun k hk hlt => by have := HS1.out; rw [List.mem_singleton.1 hk] at hlt; omega)); clear HE4 B3 F3 S3)
      | (refine wpList_buildN rfl 81 2 3 [(0, .tmp 19), (1, .tmp 21), (2, .tmp 23)] rfl [(0, .int .i64 t.gap), (1, .int .i64 t.client), (2, .int .i64 t.seq)] (by rfl) _ (buildI_3 t.gap t.client t.seq) ?_; intro w4 B4 F4 S4; have HB4 := Lib.hid B4; have HF4 := Lib.hid F4; clear B4 F4 S4))
    go_ret2
    exact ⟨_, rfl, Own.nil _ _ _ _, HF3.out⟩
  · have h1b : ¬ (1024 : Int) < (t.cmd.task.tickets.length : Int) := by omega
    by_cases h2 : t.cmd.kind < 0
    · have e1 : encE t = ([], 1) := by unfold encE Ent.err; rw [if_neg h1, if_pos h2]; rfl
      rw [e1]
      clear e1
      go_enter Try.func13, Try.ntmps13
      go_wp2_with (first
        | (refine wpList_boxB rfl 34 _ rfl (t.cells a c) (by rfl) ?_; intro w1 B1 F1 S1; have HB1 := Lib.hid B1; have HF1 := Lib.hid F1; have HS1 := Lib.hid S1; clear B1 F1 S1)
        | (refine wpList_load_mid rfl 32 _ rfl w.heap.size 3 rfl (t.cmd.cells a c) _ (HB1.out.range 3 24) Try.underlying32 rfl (cmd_size2 t.cmd a c) ?_)
        | (refine wpList_allocZ rfl 32 rfl _ rcommand_zero ?_; intro w2 B2 F2 S2; have HB2 := Lib.hid B2; have HF2 := Lib.hid F2; have HS2 := Lib.hid S2; clear B2 F2 S2)
        | (refine wpList_storeB rfl 32 _ _ rfl w1.heap.size 0 (t.cmd.cells a c) (by rfl) (by rfl) 32 _ HB2.out (by simp [Que.cells, Nod.cells, Tas.cells, Cmd.cells]) (cmd_size2 t.cmd a c) (t.cmd.one a c) ?_; intro w3 B3 F3 S3; rw [splice_all _ _ (by simp [Que.cells, Nod.cells, Tas.cells, Cmd.cells])] at B3; have HE4 := (HB1.out.fr HF2.out (by simp)).fr F3 (by have := HS1.out; simp; omega); have c0 : w3.cell? ⟨w.heap.size, 0, none⟩ = some (.int .i64 t.gap) := HE4.cellAt rfl; have c1 : w3.cell? ⟨w.heap.size, 1, none⟩ = some (.int .i64 t.client) := HE4.cellAt rfl; have c2 : w3.cell? ⟨w.heap.size, 2, none⟩ = some (.int .i64 t.seq) := HE4.cellAt rfl; have d0 : w3.cell? ⟨w1.heap.size, 0, none⟩ = some (.int .i64 t.cmd.kind) := B3.cellAt rfl; have d22 : w3.cell? ⟨w1.heap.size, 22, none⟩ = some (.slice a t.cmd.task.tickets.length c) := B3.cellAt rfl; have HC3 := Lib.hid B3; have HF3 := Lib.hid ((HF1.out.trans0 HF2.out).trans F3 (fun k hk hlt => by have := HS1.out; rw [List.mem_singleton.1 hk] at hlt; omega)); clear HE4 B3 F3 S3)
        | (refine wpList_buildN rfl 81 2 3 [(0, .tmp 19), (1, .tmp 21), (2, .tmp 23)] rfl [(0, .int .i64 t.gap), (1, .int .i64 t.client), (2, .int .i64 t.seq)] (by rfl) _ (buildI_3 t.gap t.client t.seq) ?_; intro w4 B4 F4 S4; have HB4 := Lib.hid B4; have HF4 := Lib.hid F4; clear B4 F4 S4))
      go_ret2
      exact ⟨_, rfl, Own.nil _ _ _ _, HF3.out⟩
    · have e1 : encE t = (t.enc, 0) := by unfold encE Ent.err; rw [if_neg h1, if_neg h2]; rfl
      rw [e1]
      clear e1
      go_enter Try.func13, Try.ntmps13
      go_wp2_with (first
        | (refine wpList_boxB rfl 34 _ rfl (t.cells a c) (by rfl) ?_; intro w1 B1 F1 S1; have HB1 := Lib.hid B1; have HF1 := Lib.hid F1; have HS1 := Lib.hid S1; clear B1 F1 S1)
        | (refine wpList_load_mid rfl 32 _ rfl w.heap.size 3 rfl (t.cmd.cells a c) _ (HB1.out.range 3 24) Try.underlying32 rfl (cmd_size2 t.cmd a c) ?_)
        | (refine wpList_allocZ rfl 32 rfl _ rcommand_zero ?_; intro w2 B2 F2 S2; have HB2 := Lib.hid B2; have HF2 := Lib.hid F2; have HS2 := Lib.hid S2; clear B2 F2 S2)
        | (refine wpList_storeB rfl 32 _ _ rfl w1.heap.size 0 (t.cmd.cells a c) (by rfl) (by rfl) 32 _ HB2.out (by simp [Que.cells, Nod.cells, Tas.cells, Cmd.cells]) (cmd_size2 t.cmd a c) (t.cmd.one a c) ?_; intro w3 B3 F3 S3; rw [splice_all _ _ (by simp [Que.cells, Nod.cells, Tas.cells, Cmd.cells])] at B3; have HE4 := (HB1.out.fr HF2.out (by simp)).fr F3 (by have := HS1.out; simp; omega); have c0 : w3.cell? ⟨w.heap.size, 0, none⟩ = some (.int .i64 t.gap) := HE4.cellAt rfl; have c1 : w3.cell? ⟨w.heap.size, 1, none⟩ = some (.int .i64 t.client) := HE4.cellAt rfl; have c2 : w3.cell? ⟨w.heap.size, 2, none⟩ = some (.int .i64 t.seq) := HE4.cellAt rfl; have d0 : w3.cell? ⟨w1.heap.size, 0, none⟩ = some (.int .i64 t.cmd.kind) := B3.cellAt rfl; have d22 : w3.cell? ⟨w1.heap.size, 22, none⟩ = some (.slice a t.cmd.task.tickets.length c) := B3.cellAt rfl; have HC3 := Lib.hid B3; have HF3 := Lib.hid ((HF1.out.trans0 HF2.out).trans F3 (fun k hk hlt => by have := HS1.out; rw [List.mem_singleton.1 hk] at hlt; omega)); clear HE4 B3 F3 S3)
        | (refine wpList_buildN rfl 81 2 3 [(0, .tmp 19), (1, .tmp 21), (2, .tmp 23)] rfl [(0, .int .i64 t.gap), (1, .int .i64 t.client), (2, .int .i64 t.seq)] (by rfl) _ (buildI_3 t.gap t.client t.seq) ?_; intro w4 B4 F4 S4; have HB4 := Lib.hid B4; have HF4 := Lib.hid F4; clear B4 F4 S4))
      have G4 := Grow.nil (base := w.heap.size) (HF3.out.trans0 HF4.out)
      refine (put_calls (w := w4) (base := w.heap.size) G4.2.1.size (.slice none 0 0) [] G4.1 _ 3 3 [t.gap, t.client, t.seq] rfl (HB4.out.rdA (by simp)) HQ.out.1 (by simp)).mono ?_
      rintro e w5 ⟨v5, rfl, O5, F5, K5⟩
      have HG5 := Lib.hid (G4.put O5 F5 K5)
      have HC5 := Lib.hid ((HC3.out.fr HF4.out (by simp)).fr F5 (by simp))
      have e0 : w5.cell? ⟨w1.heap.size, 0, none⟩ = some (.int .i64 t.cmd.kind) := HC5.out.cellAt rfl
      clear G4 O5 F5 K5 c0 c1 c2 d0 d22
      rw [List.nil_append] at HG5
      have hl3 := intsE_length [t.gap, t.client, t.seq]
      simp only [List.length_cons, List.length_nil] at hl3
      have HE3 := Lib.hid (show intsE [t.gap, t.client, t.seq] ++ layN (u64 t.cmd.kind) ++ intsE [t.cmd.id, t.cmd.inc, t.cmd.beat, t.cmd.since] ++ intsE t.cmd.queue.ints ++ intsE t.cmd.node.ints ++ t.cmd.task.enc = t.enc by unfold Ent.enc Cmd.enc; simp only [List.append_assoc])
      generalize intsE [t.gap, t.client, t.seq] = b5 at *
      go_wp2_with fail
      rw [u64_wrap]
      refine (num_calls (w := w5) (base := w.heap.size) HG5.out.2.1.size (u64 t.cmd.kind) (u64_lt _)).mono ?_
      rintro e w6 ⟨v6, rfl, O6, F6⟩
      obtain ⟨a6, k6, rfl, _, _, R6⟩ := O6.form
      have HG6 := Lib.hid (HG5.out.fr0 F6)
      have HC6 := Lib.hid (HC5.out.fr F6 (by simp))
      have HR6 := Lib.hid R6
      have hl6 : (layN (u64 t.cmd.kind)).length ≤ 9 := by rw [layN_length]; have := kl_le (u64 t.cmd.kind); omega
      clear O6 F6 R6 e0 HG5 HC5
      generalize layN (u64 t.cmd.kind) = b6 at *
      have hz6 := HG6.out.2.1.size
      go_wp2_with (first
        | (refine wpList_appB rfl _ _ 37 37 rfl w.heap.size 5 5 .u8 1 Try.underlying37 Try.underlying37 info_byte _ b5.length (bv b5) (by rfl) HG6.out.1 a6 b6.length k6 (bv b6) (by rfl) HR6.out (by simp) (bv_one _) (by simp only [maxLen]; omega) (by omega) (by omega) ?_; intro v7 w7 O7 F7 K7 _; have HG7 := Lib.hid (HG6.out.app O7 F7 K7); have HC7 := Lib.hid (HC6.out.fr F7 (HG6.out.ne HC6.out (by decide))); have e1 : w7.cell? ⟨w1.heap.size, 1, none⟩ = some (.int .i64 t.cmd.id) := HC7.out.cellAt rfl; have e2 : w7.cell? ⟨w1.heap.size, 2, none⟩ = some (.int .i64 t.cmd.inc) := HC7.out.cellAt rfl; have e3 : w7.cell? ⟨w1.heap.size, 3, none⟩ = some (.int .i64 t.cmd.beat) := HC7.out.cellAt rfl; have e4 : w7.cell? ⟨w1.heap.size, 4, none⟩ = some (.int .i64 t.cmd.since) := HC7.out.cellAt rfl; clear O7 F7 K7)
        | (refine wpList_buildN rfl 81 2 4 [(0, .tmp 34), (1, .tmp 36), (2, .tmp 38), (3, .tmp 40)] rfl [(0, .int .i64 t.cmd.id), (1, .int .i64 t.cmd.inc), (2, .int .i64 t.cmd.beat), (3, .int .i64 t.cmd.since)] (by rfl) _ (buildI_4 t.cmd.id t.cmd.inc t.cmd.beat t.cmd.since) ?_; intro w8 B8 F8 S8; have HB8 := Lib.hid B8; have HG8 := Lib.hid (HG7.out.fr0 F8); have HC8 := Lib.hid (HC7.out.fr F8 (by simp)); clear B8 F8 S8))
      refine (put_calls (w := w8) (base := w.heap.size) HG8.out.2.1.size v7 (b5 ++ b6) HG8.out.1 _ 4 4 [t.cmd.id, t.cmd.inc, t.cmd.beat, t.cmd.since] rfl (HB8.out.rdA (HG7.out.new (Nat.le_refl _))) (fun x hx => HQ.out.2.1 x (List.mem_cons_of_mem _ hx)) (by rw [List.length_append]; omega)).mono ?_
      rintro e w9 ⟨v9, rfl, O9, F9, K9⟩
      have HG9 := Lib.hid (HG8.out.put O9 F9 K9)
      have HC9 := Lib.hid (HC8.out.fr F9 (HG8.out.ne HC8.out (by decide)))
      clear O9 F9 K9 e1 e2 e3 e4
      have hl9 := intsE_length [t.cmd.id, t.cmd.inc, t.cmd.beat, t.cmd.since]
      simp only [List.length_cons, List.length_nil] at hl9
      have hl9' : (b5 ++ b6 ++ intsE [t.cmd.id, t.cmd.inc, t.cmd.beat, t.cmd.since]).length ≤ 200 := by simp only [List.length_append]; omega
      generalize b5 ++ b6 ++ intsE [t.cmd.id, t.cmd.inc, t.cmd.beat, t.cmd.since] = b9 at *
      go_wp2_with fail
      have hl10 := intsE_length t.cmd.queue.ints
      have hl11 := intsE_length t.cmd.node.ints
      simp only [List.length_cons, List.length_nil, Que.ints, Nod.ints] at hl10 hl11
      refine wp_region_ord (fun W => Blk W w1.heap.size 32 (t.cmd.cells a c)) [0, 1, 2, 5, 6, 3, 4, 7, 8, 9] [] [3, 4, 7, 8] [2, 6] mixed (by kernel_rfl) ?_
      have hS : Blk w9.drew w1.heap.size 32 (t.cmd.cells a c) := HC9.out
      simp only [pairs, pickN]
      refine wpO_free v9 (by rfl) (by rfl) (fun w' => by go_simp) ?_
      simp only [Act.put, List.setIfInBounds_toArray, List.set_cons_zero, List.set_cons_succ]
      (refine wpO_free ?_ (by rfl) (by rfl) (fun w' => ?_) ?_; rotate_left; (go_simp; rfl); simp only [Act.put, List.setIfInBounds_toArray, List.set_cons_zero, List.set_cons_succ])
      refine wpO_take (.agg t.cmd.queue.cells.toArray) hS (by rfl) (by rfl) (fun w' hw' => run_loadM 25 _ rfl w1.heap.size 5 (by rfl) t.cmd.queue.cells _ (hw'.range 5 7) Try.underlying25 rfl (by kernel_rfl)) ?_
      simp only [Act.put, List.setIfInBounds_toArray, List.set_cons_zero, List.set_cons_succ]
      (refine wpO_free ?_ (by rfl) (by rfl) (fun w' => ?_) ?_; rotate_left; (go_simp; rfl); simp only [Act.put, List.setIfInBounds_toArray, List.set_cons_zero, List.set_cons_succ])
      refine wpO_take (.agg t.cmd.node.cells.toArray) hS (by rfl) (by rfl) (fun w' hw' => run_loadM 27 _ rfl w1.heap.size 12 (by rfl) t.cmd.node.cells _ (hw'.range 12 5) Try.underlying27 rfl (by kernel_rfl)) ?_
      simp only [Act.put, List.setIfInBounds_toArray, List.set_cons_zero, List.set_cons_succ]
      refine wpO_eff (by rfl) ?_
      refine wpList_callC rfl 39 #[.agg t.cmd.queue.cells.toArray] (by first | (go_simp; done) | (go_simp; rfl)) _ (rq_calls _ t.cmd.queue) ?_
      rintro e' w10 ⟨g10, rfl, hg10, B10, F10⟩
      refine ⟨_, rfl, ?_⟩
      have G10 := (HG9.out.fr0 (w2 := w9.drew) ((Fr.refl [] w9).drew)).fr0 F10
      have C10 := hS.fr F10 (by simp)
      refine effQ_keep C10 ?_
      simp only [Act.put, List.setIfInBounds_toArray, List.set_cons_zero, List.set_cons_succ]
      refine wpO_eff (by rfl) ?_
      refine wpList_callC rfl 37 #[v9, .slice (some ⟨g10, 0, none⟩) 7 7] (by first | (go_simp; done) | (go_simp; rfl)) _ (put_calls (w := w10) (base := w.heap.size) G10.2.1.size v9 b9 G10.1 _ 7 7 t.cmd.queue.ints rfl (B10.rdA (fun hm => by have := (HG9.out.1.lt hm).2; have : w9.drew.heap.size = w9.heap.size := rfl; omega)) HQ.out.2.2.1 (by omega)) ?_
      rintro e' w11 ⟨v11, rfl, O11, F11, K11⟩
      refine ⟨_, rfl, ?_⟩
      have G11 := G10.put O11 F11 K11
      have C11 := C10.fr F11 (G10.ne C10 (by decide))
      refine effQ_keep C11 ?_
      simp only [Act.put, List.setIfInBounds_toArray, List.set_cons_zero, List.set_cons_succ]
      refine wpO_eff (by rfl) ?_
      refine wpList_callC rfl 40 #[.agg t.cmd.node.cells.toArray] (by first | (go_simp; done) | (go_simp; rfl)) _ (rn_calls _ t.cmd.node) ?_
      rintro e' w12 ⟨g12, rfl, hg12, B12, F12⟩
      refine ⟨_, rfl, ?_⟩
      have G12 := G11.fr0 F12
      have C12 := C11.fr F12 (by simp)
      refine effQ_keep C12 ?_
      simp only [Act.put, List.setIfInBounds_toArray, List.set_cons_zero, List.set_cons_succ]
      refine wpO_eff (by rfl) ?_
      refine wpList_callC rfl 37 #[v11, .slice (some ⟨g12, 0, none⟩) 5 5] (by first | (go_simp; done) | (go_simp; rfl)) _ (put_calls (w := w12) (base := w.heap.size) G12.2.1.size v11 _ G12.1 _ 5 5 t.cmd.node.ints rfl (B12.rdA (fun hm => by have := (G11.1.lt hm).2; omega)) HQ.out.2.2.2.1 (by simp only [List.length_append, Que.ints]; omega)) ?_
      rintro e' w13 ⟨v13, rfl, O13, F13, K13⟩
      refine ⟨_, rfl, ?_⟩
      have G13 := G12.put O13 F13 K13
      have C13 := C12.fr F13 (G12.ne C12 (by decide))
      refine effQ_keep C13 ?_
      simp only [Act.put, List.setIfInBounds_toArray, List.set_cons_zero, List.set_cons_succ]
      refine wpO_free v13 (by rfl) (by rfl) (fun w' => by go_simp) ?_
      simp only [Act.put, List.setIfInBounds_toArray, List.set_cons_zero, List.set_cons_succ]
      refine wpO_nil ?_
      have HG13 := Lib.hid G13
      have HC13 := Lib.hid C13
      have hl13 : (b9 ++ intsE t.cmd.queue.ints ++ intsE t.cmd.node.ints).length ≤ 400 := by simp only [List.length_append, Que.ints, Nod.ints]; omega
      clear G10 G11 G12 G13 C10 C11 C12 C13 O11 F11 K11 O13 F13 K13 B10 F10 B12 F12 hS
      generalize b9 ++ intsE t.cmd.queue.ints ++ intsE t.cmd.node.ints = b13 at *
      go_wp2_with (refine wpList_load_mid rfl 30 _ rfl w1.heap.size 17 rfl (t.cmd.task.cells a c) _ (HC13.out.range 17 7) Try.underlying30 rfl (by kernel_rfl) ?_)
      refine (taskR_calls (w := w13) (base := w.heap.size) HG13.out.2.1.size t.cmd.task a c (HR.out.fr0 HG13.out.2.1) HQ.out.2.2.2.2 hlen).mono ?_
      rintro e w14 ⟨v14, rfl, O14, F14⟩
      obtain ⟨a14, k14, rfl, _, _, R14⟩ := O14.form
      have HG14 := Lib.hid (HG13.out.fr0 F14)
      have HR14 := Lib.hid R14
      have hl14 := Tas.enc_length t.cmd.task
      clear O14 F14 R14
      generalize t.cmd.task.enc = b14 at *
      have hz14 := HG14.out.2.1.size
      go_wp2_with (refine wpList_appB rfl _ _ 37 37 rfl w.heap.size 5 5 .u8 1 Try.underlying37 Try.underlying37 info_byte _ b13.length (bv b13) (by rfl) HG14.out.1 a14 b14.length k14 (bv b14) (by rfl) HR14.out (by simp) (bv_one _) (by simp only [maxLen]; omega) (by omega) (by omega) ?_; intro v15 w15 O15 F15 K15 _; have HG15 := Lib.hid (HG14.out.app O15 F15 K15); clear O15 F15 K15)
      go_ret2
      have h15 := HG15.out
      rw [HE3.out] at h15
      exact ⟨v15, rfl, h15.1.base hbase, h15.2.1⟩
end Go.Fur
