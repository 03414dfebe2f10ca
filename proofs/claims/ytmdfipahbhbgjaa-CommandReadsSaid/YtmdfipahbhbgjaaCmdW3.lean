/- The writer of command: task, lease, done: contracts. -/
import Derived.Test.YtmdfipahbhbgjaaCmdW2
import Derived.Deep.QuietTactic
import Derived.BigQuiet
namespace Go.Fur
open Go Go.RowKit Go.Proofs
set_option linter.unusedVariables false
set_option linter.unusedSimpArgs false
/-- A task; a lease. -/
structure Tas where
  id : Int
  queue : Int
  cpu : Int
  mem : Int
  work : Int
  tickets : List Int
  state : Int
structure Lea where
  task : Int
  queue : Int
  node : Int
  cores : List Int
  mem : Int
  since : Int
  until_ : Int
  stop : Bool
def Tas.cells (t : Tas) (a : Option Addr) (c : Nat) : List Value := [.int .i64 t.id, .int .i64 t.queue, .int .i64 t.cpu, .int .i64 t.mem, .int .i64 t.work, .slice a t.tickets.length c, .int .i64 t.state]
def Lea.cells (t : Lea) (a : Option Addr) (c : Nat) : List Value := [.int .i64 t.task, .int .i64 t.queue, .int .i64 t.node, .slice a t.cores.length c, .int .i64 t.mem, .int .i64 t.since, .int .i64 t.until_, .bool t.stop]
/-- The cells cs are those of the task (apart from the blocks X). -/
def TasAt (w : World) (X : Nat → Prop) (cs : List Value) (t : Tas) : Prop := ∃ a c, cs = t.cells a c ∧ RdA w X a (iv t.tickets)
def LeaAt (w : World) (X : Nat → Prop) (cs : List Value) (t : Lea) : Prop := ∃ a c, cs = t.cells a c ∧ RdA w X a (iv t.cores)
def Tas.ok (t : Tas) : Prop := (∀ x ∈ [t.id, t.queue, t.cpu, t.mem, t.work, t.state], I64 x) ∧ ∀ x ∈ t.tickets, I64 x
def Lea.ok (t : Lea) : Prop := (∀ x ∈ [t.task, t.queue, t.node, t.mem, t.since, t.until_], I64 x) ∧ ∀ x ∈ t.cores, I64 x
def Tas.enc (t : Tas) : List Int := intsE [t.id, t.queue, t.cpu, t.mem, t.work] ++ listE t.tickets ++ intsE [t.state]
def Lea.enc (t : Lea) : List Int := intsE [t.task, t.queue, t.node] ++ listE t.cores ++ intsE [t.mem, t.since, t.until_] ++ layN (if t.stop then 1 else 0)
theorem listE_length (l : List Int) : (listE l).length ≤ 9 * (l.length + 1) := by
  have h1 := intsE_length l
  have h2 := layN_length l.length
  have h3 := kl_le l.length
  unfold listE
  rw [List.length_append]
  omega
theorem Tas.enc_length (t : Tas) : t.enc.length ≤ 9 * (t.tickets.length + 7) := by
  have h1 := intsE_length [t.id, t.queue, t.cpu, t.mem, t.work]
  have h2 := listE_length t.tickets
  have h3 := intsE_length [t.state]
  unfold Tas.enc
  simp only [List.length_append, List.length_cons, List.length_nil] at *
  omega
theorem Lea.enc_length (t : Lea) : t.enc.length ≤ 9 * (t.cores.length + 8) := by
  have h1 := intsE_length [t.task, t.queue, t.node]
  have h2 := listE_length t.cores
  have h3 := intsE_length [t.mem, t.since, t.until_]
  have h4 := layN_length (if t.stop then 1 else 0)
  have h5 := kl_le (if t.stop then 1 else 0)
  unfold Lea.enc
  simp only [List.length_append, List.length_cons, List.length_nil] at *
  omega
set_option maxRecDepth 100000 in
set_option maxHeartbeats 1000000 in
theorem task_calls {w : World} {base p : Nat} {v : Value} {bs : List Int} {er : Int} (h : Wr w base p v bs er) (hbw : base ≤ w.heap.size) (cs : List Value) (t : Tas) (ht : TasAt w (Wx p v) cs t) (hok : t.ok) (hr : bs.length + 9 * (t.tickets.length + 9) ≤ 70368744177664) :
    Calls Try.prog 35 #[.pointer (some ⟨p, 0, none⟩), .agg cs.toArray] w (WrE base p v (bs ++ t.enc) (cntE t.tickets.length er) w) := by
  obtain ⟨at_, ct, rfl, ra⟩ := ht
  have HH := Lib.hid h
  have HQ := Lib.hid hok
  have HA := Lib.hid ra
  have hpl := h.hp.lt
  clear h hok ra
  go_enter Try.func35, Try.ntmps35
  go_wp2_with (first
    | (refine wpList_boxB rfl 30 _ rfl (t.cells at_ ct) (by rfl) ?_; intro w1 B1 F1 S1; have c0 : w1.cell? ⟨w.heap.size, 0, none⟩ = some (.int .i64 t.id) := B1.cellAt rfl; have c1 : w1.cell? ⟨w.heap.size, 1, none⟩ = some (.int .i64 t.queue) := B1.cellAt rfl; have c2 : w1.cell? ⟨w.heap.size, 2, none⟩ = some (.int .i64 t.cpu) := B1.cellAt rfl; have c3 : w1.cell? ⟨w.heap.size, 3, none⟩ = some (.int .i64 t.mem) := B1.cellAt rfl; have c4 : w1.cell? ⟨w.heap.size, 4, none⟩ = some (.int .i64 t.work) := B1.cellAt rfl; have HB1 := Lib.hid B1; have HF1 := Lib.hid F1; have HS1 := Lib.hid S1; clear B1 F1 S1)
    | (refine wpList_buildN rfl 81 2 5 [(0, .tmp 6), (1, .tmp 8), (2, .tmp 11), (3, .tmp 14), (4, .tmp 16)] rfl [(0, .int .i64 t.id), (1, .int .i64 t.queue), (2, .int .i64 t.cpu), (3, .int .i64 t.mem), (4, .int .i64 t.work)] (by rfl) _ (buildI_5 t.id t.queue t.cpu t.mem t.work) ?_; intro w2 B2 F2 S2; have HB2 := Lib.hid B2; have HF2 := Lib.hid F2; clear B2 F2 S2))
  have FF := HF1.out.trans0 HF2.out
  have hap := HH.out.ap (g := w1.heap.size) (by have := HS1.out; omega)
  have hapb := HH.out.ap (g := w.heap.size) (Nat.le_refl _)
  refine (int_calls (HH.out.fr0 FF) (by have := FF.size; omega) w1.heap.size 5 [t.id, t.queue, t.cpu, t.mem, t.work] HB2.out hap.1 hap.2 5 rfl (fun x hx => HQ.out.1 x (by simp only [List.mem_cons, List.not_mem_nil, or_false] at hx ⊢; rcases hx with h | h | h | h | h <;> simp [h])) (by omega)).mono ?_
  rintro e w3 ⟨rfl, v3, hW3, hS3⟩
  have S3 := hS3.pre FF
  have B3 := hS3.blk (HB1.out.fr HF2.out (by simp)) hapb.1 hapb.2
  have c5 : w3.cell? ⟨w.heap.size, 5, none⟩ = some (.slice at_ t.tickets.length ct) := B3.cellAt rfl
  have HA3 := Lib.hid (S3.rd HA.out)
  have HB3 := Lib.hid B3
  have HW3 := Lib.hid hW3
  have HS3 := Lib.hid S3
  have hl5 := intsE_length [t.id, t.queue, t.cpu, t.mem, t.work]
  simp only [List.length_cons, List.length_nil] at hl5
  clear hW3 hS3 FF S3 B3 c0 c1 c2 c3 c4 HB1 HB2
  go_wp2_with fail
  refine (list_calls HW3.out (by have := HS3.out.fr.size; omega) at_ t.tickets.length ct t.tickets rfl HA3.out HQ.out.2 (by rw [List.length_append]; omega)).mono ?_
  rintro e w4 ⟨rfl, v4, hW4, hS4⟩
  have hapb3 : w.heap.size ≠ p ∧ w.heap.size ∉ ob v3 := ⟨hapb.1, fun hm => Blk.ne_own HB3.out HW3.out.own (by decide) (mem_ob.1 hm)⟩
  have B4 := hS4.blk HB3.out hapb3.1 hapb3.2
  have c6 : w4.cell? ⟨w.heap.size, 6, none⟩ = some (.int .i64 t.state) := B4.cellAt rfl
  have HW4 := Lib.hid hW4
  have HS4 := Lib.hid (HS3.out.trans hS4)
  have hl6 := listE_length t.tickets
  clear hW4 hS4 B4 HB3 HA3
  go_wp2_with (first
    | (refine wpList_buildN rfl 81 2 1 [(0, .tmp 25)] rfl [(0, .int .i64 t.state)] (by rfl) _ (buildI_1 t.state) ?_; intro w5 B5 F5 S5; have HB5 := Lib.hid B5; have HF5 := Lib.hid F5; clear B5 F5 S5))
  have hap5 := HW4.out.ap (Nat.le_refl w4.heap.size)
  refine (int_calls (HW4.out.fr0 HF5.out) (by have := HS4.out.fr.size; have := HF5.out.size; omega) w4.heap.size 1 [t.state] HB5.out hap5.1 hap5.2 1 rfl (fun x hx => HQ.out.1 x (by rw [List.mem_singleton.1 hx]; simp)) (by rw [List.length_append, List.length_append]; omega)).mono ?_
  rintro e w6 ⟨rfl, v6, hW6, hS6⟩
  have HR := Lib.hid (And.intro hW6 (HS4.out.trans (hS6.pre HF5.out)))
  clear hW6 hS6
  go_wp2_with fail
  go_end0
  refine ⟨rfl, v6, ?_, HR.out.2⟩
  unfold Tas.enc
  rw [← List.append_assoc, ← List.append_assoc]
  exact HR.out.1
set_option maxRecDepth 100000 in
set_option maxHeartbeats 2000000 in
theorem lease_calls {w : World} {base p : Nat} {v : Value} {bs : List Int} {er : Int} (h : Wr w base p v bs er) (hbw : base ≤ w.heap.size) (cs : List Value) (t : Lea) (ht : LeaAt w (Wx p v) cs t) (hok : t.ok) (hr : bs.length + 9 * (t.cores.length + 10) ≤ 70368744177664) :
    Calls Try.prog 63 #[.pointer (some ⟨p, 0, none⟩), .agg cs.toArray] w (WrE base p v (bs ++ t.enc) (cntE t.cores.length er) w) := by
  obtain ⟨at_, ct, rfl, ra⟩ := ht
  have HH := Lib.hid h
  have HQ := Lib.hid hok
  have HA := Lib.hid ra
  have hpl := h.hp.lt
  clear h hok ra
  go_enter Try.func63, Try.ntmps63
  go_wp2_with (first
    | (refine wpList_boxB rfl 124 _ rfl (t.cells at_ ct) (by rfl) ?_; intro w1 B1 F1 S1; have c0 : w1.cell? ⟨w.heap.size, 0, none⟩ = some (.int .i64 t.task) := B1.cellAt rfl; have c1 : w1.cell? ⟨w.heap.size, 1, none⟩ = some (.int .i64 t.queue) := B1.cellAt rfl; have c2 : w1.cell? ⟨w.heap.size, 2, none⟩ = some (.int .i64 t.node) := B1.cellAt rfl; have HB1 := Lib.hid B1; have HF1 := Lib.hid F1; have HS1 := Lib.hid S1; clear B1 F1 S1)
    | (refine wpList_buildN rfl 81 2 3 [(0, .tmp 7), (1, .tmp 9), (2, .tmp 11)] rfl [(0, .int .i64 t.task), (1, .int .i64 t.queue), (2, .int .i64 t.node)] (by rfl) _ (buildI_3 t.task t.queue t.node) ?_; intro w2 B2 F2 S2; have HB2 := Lib.hid B2; have HF2 := Lib.hid F2; clear B2 F2 S2))
  have FF := HF1.out.trans0 HF2.out
  have hap := HH.out.ap (g := w1.heap.size) (by have := HS1.out; omega)
  have hapb := HH.out.ap (g := w.heap.size) (Nat.le_refl _)
  refine (int_calls (HH.out.fr0 FF) (by have := FF.size; omega) w1.heap.size 3 [t.task, t.queue, t.node] HB2.out hap.1 hap.2 3 rfl (fun x hx => HQ.out.1 x (by simp only [List.mem_cons, List.not_mem_nil, or_false] at hx ⊢; rcases hx with h | h | h <;> simp [h])) (by omega)).mono ?_
  rintro e w3 ⟨rfl, v3, hW3, hS3⟩
  have S3 := hS3.pre FF
  have B3 := hS3.blk (HB1.out.fr HF2.out (by simp)) hapb.1 hapb.2
  have c5 : w3.cell? ⟨w.heap.size, 3, none⟩ = some (.slice at_ t.cores.length ct) := B3.cellAt rfl
  have HA3 := Lib.hid (S3.rd HA.out)
  have HB3 := Lib.hid B3
  have HW3 := Lib.hid hW3
  have HS3 := Lib.hid S3
  have hl5 := intsE_length [t.task, t.queue, t.node]
  simp only [List.length_cons, List.length_nil] at hl5
  clear hW3 hS3 FF S3 B3 c0 c1 c2 HB1 HB2
  go_wp2_with fail
  refine (list_calls HW3.out (by have := HS3.out.fr.size; omega) at_ t.cores.length ct t.cores rfl HA3.out HQ.out.2 (by rw [List.length_append]; omega)).mono ?_
  rintro e w4 ⟨rfl, v4, hW4, hS4⟩
  have hapb3 : w.heap.size ≠ p ∧ w.heap.size ∉ ob v3 := ⟨hapb.1, fun hm => Blk.ne_own HB3.out HW3.out.own (by decide) (mem_ob.1 hm)⟩
  have B4 := hS4.blk HB3.out hapb3.1 hapb3.2
  have c6 : w4.cell? ⟨w.heap.size, 4, none⟩ = some (.int .i64 t.mem) := B4.cellAt rfl
  have c7 : w4.cell? ⟨w.heap.size, 5, none⟩ = some (.int .i64 t.since) := B4.cellAt rfl
  have c8 : w4.cell? ⟨w.heap.size, 6, none⟩ = some (.int .i64 t.until_) := B4.cellAt rfl
  have HW4 := Lib.hid hW4
  have HS4 := Lib.hid (HS3.out.trans hS4)
  have HB4 := Lib.hid B4
  have hl6 := listE_length t.cores
  clear hW4 hS4 B4 HB3 HA3
  go_wp2_with (first
    | (refine wpList_buildN rfl 81 2 3 [(0, .tmp 20), (1, .tmp 22), (2, .tmp 24)] rfl [(0, .int .i64 t.mem), (1, .int .i64 t.since), (2, .int .i64 t.until_)] (by rfl) _ (buildI_3 t.mem t.since t.until_) ?_; intro w5 B5 F5 S5; have HB5 := Lib.hid B5; have HF5 := Lib.hid F5; clear B5 F5 S5))
  have hap5 := HW4.out.ap (Nat.le_refl w4.heap.size)
  have hapb4 : w.heap.size ≠ p ∧ w.heap.size ∉ ob v4 := ⟨hapb.1, fun hm => Blk.ne_own HB4.out HW4.out.own (by decide) (mem_ob.1 hm)⟩
  refine (int_calls (HW4.out.fr0 HF5.out) (by have := HS4.out.fr.size; have := HF5.out.size; omega) w4.heap.size 3 [t.mem, t.since, t.until_] HB5.out hap5.1 hap5.2 3 rfl (fun x hx => HQ.out.1 x (by simp only [List.mem_cons, List.not_mem_nil, or_false] at hx ⊢; rcases hx with h | h | h <;> simp [h])) (by rw [List.length_append, List.length_append]; omega)).mono ?_
  rintro e w6 ⟨rfl, v6, hW6, hS6⟩
  have B6 := hS6.blk (HB4.out.fr HF5.out (by simp)) hapb4.1 hapb4.2
  have HW6 := Lib.hid hW6
  have HS6 := Lib.hid (HS4.out.trans (hS6.pre HF5.out))
  have hl7 := intsE_length [t.mem, t.since, t.until_]
  simp only [List.length_cons, List.length_nil] at hl7
  have hlen : (bs ++ intsE [t.task, t.queue, t.node] ++ listE t.cores ++ intsE [t.mem, t.since, t.until_]).length + 9 ≤ 70368744177664 := by simp only [List.length_append]; omega
  cases hst : t.stop with
  | true =>
    have c9 : w6.cell? ⟨w.heap.size, 7, none⟩ = some (.bool true) := by rw [← hst]; exact B6.cellAt rfl
    have henc : t.enc = intsE [t.task, t.queue, t.node] ++ listE t.cores ++ intsE [t.mem, t.since, t.until_] ++ layN 1 := by unfold Lea.enc; rw [hst]; rfl
    have HEN := Lib.hid henc
    have HST := Lib.hid hst
    clear hW6 hS6 B6 henc hst c6 c7 c8
    go_wp2_with fail
    refine (uint_calls HW6.out 1 (by omega) hlen).mono ?_
    rintro e w7 ⟨rfl, v7, hW7, hS7⟩
    have HR := Lib.hid (And.intro hW7 (HS6.out.trans hS7))
    clear hW7 hS7
    go_wp2_with fail
    go_end0
    refine ⟨rfl, v7, ?_, HR.out.2⟩
    rw [HEN.out, ← List.append_assoc, ← List.append_assoc, ← List.append_assoc]
    exact HR.out.1
  | false =>
    have c9 : w6.cell? ⟨w.heap.size, 7, none⟩ = some (.bool false) := by rw [← hst]; exact B6.cellAt rfl
    have henc : t.enc = intsE [t.task, t.queue, t.node] ++ listE t.cores ++ intsE [t.mem, t.since, t.until_] ++ layN 0 := by unfold Lea.enc; rw [hst]; rfl
    have HEN := Lib.hid henc
    have HST := Lib.hid hst
    clear hW6 hS6 B6 henc hst c6 c7 c8
    go_wp2_with fail
    refine (uint_calls HW6.out 0 (by omega) hlen).mono ?_
    rintro e w7 ⟨rfl, v7, hW7, hS7⟩
    have HR := Lib.hid (And.intro hW7 (HS6.out.trans hS7))
    clear hW7 hS7
    go_wp2_with fail
    go_end0
    refine ⟨rfl, v7, ?_, HR.out.2⟩
    rw [HEN.out, ← List.append_assoc, ← List.append_assoc, ← List.append_assoc]
    exact HR.out.1
/-- The bytes, if there was no error. -/
def DoneE (base : Nat) (tb : TypeId) (v : Value) (bs : List Int) (er : Int) (w : World) (e : Ending) (w' : World) : Prop := (er = 0 → e = .returned (.tuple #[v, .int .i64 0])) ∧ (er ≠ 0 → e = .returned (.tuple #[.slice none 0 0, .int .i64 er])) ∧ Fr [] w w'
set_option maxRecDepth 100000 in
set_option maxHeartbeats 1000000 in
theorem done_calls {w : World} {base p : Nat} {v : Value} {bs : List Int} {er : Int} (h : Wr w base p v bs er) : Calls Try.prog 36 #[.pointer (some ⟨p, 0, none⟩)] w (DoneE base 5 v bs er w) := by
  have c0 : w.cell? ⟨p, 0, none⟩ = some v := h.hp.cellAt rfl
  have c1 : w.cell? ⟨p, 1, none⟩ = some (.int .i64 er) := h.hp.cellAt rfl
  have hpl := h.hp.lt
  have HH := Lib.hid h
  clear h
  by_cases he : er = 0
  · subst he
    go_enter Try.func36, Try.ntmps36
    go_wp2_with fail
    go_ret2
    exact ⟨fun _ => rfl, fun h => absurd rfl h, Fr.refl _ _⟩
  · have heb : (er == 0) = false := by simpa using he
    have HE := Lib.hid he
    clear he
    go_enter Try.func36, Try.ntmps36
    go_wp2_with fail
    go_quiet (fail)
    go_wp2_with fail
    go_ret2
    exact ⟨fun h => absurd h HE.out, fun _ => rfl, (Fr.refl _ _).drewN _⟩
end Go.Fur
