/- EncodeEntry: contract. -/
import Derived.Test.YtmdfipahbhbgjaaCmdD
namespace Go.Fur
open Go Go.RowKit Go.Proofs
set_option linter.unusedVariables false
set_option linter.unusedSimpArgs false
def Cmd.ok (t : Cmd) : Prop := (∀ x ∈ [t.kind, t.id, t.inc, t.beat, t.since], I64 x) ∧ t.queue.ok ∧ t.node.ok ∧ t.task.ok
def Ent.ok (t : Ent) : Prop := (∀ x ∈ [t.gap, t.client, t.seq], I64 x) ∧ t.cmd.ok
/-- An int as a uint64. -/
def u64 (x : Int) : Nat := (x % 18446744073709551616).toNat
theorem u64_lt (x : Int) : u64 x < 18446744073709551616 := by unfold u64; omega
theorem u64_wrap (x : Int) : IntKind.u64.wrap x = (u64 x : Int) := by rw [IntKind.wrap_u64]; unfold u64; omega
def Cmd.enc (t : Cmd) : List Int := layN (u64 t.kind) ++ intsE [t.id, t.inc, t.beat, t.since] ++ intsE t.queue.ints ++ intsE t.node.ints ++ t.task.enc
def Ent.enc (t : Ent) : List Int := intsE [t.gap, t.client, t.seq] ++ t.cmd.enc
def Ent.err (t : Ent) : Int := if 1024 < t.cmd.task.tickets.length then 3 else if t.cmd.kind < 0 then 1 else 0
/-- The bytes, and the error. -/
def encE (t : Ent) : List Int × Int := if t.err = 0 then (t.enc, 0) else ([], t.err)
/-- What an encoder answers. -/
def EncE (base : Nat) (r : List Int × Int) (w : World) (e : Ending) (w' : World) : Prop := ∃ v, e = .returned (.tuple #[v, .int .i64 r.2]) ∧ Own w' base 5 1 v r.1.length (bv r.1) ∧ Fr [] w w'
theorem writer_build (w : World) : (Instr.build 72 ([] : List (Nat × Value)).toArray).run Try.prog w = .ok (.agg [.slice none 0 0, .int .i64 0].toArray) w := by kernel_rfl
theorem cmd_size2 (x : Cmd) (a : Option Addr) (c : Nat) : (Try.prog.info? 32).map (·.size) = some (x.cells a c).length := by
  simpa [Que.cells, Nod.cells, Tas.cells, Cmd.cells] using rcommand_size
theorem Cmd.one (x : Cmd) (a : Option Addr) (c : Nat) : ∀ v ∈ x.cells a c, v.oneCell' = true := by
  simp [Value.oneCell', Que.cells, Nod.cells, Tas.cells, Cmd.cells]
set_option maxRecDepth 100000 in
set_option maxHeartbeats 2000000 in
theorem encodeE_calls {w : World} {base : Nat} (hbase : base ≤ w.heap.size) (t : Ent) (a : Option Addr) (c : Nat) (hr : Rd w a (iv t.cmd.task.tickets)) (hok : t.ok) (hlen : t.cmd.task.tickets.length ≤ 1048576) :
    Calls Try.prog 12 #[.agg (t.cells a c).toArray] w (EncE base (encE t) w) := by
  have HQ := Lib.hid hok
  have HR := Lib.hid hr
  have HL := Lib.hid hlen
  clear hok hr hlen
  go_enter Try.func12, Try.ntmps12
  go_wp2_with (first
    | (refine wpList_boxB rfl 34 _ rfl (t.cells a c) (by rfl) ?_; intro w1 B1 F1 S1; have HB1 := Lib.hid B1; have HF1 := Lib.hid F1; have HS1 := Lib.hid S1; clear B1 F1 S1)
    | (refine wpList_load_mid rfl 32 _ rfl w.heap.size 3 rfl (t.cmd.cells a c) _ (HB1.out.range 3 24) Try.underlying32 rfl (cmd_size2 t.cmd a c) ?_)
    | (refine wpList_allocZ rfl 32 rfl _ rcommand_zero ?_; intro w2 B2 F2 S2; have HB2 := Lib.hid B2; have HF2 := Lib.hid F2; have HS2 := Lib.hid S2; clear B2 F2 S2)
    | (refine wpList_storeB rfl 32 _ _ rfl w1.heap.size 0 (t.cmd.cells a c) (by rfl) (by rfl) 32 _ HB2.out (by simp [Que.cells, Nod.cells, Tas.cells, Cmd.cells]) (cmd_size2 t.cmd a c) (t.cmd.one a c) ?_; intro w3 B3 F3 S3; rw [splice_all _ _ (by simp [Que.cells, Nod.cells, Tas.cells, Cmd.cells])] at B3; have HB3 := Lib.hid B3; have HF3 := Lib.hid F3; have HS3 := Lib.hid S3; clear B3 F3 S3)
    | (refine wpList_buildV rfl 72 [] rfl [] (by rfl) _ (writer_build _) ?_)
    | (refine wpList_boxB rfl 72 _ rfl [.slice none 0 0, .int .i64 0] (by rfl) ?_; intro w4 B4 F4 S4; have HE4 := (((HB1.out.fr HF2.out (by simp)).fr HF3.out (by have := HS1.out; simp; omega)).fr F4 (by simp)); have c0 : w4.cell? ⟨w.heap.size, 0, none⟩ = some (.int .i64 t.gap) := HE4.cellAt rfl; have c1 : w4.cell? ⟨w.heap.size, 1, none⟩ = some (.int .i64 t.client) := HE4.cellAt rfl; have c2 : w4.cell? ⟨w.heap.size, 2, none⟩ = some (.int .i64 t.seq) := HE4.cellAt rfl; clear HE4; have HB4 := Lib.hid B4; have HF4 := Lib.hid F4; have HS4 := Lib.hid S4; have HC4 := Lib.hid (HB3.out.fr F4 (by simp)); clear B4 F4 S4)
    | (refine wpList_buildN rfl 81 2 3 [(0, .tmp 12), (1, .tmp 14), (2, .tmp 16)] rfl [(0, .int .i64 t.gap), (1, .int .i64 t.client), (2, .int .i64 t.seq)] (by rfl) _ (buildI_3 t.gap t.client t.seq) ?_; intro w5 B5 F5 S5; have HB5 := Lib.hid B5; have HF5 := Lib.hid F5; have HC5 := Lib.hid (HC4.out.fr F5 (by simp)); clear B5 F5 S5))
  have hpC : w1.heap.size ≠ w3.heap.size := by have := HS2.out; have := HS3.out; omega
  have W4 : Wr w4 w3.heap.size w3.heap.size (.slice none 0 0) [] 0 := ⟨HB4.out, Nat.le_refl _, Own.nil _ _ _ _⟩
  have FW : Fr [] w w5 := (((HF1.out.trans0 HF2.out).trans HF3.out (fun k hk hlt => by have := HS1.out; rw [List.mem_singleton.1 hk] at hlt; omega)).trans0 HF4.out).trans0 HF5.out
  have RT5 : RdA w5 (Wx w3.heap.size (.slice none 0 0)) a (iv t.cmd.task.tickets) := fun hne => by
    obtain ⟨b, o, ha, hlt⟩ := HR.out.lt hne
    obtain ⟨b', o', ha', hr'⟩ := (HR.out.fr0 FW) hne
    have hbb : b' = b := by rw [ha] at ha'; injection ha' with h; injection h with h1; exact h1.symm
    subst hbb
    refine ⟨b', o', ha', fun hx => ?_, by have := FW.size; omega, hr'⟩
    rcases hx with hx | hx
    · have := HS1.out; have := HS2.out; have := HS3.out; omega
    · simp [ob, Value.ownBlock] at hx
  have hap := W4.ap (Nat.le_refl _)
  have hI := HQ.out.1
  have hIc : t.cmd.ok := HQ.out.2
  have hI3 : ∀ x ∈ [t.gap, t.client, t.seq], I64 x := hI
  have hl3 := intsE_length [t.gap, t.client, t.seq]
  have hl4 := intsE_length [t.cmd.id, t.cmd.inc, t.cmd.beat, t.cmd.since]
  have hlq := intsE_length t.cmd.queue.ints
  have hln := intsE_length t.cmd.node.ints
  have hlk := layN_length (u64 t.cmd.kind)
  have hlk2 := kl_le (u64 t.cmd.kind)
  simp only [List.length_cons, List.length_nil, Que.ints, Nod.ints] at hl3 hl4 hlq hln
  have HLS := Lib.hid (And.intro hl3 (And.intro hl4 (And.intro hlq (And.intro hln (And.intro hlk hlk2)))))
  clear hl3 hl4 hlq hln hlk hlk2
  refine (int_calls (W4.fr0 HF5.out) (by have := HS4.out; have := HF5.out.size; omega) w4.heap.size 3 [t.gap, t.client, t.seq] HB5.out hap.1 hap.2 3 rfl hI3 (by simp)).mono ?_
  rintro e w6 ⟨rfl, v6, hW6, hS6⟩
  have hv6 : w1.heap.size ∉ ob (.slice none 0 0) := by simp [ob, Value.ownBlock]
  have HC6 := Lib.hid (hS6.blk HC5.out hpC hv6)
  have HT6 := Lib.hid (hS6.rd RT5)
  have HW6 := Lib.hid hW6
  have HX6 := Lib.hid (hS6.pre FW)
  have HZ6 := Lib.hid (show w3.heap.size ≤ w6.heap.size by have := hS6.fr.size; have := HS4.out; have := HF5.out.size; omega)
  have c3 : w6.cell? ⟨w1.heap.size, 0, none⟩ = some (.int .i64 t.cmd.kind) := HC6.out.cellAt rfl
  clear hW6 hS6 c0 c1 c2 W4 RT5 hap HC5 HC4 HB4
  simp only [List.nil_append] at HW6
  generalize hB6 : intsE [t.gap, t.client, t.seq] = b6 at *
  go_wp2_with fail
  rw [u64_wrap]
  have hb6 : b6.length ≤ 27 := by have := HLS.out.1; omega
  refine (uint_calls HW6.out (u64 t.cmd.kind) (u64_lt _) (by omega)).mono ?_
  rintro e w7 ⟨rfl, v7, hW7, hS7⟩
  have hv7 : w1.heap.size ∉ ob v6 := fun hm => Blk.ne_own HC6.out HW6.out.own (by decide) (mem_ob.1 hm)
  have HC7 := Lib.hid (hS7.blk HC6.out hpC hv7)
  have HT7 := Lib.hid (hS7.rd HT6.out)
  have HW7 := Lib.hid hW7
  have HX7 := Lib.hid (HX6.out.trans hS7)
  have HZ7 := Lib.hid (show w3.heap.size ≤ w7.heap.size by have := hS7.fr.size; have := HZ6.out; omega)
  have c4 : w7.cell? ⟨w1.heap.size, 1, none⟩ = some (.int .i64 t.cmd.id) := HC7.out.cellAt rfl
  have c5 : w7.cell? ⟨w1.heap.size, 2, none⟩ = some (.int .i64 t.cmd.inc) := HC7.out.cellAt rfl
  have c6 : w7.cell? ⟨w1.heap.size, 3, none⟩ = some (.int .i64 t.cmd.beat) := HC7.out.cellAt rfl
  have c7 : w7.cell? ⟨w1.heap.size, 4, none⟩ = some (.int .i64 t.cmd.since) := HC7.out.cellAt rfl
  have hb7 : (b6 ++ layN (u64 t.cmd.kind)).length ≤ 36 := by rw [List.length_append]; have := HLS.out.2.2.2.2.1; have := HLS.out.2.2.2.2.2; omega
  clear hW7 hS7 c3 HC6 HT6
  generalize hB7 : b6 ++ layN (u64 t.cmd.kind) = b7 at *
  go_wp2_with (refine wpList_buildN rfl 81 2 4 [(0, .tmp 26), (1, .tmp 28), (2, .tmp 30), (3, .tmp 32)] rfl [(0, .int .i64 t.cmd.id), (1, .int .i64 t.cmd.inc), (2, .int .i64 t.cmd.beat), (3, .int .i64 t.cmd.since)] (by rfl) _ (buildI_4 t.cmd.id t.cmd.inc t.cmd.beat t.cmd.since) ?_; intro w8 B8 F8 S8; have HB8 := Lib.hid B8; have HF8 := Lib.hid F8; clear B8 F8 S8)
  have hap := HW7.out.ap (Nat.le_refl w7.heap.size)
  refine (int_calls (HW7.out.fr0 HF8.out) (by have := HZ7.out; have := HF8.out.size; omega) w7.heap.size 4 [t.cmd.id, t.cmd.inc, t.cmd.beat, t.cmd.since] HB8.out hap.1 hap.2 4 rfl (fun x hx => hIc.1 x (List.mem_cons_of_mem _ hx)) (by omega)).mono ?_
  rintro e w9 ⟨rfl, v9, hW9, hS9⟩
  replace hS9 := hS9.pre HF8.out
  have hv9 : w1.heap.size ∉ ob v7 := fun hm => Blk.ne_own HC7.out HW7.out.own (by decide) (mem_ob.1 hm)
  have HC9 := Lib.hid (hS9.blk HC7.out hpC hv9)
  have HT9 := Lib.hid (hS9.rd HT7.out)
  have HW9 := Lib.hid hW9
  have HX9 := Lib.hid (HX7.out.trans hS9)
  have HZ9 := Lib.hid (show w3.heap.size ≤ w9.heap.size by have := hS9.fr.size; have := HZ7.out; omega)
  have hb9 : (b7 ++ intsE [t.cmd.id, t.cmd.inc, t.cmd.beat, t.cmd.since]).length ≤ 72 := by rw [List.length_append]; have := HLS.out.2.1; omega
  clear hW9 hS9 c4 c5 c6 c7 HC7 HT7 hap
  generalize hB9 : b7 ++ intsE [t.cmd.id, t.cmd.inc, t.cmd.beat, t.cmd.since] = b9 at *
  go_wp2_with (refine wpList_load_mid rfl 25 _ rfl w1.heap.size 5 rfl t.cmd.queue.cells _ (HC9.out.range 5 7) Try.underlying25 rfl (by simpa [Que.cells] using rqueue_size) ?_)
  refine (queue_calls HW9.out (by have := HZ9.out; omega) t.cmd.queue hIc.2.1 (by omega)).mono ?_
  rintro e w10 ⟨rfl, v10, hW10, hS10⟩
  have hv10 : w1.heap.size ∉ ob v9 := fun hm => Blk.ne_own HC9.out HW9.out.own (by decide) (mem_ob.1 hm)
  have HC10 := Lib.hid (hS10.blk HC9.out hpC hv10)
  have HT10 := Lib.hid (hS10.rd HT9.out)
  have HW10 := Lib.hid hW10
  have HX10 := Lib.hid (HX9.out.trans hS10)
  have HZ10 := Lib.hid (show w3.heap.size ≤ w10.heap.size by have := hS10.fr.size; have := HZ9.out; omega)
  have hb10 : (b9 ++ intsE t.cmd.queue.ints).length ≤ 135 := by rw [List.length_append]; have := HLS.out.2.2.1; simp only [Que.ints] at *; omega
  clear hW10 hS10 HC9 HT9
  generalize hB10 : b9 ++ intsE t.cmd.queue.ints = b10 at *
  go_wp2_with (refine wpList_load_mid rfl 27 _ rfl w1.heap.size 12 rfl t.cmd.node.cells _ (HC10.out.range 12 5) Try.underlying27 rfl (by simpa [Nod.cells] using rnode_size) ?_)
  refine (node_calls HW10.out (by have := HZ10.out; omega) t.cmd.node hIc.2.2.1 (by omega)).mono ?_
  rintro e w11 ⟨rfl, v11, hW11, hS11⟩
  have hv11 : w1.heap.size ∉ ob v10 := fun hm => Blk.ne_own HC10.out HW10.out.own (by decide) (mem_ob.1 hm)
  have HC11 := Lib.hid (hS11.blk HC10.out hpC hv11)
  have HT11 := Lib.hid (hS11.rd HT10.out)
  have HW11 := Lib.hid hW11
  have HX11 := Lib.hid (HX10.out.trans hS11)
  have HZ11 := Lib.hid (show w3.heap.size ≤ w11.heap.size by have := hS11.fr.size; have := HZ10.out; omega)
  have hb11 : (b10 ++ intsE t.cmd.node.ints).length ≤ 180 := by rw [List.length_append]; have := HLS.out.2.2.2.1; simp only [Nod.ints] at *; omega
  clear hW11 hS11 HC10 HT10
  generalize hB11 : b10 ++ intsE t.cmd.node.ints = b11 at *
  go_wp2_with (refine wpList_load_mid rfl 30 _ rfl w1.heap.size 17 rfl (t.cmd.task.cells a c) _ (HC11.out.range 17 7) Try.underlying30 rfl (by simpa [Tas.cells] using rtask_size) ?_)
  refine (task_calls HW11.out (by have := HZ11.out; omega) (t.cmd.task.cells a c) t.cmd.task ⟨a, c, rfl, HT11.out⟩ hIc.2.2.2 (by have := HL.out; omega)).mono ?_
  rintro e w12 ⟨rfl, v12, hW12, hS12⟩
  have hv12 : w1.heap.size ∉ ob v11 := fun hm => Blk.ne_own HC11.out HW11.out.own (by decide) (mem_ob.1 hm)
  have HC12 := Lib.hid (hS12.blk HC11.out hpC hv12)
  have HT12 := Lib.hid (hS12.rd HT11.out)
  have HW12 := Lib.hid hW12
  have HX12 := Lib.hid (HX11.out.trans hS12)
  have HZ12 := Lib.hid (show w3.heap.size ≤ w12.heap.size by have := hS12.fr.size; have := HZ11.out; omega)
  have hE : b11 ++ t.cmd.task.enc = t.enc := by rw [← hB11, ← hB10, ← hB9, ← hB7, ← hB6]; unfold Ent.enc Cmd.enc; simp only [List.append_assoc]
  rw [hE] at HW12
  have c8 : w12.cell? ⟨w1.heap.size, 0, none⟩ = some (.int .i64 t.cmd.kind) := HC12.out.cellAt rfl
  clear hW12 hS12 HC11 HT11 hB6 hB7 hB9 hB10 hB11 hE
  have FE : Fr [] w w12 := HX12.out.fr.mono (fun k hk hlt => by
    have := HS1.out
    have := HS2.out
    have := HS3.out
    rcases List.mem_cons.1 hk with h | h
    · omega
    · simp [ob, Value.ownBlock] at h)
  have hb3 : base ≤ w3.heap.size := by have := HS1.out; have := HS2.out; have := HS3.out; omega
  have HFE := Lib.hid FE
  have HBB := Lib.hid hb3
  clear FE hb3 HX12 FW hI hIc hI3 HLS hb6 hb7 hb9 hb10 hb11 hv6 hv7 hv9 hv10 hv11 hv12 HT12 HX6 HX7 HX9 HX10 HX11
  by_cases hn : 1024 < t.cmd.task.tickets.length
  · have e1 : cntE t.cmd.task.tickets.length 0 = 3 := by unfold cntE; rw [if_pos hn]
    have e2 : encE t = ([], 3) := by unfold encE Ent.err; rw [if_pos hn, if_neg (by decide)]
    rw [e1] at HW12
    have HE2 := Lib.hid e2
    clear e1 e2 hn
    have c9 : w12.cell? ⟨w3.heap.size, 1, none⟩ = some (.int .i64 3) := HW12.out.hp.cellAt rfl
    have hpl := HW12.out.hp.lt
    go_wp2_with fail
    refine (done_calls HW12.out).mono ?_
    rintro e w13 ⟨_, hd, hf⟩
    obtain rfl := hd (by decide)
    have HF := Lib.hid hf
    clear hf hd
    go_wp2_with fail
    go_ret2
    exact ⟨.slice none 0 0, by rw [HE2.out]; rfl, by rw [HE2.out]; exact Own.nil _ _ _ _, HFE.out.trans0 HF.out⟩
  · have e1 : cntE t.cmd.task.tickets.length 0 = 0 := by unfold cntE; rw [if_neg hn]
    rw [e1] at HW12
    have c9 : w12.cell? ⟨w3.heap.size, 1, none⟩ = some (.int .i64 0) := HW12.out.hp.cellAt rfl
    have hpl := HW12.out.hp.lt
    by_cases hk : t.cmd.kind < 0
    · have e2 : encE t = ([], 1) := by unfold encE Ent.err; rw [if_neg hn, if_pos hk, if_neg (by decide)]
      have HE2 := Lib.hid e2
      clear e1 e2 hn
      go_wp2_with (refine wpList_store1 rfl 38 _ _ rfl w3.heap.size 1 (.int .i64 1) (by rfl) (by rfl) rfl 72 _ HW12.out.hp (by simp) (by kernel_rfl) rfl ?_; intro w14 B14 F14 S14; have HB14 := Lib.hid B14; have HF14 := Lib.hid F14; clear B14 F14 S14)
      have hW14 : Wr w14 w3.heap.size w3.heap.size v12 t.enc 1 := ⟨HB14.out, HW12.out.ge, HW12.out.own.fr HF14.out (fun g hg hm => (Blk.ne_own HW12.out.hp HW12.out.own (by decide)) (mem_ob.1 (List.mem_singleton.1 hm ▸ hg)))⟩
      refine (done_calls hW14).mono ?_
      rintro e w13 ⟨_, hd, hf⟩
      obtain rfl := hd (by decide)
      have HF := Lib.hid hf
      clear hf hd hW14
      go_wp2_with fail
      go_ret2
      exact ⟨.slice none 0 0, by rw [HE2.out]; rfl, by rw [HE2.out]; exact Own.nil _ _ _ _, (HFE.out.trans HF14.out (fun k hk hlt => by have := HS1.out; have := HS2.out; have := HS3.out; rw [List.mem_singleton.1 hk] at hlt; omega)).trans0 HF.out⟩
    · have e2 : encE t = (t.enc, 0) := by unfold encE Ent.err; rw [if_neg hn, if_neg hk, if_pos rfl]
      have HE2 := Lib.hid e2
      clear e1 e2 hn
      go_wp2_with fail
      refine (done_calls HW12.out).mono ?_
      rintro e w13 ⟨hd, _, hf⟩
      obtain rfl := hd rfl
      have HF := Lib.hid hf
      clear hf hd
      go_wp2_with fail
      go_ret2
      exact ⟨v12, by rw [HE2.out]; rfl, by rw [HE2.out]; exact (HW12.out.own.fr0 HF.out).base HBB.out, HFE.out.trans0 HF.out⟩
end Go.Fur
