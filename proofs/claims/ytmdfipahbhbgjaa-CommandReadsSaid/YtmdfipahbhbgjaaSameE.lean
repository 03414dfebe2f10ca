/- SameEntry of the document: contract. Written by gensamee.py. -/
import Derived.Test.YtmdfipahbhbgjaaSame
import Derived.Test.YtmdfipahbhbgjaaReg2
namespace Go.Fur
open Go Go.RowKit Go.Proofs Go.Proofs.YtmdfipahbhbgjaaW.PrintWords
set_option linter.unusedVariables false
set_option linter.unusedSimpArgs false
section
variable {P : Program}
theorem run_loadM {o : Oper} {a : Act} {w : World} (ty : TypeId) (x : Operand) (ho : o.op = .load ty x)
    (b f : Nat) (hx : a.eval x = .pointer (some ⟨b, f, none⟩)) (cs : List Value) (d : TypeDesc) (hc : w.rangeAt b f cs)
    (hu : P.underlying ty = some d) (hd : d.isRow = true) (hi : (P.info? ty).map (·.size) = some cs.length) :
    (execOp a.eval o).run P w = .ok (.value (.agg cs.toArray)) w := by
  unfold execOp
  simp only [ho, hx, Sem.run_bind, run_loadAt_mid w b f ty cs d hc hu hd hi, Sem.run_pure, Result.andThen_ok]
theorem wpList_load_midG {ops : Array Oper} {rest : List Oper} {op : Oper} {a : Act} {w : World} {Q : Exit → Act → World → Prop} (ty : TypeId) (x : Operand) (ho : op.op = .load ty x)
    (b f : Nat) (hx : a.eval x = .pointer (some ⟨b, f, none⟩)) (cs : List Value) (d : TypeDesc) (hgd : Region.wanted op (yielded ops a.tmps) = true) (hc : w.rangeAt b f cs)
    (hu : P.underlying ty = some d) (hd : d.isRow = true) (hi : (P.info? ty).map (·.size) = some cs.length)
    (h : wpList P ops Q rest (a.put op.dst (.agg cs.toArray)) w) : wpList P ops Q (op :: rest) a w :=
  gate_guard hgd (wpList_load_mid rfl ty x ho b f hx cs d hc hu hd hi h)
end
/-- Two entries alike. -/
def sameQ (x y : Que) : Bool := x.id == y.id && (x.parent == y.parent && (x.weight == y.weight && ((x.qc == y.qc && (x.qm == y.qm)) && ((x.mc == y.mc && (x.mm == y.mm))))))
def sameN (x y : Nod) : Bool := x.id == y.id && (x.cores == y.cores && (x.mem == y.mem && (x.inc == y.inc && (x.beat == y.beat))))
def sameE (x y : Ent) : Bool := (x.gap == y.gap) && ((x.client == y.client) && ((x.seq == y.seq) && ((x.cmd.kind == y.cmd.kind) && ((x.cmd.id == y.cmd.id) && ((x.cmd.inc == y.cmd.inc) && ((x.cmd.beat == y.cmd.beat) && ((x.cmd.since == y.cmd.since) && (sameQ x.cmd.queue y.cmd.queue && (sameN x.cmd.node y.cmd.node && sameT x.cmd.task y.cmd.task)))))))))
attribute [local go_sem high] eqA23 eqA25 eqA27
set_option maxRecDepth 100000 in
set_option maxHeartbeats 8000000 in
theorem sameE_calls {w : World} (x y : Ent) (a b : Option Addr) (c d : Nat) (ha : Rd w a (iv x.cmd.task.tickets)) (hb : Rd w b (iv y.cmd.task.tickets)) (hlx : x.cmd.task.tickets.length ≤ 4611686018427387904) :
    Calls Try.prog 15 #[.agg (x.cells a c).toArray, .agg (y.cells b d).toArray] w (BoolE (sameE x y) w) := by
  have HI := Lib.hid (fun (W : World) (f : Fr [] w W) => sameT_calls (w := W) x.cmd.task y.cmd.task a b c d (ha.fr0 f) (hb.fr0 f) hlx)
  generalize hr : sameE x y = r
  have HSS := Lib.hid hr
  clear ha hb hlx hr
  go_enter Try.func15, Try.ntmps15
  go_wp2_with (first
    | (have z := HB1.out; clear z; refine wpList_boxB rfl 34 _ rfl (y.cells b d) (by rfl) ?_; intro w2 B2 F2 S2; have HBX := Lib.hid (HB1.out.fr F2 (by simp)); have HB2 := Lib.hid B2; have HF2 := Lib.hid F2; have HS2 := Lib.hid S2; clear B2 F2 S2)
    | (refine wpList_boxB rfl 34 _ rfl (x.cells a c) (by rfl) ?_; intro w1 B1 F1 S1; have HB1 := Lib.hid B1; have HF1 := Lib.hid F1; have HS1 := Lib.hid S1; clear B1 F1 S1))
  refine wp_region_join (Fr [] w2) (.one 0 <| .one 1 <| .one 2 <| .one 3 <| .two 4 (.one 5 <| .one 6 <| .one 7 .done) 5 (.one 4 <| .one 6 <| .one 7 .done)) [] [4, 5, 6, 7] [1, 3]
    (fun a0 a' w' => ∃ g h : Nat, Blk w' g 32 (x.cmd.cells a c) ∧ Blk w' h 32 (y.cmd.cells b d) ∧ Fr [] w2 w' ∧ a' = ((((((a0.put (some 7) (.pointer (some ⟨w.heap.size, 3, none⟩))).put (some 8) (.agg (x.cmd.cells a c).toArray)).put (some 9) (.pointer (some ⟨w1.heap.size, 3, none⟩))).put (some 10) (.agg (y.cmd.cells b d).toArray)).put (some 5) (.pointer (some ⟨g, 0, none⟩))).put (some 6) (.pointer (some ⟨h, 0, none⟩))))
    mixed (by kernel_rfl) ?_ ?_
  · have hS : Fr [] w2 w2.drew := (Fr.refl _ _).drew
    have hz0 : w2.drew.heap.size = w2.heap.size := rfl
    repeat (first | (refine wpT_free ?_ (by rfl) (by rfl) (fun w' => ?_) ?_; rotate_left; (simp only [pickN]; go_simp; rfl); simp only [pickN, Act.put, List.setIfInBounds_toArray, List.set_cons_zero, List.set_cons_succ]) | (refine wpT_take ?_ hS (by rfl) (by rfl) (fun w' hw' => ?_) ?_; rotate_left; (simp only [pickN]; go_simp; rfl); simp only [pickN, Act.put, List.setIfInBounds_toArray, List.set_cons_zero, List.set_cons_succ]))
    refine wpT_take (.agg (x.cmd.cells a c).toArray) hS (by rfl) (by rfl) (fun w' hw' => run_loadM 32 _ rfl w.heap.size 3 (by rfl) (x.cmd.cells a c) _ ((HBX.out.fr hw' (by simp)).range 3 24) Try.underlying32 rfl (cmd_size2 x.cmd a c)) ?_
    simp only [pickN, Act.put, List.setIfInBounds_toArray, List.set_cons_zero, List.set_cons_succ]
    repeat (first | (refine wpT_free ?_ (by rfl) (by rfl) (fun w' => ?_) ?_; rotate_left; (simp only [pickN]; go_simp; rfl); simp only [pickN, Act.put, List.setIfInBounds_toArray, List.set_cons_zero, List.set_cons_succ]) | (refine wpT_take ?_ hS (by rfl) (by rfl) (fun w' hw' => ?_) ?_; rotate_left; (simp only [pickN]; go_simp; rfl); simp only [pickN, Act.put, List.setIfInBounds_toArray, List.set_cons_zero, List.set_cons_succ]))
    refine wpT_take (.agg (y.cmd.cells b d).toArray) hS (by rfl) (by rfl) (fun w' hw' => run_loadM 32 _ rfl w1.heap.size 3 (by rfl) (y.cmd.cells b d) _ ((HB2.out.fr hw' (by simp)).range 3 24) Try.underlying32 rfl (cmd_size2 y.cmd b d)) ?_
    simp only [pickN, Act.put, List.setIfInBounds_toArray, List.set_cons_zero, List.set_cons_succ]
    refine wpT_two ?_ ?_
    · try simp only [pickN]
      refine wpList_allocZ rfl 32 rfl _ rcommand_zero ?_
      intro w3 B3 F3 S3
      have F23 : Fr [] w2 w3 := hS.trans0 F3
      have z3 := F3.size
      refine effT_keep F23 ?_
      simp only [pickN, Act.put, List.setIfInBounds_toArray, List.set_cons_zero, List.set_cons_succ]
      refine wpT_eff (by rfl) ?_
      try simp only [pickN]
      refine wpList_allocZ rfl 32 rfl _ rcommand_zero ?_
      intro w4 B4 F4 S4
      have F24 : Fr [] w2 w4 := F23.trans0 F4
      have z4 := F4.size
      refine effT_keep F24 ?_
      simp only [pickN, Act.put, List.setIfInBounds_toArray, List.set_cons_zero, List.set_cons_succ]
      refine wpT_eff (by rfl) ?_
      try simp only [pickN]
      refine wpList_storeB rfl 32 _ _ rfl (w2.drew.heap.size) 0 (x.cmd.cells a c) (by rfl) (by rfl) 32 _ (B3.fr F4 (by simp)) (by simp [Que.cells, Nod.cells, Tas.cells, Cmd.cells]) (cmd_size2 _ _ _) (Cmd.one _ _ _) ?_
      intro w5 B5 F5 S5
      rw [splice_all _ _ (by simp [Que.cells, Nod.cells, Tas.cells, Cmd.cells])] at B5
      have F25 : Fr [] w2 w5 := F24.trans F5 (fun k hk hlt => by have hz : w2.drew.heap.size = w2.heap.size := rfl; have := List.mem_singleton.1 hk; omega)
      have z5 := F5.size
      refine effT_keep F25 ?_
      simp only [pickN, Act.put, List.setIfInBounds_toArray, List.set_cons_zero, List.set_cons_succ]
      refine wpT_eff (by rfl) ?_
      try simp only [pickN]
      refine wpList_storeB rfl 32 _ _ rfl (w3.heap.size) 0 (y.cmd.cells b d) (by rfl) (by rfl) 32 _ (B4.fr F5 (by simp; omega)) (by simp [Que.cells, Nod.cells, Tas.cells, Cmd.cells]) (cmd_size2 _ _ _) (Cmd.one _ _ _) ?_
      intro w6 B6 F6 S6
      rw [splice_all _ _ (by simp [Que.cells, Nod.cells, Tas.cells, Cmd.cells])] at B6
      have F26 : Fr [] w2 w6 := F25.trans F6 (fun k hk hlt => by have hz : w2.drew.heap.size = w2.heap.size := rfl; have := List.mem_singleton.1 hk; omega)
      have z6 := F6.size
      refine effT_keep F26 ?_
      simp only [pickN, Act.put, List.setIfInBounds_toArray, List.set_cons_zero, List.set_cons_succ]
      exact wpT_done ⟨rfl, _, _, B5.fr F6 (by simp; omega), B6, F26, rfl⟩
    · try simp only [pickN]
      refine wpList_allocZ rfl 32 rfl _ rcommand_zero ?_
      intro w3 B3 F3 S3
      have F23 : Fr [] w2 w3 := hS.trans0 F3
      have z3 := F3.size
      refine effT_keep F23 ?_
      simp only [pickN, Act.put, List.setIfInBounds_toArray, List.set_cons_zero, List.set_cons_succ]
      refine wpT_eff (by rfl) ?_
      try simp only [pickN]
      refine wpList_allocZ rfl 32 rfl _ rcommand_zero ?_
      intro w4 B4 F4 S4
      have F24 : Fr [] w2 w4 := F23.trans0 F4
      have z4 := F4.size
      refine effT_keep F24 ?_
      simp only [pickN, Act.put, List.setIfInBounds_toArray, List.set_cons_zero, List.set_cons_succ]
      refine wpT_eff (by rfl) ?_
      try simp only [pickN]
      refine wpList_storeB rfl 32 _ _ rfl (w3.heap.size) 0 (x.cmd.cells a c) (by rfl) (by rfl) 32 _ B4 (by simp [Que.cells, Nod.cells, Tas.cells, Cmd.cells]) (cmd_size2 _ _ _) (Cmd.one _ _ _) ?_
      intro w5 B5 F5 S5
      rw [splice_all _ _ (by simp [Que.cells, Nod.cells, Tas.cells, Cmd.cells])] at B5
      have F25 : Fr [] w2 w5 := F24.trans F5 (fun k hk hlt => by have hz : w2.drew.heap.size = w2.heap.size := rfl; have := List.mem_singleton.1 hk; omega)
      have z5 := F5.size
      refine effT_keep F25 ?_
      simp only [pickN, Act.put, List.setIfInBounds_toArray, List.set_cons_zero, List.set_cons_succ]
      refine wpT_eff (by rfl) ?_
      try simp only [pickN]
      refine wpList_storeB rfl 32 _ _ rfl (w2.drew.heap.size) 0 (y.cmd.cells b d) (by rfl) (by rfl) 32 _ ((B3.fr F4 (by simp)).fr F5 (by simp; omega)) (by simp [Que.cells, Nod.cells, Tas.cells, Cmd.cells]) (cmd_size2 _ _ _) (Cmd.one _ _ _) ?_
      intro w6 B6 F6 S6
      rw [splice_all _ _ (by simp [Que.cells, Nod.cells, Tas.cells, Cmd.cells])] at B6
      have F26 : Fr [] w2 w6 := F25.trans F6 (fun k hk hlt => by have hz : w2.drew.heap.size = w2.heap.size := rfl; have := List.mem_singleton.1 hk; omega)
      have z6 := F6.size
      refine effT_keep F26 ?_
      simp only [pickN, Act.put, List.setIfInBounds_toArray, List.set_cons_zero, List.set_cons_succ]
      exact wpT_done ⟨rfl, _, _, B5.fr F6 (by simp; omega), B6, F26, rfl⟩
  rintro a' w3 ⟨g, h, B3, B4, F3, rfl⟩
  simp only [Act.put, List.setIfInBounds_toArray, List.set_cons_zero, List.set_cons_succ]
  have cx0 : w3.cell? ⟨w.heap.size, 0, none⟩ = some (.int .i64 x.gap) := (HBX.out.fr F3 (by simp)).cellAt rfl
  have cy0 : w3.cell? ⟨w1.heap.size, 0, none⟩ = some (.int .i64 y.gap) := (HB2.out.fr F3 (by simp)).cellAt rfl
  have cx1 : w3.cell? ⟨w.heap.size, 1, none⟩ = some (.int .i64 x.client) := (HBX.out.fr F3 (by simp)).cellAt rfl
  have cy1 : w3.cell? ⟨w1.heap.size, 1, none⟩ = some (.int .i64 y.client) := (HB2.out.fr F3 (by simp)).cellAt rfl
  have cx2 : w3.cell? ⟨w.heap.size, 2, none⟩ = some (.int .i64 x.seq) := (HBX.out.fr F3 (by simp)).cellAt rfl
  have cy2 : w3.cell? ⟨w1.heap.size, 2, none⟩ = some (.int .i64 y.seq) := (HB2.out.fr F3 (by simp)).cellAt rfl
  have dx0 : w3.cell? ⟨g, 0, none⟩ = some (.int .i64 x.cmd.kind) := B3.cellAt rfl
  have dy0 : w3.cell? ⟨h, 0, none⟩ = some (.int .i64 y.cmd.kind) := B4.cellAt rfl
  have dx1 : w3.cell? ⟨g, 1, none⟩ = some (.int .i64 x.cmd.id) := B3.cellAt rfl
  have dy1 : w3.cell? ⟨h, 1, none⟩ = some (.int .i64 y.cmd.id) := B4.cellAt rfl
  have dx2 : w3.cell? ⟨g, 2, none⟩ = some (.int .i64 x.cmd.inc) := B3.cellAt rfl
  have dy2 : w3.cell? ⟨h, 2, none⟩ = some (.int .i64 y.cmd.inc) := B4.cellAt rfl
  have dx3 : w3.cell? ⟨g, 3, none⟩ = some (.int .i64 x.cmd.beat) := B3.cellAt rfl
  have dy3 : w3.cell? ⟨h, 3, none⟩ = some (.int .i64 y.cmd.beat) := B4.cellAt rfl
  have dx4 : w3.cell? ⟨g, 4, none⟩ = some (.int .i64 x.cmd.since) := B3.cellAt rfl
  have dy4 : w3.cell? ⟨h, 4, none⟩ = some (.int .i64 y.cmd.since) := B4.cellAt rfl
  have HB3 := Lib.hid B3
  have HB4 := Lib.hid B4
  have HF3 := Lib.hid ((HF1.out.trans0 HF2.out).trans0 F3)
  clear B3 B4 F3
  cases h0 : (x.gap == y.gap) with
  | false =>
    have H0 := Lib.hid h0
    go_wp2_with fail
    go_ret
    refine ⟨?_, HF3.out⟩
    rw [← HSS.out]
    unfold sameE
    rw [H0.out]
    rfl
  | true =>
    have H0 := Lib.hid h0
    cases h1 : (x.client == y.client) with
    | false =>
      have H1 := Lib.hid h1
      go_wp2_with fail
      go_ret
      refine ⟨?_, HF3.out⟩
      rw [← HSS.out]
      unfold sameE
      rw [H0.out, H1.out]
      rfl
    | true =>
      have H1 := Lib.hid h1
      cases h2 : (x.seq == y.seq) with
      | false =>
        have H2 := Lib.hid h2
        go_wp2_with fail
        go_ret
        refine ⟨?_, HF3.out⟩
        rw [← HSS.out]
        unfold sameE
        rw [H0.out, H1.out, H2.out]
        rfl
      | true =>
        have H2 := Lib.hid h2
        cases h3 : (x.cmd.kind == y.cmd.kind) with
        | false =>
          have H3 := Lib.hid h3
          go_wp2_with fail
          go_ret
          refine ⟨?_, HF3.out⟩
          rw [← HSS.out]
          unfold sameE
          rw [H0.out, H1.out, H2.out, H3.out]
          rfl
        | true =>
          have H3 := Lib.hid h3
          cases h4 : (x.cmd.id == y.cmd.id) with
          | false =>
            have H4 := Lib.hid h4
            go_wp2_with fail
            go_ret
            refine ⟨?_, HF3.out⟩
            rw [← HSS.out]
            unfold sameE
            rw [H0.out, H1.out, H2.out, H3.out, H4.out]
            rfl
          | true =>
            have H4 := Lib.hid h4
            cases h5 : (x.cmd.inc == y.cmd.inc) with
            | false =>
              have H5 := Lib.hid h5
              go_wp2_with fail
              go_ret
              refine ⟨?_, HF3.out⟩
              rw [← HSS.out]
              unfold sameE
              rw [H0.out, H1.out, H2.out, H3.out, H4.out, H5.out]
              rfl
            | true =>
              have H5 := Lib.hid h5
              cases h6 : (x.cmd.beat == y.cmd.beat) with
              | false =>
                have H6 := Lib.hid h6
                go_wp2_with fail
                go_ret
                refine ⟨?_, HF3.out⟩
                rw [← HSS.out]
                unfold sameE
                rw [H0.out, H1.out, H2.out, H3.out, H4.out, H5.out, H6.out]
                rfl
              | true =>
                have H6 := Lib.hid h6
                cases h7 : (x.cmd.since == y.cmd.since) with
                | false =>
                  have H7 := Lib.hid h7
                  go_wp2_with fail
                  go_ret
                  refine ⟨?_, HF3.out⟩
                  rw [← HSS.out]
                  unfold sameE
                  rw [H0.out, H1.out, H2.out, H3.out, H4.out, H5.out, H6.out, H7.out]
                  rfl
                | true =>
                  have H7 := Lib.hid h7
                  cases h8 : (x.cmd.queue.id == y.cmd.queue.id && (x.cmd.queue.parent == y.cmd.queue.parent && (x.cmd.queue.weight == y.cmd.queue.weight && ((x.cmd.queue.qc == y.cmd.queue.qc && (x.cmd.queue.qm == y.cmd.queue.qm)) && ((x.cmd.queue.mc == y.cmd.queue.mc && (x.cmd.queue.mm == y.cmd.queue.mm))))))) with
                  | false =>
                    have H8 := Lib.hid h8
                    go_wp2_with (first
                      | (refine wpList_load_midG 25 _ rfl g 5 rfl [.int .i64 x.cmd.queue.id, .int .i64 x.cmd.queue.parent, .int .i64 x.cmd.queue.weight, .int .i64 x.cmd.queue.qc, .int .i64 x.cmd.queue.qm, .int .i64 x.cmd.queue.mc, .int .i64 x.cmd.queue.mm] _ ?hgd (HB3.out.range 5 7) Try.underlying25 rfl rqueue_size ?_; (case hgd => rfl))
                      | (refine wpList_load_midG 25 _ rfl h 5 rfl [.int .i64 y.cmd.queue.id, .int .i64 y.cmd.queue.parent, .int .i64 y.cmd.queue.weight, .int .i64 y.cmd.queue.qc, .int .i64 y.cmd.queue.qm, .int .i64 y.cmd.queue.mc, .int .i64 y.cmd.queue.mm] _ ?hgd (HB4.out.range 5 7) Try.underlying25 rfl rqueue_size ?_; (case hgd => rfl))
                      | (refine wpList_load_midG 27 _ rfl g 12 rfl [.int .i64 x.cmd.node.id, .int .i64 x.cmd.node.cores, .int .i64 x.cmd.node.mem, .int .i64 x.cmd.node.inc, .int .i64 x.cmd.node.beat] _ ?hgd (HB3.out.range 12 5) Try.underlying27 rfl rnode_size ?_; (case hgd => rfl))
                      | (refine wpList_load_midG 27 _ rfl h 12 rfl [.int .i64 y.cmd.node.id, .int .i64 y.cmd.node.cores, .int .i64 y.cmd.node.mem, .int .i64 y.cmd.node.inc, .int .i64 y.cmd.node.beat] _ ?hgd (HB4.out.range 12 5) Try.underlying27 rfl rnode_size ?_; (case hgd => rfl))
                      | (refine wpList_load_midG 30 _ rfl g 17 rfl (x.cmd.task.cells a c) _ ?hgd (HB3.out.range 17 7) Try.underlying30 rfl (by simpa [Tas.cells] using rtask_size) ?_; (case hgd => rfl))
                      | (refine wpList_load_midG 30 _ rfl h 17 rfl (y.cmd.task.cells b d) _ ?hgd (HB4.out.range 17 7) Try.underlying30 rfl (by simpa [Tas.cells] using rtask_size) ?_; (case hgd => rfl)))
                    go_ret
                    refine ⟨?_, HF3.out⟩
                    rw [← HSS.out]
                    unfold sameE
                    rw [H0.out, H1.out, H2.out, H3.out, H4.out, H5.out, H6.out, H7.out, show sameQ x.cmd.queue y.cmd.queue = _ from H8.out]
                    rfl
                  | true =>
                    have H8 := Lib.hid h8
                    cases h9 : (x.cmd.node.id == y.cmd.node.id && (x.cmd.node.cores == y.cmd.node.cores && (x.cmd.node.mem == y.cmd.node.mem && (x.cmd.node.inc == y.cmd.node.inc && (x.cmd.node.beat == y.cmd.node.beat))))) with
                    | false =>
                      have H9 := Lib.hid h9
                      go_wp2_with (first
                        | (refine wpList_load_midG 25 _ rfl g 5 rfl [.int .i64 x.cmd.queue.id, .int .i64 x.cmd.queue.parent, .int .i64 x.cmd.queue.weight, .int .i64 x.cmd.queue.qc, .int .i64 x.cmd.queue.qm, .int .i64 x.cmd.queue.mc, .int .i64 x.cmd.queue.mm] _ ?hgd (HB3.out.range 5 7) Try.underlying25 rfl rqueue_size ?_; (case hgd => rfl))
                        | (refine wpList_load_midG 25 _ rfl h 5 rfl [.int .i64 y.cmd.queue.id, .int .i64 y.cmd.queue.parent, .int .i64 y.cmd.queue.weight, .int .i64 y.cmd.queue.qc, .int .i64 y.cmd.queue.qm, .int .i64 y.cmd.queue.mc, .int .i64 y.cmd.queue.mm] _ ?hgd (HB4.out.range 5 7) Try.underlying25 rfl rqueue_size ?_; (case hgd => rfl))
                        | (refine wpList_load_midG 27 _ rfl g 12 rfl [.int .i64 x.cmd.node.id, .int .i64 x.cmd.node.cores, .int .i64 x.cmd.node.mem, .int .i64 x.cmd.node.inc, .int .i64 x.cmd.node.beat] _ ?hgd (HB3.out.range 12 5) Try.underlying27 rfl rnode_size ?_; (case hgd => rfl))
                        | (refine wpList_load_midG 27 _ rfl h 12 rfl [.int .i64 y.cmd.node.id, .int .i64 y.cmd.node.cores, .int .i64 y.cmd.node.mem, .int .i64 y.cmd.node.inc, .int .i64 y.cmd.node.beat] _ ?hgd (HB4.out.range 12 5) Try.underlying27 rfl rnode_size ?_; (case hgd => rfl))
                        | (refine wpList_load_midG 30 _ rfl g 17 rfl (x.cmd.task.cells a c) _ ?hgd (HB3.out.range 17 7) Try.underlying30 rfl (by simpa [Tas.cells] using rtask_size) ?_; (case hgd => rfl))
                        | (refine wpList_load_midG 30 _ rfl h 17 rfl (y.cmd.task.cells b d) _ ?hgd (HB4.out.range 17 7) Try.underlying30 rfl (by simpa [Tas.cells] using rtask_size) ?_; (case hgd => rfl)))
                      go_ret
                      refine ⟨?_, HF3.out⟩
                      rw [← HSS.out]
                      unfold sameE
                      rw [H0.out, H1.out, H2.out, H3.out, H4.out, H5.out, H6.out, H7.out, show sameQ x.cmd.queue y.cmd.queue = _ from H8.out, show sameN x.cmd.node y.cmd.node = _ from H9.out]
                      rfl
                    | true =>
                      have H9 := Lib.hid h9
                      go_wp2_with (first
                        | (refine wpList_load_midG 25 _ rfl g 5 rfl [.int .i64 x.cmd.queue.id, .int .i64 x.cmd.queue.parent, .int .i64 x.cmd.queue.weight, .int .i64 x.cmd.queue.qc, .int .i64 x.cmd.queue.qm, .int .i64 x.cmd.queue.mc, .int .i64 x.cmd.queue.mm] _ ?hgd (HB3.out.range 5 7) Try.underlying25 rfl rqueue_size ?_; (case hgd => rfl))
                        | (refine wpList_load_midG 25 _ rfl h 5 rfl [.int .i64 y.cmd.queue.id, .int .i64 y.cmd.queue.parent, .int .i64 y.cmd.queue.weight, .int .i64 y.cmd.queue.qc, .int .i64 y.cmd.queue.qm, .int .i64 y.cmd.queue.mc, .int .i64 y.cmd.queue.mm] _ ?hgd (HB4.out.range 5 7) Try.underlying25 rfl rqueue_size ?_; (case hgd => rfl))
                        | (refine wpList_load_midG 27 _ rfl g 12 rfl [.int .i64 x.cmd.node.id, .int .i64 x.cmd.node.cores, .int .i64 x.cmd.node.mem, .int .i64 x.cmd.node.inc, .int .i64 x.cmd.node.beat] _ ?hgd (HB3.out.range 12 5) Try.underlying27 rfl rnode_size ?_; (case hgd => rfl))
                        | (refine wpList_load_midG 27 _ rfl h 12 rfl [.int .i64 y.cmd.node.id, .int .i64 y.cmd.node.cores, .int .i64 y.cmd.node.mem, .int .i64 y.cmd.node.inc, .int .i64 y.cmd.node.beat] _ ?hgd (HB4.out.range 12 5) Try.underlying27 rfl rnode_size ?_; (case hgd => rfl))
                        | (refine wpList_load_midG 30 _ rfl g 17 rfl (x.cmd.task.cells a c) _ ?hgd (HB3.out.range 17 7) Try.underlying30 rfl (by simpa [Tas.cells] using rtask_size) ?_; (case hgd => rfl))
                        | (refine wpList_load_midG 30 _ rfl h 17 rfl (y.cmd.task.cells b d) _ ?hgd (HB4.out.range 17 7) Try.underlying30 rfl (by simpa [Tas.cells] using rtask_size) ?_; (case hgd => rfl)))
                      refine (HI.out _ HF3.out).mono ?_
                      rintro e w5 ⟨rfl, hf⟩
                      have HF5 := Lib.hid hf
                      clear hf
                      go_wp2_with fail
                      go_ret
                      refine ⟨?_, HF3.out.trans0 HF5.out⟩
                      rw [← HSS.out]
                      unfold sameE
                      rw [H0.out, H1.out, H2.out, H3.out, H4.out, H5.out, H6.out, H7.out, show sameQ x.cmd.queue y.cmd.queue = _ from H8.out, show sameN x.cmd.node y.cmd.node = _ from H9.out]
                      rfl
end Go.Fur
