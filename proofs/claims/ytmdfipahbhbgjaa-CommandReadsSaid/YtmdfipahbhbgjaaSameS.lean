/- SameLease, SameLeases, Same of queues, SameState: two that hold the same are alike. -/
import Derived.Test.YtmdfipahbhbgjaaSta
import Derived.Test.YtmdfipahbhbgjaaApart10
import Derived.Test.YtmdfipahbhbgjaaEnt10
namespace Go.Fur
open Go Go.RowKit Go.Proofs Go.Proofs.YtmdfipahbhbgjaaW.PrintWords
set_option linter.unusedVariables false
set_option linter.unusedSimpArgs false
set_option maxRecDepth 100000 in
set_option maxHeartbeats 4000000 in
theorem sameLe_calls {w : World} (x : Lea) (a b : Option Addr) (c d : Nat) (ha : Rd w a (iv x.cores)) (hb : Rd w b (iv x.cores)) (hlx : x.cores.length ≤ 4611686018427387904) :
    Calls Try.prog 86 #[.agg (x.cells a c).toArray, .agg (x.cells b d).toArray] w (BoolE true w) := by
  have HI := Lib.hid (fun (W : World) (f : Fr [] w W) => ints_calls (w := W) a b c d x.cores x.cores (ha.fr0 f) (hb.fr0 f) hlx)
  clear ha hb hlx
  go_enter Try.func86, Try.ntmps86
  go_wp2_with (first
    | (have z := HB1.out; clear z; refine wpList_boxB rfl 124 _ rfl (x.cells b d) (by rfl) ?_; intro w2 B2 F2 S2; have hb1 := HB1.out.fr F2 (by simp); have cx0 : w2.cell? ⟨w.heap.size, 0, none⟩ = some (.int .i64 x.task) := hb1.cellAt rfl; have cy0 : w2.cell? ⟨w1.heap.size, 0, none⟩ = some (.int .i64 x.task) := B2.cellAt rfl; have cx1 : w2.cell? ⟨w.heap.size, 1, none⟩ = some (.int .i64 x.queue) := hb1.cellAt rfl; have cy1 : w2.cell? ⟨w1.heap.size, 1, none⟩ = some (.int .i64 x.queue) := B2.cellAt rfl; have cx2 : w2.cell? ⟨w.heap.size, 2, none⟩ = some (.int .i64 x.node) := hb1.cellAt rfl; have cy2 : w2.cell? ⟨w1.heap.size, 2, none⟩ = some (.int .i64 x.node) := B2.cellAt rfl; have cx3 : w2.cell? ⟨w.heap.size, 3, none⟩ = some (.slice a x.cores.length c) := hb1.cellAt rfl; have cy3 : w2.cell? ⟨w1.heap.size, 3, none⟩ = some (.slice b x.cores.length d) := B2.cellAt rfl; have cx4 : w2.cell? ⟨w.heap.size, 4, none⟩ = some (.int .i64 x.mem) := hb1.cellAt rfl; have cy4 : w2.cell? ⟨w1.heap.size, 4, none⟩ = some (.int .i64 x.mem) := B2.cellAt rfl; have cx5 : w2.cell? ⟨w.heap.size, 5, none⟩ = some (.int .i64 x.since) := hb1.cellAt rfl; have cy5 : w2.cell? ⟨w1.heap.size, 5, none⟩ = some (.int .i64 x.since) := B2.cellAt rfl; have cx6 : w2.cell? ⟨w.heap.size, 6, none⟩ = some (.int .i64 x.until_) := hb1.cellAt rfl; have cy6 : w2.cell? ⟨w1.heap.size, 6, none⟩ = some (.int .i64 x.until_) := B2.cellAt rfl; have cx7 : w2.cell? ⟨w.heap.size, 7, none⟩ = some (.bool x.stop) := hb1.cellAt rfl; have cy7 : w2.cell? ⟨w1.heap.size, 7, none⟩ = some (.bool x.stop) := B2.cellAt rfl; have HF2 := Lib.hid (HF1.out.trans0 F2); clear B2 F2 S2 hb1)
    | (refine wpList_boxB rfl 124 _ rfl (x.cells a c) (by rfl) ?_; intro w1 B1 F1 S1; have HB1 := Lib.hid B1; have HF1 := Lib.hid F1; have HS1 := Lib.hid S1; clear B1 F1 S1))
  refine (HI.out w2 HF2.out).mono ?_
  rintro e w3 ⟨rfl, f3⟩
  have HF3 := Lib.hid (HF2.out.trans0 f3)
  clear f3
  first | rw [show decide (x.cores = x.cores) = true from decide_eq_true rfl] | simp only [decide_true]
  go_wp2_with fail
  go_ret
  exact ⟨rfl, HF3.out⟩
def AlikeR (w : World) (n : Nat) (i : Value) (wr : World) : Prop := ∃ k : Nat, k ≤ n ∧ i = .int .i64 k ∧ Fr [] w wr
set_option maxRecDepth 100000 in
set_option maxHeartbeats 4000000 in
theorem sameLes_calls {w : World} (l : List Lea) (a b : Option Addr) (c d : Nat) (ha : ∃ css, RowA LeaAt 8 w X0 a l css) (hb : ∃ css, RowA LeaAt 8 w X0 b l css) (hl : (l.map fun t => t.cores.length + 1).sum ≤ 1000000000) :
    Calls Try.prog 56 #[.slice a l.length c, .slice b l.length d] w (BoolE true w) := by
  obtain ⟨ca, ha⟩ := ha
  obtain ⟨cb, hb⟩ := hb
  have HA := Lib.hid ha
  have HB := Lib.hid hb
  have hl1 := len_1 l
  clear ha hb
  go_enter Try.func56, Try.ntmps56
  go_wp2_with fail
  go_loopw [13] (fun i wr => AlikeR w l.length i wr) (fun i _ => l.length - (intOf i).toNat)
  case atStart => exact ⟨0, Nat.zero_le _, rfl, Fr.refl _ _⟩
  case round =>
    obtain ⟨k, hk, rfl, hF⟩ := hrel
    rcases Nat.lt_or_ge k l.length with hlt | hge
    · obtain ⟨t, ht⟩ : ∃ t, l[k]? = some t := ⟨l[k], List.getElem?_eq_getElem hlt⟩
      have kb : (k : Int) < (l.length : Int) := by omega
      have k0 : (0 : Int) ≤ (k : Int) := by omega
      obtain ⟨b1, o1, cs1, rfl, hb1, hx1, hcl1, ⟨a1, c1, rfl, ra1⟩, hr1⟩ := (HA.out.fr0 hF (fun _ _ _ _ f h => LeaAt.fr0 f h)).get (by decide) ht
      obtain ⟨b2, o2, cs2, rfl, hb2, hx2, hcl2, ⟨a2, c2, rfl, ra2⟩, hr2⟩ := (HB.out.fr0 hF (fun _ _ _ _ f h => LeaAt.fr0 f h)).get (by decide) ht
      have hlc : t.cores.length ≤ 4611686018427387904 := by
        have : t.cores.length + 1 ≤ (l.map fun t => t.cores.length + 1).sum := by
          obtain ⟨s, hs⟩ := List.mem_iff_append.1 (List.mem_of_getElem? ht)
          obtain ⟨r, rfl⟩ := hs
          simp only [List.map_append, List.map_cons, List.sum_append, List.sum_cons]
          omega
        omega
      have HR1 := Lib.hid hr1
      have HR2 := Lib.hid hr2
      have HC := Lib.hid (fun (W : World) (f : Fr [] wr W) => sameLe_calls (w := W) t a1 a2 c1 c2 (ra1.rd.fr0 f) (ra2.rd.fr0 f) hlc)
      have HF := Lib.hid hF
      clear hF hr1 hr2 ra1 ra2 hcl1 hcl2 ht
      go_wp2_with fail
      refine wp_region_ord (Fr [] wr) [0, 1, 2, 3, 4, 5, 6, 7, 8, 9] [] [8] [3, 7] mixed (by kernel_rfl) ?_
      have hS : Fr [] wr wr.drew := (Fr.refl _ _).drew
      simp only [pairs, pickN]
      repeat (first | (refine wpO_free ?_ (by rfl) (by rfl) (fun w' => ?_) ?_; rotate_left; (go_simp; rfl); simp only [Act.put, List.setIfInBounds_toArray, List.set_cons_zero, List.set_cons_succ]) | (refine wpO_pass (by rfl) ?_; simp only [Act.put, List.setIfInBounds_toArray, List.set_cons_zero, List.set_cons_succ]))
      refine wpO_take (.agg (t.cells a1 c1).toArray) hS (by rfl) (by rfl) (fun w' hw' => run_loadM 124 _ rfl b1 (o1 + k * 8) (by rfl) (t.cells a1 c1) _ (rangeAt_fr HR1.out hw' (by simp)) Try.underlying124 rfl (lease_size3 t a1 c1)) ?_
      simp only [Act.put, List.setIfInBounds_toArray, List.set_cons_zero, List.set_cons_succ]
      repeat (first | (refine wpO_free ?_ (by rfl) (by rfl) (fun w' => ?_) ?_; rotate_left; (go_simp; rfl); simp only [Act.put, List.setIfInBounds_toArray, List.set_cons_zero, List.set_cons_succ]) | (refine wpO_pass (by rfl) ?_; simp only [Act.put, List.setIfInBounds_toArray, List.set_cons_zero, List.set_cons_succ]))
      refine wpO_take (.agg (t.cells a2 c2).toArray) hS (by rfl) (by rfl) (fun w' hw' => run_loadM 124 _ rfl b2 (o2 + k * 8) (by rfl) (t.cells a2 c2) _ (rangeAt_fr HR2.out hw' (by simp)) Try.underlying124 rfl (lease_size3 t a2 c2)) ?_
      simp only [Act.put, List.setIfInBounds_toArray, List.set_cons_zero, List.set_cons_succ]
      refine wpO_eff (by rfl) ?_
      refine wpList_callC rfl 86 #[.agg (t.cells a1 c1).toArray, .agg (t.cells a2 c2).toArray] (by first | (go_simp; done) | (go_simp; rfl)) _ (HC.out _ hS) ?_
      rintro e' w1 ⟨rfl, f1⟩
      refine ⟨_, rfl, ?_⟩
      refine effQ_keep (hS.trans0 f1) ?_
      simp only [Act.put, List.setIfInBounds_toArray, List.set_cons_zero, List.set_cons_succ]
      repeat (first | (refine wpO_free ?_ (by rfl) (by rfl) (fun w' => ?_) ?_; rotate_left; (go_simp; rfl); simp only [Act.put, List.setIfInBounds_toArray, List.set_cons_zero, List.set_cons_succ]) | (refine wpO_pass (by rfl) ?_; simp only [Act.put, List.setIfInBounds_toArray, List.set_cons_zero, List.set_cons_succ]))
      refine wpO_nil ?_
      have HR := Lib.hid (show AlikeR w l.length (.int .i64 ((k + 1 : Nat) : Int)) w1 from ⟨k + 1, by omega, rfl, HF.out.trans0 (hS.trans0 f1)⟩)
      clear hS f1
      go_wp2_with fail
      go_roundw
      case rel => exact HR.out
      case measure => simp [intOf] <;> omega
    have hkl : k = l.length := by omega
    subst hkl
    have HF := Lib.hid hF
    clear hF
    go_wp2_with fail
    go_ret
    exact ⟨rfl, HF.out⟩
theorem eqA119 (d : Nat) (w : World) (x0 y0 : Int) (x1 y1 : Int) :
    (Op.equalIn (d + 2) 119 (.agg #[.int .i64 x0, .int .i64 x1]) (.agg #[.int .i64 y0, .int .i64 y1])).run Try.prog w = .ok (x0 == y0 && (x1 == y1)) w := by
  refine eqA_of Try.underlying119 (by kernel_rfl) ?_
  refine eqf_cons (by rfl) (by go_simp; rfl) (by go_simp; rfl) (by go_simp) ?_
  exact eqf_last (by rfl) (by go_simp; rfl) (by go_simp; rfl) (by go_simp)
attribute [local go_sem high] eqA23 eqA25 eqA27 eqA119
set_option maxRecDepth 100000 in
set_option maxHeartbeats 4000000 in
theorem sameQ_calls {w : World} (l : List Que) (a b : Option Addr) (c d : Nat) (ha : ∃ css, RowA QueAt 7 w X0 a l css) (hb : ∃ css, RowA QueAt 7 w X0 b l css) (hl : l.length ≤ 1000000000) :
    Calls Try.prog 60 #[.slice a l.length c, .slice b l.length d] w (BoolE true w) := by
  obtain ⟨ca, ha⟩ := ha
  obtain ⟨cb, hb⟩ := hb
  have HA := Lib.hid ha
  have HB := Lib.hid hb
  clear ha hb
  go_enter Try.func60, Try.ntmps60
  go_wp2_with fail
  go_loopw [13] (fun i wr => AlikeR w l.length i wr) (fun i _ => l.length - (intOf i).toNat)
  case atStart => exact ⟨0, Nat.zero_le _, rfl, Fr.refl _ _⟩
  case round =>
    obtain ⟨k, hk, rfl, hF⟩ := hrel
    rcases Nat.lt_or_ge k l.length with hlt | hge
    · obtain ⟨t, ht⟩ : ∃ t, l[k]? = some t := ⟨l[k], List.getElem?_eq_getElem hlt⟩
      have kb : (k : Int) < (l.length : Int) := by omega
      have k0 : (0 : Int) ≤ (k : Int) := by omega
      obtain ⟨b1, o1, cs1, rfl, hb1, hx1, hcl1, he1, hr1⟩ := (HA.out.fr0 hF (fun _ _ _ _ _ h => h)).get (by decide) ht
      obtain ⟨b2, o2, cs2, rfl, hb2, hx2, hcl2, he2, hr2⟩ := (HB.out.fr0 hF (fun _ _ _ _ _ h => h)).get (by decide) ht
      rw [show cs1 = t.cells from he1] at hr1
      rw [show cs2 = t.cells from he2] at hr2
      have HR1 := Lib.hid hr1
      have HR2 := Lib.hid hr2
      have HF := Lib.hid hF
      clear hF hr1 hr2 hcl1 hcl2 ht he1 he2
      go_wp2_with fail
      refine wp_region_ord (Fr [] wr) [0, 1, 2, 3, 4, 5, 6, 7, 8] [] [] [3, 7] mixed (by kernel_rfl) ?_
      have hS : Fr [] wr wr.drew := (Fr.refl _ _).drew
      simp only [pairs, pickN]
      repeat (first | (refine wpO_free ?_ (by rfl) (by rfl) (fun w' => ?_) ?_; rotate_left; (go_simp; rfl); simp only [Act.put, List.setIfInBounds_toArray, List.set_cons_zero, List.set_cons_succ]) | (refine wpO_pass (by rfl) ?_; simp only [Act.put, List.setIfInBounds_toArray, List.set_cons_zero, List.set_cons_succ]))
      refine wpO_take (.agg t.cells.toArray) hS (by rfl) (by rfl) (fun w' hw' => run_loadM 25 _ rfl b1 (o1 + k * 7) (by rfl) t.cells _ (rangeAt_fr HR1.out hw' (by simp)) Try.underlying25 rfl (by kernel_rfl)) ?_
      simp only [Act.put, List.setIfInBounds_toArray, List.set_cons_zero, List.set_cons_succ]
      repeat (first | (refine wpO_free ?_ (by rfl) (by rfl) (fun w' => ?_) ?_; rotate_left; (go_simp; rfl); simp only [Act.put, List.setIfInBounds_toArray, List.set_cons_zero, List.set_cons_succ]) | (refine wpO_pass (by rfl) ?_; simp only [Act.put, List.setIfInBounds_toArray, List.set_cons_zero, List.set_cons_succ]))
      refine wpO_take (.agg t.cells.toArray) hS (by rfl) (by rfl) (fun w' hw' => run_loadM 25 _ rfl b2 (o2 + k * 7) (by rfl) t.cells _ (rangeAt_fr HR2.out hw' (by simp)) Try.underlying25 rfl (by kernel_rfl)) ?_
      simp only [Act.put, List.setIfInBounds_toArray, List.set_cons_zero, List.set_cons_succ]
      refine wpO_free (.bool false) (by rfl) (by rfl) (fun w' => ?_) ?_
      · unfold Que.cells
        go_simp
      simp only [Act.put, List.setIfInBounds_toArray, List.set_cons_zero, List.set_cons_succ]
      refine wpO_nil ?_
      have HR := Lib.hid (show AlikeR w l.length (.int .i64 ((k + 1 : Nat) : Int)) wr.drew from ⟨k + 1, by omega, rfl, HF.out.trans0 hS⟩)
      clear hS
      go_wp2_with fail
      go_roundw
      case rel => exact HR.out
      case measure => simp [intOf] <;> omega
    have hkl : k = l.length := by omega
    subst hkl
    have HF := Lib.hid hF
    clear hF
    go_wp2_with fail
    go_ret
    exact ⟨rfl, HF.out⟩
set_option maxRecDepth 100000 in
set_option maxHeartbeats 8000000 in
theorem sameS_calls {w : World} (x : Sta) (s r : StaP) (ha : StaAt w X0 x s) (hb : StaAt w X0 x r) (hlen : x.bulk ≤ 1000000000) :
    Calls Try.prog 23 #[.agg (x.cells s).toArray, .agg (x.cells r).toArray] w (BoolE true w) := by
  have HAw := Lib.hid ha
  have HBw := Lib.hid hb
  have ht1 := len_1T x.tasks
  unfold Sta.bulk at hlen
  clear ha hb
  go_enter Try.func23, Try.ntmps23
  go_wp2_with (first
    | (have z := HB0.out; clear z; refine wpList_boxB rfl 58 _ rfl (x.cells r) (by rfl) ?_; intro w2 B2 F2 S2; have hb1 := HB0.out.fr F2 (by simp); have cx0 : w2.cell? ⟨w.heap.size, 0, none⟩ = some (.int .i64 x.long) := hb1.cellAt rfl; have cy0 : w2.cell? ⟨w1.heap.size, 0, none⟩ = some (.int .i64 x.long) := B2.cellAt rfl; have cx1 : w2.cell? ⟨w.heap.size, 1, none⟩ = some (.int .i64 x.patience) := hb1.cellAt rfl; have cy1 : w2.cell? ⟨w1.heap.size, 1, none⟩ = some (.int .i64 x.patience) := B2.cellAt rfl; have cx2 : w2.cell? ⟨w.heap.size, 2, none⟩ = some (.int .i64 x.now) := hb1.cellAt rfl; have cy2 : w2.cell? ⟨w1.heap.size, 2, none⟩ = some (.int .i64 x.now) := B2.cellAt rfl; have cx4 : w2.cell? ⟨w.heap.size, 4, none⟩ = some (.slice s.a2 x.nodes.length s.c2) := hb1.cellAt rfl; have cy4 : w2.cell? ⟨w1.heap.size, 4, none⟩ = some (.slice r.a2 x.nodes.length r.c2) := B2.cellAt rfl; have cx5 : w2.cell? ⟨w.heap.size, 5, none⟩ = some (.slice s.a3 x.tasks.length s.c3) := hb1.cellAt rfl; have cy5 : w2.cell? ⟨w1.heap.size, 5, none⟩ = some (.slice r.a3 x.tasks.length r.c3) := B2.cellAt rfl; have cx7 : w2.cell? ⟨w.heap.size, 7, none⟩ = some (.slice s.a5 x.hungry.length s.c5) := hb1.cellAt rfl; have cy7 : w2.cell? ⟨w1.heap.size, 7, none⟩ = some (.slice r.a5 x.hungry.length r.c5) := B2.cellAt rfl; have HB1 := Lib.hid hb1; have HB2 := Lib.hid B2; have HF2 := Lib.hid (HF1.out.trans0 F2); clear B2 F2 S2 hb1)
    | (refine wpList_boxB rfl 58 _ rfl (x.cells s) (by rfl) ?_; intro w1 B1 F1 S1; have HB0 := Lib.hid B1; have HF1 := Lib.hid F1; have HS1 := Lib.hid S1; clear B1 F1 S1))
  have HA := Lib.hid (HAw.out.fr0 HF2.out)
  have HB := Lib.hid (HBw.out.fr0 HF2.out)
  clear HAw HBw cx0 cy0 cx1 cy1 cx2 cy2 cx5 cy5 cx7 cy7
  go_loopw [57] (fun i wr => AlikeR w2 x.nodes.length i wr) (fun i _ => x.nodes.length - (intOf i).toNat)
  case atStart => exact ⟨0, Nat.zero_le _, rfl, Fr.refl _ _⟩
  case round =>
    obtain ⟨k, hk, rfl, hF⟩ := hrel
    rcases Nat.lt_or_ge k x.nodes.length with hlt | hge
    · obtain ⟨t, ht⟩ : ∃ t, x.nodes[k]? = some t := ⟨x.nodes[k], List.getElem?_eq_getElem hlt⟩
      have kb : (k : Int) < (x.nodes.length : Int) := by omega
      have k0 : (0 : Int) ≤ (k : Int) := by omega
      obtain ⟨ca, ha⟩ := (HA.out.fr0 hF).n
      obtain ⟨cb, hb⟩ := (HB.out.fr0 hF).n
      obtain ⟨b1, o1, cs1, ea1, hb1, hx1, hcl1, he1, hr1⟩ := ha.get (by decide) ht
      obtain ⟨b2, o2, cs2, ea2, hb2, hx2, hcl2, he2, hr2⟩ := hb.get (by decide) ht
      rw [show cs1 = t.cells from he1] at hr1
      rw [show cs2 = t.cells from he2] at hr2
      have d1 : ∀ W, Fr [] wr W → W.cell? ⟨w.heap.size, 4, none⟩ = some (.slice (some ⟨b1, o1, none⟩) x.nodes.length s.c2) := fun W f => by rw [← ea1]; exact ((HB1.out.fr hF (by simp)).fr f (by simp)).cellAt rfl
      have d2 : ∀ W, Fr [] wr W → W.cell? ⟨w1.heap.size, 4, none⟩ = some (.slice (some ⟨b2, o2, none⟩) x.nodes.length r.c2) := fun W f => by rw [← ea2]; exact ((HB2.out.fr hF (by simp)).fr f (by simp)).cellAt rfl
      have HR1 := Lib.hid hr1
      have HR2 := Lib.hid hr2
      have HF := Lib.hid hF
      clear hF hr1 hr2 hcl1 hcl2 ht he1 he2 ha hb
      go_wp2_with fail
      refine wp_region_ord (Fr [] wr) [0, 1, 2, 3, 4, 5, 6, 7, 8, 9, 10] [] [] [1, 4, 6, 9] mixed (by kernel_rfl) ?_
      have hS : Fr [] wr wr.drew := (Fr.refl _ _).drew
      simp only [pairs, pickN]
      (refine wpO_free ?_ (by rfl) (by rfl) (fun w' => ?_) ?_; rotate_left; (go_simp; rfl); simp only [Act.put, List.setIfInBounds_toArray, List.set_cons_zero, List.set_cons_succ])
      (refine wpO_take ?_ hS (by rfl) (by rfl) (fun w' hw' => ?_) ?_; rotate_left; (go_simp; rfl); simp only [Act.put, List.setIfInBounds_toArray, List.set_cons_zero, List.set_cons_succ])
      repeat (first | (refine wpO_free ?_ (by rfl) (by rfl) (fun w' => ?_) ?_; rotate_left; (go_simp; rfl); simp only [Act.put, List.setIfInBounds_toArray, List.set_cons_zero, List.set_cons_succ]) | (refine wpO_pass (by rfl) ?_; simp only [Act.put, List.setIfInBounds_toArray, List.set_cons_zero, List.set_cons_succ]))
      refine wpO_take (.agg t.cells.toArray) hS (by rfl) (by rfl) (fun w' hw' => run_loadM 27 _ rfl b1 (o1 + k * 5) (by rfl) t.cells _ (rangeAt_fr HR1.out hw' (by simp)) Try.underlying27 rfl (by kernel_rfl)) ?_
      simp only [Act.put, List.setIfInBounds_toArray, List.set_cons_zero, List.set_cons_succ]
      (refine wpO_free ?_ (by rfl) (by rfl) (fun w' => ?_) ?_; rotate_left; (go_simp; rfl); simp only [Act.put, List.setIfInBounds_toArray, List.set_cons_zero, List.set_cons_succ])
      (refine wpO_take ?_ hS (by rfl) (by rfl) (fun w' hw' => ?_) ?_; rotate_left; (go_simp; rfl); simp only [Act.put, List.setIfInBounds_toArray, List.set_cons_zero, List.set_cons_succ])
      repeat (first | (refine wpO_free ?_ (by rfl) (by rfl) (fun w' => ?_) ?_; rotate_left; (go_simp; rfl); simp only [Act.put, List.setIfInBounds_toArray, List.set_cons_zero, List.set_cons_succ]) | (refine wpO_pass (by rfl) ?_; simp only [Act.put, List.setIfInBounds_toArray, List.set_cons_zero, List.set_cons_succ]))
      refine wpO_take (.agg t.cells.toArray) hS (by rfl) (by rfl) (fun w' hw' => run_loadM 27 _ rfl b2 (o2 + k * 5) (by rfl) t.cells _ (rangeAt_fr HR2.out hw' (by simp)) Try.underlying27 rfl (by kernel_rfl)) ?_
      simp only [Act.put, List.setIfInBounds_toArray, List.set_cons_zero, List.set_cons_succ]
      refine wpO_free (.bool false) (by rfl) (by rfl) (fun w' => ?_) ?_
      · simp only [Nod.cells, Hun.cells]
        go_simp
      simp only [Act.put, List.setIfInBounds_toArray, List.set_cons_zero, List.set_cons_succ]
      refine wpO_nil ?_
      have HR := Lib.hid (show AlikeR w2 x.nodes.length (.int .i64 ((k + 1 : Nat) : Int)) wr.drew from ⟨k + 1, by omega, rfl, HF.out.trans0 hS⟩)
      clear hS d1 d2
      go_wp2_with fail
      go_roundw
      case rel => exact HR.out
      case measure => simp [intOf] <;> omega
    have hkl : k = x.nodes.length := by omega
    subst hkl
    generalize wr = w3 at *
    have HF3 := Lib.hid hF
    have c3 : (w3).cell? ⟨w.heap.size, 5, none⟩ = some (.slice s.a3 x.tasks.length s.c3) := (HB1.out.fr hF (by simp)).cellAt rfl
    have e3 : (w3).cell? ⟨w1.heap.size, 5, none⟩ = some (.slice r.a3 x.tasks.length r.c3) := (HB2.out.fr hF (by simp)).cellAt rfl
    clear cx4 cy4 hge hk
    go_wp2_with fail
    go_loopw [75] (fun i wr => AlikeR w2 x.tasks.length i wr) (fun i _ => x.tasks.length - (intOf i).toNat)
    case atStart => exact ⟨0, Nat.zero_le _, rfl, HF3.out⟩
    case round =>
      obtain ⟨k, hk, rfl, hF⟩ := hrel
      rcases Nat.lt_or_ge k x.tasks.length with hlt | hge
      · obtain ⟨t, ht⟩ : ∃ t, x.tasks[k]? = some t := ⟨x.tasks[k], List.getElem?_eq_getElem hlt⟩
        have kb : (k : Int) < (x.tasks.length : Int) := by omega
        have k0 : (0 : Int) ≤ (k : Int) := by omega
        obtain ⟨ca, ha⟩ := (HA.out.fr0 hF).t
        obtain ⟨cb, hb⟩ := (HB.out.fr0 hF).t
        obtain ⟨b1, o1, cs1, ea1, hb1, hx1, hcl1, he1, hr1⟩ := ha.get (by decide) ht
        obtain ⟨b2, o2, cs2, ea2, hb2, hx2, hcl2, he2, hr2⟩ := hb.get (by decide) ht
        obtain ⟨a1, c1, rfl, ra1⟩ := he1
        obtain ⟨a2, c2, rfl, ra2⟩ := he2
        have hlc : t.tickets.length ≤ 4611686018427387904 := by
          have : t.tickets.length + 1 ≤ (x.tasks.map fun t => t.tickets.length + 1).sum := by
            obtain ⟨s, hs⟩ := List.mem_iff_append.1 (List.mem_of_getElem? ht)
            obtain ⟨r, hr⟩ := hs
            rw [hr]
            simp only [List.map_append, List.map_cons, List.sum_append, List.sum_cons]
            omega
          omega
        have hst : sameT t t = true := by unfold sameT; simp
        have HC := Lib.hid (fun (W : World) (f : Fr [] wr W) => by
          have := sameT_calls (w := W) t t a1 a2 c1 c2 (ra1.rd.fr0 f) (ra2.rd.fr0 f) hlc
          rw [hst] at this
          exact this)
        have d1 : ∀ W, Fr [] wr W → W.cell? ⟨w.heap.size, 5, none⟩ = some (.slice (some ⟨b1, o1, none⟩) x.tasks.length s.c3) := fun W f => by rw [← ea1]; exact ((HB1.out.fr hF (by simp)).fr f (by simp)).cellAt rfl
        have d2 : ∀ W, Fr [] wr W → W.cell? ⟨w1.heap.size, 5, none⟩ = some (.slice (some ⟨b2, o2, none⟩) x.tasks.length r.c3) := fun W f => by rw [← ea2]; exact ((HB2.out.fr hF (by simp)).fr f (by simp)).cellAt rfl
        have HR1 := Lib.hid hr1
        have HR2 := Lib.hid hr2
        have HF := Lib.hid hF
        clear hF hr1 hr2 hcl1 hcl2 ht ha hb ra1 ra2
        go_wp2_with fail
        refine wp_region_ord (Fr [] wr) [0, 1, 2, 3, 4, 5, 6, 7, 8, 9, 10, 11] [] [10] [1, 4, 6, 9] mixed (by kernel_rfl) ?_
        have hS : Fr [] wr wr.drew := (Fr.refl _ _).drew
        simp only [pairs, pickN]
        (refine wpO_free ?_ (by rfl) (by rfl) (fun w' => ?_) ?_; rotate_left; (go_simp; rfl); simp only [Act.put, List.setIfInBounds_toArray, List.set_cons_zero, List.set_cons_succ])
        (refine wpO_take ?_ hS (by rfl) (by rfl) (fun w' hw' => ?_) ?_; rotate_left; (go_simp; rfl); simp only [Act.put, List.setIfInBounds_toArray, List.set_cons_zero, List.set_cons_succ])
        repeat (first | (refine wpO_free ?_ (by rfl) (by rfl) (fun w' => ?_) ?_; rotate_left; (go_simp; rfl); simp only [Act.put, List.setIfInBounds_toArray, List.set_cons_zero, List.set_cons_succ]) | (refine wpO_pass (by rfl) ?_; simp only [Act.put, List.setIfInBounds_toArray, List.set_cons_zero, List.set_cons_succ]))
        refine wpO_take (.agg (t.cells a1 c1).toArray) hS (by rfl) (by rfl) (fun w' hw' => run_loadM 30 _ rfl b1 (o1 + k * 7) (by rfl) (t.cells a1 c1) _ (rangeAt_fr HR1.out hw' (by simp)) Try.underlying30 rfl (by kernel_rfl)) ?_
        simp only [Act.put, List.setIfInBounds_toArray, List.set_cons_zero, List.set_cons_succ]
        (refine wpO_free ?_ (by rfl) (by rfl) (fun w' => ?_) ?_; rotate_left; (go_simp; rfl); simp only [Act.put, List.setIfInBounds_toArray, List.set_cons_zero, List.set_cons_succ])
        (refine wpO_take ?_ hS (by rfl) (by rfl) (fun w' hw' => ?_) ?_; rotate_left; (go_simp; rfl); simp only [Act.put, List.setIfInBounds_toArray, List.set_cons_zero, List.set_cons_succ])
        repeat (first | (refine wpO_free ?_ (by rfl) (by rfl) (fun w' => ?_) ?_; rotate_left; (go_simp; rfl); simp only [Act.put, List.setIfInBounds_toArray, List.set_cons_zero, List.set_cons_succ]) | (refine wpO_pass (by rfl) ?_; simp only [Act.put, List.setIfInBounds_toArray, List.set_cons_zero, List.set_cons_succ]))
        refine wpO_take (.agg (t.cells a2 c2).toArray) hS (by rfl) (by rfl) (fun w' hw' => run_loadM 30 _ rfl b2 (o2 + k * 7) (by rfl) (t.cells a2 c2) _ (rangeAt_fr HR2.out hw' (by simp)) Try.underlying30 rfl (by kernel_rfl)) ?_
        simp only [Act.put, List.setIfInBounds_toArray, List.set_cons_zero, List.set_cons_succ]
        refine wpO_eff (by rfl) ?_
        refine wpList_callC rfl 42 #[.agg (t.cells a1 c1).toArray, .agg (t.cells a2 c2).toArray] (by first | (go_simp; done) | (go_simp; rfl)) _ (HC.out _ hS) ?_
        rintro e' w5 ⟨rfl, f5⟩
        refine ⟨_, rfl, ?_⟩
        refine effQ_keep (hS.trans0 f5) ?_
        simp only [Act.put, List.setIfInBounds_toArray, List.set_cons_zero, List.set_cons_succ]
        repeat (first | (refine wpO_free ?_ (by rfl) (by rfl) (fun w' => ?_) ?_; rotate_left; (go_simp; rfl); simp only [Act.put, List.setIfInBounds_toArray, List.set_cons_zero, List.set_cons_succ]) | (refine wpO_pass (by rfl) ?_; simp only [Act.put, List.setIfInBounds_toArray, List.set_cons_zero, List.set_cons_succ]))
        refine wpO_nil ?_
        have HR := Lib.hid (show AlikeR w2 x.tasks.length (.int .i64 ((k + 1 : Nat) : Int)) w5 from ⟨k + 1, by omega, rfl, HF.out.trans0 (hS.trans0 f5)⟩)
        clear hS d1 d2 f5
        go_wp2_with fail
        go_roundw
        case rel => exact HR.out
        case measure => simp [intOf] <;> omega
      have hkl : k = x.tasks.length := by omega
      subst hkl
      generalize wr = w4 at *
      have HF4 := Lib.hid hF
      have c4 : (w4).cell? ⟨w.heap.size, 7, none⟩ = some (.slice s.a5 x.hungry.length s.c5) := (HB1.out.fr hF (by simp)).cellAt rfl
      have e4 : (w4).cell? ⟨w1.heap.size, 7, none⟩ = some (.slice r.a5 x.hungry.length r.c5) := (HB2.out.fr hF (by simp)).cellAt rfl
      clear c3 e3 HF3 hge hk
      go_wp2_with fail
      go_loopw [94] (fun i wr => AlikeR w2 x.hungry.length i wr) (fun i _ => x.hungry.length - (intOf i).toNat)
      case atStart => exact ⟨0, Nat.zero_le _, rfl, HF4.out⟩
      case round =>
        obtain ⟨k, hk, rfl, hF⟩ := hrel
        rcases Nat.lt_or_ge k x.hungry.length with hlt | hge
        · obtain ⟨t, ht⟩ : ∃ t, x.hungry[k]? = some t := ⟨x.hungry[k], List.getElem?_eq_getElem hlt⟩
          have kb : (k : Int) < (x.hungry.length : Int) := by omega
          have k0 : (0 : Int) ≤ (k : Int) := by omega
          obtain ⟨ca, ha⟩ := (HA.out.fr0 hF).h
          obtain ⟨cb, hb⟩ := (HB.out.fr0 hF).h
          obtain ⟨b1, o1, cs1, ea1, hb1, hx1, hcl1, he1, hr1⟩ := ha.get (by decide) ht
          obtain ⟨b2, o2, cs2, ea2, hb2, hx2, hcl2, he2, hr2⟩ := hb.get (by decide) ht
          rw [show cs1 = t.cells from he1] at hr1
          rw [show cs2 = t.cells from he2] at hr2
          have d1 : ∀ W, Fr [] wr W → W.cell? ⟨w.heap.size, 7, none⟩ = some (.slice (some ⟨b1, o1, none⟩) x.hungry.length s.c5) := fun W f => by rw [← ea1]; exact ((HB1.out.fr hF (by simp)).fr f (by simp)).cellAt rfl
          have d2 : ∀ W, Fr [] wr W → W.cell? ⟨w1.heap.size, 7, none⟩ = some (.slice (some ⟨b2, o2, none⟩) x.hungry.length r.c5) := fun W f => by rw [← ea2]; exact ((HB2.out.fr hF (by simp)).fr f (by simp)).cellAt rfl
          have HR1 := Lib.hid hr1
          have HR2 := Lib.hid hr2
          have HF := Lib.hid hF
          clear hF hr1 hr2 hcl1 hcl2 ht he1 he2 ha hb
          go_wp2_with fail
          refine wp_region_ord (Fr [] wr) [0, 1, 2, 3, 4, 5, 6, 7, 8, 9, 10] [] [] [1, 4, 6, 9] mixed (by kernel_rfl) ?_
          have hS : Fr [] wr wr.drew := (Fr.refl _ _).drew
          simp only [pairs, pickN]
          (refine wpO_free ?_ (by rfl) (by rfl) (fun w' => ?_) ?_; rotate_left; (go_simp; rfl); simp only [Act.put, List.setIfInBounds_toArray, List.set_cons_zero, List.set_cons_succ])
          (refine wpO_take ?_ hS (by rfl) (by rfl) (fun w' hw' => ?_) ?_; rotate_left; (go_simp; rfl); simp only [Act.put, List.setIfInBounds_toArray, List.set_cons_zero, List.set_cons_succ])
          repeat (first | (refine wpO_free ?_ (by rfl) (by rfl) (fun w' => ?_) ?_; rotate_left; (go_simp; rfl); simp only [Act.put, List.setIfInBounds_toArray, List.set_cons_zero, List.set_cons_succ]) | (refine wpO_pass (by rfl) ?_; simp only [Act.put, List.setIfInBounds_toArray, List.set_cons_zero, List.set_cons_succ]))
          refine wpO_take (.agg t.cells.toArray) hS (by rfl) (by rfl) (fun w' hw' => run_loadM 119 _ rfl b1 (o1 + k * 2) (by rfl) t.cells _ (rangeAt_fr HR1.out hw' (by simp)) Try.underlying119 rfl (by kernel_rfl)) ?_
          simp only [Act.put, List.setIfInBounds_toArray, List.set_cons_zero, List.set_cons_succ]
          (refine wpO_free ?_ (by rfl) (by rfl) (fun w' => ?_) ?_; rotate_left; (go_simp; rfl); simp only [Act.put, List.setIfInBounds_toArray, List.set_cons_zero, List.set_cons_succ])
          (refine wpO_take ?_ hS (by rfl) (by rfl) (fun w' hw' => ?_) ?_; rotate_left; (go_simp; rfl); simp only [Act.put, List.setIfInBounds_toArray, List.set_cons_zero, List.set_cons_succ])
          repeat (first | (refine wpO_free ?_ (by rfl) (by rfl) (fun w' => ?_) ?_; rotate_left; (go_simp; rfl); simp only [Act.put, List.setIfInBounds_toArray, List.set_cons_zero, List.set_cons_succ]) | (refine wpO_pass (by rfl) ?_; simp only [Act.put, List.setIfInBounds_toArray, List.set_cons_zero, List.set_cons_succ]))
          refine wpO_take (.agg t.cells.toArray) hS (by rfl) (by rfl) (fun w' hw' => run_loadM 119 _ rfl b2 (o2 + k * 2) (by rfl) t.cells _ (rangeAt_fr HR2.out hw' (by simp)) Try.underlying119 rfl (by kernel_rfl)) ?_
          simp only [Act.put, List.setIfInBounds_toArray, List.set_cons_zero, List.set_cons_succ]
          refine wpO_free (.bool false) (by rfl) (by rfl) (fun w' => ?_) ?_
          · simp only [Nod.cells, Hun.cells]
            go_simp
          simp only [Act.put, List.setIfInBounds_toArray, List.set_cons_zero, List.set_cons_succ]
          refine wpO_nil ?_
          have HR := Lib.hid (show AlikeR w2 x.hungry.length (.int .i64 ((k + 1 : Nat) : Int)) wr.drew from ⟨k + 1, by omega, rfl, HF.out.trans0 hS⟩)
          clear hS d1 d2
          go_wp2_with fail
          go_roundw
          case rel => exact HR.out
          case measure => simp [intOf] <;> omega
        have hkl : k = x.hungry.length := by omega
        subst hkl
        generalize wr = w5 at *
        have HF5 := Lib.hid hF
        have c5 : (w5).cell? ⟨w.heap.size, 3, none⟩ = some (.slice s.a1 x.queues.length s.c1) := (HB1.out.fr hF (by simp)).cellAt rfl
        have e5 : (w5).cell? ⟨w1.heap.size, 3, none⟩ = some (.slice r.a1 x.queues.length r.c1) := (HB2.out.fr hF (by simp)).cellAt rfl
        clear c4 e4 HF4 hge hk
        go_wp2_with fail
        refine (sameQ_calls x.queues s.a1 r.a1 s.c1 r.c1 (HA.out.fr0 HF5.out).q (HB.out.fr0 HF5.out).q (by omega)).mono ?_
        rintro e w6 ⟨rfl, f6⟩
        have HF6 := Lib.hid (HF5.out.trans0 f6)
        have g6 : w6.cell? ⟨w.heap.size, 6, none⟩ = some (.slice s.a4 x.leases.length s.c4) := (HB1.out.fr HF6.out (by simp)).cellAt rfl
        have h6 : w6.cell? ⟨w1.heap.size, 6, none⟩ = some (.slice r.a4 x.leases.length r.c4) := (HB2.out.fr HF6.out (by simp)).cellAt rfl
        clear f6
        go_wp2_with fail
        refine (sameLes_calls x.leases s.a4 r.a4 s.c4 r.c4 (HA.out.fr0 HF6.out).l (HB.out.fr0 HF6.out).l (by omega)).mono ?_
        rintro e w7 ⟨rfl, f7⟩
        have HF7 := Lib.hid ((HF2.out.trans0 HF6.out).trans0 f7)
        clear f7
        go_wp2_with fail
        go_ret
        exact ⟨rfl, HF7.out⟩
end Go.Fur
