/- CommandApart: the walk. -/
import Derived.Test.YtmdfipahbhbgjaaAwake10
import Derived.Test.YtmdfipahbhbgjaaBack10
import Derived.Test.YtmdfipahbhbgjaaBytes01
namespace Go.Fur
open Go Go.RowKit Go.Proofs Go.Proofs.YtmdfipahbhbgjaaW.PrintWords
set_option linter.unusedVariables false
set_option linter.unusedSimpArgs false
theorem dg_byt (y k m : Nat) : Byt (dg y k m) := fun x hx => by
  unfold dg at hx
  obtain ⟨i, _, rfl⟩ := List.mem_map.1 hx
  omega
theorem layN_byt (x : Nat) : Byt (layN x) := by
  unfold layN
  have hk := kl_le x
  split
  · rename_i h0
    have h1 := kl_hi x (by omega)
    rw [h0, sh_vals.1] at h1
    intro z hz
    rw [List.mem_singleton.1 hz]
    omega
  · intro z hz
    rcases List.mem_cons.1 hz with rfl | hz
    · omega
    · exact dg_byt _ _ _ z hz
theorem intsE_byt (l : List Int) : Byt (intsE l) := fun x hx => by
  unfold intsE at hx
  obtain ⟨y, _, hy⟩ := List.mem_flatMap.1 hx
  exact layN_byt _ x hy
theorem Tas.enc_byt (t : Tas) : Byt t.enc := by
  unfold Tas.enc listE
  exact ((intsE_byt _).append ((layN_byt _).append (intsE_byt _))).append (intsE_byt _)
theorem Ent.enc_byt (t : Ent) : Byt t.enc := by
  unfold Ent.enc Cmd.enc
  exact (intsE_byt _).append (((((layN_byt _).append (intsE_byt _)).append (intsE_byt _)).append (intsE_byt _)).append (Tas.enc_byt _))
theorem encE_byt (t : Ent) : Byt (encE t).1 := by
  unfold encE
  split
  · exact t.enc_byt
  · exact Byt.nil
theorem beq_pair {a b : Bool} (h : (a && b) = true) : a = true ∧ b = true := by simpa using h
theorem sameE_is (a b : Ent) : sameE a b = true ↔ a = b := by
  obtain ⟨a1, a2, a3, ⟨a4, a5, a6, a7, a8, ⟨q1, q2, q3, q4, q5, q6, q7⟩, ⟨n1, n2, n3, n4, n5⟩, ⟨t1, t2, t3, t4, t5, t6, t7⟩⟩⟩ := a
  obtain ⟨b1, b2, b3, ⟨b4, b5, b6, b7, b8, ⟨p1, p2, p3, p4, p5, p6, p7⟩, ⟨m1, m2, m3, m4, m5⟩, ⟨s1, s2, s3, s4, s5, s6, s7⟩⟩⟩ := b
  unfold sameE sameQ sameN sameT
  simp only [Bool.and_eq_true, beq_iff_eq, decide_eq_true_eq, Ent.mk.injEq, Cmd.mk.injEq, Que.mk.injEq, Nod.mk.injEq, Tas.mk.injEq]
  constructor
  · rintro ⟨h1, h2, h3, h4, h5, h6, h7, h8, ⟨h9, h10, h11, ⟨h12, h13⟩, h14, h15⟩, ⟨h16, h17, h18, h19, h20⟩, h21, h22, ⟨h23, h24⟩, h25, h26, h27⟩
    exact ⟨h1, h2, h3, h4, h5, h6, h7, h8, ⟨h9, h10, h11, h12, h13, h14, h15⟩, ⟨h16, h17, h18, h19, h20⟩, h21, h22, h23, h24, h25, h27, h26⟩
  · rintro ⟨h1, h2, h3, h4, h5, h6, h7, h8, ⟨h9, h10, h11, h12, h13, h14, h15⟩, ⟨h16, h17, h18, h19, h20⟩, h21, h22, h23, h24, h25, h27, h26⟩
    exact ⟨h1, h2, h3, h4, h5, h6, h7, h8, ⟨h9, h10, h11, ⟨h12, h13⟩, h14, h15⟩, ⟨h16, h17, h18, h19, h20⟩, h21, h22, ⟨h23, h24⟩, h25, h26, h27⟩
/-- Unlike entries have unlike bytes. -/
theorem apart_plain {a b : Ent} (ha : a.ok) (hb : b.ok) (ea : a.err = 0) (eb : b.err = 0) : (decide ((encE a).1 = (encE b).1) == sameE a b) = true := by
  rw [beq_iff_eq, Bool.eq_iff_iff, decide_eq_true_eq, sameE_is]
  unfold encE
  rw [if_pos ea, if_pos eb]
  dsimp only
  exact ⟨fun h => enc_inj ha hb ea eb h, fun h => by rw [h]⟩
set_option maxRecDepth 100000 in
set_option maxHeartbeats 4000000 in
theorem CommandApart_calls {w : World} (x y : Ent) (a b : Option Addr) (c d : Nat) (ha : Rd w a (iv x.cmd.task.tickets)) (hb : Rd w b (iv y.cmd.task.tickets)) (hx : x.ok) (hy : y.ok) (lx : x.cmd.task.tickets.length ≤ 1048576) (ly : y.cmd.task.tickets.length ≤ 1048576) :
    Calls Try.prog 5 #[.agg (x.cells a c).toArray, .agg (y.cells b d).toArray] w (BoolE true w) := by
  have HA := Lib.hid (fun (W : World) (f : Fr [] w W) => encodeE_calls (w := W) (base := W.heap.size) (Nat.le_refl _) x a c (ha.fr0 f) hx lx)
  have HB := Lib.hid (fun (W : World) (f : Fr [] w W) => encodeE_calls (w := W) (base := W.heap.size) (Nat.le_refl _) y b d (hb.fr0 f) hy ly)
  have HS := Lib.hid (fun (W : World) (f : Fr [] w W) => sameE_calls (w := W) x y a b c d (ha.fr0 f) (hb.fr0 f) (by omega))
  have HP := Lib.hid (fun e1 e2 => apart_plain (a := x) (b := y) hx hy e1 e2)
  have HYX := Lib.hid (encE_byt x)
  have HYY := Lib.hid (encE_byt y)
  have hex : (encE x).2 = x.err := by unfold encE; split <;> simp_all
  have hey : (encE y).2 = y.err := by unfold encE; split <;> simp_all
  generalize encE x = rx at *
  generalize encE y = ry at *
  obtain ⟨bx, ex⟩ := rx
  obtain ⟨byy, ey⟩ := ry
  dsimp only at hex hey HP HYX HYY
  subst hex
  subst hey
  generalize x.err = ex at *
  generalize y.err = ey at *
  clear ha hb hx hy lx ly
  go_enter Try.func5, Try.ntmps5
  go_wp2_with (first
    | (have z := HB1.out; clear z; refine wpList_boxB rfl 34 _ rfl (y.cells b d) (by rfl) ?_; intro w2 B2 F2 S2; have HBX := Lib.hid (HB1.out.fr F2 (by simp)); have HB2 := Lib.hid B2; have HF2 := Lib.hid F2; have HS2 := Lib.hid S2; clear B2 F2 S2)
    | (refine wpList_boxB rfl 34 _ rfl (x.cells a c) (by rfl) ?_; intro w1 B1 F1 S1; have HB1 := Lib.hid B1; have HF1 := Lib.hid F1; have HS1 := Lib.hid S1; clear B1 F1 S1))
  refine (awake_calls w2).mono ?_
  rintro e w3 ⟨rfl, f3⟩
  have HBX3 := Lib.hid (HBX.out.fr f3 (by simp))
  have HBY3 := Lib.hid (HB2.out.fr f3 (by simp))
  have HF3 := Lib.hid ((HF1.out.trans0 HF2.out).trans0 f3)
  clear f3
  go_wp2_with (refine wpList_loadB rfl 34 _ rfl w.heap.size (by rfl) 34 _ _ HBX3.out Try.underlying34 rfl (entry_size2 x a c) ?_)
  refine (HA.out _ HF3.out).mono ?_
  rintro e w4 ⟨v4, rfl, o4, f4⟩
  obtain ⟨a4, k4, rfl, g1, g2, g3⟩ := o4.form
  have HBX4 := Lib.hid (HBX3.out.fr f4 (by simp))
  have HBY4 := Lib.hid (HBY3.out.fr f4 (by simp))
  have HF4 := Lib.hid (HF3.out.trans0 f4)
  have HO4 := Lib.hid o4
  clear f4 o4 g1 g2 g3
  dsimp only
  go_wp2_with (refine wpList_loadB rfl 34 _ rfl w1.heap.size (by rfl) 34 _ _ HBY4.out Try.underlying34 rfl (entry_size2 y b d) ?_)
  refine (HB.out _ HF4.out).mono ?_
  rintro e w5 ⟨v5, rfl, o5, f5⟩
  obtain ⟨a5, k5, rfl, g1, g2, g3⟩ := o5.form
  have HBX5 := Lib.hid (HBX4.out.fr f5 (by simp))
  have HBY5 := Lib.hid (HBY4.out.fr f5 (by simp))
  have HF5 := Lib.hid (HF4.out.trans0 f5)
  have HO5 := Lib.hid o5
  have HO4' := Lib.hid (HO4.out.fr0 f5)
  clear f5 o5 g1 g2 g3
  dsimp only
  go_wp2_with fail
  have hS : Fr [] w5 w5.drew := (Fr.refl _ _).drew
  by_cases h1 : ex = 0
  · subst h1
    by_cases h2 : ey = 0
    · subst h2
      have hP := HP.out rfl rfl
      refine wp_region_ord (Fr [] w5) [0, 1, 2, 3, 4, 5, 6, 7, 8, 10, 11, 9, 12, 13, 14, 15] [] [9, 12] [10, 11] mixed (by kernel_rfl) ?_
      simp only [pairs, pickN]
      repeat (first | (refine wpO_free ?_ (by rfl) (by rfl) (fun w' => ?_) ?_; rotate_left; (go_simp; rfl); simp only [Act.put, List.setIfInBounds_toArray, List.set_cons_zero, List.set_cons_succ]) | (refine wpO_take ?_ hS (by rfl) (by rfl) (fun w' hw' => ?_) ?_; rotate_left; (go_simp; rfl); simp only [Act.put, List.setIfInBounds_toArray, List.set_cons_zero, List.set_cons_succ]) | (refine wpO_pass (by rfl) ?_; simp only [Act.put, List.setIfInBounds_toArray, List.set_cons_zero, List.set_cons_succ]))
      refine wpO_take (.agg (x.cells a c).toArray) hS (by rfl) (by rfl) (fun w' hw' => run_loadB 34 _ rfl w.heap.size (by rfl) 34 _ _ (HBX5.out.fr hw' (by simp)) Try.underlying34 rfl (entry_size2 x a c)) ?_
      simp only [Act.put, List.setIfInBounds_toArray, List.set_cons_zero, List.set_cons_succ]
      refine wpO_take (.agg (y.cells b d).toArray) hS (by rfl) (by rfl) (fun w' hw' => run_loadB 34 _ rfl w1.heap.size (by rfl) 34 _ _ (HBY5.out.fr hw' (by simp)) Try.underlying34 rfl (entry_size2 y b d)) ?_
      simp only [Act.put, List.setIfInBounds_toArray, List.set_cons_zero, List.set_cons_succ]
      refine wpO_eff (by rfl) ?_
      refine gate_guard (by rfl) ?_
      dsimp only
      refine wpList_callC rfl 14 #[.slice a4 bx.length k4, .slice a5 byy.length k5] (by first | (go_simp; done) | (go_simp; rfl)) _ (bytes_calls _ a4 a5 k4 k5 bx.length byy.length bx byy rfl rfl HYX.out HYY.out (Own.rdS (X := fun _ => False) (HO4'.out.fr0 hS) (fun _ _ h => h)).1.rd (Own.rdS (X := fun _ => False) (HO5.out.fr0 hS) (fun _ _ h => h)).1.rd) ?_
      rintro e' w6 ⟨rfl, rfl⟩
      refine ⟨_, rfl, ?_⟩
      refine effQ_keep hS ?_
      simp only [Act.put, List.setIfInBounds_toArray, List.set_cons_zero, List.set_cons_succ]
      generalize decide (bx = byy) = b1 at *
      generalize sameE x y = b2 at *
      refine wpO_eff (by rfl) ?_
      refine gate_guard (by rfl) ?_
      dsimp only
      refine wpList_callC rfl 15 #[.agg (x.cells a c).toArray, .agg (y.cells b d).toArray] (by first | (go_simp; done) | (go_simp; rfl)) _ (HS.out _ (HF5.out.trans0 hS)) ?_
      rintro e' w7 ⟨rfl, f7⟩
      refine ⟨_, rfl, ?_⟩
      have hS7 : Fr [] w5 w7 := hS.trans0 f7
      refine effQ_keep hS7 ?_
      simp only [Act.put, List.setIfInBounds_toArray, List.set_cons_zero, List.set_cons_succ]
      clear hS
      have hS := hS7
      repeat (first | (refine wpO_free ?_ (by rfl) (by rfl) (fun w' => ?_) ?_; rotate_left; (go_simp; rfl); simp only [Act.put, List.setIfInBounds_toArray, List.set_cons_zero, List.set_cons_succ]) | (refine wpO_take ?_ hS (by rfl) (by rfl) (fun w' hw' => ?_) ?_; rotate_left; (go_simp; rfl); simp only [Act.put, List.setIfInBounds_toArray, List.set_cons_zero, List.set_cons_succ]) | (refine wpO_pass (by rfl) ?_; simp only [Act.put, List.setIfInBounds_toArray, List.set_cons_zero, List.set_cons_succ]))
      refine wpO_nil ?_
      have HSS := Lib.hid hS7
      clear hS hS7 f7
      go_wp2_with fail
      go_ret
      refine ⟨?_, HF5.out.trans0 HSS.out⟩
      first | rfl | (simp [hP])
    · have hb2 : (ey != 0) = true := by simpa using h2
      clear h2 HP
      refine wp_region_ord (Fr [] w5) [0, 1, 2, 3, 4, 5, 6, 7, 8, 10, 11, 9, 12, 13, 14, 15] [] [9, 12] [10, 11] mixed (by kernel_rfl) ?_
      simp only [pairs, pickN]
      repeat (first | (refine wpO_free ?_ (by rfl) (by rfl) (fun w' => ?_) ?_; rotate_left; (go_simp; rfl); simp only [Act.put, List.setIfInBounds_toArray, List.set_cons_zero, List.set_cons_succ]) | (refine wpO_take ?_ hS (by rfl) (by rfl) (fun w' hw' => ?_) ?_; rotate_left; (go_simp; rfl); simp only [Act.put, List.setIfInBounds_toArray, List.set_cons_zero, List.set_cons_succ]) | (refine wpO_pass (by rfl) ?_; simp only [Act.put, List.setIfInBounds_toArray, List.set_cons_zero, List.set_cons_succ]))
      refine wpO_nil ?_
      have HSS := Lib.hid hS
      clear hS
      go_wp2_with fail
      go_ret
      exact ⟨rfl, HF5.out.trans0 HSS.out⟩
  · have hb1 : (ex != 0) = true := by simpa using h1
    clear h1 HP
    refine wp_region_ord (Fr [] w5) [0, 1, 2, 3, 4, 5, 6, 7, 8, 10, 11, 9, 12, 13, 14, 15] [] [9, 12] [10, 11] mixed (by kernel_rfl) ?_
    simp only [pairs, pickN]
    repeat (first | (refine wpO_free ?_ (by rfl) (by rfl) (fun w' => ?_) ?_; rotate_left; (go_simp; rfl); simp only [Act.put, List.setIfInBounds_toArray, List.set_cons_zero, List.set_cons_succ]) | (refine wpO_take ?_ hS (by rfl) (by rfl) (fun w' hw' => ?_) ?_; rotate_left; (go_simp; rfl); simp only [Act.put, List.setIfInBounds_toArray, List.set_cons_zero, List.set_cons_succ]) | (refine wpO_pass (by rfl) ?_; simp only [Act.put, List.setIfInBounds_toArray, List.set_cons_zero, List.set_cons_succ]))
    refine wpO_nil ?_
    have HSS := Lib.hid hS
    clear hS
    go_wp2_with fail
    go_ret
    exact ⟨rfl, HF5.out.trans0 HSS.out⟩
end Go.Fur
