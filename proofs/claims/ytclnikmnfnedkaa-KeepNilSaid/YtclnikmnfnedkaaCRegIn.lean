/- A record is done: contract of redo. -/
import Derived.Test.YtclnikmnfnedkaaCKp7
import Derived.Test.YtclnikmnfnedkaaCStrip1
import Derived.Test.YtclnikmnfnedkaaCSto6
import Derived.OrdersIn
namespace Go.Fur
open Go Go.RowKit Go.Proofs
set_option linter.unusedVariables false
set_option linter.unusedSimpArgs false
/-- A keep that is being opened: all its rows lie behind it. -/
def KpNew (w : World) (K q : Nat) (k : KP) : Prop := ∃ vs ve, KpRd w (fun b => b ≤ K) K q vs ve k
set_option maxRecDepth 100000 in
set_option maxHeartbeats 4000000 in
theorem redoV_calls {w : World} {K q : Nat} {k : KP} {a : Option Addr} {c : Nat} {l : List Int} {t v : Int} (hK : KpNew w K q k) (hr : RdA w (fun b => b = K) a (bv l)) (hc : l.length ≤ c) (hs : l.length ≤ 1000000000) (hl : l = recV t v) (ht : I64 t) (hv : I64 v) :
    Calls Try.prog 34 #[.pointer (some ⟨K, 0, none⟩), .slice a l.length c] w fun e w' => e = .returned (.bool true) ∧ KpNew w' K q { k with term := t, vote := v } ∧ Fr [K] w w' := by
  obtain ⟨vs, ve, hK⟩ := hK
  have hy : Byt l := hl ▸ byt_flatI _
  have hx : Sx l 0 (layI 1 ++ (layI t ++ (layI v ++ []))) := by
    subst hl
    exact ⟨Nat.zero_le _, by simp [recV]⟩
  have HX := Lib.hid hx
  have HK := Lib.hid hK
  have HR := Lib.hid hr
  have HY := Lib.hid hy
  have hbr := reader_build a l.length c
  clear hK hr hl hx hy
  go_enter Try.func34, Try.ntmps34
  go_wp2_with fail
  have F1 := (Fr.refl [] w).alloc (.cells #[.slice a l.length c, .int .i64 0, .bool false] 113)
  have B1 : Blk (w.alloc (.cells #[.slice a l.length c, .int .i64 0, .bool false] 113)) w.heap.size 113 [.slice a l.length c, .int .i64 0, .bool false] := Blk.new w 113 _
  generalize w.alloc (.cells #[.slice a l.length c, .int .i64 0, .bool false] 113) = w1 at *
  have hz1 := F1.size
  obtain ⟨r, hrw⟩ : ∃ r, w.heap.size = r := ⟨_, rfl⟩
  rw [hrw] at B1 ⊢
  have hKlt := HK.out.hk.lt
  have hKr : K ≠ r := by omega
  have R1 : KrAt w1 r a c l 0 := ⟨B1, (HR.out.step F1 (by simp) (X' := fun b => b = r) (fun b hb => .inr (by omega))), HY.out, hc, by omega⟩
  have HR1 := Lib.hid R1
  have HF01 := Lib.hid F1
  clear R1 B1 F1
  refine (rint_calls HR1.out (⟨by omega, by omega⟩ : I64 1) HX.out).mono ?_
  rintro e w2 ⟨rfl, R2, F2⟩
  have HR2 := Lib.hid R2
  have HX2 := Lib.hid HX.out.step
  have HF2 := Lib.hid F2
  clear R2 F2 HR1
  dsimp only
  go_wp2_with fail
  refine (rint_calls HR2.out ht HX2.out).mono ?_
  rintro e w3 ⟨rfl, R3, F3⟩
  have HR3 := Lib.hid R3
  have HX3 := Lib.hid HX2.out.step
  have HF3 := Lib.hid (HF2.out.trans1 F3)
  clear R3 F3 HR2 HX2 HF2
  dsimp only
  go_wp2_with fail
  refine (rint_calls HR3.out hv HX3.out).mono ?_
  rintro e w4 ⟨rfl, R4, F4⟩
  have HR4 := Lib.hid R4
  have HX4 := Lib.hid HX3.out.step
  have HF4 := Lib.hid (HF3.out.trans1 F4)
  clear R4 F4 HR3 HX3 HF3
  have hw4 : Fr [] w w4 := HF01.out.trans HF4.out (fun k hk hlt => by rw [List.mem_singleton.1 hk] at hlt; omega)
  have HW4 := Lib.hid hw4
  have HK4 := Lib.hid (HK.out.fr0 hw4)
  have HRD := Lib.hid (fun (W : World) (f : Fr [K] w W) => HR.out.step f (fun k hk => .inl (List.mem_singleton.1 hk)) (X' := fun b => b = r) (fun b hb => .inr (by omega)))
  have cb : w4.cell? ⟨r, 2, none⟩ = some (.bool false) := HR4.out.hr.cellAt rfl
  clear hw4
  dsimp only
  have hend := HX4.out
  obtain ⟨at4, hat4⟩ : ∃ at4, 0 + (layI 1).length + (layI t).length + (layI v).length = at4 := ⟨_, rfl⟩
  rw [hat4] at HR4 hend
  have hal : at4 = l.length := by
    have h2 := congrArg List.length hend.2
    rw [List.length_drop, List.length_nil] at h2
    have := hend.1
    omega
  subst hal
  have e0 := HK4.out.hk
  go_wp2_with (first
    | (have z := HK6.out; clear z; refine wpList_store1 rfl 3 _ _ rfl K 2 (.int .i64 v) (by rfl) (by rfl) rfl 70 _ HK6.out (by simp [kpC]) (by kernel_rfl) rfl ?_; intro w7 B7 F7 S7; have HK7 := Lib.hid (show Blk w7 K 70 (kpC q { k with term := t, vote := v } vs ve) from B7); have HF7 := Lib.hid (HF6.out.trans1 F7); have cb7 : w7.cell? ⟨r, 2, none⟩ = some (.bool false) := (HR4.out.hr.fr HF7.out (by simpa using hKr.symm)).cellAt rfl; have ca7 : w7.cell? ⟨r, 1, none⟩ = some (.int .i64 l.length) := (HR4.out.hr.fr HF7.out (by simpa using hKr.symm)).cellAt rfl; clear B7 F7 S7)
    | (refine wpList_store1 rfl 3 _ _ rfl K 1 (.int .i64 t) (by rfl) (by rfl) rfl 70 _ HK4.out.hk (by simp [kpC]) (by kernel_rfl) rfl ?_; intro w6 B6 F6 S6; have HK6 := Lib.hid (show Blk w6 K 70 (kpC q { k with term := t } vs ve) from B6); have HF6 := Lib.hid F6; clear B6 F6 S6))
  go_ret
  have hw := HK4.out.wf
  have hS : ∀ b ∈ [K], b ≤ K ∨ w4.heap.size ≤ b := fun b hb => .inl (Nat.le_of_eq (List.mem_singleton.1 hb))
  exact ⟨rfl, ⟨vs, ve, HK7.out, HK4.out.sn.step HF7.out hS (fun b hb => .inl hb), HK4.out.en.step HF7.out hS (fun b hb => .inl hb), ⟨ht, hv, hw.base, hw.bt, hw.snap, hw.sl, hw.es, hw.el⟩⟩, (HW4.out.ext (S := [K])).trans1 HF7.out⟩
set_option maxRecDepth 100000 in
set_option maxHeartbeats 4000000 in
theorem redoP_calls {w : World} {K q : Nat} {k : KP} {a : Option Addr} {c : Nat} {l : List Int} {i t : Int} {dt : List Int} (hK : KpNew w K q k) (hr : RdA w (fun b => b = K) a (bv l)) (hc : l.length ≤ c) (hs : l.length ≤ 1000000000) (hl : l = recP i t dt) (hi1 : k.base < i) (hi2 : i ≤ k.last + 1) (ht : I64 t) (hd : Byt dt) (hdl : dt.length ≤ 1048576) (hel : k.es.length + 1 ≤ 1000000) :
    Calls Try.prog 34 #[.pointer (some ⟨K, 0, none⟩), .slice a l.length c] w fun e w' => e = .returned (.bool true) ∧ KpNew w' K q (putE k i t dt) ∧ Fr [K] w w' := by
  obtain ⟨vs, ve, hK⟩ := hK
  have hy : Byt l := hl ▸ (byt_flatI _).append (byt_layB hd)
  have hx : Sx l 0 (layI 2 ++ (layI i ++ (layI t ++ (layB dt ++ [])))) := by
    subst hl
    exact ⟨Nat.zero_le _, by simp [recP]⟩
  have hb := hK.wf.base
  have hll := hK.wf.lastI
  have hiI : I64 i := ⟨by omega, by omega⟩
  have HX := Lib.hid hx
  have HK := Lib.hid hK
  have HR := Lib.hid hr
  have HY := Lib.hid hy
  have hbr := reader_build a l.length c
  clear hK hr hl hx hy
  go_enter Try.func34, Try.ntmps34
  go_wp2_with fail
  have F1 := (Fr.refl [] w).alloc (.cells #[.slice a l.length c, .int .i64 0, .bool false] 113)
  have B1 : Blk (w.alloc (.cells #[.slice a l.length c, .int .i64 0, .bool false] 113)) w.heap.size 113 [.slice a l.length c, .int .i64 0, .bool false] := Blk.new w 113 _
  generalize w.alloc (.cells #[.slice a l.length c, .int .i64 0, .bool false] 113) = w1 at *
  have hz1 := F1.size
  obtain ⟨r, hrw⟩ : ∃ r, w.heap.size = r := ⟨_, rfl⟩
  rw [hrw] at B1 ⊢
  have hKlt := HK.out.hk.lt
  have hKr : K ≠ r := by omega
  have R1 : KrAt w1 r a c l 0 := ⟨B1, (HR.out.step F1 (by simp) (X' := fun b => b = r) (fun b hb => .inr (by omega))), HY.out, hc, by omega⟩
  have HR1 := Lib.hid R1
  have HF01 := Lib.hid F1
  clear R1 B1 F1
  refine (rint_calls HR1.out (⟨by omega, by omega⟩ : I64 2) HX.out).mono ?_
  rintro e w2 ⟨rfl, R2, F2⟩
  have HR2 := Lib.hid R2
  have HX2 := Lib.hid HX.out.step
  have HF2 := Lib.hid F2
  clear R2 F2 HR1
  dsimp only
  go_wp2_with fail
  refine (rint_calls HR2.out hiI HX2.out).mono ?_
  rintro e w3 ⟨rfl, R3, F3⟩
  have HR3 := Lib.hid R3
  have HX3 := Lib.hid HX2.out.step
  have HF3 := Lib.hid (HF2.out.trans1 F3)
  clear R3 F3 HR2 HX2 HF2
  dsimp only
  go_wp2_with fail
  refine (rint_calls HR3.out ht HX3.out).mono ?_
  rintro e w4 ⟨rfl, R4, F4⟩
  have HR4 := Lib.hid R4
  have HX4 := Lib.hid HX3.out.step
  have HF4 := Lib.hid (HF3.out.trans1 F4)
  clear R4 F4 HR3 HX3 HF3
  have hw4 : Fr [] w w4 := HF01.out.trans HF4.out (fun k hk hlt => by rw [List.mem_singleton.1 hk] at hlt; omega)
  have HW4 := Lib.hid hw4
  have HK4 := Lib.hid (HK.out.fr0 hw4)
  have HRD := Lib.hid (fun (W : World) (f : Fr [K] w W) => HR.out.step f (fun k hk => .inl (List.mem_singleton.1 hk)) (X' := fun b => b = r) (fun b hb => .inr (by omega)))
  have cb : w4.cell? ⟨r, 2, none⟩ = some (.bool false) := HR4.out.hr.cellAt rfl
  clear hw4
  dsimp only
  have HL := Lib.hid (klast_calls HK4.out)
  have c3 : w4.cell? ⟨K, 3, none⟩ = some (.int .i64 k.base) := HK4.out.hk.cellAt rfl
  go_wp2_with fail
  refine HL.out.mono ?_
  rintro e w5 ⟨rfl, nm, rfl⟩
  dsimp only
  have hF5 : Fr [] w4 (w4.drewN nm) := (Fr.refl _ _).drewN nm
  have HK5 := Lib.hid (HK4.out.fr0 hF5)
  have HR5 := Lib.hid (HR4.out.fr0 hF5)
  have HW5 := Lib.hid (HW4.out.trans0 hF5)
  generalize w4.drewN nm = w5 at *
  obtain ⟨n, hn⟩ : ∃ n : Nat, i - k.base - 1 = n := ⟨(i - k.base - 1).toNat, by omega⟩
  have hlast : k.last = k.base + k.es.length := rfl
  have hnl : n ≤ k.es.length := by omega
  obtain ⟨ae, ce, css, hve, he1, he2, he3⟩ := HK.out.en
  subst hve
  obtain ⟨aR, hRR, hsl⟩ := slice_hm (P := Try.prog) Try.underlying68 entry_size ae k.es.length ce n (n : Int) (n : Int) rfl rfl (by omega)
  have HE1 := Lib.hid (And.intro he1 (And.intro hRR hnl))
  have d6 : ∀ W, Fr [r] w5 W → W.cell? ⟨K, 6, none⟩ = some (.slice ae k.es.length ce) := fun W f => (HK5.out.hk.fr f (by simpa using hKr)).cellAt rfl
  have d3 : ∀ W, Fr [r] w5 W → W.cell? ⟨K, 3, none⟩ = some (.int .i64 k.base) := fun W f => (HK5.out.hk.fr f (by simpa using hKr)).cellAt rfl
  have heb := entry_build t
  have j1 : IntKind.i64.wrap (i - k.base) = i - k.base := IntWalk.i64_in _ (by omega)
  have j2 : IntKind.i64.wrap (n : Int) = (n : Int) := IntWalk.i64_in _ (by omega)
  clear he1 hRR c3 he3 cb HL hF5 HK4
  go_wp2_with fail
  refine wp_region_ord (Fr [r] w5) [0,1,2,3,4,5,6,7,8,9,10,11,12,13,14,15,16,17,18,19,20,21,22,23,24,25,26,27,28] [28] [22, 24, 25, 28] [4, 9, 16] mixed (by kernel_rfl) ?_
  have hS : Fr [r] w5 w5.drew := (Fr.refl _ _).drew
  simp only [pairs, pickN]
  repeat (first | (refine wpO_free ?_ (by rfl) (by rfl) (fun w' => ?_) ?_; rotate_left; (go_simp; rfl); simp only [Act.put, List.setIfInBounds_toArray, List.set_cons_zero, List.set_cons_succ]) | (refine wpO_take ?_ hS (by rfl) (by rfl) (fun w' hw' => ?_) ?_; rotate_left; (go_simp; rfl); simp only [Act.put, List.setIfInBounds_toArray, List.set_cons_zero, List.set_cons_succ]) | (refine wpO_pass (by rfl) ?_; simp only [Act.put, List.setIfInBounds_toArray, List.set_cons_zero, List.set_cons_succ]))
  refine wpO_eff (by rfl) ?_
  refine wpList_callC rfl 51 #[.pointer (some ⟨r, 0, none⟩)] (by first | (go_simp; done) | (go_simp; rfl)) _ (rbytes_calls (HR5.out.fr0 ((Fr.refl [] w5).drew)) hdl HX4.out) ?_
  rintro e w6 ⟨v6, rfl, O6, R6, F6⟩
  obtain ⟨a6, c6, rfl, _, _, _⟩ := O6.form
  have hS6 : Fr [r] w5 w6 := hS.trans1 F6
  refine ⟨_, rfl, effQ_keep hS6 ?_⟩
  simp only [Act.put, List.setIfInBounds_toArray, List.set_cons_zero, List.set_cons_succ]
  have hb6 := heb a6 dt.length c6
  repeat (first | (refine wpO_free ?_ (by rfl) (by rfl) (fun w' => ?_) ?_; rotate_left; (go_simp; rfl); simp only [Act.put, List.setIfInBounds_toArray, List.set_cons_zero, List.set_cons_succ]) | (refine wpO_pass (by rfl) ?_; simp only [Act.put, List.setIfInBounds_toArray, List.set_cons_zero, List.set_cons_succ]))
  refine wpO_eff (by rfl) ?_
  refine wpList_buildSlice1 rfl 68 75 _ rfl [.int .i64 0, .slice none 0 0] 2 32 Try.underlying68 info_entry (by simp) (by omega) (by omega) _ [.int .i64 t, .slice a6 dt.length c6] (by rfl) (by rfl) (by simp) ?_
  intro w7 B7 F7 S7
  have hS7 : Fr [r] w5 w7 := hS6.trans0 F7
  refine effQ_keep hS7 ?_
  simp only [Act.put, List.setIfInBounds_toArray, List.set_cons_zero, List.set_cons_succ]
  refine wpO_eff (by rfl) ?_
  have G5 : ∀ W, Fr [r] w5 W → Fr [] w W := fun W f => HW5.out.trans f (fun k hk hlt => by rw [List.mem_singleton.1 hk] at hlt; omega)
  have hxl : (flat id (css.take n)).length = n * 2 := by
    rw [flat_length id 2 _ (HE1.out.1.takeN n).all, List.length_take, HE1.out.1.len, Nat.min_eq_left HE1.out.2.2]
  have hRx : Rd w7 aR (flat id (css.take n)) := by
    rw [← flat_take id 2 css HE1.out.1.all]
    exact (HE1.out.2.1 w7 _ _ (HE1.out.1.rd.fr0 (G5 _ hS7))).rd
  refine wpList_appG rfl _ _ 68 68 rfl 75 75 [.int .i64 0, .slice none 0 0] 2 32 Try.underlying68 Try.underlying68 info_entry rfl (by decide) aR n (flat id (css.take n)) (by rfl) hRx hxl (some ⟨w6.heap.size, 0, none⟩) 1 1 [.int .i64 t, .slice a6 dt.length c6] (by rfl) (by simpa using B7.rd0 2) (by simp) (by decide) (by simp [Value.oneCell']) (by simp only [maxLen]; omega) (by omega) ?_
  intro v8 w8 O8 F8
  have hS8 : Fr [r] w5 w8 := hS7.trans0 F8
  obtain ⟨a8, c8, hv8, _, _, _⟩ := O8.form
  subst hv8
  refine effQ_keep hS8 ?_
  simp only [Act.put, List.setIfInBounds_toArray, List.set_cons_zero, List.set_cons_succ]
  repeat (first | (refine wpO_free ?_ (by rfl) (by rfl) (fun w' => ?_) ?_; rotate_left; (go_simp; rfl); simp only [Act.put, List.setIfInBounds_toArray, List.set_cons_zero, List.set_cons_succ]) | (refine wpO_pass (by rfl) ?_; simp only [Act.put, List.setIfInBounds_toArray, List.set_cons_zero, List.set_cons_succ]))
  refine wpO_eff (by rfl) ?_
  have hG8 := G5 _ hS8
  have hz5 := HW5.out.size
  have hz6 := hS6.size
  have hz7 := hS7.size
  have O6' : Own w8 w5.heap.size 5 1 (.slice a6 dt.length c6) dt.length (bv dt) := ((show Own w6 w5.heap.size 5 1 (.slice a6 dt.length c6) dt.length (bv dt) from O6).fr0 F7).fr0 F8
  have hEn : Ents w8 (fun b => b ≤ K) (.slice a8 (n + 1) c8) (k.es.take n ++ [(t, dt)]) := by
    have hr8 := (HE1.out.1.step hG8 (by simp) (X' := fun b => b ≤ K) (fun b hb => .inl hb) (fun cs t h => h.step hG8 (by simp) (fun b hb => .inl hb))).takeN n
    have hln : (k.es.take n).length = n := by rw [List.length_take, Nat.min_eq_left HE1.out.2.2]
    exact Ents.snoc (e := 75) (base := w7.heap.size) hr8 ⟨_, rfl, O6'.bs rfl (fun b hb hk => by have := (O6'.lt hb).1; omega)⟩ (by rw [hln]; exact O8) (fun b hb hk => by have := (O8.lt hb).1; omega)
  have K8 := HK.out.hk.fr hG8 (by simp)
  refine wpList_store1 rfl 68 _ _ rfl K 6 (.slice a8 (n + 1) c8) (by rfl) (by rfl) rfl 70 _ K8 (by simp [kpC]) (by kernel_rfl) rfl ?_
  intro w9 B9 F9 S9
  refine effQ_skip (by decide) (wpO_nil ?_)
  simp only [Act.put, List.setIfInBounds_toArray, List.set_cons_zero, List.set_cons_succ]
  have hput : (putE k i t dt).es = k.es.take n ++ [(t, dt)] := by unfold putE; rw [hn, Int.toNat_natCast]
  have hSK : ∀ b ∈ [K], b ≤ K ∨ w8.heap.size ≤ b := fun b hb => .inl (Nat.le_of_eq (List.mem_singleton.1 hb))
  have HN := Lib.hid (show KpNew w9 K q (putE k i t dt) from ⟨vs, .slice a8 (n + 1) c8, B9, (HK.out.sn.step hG8 (by simp) (fun b hb => .inl hb)).step F9 hSK (fun b hb => .inl hb), by rw [hput]; exact hEn.step F9 hSK (fun b hb => .inl hb), putE_wf HK.out.wf ht hd hdl hel⟩)
  have HF9 := Lib.hid ((hG8.ext (S := [K])).trans1 F9)
  have HRF := Lib.hid ((((R6.hr.fr F7 (by simp)).fr F8 (by simp)).fr F9 (by simpa using hKr.symm)))
  have hend := HX4.out.step
  have hal : 0 + (layI 2).length + (layI i).length + (layI t).length + (layB dt).length = l.length := by
    have h2 := congrArg List.length hend.2
    rw [List.length_drop, List.length_nil] at h2
    have := hend.1
    omega
  have cb9 : w9.cell? ⟨r, 2, none⟩ = some (.bool false) := HRF.out.cellAt rfl
  have ca9 : w9.cell? ⟨r, 1, none⟩ = some (.int .i64 l.length) := by rw [← hal]; exact HRF.out.cellAt rfl
  clear hput hEn O6' K8 hS8 F9 B9 S9 O8 F8 hRx hxl hS7 B7 F7 S7 hS6 O6 F6 hS hb6 d6 d3 R6 hG8 hend hal G5 hSK HRF
  go_wp2_with fail
  go_ret
  exact ⟨rfl, HN.out, HF9.out⟩
end Go.Fur
namespace Go.Fur
open Go Go.RowKit Go.Proofs
set_option linter.unusedVariables false
set_option linter.unusedSimpArgs false
theorem OpenAt.sto {w : World} {base p bb q lo m1 m2 : Nat} {vs vr tl : Value} {d : D} {o : Opn} (h : OpenAt w base p bb q vs vr tl d o lo m1 m2) (hb : base ≤ lo) (hy : d.byt) (ht : Byt o.tail) (hg : o.gen < 4294967296) (hl : o.life < 4294967296) :
    StoAt w base p bb q (.slice none 0 0) tl d.calm ⟨o.gen, o.life, o.tail, o.at_, o.recs.length, o.recs.length⟩ :=
  ⟨h.da, hy.calm, h.hq, h.tl.base (by have := h.l1; have := h.l2; omega), ht, by have := h.ql; omega, hg, hl⟩
theorem OpenAt.stoS {w : World} {base p bb q lo m1 m2 : Nat} {vs vr tl : Value} {d : D} (h : OpenAt w base p bb q vs vr tl d (openP d) lo m1 m2) (hb : base ≤ lo) (hy : d.byt) :
    StoAt w base p bb q (.slice none 0 0) tl d.calm ⟨(openP d).gen, (openP d).life, (openP d).tail, (openP d).at_, (openP d).recs.length, (openP d).recs.length⟩ := by
  obtain ⟨g1, g2⟩ := open_gen d
  exact h.sto hb hy (open_tail hy) (by rw [g1]; exact rootP_lt hy.now) (by rw [g2]; exact lifeP_lt d)
/-- A record. -/
inductive RecK where
  | vote : Int → Int → RecK
  | put : Int → Int → List Int → RecK
def RecK.enc : RecK → List Int
  | .vote t v => recV t v
  | .put i t l => recP i t l
def RecK.ok (k : KP) : RecK → Prop
  | .vote t v => I64 t ∧ I64 v
  | .put i t l => k.base < i ∧ i ≤ k.last + 1 ∧ I64 t ∧ Byt l ∧ l.length ≤ 60000 ∧ k.es.length + 1 ≤ 1000000
def RecK.run (k : KP) : RecK → KP
  | .vote t v => { k with term := t, vote := v }
  | .put i t l => putE k i t l
def runK (k : KP) (rs : List RecK) : KP := rs.foldl RecK.run k
def OkK : KP → List RecK → Prop
  | _, [] => True
  | k, r :: rs => r.ok k ∧ OkK (r.run k) rs
theorem OkK.get : ∀ {k : KP} {rs : List RecK} (_ : OkK k rs) (j : Nat) (r : RecK), rs[j]? = some r → r.ok (runK k (rs.take j))
  | k, [], _, j, r, hr => by simp at hr
  | k, x :: rs, h, 0, r, hr => by
    simp only [List.getElem?_cons_zero, Option.some.injEq] at hr
    subst hr
    exact h.1
  | k, x :: rs, h, j + 1, r, hr => OkK.get (k := x.run k) h.2 j r (by simpa using hr)
theorem runK_snoc (k : KP) (rs : List RecK) (r : RecK) : runK k (rs ++ [r]) = r.run (runK k rs) := by simp [runK]
theorem RecK.enc_length (r : RecK) (k : KP) (h : r.ok k) : r.enc.length ≤ 60036 := by
  cases r with
  | vote t v => have := recV_length t v; show (recV t v).length ≤ 60036; omega
  | put i t l => have := recP_length i t l; have := h.2.2.2.2.1; show (recP i t l).length ≤ 60036; omega
theorem redo_calls {w : World} {K q : Nat} {k : KP} {a : Option Addr} {c n : Nat} {l : List Int} {r : RecK} (hK : KpNew w K q k) (hr : RdA w (fun b => b = K) a (bv l)) (hn : l.length = n) (hc : n ≤ c) (hl : l = r.enc) (hok : r.ok k) :
    Calls Try.prog 34 #[.pointer (some ⟨K, 0, none⟩), .slice a n c] w fun e w' => e = .returned (.bool true) ∧ KpNew w' K q (r.run k) ∧ Fr [K] w w' := by
  subst hn
  have hle : l.length ≤ 1000000000 := by rw [hl]; have := r.enc_length k hok; omega
  cases r with
  | vote t v => exact redoV_calls hK hr hc hle hl hok.1 hok.2
  | put i t dt => exact redoP_calls hK hr hc hle hl hok.1 hok.2.1 hok.2.2.1 hok.2.2.2.1 (by have := hok.2.2.2.2.1; omega) hok.2.2.2.2.2
theorem KP.new_wf : KP.new.wf := ⟨⟨by decide, by decide⟩, ⟨by decide, by decide⟩, ⟨by decide, by decide⟩, ⟨by decide, by decide⟩, Byt.nil, by simp [KP.new], by simp [KP.new], by simp [KP.new]⟩
theorem keep_build (q : Nat) : ∀ W, (Instr.build 70 #[(0, .pointer (some ⟨q, 0, none⟩)), (2, .int .i64 (-1))]).run Try.prog W = .ok (.agg (kpC q KP.new (.slice none 0 0) (.slice none 0 0)).toArray) W := fun W => by kernel_rfl
/-- What a disk must hold to be opened. -/
structure OpenOk (d : D) (k0 : KP) (rs : List RecK) : Prop where
  snap : ((openP d).whole = true ∧ (openP d).snap = k0.pack ∧ k0.pack.length ≤ 1000000000) ∨ ((openP d).whole = false ∧ k0 = KP.new)
  wf : k0.wf
  recs : (openP d).recs = rs.map RecK.enc
  ok : OkK k0 rs
theorem kpNew_of {w w' : World} {K q : Nat} {k : KP} {vs ve : Value} (hKw : K < w.heap.size) (hb : Blk w' K 70 (kpC q k vs ve)) (hr : RowW (EntO w.heap.size) 2 75 w.heap.size w' ve k.es) (hs : Own w' w.heap.size 5 1 vs k.snap.length (bv k.snap)) (hw : k.wf) : KpNew w' K q k := by
  have hs2 : Bs w' (fun b => b ≤ K) vs k.snap := hs.bs rfl (fun b hb hk => by have := (hs.lt hb).1; omega)
  obtain ⟨css, h1, h2, h3⟩ := hr
  obtain ⟨a, c, hv, h4, h5, h6⟩ := h1.rdA (X := fun b => b ≤ K) (fun b hb hk => by have := (h1.lt hb).1; omega)
  refine ⟨vs, ve, hb, hs2, ⟨a, c, css, hv, ⟨h6, h2, fun i cs t hc ht => ⟨(h3 i cs t hc ht).1, ?_⟩⟩, h4, h5⟩, hw⟩
  obtain ⟨v, hcs, ho⟩ := (h3 i cs t hc ht).2
  exact ⟨v, hcs, ho.bs rfl (fun b hb hk => by have := (ho.lt hb).1; omega)⟩
/-- The store behind Open. -/
def openS (d : D) : St := ⟨(openP d).gen, (openP d).life, (openP d).tail, (openP d).at_, (openP d).recs.length, (openP d).recs.length⟩
def KopenE (w : World) (F0 : Nat → Prop) (base p bb : Nat) (d : D) (k : KP) (e : Ending) (w' : World) : Prop :=
  ∃ K q tl vs ve, e = .returned (.tuple #[.pointer (some ⟨K, 0, none⟩), .int .i64 0]) ∧ KpAt w' (grow F0 w w') base K p bb q (.slice none 0 0) tl vs ve d.calm (openS d) k ∧ Stp F0 w w'
def OpR (w3 : World) (K q : Nat) (k0 : KP) (rs : List RecK) (i : Value) (wr : World) : Prop := ∃ j : Nat, j ≤ rs.length ∧ i = .int .i64 j ∧ KpNew wr K q (runK k0 (rs.take j)) ∧ Fr [K] w3 wr
set_option maxRecDepth 100000 in
set_option maxHeartbeats 8000000 in
theorem kopen_calls {w : World} {F0 : Nat → Prop} {base p bb : Nat} {lv : Value} {d : D} {k0 : KP} {rs : List RecK} (h : DiskAt w base p bb lv d) (hby : d.byt) (hok : OpenOk d k0 rs) (hF0 : ∀ b ∈ p :: bb :: ob lv, F0 b) (hfl : ∀ b, F0 b → base ≤ b ∧ b < w.heap.size) (hbase : base ≤ w.heap.size) :
    Calls Try.prog 14 #[.pointer (some ⟨p, 0, none⟩)] w (KopenE w F0 base p bb d (runK k0 rs)) := by
  have HO := Lib.hid (open_calls h hby)
  have HD := Lib.hid (And.intro h hby)
  have HK0 := Lib.hid hok
  have hpF := hF0 p (by simp)
  have hbF := hF0 bb (by simp)
  clear h hok
  go_enter Try.func14, Try.ntmps14
  go_wp2_with fail
  refine HO.out.mono ?_
  rintro e w1 ⟨q, vs, vr, tl, m1, m2, rfl, O1, F1⟩
  obtain ⟨as1, cs1, hvs, hs1, hs2, hs3⟩ := O1.sn.form
  obtain ⟨us, hus, hul, hua⟩ := O1.rs
  obtain ⟨ar1, cr1, hvr, hr1, hr2, hr3⟩ := hus.form
  subst hvs hvr
  have S1 := O1.stoS hbase HD.out.2
  have hrl : (openP d).recs.length = rs.length := by rw [HK0.out.recs, List.length_map]
  have HS1 := Lib.hid S1
  have HF1 := Lib.hid F1
  have HRC := Lib.hid (And.intro hus (And.intro hul hua))
  have HSN := Lib.hid O1.sn
  have HQ := Lib.hid (show w.heap.size ≤ q from O1.ql.1)
  have HTL := Lib.hid (show ∀ b ∈ ob tl, w.heap.size ≤ b from fun b hb => by have := (O1.tl.lt hb).1; have := O1.l1; have := O1.l2; omega)
  obtain ⟨whole, hwh⟩ : ∃ b, (openP d).whole = b := ⟨_, rfl⟩
  rw [hwh]
  rw [hrl]
  have HWH := Lib.hid hwh
  have hrs : rs.length ≤ maxLen := by rw [← hrl]; omega
  have HRS := Lib.hid hrs
  have hrs63 : rs.length ≤ 9223372036854775807 := by unfold maxLen at hrs; exact hrs
  clear S1 F1 O1 hua hus hul hs3 hr3 HO hwh hrs
  dsimp only
  have hbk := keep_build q
  go_upto_region 5 with fail
  have F2 := (Fr.refl [] w1).alloc (.cells #[.bool whole, .slice as1 (openP d).snap.length cs1, .slice ar1 rs.length cr1] 85)
  have B2 : Blk (w1.alloc (.cells #[.bool whole, .slice as1 (openP d).snap.length cs1, .slice ar1 rs.length cr1] 85)) w1.heap.size 85 [.bool whole, .slice as1 (openP d).snap.length cs1, .slice ar1 rs.length cr1] := Blk.new w1 85 _
  have hz2 : (w1.alloc (.cells #[.bool whole, .slice as1 (openP d).snap.length cs1, .slice ar1 rs.length cr1] 85)).heap.size = w1.heap.size + 1 := World.size_alloc _ _
  generalize w1.alloc (.cells #[.bool whole, .slice as1 (openP d).snap.length cs1, .slice ar1 rs.length cr1] 85) = w2 at *
  have F3 := (Fr.refl [] w2).alloc (.cells #[.pointer (some ⟨q, 0, none⟩), .int .i64 0, .int .i64 (-1), .int .i64 0, .int .i64 0, .slice none 0 0, .slice none 0 0] 70)
  have B3 : Blk (w2.alloc (.cells #[.pointer (some ⟨q, 0, none⟩), .int .i64 0, .int .i64 (-1), .int .i64 0, .int .i64 0, .slice none 0 0, .slice none 0 0] 70)) w2.heap.size 70 [.pointer (some ⟨q, 0, none⟩), .int .i64 0, .int .i64 (-1), .int .i64 0, .int .i64 0, .slice none 0 0, .slice none 0 0] := Blk.new w2 70 _
  generalize w2.alloc (.cells #[.pointer (some ⟨q, 0, none⟩), .int .i64 0, .int .i64 (-1), .int .i64 0, .int .i64 0, .slice none 0 0, .slice none 0 0] 70) = w3 at *
  obtain ⟨K, hK⟩ : ∃ K, w1.heap.size + 1 = K := ⟨_, rfl⟩
  rw [hz2, hK] at B3
  rw [hK]
  obtain ⟨g, hg⟩ : ∃ g, w1.heap.size = g := ⟨_, rfl⟩
  rw [hg] at B2 ⊢
  have HF13 := Lib.hid (F2.trans0 F3)
  have HB2 := Lib.hid (B2.fr F3 (by simp))
  have HB3 := Lib.hid B3
  have hK3 := B3.lt
  have f0 : w3.cell? ⟨g, 0, none⟩ = some (.bool whole) := HB2.out.cellAt rfl
  have f1 : w3.cell? ⟨g, 1, none⟩ = some (.slice as1 (openP d).snap.length cs1) := HB2.out.cellAt rfl
  have hgK : g ≠ K := by omega
  clear F2 F3 B2 B3 hz2
  rcases HK0.out.snap with ⟨hw1, hw2, hw3⟩ | ⟨hw1, hw2⟩
  · have hwt : whole = true := HWH.out.symm.trans hw1
    subst hwt
    have hsn3 := (HSN.out.fr0 HF13.out).rdS (X := fun b => b = K) (fun b hb hk => by have := (HSN.out.lt hb).2; omega)
    rw [hw2] at hsn3 f1
    have HS3 := Lib.hid hsn3.1
    have hcs1 := hsn3.2.1
    clear hsn3 hw1
    go_wp2_with fail
    refine (unpack_calls (x1 := 0) (x2 := -1) (x3 := 0) (x4 := 0) (vs0 := .slice none 0 0) HB3.out HS3.out rfl hcs1 hw3 HK0.out.wf HK0.out.wf.byt).mono ?_
    rintro e w4 ⟨rfl, vsn, ven, Bk, Rk, Ok, F4⟩
    have HN := Lib.hid (kpNew_of hK3 Bk Rk Ok HK0.out.wf)
    have HF34 := Lib.hid F4
    have f2 : w4.cell? ⟨g, 2, none⟩ = some (.slice ar1 rs.length cr1) := (HB2.out.fr F4 (by simpa using hgK)).cellAt rfl
    clear Bk Rk Ok F4 f0 f1 HB3 HS3
    dsimp only
    go_wp2_with fail
    go_loopw [34] (fun i wr => OpR w4 K q k0 rs i wr) (fun i _ => rs.length - (intOf i).toNat)
    case atStart => exact ⟨0, Nat.zero_le _, rfl, by simpa [runK] using HN.out, Fr.refl _ _⟩
    case round =>
      obtain ⟨j, hj, rfl, hN, hF⟩ := hrel
      have HN2 := Lib.hid hN
      have HF2 := Lib.hid hF
      clear hN hF
      by_cases hlt : j < rs.length
      · obtain ⟨r, hr⟩ : ∃ r, rs[j]? = some r := ⟨rs[j], List.getElem?_eq_getElem hlt⟩
        have hrec : (openP d).recs[j]? = some r.enc := by rw [HK0.out.recs, List.getElem?_map, hr]; rfl
        have hus := HRC.out.1
        rw [hrl] at hus
        have F3r : Fr [K] w1 wr := ((HF13.out.ext (S := [K])).trans1 HF34.out).trans1 HF2.out
        have husr := hus.fr F3r (fun g hg hm => by have := (hus.lt hg).2; rw [List.mem_singleton.1 hm] at this; omega)
        obtain ⟨g2, cap2, cur2, x2, hv2, hg2, hb2, hj2, hx2, hc2, _⟩ := husr.cellAt j hlt
        simp only [Value.slice.injEq] at hv2
        obtain ⟨ha2, _, hc2'⟩ := hv2
        obtain ⟨ho, _⟩ := HRC.out.2.2 j x2 r.enc hx2 hrec
        obtain ⟨aj, cj, hvj, hj1, hj2', _⟩ := ho.form
        subst hvj
        have hor := ho.fr F3r (fun g hg hm => by have := (ho.lt hg).2; rw [List.mem_singleton.1 hm] at this; omega)
        have HRJ := Lib.hid (hor.rdS (X := fun b => b = K) (fun b hb hk => by have := (ho.lt hb).2; omega)).1
        have hokj := HK0.out.ok.get j r hr
        have hsn : rs.take (j + 1) = rs.take j ++ [r] := by rw [List.take_add_one, hr]; rfl
        have HSN2 := Lib.hid hsn
        have HOK := Lib.hid hokj
        have i0 : (0 : Int) ≤ (j : Int) := by omega
        have i1 : (j : Int) < (rs.length : Int) := by omega
        have HA2 := Lib.hid ha2
        rw [ha2]
        clear hus husr hb2 hx2 ho hor hokj hsn hr hrec F3r
        go_wp2_with fail
        refine (redo_calls HN2.out HRJ.out rfl hj1 rfl HOK.out).mono ?_
        rintro e w5 ⟨rfl, N5, F5⟩
        have HR := Lib.hid (show OpR w4 K q k0 rs (.int .i64 (j + 1 : Nat)) w5 from ⟨j + 1, by omega, rfl, by rw [HSN2.out, runK_snoc]; exact N5, HF2.out.trans1 F5⟩)
        clear N5 F5
        dsimp only
        go_wp2_with fail
        exact ⟨by have := HR.out; rwa [show ((j + 1 : Nat) : Int) = (j : Int) + 1 from rfl] at this, by simp [intOf]; omega⟩
      · have hjl : j = rs.length := by omega
        subst hjl
        have i1 : ¬ ((rs.length : Int) < (rs.length : Int)) := by omega
        rw [List.take_length] at HN2
        have F1r : Fr [K] w1 wr := ((HF13.out.ext (S := [K])).trans1 HF34.out).trans1 HF2.out
        have F1' : Fr [] w1 wr := F1r.mono (fun b hb hlt => by rw [List.mem_singleton.1 hb] at hlt; omega)
        have HE := Lib.hid (show ∃ vs ve, KpAt wr (grow F0 w wr) base K p bb q (.slice none 0 0) tl vs ve d.calm (openS d) (runK k0 rs) ∧ Stp F0 w wr from by
          obtain ⟨vs, ve, hN⟩ := HN2.out
          have hz := F1'.size
          have hKr := hN.hk.lt
          have hw1 : w.heap.size ≤ w1.heap.size := HF1.out.size
          have S1 := HS1.out
          have S2 := S1.fr0 F1'
          have hfx : ∀ b, stoX p bb q (.slice none 0 0) tl b → grow F0 w wr b ∧ b ≤ K := fun b hb => by
            have hlt := (stoX_ge S1 hb).2
            have hge : b = p ∨ b = bb ∨ w.heap.size ≤ b := by
              rcases hb with rfl | hb | hb
              · exact .inr (.inr (by have := HQ.out; omega))
              · simp only [List.mem_cons, ob_nil, List.not_mem_nil, or_false] at hb
                rcases hb with hb | hb
                · exact .inl hb
                · exact .inr (.inl hb)
              · exact .inr (.inr (HTL.out b hb))
            rcases hge with rfl | rfl | hge
            · exact ⟨.inl hpF, by omega⟩
            · exact ⟨.inl hbF, by omega⟩
            · exact ⟨.inr (by omega), by omega⟩
          have hY : ∀ b, (¬ grow F0 w wr b ∨ kX K p bb q (.slice none 0 0) tl b) → b ≤ K ∨ wr.heap.size ≤ b := fun b hb => by
            rcases hb with hb | hb | hb
            · by_cases h1 : b ≤ K
              · exact .inl h1
              · exact .inr (Nat.le_of_not_lt (fun h2 => hb (.inr (by omega))))
            · exact .inl (Nat.le_of_eq hb)
            · exact .inl (hfx b hb).2
          refine ⟨vs, ve, ⟨S2, ⟨hN.hk, hN.sn.step (Fr.refl [] wr) (by simp) hY, hN.en.step (Fr.refl [] wr) (by simp) hY, hN.wf⟩, fun b hb => ?_, fun b hb => ?_⟩, ?_⟩
          · rcases hb with rfl | hb
            · exact .inr (by omega)
            · exact (hfx b hb).1
          · rcases hb with hb | hb
            · have := hfl b hb
              exact ⟨this.1, by omega⟩
            · exact ⟨by omega, hb.2⟩
          · exact (Stp.of (X := F0) HF1.out (fun b hb => .inl (by rw [List.mem_singleton.1 hb]; exact hpF))).trans (Stp.of (X := F0) F1' (by simp)) (fun b hb => .inl hb))
        clear F1r F1' HN HN2 HRC
        go_wp2_with fail
        go_ret2
        obtain ⟨vs, ve, h1, h2⟩ := HE.out
        exact ⟨K, q, tl, vs, ve, rfl, h1, h2⟩
  · have hwt : whole = false := HWH.out.symm.trans hw1
    subst hwt
    have HN := Lib.hid (show KpNew w3 K q k0 from by
      rw [hw2]
      exact ⟨_, _, HB3.out, Bs.nil _ _, Ents.nil _ _, KP.new_wf⟩)
    obtain ⟨w4, hw4⟩ : ∃ w4, w3 = w4 := ⟨_, rfl⟩
    have HF34 := Lib.hid (show Fr [K] w3 w4 from hw4 ▸ Fr.refl _ _)
    rw [hw4] at HN
    have f2 : w4.cell? ⟨g, 2, none⟩ = some (.slice ar1 rs.length cr1) := hw4 ▸ HB2.out.cellAt rfl
    rw [hw4] at f0
    rw [hw4]
    clear f1 HB3 hw2
    go_wp2_with fail
    go_loopw [34] (fun i wr => OpR w4 K q k0 rs i wr) (fun i _ => rs.length - (intOf i).toNat)
    case atStart => exact ⟨0, Nat.zero_le _, rfl, by simpa [runK] using HN.out, Fr.refl _ _⟩
    case round =>
      obtain ⟨j, hj, rfl, hN, hF⟩ := hrel
      have HN2 := Lib.hid hN
      have HF2 := Lib.hid hF
      clear hN hF
      by_cases hlt : j < rs.length
      · obtain ⟨r, hr⟩ : ∃ r, rs[j]? = some r := ⟨rs[j], List.getElem?_eq_getElem hlt⟩
        have hrec : (openP d).recs[j]? = some r.enc := by rw [HK0.out.recs, List.getElem?_map, hr]; rfl
        have hus := HRC.out.1
        rw [hrl] at hus
        have F3r : Fr [K] w1 wr := ((HF13.out.ext (S := [K])).trans1 HF34.out).trans1 HF2.out
        have husr := hus.fr F3r (fun g hg hm => by have := (hus.lt hg).2; rw [List.mem_singleton.1 hm] at this; omega)
        obtain ⟨g2, cap2, cur2, x2, hv2, hg2, hb2, hj2, hx2, hc2, _⟩ := husr.cellAt j hlt
        simp only [Value.slice.injEq] at hv2
        obtain ⟨ha2, _, hc2'⟩ := hv2
        obtain ⟨ho, _⟩ := HRC.out.2.2 j x2 r.enc hx2 hrec
        obtain ⟨aj, cj, hvj, hj1, hj2', _⟩ := ho.form
        subst hvj
        have hor := ho.fr F3r (fun g hg hm => by have := (ho.lt hg).2; rw [List.mem_singleton.1 hm] at this; omega)
        have HRJ := Lib.hid (hor.rdS (X := fun b => b = K) (fun b hb hk => by have := (ho.lt hb).2; omega)).1
        have hokj := HK0.out.ok.get j r hr
        have hsn : rs.take (j + 1) = rs.take j ++ [r] := by rw [List.take_add_one, hr]; rfl
        have HSN2 := Lib.hid hsn
        have HOK := Lib.hid hokj
        have i0 : (0 : Int) ≤ (j : Int) := by omega
        have i1 : (j : Int) < (rs.length : Int) := by omega
        have HA2 := Lib.hid ha2
        rw [ha2]
        clear hus husr hb2 hx2 ho hor hokj hsn hr hrec F3r
        go_wp2_with fail
        refine (redo_calls HN2.out HRJ.out rfl hj1 rfl HOK.out).mono ?_
        rintro e w5 ⟨rfl, N5, F5⟩
        have HR := Lib.hid (show OpR w4 K q k0 rs (.int .i64 (j + 1 : Nat)) w5 from ⟨j + 1, by omega, rfl, by rw [HSN2.out, runK_snoc]; exact N5, HF2.out.trans1 F5⟩)
        clear N5 F5
        dsimp only
        go_wp2_with fail
        exact ⟨by have := HR.out; rwa [show ((j + 1 : Nat) : Int) = (j : Int) + 1 from rfl] at this, by simp [intOf]; omega⟩
      · have hjl : j = rs.length := by omega
        subst hjl
        have i1 : ¬ ((rs.length : Int) < (rs.length : Int)) := by omega
        rw [List.take_length] at HN2
        have F1r : Fr [K] w1 wr := ((HF13.out.ext (S := [K])).trans1 HF34.out).trans1 HF2.out
        have F1' : Fr [] w1 wr := F1r.mono (fun b hb hlt => by rw [List.mem_singleton.1 hb] at hlt; omega)
        have HE := Lib.hid (show ∃ vs ve, KpAt wr (grow F0 w wr) base K p bb q (.slice none 0 0) tl vs ve d.calm (openS d) (runK k0 rs) ∧ Stp F0 w wr from by
          obtain ⟨vs, ve, hN⟩ := HN2.out
          have hz := F1'.size
          have hKr := hN.hk.lt
          have hw1 : w.heap.size ≤ w1.heap.size := HF1.out.size
          have S1 := HS1.out
          have S2 := S1.fr0 F1'
          have hfx : ∀ b, stoX p bb q (.slice none 0 0) tl b → grow F0 w wr b ∧ b ≤ K := fun b hb => by
            have hlt := (stoX_ge S1 hb).2
            have hge : b = p ∨ b = bb ∨ w.heap.size ≤ b := by
              rcases hb with rfl | hb | hb
              · exact .inr (.inr (by have := HQ.out; omega))
              · simp only [List.mem_cons, ob_nil, List.not_mem_nil, or_false] at hb
                rcases hb with hb | hb
                · exact .inl hb
                · exact .inr (.inl hb)
              · exact .inr (.inr (HTL.out b hb))
            rcases hge with rfl | rfl | hge
            · exact ⟨.inl hpF, by omega⟩
            · exact ⟨.inl hbF, by omega⟩
            · exact ⟨.inr (by omega), by omega⟩
          have hY : ∀ b, (¬ grow F0 w wr b ∨ kX K p bb q (.slice none 0 0) tl b) → b ≤ K ∨ wr.heap.size ≤ b := fun b hb => by
            rcases hb with hb | hb | hb
            · by_cases h1 : b ≤ K
              · exact .inl h1
              · exact .inr (Nat.le_of_not_lt (fun h2 => hb (.inr (by omega))))
            · exact .inl (Nat.le_of_eq hb)
            · exact .inl (hfx b hb).2
          refine ⟨vs, ve, ⟨S2, ⟨hN.hk, hN.sn.step (Fr.refl [] wr) (by simp) hY, hN.en.step (Fr.refl [] wr) (by simp) hY, hN.wf⟩, fun b hb => ?_, fun b hb => ?_⟩, ?_⟩
          · rcases hb with rfl | hb
            · exact .inr (by omega)
            · exact (hfx b hb).1
          · rcases hb with hb | hb
            · have := hfl b hb
              exact ⟨this.1, by omega⟩
            · exact ⟨by omega, hb.2⟩
          · exact (Stp.of (X := F0) HF1.out (fun b hb => .inl (by rw [List.mem_singleton.1 hb]; exact hpF))).trans (Stp.of (X := F0) F1' (by simp)) (fun b hb => .inl hb))
        clear F1r F1' HN HN2 HRC
        go_wp2_with fail
        go_ret2
        obtain ⟨vs, ve, h1, h2⟩ := HE.out
        exact ⟨K, q, tl, vs, ve, rfl, h1, h2⟩
end Go.Fur
namespace Go.Fur
open Go
section
variable {P : Program} {ops : Array Oper} {Q : Exit → Act → World → Prop} {md : Region.Mode} {S : World → Prop} {dep : Array Nat} {skip : List Nat} {n : Nat}
theorem YieldsIf.wpOpIn {i : Nat} {o : Oper} {v : Value} {a : Act} (hi : ops[i]? = some o) (hy : YieldsIf P ops S o v a)
    {K : Act → World → Prop} {w : World} (hS : S w) (h : K (a.put o.dst v) w) : wpOpIn Fence.wide n P ops Q i K a w := by
  unfold Go.wpOpIn
  simp only [hi]
  rcases hy with ⟨hw, hv⟩ | ⟨hw, rfl⟩
  · simp only [hw, if_true, Oper.wpIn, show Fence.wide.round = none from rfl, Oper.semAt_none, hv w hS, Oper.uponIn]
    exact ⟨fun _ _ => trivial, h⟩
  · simp only [hw, Bool.false_eq_true, if_false]
    exact ⟨fun _ _ => trivial, h⟩
theorem wpOpIn_putIf {j : Nat} {oi oj : Oper} {v : Value} (hj : ops[j]? = some oj) (hap : oi.apart ops oj = true)
    (hsi : ∀ cs b, oi.op ≠ .select cs b) (hsj : ∀ cs b, oj.op ≠ .select cs b)
    (hQ : ∀ c a w, Q (.panic c) (a.put oi.dst v) w → Q (.panic c) a w) {K : Act → World → Prop} {a : Act} {w : World}
    (hy : YieldsIf P ops S oi v a) (h : wpOpIn Fence.wide n P ops Q j K (a.put oi.dst v) w) :
    wpOpIn Fence.wide n P ops Q j (fun a' w' => YieldsIf P ops S oi v a' ∧ K (a'.put oi.dst v) w') a w := by
  obtain ⟨h1, h2, h3⟩ := Oper.apart_spec hap
  have keep : ∀ (a : Act), YieldsIf P ops S oi v a → ∀ u, YieldsIf P ops S oi v (a.put oj.dst u) := fun a hy u =>
    hy.of_same (execOp_put oi hsi a oj.dst u h3) (wanted_put oi a oj.dst u h3)
  have keepD : ∀ d, YieldsIf P ops S oi v { a with defers := d :: a.defers } := fun d => hy.of_same rfl rfl
  unfold wpOpIn at *
  simp only [hj] at *
  rw [wanted_put oj a oi.dst v h1] at h
  split
  · rename_i hw
    simp only [hw, if_true] at h
    unfold Oper.wpIn at *
    refine ⟨fun _ _ => trivial, ?_⟩
    have h := h.2
    rw [show Fence.wide.round = none from rfl, Oper.semAt_none, execOp_put oj hsj a oi.dst v h1] at h
    rw [show Fence.wide.round = none from rfl, Oper.semAt_none]
    generalize (execOp a.eval oj).run P w = r at *
    cases r with
    | ok x w' =>
      cases x <;> simp only [Oper.uponIn] at h ⊢
      case value u => exact ⟨keep a hy u, by rw [← Act.put_comm a v u h2]; exact h⟩
      case skip => exact ⟨keep a hy _, by rw [← Act.put_comm a v undef h2]; exact h⟩
      case defer d =>
        refine ⟨keep _ (keepD d) _, ?_⟩
        rw [← Act.put_comm _ v undef h2, ← Act.put_defers]
        exact h
      case enter f args =>
        refine ⟨h.1, CallsIn.mono h.2 fun e w'' he => ?_⟩
        cases e with
        | returned u => exact ⟨keep a hy u, by rw [← Act.put_comm a v u h2]; exact he⟩
        | panicked c => exact hQ _ _ _ he
        | outgrown => exact he
      case row row args => exact ⟨h.1, RowsIn.mono h.2 fun u w'' he => ⟨keep a hy u, by rw [← Act.put_comm a v u h2]; exact he⟩⟩
      case round l f tmps assign body =>
        refine ⟨h.1, RoundIn.mono h.2 fun e w'' he => ?_⟩
        cases e with
        | returned u => exact ⟨keep a hy u, by rw [← Act.put_comm a v u h2]; exact he⟩
        | panicked c => exact hQ _ _ _ he
        | outgrown => exact he
    | halt x w' =>
      cases x <;> simp only [Oper.uponIn] at h ⊢
      case panic u => exact hQ _ _ _ h
  · rename_i hw
    simp only [hw] at h
    exact ⟨fun _ _ => trivial, keep a hy _, by rw [← Act.put_comm a v undef h2]; exact h.2⟩
/-- Whatever order is picked from here on; behind each operation but those of 'skip' S stays. -/
def wpGIn (n : Nat) (P : Program) (md : Region.Mode) (ops : Array Oper) (Q : Exit → Act → World → Prop) (S : World → Prop) (skip : List Nat) : Nat → Array Bool → Act → World → Prop
  | 0, listed, a, w => Region.ready md ops listed = [] ∧ Q .normal a w
  | fuel + 1, listed, a, w =>
    (Region.ready md ops listed = [] → Q .normal a w) ∧
    ∀ i ∈ Region.ready md ops listed, wpOpIn Fence.wide n P ops Q i (fun a' w' => (i ∉ skip → S w → S w') ∧ wpGIn n P md ops Q S skip fuel (listed.setIfInBounds i true) a' w') a w
theorem wpAnyIn_of_G : ∀ (fuel : Nat) (listed : Array Bool) (a : Act) (w : World), wpGIn n P md ops Q S skip fuel listed a w → wpAnyIn Fence.wide n P md ops Q fuel listed a w
  | 0, _, _, _, h => h
  | fuel + 1, _, _, _, h => ⟨h.1, fun i hi => wpOpIn_mono (fun a' w' h' => wpAnyIn_of_G fuel _ a' w' h'.2) (h.2 i hi)⟩
theorem wpGIn_first {T : World → Prop} {i : Nat} {oi : Oper} {v : Value} (hi : ops[i]? = some oi) (hsel : ∀ (j : Nat) (o : Oper) cs b, ops[j]? = some o → o.op ≠ .select cs b)
    (hQ : ∀ c a w, Q (.panic c) (a.put oi.dst v) w → Q (.panic c) a w) (hd : depB md ops dep = true)
    (tt : Bool) (hT : (tt = true ∧ T = fun _ => True) ∨ (tt = false ∧ T = S)) :
    ∀ (fuel : Nat) (listed : Array Bool) (a : Act) (w : World), Closed md ops listed → (tt = false → ∀ j ∈ skip, j ≠ i → listed.getD j true = false → (dep.getD j 0).testBit i = true) →
      (∀ j oj, ops[j]? = some oj → j ≠ i → listed.getD j true = false → (∀ e ∈ oj.after, Region.binds md e = true → e.on ≠ i) → oi.apart ops oj = true) →
      i ∈ Region.ready md ops listed → YieldsIf P ops T oi v a → T w →
      wpGIn n P md ops Q S skip fuel (listed.setIfInBounds i true) (a.put oi.dst v) w → wpGIn n P md ops Q S skip (fuel + 1) listed a w := by
  have hilt : i < ops.size := (Array.getElem?_eq_some_iff.1 hi).1
  intro fuel
  induction fuel with
  | zero =>
    intro listed a w _ _ _ hr hy hTw H
    refine ⟨fun h => (by rw [h] at hr; cases hr), fun j hj => ?_⟩
    by_cases hji : j = i
    · subst hji
      exact YieldsIf.wpOpIn hi hy hTw ⟨fun _ h => h, H⟩
    · have := ready_mono hj hji
      rw [H.1] at this
      cases this
  | succ fuel ih =>
    intro listed a w hcl hsk hfree hr hy hTw H
    refine ⟨fun h => (by rw [h] at hr; cases hr), fun j hj => ?_⟩
    by_cases hji : j = i
    · subst hji
      exact YieldsIf.wpOpIn hi hy hTw ⟨fun _ h => h, H⟩
    · have h1 := H.2 j (ready_mono hj hji)
      obtain ⟨hjun, oj, hoj, hall⟩ := mem_ready.1 hj
      have hiun := (mem_ready.1 hr).1
      have hiun' : listed.getD i false = true → False := fun h => by
        rcases Nat.lt_or_ge i listed.size with h' | h'
        · simp [h'] at hiun h
          rw [hiun] at h
          cases h
        · simp [Array.getElem?_eq_none h'] at h
      have hnot : ∀ e ∈ oj.after, Region.binds md e = true → e.on ≠ i := fun e he hb heq => by
        have h1 := hall e he hb
        rw [heq] at h1
        exact hiun' h1
      have hns : (T = fun _ => True) ∨ (T = S ∧ j ∉ skip) := hT.imp (·.2) fun h => ⟨h.2, fun hs => hiun' (dep_listed hd hcl j oj hoj hall i hilt (hsk h.1 j hs hji hjun))⟩
      have h2 := wpOpIn_putIf hoj (hfree j oj hoj hji hjun hnot) (fun cs b => hsel i oi cs b hi) (fun cs b => hsel j oj cs b hoj) hQ hy h1
      have hfree' : ∀ k ok, ops[k]? = some ok → k ≠ i → (listed.setIfInBounds j true).getD k true = false →
          (∀ e ∈ ok.after, Region.binds md e = true → e.on ≠ i) → oi.apart ops ok = true := fun k ok hk hki hun hno => by
        refine hfree k ok hk hki ?_ hno
        by_cases hjk : j = k
        · subst hjk
          exact hjun
        · rw [getD_set_ne true hjk] at hun
          exact hun
      have hsk' : tt = false → ∀ k ∈ skip, k ≠ i → (listed.setIfInBounds j true).getD k true = false → (dep.getD k 0).testBit i = true := fun h k hk hki hun => by
        refine hsk h k hk hki ?_
        by_cases hjk : j = k
        · subst hjk
          exact hjun
        · rw [getD_set_ne true hjk] at hun
          exact hun
      refine wpOpIn_mono (fun a' w' h3 => ⟨h3.2.1, ih (listed.setIfInBounds j true) a' w' (hcl.add hj) hsk' hfree' (ready_mono hr (Ne.symm hji)) h3.1 ?_ ?_⟩) h2
      · rcases hns with h | ⟨h, hn⟩
        · rw [h]
          trivial
        · rw [h] at hTw ⊢
          exact h3.2.1 hn hTw
      · rw [Array.setIfInBounds_comm _ _ hji]
        exact h3.2.2
/-- The walk in a fixed order. -/
def wpOIn (n : Nat) (P : Program) (ops : Array Oper) (Q : Exit → Act → World → Prop) (S : World → Prop) (skip eff rd : List Nat) : List (Nat × Oper) → Act → World → Prop
  | [], a, w => Q .normal a w
  | (i, o) :: r, a, w =>
    if eff.contains i then
      (if Region.wanted o (yielded ops a.tmps) then o.wpIn Fence.wide n P a w (fun a' w' => (i ∉ skip → S w → S w') ∧ wpOIn n P ops Q S skip eff rd r a' w') Q else wpOIn n P ops Q S skip eff rd r (a.put o.dst undef) w)
    else ∃ v, ((rd.contains i = true ∧ YieldsIf P ops S o v a ∧ S w) ∨ YieldsIf P ops (fun _ => True) o v a) ∧ wpOIn n P ops Q S skip eff rd r (a.put o.dst v) w
theorem wpGIn_of_O (hs : Region.noSelect ops = true) (hQ : ∀ c a d v w, Q (.panic c) (Act.put a d v) w → Q (.panic c) a w) (hd : depB md ops dep = true) {eff rd : List Nat} :
    ∀ (l : List (Nat × Oper)) (listed : Array Bool) (a : Act) (w : World), (∀ p ∈ l, ops[p.1]? = some p.2) → ordB md ops dep skip eff rd (l.map (·.1)) listed = true →
      wpOIn n P ops Q S skip eff rd l a w → wpGIn n P md ops Q S skip l.length listed a w
  | [], listed, a, w, _, hB, h => ⟨by simpa [ordB] using hB, h⟩
  | (i, o) :: r, listed, a, w, hl, hB, h => by
    have hi : ops[i]? = some o := hl (i, o) (by simp)
    simp only [List.map_cons, ordB, Bool.and_eq_true] at hB
    obtain ⟨hB1, hB2⟩ := hB
    have ih := fun a' w' h' => wpGIn_of_O hs hQ hd r (listed.setIfInBounds i true) a' w' (fun p hp => hl p (by simp [hp])) hB2 h'
    unfold wpOIn at h
    by_cases he : eff.contains i
    · rw [if_pos he] at h hB1
      have hr : Region.ready md ops listed = [i] := by simpa using hB1
      refine ⟨fun h0 => (by rw [hr] at h0; cases h0), fun j hj => ?_⟩
      rw [hr] at hj
      have hji : j = i := by simpa using hj
      subst hji
      unfold wpOpIn
      simp only [hi]
      by_cases hw : Region.wanted o (yielded ops a.tmps)
      · rw [if_pos hw] at h ⊢
        exact Oper.wpIn_mono (fun a' w' h' => ⟨h'.1, ih a' w' h'.2⟩) h
      · rw [if_neg hw] at h ⊢
        exact ⟨fun _ _ => trivial, fun _ h => h, ih _ _ h⟩
    · rw [if_neg he] at h hB1
      simp only [Bool.and_eq_true] at hB1
      obtain ⟨⟨⟨hf, hr⟩, hc⟩, hsk⟩ := hB1
      obtain ⟨v, hy, h⟩ := h
      have hsk' : rd.contains i = true → ∀ j ∈ skip, j ≠ i → listed.getD j true = false → (dep.getD j 0).testBit i = true := fun hrd j hj hne hun => by
        rw [hrd, Bool.not_true, Bool.false_or] at hsk
        have := List.all_eq_true.1 hsk j hj
        simpa only [beq_iff_eq, hne, hun, Bool.or_false, Bool.false_or, beq_eq_false_iff_ne.2 hne] using this
      rcases hy with ⟨hrd, hy, hS⟩ | hy
      · exact wpGIn_first hi (Region.noSelect_spec hs) (fun c a w h => hQ c a _ _ w h) hd false (.inr ⟨rfl, rfl⟩) r.length listed a w (closed_of hc) (fun _ => hsk' hrd) (Region.free_spec hi hf) (by simpa using hr) hy hS (ih _ _ h)
      · exact wpGIn_first (T := fun _ => True) hi (Region.noSelect_spec hs) (fun c a w h => hQ c a _ _ w h) hd true (.inl ⟨rfl, rfl⟩) r.length listed a w (closed_of hc) (fun h => by cases h) (Region.free_spec hi hf) (by simpa using hr) hy trivial (ih _ _ h)
theorem wpIn_region_ord {id : Nat} {a : Act} {w : World} {l : List Oper} (S : World → Prop) (ord skip eff rd : List Nat) (hm : P.follows .mixedOrders = true) (hB : regB .any l ord skip eff rd = true)
    (h : wpOIn n P l.toArray (NoP Q) S skip eff rd (pairs l ord) a w.drew) : (Code.region id l.toArray true).wpIn Fence.wide n P Q a w := by
  simp only [regB, Bool.and_eq_true, beq_iff_eq] at hB
  obtain ⟨⟨⟨⟨h1, h2⟩, h3⟩, h4⟩, h5⟩ := hB
  have hl : ∀ p ∈ pairs l ord, l.toArray[p.1]? = some p.2 := fun p hp => by
    obtain ⟨hp1, hp2⟩ := pairs_mem l ord p hp
    have := of_decide_eq_true (List.all_eq_true.1 h4 p.1 hp1)
    rw [hp2, List.getElem?_toArray]
    exact pickN_get l p.1 this
  have := wpGIn_of_O (Q := NoP Q) (S := S) (md := .any) h1 (fun c a d v w h => h) h2 (pairs l ord) (Array.replicate l.length false) a w.drew hl (by rw [pairs_map]; exact h5) h
  have e : (pairs l ord).length = l.toArray.size := by
    have := congrArg List.length (pairs_map l ord)
    simp only [List.length_map] at this
    simp [this, h3]
  rw [e] at this
  refine wpIn_mono (wpIn_region_any hm (wpAnyIn_of_G (S := S) (skip := skip) _ _ _ _ (by simpa using this))) NoP.imp
variable {eff rd : List Nat} {i : Nat} {o : Oper} {r : List (Nat × Oper)} {a : Act} {w : World}
theorem wpOIn_nil (h : Q .normal a w) : wpOIn n P ops (NoP Q) S skip eff rd [] a w := h
theorem wpOIn_take (v : Value) (hS : S w) (he : (!eff.contains i && rd.contains i) = true) (hw : Region.wanted o (yielded ops a.tmps) = true) (hy : ∀ w', S w' → (execOp a.eval o).run P w' = .ok (.value v) w')
    (h : wpOIn n P ops Q S skip eff rd r (a.put o.dst v) w) : wpOIn n P ops Q S skip eff rd ((i, o) :: r) a w := by
  unfold wpOIn
  simp only [Bool.and_eq_true, Bool.not_eq_true'] at he
  rw [if_neg (by rw [he.1]; simp)]
  exact ⟨v, .inl ⟨he.2, .inl ⟨hw, hy⟩, hS⟩, h⟩
theorem wpOIn_free (v : Value) (he : eff.contains i = false) (hw : Region.wanted o (yielded ops a.tmps) = true) (hy : ∀ w', (execOp a.eval o).run P w' = .ok (.value v) w')
    (h : wpOIn n P ops Q S skip eff rd r (a.put o.dst v) w) : wpOIn n P ops Q S skip eff rd ((i, o) :: r) a w := by
  unfold wpOIn
  rw [if_neg (by simpa using he)]
  exact ⟨v, .inr (.inl ⟨hw, fun w' _ => hy w'⟩), h⟩
theorem wpOIn_pass (hw : Region.wanted o (yielded ops a.tmps) = false) (h : wpOIn n P ops Q S skip eff rd r (a.put o.dst undef) w) : wpOIn n P ops Q S skip eff rd ((i, o) :: r) a w := by
  unfold wpOIn
  split
  · rw [if_neg (by simp [hw])]
    exact h
  · exact ⟨undef, .inr (.inr ⟨hw, rfl⟩), h⟩
theorem wpOIn_takeY (v : Value) (hS : S w) (he : (!eff.contains i && rd.contains i) = true) (hy : YieldsIf P ops S o v a)
    (h : wpOIn n P ops Q S skip eff rd r (a.put o.dst v) w) : wpOIn n P ops Q S skip eff rd ((i, o) :: r) a w := by
  unfold wpOIn
  simp only [Bool.and_eq_true, Bool.not_eq_true'] at he
  rw [if_neg (by rw [he.1]; simp)]
  exact ⟨v, .inl ⟨he.2, hy, hS⟩, h⟩
/-- What has an effect. -/
theorem wpOIn_eff (he : eff.contains i = true) (hw : Region.wanted o (yielded ops a.tmps) = true) (h : ∀ K : Act → World → Prop, (∀ a' w', (i ∉ skip → S w → S w') ∧ wpOIn n P ops Q S skip eff rd r a' w' → K a' w') → o.wpIn Fence.wide n P a w K Q) : wpOIn n P ops Q S skip eff rd ((i, o) :: r) a w := by
  unfold wpOIn
  rw [if_pos he, if_pos hw]
  exact h _ (fun _ _ h => h)
/-! ### In a round: a walk as everywhere serves -/
theorem wpOpIn_of_wpOp {l : Nat} (hq : ¬ LetsOut Q) {i : Nat} {K K' : Act → World → Prop} {a : Act} {w : World} (hd : ∀ o, ops[i]? = some o → ∀ c, o.op ≠ .defer c) (hK : ∀ a w, K a w → K' a w) (h : wpOp P ops Q i K a w) : wpOpIn (Fence.wide.inRound l) n P ops Q i K' a w := by
  unfold wpOp at h
  unfold wpOpIn
  cases hi : ops[i]? with
  | none => rw [hi] at h; exact hK _ _ h
  | some o =>
    rw [hi] at h
    dsimp only at h ⊢
    split at h
    · rename_i hw
      rw [if_pos hw]
      exact Oper.wpIn_of_wp (hd o hi) hK (h.resolve_right (fun hh => hq hh.2))
    · rename_i hw
      rw [if_neg hw]
      exact ⟨fun _ _ => trivial, hK _ _ h⟩
theorem wpAnyIn_of_wpAny {l : Nat} (hq : ¬ LetsOut Q) (hd : ∀ (i : Nat) (o : Oper), ops[i]? = some o → ∀ c, o.op ≠ .defer c) : ∀ (fuel : Nat) (listed : Array Bool) (a : Act) (w : World), wpAny P md ops Q fuel listed a w → wpAnyIn (Fence.wide.inRound l) n P md ops Q fuel listed a w
  | 0, _, _, _, h => h
  | fuel + 1, _, _, _, h => ⟨h.1, fun i hi => wpOpIn_of_wpOp hq (hd i) (fun a' w' h' => wpAnyIn_of_wpAny hq hd fuel _ a' w' h') (h.2 i hi)⟩
theorem wpIn_round_ord {id l0 : Nat} {a : Act} {w : World} {l : List Oper} (S : World → Prop) (ord skip eff rd : List Nat) (hm : P.follows .mixedOrders = true) (hq : ¬ LetsOut (NoP Q)) (hd : (l.all fun o => match o.op with | .defer _ => false | _ => true) = true) (hB : regB .any l ord skip eff rd = true)
    (h : wpO P l.toArray (NoP Q) S skip eff rd (pairs l ord) a w.drew) : (Code.region id l.toArray true).wpIn (Fence.wide.inRound l0) n P Q a w := by
  simp only [regB, Bool.and_eq_true, beq_iff_eq] at hB
  obtain ⟨⟨⟨⟨h1, h2⟩, h3⟩, h4⟩, h5⟩ := hB
  have hl : ∀ p ∈ pairs l ord, l.toArray[p.1]? = some p.2 := fun p hp => by
    obtain ⟨hp1, hp2⟩ := pairs_mem l ord p hp
    have := of_decide_eq_true (List.all_eq_true.1 h4 p.1 hp1)
    rw [hp2, List.getElem?_toArray]
    exact pickN_get l p.1 this
  have := wpG_of_O (Q := NoP Q) (S := S) (md := .any) h1 (fun c a d v w h => h) h2 (pairs l ord) (Array.replicate l.length false) a w.drew hl (by rw [pairs_map]; exact h5) h
  have e : (pairs l ord).length = l.toArray.size := by
    have := congrArg List.length (pairs_map l ord)
    simp only [List.length_map] at this
    simp [this, h3]
  rw [e] at this
  refine wpIn_mono (wpIn_region_any hm (wpAnyIn_of_wpAny hq (fun i o hi c hc => ?_) _ _ _ _ (wpAny_of_G (S := S) (skip := skip) _ _ _ _ (by simpa using this)))) NoP.imp
  have hm := List.mem_of_getElem? (by simpa using hi : l[i]? = some o)
  have := List.all_eq_true.1 hd o hm
  rw [hc] at this
  cases this
end
end Go.Fur
