/- furlongref14: contracts of Crash and New. -/
import Derived.Test.YtkmodecmfjepkaaRef14
namespace Go.Fur
open Go Go.RowKit Go.Proofs
set_option linter.unusedVariables false
set_option linter.unusedSimpArgs false
def Rf.replay (r : Rf) (k : Nat) : List (List Int) := (r.loose.take k).foldl (fun now x => now.set x.1 x.2) r.safe
theorem Rf.replay_length (r : Rf) (k : Nat) : (r.replay k).length = r.safe.length := by
  unfold Rf.replay
  generalize r.safe = s
  induction r.loose.take k generalizing s with
  | nil => rfl
  | cons x l ih => simp only [List.foldl_cons]; rw [ih]; simp
theorem Rf.replay_step (r : Rf) (k : Nat) (x : Nat × List Int) (h : r.loose[k]? = some x) : r.replay (k + 1) = (r.replay k).set x.1 x.2 := by
  unfold Rf.replay
  rw [List.take_add_one, h]
  simp
theorem Rf.replay_all (r : Rf) (k : Nat) (h : r.loose.length ≤ k) : r.replay k = r.replay r.loose.length := by
  unfold Rf.replay
  rw [List.take_of_length_le h, List.take_of_length_le (Nat.le_refl _)]
theorem Rf.replay_64 {r : Rf} (h : r.wf) (k : Nat) : ∀ b ∈ r.replay k, b.length ≤ 64 := by
  unfold Rf.replay
  have hs : ∀ x ∈ r.loose.take k, x.2.length ≤ 64 := fun x hx => (h.l64 x (List.mem_of_mem_take hx)).2
  have h0 := h.s64
  generalize r.loose.take k = l at hs
  generalize r.safe = s at h0
  induction l generalizing s with
  | nil => exact h0
  | cons x l ih =>
    simp only [List.foldl_cons]
    refine ih (fun y hy => hs y (by simp [hy])) _ (fun b hb => ?_)
    rcases List.mem_or_eq_of_mem_set hb with hb | rfl
    · exact h0 b hb
    · exact hs x (by simp)
def Rf.crash (r : Rf) (keep : Int) : Int × Rf := if keep < 0 then (1, r) else (0, ⟨r.replay keep.toNat, r.replay keep.toNat, []⟩)
theorem Rf.wf.crash {r : Rf} (h : r.wf) (k : Nat) : Rf.wf ⟨r.replay k, r.replay k, []⟩ :=
  ⟨rfl, r.replay_64 h k, r.replay_64 h k, by simp, by rw [r.replay_length, h.same]; exact h.max, by simp⟩
def Rf.new (n : Nat) : Rf := ⟨List.replicate n [], List.replicate n [], []⟩
theorem Rf.new_wf (n : Nat) (h : n ≤ 65536) : (Rf.new n).wf :=
  ⟨rfl, fun b hb => by rw [List.eq_of_mem_replicate hb]; simp, fun b hb => by rw [List.eq_of_mem_replicate hb]; simp, by simp [Rf.new], by simpa [Rf.new] using h, by simp [Rf.new]⟩
theorem refCrash_arg {w : World} {X : Nat → Prop} {cs : List Value} {r : Rf} (h : RefAt w X cs r) (keep : Int) (hk : keep < 0) :
    Calls Try.prog 15 #[.agg cs.toArray, .int .i64 keep] w fun e w' => e = .returned (.tuple #[.agg cs.toArray, .int .i64 1]) ∧ Fr [] w w' := by
  obtain ⟨na, sa, la, nc, sc, lc, nv, sv, lv, rfl, h⟩ := h
  clear h
  go_enter Try.func15, Try.ntmps15
  go_wp2_with (first
    | (refine wpList_boxB rfl 31 _ rfl (refCells na sa la nc sc lc nv sv lv) (by rfl) ?_; intro w1 B1 F1 S1; have HB1 := Lib.hid B1; clear B1)
    | (refine wpList_allocZ rfl 31 rfl _ ref_zero ?_; intro w2 B2 F2 S2; rw [S1] at B2; have HB2 := Lib.hid B2; have B12 := HB1.out.fr F2 (by simp); clear B2)
    | (refine wpList_loadB rfl 31 _ rfl w.heap.size (by rfl) 31 _ _ B12 Try.underlying31 rfl ref_size ?_)
    | (refine wpList_storeB rfl 31 _ _ rfl (w.heap.size + 1) 0 (refCells na sa la nc sc lc nv sv lv) (by rfl) (by rfl) 31 [.slice none 0 0, .slice none 0 0, .slice none 0 0] HB2.out (by simp [refCells]) ref_size (by simp [refCells, Value.oneCell']) ?_; intro w7 B7 F7 S7))
  exact bodyPost_ret (results_cellB_tmp rfl _ _ (w.heap.size + 1) 31 _ _ (by rfl) B7 Try.underlying31 rfl ref_size) rfl ⟨rfl, (F1.trans0 F2).trans F7 (fun k hk hlt => by simp at hk; omega)⟩
theorem build_ref2 (a b : Option Addr) (n m c d : Nat) (w : World) : (Instr.build 31 #[(0, .slice a n c), (1, .slice b m d)]).run Try.prog w = .ok (.agg [.slice a n c, .slice b m d, .slice none 0 0].toArray) w := by kernel_rfl
theorem rw_size : (Try.prog.info? 62).map (·.size) = some 2 := by kernel_rfl
theorem rw_zero : ∀ w, (zeroValue 62).run Try.prog w = .ok (.agg [.int .i64 0, .slice none 0 0].toArray) w := fun w => by kernel_rfl
def CrashR (w : World) (X : Nat → Prop) (a : Option Addr) (n c : Nat) (r : Rf) (keep : Int) (i : Value) (wr : World) : Prop :=
  ∃ (k : Nat) (cs : List Value), k ≤ r.loose.length ∧ i = .int .i64 k ∧ Own wr (w.heap.size + 2) 34 1 (.slice a n c) n cs ∧ AllB w X cs (r.replay (min k keep.toNat)) ∧ Blk wr (w.heap.size + 1) 31 [.slice none 0 0, .slice none 0 0, .slice none 0 0] ∧ Fr [] w wr
set_option maxRecDepth 100000 in
set_option maxHeartbeats 1000000 in
theorem refCrash_calls {w : World} {X : Nat → Prop} {cs : List Value} {r : Rf} (h : RefAt w X cs r) (hX : ∀ k, X k → k < w.heap.size) (keep : Int) (hk : 0 ≤ keep) :
    Calls Try.prog 15 #[.agg cs.toArray, .int .i64 keep] w fun e w' => ∃ cs', e = .returned (.tuple #[.agg cs'.toArray, .int .i64 0]) ∧ RefAt w' X cs' ⟨r.replay keep.toNat, r.replay keep.toNat, []⟩ ∧ Fr [] w w' := by
  obtain ⟨na, sa, la, nc, sc, lc, nv, sv, lv, rfl, h⟩ := h
  have hsl := h.bs.1
  have hll := h.bl.1
  simp only [List.length_map] at hll
  have hmax := h.wf.max
  have hsame := h.wf.same
  have hm2 : sv.length ≤ 65536 := by omega
  have hl2 : lv.length ≤ 1000000 := by have := h.wf.few; omega
  have j0 : ¬ keep < 0 := by omega
  obtain ⟨i0, hi0, hz0, hz1, hz2⟩ := info_parts (P := Try.prog) (e := 34) (z := .slice none 0 0) (size := 1) (bytes := 24) (by kernel_rfl)
  have HZ := Lib.hid (And.intro hi0 (And.intro hz0 (And.intro hz1 hz2)))
  have HLL := Lib.hid hll
  have HSL := Lib.hid hsl
  have HSM := Lib.hid hsame
  have H := Lib.hid h
  have HX := Lib.hid hX
  clear hi0 hz0 hz1 hz2 h hX hll hsl hsame hmax
  go_enter Try.func15, Try.ntmps15
  go_wp2_with (first
    | (refine wpList_boxB rfl 31 _ rfl (refCells na sa la nc sc lc nv sv lv) (by rfl) ?_; intro w1 B1 F1 S1; have HB1 := Lib.hid B1; clear B1)
    | (refine wpList_allocZ rfl 31 rfl _ ref_zero ?_; intro w2 B2 F2 S2; rw [S1] at B2; have HB2 := Lib.hid B2; have HB12 := Lib.hid (HB1.out.fr F2 (by simp)); clear B2)
    | (refine wpList_build0 rfl 28 34 1 rfl rows_build0 ?_; intro w3 O3 F3 S3; rw [S2, S1] at O3; have B3 := HB12.out.fr F3 (by simp); have c1 : w3.cell? ⟨w.heap.size, 1, none⟩ = some (.slice sa sv.length sc) := B3.cellAt rfl; have HB3 := Lib.hid B3; clear B3)
    | (refine wpList_app rfl _ _ 28 28 rfl _ 34 i0 _ 1 24 Try.underlying28 HZ.out.1 HZ.out.2.1 HZ.out.2.2.1 HZ.out.2.2.2 rfl (by omega) _ 0 [] (by rfl) O3 _ sv.length sv (by rfl) (((H.out.rs.rd.fr0 ((F1.trans0 F2).trans0 F3)).src Try.underlying28 (by simp) H.out.bs.one)) (by simp only [maxLen]; omega) (by omega) (by omega) ?_; intro v4 w4 O4 F4 K4 _; simp only [Nat.zero_add, List.nil_append] at O4; have B4s := HB3.out.fr F4 (by simp <;> omega); have c4' : w4.cell? ⟨w.heap.size, 2, none⟩ = some (.slice la lv.length lc) := B4s.cellAt rfl; have HB4' := Lib.hid ((HB2.out.fr F3 (by simp)).fr F4 (by simp <;> omega)); obtain ⟨a4, c4, hv4, q1, q2, q3⟩ := O4.form; subst hv4; have HF4 := Lib.hid ((((F1.trans0 F2).trans0 F3).trans F4 (by simp <;> omega) : Fr [] w w4)); have HO4 := Lib.hid O4; clear F4 F1 F2 c1 K4 HB1 HB12 O4 O3 B4s HB3))
  have R0 : CrashR w X a4 sv.length c4 r keep (.int .i64 (0 : Nat)) w4 := ⟨0, sv, Nat.zero_le _, rfl, HO4.out, by rw [Nat.zero_min]; exact H.out.bs, HB4'.out, HF4.out⟩
  have HR0 := Lib.hid R0
  clear R0 c4' S1 S2 S3 F3 HO4 HF4 HB4' HB2
  go_loopw [19] (fun i wr => CrashR w X a4 sv.length c4 r keep i wr) (fun i _ => r.loose.length - (intOf i).toNat)
  case atStart => exact HR0.out
  case round =>
    obtain ⟨k, cs, hk1, rfl, hO, hA, hB, hF⟩ := hrel
    by_cases hlt : k < lv.length
    · obtain ⟨x, hx⟩ : ∃ x, lv[k]? = some x := ⟨lv[k], List.getElem?_eq_getElem hlt⟩
      obtain ⟨y, hy⟩ : ∃ y, r.loose[k]? = some y := ⟨r.loose[k]'(by have := HLL.out; omega), List.getElem?_eq_getElem (by have := HLL.out; omega)⟩
      have hxy : x.1 = y.1 := by
        have h1 := congrArg (fun l => l[k]?) H.out.il
        simp only [List.getElem?_map, hx, hy, Option.map_some, Option.some.injEq] at h1
        exact h1
      have hbs : Bs w X x.2 y.2 := H.out.bl.2 k _ _ (by rw [List.getElem?_map, hx]; rfl) (by rw [List.getElem?_map, hy]; rfl)
      obtain ⟨a5, c5, hv5, g1, g2, g3⟩ := hbs
      have hbs : Bs w X (.slice a5 y.2.length c5) y.2 := ⟨a5, c5, rfl, g1, g2, g3⟩
      have hne : flat lw lv ≠ [] := fun h0 => by
        have := flat_length lw 2 lv (lw_len lv)
        rw [h0] at this
        simp at this
        omega
      obtain ⟨b, o, rfl, _, hb, hr⟩ := H.out.rl hne
      have hrange : w.rangeAt b (o + k * 2) [.int .i64 y.1, .slice a5 y.2.length c5] := fun j v hv => by
        have hp := flat_piece lw 2 lv (lw_len lv) k x hx
        have hv' : ((flat lw lv).drop (k * 2))[j]? = some v := by
          have h8 : (((flat lw lv).drop (k * 2)).take 2)[j]? = some v := by
            rw [hp]
            have : lw x = [.int .i64 y.1, .slice a5 y.2.length c5] := by rw [lw, hv5, hxy]
            rw [this]
            exact hv
          rw [List.getElem?_take] at h8
          split at h8
          · exact h8
          · cases h8
        rw [List.getElem?_drop] at hv'
        have := hr (k * 2 + j) v hv'
        rwa [show o + k * 2 + j = o + (k * 2 + j) from by omega]
      have hrange2 := rangeAt_fr hrange hF (by simp)
      have hyn : y.1 < sv.length := by
        have := (H.out.wf.l64 y (List.mem_of_getElem? hy)).1
        have := HSL.out
        have := HSM.out
        omega
      obtain ⟨g, cap, cur, x0, hv6, hg6, B6g, hlc, _, _, hset⟩ := hO.cellAt y.1 hyn
      simp only [Value.slice.injEq] at hv6
      obtain ⟨rfl, _, rfl⟩ := hv6
      have k0 : (0 : Int) ≤ (k : Int) := by omega
      have k1 : (k : Int) < (lv.length : Int) := by omega
      have n0 : (0 : Int) ≤ (y.1 : Int) := by omega
      have n1 : (y.1 : Int) < (sv.length : Int) := by omega
      have HHR := Lib.hid hrange2
      have HSET := Lib.hid hset
      have HBG := Lib.hid B6g
      have HO := Lib.hid hO
      have HA := Lib.hid hA
      have HB := Lib.hid hB
      have HF := Lib.hid hF
      have HBS := Lib.hid hbs
      have HYY := Lib.hid hy
      have hsz := hF.size
      have hgl := B6g.lt
      clear hrange hrange2 hset B6g hO hA hB hF hbs hy hx hxy hr hv5 g1
      by_cases hkp : (k : Int) < keep
      · go_wp2_with (first
          | refine wpList_load_mid rfl 62 _ rfl b (o + k * 2) rfl [.int .i64 y.1, .slice a5 y.2.length c5] _ HHR.out Try.underlying62 rfl (by exact rw_size) ?_
          | (refine wpList_allocZ rfl 62 rfl _ rw_zero ?_; intro w5 B5 F5 S5; have HS5 := Lib.hid S5; clear S5)
          | (refine wpList_storeB rfl 62 _ _ rfl wr.heap.size 0 [.int .i64 y.1, .slice a5 y.2.length c5] (by rfl) (by rfl) 62 _ B5 (by simp) (by exact rw_size) (by simp [Value.oneCell']) ?_; intro w6 B6 F6 S6; have d0 : w6.cell? ⟨wr.heap.size, 0, none⟩ = some (.int .i64 y.1) := B6.cellAt rfl; have d1 : w6.cell? ⟨wr.heap.size, 1, none⟩ = some (.slice a5 y.2.length c5) := B6.cellAt rfl; have HS6 := Lib.hid S6; clear S6; have HBG6 := Lib.hid ((HBG.out.fr F5 (by simp)).fr F6 (by simp <;> omega)))
          | (refine wpList_store1 rfl 34 _ _ rfl g y.1 (.slice a5 y.2.length c5) (by rfl) (by rfl) rfl 34 _ HBG6.out hlc (by kernel_rfl) rfl ?_; intro w7 B7 F7 S7; have HS7 := Lib.hid S7; clear S7))
        have F57 : Fr [g] wr w7 := (((F5.ext (S := [g])).trans F6 (fun x hx hlt => by simp at hx; omega))).trans F7 (fun x hx hlt => hx)
        have O7 := HSET.out w7 _ B7
        have A7 : AllB w X (cs.set y.1 (.slice a5 y.2.length c5)) (r.replay (min (k + 1) keep.toNat)) := by
          have e1 : min k keep.toNat = k := by omega
          have e2 : min (k + 1) keep.toNat = k + 1 := by omega
          have hA := HA.out
          rw [e1] at hA
          rw [e2, r.replay_step k y HYY.out]
          exact hA.set y.1 HBS.out
        have R7 : CrashR w X (some ⟨g, 0, none⟩) sv.length c4 r keep (.int .i64 (k + 1 : Nat)) w7 :=
          ⟨k + 1, _, by have := HLL.out; omega, rfl, O7, A7, HB.out.fr F57 (by simp; omega), HF.out.trans F57 (fun x hx hlt => by simp at hx; omega)⟩
        have HR7 := Lib.hid R7
        have hkl : k < r.loose.length := by have := HLL.out; omega
        clear R7 A7 O7 F57 B7
        go_roundw
        case rel => exact HR7.out
        case measure => simp [intOf]; omega
      · go_wp2_with (first
          | refine wpList_load_mid rfl 62 _ rfl b (o + k * 2) rfl [.int .i64 y.1, .slice a5 y.2.length c5] _ HHR.out Try.underlying62 rfl (by exact rw_size) ?_
          | (refine wpList_allocZ rfl 62 rfl _ rw_zero ?_; intro w5 B5 F5 S5; have HS5 := Lib.hid S5; clear S5)
          | (refine wpList_storeB rfl 62 _ _ rfl wr.heap.size 0 [.int .i64 y.1, .slice a5 y.2.length c5] (by rfl) (by rfl) 62 _ B5 (by simp) (by exact rw_size) (by simp [Value.oneCell']) ?_; intro w6 B6 F6 S6; have HS6 := Lib.hid S6; clear S6))
        have F57 : Fr [] wr w6 := F5.trans F6 (fun x hx hlt => by simp at hx; omega)
        have A7 : AllB w X cs (r.replay (min (k + 1) keep.toNat)) := by
          have e1 : min k keep.toNat = min (k + 1) keep.toNat := by omega
          have hA := HA.out
          rwa [e1] at hA
        have R7 : CrashR w X (some ⟨g, 0, none⟩) sv.length c4 r keep (.int .i64 (k + 1 : Nat)) w6 :=
          ⟨k + 1, _, by have := HLL.out; omega, rfl, HO.out.fr0 F57, A7, HB.out.fr F57 (by simp), HF.out.trans0 F57⟩
        have HR7 := Lib.hid R7
        have hkl : k < r.loose.length := by have := HLL.out; omega
        clear R7 A7 F57
        go_roundw
        case rel => exact HR7.out
        case measure => simp [intOf]; omega
    · have hkl : k = r.loose.length := by have := HLL.out; omega
      have hA2 : AllB w X cs (r.replay keep.toNat) := by
        have e : r.replay (min k keep.toNat) = r.replay keep.toNat := by
          rcases Nat.le_total k keep.toNat with h | h
          · rw [Nat.min_eq_left h, hkl, r.replay_all keep.toNat (by omega)]
          · rw [Nat.min_eq_right h]
        rwa [e] at hA
      have hcl : cs.length = sv.length := by have := hO.len; simpa using this
      have HO := Lib.hid hO
      have HA := Lib.hid hA2
      have HB := Lib.hid hB
      have HF := Lib.hid hF
      have HCL := Lib.hid hcl
      have hsz := hF.size
      have hi : ¬ (k : Int) < (lv.length : Int) := by omega
      have hlt2 := hB.lt
      clear hO hA hA2 hB hF hcl hkl
      go_wp2_with (first
        | (refine wpList_build0 rfl 28 34 1 rfl rows_build0 ?_; intro w5 O5 F5 S5; have HS5 := Lib.hid S5; clear S5)
        | (refine wpList_app rfl _ _ 28 28 rfl _ 34 i0 _ 1 24 Try.underlying28 HZ.out.1 HZ.out.2.1 HZ.out.2.2.1 HZ.out.2.2.2 rfl (by omega) _ 0 [] (by rfl) O5 _ sv.length cs (by rfl) ((((HO.out.rdS (X := fun _ => False) (by simp)).1.rd.fr0 F5).src Try.underlying28 (by have := HCL.out; omega) HA.out.one)) (by simp only [maxLen]; omega) (by omega) (by have := HS5.out; omega) ?_; intro v6 w6 O6 F6 K6 _; simp only [Nat.zero_add, List.nil_append] at O6; obtain ⟨a6, c6, hv6, p1, p2, p3⟩ := O6.form; subst hv6; have HO6 := Lib.hid O6; have HK6 := Lib.hid K6; clear K6)
        | (refine wpList_buildV rfl 31 _ rfl [(0, .slice a4 sv.length c4), (1, .slice a6 sv.length c6)] (by rfl) _ (build_ref2 _ _ _ _ _ _ _) ?_)
        | (refine wpList_storeB rfl 31 _ _ rfl (w.heap.size + 1) 0 (refCells a4 a6 none c4 c6 0 sv sv []) (by rfl) (by rfl) 31 [.slice none 0 0, .slice none 0 0, .slice none 0 0] ((HB.out.fr F5 (by simp)).fr F6 (by simp; omega)) (by simp [refCells]) ref_size (by simp [refCells, Value.oneCell']) ?_; intro w7 B7 F7 S7))
      have F67 : Fr [w.heap.size + 1] wr w7 := ((F5.ext (S := [w.heap.size + 1])).trans F6 (fun x hx hlt => by simp at hx; omega)).trans1 F7
      have FF : Fr [] w w7 := HF.out.trans F67 (fun x hx hlt => by simp at hx; omega)
      have hX : ∀ k, w.heap.size ≤ k → ¬ X k := fun k hk hx => by have := HX.out k hx; omega
      obtain ⟨r1, s1, s2⟩ := Own.rdS (X := X) (HO.out.fr F67 (fun x hx hm => by have := (HO.out.lt hx).1; simp at hm; omega)) (fun x hx => hX x (by have := (HO.out.lt hx).1; omega))
      obtain ⟨r2, _, _⟩ := Own.rdS (X := X) (HO6.out.fr F7 (fun x hx hm => by have := (HO6.out.lt hx).1; simp at hm; omega)) (fun x hx => hX x (by have := (HO6.out.lt hx).1; omega))
      have hA := HA.out.fr0 FF
      refine bodyPost_ret (results_cellB_tmp rfl _ _ (w.heap.size + 1) 31 _ _ (by rfl) B7 Try.underlying31 rfl ref_size) rfl ⟨_, rfl, ⟨a4, a6, none, c4, c6, 0, cs, cs, [], by simp [refCells, splice, HCL.out], ?_⟩, FF⟩
      exact ⟨r1, r2, RdA.nil _ _ _, hA, hA, AllB.nil _ _, rfl, H.out.wf.crash _, ⟨by have := HCL.out; omega, s2⟩, ⟨by have := HCL.out; omega, p2⟩, ⟨Nat.le_refl _, Nat.zero_le _⟩⟩

/-! ### New -/
theorem info_bytesRZ : (Try.prog.info? 34).map (fun i => (i.zero.map (·.cells), i.size, i.bytes)) = some (some [Value.slice none 0 0].toArray, 1, 24) := by kernel_rfl
theorem refNew_arg (w : World) (n : Int) (hn : n < 1 ∨ 65536 < n) :
    Calls Try.prog 9 #[.int .i64 n] w fun e w' => ∃ v, e = .returned (.tuple #[v, .int .i64 1]) ∧ (∃ cs : List Value, cs.length = 3 ∧ v = .agg cs.toArray ∧ (∀ x ∈ cs, x.oneCell' = true)) ∧ Fr [] w w' := by
  have hb : ∀ W : World, (Instr.build 31 #[]).run Try.prog W = .ok (.agg [.slice none 0 0, .slice none 0 0, .slice none 0 0].toArray) W := fun W => by kernel_rfl
  rcases hn with hn | hn
  · go_enter Try.func9, Try.ntmps9
    go_wp2_with (first
      | (refine wpList_allocZ rfl 31 rfl _ ref_zero ?_; intro w2 B2 F2 S2)
      | (refine wpList_buildV rfl 31 _ rfl [] (by rfl) _ (hb _) ?_)
      | (refine wpList_storeB rfl 31 _ _ rfl w.heap.size 0 [.slice none 0 0, .slice none 0 0, .slice none 0 0] (by rfl) (by rfl) 31 [.slice none 0 0, .slice none 0 0, .slice none 0 0] B2 (by simp) ref_size (by simp [Value.oneCell']) ?_; intro w7 B7 F7 S7))
    exact bodyPost_ret (results_cellB_tmp rfl _ _ w.heap.size 31 _ _ (by rfl) B7 Try.underlying31 rfl ref_size) rfl ⟨_, rfl, ⟨_, by rfl, rfl, by simp [splice, Value.oneCell']⟩, F2.trans F7 (fun k hk hlt => by simp at hk; omega)⟩
  · have h0 : ¬ n < 1 := by omega
    go_enter Try.func9, Try.ntmps9
    go_wp2_with (first
      | (refine wpList_allocZ rfl 31 rfl _ ref_zero ?_; intro w2 B2 F2 S2)
      | (refine wpList_buildV rfl 31 _ rfl [] (by rfl) _ (hb _) ?_)
      | (refine wpList_storeB rfl 31 _ _ rfl w.heap.size 0 [.slice none 0 0, .slice none 0 0, .slice none 0 0] (by rfl) (by rfl) 31 [.slice none 0 0, .slice none 0 0, .slice none 0 0] B2 (by simp) ref_size (by simp [Value.oneCell']) ?_; intro w7 B7 F7 S7))
    exact bodyPost_ret (results_cellB_tmp rfl _ _ w.heap.size 31 _ _ (by rfl) B7 Try.underlying31 rfl ref_size) rfl ⟨_, rfl, ⟨_, by rfl, rfl, by simp [splice, Value.oneCell']⟩, F2.trans F7 (fun k hk hlt => by simp at hk; omega)⟩
def nils (n : Nat) : List Value := List.replicate n (.slice none 0 0)
theorem nils_allB (w : World) (X : Nat → Prop) (n : Nat) : AllB w X (nils n) (List.replicate n []) := ⟨by simp [nils], fun i v l h1 h2 => by
  simp only [nils, List.getElem?_replicate] at h1 h2
  split at h1
  · simp only [Option.some.injEq] at h1
    rename_i hi
    rw [if_pos hi] at h2
    simp only [Option.some.injEq] at h2
    rw [← h1, ← h2]
    exact Bs.nil _ _
  · cases h1⟩
def NewR (w : World) (n : Nat) (i : Value) (wr : World) : Prop :=
  ∃ (k : Nat) (a : Option Addr) (c : Nat), k ≤ n ∧ i = .int .i64 k ∧ Own wr (w.heap.size + 2) 34 1 (.slice a k c) k (nils k) ∧ Blk wr (w.heap.size + 1) 31 [.slice a k c, .slice none 0 0, .slice none 0 0] ∧ Blk wr w.heap.size 31 [.slice none 0 0, .slice none 0 0, .slice none 0 0] ∧ Fr [] w wr
set_option maxRecDepth 100000 in
set_option maxHeartbeats 1000000 in
theorem refNew_calls (w : World) (X : Nat → Prop) (hX : ∀ k, X k → k < w.heap.size) (n : Nat) (h1 : 1 ≤ n) (h2 : n ≤ 65536) :
    Calls Try.prog 9 #[.int .i64 n] w fun e w' => ∃ cs', e = .returned (.tuple #[.agg cs'.toArray, .int .i64 0]) ∧ RefAt w' X cs' (Rf.new n) ∧ Fr [] w w' := by
  have hb : ∀ W : World, (Instr.build 31 #[]).run Try.prog W = .ok (.agg [.slice none 0 0, .slice none 0 0, .slice none 0 0].toArray) W := fun W => by kernel_rfl
  have h3 : ¬ (n : Int) < 1 := by omega
  have h4 : ¬ 65536 < (n : Int) := by omega
  obtain ⟨i0, hi0, hz0, hz1, hz2⟩ := info_parts (P := Try.prog) (e := 34) (z := .slice none 0 0) (size := 1) (bytes := 24) (by kernel_rfl)
  have HZ := Lib.hid (And.intro hi0 (And.intro hz0 (And.intro hz1 hz2)))
  have HX := Lib.hid hX
  have HBB := Lib.hid hb
  clear hi0 hz0 hz1 hz2 hX hb
  go_enter Try.func9, Try.ntmps9
  go_wp2_with (first
    | (refine wpList_buildV rfl 31 _ rfl [] (by rfl) _ (HBB.out _) ?_)
    | (refine wpList_storeB rfl 31 _ _ rfl w2.heap.size 0 [.slice none 0 0, .slice none 0 0, .slice none 0 0] (by rfl) (by rfl) 31 [.slice none 0 0, .slice none 0 0, .slice none 0 0] HB3.out (by simp) ref_size (by simp [Value.oneCell']) ?_; intro w4 B4 F4 S4)
    | (refine wpList_allocZ rfl 31 rfl _ ref_zero ?_; intro w3 B3 F3 S3; have _ := S2; have HB3 := Lib.hid B3; clear B3)
    | (refine wpList_allocZ rfl 31 rfl _ ref_zero ?_; intro w2 B2 F2 S2; have HB2 := Lib.hid B2; clear B2))
  rw [S2] at B4 F4
  have R0 : NewR w n (.int .i64 (0 : Nat)) w4 := ⟨0, none, 0, Nat.zero_le _, rfl, Own.nil _ _ _ _, by simpa [splice] using B4, (HB2.out.fr F3 (by simp)).fr F4 (by simp), (F2.trans0 F3).trans F4 (fun k hk hlt => by simp at hk; omega)⟩
  have HR0 := Lib.hid R0
  clear R0 B4 F4 S4 S3 S2 F3 F2 HB2 HB3
  go_loopw [14] (fun i wr => NewR w n i wr) (fun i _ => n - (intOf i).toNat)
  case atStart => exact HR0.out
  case round =>
    obtain ⟨k, a, c, hk, rfl, hO, hB, hBz, hF⟩ := hrel
    have c0 : wr.cell? ⟨w.heap.size + 1, 0, none⟩ = some (.slice a k c) := hB.cellAt rfl
    have hlt2 := hB.lt
    have HO := Lib.hid hO
    have HB := Lib.hid hB
    have HBZ := Lib.hid hBz
    have HF := Lib.hid hF
    clear hO hB hBz hF
    by_cases hlt : k < n
    · have k1 : (k : Int) < (n : Int) := by omega
      go_wp2_with (first
        | (refine wpList_buildSlice1 rfl 28 34 _ rfl [.slice none 0 0] 1 24 Try.underlying28 info_bytesRZ (by simp) (by omega) (by omega) _ [.slice none 0 0] (by rfl) (by rfl) (by simp) ?_; intro w5 B5 F5 S5; have HS5 := Lib.hid S5; have HB5 := Lib.hid B5; clear S5 B5)
        | (refine wpList_app rfl _ _ 28 28 rfl (w.heap.size + 2) 34 i0 _ 1 24 Try.underlying28 HZ.out.1 HZ.out.2.1 HZ.out.2.2.1 HZ.out.2.2.2 rfl (by omega) (.slice a k c) k (nils k) (by rfl) (HO.out.fr0 F5) _ 1 [.slice none 0 0] (by rfl) ((Rd.mk (HB5.out.range 0 1)).src Try.underlying28 (by simp) (by simp [Value.oneCell'])) (by simp only [maxLen]; omega) (by omega) (by have := HS5.out; omega) ?_; intro v6 w6 O6 F6 K6 _; obtain ⟨a6, c6, hv6, p1, p2, p3⟩ := O6.form; subst hv6; have HO6 := Lib.hid O6; have HK6 := Lib.hid K6; have HF6 := Lib.hid F6; have HB6 := Lib.hid ((HB.out.fr F5 (by simp)).fr F6 (fun hm => by have := (HO.out.lt hm).1; omega)); have HBZ6 := Lib.hid ((HBZ.out.fr F5 (by simp)).fr F6 (fun hm => by have := (HO.out.lt hm).1; omega)); clear K6 O6 F6)
        | (refine wpList_store1 rfl 28 _ _ rfl (w.heap.size + 1) 0 (.slice a6 (k + 1) c6) (by rfl) (by rfl) rfl 31 _ HB6.out (by simp) (by kernel_rfl) rfl ?_; intro w7 B7 F7 S7; have HS7 := Lib.hid S7; clear S7))
      have hob : ∀ x ∈ ob (.slice a6 (k + 1) c6), w.heap.size + 2 ≤ x := fun x hx => (HO6.out.lt hx).1
      have R7 : NewR w n (.int .i64 (k + 1 : Nat)) w7 := by
        refine ⟨k + 1, a6, c6, by omega, rfl, ?_, by simpa using B7, HBZ6.out.fr F7 (by simp), ((HF.out.trans0 F5).trans HF6.out (fun x hx hlt => by have := (HO.out.lt hx).1; omega)).trans F7 (fun x hx hlt => by simp at hx; omega)⟩
        have := HO6.out.fr F7 (fun x hx hm => by have := hob x hx; simp at hm; omega)
        have e : nils k ++ [.slice none 0 0] = nils (k + 1) := by simp [nils, List.replicate_succ']
        rwa [e] at this
      have HR7 := Lib.hid R7
      clear R7 B7 F7 F5 c0
      go_roundw
      case rel => exact HR7.out
      case measure => simp [intOf]; omega
    · have hkn : k = n := by omega
      subst hkn
      go_wp2_with (first
        | (refine wpList_build0 rfl 28 34 1 rfl rows_build0 ?_; intro w5 O5 F5 S5; have HS5 := Lib.hid S5; have c5 : w5.cell? ⟨w.heap.size + 1, 0, none⟩ = some (.slice a k c) := (HB.out.fr F5 (by simp)).cellAt rfl; clear S5)
        | (refine wpList_app rfl _ _ 28 28 rfl wr.heap.size 34 i0 _ 1 24 Try.underlying28 HZ.out.1 HZ.out.2.1 HZ.out.2.2.1 HZ.out.2.2.2 rfl (by omega) _ 0 [] (by rfl) O5 _ k (nils k) (by rfl) (((HO.out.rdS (X := fun _ => False) (by simp)).1.rd.fr0 F5).src Try.underlying28 (by simp [nils]) (nils_allB wr (fun _ => False) k).one) (by simp only [maxLen]; omega) (by omega) (by have := HS5.out; omega) ?_; intro v6 w6 O6 F6 K6 _; simp only [Nat.zero_add, List.nil_append] at O6; obtain ⟨a6, c6, hv6, p1, p2, p3⟩ := O6.form; subst hv6; have HO6 := Lib.hid O6; have HB6 := Lib.hid ((HB.out.fr F5 (by simp)).fr F6 (by simp; omega)); have HBZ6 := Lib.hid ((HBZ.out.fr F5 (by simp)).fr F6 (by simp; omega)); have HF6 := Lib.hid F6; clear K6 O6 F6 c5)
        | (refine wpList_store1 rfl 28 _ _ rfl (w.heap.size + 1) 1 (.slice a6 k c6) (by rfl) (by rfl) rfl 31 _ HB6.out (by simp) (by kernel_rfl) rfl ?_; intro w7 B7 F7 S7; have HS7 := Lib.hid S7; have HB7 := Lib.hid B7; have HBZ7 := Lib.hid (HBZ6.out.fr F7 (by simp)); clear S7 B7)
        | (refine wpList_loadB rfl 31 _ rfl (w.heap.size + 1) (by rfl) 31 _ _ HB7.out Try.underlying31 rfl (by exact ref_size) ?_)
        | (refine wpList_storeB rfl 31 _ _ rfl w.heap.size 0 (refCells a a6 none c c6 0 (nils k) (nils k) []) (by rfl) (by simp [refCells, nils]; rfl) 31 [.slice none 0 0, .slice none 0 0, .slice none 0 0] HBZ7.out (by simp [refCells]) ref_size (by simp [refCells, Value.oneCell']) ?_; intro w8 B8 F8 S8))
      have hX : ∀ k, w.heap.size ≤ k → ¬ X k := fun k hk hx => by have := HX.out k hx; omega
      have F58 : Fr [w.heap.size, w.heap.size + 1] wr w8 := (((F5.ext (S := [w.heap.size, w.heap.size + 1])).trans HF6.out (fun x hx hlt => by simp at hx; omega)).trans F7 (by simp)).trans F8 (by simp)
      have FF : Fr [] w w8 := HF.out.trans F58 (fun x hx hlt => by simp at hx; omega)
      obtain ⟨r1, s1, s2⟩ := Own.rdS (X := X) (HO.out.fr F58 (fun x hx hm => by have := (HO.out.lt hx).1; simp at hm; omega)) (fun x hx => hX x (by have := (HO.out.lt hx).1; omega))
      obtain ⟨r2, _, _⟩ := Own.rdS (X := X) ((HO6.out.fr F7 (fun x hx hm => by have := (HO6.out.lt hx).1; simp at hm; omega)).fr F8 (fun x hx hm => by have := (HO6.out.lt hx).1; simp at hm; omega)) (fun x hx => hX x (by have := (HO6.out.lt hx).1; omega))
      refine bodyPost_ret (results_cellB_tmp rfl _ _ w.heap.size 31 _ _ (by rfl) B8 Try.underlying31 rfl ref_size) rfl ⟨_, rfl, ⟨a, a6, none, c, c6, 0, nils k, nils k, [], by simp [refCells, splice], ?_⟩, FF⟩
      exact ⟨r1, r2, RdA.nil _ _ _, nils_allB _ _ _, nils_allB _ _ _, AllB.nil _ _, rfl, Rf.new_wf k h2, ⟨by simpa [nils] using s1, s2⟩, ⟨by simpa [nils] using p1, p2⟩, ⟨Nat.le_refl _, Nat.zero_le _⟩⟩
end Go.Fur
