/- furlongref14: contracts. -/
import Derived.Test.YtkmodecmfjepkaaArr2
import Derived.Test.YtkmodecmfjepkaaUtil01
import Derived.Test.YtkmodecmfjepkaaDiskAll
namespace Go.Fur
open Go Go.RowKit Go.Proofs
set_option linter.unusedVariables false
set_option linter.unusedSimpArgs false
/-- The document's disk. -/
structure Rf where
  now : List (List Int)
  safe : List (List Int)
  loose : List (Nat × List Int)
structure Rf.wf (r : Rf) : Prop where
  same : r.safe.length = r.now.length
  n64 : ∀ b ∈ r.now, b.length ≤ 64
  s64 : ∀ b ∈ r.safe, b.length ≤ 64
  l64 : ∀ x ∈ r.loose, x.1 < r.now.length ∧ x.2.length ≤ 64
  max : r.now.length ≤ 65536
  few : r.loose.length ≤ 1000000
def lw (x : Nat × Value) : List Value := [.int .i64 x.1, x.2]
theorem lw_len (l : List (Nat × Value)) : ∀ x ∈ l, (lw x).length = 2 := fun _ _ => rfl
structure RefIs (w : World) (X : Nat → Prop) (na sa la : Option Addr) (nc sc lc : Nat) (nv sv : List Value) (lv : List (Nat × Value)) (r : Rf) : Prop where
  rn : RdA w X na nv
  rs : RdA w X sa sv
  rl : RdA w X la (flat lw lv)
  bn : AllB w X nv r.now
  bs : AllB w X sv r.safe
  bl : AllB w X (lv.map (·.2)) (r.loose.map (·.2))
  il : lv.map (·.1) = r.loose.map (·.1)
  wf : r.wf
  cn : nv.length ≤ nc ∧ nc ≤ maxLen
  cs : sv.length ≤ sc ∧ sc ≤ maxLen
  cl : lv.length ≤ lc ∧ lc ≤ maxLen
def refCells (na sa la : Option Addr) (nc sc lc : Nat) (nv sv : List Value) (lv : List (Nat × Value)) : List Value := [.slice na nv.length nc, .slice sa sv.length sc, .slice la lv.length lc]
def RefAt (w : World) (X : Nat → Prop) (cs : List Value) (r : Rf) : Prop := ∃ na sa la nc sc lc nv sv lv, cs = refCells na sa la nc sc lc nv sv lv ∧ RefIs w X na sa la nc sc lc nv sv lv r
theorem RefIs.step {S : List Nat} {w w' : World} {X X' : Nat → Prop} {na sa la : Option Addr} {nc sc lc : Nat} {nv sv : List Value} {lv : List (Nat × Value)} {r : Rf} (h : RefIs w X na sa la nc sc lc nv sv lv r) (f : Fr S w w') (hS : ∀ k ∈ S, X k ∨ w.heap.size ≤ k) (hX : ∀ k, X' k → X k ∨ w.heap.size ≤ k) : RefIs w' X' na sa la nc sc lc nv sv lv r :=
  ⟨h.rn.step f hS hX, h.rs.step f hS hX, h.rl.step f hS hX, h.bn.step f hS hX, h.bs.step f hS hX, h.bl.step f hS hX, h.il, h.wf, h.cn, h.cs, h.cl⟩
theorem RefIs.fr0 {w w' : World} {X : Nat → Prop} {na sa la : Option Addr} {nc sc lc : Nat} {nv sv : List Value} {lv : List (Nat × Value)} {r : Rf} (h : RefIs w X na sa la nc sc lc nv sv lv r) (f : Fr [] w w') : RefIs w' X na sa la nc sc lc nv sv lv r :=
  h.step f (by simp) (fun _ h => .inl h)
theorem RefAt.step {S : List Nat} {w w' : World} {X X' : Nat → Prop} {cs : List Value} {r : Rf} (h : RefAt w X cs r) (f : Fr S w w') (hS : ∀ k ∈ S, X k ∨ w.heap.size ≤ k) (hX : ∀ k, X' k → X k ∨ w.heap.size ≤ k) : RefAt w' X' cs r := by
  obtain ⟨na, sa, la, nc, sc, lc, nv, sv, lv, he, h⟩ := h
  exact ⟨na, sa, la, nc, sc, lc, nv, sv, lv, he, h.step f hS hX⟩
theorem AllB.fr0 {w w' : World} {X : Nat → Prop} {vs : List Value} {ls : List (List Int)} (h : AllB w X vs ls) (f : Fr [] w w') : AllB w' X vs ls := h.step f (by simp) (fun _ h => .inl h)
theorem ref_size : (Try.prog.info? 31).map (·.size) = some 3 := by kernel_rfl
theorem ref_zero : ∀ w, (zeroValue 31).run Try.prog w = .ok (.agg [.slice none 0 0, .slice none 0 0, .slice none 0 0].toArray) w := fun w => by kernel_rfl
theorem rows_build0 : ∀ W : World, (Instr.buildSlice 28 0 #[]).run Try.prog W = .ok (.slice (some ⟨W.heap.size, 0, none⟩) 0 0) (W.alloc (.cells #[] 34)) := fun W => by kernel_rfl
theorem writes_build0 : ∀ W : World, (Instr.buildSlice 29 0 #[]).run Try.prog W = .ok (.slice (some ⟨W.heap.size, 0, none⟩) 0 0) (W.alloc (.cells #[] 62)) := fun W => by kernel_rfl
def Rf.calm (r : Rf) : Rf := ⟨r.now, r.now, []⟩
theorem Rf.wf.calm {r : Rf} (h : r.wf) : r.calm.wf := ⟨rfl, h.n64, h.n64, by simp [Rf.calm], h.max, by simp [Rf.calm]⟩
set_option maxRecDepth 100000 in
set_option maxHeartbeats 1000000 in
theorem refSync_calls {w : World} {X : Nat → Prop} {cs : List Value} {r : Rf} (h : RefAt w X cs r) (hX : ∀ k, X k → k < w.heap.size) :
    Calls Try.prog 13 #[.agg cs.toArray] w fun e w' => ∃ cs', e = .returned (.agg cs'.toArray) ∧ RefAt w' X cs' r.calm ∧ Fr [] w w' := by
  obtain ⟨na, sa, la, nc, sc, lc, nv, sv, lv, rfl, h⟩ := h
  obtain ⟨i0, hi0, hz0, hz1, hz2⟩ := info_parts (P := Try.prog) (e := 34) (z := .slice none 0 0) (size := 1) (bytes := 24) (by kernel_rfl)
  have hml : nv.length ≤ 65536 := by rw [h.bn.1]; exact h.wf.max
  have H := Lib.hid h
  clear h
  have HX := Lib.hid hX
  clear hX
  have HZ := Lib.hid (And.intro hi0 (And.intro hz0 (And.intro hz1 hz2)))
  clear hi0 hz0 hz1 hz2
  go_enter Try.func13, Try.ntmps13
  go_wp2_with (first
    | (refine wpList_boxB rfl 31 _ rfl (refCells na sa la nc sc lc nv sv lv) (by rfl) ?_; intro w1 B1 F1 S1; have HB1 := Lib.hid B1; clear B1)
    | (refine wpList_allocZ rfl 31 rfl _ ref_zero ?_; intro w2 B2 F2 S2; have HB2 := Lib.hid B2; clear B2)
    | (refine wpList_build0 rfl 28 34 1 rfl rows_build0 ?_; intro w3 O3 F3 S3; rw [S2, S1] at O3; have B3 := (HB1.out.fr F2 (by simp)).fr F3 (by simp); have c0 : w3.cell? ⟨w.heap.size, 0, none⟩ = some (.slice na nv.length nc) := B3.cellAt rfl; have HB3 := Lib.hid B3; clear B3)
    | (refine wpList_app rfl _ _ 28 28 rfl _ 34 i0 _ 1 24 Try.underlying28 HZ.out.1 HZ.out.2.1 HZ.out.2.2.1 HZ.out.2.2.2 rfl (by omega) _ 0 [] (by rfl) O3 _ nv.length nv (by rfl) (((H.out.rn.rd.fr0 ((F1.trans0 F2).trans0 F3)).src Try.underlying28 (by simp) H.out.bn.one)) (by simp only [maxLen]; omega) (by omega) (by omega) ?_; intro v4 w4 O4 F4 K4 _; simp only [Nat.zero_add, List.nil_append] at O4; have B4 := HB3.out.fr F4 (by simp; omega); have B4' := (HB2.out.fr F3 (by simp)).fr F4 (by simp; omega); obtain ⟨a4, c4, hv4, q1, q2, q3⟩ := O4.form; subst hv4; have HB4 := Lib.hid B4; have HB4' := Lib.hid B4'; clear B4 B4')
    | (refine wpList_store1 rfl 28 _ _ rfl w.heap.size 1 (.slice a4 nv.length c4) (by rfl) (by rfl) rfl 31 _ HB4.out (by simp [refCells]) (by kernel_rfl) rfl ?_; intro w5 B5 F5 S5)
    | (refine wpList_store1 rfl 29 _ _ rfl w.heap.size 2 (.slice none 0 0) (by rfl) (by rfl) rfl 31 _ B5 (by simp [refCells]) (by kernel_rfl) rfl ?_; intro w6 B6 F6 S6)
    | (refine wpList_loadB rfl 31 _ rfl w.heap.size (by rfl) 31 _ _ B6 Try.underlying31 rfl ref_size ?_)
    | (refine wpList_storeB rfl 31 _ _ rfl (w.heap.size + 1) 0 (refCells na a4 none nc c4 0 nv nv []) (by rfl) (by rfl) 31 [.slice none 0 0, .slice none 0 0, .slice none 0 0] ?_ (by simp [refCells]) ref_size (by simp [refCells, Value.oneCell']) ?_; rotate_left; intro w7 B7 F7 S7))
  · have hob : ∀ k ∈ ob (.slice a4 nv.length c4), w.heap.size + 1 + 1 ≤ k := fun k hk => by
      rcases K4 with h | h <;> rw [h] at hk <;> simp at hk <;> omega
    have F37 : Fr [w.heap.size, w.heap.size + 1] w4 w7 := ((F5.trans1 F6).mono (S' := [w.heap.size, w.heap.size + 1]) (by simp)).trans F7 (by simp)
    have FF : Fr [] w w7 := (((F1.trans0 F2).trans0 F3).trans F4 (by simp; omega)).trans F37 (fun k hk hlt => by simp at hk; omega)
    have O7 := O4.fr F37 (fun k hk hm => by have := hob k hk; simp at hm; omega)
    obtain ⟨r7, _, _⟩ := O7.rdS (X := X) (fun k hk hx => by have := hob k hk; have := HX.out k hx; omega)
    have h7 := H.out.fr0 FF
    refine bodyPost_ret (results_cellB rfl _ _ (w.heap.size + 1) 31 _ _ (by rfl) B7 Try.underlying31 rfl ref_size) rfl ⟨_, rfl, ⟨na, a4, none, nc, c4, 0, nv, nv, [], rfl, ?_⟩, FF⟩
    exact ⟨h7.rn, r7, RdA.nil _ _ _, h7.bn, h7.bn, AllB.nil _ _, rfl, h7.wf.calm, h7.cn, ⟨q1, q2⟩, ⟨Nat.le_refl _, Nat.zero_le _⟩⟩
  · have := (HB4'.out.fr F5 (by simp; omega)).fr F6 (by simp; omega)
    rwa [S1] at this
/-- Zeros, the first k of which have been written over. -/
def padk (l : List Int) (k : Nat) : List Int := l.take k ++ zeros (64 - k)
theorem padk_zero (l : List Int) : padk l 0 = zeros 64 := by simp [padk]
theorem padk_all (l : List Int) : padk l l.length = pad l := by simp [padk, pad]
theorem padk_length (l : List Int) (k : Nat) (hk : k ≤ l.length) (hl : l.length ≤ 64) : (padk l k).length = 64 := by simp [padk]; omega
theorem padk_set (l : List Int) (k : Nat) (y : Int) (hy : l[k]? = some y) (hl : l.length ≤ 64) : (padk l k).set k y = padk l (k + 1) := by
  obtain ⟨hk, rfl⟩ := List.getElem?_eq_some_iff.1 hy
  unfold padk
  rw [List.set_append_right _ _ (by simp; omega), List.length_take, Nat.min_eq_left (by omega), Nat.sub_self, show 64 - k = (64 - (k + 1)) + 1 by omega]
  simp only [zeros, List.replicate_succ, List.set_cons_zero, List.take_add_one, List.append_assoc]
  rw [List.getElem?_eq_getElem hk]
  rfl
def Rf.read (r : Rf) (n : Int) : List Int × Int := if n < 0 ∨ r.now.length ≤ n then ([], 8) else (pad (r.now.getD n.toNat []), 0)
theorem info_byteZ : (Try.prog.info? 5).map (fun i => (i.zero.map (·.cells), i.size, i.bytes)) = some (some [Value.int .u8 0].toArray, 1, 1) := by kernel_rfl
theorem zeros_flat : flat id (List.replicate 64 [Value.int .u8 0]) = bv (zeros 64) := by rfl
def RReadRel (w : World) (l : List Int) (i : Value) (wr : World) : Prop := ∃ k : Nat, k ≤ l.length ∧ i = .int .i64 k ∧ Blk wr (w.heap.size + 1) 5 (bv (padk l k)) ∧ Fr [] w wr
set_option maxRecDepth 100000 in
set_option maxHeartbeats 1000000 in
theorem refRead_calls {w : World} {X : Nat → Prop} {cs : List Value} {r : Rf} (h : RefAt w X cs r) (n : Int) :
    Calls Try.prog 17 #[.agg cs.toArray, .int .i64 n] w fun e w' => ∃ v, e = .returned (.tuple #[v, .int .i64 (r.read n).2]) ∧ Own w' w.heap.size 5 1 v (r.read n).1.length (bv (r.read n).1) ∧ Fr [] w w' := by
  obtain ⟨na, sa, la, nc, sc, lc, nv, sv, lv, rfl, h⟩ := h
  have hnl := h.bn.1
  by_cases h1 : n < 0 ∨ r.now.length ≤ n
  · have e : r.read n = ([], 8) := by unfold Rf.read; rw [if_pos h1]
    rw [e]
    have H := Lib.hid h
    clear h e
    rcases h1 with h1 | h1
    · go_enter Try.func17, Try.ntmps17
      go_wp2_with (first
        | (refine wpList_boxB rfl 31 _ rfl (refCells na sa la nc sc lc nv sv lv) (by rfl) ?_; intro w1 B1 F1 S1; have c0 : w1.cell? ⟨w.heap.size, 0, none⟩ = some (.slice na nv.length nc) := B1.cellAt rfl; have HB1 := Lib.hid B1; clear B1))
      go_ret2
      exact ⟨_, rfl, Own.nil _ _ _ _, F1⟩
    · have h2 : ¬ n < 0 := by omega
      have h3 : (nv.length : Int) ≤ n := by omega
      clear h1
      go_enter Try.func17, Try.ntmps17
      go_wp2_with (first
        | (refine wpList_boxB rfl 31 _ rfl (refCells na sa la nc sc lc nv sv lv) (by rfl) ?_; intro w1 B1 F1 S1; have c0 : w1.cell? ⟨w.heap.size, 0, none⟩ = some (.slice na nv.length nc) := B1.cellAt rfl; have HB1 := Lib.hid B1; clear B1))
      go_ret2
      exact ⟨_, rfl, Own.nil _ _ _ _, F1⟩
  · obtain ⟨j, rfl⟩ := Int.eq_ofNat_of_zero_le (show 0 ≤ n by omega)
    have hj : j < r.now.length := by omega
    have hg : r.now[j]? = some (r.now.getD j []) := by rw [List.getD_eq_getElem?_getD, List.getElem?_eq_getElem hj]; rfl
    have e : r.read j = (pad (r.now.getD j []), 0) := by unfold Rf.read; rw [if_neg h1]; rfl
    rw [e]
    generalize r.now.getD j [] = l at *
    have hl64 : l.length ≤ 64 := h.wf.n64 l (List.mem_of_getElem? hg)
    obtain ⟨v, hv, ⟨a, c, rfl, ra, hc1, hc2⟩⟩ := h.bn.get hg
    obtain ⟨b, o, rfl, hb, hr, hcell⟩ := h.rn.cellAt hv
    have hlen : (pad l).length = 64 := pad_length l hl64
    have hcell2 := hcell
    have i0 : ¬ (j : Int) < 0 := by omega
    have i1 : ¬ (nv.length : Int) ≤ (j : Int) := by omega
    have i2 : (j : Int) < (nv.length : Int) := by omega
    have i3 : (0 : Int) ≤ (j : Int) := by omega
    rw [hlen]
    have H := Lib.hid h
    have HG := Lib.hid hg
    have HR := Lib.hid hr
    have HC := Lib.hid hcell
    have HA := Lib.hid ra
    clear h hg hr hv e h1 hj hlen hcell hcell2 ra hnl
    go_enter Try.func17, Try.ntmps17
    go_wp2_with (first
      | (refine wpList_boxB rfl 31 _ rfl (refCells (some ⟨b, o, none⟩) sa la nc sc lc nv sv lv) (by rfl) ?_; intro w1 B1 F1 S1; have c0 : w1.cell? ⟨w.heap.size, 0, none⟩ = some (.slice (some ⟨b, o, none⟩) nv.length nc) := B1.cellAt rfl; have HB1 := Lib.hid B1; clear B1)
      | (refine wpList_makeZ rfl 34 _ _ rfl 5 [.int .u8 0] 1 1 Try.underlying34 info_byteZ (by omega) rfl 64 64 (by rfl) (by rfl) (by omega) (by omega) (by simp [maxLen]) ?_; intro w2 B2 F2 S2; have c0' : w2.cell? ⟨w.heap.size, 0, none⟩ = some (.slice (some ⟨b, o, none⟩) nv.length nc) := (HB1.out.fr F2 (by simp)).cellAt rfl; have c1 : w2.cell? ⟨b, o + j, none⟩ = some (.slice a l.length c) := (World.cell?_of_block ((F1.trans0 F2).block b hb (by simp))).trans HC.out))
    rw [zeros_flat, ← padk_zero l, S1] at B2
    have R0 : RReadRel w l (.int .i64 (0 : Nat)) w2 := ⟨0, Nat.zero_le _, rfl, B2, F1.trans0 F2⟩
    have HR0 := Lib.hid R0
    clear R0 B2 c0 c0' c1 F2 S2 HB1
    go_loopw [25] (fun i wr => RReadRel w l i wr) (fun i _ => l.length - (intOf i).toNat)
    case atStart => exact HR0.out
    case round =>
      obtain ⟨k, hk, rfl, hB, hF⟩ := hrel
      by_cases hlt : k < l.length
      · obtain ⟨y, hy⟩ : ∃ y, l[k]? = some y := ⟨l[k], List.getElem?_eq_getElem hlt⟩
        have hy2 : (bv l)[k]? = some (.int .u8 y) := by rw [bv_get, hy]; rfl
        obtain ⟨b2, o2, rfl, hb2, hr2, hc⟩ := HA.out.cellAt hy2
        have hc3 : wr.cell? ⟨b2, o2 + k, none⟩ = some (.int .u8 y) := (World.cell?_of_block (hF.block b2 hb2 (by simp))).trans hc
        have k0 : (0 : Int) ≤ (k : Int) := by omega
        have k1 : (k : Int) < (l.length : Int) := by omega
        have k2 : (k : Int) < 64 := by omega
        have HY := Lib.hid hy
        have HB := Lib.hid hB
        have HF := Lib.hid hF
        have hpl : k < (bv (padk l k)).length := by rw [bv_length, padk_length l k hk hl64]; omega
        clear hy hy2 hr2 hc hB hF
        go_wp2_with (refine wpList_store1 rfl 5 _ _ rfl (w.heap.size + 1) k (.int .u8 y) (by rfl) (by rfl) rfl 5 _ HB.out hpl (by kernel_rfl) rfl ?_; intro w5 B5 F5 S5)
        rw [bv_set, padk_set l k y HY.out hl64] at B5
        have R5 : RReadRel w l (.int .i64 (k + 1 : Nat)) w5 := ⟨k + 1, by omega, rfl, B5, HF.out.trans F5 (fun x hx hlt => by simp at hx; omega)⟩
        have H5 := Lib.hid R5
        clear R5 B5
        go_wp2_with fail
        go_roundw
        case rel => exact H5.out
        case measure => simp [intOf]; omega
      · have hkl : k = l.length := by omega
        subst hkl
        rw [padk_all] at hB
        have HB := Lib.hid hB
        clear hB
        go_wp2_with fail
        refine bodyPost_ret (results_tmp2 rfl _ _ _) rfl ⟨_, rfl, ?_, hF⟩
        have := Own.of_blk (base := w.heap.size) (size := 1) (n := 64) (cap := 64) (by omega) HB.out (Nat.le_refl _) (by simp [maxLen]) (by rw [bv_length, pad_length l hl64])
        rwa [List.take_of_length_le (by rw [bv_length, pad_length l hl64]; omega)] at this

/-! ### Put -/
def Rf.put (r : Rf) (n : Int) (l : List Int) : Int × Rf :=
  if n < 0 ∨ r.now.length ≤ n then (8, r) else if 64 < l.length then (3, r) else (0, ⟨r.now.set n.toNat l, r.safe, r.loose ++ [(n.toNat, l)]⟩)
theorem info_writeRZ : (Try.prog.info? 62).map (fun i => (i.zero.map (·.cells), i.size, i.bytes)) = some (some (lw (0, .slice none 0 0)).toArray, 2, 32) := by kernel_rfl
theorem lw_one (l : List (Nat × Value)) (h : ∀ v ∈ l.map (·.2), v.oneCell' = true) : ∀ v ∈ flat lw l, v.oneCell' = true := fun v hv => by
  simp only [flat, List.mem_flatMap] at hv
  obtain ⟨x, hx, hv⟩ := hv
  simp only [lw, List.mem_cons, List.not_mem_nil, or_false] at hv
  rcases hv with rfl | rfl
  · rfl
  · exact h _ (List.mem_map.2 ⟨x, hx, rfl⟩)
theorem Rf.wf.put {r : Rf} (h : r.wf) {n : Nat} {l : List Int} (hn : n < r.now.length) (hl : l.length ≤ 64) (hf : r.loose.length < 1000000) : Rf.wf ⟨r.now.set n l, r.safe, r.loose ++ [(n, l)]⟩ := by
  refine ⟨by simpa using h.same, fun b hb => ?_, h.s64, fun x hx => ?_, by simpa using h.max, by simp; omega⟩
  · rcases List.mem_or_eq_of_mem_set hb with hb | rfl
    · exact h.n64 b hb
    · exact hl
  · simp only [List.mem_append, List.mem_singleton] at hx
    rcases hx with hx | rfl
    · simpa using h.l64 x hx
    · exact ⟨by simpa using hn, hl⟩
theorem refPut_no {w : World} {X : Nat → Prop} {cs : List Value} {r : Rf} (h : RefAt w X cs r) (n : Int) (a : Option Addr) (m c : Nat) (l : List Int) (hl : l.length = m) (hb : (n < 0 ∨ r.now.length ≤ n) ∨ 64 < l.length) :
    Calls Try.prog 11 #[.agg cs.toArray, .int .i64 n, .slice a m c] w fun e w' => e = .returned (.tuple #[.agg cs.toArray, .int .i64 (r.put n l).1]) ∧ Fr [] w w' := by
  subst hl
  obtain ⟨na, sa, la, nc, sc, lc, nv, sv, lv, rfl, h⟩ := h
  have hnl := h.bn.1
  have H := Lib.hid h
  clear h
  by_cases h1 : n < 0
  · have e : (r.put n l).1 = 8 := by unfold Rf.put; rw [if_pos (.inl h1)]
    rw [e]
    clear e hb hnl
    go_enter Try.func11, Try.ntmps11
    go_wp2_with (first
      | (refine wpList_boxB rfl 31 _ rfl (refCells na sa la nc sc lc nv sv lv) (by rfl) ?_; intro w1 B1 F1 S1; have HB1 := Lib.hid B1; clear B1)
      | (refine wpList_allocZ rfl 31 rfl _ ref_zero ?_; intro w2 B2 F2 S2; have HB2 := Lib.hid B2; have B12 := HB1.out.fr F2 (by simp); clear B2)
      | (refine wpList_loadB rfl 31 _ rfl w.heap.size (by rfl) 31 _ _ B12 Try.underlying31 rfl ref_size ?_)
      | (refine wpList_storeB rfl 31 _ _ rfl (w.heap.size + 1) 0 (refCells na sa la nc sc lc nv sv lv) (by rfl) (by rfl) 31 [.slice none 0 0, .slice none 0 0, .slice none 0 0] ?_ (by simp [refCells]) ref_size (by simp [refCells, Value.oneCell']) ?_; rotate_left; intro w7 B7 F7 S7))
    · exact bodyPost_ret (results_cellB_tmp rfl _ _ (w.heap.size + 1) 31 _ _ (by rfl) B7 Try.underlying31 rfl ref_size) rfl ⟨rfl, (F1.trans0 F2).trans F7 (fun k hk hlt => by simp at hk; omega)⟩
    · have := HB2.out
      rwa [S1] at this
  · by_cases h2 : r.now.length ≤ n
    · have e : (r.put n l).1 = 8 := by unfold Rf.put; rw [if_pos (.inr h2)]
      rw [e]
      have h3 : (nv.length : Int) ≤ n := by omega
      clear e hb hnl h2
      go_enter Try.func11, Try.ntmps11
      go_wp2_with (first
        | (refine wpList_boxB rfl 31 _ rfl (refCells na sa la nc sc lc nv sv lv) (by rfl) ?_; intro w1 B1 F1 S1; have HB1 := Lib.hid B1; clear B1)
        | (refine wpList_allocZ rfl 31 rfl _ ref_zero ?_; intro w2 B2 F2 S2; have HB2 := Lib.hid B2; have B12 := HB1.out.fr F2 (by simp); have c0 : w2.cell? ⟨w.heap.size, 0, none⟩ = some (.slice na nv.length nc) := B12.cellAt rfl; clear B2)
        | (refine wpList_loadB rfl 31 _ rfl w.heap.size (by rfl) 31 _ _ B12 Try.underlying31 rfl ref_size ?_)
        | (refine wpList_storeB rfl 31 _ _ rfl (w.heap.size + 1) 0 (refCells na sa la nc sc lc nv sv lv) (by rfl) (by rfl) 31 [.slice none 0 0, .slice none 0 0, .slice none 0 0] ?_ (by simp [refCells]) ref_size (by simp [refCells, Value.oneCell']) ?_; rotate_left; intro w7 B7 F7 S7))
      · exact bodyPost_ret (results_cellB_tmp rfl _ _ (w.heap.size + 1) 31 _ _ (by rfl) B7 Try.underlying31 rfl ref_size) rfl ⟨rfl, (F1.trans0 F2).trans F7 (fun k hk hlt => by simp at hk; omega)⟩
      · have := HB2.out
        rwa [S1] at this
    · have h4 : 64 < l.length := by omega
      have e : (r.put n l).1 = 3 := by unfold Rf.put; rw [if_neg (by omega), if_pos h4]
      rw [e]
      have h3 : ¬ (nv.length : Int) ≤ n := by omega
      have h5 : (64 : Int) < (l.length : Int) := by omega
      clear e hb hnl h2
      go_enter Try.func11, Try.ntmps11
      go_wp2_with (first
        | (refine wpList_boxB rfl 31 _ rfl (refCells na sa la nc sc lc nv sv lv) (by rfl) ?_; intro w1 B1 F1 S1; have HB1 := Lib.hid B1; clear B1)
        | (refine wpList_allocZ rfl 31 rfl _ ref_zero ?_; intro w2 B2 F2 S2; have HB2 := Lib.hid B2; have B12 := HB1.out.fr F2 (by simp); have c0 : w2.cell? ⟨w.heap.size, 0, none⟩ = some (.slice na nv.length nc) := B12.cellAt rfl; clear B2)
        | (refine wpList_loadB rfl 31 _ rfl w.heap.size (by rfl) 31 _ _ B12 Try.underlying31 rfl ref_size ?_)
        | (refine wpList_storeB rfl 31 _ _ rfl (w.heap.size + 1) 0 (refCells na sa la nc sc lc nv sv lv) (by rfl) (by rfl) 31 [.slice none 0 0, .slice none 0 0, .slice none 0 0] ?_ (by simp [refCells]) ref_size (by simp [refCells, Value.oneCell']) ?_; rotate_left; intro w7 B7 F7 S7))
      · exact bodyPost_ret (results_cellB_tmp rfl _ _ (w.heap.size + 1) 31 _ _ (by rfl) B7 Try.underlying31 rfl ref_size) rfl ⟨rfl, (F1.trans0 F2).trans F7 (fun k hk hlt => by simp at hk; omega)⟩
      · have := HB2.out
        rwa [S1] at this
theorem build_rw (n : Int) (v : Value) (hv : v.cells = #[v]) (w : World) : (Instr.build 62 #[(0, .int .i64 n), (1, v)]).run Try.prog w = .ok (.agg [.int .i64 n, v].toArray) w := by
  have hc : catV [(0, Value.int .i64 n), (1, v)] = [.int .i64 n, v] := by
    simp only [catV, List.flatMap_cons, List.flatMap_nil, hv]
    rfl
  have := run_build_struct (P := Try.prog) 62 _ #[(0, 1), (1, 1)] (.agg #[.int .i64 0, .slice none 0 0]) #[(0, .int .i64 n), (1, v)] Try.underlying62 (fun w => by kernel_rfl) (fun w => by kernel_rfl) ⟨by rfl, by rw [hv]; rfl, trivial⟩ (by rw [hc]; rfl) w
  rwa [hc] at this
theorem run_build_at {P : Program} {a : Act} {w : World} {o : Oper} (t : TypeId) (ps : List (Nat × Operand)) (ho : o.op = .build t ps.toArray) (parts : List (Nat × Value)) (hp : (ps.map fun p => (p.1, a.eval p.2)) = parts) (v : Value) (hr : (Instr.build t parts.toArray).run P w = .ok v w) :
    (execOp a.eval o).run P w = .ok (.value v) w := by
  unfold execOp
  simp only [ho, List.map_toArray, hp, Sem.run_bind, hr, Result.andThen_ok, Sem.run_pure]
theorem wpList_buildV {P : Program} {ops : Array Oper} {rest : List Oper} {o : Oper} {a : Act} {w : World} {Q : Exit → Act → World → Prop} (hgd : o.guard = none) (t : TypeId) (ps : List (Nat × Operand)) (ho : o.op = .build t ps.toArray) (parts : List (Nat × Value)) (hp : (ps.map fun p => (p.1, a.eval p.2)) = parts) (v : Value) (hr : (Instr.build t parts.toArray).run P w = .ok v w)
    (h : wpList P ops Q rest (a.put o.dst v) w) : wpList P ops Q (o :: rest) a w :=
  wpList_plain hgd fun K hK => by
    unfold Oper.wp
    rw [run_build_at t ps ho parts hp v hr]
    exact hK _ _ h
set_option maxRecDepth 100000 in
set_option maxHeartbeats 1000000 in
theorem refPut_calls {w : World} {X : Nat → Prop} {cs : List Value} {r : Rf} (h : RefAt w X cs r) (hX : ∀ k, X k → k < w.heap.size) (n : Nat) (hn : n < r.now.length) (a : Option Addr) (m c : Nat) (l : List Int) (hl : l.length = m) (h64 : l.length ≤ 64) (hr : Rd w a (bv l)) (hf : r.loose.length < 1000000) :
    Calls Try.prog 11 #[.agg cs.toArray, .int .i64 n, .slice a m c] w fun e w' => ∃ cs', e = .returned (.tuple #[.agg cs'.toArray, .int .i64 0]) ∧ RefAt w' X cs' ⟨r.now.set n l, r.safe, r.loose ++ [(n, l)]⟩ ∧ Fr [] w w' := by
  subst hl
  obtain ⟨na, sa, la, nc, sc, lc, nv, sv, lv, rfl, h⟩ := h
  have hnl := h.bn.1
  have hll := h.bl.1
  simp only [List.length_map] at hll
  have hmax := h.wf.max
  have hm2 : nv.length ≤ 65536 := by omega
  have hl2 : lv.length < 1000000 := by omega
  have j0 : ¬ (n : Int) < 0 := by omega
  have j1 : ¬ (nv.length : Int) ≤ (n : Int) := by omega
  have j2 : ¬ 64 < (l.length : Int) := by omega
  have j3 : (0 : Int) ≤ (n : Int) := by omega
  have j4 : (n : Int) < (nv.length : Int) := by omega
  obtain ⟨i0, hi0, hz0, hz1, hz2⟩ := info_parts (P := Try.prog) (e := 34) (z := .slice none 0 0) (size := 1) (bytes := 24) (by kernel_rfl)
  obtain ⟨i1, hi1, hy0, hy1, hy2⟩ := info_parts (P := Try.prog) (e := 62) (z := .agg #[.int .i64 0, .slice none 0 0]) (size := 2) (bytes := 32) (by kernel_rfl)
  have HZ := Lib.hid (And.intro hi0 (And.intro hz0 (And.intro hz1 hz2)))
  have HY := Lib.hid (And.intro hi1 (And.intro hy0 (And.intro hy1 hy2)))
  have HLL := Lib.hid hll
  have HNL := Lib.hid hnl
  have H := Lib.hid h
  have HX := Lib.hid hX
  have HR := Lib.hid hr
  clear hi0 hz0 hz1 hz2 hi1 hy0 hy1 hy2 h hX hr hll hnl
  go_enter Try.func11, Try.ntmps11
  go_wp2_with (first
    | (refine wpList_boxB rfl 31 _ rfl (refCells na sa la nc sc lc nv sv lv) (by rfl) ?_; intro w1 B1 F1 S1; have HB1 := Lib.hid B1; clear B1)
    | (refine wpList_allocZ rfl 31 rfl _ ref_zero ?_; intro w2 B2 F2 S2; rw [S1] at B2; have HB2 := Lib.hid B2; have B12 := HB1.out.fr F2 (by simp); have c0 : w2.cell? ⟨w.heap.size, 0, none⟩ = some (.slice na nv.length nc) := B12.cellAt rfl; have HB12 := Lib.hid B12; clear B2 B12)
    | (refine wpList_build0 rfl 28 34 1 rfl rows_build0 ?_; intro w3 O3 F3 S3; rw [S2, S1] at O3; have B3 := HB12.out.fr F3 (by simp); clear c0; have c0 : w3.cell? ⟨w.heap.size, 0, none⟩ = some (.slice na nv.length nc) := B3.cellAt rfl; have HB3 := Lib.hid B3; clear B3)
    | (refine wpList_app rfl _ _ 28 28 rfl _ 34 i0 _ 1 24 Try.underlying28 HZ.out.1 HZ.out.2.1 HZ.out.2.2.1 HZ.out.2.2.2 rfl (by omega) _ 0 [] (by rfl) O3 _ nv.length nv (by rfl) (((H.out.rn.rd.fr0 ((F1.trans0 F2).trans0 F3)).src Try.underlying28 (by simp) H.out.bn.one)) (by simp only [maxLen]; omega) (by omega) (by omega) ?_; intro v4 w4 O4 F4 K4 _; simp only [Nat.zero_add, List.nil_append] at O4; have HB4 := Lib.hid (HB3.out.fr F4 (by simp <;> omega)); have HB4' := Lib.hid ((HB2.out.fr F3 (by simp)).fr F4 (by simp <;> omega)); obtain ⟨a4, c4, hv4, q1, q2, q3⟩ := O4.form; subst hv4; have hob : ∀ k ∈ ob (.slice a4 nv.length c4), w.heap.size + 1 + 1 ≤ k := (fun k hk => by rcases K4 with h | h <;> rw [h] at hk <;> simp at hk <;> omega); have HF4 := Lib.hid ((((F1.trans0 F2).trans0 F3).trans F4 (by simp <;> omega) : Fr [] w w4)); have HS4 := Lib.hid F4.size; clear F4 F1 F2 c0 K4 HB1 HB12)
    | (refine wpList_store1 rfl 28 _ _ rfl w.heap.size 0 (.slice a4 nv.length c4) (by rfl) (by rfl) rfl 31 _ HB4.out (by simp [refCells]) (by kernel_rfl) rfl ?_; intro w5 B5 F5 S5))
  clear S3
  have F05 : Fr [] w w5 := HF4.out.trans F5 (fun k hk hlt => by simp at hk; omega)
  have O5 := O4.fr F5 (fun k hk hm => by have := hob k hk; simp at hm; omega)
  obtain ⟨g, cap, cur, x0, hv5, hg5, B5g, hlc, _, _, hset⟩ := O5.cellAt n (by omega)
  simp only [Value.slice.injEq] at hv5
  obtain ⟨rfl, _, rfl⟩ := hv5
  have hgs : w.heap.size + 1 + 1 ≤ g := hob g (by simp)
  have HSET := Lib.hid hset
  have HB5 := Lib.hid B5
  have HB5' := Lib.hid (HB4'.out.fr F5 (by simp))
  have HB5g := Lib.hid B5g
  have c5 : ∀ w', Fr [] w5 w' → w'.cell? ⟨w.heap.size, 0, none⟩ = some (.slice (some ⟨g, 0, none⟩) nv.length c4) := fun w' f => (HB5.out.fr f (by simp)).cellAt rfl
  clear hset B5 B5g O4 O5 F5 hob F3 S5 HB3 HS4
  refine wp_region_ord (Fr [] w5) [0,1,2,3,4,5,6] [6] [4, 6] [1] mixed (by kernel_rfl) ?_
  have hS : Fr [] w5 w5.drew := (Fr.refl _ _).drew
  simp only [pairs, pickN]
  repeat (first | (refine wpO_free ?_ (by rfl) (by rfl) (fun w' => ?_) ?_; rotate_left; (go_simp; rfl); simp only [Act.put, List.setIfInBounds_toArray, List.set_cons_zero, List.set_cons_succ]) | (refine wpO_take ?_ hS (by rfl) (by rfl) (fun w' hw' => ?_) ?_; rotate_left; (go_simp; rfl); simp only [Act.put, List.setIfInBounds_toArray, List.set_cons_zero, List.set_cons_succ]) | (refine wpO_pass (by rfl) ?_; simp only [Act.put, List.setIfInBounds_toArray, List.set_cons_zero, List.set_cons_succ]))
  refine wpO_eff (by rfl) ?_
  refine wpList_callC rfl 21 #[.slice a l.length c] (by first | (go_simp; done) | (go_simp; rfl)) _ (twin_calls w5.drew a c l.length l rfl (by omega) (HR.out.fr0 (F05.trans0 hS))) ?_
  rintro e w6 ⟨v6, rfl, O6, F6⟩
  refine ⟨_, rfl, effQ_keep (hS.trans0 F6) ?_⟩
  have F56 := hS.trans0 F6
  have B6g := HB5g.out.fr F56 (by simp)
  obtain ⟨a6, c6, hv6, p1, p2, p3⟩ := O6.form
  subst hv6
  simp only [Act.put, List.setIfInBounds_toArray, List.set_cons_zero, List.set_cons_succ]
  repeat (first | (refine wpO_free ?_ (by rfl) (by rfl) (fun w' => ?_) ?_; rotate_left; (go_simp; rfl); simp only [Act.put, List.setIfInBounds_toArray, List.set_cons_zero, List.set_cons_succ]) | (refine wpO_take ?_ hS (by rfl) (by rfl) (fun w' hw' => ?_) ?_; rotate_left; (go_simp; rfl); simp only [Act.put, List.setIfInBounds_toArray, List.set_cons_zero, List.set_cons_succ]) | (refine wpO_pass (by rfl) ?_; simp only [Act.put, List.setIfInBounds_toArray, List.set_cons_zero, List.set_cons_succ]))
  refine wpO_eff (by rfl) ?_
  refine wpList_store1 rfl 34 _ _ rfl g n (.slice a6 l.length c6) (by rfl) (by rfl) rfl 34 _ B6g hlc (by kernel_rfl) rfl ?_
  intro w7 B7 F7 S7
  refine effQ_skip (by decide) (wpO_nil ?_)
  simp only [Act.put, List.setIfInBounds_toArray, List.set_cons_zero, List.set_cons_succ]
  have O7n := HSET.out w7 _ B7
  have FF7 : Fr [] w w7 := (F05.trans0 F56).trans F7 (fun k hk hlt => by simp at hk; omega)
  have hglt := HB5g.out.lt
  have h6 : ∀ k ∈ ob (.slice a6 l.length c6), w5.heap.size ≤ k := fun k hk => (O6.lt hk).1
  have O7 := O6.fr F7 (fun k hk hm => by have := h6 k hk; simp at hm; omega)
  have B7s := (HB5.out.fr F56 (by simp)).fr F7 (by simp; omega)
  have B7t := (HB5'.out.fr F56 (by simp)).fr F7 (by simp; omega)
  have c7 : w7.cell? ⟨w.heap.size, 2, none⟩ = some (.slice la lv.length lc) := B7s.cellAt rfl
  have HF7 := Lib.hid FF7
  have HO7 := Lib.hid O7
  have HO7n := Lib.hid O7n
  have HB7s := Lib.hid B7s
  have HB7t := Lib.hid B7t
  have hz7 : w.heap.size + 1 + 1 ≤ w7.heap.size := by have := F05.size; have := F56.size; omega
  have hg7 : g < w7.heap.size := by have := F56.size; omega
  have h67 : ∀ k ∈ ob (.slice a6 l.length c6), k < w7.heap.size := fun k hk => (O7.lt hk).2
  have H67 := Lib.hid h67
  have H6 := Lib.hid h6
  clear FF7 O7 O7n B7s B7t F7 S7 B7 F56 B6g hS c5 HB5 HB5' HB5g HSET O6 F6 F05 S1 S2 O3 HB4 HB4' h67 h6
  go_wp2_with (first
    | (refine wpList_build0 rfl 29 62 2 rfl writes_build0 ?_; intro w8 O8 F8 S8; have c8 : w8.cell? ⟨w.heap.size, 2, none⟩ = some (.slice la lv.length lc) := (HB7s.out.fr F8 (by simp)).cellAt rfl; have HS8 := Lib.hid S8; clear S8)
    | (refine wpList_app rfl _ _ 29 29 rfl _ 62 i1 _ 2 32 Try.underlying29 HY.out.1 HY.out.2.1 HY.out.2.2.1 HY.out.2.2.2 rfl (by omega) _ 0 [] (by rfl) O8 _ lv.length (flat lw lv) (by rfl) (((H.out.rl.rd.fr0 (HF7.out.trans0 F8)).src Try.underlying29 (flat_length lw 2 lv (lw_len lv)) (lw_one lv H.out.bl.one))) (by simp only [maxLen]; omega) (by omega) (by have := HS8.out; omega) ?_; intro v9 w9 O9 F9 K9 _; simp only [Nat.zero_add, List.nil_append] at O9; have hob9 : ∀ k ∈ ob v9, w7.heap.size ≤ k := (fun k hk => (O9.lt hk).1); have hob9u : ∀ k ∈ ob v9, k < w9.heap.size := (fun k hk => (O9.lt hk).2); have HB9s := Lib.hid ((HB7s.out.fr F8 (by simp)).fr F9 (by simp <;> omega)); have HB9t := Lib.hid ((HB7t.out.fr F8 (by simp)).fr F9 (by simp <;> omega)); have HF79 := Lib.hid (((Fr.refl [] w7).trans0 F8).trans F9 (by simp <;> omega)); have HO9 := Lib.hid O9; have HF8 := Lib.hid F8; have HF9 := Lib.hid F9; clear F8 F9 K9 c8 c7 O9 O8))
  refine (twin_calls w9 a c l.length l rfl (by omega) (HR.out.fr0 (HF7.out.trans0 HF79.out))).mono ?_
  rintro e w10 ⟨v10, rfl, O10, F10⟩
  obtain ⟨a10, c10, hv10, e1, e2, e3⟩ := O10.form
  subst hv10
  have HB10s := Lib.hid (HB9s.out.fr F10 (by simp))
  have HB10t := Lib.hid (HB9t.out.fr F10 (by simp))
  have HO10 := Lib.hid (HO9.out.fr0 F10)
  have h910 := F10.size
  have H10 := Lib.hid h910
  have hz9 := HF79.out.size
  have HZ9 := Lib.hid hz9
  have HT10 := Lib.hid O10
  have HG10 := Lib.hid F10
  clear HB9s HB9t HO9 O10 F10 h910 hz9
  go_wp2_with (first
    | (refine wpList_buildV rfl 62 _ rfl [(0, .int .i64 n), (1, .slice a10 l.length c10)] (by rfl) _ (build_rw n _ rfl _) ?_)
    | (refine wpList_buildSlice1 rfl 29 62 _ rfl (lw (0, .slice none 0 0)) 2 32 Try.underlying29 info_writeRZ (by simp [lw]) (by omega) (by omega) _ (lw (n, .slice a10 l.length c10)) (by rfl) (by rfl) (by simp only [lw, List.length_cons, List.length_nil]) ?_; intro w11 B11 F11 S11; have HS11 := Lib.hid S11; clear S11)
    | (refine wpList_app rfl _ _ 29 29 rfl _ 62 i1 _ 2 32 Try.underlying29 HY.out.1 HY.out.2.1 HY.out.2.2.1 HY.out.2.2.2 rfl (by omega) v9 lv.length (flat lw lv) (by rfl) (HO10.out.fr0 F11) _ 1 (lw (n, .slice a10 l.length c10)) (by rfl) ((Rd.mk (B11.range 0 2)).src Try.underlying29 (by simp [lw]) (by simp [lw, Value.oneCell'])) (by simp only [maxLen]; omega) (by omega) (by have := HS11.out; have := H10.out; have := HZ9.out; omega) ?_; intro v12 w12 O12 F12 K12 _; have e12 : flat lw lv ++ lw (n, .slice a10 l.length c10) = flat lw (lv ++ [(n, .slice a10 l.length c10)]) := (by simp [flat]); rw [e12] at O12; obtain ⟨a12, c12, hv12, f1, f2, f3⟩ := O12.form; subst hv12; have HB12s := Lib.hid ((HB10s.out.fr F11 (by simp)).fr F12 (fun hm => by have := hob9 _ hm; omega)); have HB12t := Lib.hid ((HB10t.out.fr F11 (by simp)).fr F12 (fun hm => by have := hob9 _ hm; omega)); have HO12 := Lib.hid O12; have HF11 := Lib.hid F11; have HF12 := Lib.hid F12; clear F11 F12 K12 O12 B11 HO10)
    | (refine wpList_store1 rfl 29 _ _ rfl w.heap.size 2 (.slice a12 (lv.length + 1) c12) (by rfl) (by rfl) rfl 31 _ HB12s.out (by simp [refCells]) (by kernel_rfl) rfl ?_; intro w13 B13 F13 S13; have HF13 := Lib.hid F13; have HB13t := Lib.hid (HB12t.out.fr F13 (by simp)); clear S13 F13)
    | (refine wpList_loadB rfl 31 _ rfl w.heap.size (by rfl) 31 _ _ B13 Try.underlying31 rfl ref_size ?_)
    | (refine wpList_storeB rfl 31 _ _ rfl (w.heap.size + 1) 0 (refCells (some ⟨g, 0, none⟩) sa a12 c4 sc c12 nv sv (lv ++ [(n, .slice a10 l.length c10)])) (by rfl) (by simp [refCells]; rfl) 31 [.slice none 0 0, .slice none 0 0, .slice none 0 0] HB13t.out (by simp [refCells]) ref_size (by simp [refCells, Value.oneCell']) ?_; intro w14 B14 F14 S14))
  have A : Fr [] w7 w12 := ((HF79.out.trans0 HG10.out).trans0 HF11.out).trans HF12.out (fun k hk hlt => by have := hob9 k hk; omega)
  have B : Fr [w.heap.size, w.heap.size + 1] w7 w14 := ((A.ext (S := [w.heap.size, w.heap.size + 1])).trans HF13.out (by simp)).trans F14 (by simp)
  have B12 : Fr [w.heap.size, w.heap.size + 1] w12 w14 := (((Fr.refl [w.heap.size, w.heap.size + 1] w12)).trans HF13.out (by simp)).trans F14 (by simp)
  have C : Fr (w.heap.size :: (w.heap.size + 1) :: ob v9) w10 w14 := (HF11.out.ext.trans HF12.out (fun k hk _ => by simp [hk])).trans B12 (fun k hk _ => by simp at hk; rcases hk with rfl | rfl <;> simp)
  have FF : Fr [] w w14 := HF7.out.trans B (fun k hk hlt => by simp at hk; omega)
  have hX : ∀ k, w.heap.size ≤ k → ¬ X k := fun k hk hx => by have := HX.out k hx; omega
  have O14n := HO7n.out.fr B (fun k hk hm => by simp at hk hm; omega)
  obtain ⟨r1, _, _⟩ := O14n.rdS (X := X) (fun k hk => hX k (by simp at hk; omega))
  have O14a := HO7.out.fr B (fun k hk hm => by have := H6.out k hk; simp at hm; omega)
  have b6 := O14a.bs (X := X) rfl (fun k hk => hX k (by have := H6.out k hk; omega))
  have O14b := HT10.out.fr C (fun k hk hm => by
    have := (HT10.out.lt hk).1
    have := HZ9.out
    simp only [List.mem_cons] at hm
    rcases hm with rfl | rfl | hm
    · omega
    · omega
    · have := hob9u k hm
      omega)
  have b10 := O14b.bs (X := X) rfl (fun k hk => hX k (by have := (HT10.out.lt hk).1; have := HZ9.out; omega))
  have O14w := HO12.out.fr B12 (fun k hk hm => by have := (HO12.out.lt hk).1; simp at hm; omega)
  obtain ⟨r2, _, _⟩ := Own.rdS (X := X) O14w (fun k hk => hX k (by have := (HO12.out.lt hk).1; omega))
  have h14 := H.out.fr0 FF
  refine bodyPost_ret (results_cellB_tmp rfl _ _ (w.heap.size + 1) 31 _ _ (by rfl) B14 Try.underlying31 rfl ref_size) rfl ⟨_, rfl, ⟨some ⟨g, 0, none⟩, sa, a12, c4, sc, c12, nv.set n (.slice a6 l.length c6), sv, lv ++ [(n, .slice a10 l.length c10)], by simp [refCells, splice], ?_⟩, FF⟩
  refine ⟨r1, h14.rs, r2, h14.bn.set n b6, h14.bs, ?_, by simp [h14.il], h14.wf.put hn h64 hf, ⟨by simpa using q1, q2⟩, h14.cs, ⟨by simpa using f1, f2⟩⟩
  simp only [List.map_append, List.map_cons, List.map_nil]
  exact h14.bl.snoc b10
end Go.Fur
