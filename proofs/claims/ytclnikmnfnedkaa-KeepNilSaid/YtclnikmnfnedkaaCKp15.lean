/- The document's keep: a snapshot. -/
import Derived.Test.YtclnikmnfnedkaaCKp13
namespace Go.Fur
open Go Go.RowKit Go.Proofs
set_option linter.unusedVariables false
set_option linter.unusedSimpArgs false
def resetR (k : KP) (i t : Int) (l : List Int) : Int × KP :=
  if i ≤ k.base ∨ 1152921504606846976 < i ∨ t < 0 then (1, k)
  else if 262144 < l.length then (3, k)
  else (0, resetE k i t l)
set_option maxRecDepth 100000 in
set_option maxHeartbeats 8000000 in
theorem rreset_calls {w : World} {Y : Nat → Prop} {cs : List Value} {k : KP} (h : RefL w Y cs k) (hw : k.wf) (i t : Int) (hi : I64 i) (ht : I64 t) (a : Option Addr) (m c : Nat) (l : List Int) (hm : l.length = m) (hmc : m ≤ maxLen) (hr : Rd w a (bv l)) (hY : ∀ b, Y b → b < w.heap.size) :
    Calls Try.prog 38 #[.agg cs.toArray, .int .i64 i, .int .i64 t, .slice a m c] w fun e w' => ∃ cs', e = .returned (.tuple #[.agg cs'.toArray, .int .i64 (resetR k i t l).1]) ∧ RefL w' Y cs' (resetR k i t l).2 ∧ Fr [] w w' := by
  subst hm
  have HH := Lib.hid h
  obtain ⟨vs, ve, rfl, hs, ae, ce, css, rfl, he1, he2, he3⟩ := h
  have h1 := hs.one
  have hb := hw.base
  have hll := hw.lastI
  have hm63 : l.length ≤ 9223372036854775807 := by unfold maxLen at hmc; exact hmc
  have HL := Lib.hid (fun W => rlast_calls W k vs ae ce hw)
  have HR := Lib.hid hr
  have HE := Lib.hid (And.intro hs (And.intro he1 (And.intro he2 he3)))
  unfold I64 at hi ht
  clear hr hs he1 he2 he3
  by_cases hbad : i ≤ k.base ∨ 1152921504606846976 < i ∨ t < 0
  · have e : resetR k i t l = (1, k) := by unfold resetR; rw [if_pos hbad]
    rw [e]
    clear e
    by_cases b1 : i ≤ k.base
    · go_enter Try.func38, Try.ntmps38
      go_wp2_with (first
        | (refine wpList_boxB rfl 39 _ rfl (refC k vs (.slice ae k.es.length ce)) (by rfl) ?_; intro w1 B1 F1 S1; have HB1 := Lib.hid B1; have HF1 := Lib.hid F1; clear B1 F1 S1)
        | (refine wpList_allocZ rfl 39 rfl zR rkeep_zero ?_; intro wA BA FA SA; have HA := Lib.hid BA; have HF2 := Lib.hid (HF1.out.trans FA (by simp)); have HB2 := Lib.hid (HB1.out.fr FA (by simp)); have hA := FA.size; have hA1 := HB1.out.lt; have hA0 := HF1.out.size; have hA2 := HA.out.lt; have c0 := HB2.out.cellAt (i := 0) rfl; have c1 := HB2.out.cellAt (i := 1) rfl; have c2 := HB2.out.cellAt (i := 2) rfl; have c3 := HB2.out.cellAt (i := 3) rfl; have c4 := HB2.out.cellAt (i := 4) rfl; have c5 := HB2.out.cellAt (i := 5) rfl; clear BA FA SA)
        | (refine wpList_storeB rfl 39 _ _ rfl w1.heap.size 0 (refC k vs (.slice ae k.es.length ce)) (by rfl) (by rfl) 39 _ HA.out (by simp [refC, zR]) (by exact rkeep_size) (refC_one h1 rfl) ?_; intro w8 B8 F8 S8; rw [splice_all _ _ (by rfl)] at B8; have HB8 := Lib.hid B8; have HF8 := Lib.hid (HF2.out.trans F8 (fun k hk hlt => by rw [List.mem_singleton.1 hk] at hlt; omega)); clear B8 F8 S8))
      exact bodyPost_ret (results_cellB_tmp rfl _ _ w1.heap.size 39 _ _ (by rfl) HB8.out Try.underlying39 rfl (by exact rkeep_size)) rfl ⟨_, by rfl, HH.out.fr0 HF8.out, HF8.out⟩
    · by_cases b2 : 1152921504606846976 < i
      · go_enter Try.func38, Try.ntmps38
        go_wp2_with (first
          | (refine wpList_boxB rfl 39 _ rfl (refC k vs (.slice ae k.es.length ce)) (by rfl) ?_; intro w1 B1 F1 S1; have HB1 := Lib.hid B1; have HF1 := Lib.hid F1; clear B1 F1 S1)
          | (refine wpList_allocZ rfl 39 rfl zR rkeep_zero ?_; intro wA BA FA SA; have HA := Lib.hid BA; have HF2 := Lib.hid (HF1.out.trans FA (by simp)); have HB2 := Lib.hid (HB1.out.fr FA (by simp)); have hA := FA.size; have hA1 := HB1.out.lt; have hA0 := HF1.out.size; have hA2 := HA.out.lt; have c0 := HB2.out.cellAt (i := 0) rfl; have c1 := HB2.out.cellAt (i := 1) rfl; have c2 := HB2.out.cellAt (i := 2) rfl; have c3 := HB2.out.cellAt (i := 3) rfl; have c4 := HB2.out.cellAt (i := 4) rfl; have c5 := HB2.out.cellAt (i := 5) rfl; clear BA FA SA)
          | (refine wpList_storeB rfl 39 _ _ rfl w1.heap.size 0 (refC k vs (.slice ae k.es.length ce)) (by rfl) (by rfl) 39 _ HA.out (by simp [refC, zR]) (by exact rkeep_size) (refC_one h1 rfl) ?_; intro w8 B8 F8 S8; rw [splice_all _ _ (by rfl)] at B8; have HB8 := Lib.hid B8; have HF8 := Lib.hid (HF2.out.trans F8 (fun k hk hlt => by rw [List.mem_singleton.1 hk] at hlt; omega)); clear B8 F8 S8))
        exact bodyPost_ret (results_cellB_tmp rfl _ _ w1.heap.size 39 _ _ (by rfl) HB8.out Try.underlying39 rfl (by exact rkeep_size)) rfl ⟨_, by rfl, HH.out.fr0 HF8.out, HF8.out⟩
      · have b3 : t < 0 := by omega
        go_enter Try.func38, Try.ntmps38
        go_wp2_with (first
          | (refine wpList_boxB rfl 39 _ rfl (refC k vs (.slice ae k.es.length ce)) (by rfl) ?_; intro w1 B1 F1 S1; have HB1 := Lib.hid B1; have HF1 := Lib.hid F1; clear B1 F1 S1)
          | (refine wpList_allocZ rfl 39 rfl zR rkeep_zero ?_; intro wA BA FA SA; have HA := Lib.hid BA; have HF2 := Lib.hid (HF1.out.trans FA (by simp)); have HB2 := Lib.hid (HB1.out.fr FA (by simp)); have hA := FA.size; have hA1 := HB1.out.lt; have hA0 := HF1.out.size; have hA2 := HA.out.lt; have c0 := HB2.out.cellAt (i := 0) rfl; have c1 := HB2.out.cellAt (i := 1) rfl; have c2 := HB2.out.cellAt (i := 2) rfl; have c3 := HB2.out.cellAt (i := 3) rfl; have c4 := HB2.out.cellAt (i := 4) rfl; have c5 := HB2.out.cellAt (i := 5) rfl; clear BA FA SA)
          | (refine wpList_storeB rfl 39 _ _ rfl w1.heap.size 0 (refC k vs (.slice ae k.es.length ce)) (by rfl) (by rfl) 39 _ HA.out (by simp [refC, zR]) (by exact rkeep_size) (refC_one h1 rfl) ?_; intro w8 B8 F8 S8; rw [splice_all _ _ (by rfl)] at B8; have HB8 := Lib.hid B8; have HF8 := Lib.hid (HF2.out.trans F8 (fun k hk hlt => by rw [List.mem_singleton.1 hk] at hlt; omega)); clear B8 F8 S8))
        exact bodyPost_ret (results_cellB_tmp rfl _ _ w1.heap.size 39 _ _ (by rfl) HB8.out Try.underlying39 rfl (by exact rkeep_size)) rfl ⟨_, by rfl, HH.out.fr0 HF8.out, HF8.out⟩
  · have b1 : ¬ i ≤ k.base := by omega
    have b2 : ¬ 1152921504606846976 < i := by omega
    have b3 : ¬ t < 0 := by omega
    by_cases hlong : 262144 < l.length
    · have e : resetR k i t l = (3, k) := by unfold resetR; rw [if_neg hbad, if_pos hlong]
      rw [e]
      have b4 : (262144 : Int) < (l.length : Int) := by omega
      clear e
      go_enter Try.func38, Try.ntmps38
      go_wp2_with (first
        | (refine wpList_boxB rfl 39 _ rfl (refC k vs (.slice ae k.es.length ce)) (by rfl) ?_; intro w1 B1 F1 S1; have HB1 := Lib.hid B1; have HF1 := Lib.hid F1; clear B1 F1 S1)
        | (refine wpList_allocZ rfl 39 rfl zR rkeep_zero ?_; intro wA BA FA SA; have HA := Lib.hid BA; have HF2 := Lib.hid (HF1.out.trans FA (by simp)); have HB2 := Lib.hid (HB1.out.fr FA (by simp)); have hA := FA.size; have hA1 := HB1.out.lt; have hA0 := HF1.out.size; have hA2 := HA.out.lt; have c0 := HB2.out.cellAt (i := 0) rfl; have c1 := HB2.out.cellAt (i := 1) rfl; have c2 := HB2.out.cellAt (i := 2) rfl; have c3 := HB2.out.cellAt (i := 3) rfl; have c4 := HB2.out.cellAt (i := 4) rfl; have c5 := HB2.out.cellAt (i := 5) rfl; clear BA FA SA)
        | (refine wpList_storeB rfl 39 _ _ rfl w1.heap.size 0 (refC k vs (.slice ae k.es.length ce)) (by rfl) (by rfl) 39 _ HA.out (by simp [refC, zR]) (by exact rkeep_size) (refC_one h1 rfl) ?_; intro w8 B8 F8 S8; rw [splice_all _ _ (by rfl)] at B8; have HB8 := Lib.hid B8; have HF8 := Lib.hid (HF2.out.trans F8 (fun k hk hlt => by rw [List.mem_singleton.1 hk] at hlt; omega)); clear B8 F8 S8))
      exact bodyPost_ret (results_cellB_tmp rfl _ _ w1.heap.size 39 _ _ (by rfl) HB8.out Try.underlying39 rfl (by exact rkeep_size)) rfl ⟨_, by rfl, HH.out.fr0 HF8.out, HF8.out⟩
    · have e : resetR k i t l = (0, resetE k i t l) := by unfold resetR; rw [if_neg hbad, if_neg hlong]
      rw [e]
      have b4 : ¬ (262144 : Int) < (l.length : Int) := by omega
      clear e hbad
      by_cases hla : i ≤ k.last
      · have hlast : k.last = k.base + k.es.length := rfl
        obtain ⟨n, hn⟩ : ∃ n : Nat, i - k.base - 1 = n := ⟨(i - k.base - 1).toNat, by omega⟩
        have hnl : n < k.es.length := by omega
        obtain ⟨y, hy⟩ : ∃ y, k.es[n]? = some y := ⟨k.es[n], List.getElem?_eq_getElem hnl⟩
        obtain ⟨b, off, cs, hae, hblt, _, hcl, ⟨vd, hcs, hbd2⟩, hrg⟩ := HE.out.2.1.get (by decide) hy
        subst hcs hae
        have j1 : IntKind.i64.wrap (i - k.base) = i - k.base := IntWalk.i64_in _ (by omega)
        have j2 : IntKind.i64.wrap (i - k.base - 1) = n := by rw [← hn]; exact IntWalk.i64_in _ (by omega)
        have k0 : (0 : Int) ≤ (n : Int) := by omega
        have k1 : (n : Int) < (k.es.length : Int) := by omega
        have q0 : ∀ W, Fr [] w W → W.cell? ⟨b, off + n * 2, none⟩ = some (.int .i64 y.1) := fun W f => rangeAt_fr hrg f (by simp) 0 _ rfl
        have HN := Lib.hid (And.intro hn (And.intro hnl hlast))
        clear hn hnl hlast hcl hbd2 hrg
        by_cases hyt : y.1 = t
        · have k2 : (y.1 == t) = true := by simpa using hyt
          have hke : keepsE k i t := ⟨hla, by rw [HN.out.1, Int.toNat_natCast, List.getD_eq_getElem?_getD, hy]; exact hyt⟩
          have hes : (resetE k i t l).es = k.es.drop (n + 1) := by
            have hn1 : (i - k.base).toNat = n + 1 := by have := HN.out.1; omega
            show (if keepsE k i t then _ else _) = _
            rw [if_pos hke, hn1]
          have j3 : i - k.base = ((n + 1 : Nat) : Int) := by have := HN.out.1; omega
          obtain ⟨aR, hRR, hsl⟩ := slice_lK (P := Try.prog) Try.underlying37 rentry_size (some ⟨b, off, none⟩) k.es.length ce (n + 1) (i - k.base) j3 (by have := HN.out.2.1; omega) HE.out.2.2.1
          obtain ⟨m1, hm1⟩ : ∃ m1, k.es.length - (n + 1) = m1 := ⟨_, rfl⟩
          obtain ⟨k1', hk1⟩ : ∃ m1, ce - (n + 1) = m1 := ⟨_, rfl⟩
          rw [hm1, hk1] at hsl
          have HRR := Lib.hid hRR
          have HJ := Lib.hid j3
          have hcl2 : (flat id css).length = k.es.length * 2 := by rw [flat_length id 2 _ HE.out.2.1.all, HE.out.2.1.len]
          have hone0 : ∀ v ∈ (flat id css).drop ((n + 1) * 2), v.oneCell' = true := fun v hv => by
            have := EntL.ones HE.out.2.1 css.length
            rw [List.take_length] at this
            exact this v (List.mem_of_mem_drop hv)
          have hlen : ((flat id css).drop ((n + 1) * 2)).length = m1 * 2 := by rw [List.length_drop, hcl2, ← hm1, Nat.sub_mul]
          have hsz1 : 0 + m1 ≤ maxLen := by have := hw.el; simp only [maxLen]; omega
          have hsz2 : (0 + m1) * 32 ≤ 140737488355328 := by have := hw.el; omega
          have HM := Lib.hid (And.intro hm1 hk1)
          clear j3 hRR hm1 hk1
          go_enter Try.func38, Try.ntmps38
          go_wp2_with (first
            | (refine wpList_boxB rfl 39 _ rfl (refC k vs (.slice (some ⟨b, off, none⟩) k.es.length ce)) (by rfl) ?_; intro w1 B1 F1 S1; have HB1 := Lib.hid B1; have HF1 := Lib.hid F1; clear B1 F1 S1)
            | (refine wpList_allocZ rfl 39 rfl zR rkeep_zero ?_; intro wA BA FA SA; have HA := Lib.hid BA; have HF2 := Lib.hid (HF1.out.trans FA (by simp)); have HB2 := Lib.hid (HB1.out.fr FA (by simp)); have hA := FA.size; have hA1 := HB1.out.lt; have hA0 := HF1.out.size; have hA2 := HA.out.lt; have c0 := HB2.out.cellAt (i := 0) rfl; have c1 := HB2.out.cellAt (i := 1) rfl; have c2 := HB2.out.cellAt (i := 2) rfl; have c3 := HB2.out.cellAt (i := 3) rfl; have c4 := HB2.out.cellAt (i := 4) rfl; have c5 := HB2.out.cellAt (i := 5) rfl; clear BA FA SA)
            | fail)
          refine (HL.out _).mono ?_
          rintro e w2 ⟨rfl, F3⟩
          have hA3 := F3.size
          have HA3 := Lib.hid (HA.out.fr F3 (by simp))
          have HB3 := Lib.hid (HB2.out.fr F3 (by simp))
          have HF3 := Lib.hid (HF2.out.trans0 F3)
          have c0 := HB3.out.cellAt (i := 0) rfl
          have c1 := HB3.out.cellAt (i := 1) rfl
          have c2 := HB3.out.cellAt (i := 2) rfl
          have c3 := HB3.out.cellAt (i := 3) rfl
          have c4 := HB3.out.cellAt (i := 4) rfl
          have c5 := HB3.out.cellAt (i := 5) rfl
          clear F3
          dsimp only
          have q0' := q0 w2 HF3.out
          have HR3 := Lib.hid (show Rd w2 aR ((flat id css).drop ((n + 1) * 2)) from (HRR.out w2 _ _ (HE.out.2.1.rd.fr0 HF3.out) hcl2).rd)
          have hw22 : w.heap.size ≤ w2.heap.size := HF3.out.size
          clear q0
          go_upto_region 8 with (refine wpList_appN rfl _ _ 37 37 rfl w2.heap.size 55 55 [.int .i64 0, .slice none 0 0] 2 32 Try.underlying37 Try.underlying37 info_rentry rfl (by decide) (.slice none 0 0) 0 [] (by rfl) (Own.nil _ _ _ _) aR m1 k1' _ (by rfl) HR3.out hlen hone0 hsz1 hsz2 (Nat.le_refl _) ?_; intro v3 w3 O3 F3 K3; obtain ⟨a3, c3', hv3, _, _, _⟩ := O3.form; rw [Nat.zero_add] at hv3; subst hv3; have HO3 := Lib.hid O3; have F3' : Fr [] w2 w3 := F3; have HA3' := Lib.hid (HA3.out.fr F3' (by simp)); have HB4' := Lib.hid (HB3.out.fr F3' (by simp)); have HF3' := Lib.hid (HF3.out.trans0 F3'); clear O3 F3 K3 F3')
          have HEN := Lib.hid (show ∀ wB, Fr [w.heap.size, w1.heap.size] w3 wB → Ents wB Y (.slice a3 m1 c3') (resetE k i t l).es from fun wB f => by
            rw [hes]
            have o3 := HO3.out.fr f (fun g hg hm => by
              have h1 := (HO3.out.lt hg).1
              have h2 := HA3.out.lt
              simp only [List.mem_cons, List.not_mem_nil, or_false] at hm
              rcases hm with rfl | rfl
              · have := HB3.out.lt; omega
              · omega)
            rw [Nat.zero_add, List.nil_append] at o3
            obtain ⟨a4, c4, hv4, g4, g5, g6⟩ := o3.rdA (X := Y) (fun b hb hy => by have := (o3.lt hb).1; have := hY b hy; omega)
            have hml : (k.es.drop (n + 1)).length = m1 := by rw [List.length_drop]; exact HM.out.1
            have hd := (HE.out.2.1.dropN (a' := aR) (n + 1) (HRR.out w Y _ HE.out.2.1.rd hcl2))
            have fwB : Fr [] w wB := HF3'.out.trans f (fun x hx hlt => by
              simp only [List.mem_cons, List.not_mem_nil, or_false] at hx
              rcases hx with rfl | rfl <;> omega)
            refine ⟨a4, c4, css.drop (n + 1), by rw [hv4, hml], ?_, by rw [hml]; exact g4, g5⟩
            refine ⟨?_, hd.len, fun j cs x h1 h2 => ⟨(hd.each j cs x h1 h2).1, ((hd.each j cs x h1 h2).2.step fwB (by simp) (X' := Y) (fun b hb => .inl hb))⟩⟩
            rw [flat_dropA id 2 css HE.out.2.1.all]
            exact g6)
          go_upto_region 8 with fail
          go_wp2_with (first
            | (refine wpList_store1 rfl 37 _ _ rfl w.heap.size 5 (.slice a3 m1 c3') (by rfl) (by rfl) rfl 39 _ HB4'.out (by simp [refC]) (by kernel_rfl) rfl ?_; intro w4 B4 F4 S4; have HB4 := Lib.hid B4; have HF4 := Lib.hid F4; have HA4 := Lib.hid (HA3'.out.fr F4 (by simp; omega)); clear B4 F4 S4)
            | (refine wpList_store1 rfl 3 _ _ rfl w.heap.size 2 (.int .i64 i) (by rfl) (by rfl) rfl 39 _ HB4.out (by simp [refC]) (by kernel_rfl) rfl ?_; intro w5 B5 F5 S5; have HB5 := Lib.hid B5; have HF5 := Lib.hid F5; have HA5 := Lib.hid (HA4.out.fr F5 (by simp; omega)); clear B5 F5 S5)
            | (refine wpList_store1 rfl 3 _ _ rfl w.heap.size 3 (.int .i64 t) (by rfl) (by rfl) rfl 39 _ HB5.out (by simp [refC]) (by kernel_rfl) rfl ?_; intro w6 B6 F6 S6; have HB6 := Lib.hid B6; have HF6 := Lib.hid F6; have HA6 := Lib.hid (HA5.out.fr F6 (by simp; omega)); clear B6 F6 S6)
            | fail)
          have hone : ∀ x ∈ [w.heap.size], ∀ (h : x < w.heap.size), x ∈ ([] : List Nat) := fun x hx hlt => by rw [List.mem_singleton.1 hx] at hlt; omega
          have HFW := Lib.hid ((HF4.out.trans1 HF5.out).trans1 HF6.out)
          have HF7 := Lib.hid (((HF3'.out.trans HF4.out hone).trans HF5.out hone).trans HF6.out hone)
          have hzW := HFW.out.size
          have hzw := HF3'.out.size
          have hAl := HA3'.out.lt
          refine (twin_calls w6 a c l.length l rfl (by omega) (HR.out.fr0 HF7.out)).mono ?_
          rintro e w7 ⟨v7, rfl, O7, F7⟩
          obtain ⟨a7, c7, rfl, _, _, _⟩ := O7.form
          have HO7 := Lib.hid O7
          have HF8 := Lib.hid F7
          have HA7 := Lib.hid (HA6.out.fr F7 (by simp))
          have HB7 := Lib.hid (HB6.out.fr F7 (by simp))
          have hz7 := F7.size
          clear O7 F7 c0 c1 c2 c3 c4 c5
          dsimp only
          go_wp2_with (first
            | (refine wpList_store1 rfl 33 _ _ rfl w.heap.size 4 (.slice a7 l.length c7) (by rfl) (by rfl) rfl 39 _ HB7.out (by simp [refC]) (by kernel_rfl) rfl ?_; intro w8 B8 F9 S8; have HB8 := Lib.hid B8; have HF9 := Lib.hid F9; have HA8 := Lib.hid (HA7.out.fr F9 (by simp; omega)); clear B8 F9 S8; have c0 := HB8.out.cellAt (i := 0) rfl; have c1 := HB8.out.cellAt (i := 1) rfl; have c2 := HB8.out.cellAt (i := 2) rfl; have c3 := HB8.out.cellAt (i := 3) rfl; have c4 := HB8.out.cellAt (i := 4) rfl; have c5 := HB8.out.cellAt (i := 5) rfl)
            | (refine wpList_storeB rfl 39 _ _ rfl w1.heap.size 0 (refC (resetE k i t l) (.slice a7 l.length c7) (.slice a3 m1 c3')) (by rfl) (by rfl) 39 _ HA8.out (by simp [refC, zR]) (by exact rkeep_size) (refC_one rfl rfl) ?_; intro wB BB FB SB; rw [splice_all _ _ (by rfl)] at BB; have HBB := Lib.hid BB; have HFB := Lib.hid FB; clear BB FB SB)
            | fail)
          have f9 := (HF7.out.trans0 HF8.out).trans HF9.out hone
          have fB : Fr [] w wB := f9.trans HFB.out (fun x hx hlt => by rw [List.mem_singleton.1 hx] at hlt; omega)
          have o7 := ((HO7.out.fr HF9.out (fun g hg hm => by rw [List.mem_singleton.1 hm] at hg; have := (HO7.out.lt hg).1; omega))).fr HFB.out (fun g hg hm => by rw [List.mem_singleton.1 hm] at hg; have := (HO7.out.lt hg).1; omega)
          have fW : Fr [w.heap.size, w1.heap.size] w3 wB := (((HFW.out.trans0 HF8.out).trans1 HF9.out).mono (fun x hx _ => by rw [List.mem_singleton.1 hx]; simp)).trans HFB.out (fun x hx _ => by rw [List.mem_singleton.1 hx]; simp)
          exact bodyPost_ret (results_cellB_tmp rfl _ _ w1.heap.size 39 _ _ (by rfl) HBB.out Try.underlying39 rfl (by exact rkeep_size)) rfl ⟨_, by rfl, ⟨_, _, rfl, o7.bs rfl (fun b hb hy => by have := (o7.lt hb).1; have := hY b hy; omega), HEN.out wB fW⟩, fB⟩
        · have k2 : (y.1 == t) = false := by simpa using hyt
          have hke : ¬ keepsE k i t := fun h => hyt (by have h2 := h.2; rw [HN.out.1, Int.toNat_natCast, List.getD_eq_getElem?_getD, hy] at h2; exact h2)
          have hes : (resetE k i t l).es = [] := by show (if keepsE k i t then _ else _) = _; rw [if_neg hke]
          go_enter Try.func38, Try.ntmps38
          go_wp2_with (first
            | (refine wpList_boxB rfl 39 _ rfl (refC k vs (.slice (some ⟨b, off, none⟩) k.es.length ce)) (by rfl) ?_; intro w1 B1 F1 S1; have HB1 := Lib.hid B1; have HF1 := Lib.hid F1; clear B1 F1 S1)
            | (refine wpList_allocZ rfl 39 rfl zR rkeep_zero ?_; intro wA BA FA SA; have HA := Lib.hid BA; have HF2 := Lib.hid (HF1.out.trans FA (by simp)); have HB2 := Lib.hid (HB1.out.fr FA (by simp)); have hA := FA.size; have hA1 := HB1.out.lt; have hA0 := HF1.out.size; have hA2 := HA.out.lt; have c0 := HB2.out.cellAt (i := 0) rfl; have c1 := HB2.out.cellAt (i := 1) rfl; have c2 := HB2.out.cellAt (i := 2) rfl; have c3 := HB2.out.cellAt (i := 3) rfl; have c4 := HB2.out.cellAt (i := 4) rfl; have c5 := HB2.out.cellAt (i := 5) rfl; clear BA FA SA)
            | fail)
          refine (HL.out _).mono ?_
          rintro e w2 ⟨rfl, F3⟩
          have hA3 := F3.size
          have HA3 := Lib.hid (HA.out.fr F3 (by simp))
          have HB3 := Lib.hid (HB2.out.fr F3 (by simp))
          have HF3 := Lib.hid (HF2.out.trans0 F3)
          have c0 := HB3.out.cellAt (i := 0) rfl
          have c1 := HB3.out.cellAt (i := 1) rfl
          have c2 := HB3.out.cellAt (i := 2) rfl
          have c3 := HB3.out.cellAt (i := 3) rfl
          have c4 := HB3.out.cellAt (i := 4) rfl
          have c5 := HB3.out.cellAt (i := 5) rfl
          clear F3
          dsimp only
          have q0' := q0 w2 HF3.out
          have HEN := Lib.hid (show ∀ wB, Fr [w.heap.size, w1.heap.size] w2 wB → Ents wB Y (.slice none 0 0) (resetE k i t l).es from fun wB _ => by rw [hes]; exact Ents.nil _ _)
          clear q0
          go_upto_region 8 with fail
          go_wp2_with (first
            | (refine wpList_store1 rfl 37 _ _ rfl w.heap.size 5 (.slice none 0 0) (by rfl) (by rfl) rfl 39 _ HB3.out (by simp [refC]) (by kernel_rfl) rfl ?_; intro w4 B4 F4 S4; have HB4 := Lib.hid B4; have HF4 := Lib.hid F4; have HA4 := Lib.hid (HA3.out.fr F4 (by simp; omega)); clear B4 F4 S4)
            | (refine wpList_store1 rfl 3 _ _ rfl w.heap.size 2 (.int .i64 i) (by rfl) (by rfl) rfl 39 _ HB4.out (by simp [refC]) (by kernel_rfl) rfl ?_; intro w5 B5 F5 S5; have HB5 := Lib.hid B5; have HF5 := Lib.hid F5; have HA5 := Lib.hid (HA4.out.fr F5 (by simp; omega)); clear B5 F5 S5)
            | (refine wpList_store1 rfl 3 _ _ rfl w.heap.size 3 (.int .i64 t) (by rfl) (by rfl) rfl 39 _ HB5.out (by simp [refC]) (by kernel_rfl) rfl ?_; intro w6 B6 F6 S6; have HB6 := Lib.hid B6; have HF6 := Lib.hid F6; have HA6 := Lib.hid (HA5.out.fr F6 (by simp; omega)); clear B6 F6 S6)
            | fail)
          have hone : ∀ x ∈ [w.heap.size], ∀ (h : x < w.heap.size), x ∈ ([] : List Nat) := fun x hx hlt => by rw [List.mem_singleton.1 hx] at hlt; omega
          have HFW := Lib.hid ((HF4.out.trans1 HF5.out).trans1 HF6.out)
          have HF7 := Lib.hid (((HF3.out.trans HF4.out hone).trans HF5.out hone).trans HF6.out hone)
          have hzW := HFW.out.size
          have hzw := HF3.out.size
          have hAl := HA3.out.lt
          refine (twin_calls w6 a c l.length l rfl (by omega) (HR.out.fr0 HF7.out)).mono ?_
          rintro e w7 ⟨v7, rfl, O7, F7⟩
          obtain ⟨a7, c7, rfl, _, _, _⟩ := O7.form
          have HO7 := Lib.hid O7
          have HF8 := Lib.hid F7
          have HA7 := Lib.hid (HA6.out.fr F7 (by simp))
          have HB7 := Lib.hid (HB6.out.fr F7 (by simp))
          have hz7 := F7.size
          clear O7 F7 c0 c1 c2 c3 c4 c5
          dsimp only
          go_wp2_with (first
            | (refine wpList_store1 rfl 33 _ _ rfl w.heap.size 4 (.slice a7 l.length c7) (by rfl) (by rfl) rfl 39 _ HB7.out (by simp [refC]) (by kernel_rfl) rfl ?_; intro w8 B8 F9 S8; have HB8 := Lib.hid B8; have HF9 := Lib.hid F9; have HA8 := Lib.hid (HA7.out.fr F9 (by simp; omega)); clear B8 F9 S8; have c0 := HB8.out.cellAt (i := 0) rfl; have c1 := HB8.out.cellAt (i := 1) rfl; have c2 := HB8.out.cellAt (i := 2) rfl; have c3 := HB8.out.cellAt (i := 3) rfl; have c4 := HB8.out.cellAt (i := 4) rfl; have c5 := HB8.out.cellAt (i := 5) rfl)
            | (refine wpList_storeB rfl 39 _ _ rfl w1.heap.size 0 (refC (resetE k i t l) (.slice a7 l.length c7) (.slice none 0 0)) (by rfl) (by rfl) 39 _ HA8.out (by simp [refC, zR]) (by exact rkeep_size) (refC_one rfl rfl) ?_; intro wB BB FB SB; rw [splice_all _ _ (by rfl)] at BB; have HBB := Lib.hid BB; have HFB := Lib.hid FB; clear BB FB SB)
            | fail)
          have f9 := (HF7.out.trans0 HF8.out).trans HF9.out hone
          have fB : Fr [] w wB := f9.trans HFB.out (fun x hx hlt => by rw [List.mem_singleton.1 hx] at hlt; omega)
          have o7 := ((HO7.out.fr HF9.out (fun g hg hm => by rw [List.mem_singleton.1 hm] at hg; have := (HO7.out.lt hg).1; omega))).fr HFB.out (fun g hg hm => by rw [List.mem_singleton.1 hm] at hg; have := (HO7.out.lt hg).1; omega)
          have fW : Fr [w.heap.size, w1.heap.size] w2 wB := (((HFW.out.trans0 HF8.out).trans1 HF9.out).mono (fun x hx _ => by rw [List.mem_singleton.1 hx]; simp)).trans HFB.out (fun x hx _ => by rw [List.mem_singleton.1 hx]; simp)
          exact bodyPost_ret (results_cellB_tmp rfl _ _ w1.heap.size 39 _ _ (by rfl) HBB.out Try.underlying39 rfl (by exact rkeep_size)) rfl ⟨_, by rfl, ⟨_, _, rfl, o7.bs rfl (fun b hb hy => by have := (o7.lt hb).1; have := hY b hy; omega), HEN.out wB fW⟩, fB⟩
      · have hke : ¬ keepsE k i t := fun h => hla h.1
        have hes : (resetE k i t l).es = [] := by show (if keepsE k i t then _ else _) = _; rw [if_neg hke]
        go_enter Try.func38, Try.ntmps38
        go_wp2_with (first
          | (refine wpList_boxB rfl 39 _ rfl (refC k vs (.slice ae k.es.length ce)) (by rfl) ?_; intro w1 B1 F1 S1; have HB1 := Lib.hid B1; have HF1 := Lib.hid F1; clear B1 F1 S1)
          | (refine wpList_allocZ rfl 39 rfl zR rkeep_zero ?_; intro wA BA FA SA; have HA := Lib.hid BA; have HF2 := Lib.hid (HF1.out.trans FA (by simp)); have HB2 := Lib.hid (HB1.out.fr FA (by simp)); have hA := FA.size; have hA1 := HB1.out.lt; have hA0 := HF1.out.size; have hA2 := HA.out.lt; have c0 := HB2.out.cellAt (i := 0) rfl; have c1 := HB2.out.cellAt (i := 1) rfl; have c2 := HB2.out.cellAt (i := 2) rfl; have c3 := HB2.out.cellAt (i := 3) rfl; have c4 := HB2.out.cellAt (i := 4) rfl; have c5 := HB2.out.cellAt (i := 5) rfl; clear BA FA SA)
          | fail)
        refine (HL.out _).mono ?_
        rintro e w2 ⟨rfl, F3⟩
        have hA3 := F3.size
        have HA3 := Lib.hid (HA.out.fr F3 (by simp))
        have HB3 := Lib.hid (HB2.out.fr F3 (by simp))
        have HF3 := Lib.hid (HF2.out.trans0 F3)
        have c0 := HB3.out.cellAt (i := 0) rfl
        have c1 := HB3.out.cellAt (i := 1) rfl
        have c2 := HB3.out.cellAt (i := 2) rfl
        have c3 := HB3.out.cellAt (i := 3) rfl
        have c4 := HB3.out.cellAt (i := 4) rfl
        have c5 := HB3.out.cellAt (i := 5) rfl
        clear F3
        dsimp only
        have HEN := Lib.hid (show ∀ wB, Fr [w.heap.size, w1.heap.size] w2 wB → Ents wB Y (.slice none 0 0) (resetE k i t l).es from fun wB _ => by rw [hes]; exact Ents.nil _ _)
        go_upto_region 8 with fail
        go_wp2_with (first
          | (refine wpList_store1 rfl 37 _ _ rfl w.heap.size 5 (.slice none 0 0) (by rfl) (by rfl) rfl 39 _ HB3.out (by simp [refC]) (by kernel_rfl) rfl ?_; intro w4 B4 F4 S4; have HB4 := Lib.hid B4; have HF4 := Lib.hid F4; have HA4 := Lib.hid (HA3.out.fr F4 (by simp; omega)); clear B4 F4 S4)
          | (refine wpList_store1 rfl 3 _ _ rfl w.heap.size 2 (.int .i64 i) (by rfl) (by rfl) rfl 39 _ HB4.out (by simp [refC]) (by kernel_rfl) rfl ?_; intro w5 B5 F5 S5; have HB5 := Lib.hid B5; have HF5 := Lib.hid F5; have HA5 := Lib.hid (HA4.out.fr F5 (by simp; omega)); clear B5 F5 S5)
          | (refine wpList_store1 rfl 3 _ _ rfl w.heap.size 3 (.int .i64 t) (by rfl) (by rfl) rfl 39 _ HB5.out (by simp [refC]) (by kernel_rfl) rfl ?_; intro w6 B6 F6 S6; have HB6 := Lib.hid B6; have HF6 := Lib.hid F6; have HA6 := Lib.hid (HA5.out.fr F6 (by simp; omega)); clear B6 F6 S6)
          | fail)
        have hone : ∀ x ∈ [w.heap.size], ∀ (h : x < w.heap.size), x ∈ ([] : List Nat) := fun x hx hlt => by rw [List.mem_singleton.1 hx] at hlt; omega
        have HFW := Lib.hid ((HF4.out.trans1 HF5.out).trans1 HF6.out)
        have HF7 := Lib.hid (((HF3.out.trans HF4.out hone).trans HF5.out hone).trans HF6.out hone)
        have hzW := HFW.out.size
        have hzw := HF3.out.size
        have hAl := HA3.out.lt
        refine (twin_calls w6 a c l.length l rfl (by omega) (HR.out.fr0 HF7.out)).mono ?_
        rintro e w7 ⟨v7, rfl, O7, F7⟩
        obtain ⟨a7, c7, rfl, _, _, _⟩ := O7.form
        have HO7 := Lib.hid O7
        have HF8 := Lib.hid F7
        have HA7 := Lib.hid (HA6.out.fr F7 (by simp))
        have HB7 := Lib.hid (HB6.out.fr F7 (by simp))
        have hz7 := F7.size
        clear O7 F7 c0 c1 c2 c3 c4 c5
        dsimp only
        go_wp2_with (first
          | (refine wpList_store1 rfl 33 _ _ rfl w.heap.size 4 (.slice a7 l.length c7) (by rfl) (by rfl) rfl 39 _ HB7.out (by simp [refC]) (by kernel_rfl) rfl ?_; intro w8 B8 F9 S8; have HB8 := Lib.hid B8; have HF9 := Lib.hid F9; have HA8 := Lib.hid (HA7.out.fr F9 (by simp; omega)); clear B8 F9 S8; have c0 := HB8.out.cellAt (i := 0) rfl; have c1 := HB8.out.cellAt (i := 1) rfl; have c2 := HB8.out.cellAt (i := 2) rfl; have c3 := HB8.out.cellAt (i := 3) rfl; have c4 := HB8.out.cellAt (i := 4) rfl; have c5 := HB8.out.cellAt (i := 5) rfl)
          | (refine wpList_storeB rfl 39 _ _ rfl w1.heap.size 0 (refC (resetE k i t l) (.slice a7 l.length c7) (.slice none 0 0)) (by rfl) (by rfl) 39 _ HA8.out (by simp [refC, zR]) (by exact rkeep_size) (refC_one rfl rfl) ?_; intro wB BB FB SB; rw [splice_all _ _ (by rfl)] at BB; have HBB := Lib.hid BB; have HFB := Lib.hid FB; clear BB FB SB)
          | fail)
        have f9 := (HF7.out.trans0 HF8.out).trans HF9.out hone
        have fB : Fr [] w wB := f9.trans HFB.out (fun x hx hlt => by rw [List.mem_singleton.1 hx] at hlt; omega)
        have o7 := ((HO7.out.fr HF9.out (fun g hg hm => by rw [List.mem_singleton.1 hm] at hg; have := (HO7.out.lt hg).1; omega))).fr HFB.out (fun g hg hm => by rw [List.mem_singleton.1 hm] at hg; have := (HO7.out.lt hg).1; omega)
        have fW : Fr [w.heap.size, w1.heap.size] w2 wB := (((HFW.out.trans0 HF8.out).trans1 HF9.out).mono (fun x hx _ => by rw [List.mem_singleton.1 hx]; simp)).trans HFB.out (fun x hx _ => by rw [List.mem_singleton.1 hx]; simp)
        exact bodyPost_ret (results_cellB_tmp rfl _ _ w1.heap.size 39 _ _ (by rfl) HBB.out Try.underlying39 rfl (by exact rkeep_size)) rfl ⟨_, by rfl, ⟨_, _, rfl, o7.bs rfl (fun b hb hy => by have := (o7.lt hb).1; have := hY b hy; omega), HEN.out wB fW⟩, fB⟩
end Go.Fur
namespace Go.Fur
open Go Go.RowKit Go.Proofs
set_option linter.unusedVariables false
set_option linter.unusedSimpArgs false
instance : DecidableEq KP := fun a b => decidable_of_iff (a.term = b.term ∧ a.vote = b.vote ∧ a.base = b.base ∧ a.bt = b.bt ∧ a.snap = b.snap ∧ a.es = b.es) (by
  constructor
  · rintro ⟨h1, h2, h3, h4, h5, h6⟩
    cases a
    cases b
    simp_all
  · rintro rfl
    simp)
theorem KP.ext' {a b : KP} (h1 : a.term = b.term) (h2 : a.vote = b.vote) (h3 : a.base = b.base) (h4 : a.bt = b.bt) (h5 : a.snap = b.snap) (h6 : a.es = b.es) : a = b := by
  cases a
  cases b
  dsimp only at h1 h2 h3 h4 h5 h6
  subst h1 h2 h3 h4 h5 h6
  rfl
theorem meas1 {n j : Nat} (h : j < n) (hn : n ≤ 1000000) : n - (intOf (.int .i64 (wrap64 ((j : Int) + 1)))).toNat < n - (intOf (.int .i64 (j : Int))).toNat := by
  have hkw : wrap64 ((j : Int) + 1) = ((j + 1 : Nat) : Int) := by unfold wrap64; omega
  rw [hkw]
  show n - (((j + 1 : Nat) : Int)).toNat < n - ((j : Int)).toNat
  rw [Int.toNat_natCast, Int.toNat_natCast]
  omega
theorem wpList_callW {P : Program} {ops : Array Oper} {rest : List Oper} {o : Oper} {a : Act} {w : World} {Q : Exit → Act → World → Prop} (hw : Region.wanted o (yielded ops a.tmps) = true)
    (f : FuncId) (args : Array Value) (hrun : (execOp a.eval o).run P w = .ok (.enter f args) w) (R : Ending → World → Prop) (hc : Calls P f args w R)
    (h : ∀ e w', R e w' → ∃ v, e = .returned v ∧ wpList P ops Q rest (a.put o.dst v) w') : wpList P ops Q (o :: rest) a w := by
  unfold wpList
  rw [if_pos hw]
  refine .inl ?_
  unfold Oper.wp
  rw [hrun, Oper.upon_enter]
  refine hc.mono fun e w'' hh => ?_
  obtain ⟨v, rfl, h1⟩ := h e w'' hh
  exact h1
def SameR (w : World) (k1 k2 : KP) (i : Value) (wr : World) : Prop := ∃ j : Nat, j ≤ k1.es.length ∧ i = .int .i64 j ∧ k1.es.take j = k2.es.take j ∧ Fr [] w wr
set_option maxRecDepth 100000 in
set_option maxHeartbeats 4000000 in
theorem rsame_calls {w : World} {Y1 Y2 : Nat → Prop} {cs1 cs2 : List Value} {k1 k2 : KP} (h1 : RefL w Y1 cs1 k1) (h2 : RefL w Y2 cs2 k2) (hw1 : k1.wf) (hw2 : k2.wf) :
    Calls Try.prog 15 #[.agg cs1.toArray, .agg cs2.toArray] w fun e w' => e = .returned (.bool (decide (k1 = k2))) ∧ Fr [] w w' := by
  obtain ⟨_, _, rfl, ⟨s1, c1, rfl, rs1, _, _⟩, e1, d1, css1, rfl, r1, _, _⟩ := h1
  obtain ⟨_, _, rfl, ⟨s2, c2, rfl, rs2, _, _⟩, e2, d2, css2, rfl, r2, _, _⟩ := h2
  have H1 := Lib.hid (And.intro rs1 r1)
  have H2 := Lib.hid (And.intro rs2 r2)
  have HBS := Lib.hid (fun W (f : Fr [] w W) => bytes_calls W s1 s2 c1 c2 k1.snap.length k2.snap.length k1.snap k2.snap rfl rfl hw1.snap hw2.snap (rs1.rd.fr0 f) (rs2.rd.fr0 f))
  have HW := Lib.hid (And.intro hw1 hw2)
  clear rs1 rs2 r1 r2 hw1 hw2
  by_cases b1 : k1.term = k2.term
  · have q1 : (k1.term != k2.term) = false := by simpa using b1
    by_cases b2 : k1.vote = k2.vote
    · have q2 : (k1.vote != k2.vote) = false := by simpa using b2
      by_cases b3 : k1.base = k2.base
      · have q3 : (k1.base != k2.base) = false := by simpa using b3
        by_cases b4 : k1.bt = k2.bt
        · have q4 : (k1.bt != k2.bt) = false := by simpa using b4
          have HQ := Lib.hid (And.intro b1 (And.intro b2 (And.intro b3 b4)))
          clear b1 b2 b3 b4
          by_cases b5 : k1.snap = k2.snap
          · by_cases b6 : k1.es.length = k2.es.length
            · have q6 : ((k1.es.length : Int) != (k2.es.length : Int)) = false := by rw [bne_eq_false_iff_eq]; omega
              have q5 : decide (k1.snap = k2.snap) = true := by simpa using b5
              have HN := Lib.hid (And.intro b5 b6)
              have hle1 := HW.out.1.el
              clear b5 b6
              go_enter Try.func15, Try.ntmps15
              go_upto_region 1 with (first
                | (refine wpList_boxB rfl 39 _ rfl (refC k1 (.slice s1 k1.snap.length c1) (.slice e1 k1.es.length d1)) (by rfl) ?_; intro w1 B1 F1 S1; have HB1 := Lib.hid B1; have HF1 := Lib.hid F1; clear B1 F1 S1)
                | (refine wpList_boxB rfl 39 _ rfl (refC k2 (.slice s2 k2.snap.length c2) (.slice e2 k2.es.length d2)) (by rfl) ?_; intro w2 B2 F2 S2; have HX1 := Lib.hid (HB1.out.fr F2 (by simp)); have HB2 := Lib.hid B2; have HF2 := Lib.hid (HF1.out.trans0 F2); clear B2 F2 S2; have x0 := HX1.out.cellAt (i := 0) rfl; have x1 := HX1.out.cellAt (i := 1) rfl; have x2 := HX1.out.cellAt (i := 2) rfl; have x3 := HX1.out.cellAt (i := 3) rfl; have x4 := HX1.out.cellAt (i := 4) rfl; have x5 := HX1.out.cellAt (i := 5) rfl; have y0 := HB2.out.cellAt (i := 0) rfl; have y1 := HB2.out.cellAt (i := 1) rfl; have y2 := HB2.out.cellAt (i := 2) rfl; have y3 := HB2.out.cellAt (i := 3) rfl; have y4 := HB2.out.cellAt (i := 4) rfl; have y5 := HB2.out.cellAt (i := 5) rfl)
                | fail)
              go_wp2_with fail
              refine (HBS.out w2 HF2.out).mono ?_
              rintro e w3 ⟨rfl, rfl⟩
              dsimp only
              rw [q5]
              have R0 := Lib.hid (show SameR w2 k1 k2 (.int .i64 0) w2 from ⟨0, Nat.zero_le _, rfl, rfl, Fr.refl _ _⟩)
              go_wp2_with fail
              clear x0 x1 x2 x3 x4 x5 y0 y1 y2 y3 y4 y5 q1 q2 q3 q4 q5 q6
              go_loopw [52] (fun i wr => SameR w2 k1 k2 i wr) (fun i _ => k1.es.length - (intOf i).toNat)
              case atStart => exact R0.out
              case round =>
                obtain ⟨j, hj, rfl, ht, hF⟩ := hrel
                by_cases hlt : j < k1.es.length
                · have hlt2 : j < k2.es.length := by have := HN.out.2; omega
                  obtain ⟨u, hu⟩ : ∃ u, k1.es[j]? = some u := ⟨k1.es[j], List.getElem?_eq_getElem hlt⟩
                  obtain ⟨v, hv⟩ : ∃ v, k2.es[j]? = some v := ⟨k2.es[j], List.getElem?_eq_getElem hlt2⟩
                  obtain ⟨g1, o1, cs1, ea1, hb1, _, hcl1, ⟨vd1, hc1, bd1⟩, hr1⟩ := ((H1.out.2.step (HF2.out.trans0 hF) (by simp) (X' := Y1) (fun b hb => .inl hb) (fun cs t h => h.step (HF2.out.trans0 hF) (by simp) (fun b hb => .inl hb)))).get (by decide) hu
                  obtain ⟨g2, o2, cs2, ea2, hb2, _, hcl2, ⟨vd2, hc2, bd2⟩, hr2⟩ := ((H2.out.2.step (HF2.out.trans0 hF) (by simp) (X' := Y2) (fun b hb => .inl hb) (fun cs t h => h.step (HF2.out.trans0 hF) (by simp) (fun b hb => .inl hb)))).get (by decide) hv
                  subst hc1 hc2
                  obtain ⟨ad1, cd1, hvd1, rd1, hx1, hx2⟩ := bd1
                  obtain ⟨ad2, cd2, hvd2, rd2, hx3, hx4⟩ := bd2
                  subst hvd1 hvd2
                  have kb1 : (j : Int) < (k1.es.length : Int) := by omega
                  have kb2 : (j : Int) < (k2.es.length : Int) := by omega
                  have k0 : (0 : Int) ≤ (j : Int) := by omega
                  have d1 : ∀ W, Fr [] wr W → W.cell? ⟨w.heap.size, 5, none⟩ = some (.slice (some ⟨g1, o1, none⟩) k1.es.length d1) := fun W f => by rw [← ea1]; exact ((HX1.out.fr hF (by simp)).fr f (by simp)).cellAt rfl
                  have d2 : ∀ W, Fr [] wr W → W.cell? ⟨w1.heap.size, 5, none⟩ = some (.slice (some ⟨g2, o2, none⟩) k2.es.length d2) := fun W f => by rw [← ea2]; exact ((HB2.out.fr hF (by simp)).fr f (by simp)).cellAt rfl
                  have p1 : ∀ W, Fr [] wr W → W.cell? ⟨g1, o1 + j * 2, none⟩ = some (.int .i64 u.1) := fun W f => rangeAt_fr hr1 f (by simp) 0 _ rfl
                  have p2 : ∀ W, Fr [] wr W → W.cell? ⟨g2, o2 + j * 2, none⟩ = some (.int .i64 v.1) := fun W f => rangeAt_fr hr2 f (by simp) 0 _ rfl
                  have p3 : ∀ W, Fr [] wr W → W.cell? ⟨g1, o1 + j * 2 + 1, none⟩ = some (.slice ad1 u.2.length cd1) := fun W f => rangeAt_fr hr1 f (by simp) 1 _ rfl
                  have p4 : ∀ W, Fr [] wr W → W.cell? ⟨g2, o2 + j * 2 + 1, none⟩ = some (.slice ad2 v.2.length cd2) := fun W f => rangeAt_fr hr2 f (by simp) 1 _ rfl
                  have HBD := Lib.hid (fun W (f : Fr [] wr W) => bytes_calls W ad1 ad2 cd1 cd2 u.2.length v.2.length u.2 v.2 rfl rfl (HW.out.1.es u (List.mem_of_getElem? hu)).2.1 (HW.out.2.es v (List.mem_of_getElem? hv)).2.1 (rd1.rd.fr0 f) (rd2.rd.fr0 f))
                  have HU := Lib.hid (And.intro hu (And.intro hv (And.intro ht hF)))
                  clear hu hv ht hF hcl1 hcl2 hr1 hr2 rd1 rd2 ea1 ea2 hx1 hx2 hx3 hx4
                  have HDR := Lib.hid (show Fr [] wr wr.drew from (Fr.refl _ _).drew)
                  by_cases ht : u.1 = v.1
                  · have q7 : (u.1 != v.1) = false := by simpa using ht
                    have HT := Lib.hid ht
                    clear ht
                    by_cases hd : u.2 = v.2
                    · have q8 : decide (u.2 = v.2) = true := by simpa using hd
                      have HD := Lib.hid hd
                      clear hd
                      go_wp2_with fail
                      refine wp_region_ord (Fr [] wr) (List.range 29) [] [26] [1, 5, 7, 11, 15, 19, 21, 25] mixed (by kernel_rfl) ?_
                      have hS : Fr [] wr wr.drew := (Fr.refl _ _).drew
                      simp only [pairs, pickN, List.range, List.range.loop]
                      repeat (first | (refine wpO_free ?_ (by rfl) (by rfl) (fun w' => ?_) ?_; rotate_left; (go_simp; rfl); simp only [Act.put, List.setIfInBounds_toArray, List.set_cons_zero, List.set_cons_succ]) | (refine wpO_take ?_ hS (by rfl) (by rfl) (fun w' hw' => ?_) ?_; rotate_left; (go_simp; rfl); simp only [Act.put, List.setIfInBounds_toArray, List.set_cons_zero, List.set_cons_succ]) | (refine wpO_pass (by rfl) ?_; simp only [Act.put, List.setIfInBounds_toArray, List.set_cons_zero, List.set_cons_succ]))
                      refine wpO_eff (by rfl) ?_
                      refine wpList_callW (by rfl) 20 #[.slice ad1 u.2.length cd1, .slice ad2 v.2.length cd2] (by first | (go_simp; done) | (go_simp; rfl)) _ (HBD.out _ hS) ?_
                      rintro e w4 ⟨rfl, rfl⟩
                      refine ⟨_, rfl, effQ_keep hS ?_⟩
                      rw [q8]
                      simp only [Act.put, List.setIfInBounds_toArray, List.set_cons_zero, List.set_cons_succ]
                      repeat (first | (refine wpO_free ?_ (by rfl) (by rfl) (fun w' => ?_) ?_; rotate_left; (go_simp; rfl); simp only [Act.put, List.setIfInBounds_toArray, List.set_cons_zero, List.set_cons_succ]) | (refine wpO_take ?_ hS (by rfl) (by rfl) (fun w' hw' => ?_) ?_; rotate_left; (go_simp; rfl); simp only [Act.put, List.setIfInBounds_toArray, List.set_cons_zero, List.set_cons_succ]) | (refine wpO_pass (by rfl) ?_; simp only [Act.put, List.setIfInBounds_toArray, List.set_cons_zero, List.set_cons_succ]))
                      refine wpO_nil ?_
                      have HR := Lib.hid (show SameR w2 k1 k2 (.int .i64 ((j + 1 : Nat) : Int)) wr.drew from ⟨j + 1, hlt, rfl, by rw [List.take_add_one, List.take_add_one, HU.out.2.2.1, HU.out.1, HU.out.2.1, show u = v from Prod.ext HT.out HD.out], HU.out.2.2.2.trans0 hS⟩)
                      have hkw : wrap64 ((j : Int) + 1) = ((j + 1 : Nat) : Int) := by unfold wrap64; omega
                      clear hS d1 d2 p1 p2 p3 p4
                      go_wp2_with fail
                      go_roundw
                      case rel =>
                        have h9 := HR.out
                        rw [← hkw] at h9
                        exact h9
                      case measure => exact meas1 hlt hle1
                    · have q8 : decide (u.2 = v.2) = false := by simpa using hd
                      have HD := Lib.hid hd
                      clear hd
                      go_wp2_with fail
                      refine wp_region_ord (Fr [] wr) (List.range 29) [] [26] [1, 5, 7, 11, 15, 19, 21, 25] mixed (by kernel_rfl) ?_
                      have hS : Fr [] wr wr.drew := (Fr.refl _ _).drew
                      simp only [pairs, pickN, List.range, List.range.loop]
                      repeat (first | (refine wpO_free ?_ (by rfl) (by rfl) (fun w' => ?_) ?_; rotate_left; (go_simp; rfl); simp only [Act.put, List.setIfInBounds_toArray, List.set_cons_zero, List.set_cons_succ]) | (refine wpO_take ?_ hS (by rfl) (by rfl) (fun w' hw' => ?_) ?_; rotate_left; (go_simp; rfl); simp only [Act.put, List.setIfInBounds_toArray, List.set_cons_zero, List.set_cons_succ]) | (refine wpO_pass (by rfl) ?_; simp only [Act.put, List.setIfInBounds_toArray, List.set_cons_zero, List.set_cons_succ]))
                      refine wpO_eff (by rfl) ?_
                      refine wpList_callW (by rfl) 20 #[.slice ad1 u.2.length cd1, .slice ad2 v.2.length cd2] (by first | (go_simp; done) | (go_simp; rfl)) _ (HBD.out _ hS) ?_
                      rintro e w4 ⟨rfl, rfl⟩
                      refine ⟨_, rfl, effQ_keep hS ?_⟩
                      rw [q8]
                      simp only [Act.put, List.setIfInBounds_toArray, List.set_cons_zero, List.set_cons_succ]
                      repeat (first | (refine wpO_free ?_ (by rfl) (by rfl) (fun w' => ?_) ?_; rotate_left; (go_simp; rfl); simp only [Act.put, List.setIfInBounds_toArray, List.set_cons_zero, List.set_cons_succ]) | (refine wpO_take ?_ hS (by rfl) (by rfl) (fun w' hw' => ?_) ?_; rotate_left; (go_simp; rfl); simp only [Act.put, List.setIfInBounds_toArray, List.set_cons_zero, List.set_cons_succ]) | (refine wpO_pass (by rfl) ?_; simp only [Act.put, List.setIfInBounds_toArray, List.set_cons_zero, List.set_cons_succ]))
                      refine wpO_nil ?_
                      clear hS d1 d2 p1 p2 p3 p4
                      go_wp2_with fail
                      go_ret
                      have hne : ¬ k1 = k2 := fun h => by
                        have h1 := HU.out.1
                        rw [h, HU.out.2.1] at h1
                        exact HD.out (congrArg Prod.snd (Option.some.inj h1).symm)
                      exact ⟨by rw [show decide (k1 = k2) = false from by simpa using hne]; rfl, (HF2.out.trans0 HU.out.2.2.2).trans0 HDR.out⟩
                  · have q7 : (u.1 != v.1) = true := by simpa using ht
                    have HT := Lib.hid ht
                    clear ht
                    go_wp2_with fail
                    refine wp_region_ord (Fr [] wr) (List.range 29) [] [26] [1, 5, 7, 11, 15, 19, 21, 25] mixed (by kernel_rfl) ?_
                    have hS : Fr [] wr wr.drew := (Fr.refl _ _).drew
                    simp only [pairs, pickN, List.range, List.range.loop]
                    repeat (first | (refine wpO_free ?_ (by rfl) (by rfl) (fun w' => ?_) ?_; rotate_left; (go_simp; rfl); simp only [Act.put, List.setIfInBounds_toArray, List.set_cons_zero, List.set_cons_succ]) | (refine wpO_take ?_ hS (by rfl) (by rfl) (fun w' hw' => ?_) ?_; rotate_left; (go_simp; rfl); simp only [Act.put, List.setIfInBounds_toArray, List.set_cons_zero, List.set_cons_succ]) | (refine wpO_pass (by rfl) ?_; simp only [Act.put, List.setIfInBounds_toArray, List.set_cons_zero, List.set_cons_succ]))
                    refine wpO_nil ?_
                    clear hS d1 d2 p1 p2 p3 p4
                    go_wp2_with fail
                    go_ret
                    have hne : ¬ k1 = k2 := fun h => by
                      have h1 := HU.out.1
                      rw [h, HU.out.2.1] at h1
                      exact HT.out (congrArg Prod.fst (Option.some.inj h1).symm)
                    exact ⟨by rw [show decide (k1 = k2) = false from by simpa using hne]; rfl, (HF2.out.trans0 HU.out.2.2.2).trans0 HDR.out⟩
                · obtain rfl : j = k1.es.length := by omega
                  have hes : k1.es = k2.es := by
                    have h3 := ht
                    rw [List.take_length, HN.out.2, List.take_length] at h3
                    exact h3
                  have hE : k1 = k2 := KP.ext' HQ.out.1 HQ.out.2.1 HQ.out.2.2.1 HQ.out.2.2.2 HN.out.1 hes
                  have HE := Lib.hid hE
                  have HF := Lib.hid hF
                  clear ht hF hes hE
                  go_wp2_with fail
                  go_ret
                  exact ⟨by rw [show decide (k1 = k2) = true from by simpa using HE.out]; rfl, HF2.out.trans0 HF.out⟩
            · have q6 : ((k1.es.length : Int) != (k2.es.length : Int)) = true := by rw [bne_iff_ne]; omega
              have hne : ¬ k1 = k2 := fun h => b6 (by rw [h])
              have q5 : decide (k1.snap = k2.snap) = true := by simpa using b5
              have HN := Lib.hid hne
              clear b5 b6 hne
              go_enter Try.func15, Try.ntmps15
              go_upto_region 1 with (first
                | (refine wpList_boxB rfl 39 _ rfl (refC k1 (.slice s1 k1.snap.length c1) (.slice e1 k1.es.length d1)) (by rfl) ?_; intro w1 B1 F1 S1; have HB1 := Lib.hid B1; have HF1 := Lib.hid F1; clear B1 F1 S1)
                | (refine wpList_boxB rfl 39 _ rfl (refC k2 (.slice s2 k2.snap.length c2) (.slice e2 k2.es.length d2)) (by rfl) ?_; intro w2 B2 F2 S2; have HX1 := Lib.hid (HB1.out.fr F2 (by simp)); have HB2 := Lib.hid B2; have HF2 := Lib.hid (HF1.out.trans0 F2); clear B2 F2 S2; have x0 := HX1.out.cellAt (i := 0) rfl; have x1 := HX1.out.cellAt (i := 1) rfl; have x2 := HX1.out.cellAt (i := 2) rfl; have x3 := HX1.out.cellAt (i := 3) rfl; have x4 := HX1.out.cellAt (i := 4) rfl; have x5 := HX1.out.cellAt (i := 5) rfl; have y0 := HB2.out.cellAt (i := 0) rfl; have y1 := HB2.out.cellAt (i := 1) rfl; have y2 := HB2.out.cellAt (i := 2) rfl; have y3 := HB2.out.cellAt (i := 3) rfl; have y4 := HB2.out.cellAt (i := 4) rfl; have y5 := HB2.out.cellAt (i := 5) rfl)
                | fail)
              go_wp2_with fail
              refine (HBS.out w2 HF2.out).mono ?_
              rintro e w3 ⟨rfl, rfl⟩
              dsimp only
              rw [q5]
              go_wp2_with fail
              go_ret
              exact ⟨by rw [show decide (k1 = k2) = false from by simpa using HN.out]; rfl, HF2.out⟩
          · have q5 : decide (k1.snap = k2.snap) = false := by simpa using b5
            have hne : ¬ k1 = k2 := fun h => b5 (by rw [h])
            have HN := Lib.hid hne
            clear b5 hne
            go_enter Try.func15, Try.ntmps15
            go_upto_region 1 with (first
              | (refine wpList_boxB rfl 39 _ rfl (refC k1 (.slice s1 k1.snap.length c1) (.slice e1 k1.es.length d1)) (by rfl) ?_; intro w1 B1 F1 S1; have HB1 := Lib.hid B1; have HF1 := Lib.hid F1; clear B1 F1 S1)
              | (refine wpList_boxB rfl 39 _ rfl (refC k2 (.slice s2 k2.snap.length c2) (.slice e2 k2.es.length d2)) (by rfl) ?_; intro w2 B2 F2 S2; have HX1 := Lib.hid (HB1.out.fr F2 (by simp)); have HB2 := Lib.hid B2; have HF2 := Lib.hid (HF1.out.trans0 F2); clear B2 F2 S2; have x0 := HX1.out.cellAt (i := 0) rfl; have x1 := HX1.out.cellAt (i := 1) rfl; have x2 := HX1.out.cellAt (i := 2) rfl; have x3 := HX1.out.cellAt (i := 3) rfl; have x4 := HX1.out.cellAt (i := 4) rfl; have x5 := HX1.out.cellAt (i := 5) rfl; have y0 := HB2.out.cellAt (i := 0) rfl; have y1 := HB2.out.cellAt (i := 1) rfl; have y2 := HB2.out.cellAt (i := 2) rfl; have y3 := HB2.out.cellAt (i := 3) rfl; have y4 := HB2.out.cellAt (i := 4) rfl; have y5 := HB2.out.cellAt (i := 5) rfl)
              | fail)
            go_wp2_with fail
            refine (HBS.out w2 HF2.out).mono ?_
            rintro e w3 ⟨rfl, rfl⟩
            dsimp only
            rw [q5]
            go_wp2_with fail
            go_ret
            exact ⟨by rw [show decide (k1 = k2) = false from by simpa using HN.out]; rfl, HF2.out⟩
        · have q4 : (k1.bt != k2.bt) = true := by simpa using b4
          have hne : ¬ k1 = k2 := fun h => b4 (by rw [h])
          clear b1 b2 b3 b4
          go_enter Try.func15, Try.ntmps15
          go_upto_region 1 with (first
            | (refine wpList_boxB rfl 39 _ rfl (refC k1 (.slice s1 k1.snap.length c1) (.slice e1 k1.es.length d1)) (by rfl) ?_; intro w1 B1 F1 S1; have HB1 := Lib.hid B1; have HF1 := Lib.hid F1; clear B1 F1 S1)
            | (refine wpList_boxB rfl 39 _ rfl (refC k2 (.slice s2 k2.snap.length c2) (.slice e2 k2.es.length d2)) (by rfl) ?_; intro w2 B2 F2 S2; have HX1 := Lib.hid (HB1.out.fr F2 (by simp)); have HB2 := Lib.hid B2; have HF2 := Lib.hid (HF1.out.trans0 F2); clear B2 F2 S2; have x0 := HX1.out.cellAt (i := 0) rfl; have x1 := HX1.out.cellAt (i := 1) rfl; have x2 := HX1.out.cellAt (i := 2) rfl; have x3 := HX1.out.cellAt (i := 3) rfl; have x4 := HX1.out.cellAt (i := 4) rfl; have x5 := HX1.out.cellAt (i := 5) rfl; have y0 := HB2.out.cellAt (i := 0) rfl; have y1 := HB2.out.cellAt (i := 1) rfl; have y2 := HB2.out.cellAt (i := 2) rfl; have y3 := HB2.out.cellAt (i := 3) rfl; have y4 := HB2.out.cellAt (i := 4) rfl; have y5 := HB2.out.cellAt (i := 5) rfl)
            | fail)
          go_wp2_with fail
          go_ret
          exact ⟨by rw [show decide (k1 = k2) = false from by simpa using hne]; rfl, HF2.out⟩
      · have q3 : (k1.base != k2.base) = true := by simpa using b3
        have hne : ¬ k1 = k2 := fun h => b3 (by rw [h])
        clear b1 b2 b3
        go_enter Try.func15, Try.ntmps15
        go_upto_region 1 with (first
          | (refine wpList_boxB rfl 39 _ rfl (refC k1 (.slice s1 k1.snap.length c1) (.slice e1 k1.es.length d1)) (by rfl) ?_; intro w1 B1 F1 S1; have HB1 := Lib.hid B1; have HF1 := Lib.hid F1; clear B1 F1 S1)
          | (refine wpList_boxB rfl 39 _ rfl (refC k2 (.slice s2 k2.snap.length c2) (.slice e2 k2.es.length d2)) (by rfl) ?_; intro w2 B2 F2 S2; have HX1 := Lib.hid (HB1.out.fr F2 (by simp)); have HB2 := Lib.hid B2; have HF2 := Lib.hid (HF1.out.trans0 F2); clear B2 F2 S2; have x0 := HX1.out.cellAt (i := 0) rfl; have x1 := HX1.out.cellAt (i := 1) rfl; have x2 := HX1.out.cellAt (i := 2) rfl; have x3 := HX1.out.cellAt (i := 3) rfl; have x4 := HX1.out.cellAt (i := 4) rfl; have x5 := HX1.out.cellAt (i := 5) rfl; have y0 := HB2.out.cellAt (i := 0) rfl; have y1 := HB2.out.cellAt (i := 1) rfl; have y2 := HB2.out.cellAt (i := 2) rfl; have y3 := HB2.out.cellAt (i := 3) rfl; have y4 := HB2.out.cellAt (i := 4) rfl; have y5 := HB2.out.cellAt (i := 5) rfl)
          | fail)
        go_wp2_with fail
        go_ret
        exact ⟨by rw [show decide (k1 = k2) = false from by simpa using hne]; rfl, HF2.out⟩
    · have q2 : (k1.vote != k2.vote) = true := by simpa using b2
      have hne : ¬ k1 = k2 := fun h => b2 (by rw [h])
      clear b1 b2
      go_enter Try.func15, Try.ntmps15
      go_upto_region 1 with (first
        | (refine wpList_boxB rfl 39 _ rfl (refC k1 (.slice s1 k1.snap.length c1) (.slice e1 k1.es.length d1)) (by rfl) ?_; intro w1 B1 F1 S1; have HB1 := Lib.hid B1; have HF1 := Lib.hid F1; clear B1 F1 S1)
        | (refine wpList_boxB rfl 39 _ rfl (refC k2 (.slice s2 k2.snap.length c2) (.slice e2 k2.es.length d2)) (by rfl) ?_; intro w2 B2 F2 S2; have HX1 := Lib.hid (HB1.out.fr F2 (by simp)); have HB2 := Lib.hid B2; have HF2 := Lib.hid (HF1.out.trans0 F2); clear B2 F2 S2; have x0 := HX1.out.cellAt (i := 0) rfl; have x1 := HX1.out.cellAt (i := 1) rfl; have x2 := HX1.out.cellAt (i := 2) rfl; have x3 := HX1.out.cellAt (i := 3) rfl; have x4 := HX1.out.cellAt (i := 4) rfl; have x5 := HX1.out.cellAt (i := 5) rfl; have y0 := HB2.out.cellAt (i := 0) rfl; have y1 := HB2.out.cellAt (i := 1) rfl; have y2 := HB2.out.cellAt (i := 2) rfl; have y3 := HB2.out.cellAt (i := 3) rfl; have y4 := HB2.out.cellAt (i := 4) rfl; have y5 := HB2.out.cellAt (i := 5) rfl)
        | fail)
      go_wp2_with fail
      go_ret
      exact ⟨by rw [show decide (k1 = k2) = false from by simpa using hne]; rfl, HF2.out⟩
  · have q1 : (k1.term != k2.term) = true := by simpa using b1
    have hne : ¬ k1 = k2 := fun h => b1 (by rw [h])
    clear b1
    go_enter Try.func15, Try.ntmps15
    go_upto_region 1 with (first
      | (refine wpList_boxB rfl 39 _ rfl (refC k1 (.slice s1 k1.snap.length c1) (.slice e1 k1.es.length d1)) (by rfl) ?_; intro w1 B1 F1 S1; have HB1 := Lib.hid B1; have HF1 := Lib.hid F1; clear B1 F1 S1)
      | (refine wpList_boxB rfl 39 _ rfl (refC k2 (.slice s2 k2.snap.length c2) (.slice e2 k2.es.length d2)) (by rfl) ?_; intro w2 B2 F2 S2; have HX1 := Lib.hid (HB1.out.fr F2 (by simp)); have HB2 := Lib.hid B2; have HF2 := Lib.hid (HF1.out.trans0 F2); clear B2 F2 S2; have x0 := HX1.out.cellAt (i := 0) rfl; have x1 := HX1.out.cellAt (i := 1) rfl; have x2 := HX1.out.cellAt (i := 2) rfl; have x3 := HX1.out.cellAt (i := 3) rfl; have x4 := HX1.out.cellAt (i := 4) rfl; have x5 := HX1.out.cellAt (i := 5) rfl; have y0 := HB2.out.cellAt (i := 0) rfl; have y1 := HB2.out.cellAt (i := 1) rfl; have y2 := HB2.out.cellAt (i := 2) rfl; have y3 := HB2.out.cellAt (i := 3) rfl; have y4 := HB2.out.cellAt (i := 4) rfl; have y5 := HB2.out.cellAt (i := 5) rfl)
      | fail)
    go_wp2_with fail
    go_ret
    exact ⟨by rw [show decide (k1 = k2) = false from by simpa using hne]; rfl, HF2.out⟩
end Go.Fur
