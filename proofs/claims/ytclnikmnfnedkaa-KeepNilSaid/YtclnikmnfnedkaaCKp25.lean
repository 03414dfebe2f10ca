/- The desk's do: contract. -/
import Derived.Test.YtclnikmnfnedkaaCKp22
namespace Go.Fur
open Go Go.RowKit Go.Proofs
set_option linter.unusedVariables false
set_option linter.unusedSimpArgs false
theorem Dk16.more {W w : World} {n B N B' N' x p : Nat} (h : Dk16 W n B N x p w) (hB : B ≤ B') (hN : N ≤ N') : Dk16 W n B' N' x p w := by
  obtain ⟨K, k0, rs, lst, F, base, bb, q, lv, tl, vs, ve, d, s, h1, h2, h3, h4⟩ := h
  exact ⟨K, k0, rs, lst, F, base, bb, q, lv, tl, vs, ve, d, s, h1, h2, h3.more hB hN, h4⟩
theorem RefL.vote {w : World} {X : Nat → Prop} {vs ve : Value} {k : KP} (h : RefL w X (refC k vs ve) k) (t v : Int) : RefL w X (refC (voteE k t v).2 vs ve) (voteE k t v).2 := by
  obtain ⟨vs', ve', he, h1, h2⟩ := h
  simp only [refC, List.cons.injEq, and_true] at he
  obtain ⟨_, _, _, _, rfl, rfl⟩ := he
  unfold voteE
  split
  · exact ⟨vs, ve, rfl, h1, h2⟩
  · exact ⟨vs, ve, rfl, h1, h2⟩
theorem resetE_pack (k : KP) (i t : Int) (l : List Int) : (resetE k i t l).pack.length ≤ k.bytes + l.length + 18 * k.es.length + 54 := by
  have h0 := pack_len (resetE k i t l)
  have h1 := sum_drop k.es (i - k.base).toNat
  have h2 : (resetE k i t l).bytes ≤ k.bytes + l.length := by
    unfold KP.bytes
    show l.length + ((if keepsE k i t then k.es.drop (i - k.base).toNat else []).map fun e => e.2.length).sum ≤ _
    split
    · omega
    · simp
  have h3 : (resetE k i t l).es.length ≤ k.es.length := by
    show (if keepsE k i t then k.es.drop (i - k.base).toNat else []).length ≤ _
    split
    · rw [List.length_drop]; omega
    · simp
  omega
theorem Blk.keeps {X : Nat → Prop} {w w' : World} {g : Nat} {t : TypeId} {cs : List Value} (h : Blk w g t cs) (f : Stp X w w') (hg : ¬ X g) {i : Nat} {v : Value} (hv : cs[i]? = some v) : w'.cell? ⟨g, i, none⟩ = some v := (h.stp f hg).cellAt hv
set_option maxRecDepth 100000 in
set_option maxHeartbeats 8000000 in
theorem do16_calls {W w : World} {n B N x p b : Nat} (h : Dk16 W n B N x p w) (hN : N ≤ 3000) (hp : B + b + 18 * (N + 1) + 54 ≤ 524288) (hfit : 2 * (B + b) + 100 * (N + 1) + 100 ≤ (n - 2) / 2 * 55) (kind index term vote : Int) (hi : I64 index) (ht : I64 term) (hv : I64 vote)
    (a : Option Addr) (m c : Nat) (l : List Int) (hm : l.length = m) (hmc : m ≤ maxLen) (hr : RdA w (fun b => W.heap.size ≤ b) a (bv l)) (hl : Byt l) (hb : min l.length 300000 ≤ b) (hl9 : l.length ≤ 300000) :
    Calls Try.prog 16 #[.pointer (some ⟨x, 0, none⟩), .agg #[.int .i64 kind, .int .i64 index, .int .i64 term, .int .i64 vote, .slice a m c]] w fun e w' => e = .returned (.bool true) ∧ Dk16 W n (B + b) (N + 1) x p w' := by
  have HDK := Lib.hid h
  obtain ⟨K, k0, rs, lst, F, base, bb, q, lv, tl, vs, ve, d, s, hW, hK, hL, hD⟩ := h
  have hlast := hL.last
  have hll := hL.len
  have HD := Lib.hid hD
  obtain ⟨al, cl, css, hbx, hrow, hlc, hcm, hxF⟩ := hD
  obtain ⟨k, hk⟩ : ∃ k, runK k0 rs = k := ⟨_, rfl⟩
  rw [hk] at hlast hK
  obtain ⟨j, hj⟩ : ∃ j : Nat, lst.length = j + 1 := by
    cases lst with
    | nil => cases hlast
    | cons y r => exact ⟨r.length, rfl⟩
  have hget : lst[j]? = some k := by
    rw [List.getLast?_eq_getElem?] at hlast
    rw [show j = lst.length - 1 by omega]
    exact hlast
  obtain ⟨g, o, cs6, ea, hg, hgX, hcl, hel6, hrg⟩ := hrow.get (by decide) hget
  have HGET := Lib.hid hget
  have HEL := Lib.hid hel6
  obtain ⟨vs6, ve6, rfl, hs6, he6⟩ := hel6
  have hp1 := hs6.one
  have hp2 := he6.one
  subst ea
  have HW := Lib.hid hW
  have HK := Lib.hid hK
  have HL := Lib.hid hL
  have HKK := Lib.hid hk
  have HR := Lib.hid (And.intro hr (And.intro hl hm))
  have HX := Lib.hid (And.intro hbx (And.intro hrow (And.intro hlc hcm)))
  have HRG := Lib.hid hrg
  have hxw := hbx.lt
  clear hW hK hL hk hr hl hm hbx hrow hrg hlast hget hs6 he6 hlc
  go_enter Try.func16, Try.ntmps16
  go_upto_region 1 with (refine wpList_boxB rfl 44 _ rfl [.int .i64 kind, .int .i64 index, .int .i64 term, .int .i64 vote, .slice a m c] (by rfl) ?_; intro w1 B1 F1 S1; have HB1 := Lib.hid B1; have HF1 := Lib.hid F1; clear B1 F1 S1)
  have hx1 := HX.out.1.fr HF1.out (by simp)
  have dx : ∀ W, Fr [] w1 W → W.cell? ⟨x, 2, none⟩ = some (.slice (some ⟨g, o, none⟩) lst.length cl) := fun W f => (hx1.fr f (by simp)).cellAt rfl
  have e0 : ∀ W, Fr [] w1 W → W.cell? ⟨g, o + j * 6, none⟩ = some (.int .i64 k.term) := fun W f => rangeAt_fr HRG.out (HF1.out.trans0 f) (by simp) 0 _ rfl
  have e1 : ∀ W, Fr [] w1 W → W.cell? ⟨g, o + j * 6 + 1, none⟩ = some (.int .i64 k.vote) := fun W f => rangeAt_fr HRG.out (HF1.out.trans0 f) (by simp) 1 _ rfl
  have e2 : ∀ W, Fr [] w1 W → W.cell? ⟨g, o + j * 6 + 2, none⟩ = some (.int .i64 k.base) := fun W f => rangeAt_fr HRG.out (HF1.out.trans0 f) (by simp) 2 _ rfl
  have e3 : ∀ W, Fr [] w1 W → W.cell? ⟨g, o + j * 6 + 3, none⟩ = some (.int .i64 k.bt) := fun W f => rangeAt_fr HRG.out (HF1.out.trans0 f) (by simp) 3 _ rfl
  have e4 : ∀ W, Fr [] w1 W → W.cell? ⟨g, o + j * 6 + 4, none⟩ = some vs6 := fun W f => rangeAt_fr HRG.out (HF1.out.trans0 f) (by simp) 4 _ rfl
  have e5 : ∀ W, Fr [] w1 W → W.cell? ⟨g, o + j * 6 + 5, none⟩ = some ve6 := fun W f => rangeAt_fr HRG.out (HF1.out.trans0 f) (by simp) 5 _ rfl
  have j1 : IntKind.i64.wrap ((lst.length : Int) - 1) = (j : Int) := by rw [hj, show ((j + 1 : Nat) : Int) - 1 = (j : Int) by omega]; exact IntWalk.i64_in _ (by omega)
  have kb : (j : Int) < (lst.length : Int) := by omega
  have kb0 : (0 : Int) ≤ (j : Int) := by omega
  have HJ := Lib.hid hj
  have HX1 := Lib.hid hx1
  clear hj hx1
  refine wp_region_ord (Fr [] w1) [0,1,2,3,4,5,6,7,8,9,10,11,12,13] [] [12, 13] [3, 7, 11] mixed15 (by kernel_rfl) ?_
  have hS : Fr [] w1 w1.drew := (Fr.refl _ _).drew
  simp only [pairs, pickN]
  repeat (first | (refine wpO_free ?_ (by rfl) (by rfl) (fun w' => ?_) ?_; rotate_left; (go_simp; rfl); simp only [Act.put, List.setIfInBounds_toArray, List.set_cons_zero, List.set_cons_succ]) | (refine wpO_take ?_ hS (by rfl) (by rfl) (fun w' hw' => ?_) ?_; rotate_left; (go_simp; rfl); simp only [Act.put, List.setIfInBounds_toArray, List.set_cons_zero, List.set_cons_succ]) | (refine wpO_pass (by rfl) ?_; simp only [Act.put, List.setIfInBounds_toArray, List.set_cons_zero, List.set_cons_succ]))
  refine wpO_eff (by rfl) ?_
  refine wpList_allocZ rfl 39 rfl zR rkeep_zero ?_
  intro w2 B2 F2 S2
  have hS2 : Fr [] w1 w2 := hS.trans0 F2
  refine effQ_keep hS2 ?_
  simp only [Act.put, List.setIfInBounds_toArray, List.set_cons_zero, List.set_cons_succ]
  refine wpO_eff (by rfl) ?_
  refine wpList_storeB rfl 39 _ _ rfl w1.drew.heap.size 0 (refC k vs6 ve6) (by rfl) (by rfl) 39 _ B2 (by simp [refC, zR]) (by exact rkeep_size) (refC_one hp1 hp2) ?_
  intro w3 B3 F3 S3
  rw [splice_all _ _ (by rfl)] at B3
  have hdz : w1.drew.heap.size = w1.heap.size := rfl
  have hS3 : Fr [] w1 w3 := hS2.trans F3 (fun b hb hlt => by rw [List.mem_singleton.1 hb] at hlt; omega)
  refine effQ_keep hS3 ?_
  simp only [Act.put, List.setIfInBounds_toArray, List.set_cons_zero, List.set_cons_succ]
  refine wpO_nil ?_
  have HB3 := Lib.hid (hdz ▸ B3)
  have HF3 := Lib.hid hS3
  clear hS B2 F2 S2 hS2 B3 F3 S3 hS3 e0 e1 e2 e3 e4 e5 dx j1
  have hO3 := (HB1.out.fr HF3.out (by simp))
  have o0 := hO3.cellAt (i := 0) rfl
  have o1 := hO3.cellAt (i := 1) rfl
  have o2 := hO3.cellAt (i := 2) rfl
  have o3 := hO3.cellAt (i := 3) rfl
  have o4 := hO3.cellAt (i := 4) rfl
  have HO3 := Lib.hid hO3
  have f0 := HB3.out.cellAt (i := 0) rfl
  have f1 := HB3.out.cellAt (i := 1) rfl
  have f2 := HB3.out.cellAt (i := 2) rfl
  have f3 := HB3.out.cellAt (i := 3) rfl
  have f4 := HB3.out.cellAt (i := 4) rfl
  have f5 := HB3.out.cellAt (i := 5) rfl
  have HF03 := Lib.hid (HF1.out.trans0 HF3.out)
  clear hO3 hdz
  rw [show w1.drew.heap.size = w1.heap.size from rfl]
  go_upto_block 0 with fail
  go_cut [6] from 7 to 137 (fun s6 wx => s6 = .bool true ∧ Dk16 W n (B + b) (N + 1) x p wx)
  case first =>
    by_cases k0 : kind = 0
    · subst k0
      go_wp2_with fail
      refine (rvote_calls w3 k vs6 ve6 hp1 hp2 term vote ht hv).mono ?_
      rintro e w4 ⟨rfl, F4⟩
      obtain ⟨mm, hmm⟩ : ∃ mm, voteE k term vote = mm := ⟨_, rfl⟩
      rw [hmm]
      have HF4 := Lib.hid F4
      have HMM := Lib.hid hmm
      clear F4 hmm f0 f1 f2 f3 f4 f5
      dsimp only
      go_upto_region 6 with (first
        | (refine wpList_allocZ rfl 39 rfl zR rkeep_zero ?_; intro wA BA FA SA; have HBA := Lib.hid BA; have HFA := Lib.hid FA; clear BA FA SA)
        | (refine wpList_storeB rfl 39 _ _ rfl w4.heap.size 0 (refC mm.2 vs6 ve6) (by rfl) (by rfl) 39 _ HBA.out (by simp [refC, zR]) (by exact rkeep_size) (refC_one hp1 hp2) ?_; intro w5 B5 F5 S5; rw [splice_all _ _ (by rfl)] at B5; have HB5 := Lib.hid B5; have HF5 := Lib.hid F5; clear B5 F5 S5)
        | fail)
      have hz3 := HF03.out.size
      have hz4 := HF4.out.size
      have f45 : Fr [] w4 w5 := HFA.out.trans HF5.out (fun b hb hlt => by rw [List.mem_singleton.1 hb] at hlt; omega)
      have f05 : Fr [] w w5 := (HF03.out.trans0 HF4.out).trans0 f45
      have hFw : ∀ g, F g → g < w.heap.size := fun g hg => (HK.out.fl g hg).2
      have hxb := HX.out.1.fr f05 (by simp)
      have hob := HO3.out.fr (HF4.out.trans0 f45) (by simp)
      have hn1 : ¬ F w.heap.size := fun h => by have := hFw _ h; omega
      have hn2 : ¬ F w4.heap.size := fun h => by have := hFw _ h; omega
      have r0 : ∀ W, Stp F w5 W → W.cell? ⟨w4.heap.size, 0, none⟩ = some (.int .i64 mm.2.term) := fun W f => HB5.out.keeps f hn2 rfl
      have r1 : ∀ W, Stp F w5 W → W.cell? ⟨w4.heap.size, 1, none⟩ = some (.int .i64 mm.2.vote) := fun W f => HB5.out.keeps f hn2 rfl
      have r2 : ∀ W, Stp F w5 W → W.cell? ⟨w4.heap.size, 2, none⟩ = some (.int .i64 mm.2.base) := fun W f => HB5.out.keeps f hn2 rfl
      have r3 : ∀ W, Stp F w5 W → W.cell? ⟨w4.heap.size, 3, none⟩ = some (.int .i64 mm.2.bt) := fun W f => HB5.out.keeps f hn2 rfl
      have r4 : ∀ W, Stp F w5 W → W.cell? ⟨w4.heap.size, 4, none⟩ = some vs6 := fun W f => HB5.out.keeps f hn2 rfl
      have r5 : ∀ W, Stp F w5 W → W.cell? ⟨w4.heap.size, 5, none⟩ = some ve6 := fun W f => HB5.out.keeps f hn2 rfl
      have rx : ∀ W, Stp F w5 W → W.cell? ⟨x, 1, none⟩ = some (.pointer (some ⟨K, 0, none⟩)) := fun W f => hxb.keeps f hxF rfl
      have p2 : ∀ W, Stp F w5 W → W.cell? ⟨w.heap.size, 2, none⟩ = some (.int .i64 term) := fun W f => hob.keeps f hn1 rfl
      have p3 : ∀ W, Stp F w5 W → W.cell? ⟨w.heap.size, 3, none⟩ = some (.int .i64 vote) := fun W f => hob.keeps f hn1 rfl
      have HF05 := Lib.hid f05
      have hKL := HL.out.vote (by omega) (by omega) ht hv
      rw [HKK.out, HMM.out] at hKL
      have HV := Lib.hid hKL
      clear o0 o1 o2 o3 o4 f45 f05 hxb hob hn1 hn2 hKL hFw
      refine wp_region_ord (Stp F w5) [0,1,2,3,4,5,6,7,8,9,11,10,12,13] [12] [10, 12] [1, 5, 7, 9] mixed15 (by kernel_rfl) ?_
      have hS : Stp F w5 w5.drew := Stp.of (S := []) ((Fr.refl _ _).drew) (by simp)
      have hS0 : Fr [] w5 w5.drew := (Fr.refl _ _).drew
      simp only [pairs, pickN]
      repeat (first | (refine wpO_free ?_ (by rfl) (by rfl) (fun w' => ?_) ?_; rotate_left; (go_simp; rfl); simp only [Act.put, List.setIfInBounds_toArray, List.set_cons_zero, List.set_cons_succ]) | (refine wpO_take ?_ hS (by rfl) (by rfl) (fun w' hw' => ?_) ?_; rotate_left; (go_simp; rfl); simp only [Act.put, List.setIfInBounds_toArray, List.set_cons_zero, List.set_cons_succ]) | (refine wpO_pass (by rfl) ?_; simp only [Act.put, List.setIfInBounds_toArray, List.set_cons_zero, List.set_cons_succ]))
      refine wpO_eff (by rfl) ?_
      have hbw := HW.out.2.1
      have hzd : w5.drew.heap.size = w5.heap.size := rfl
      have hz5 := HF05.out.size
      have hpk := HL.out.kd.now.pack
      rw [HKK.out] at hpk
      refine wpList_callC rfl 9 #[.pointer (some ⟨K, 0, none⟩), .int .i64 term, .int .i64 vote] (by first | (go_simp; done) | (go_simp; rfl)) _ (kvote_calls (HK.out.fr0 (HF05.out.trans0 hS0)) (by omega) HL.out.kd.bud (by omega) (by omega) term vote ht hv) ?_
      rintro e w6 ⟨rfl, F', lv', tl', vs', ve', hK', st, hFF⟩
      rw [HV.out.1]
      refine ⟨_, rfl, effQ_keep (Stp.trans hS st (fun b hb => .inl hb)) ?_⟩
      simp only [Act.put, List.setIfInBounds_toArray, List.set_cons_zero, List.set_cons_succ]
      refine wpO_eff (by rfl) ?_
      have hm6 : RefL w (FX F x) (refC mm.2 vs6 ve6) mm.2 := HMM.out ▸ HEL.out.vote term vote
      have f05d := HF05.out.trans0 hS0
      have D6 := (HD.out.step f05d (by simp) (F' := F) (fun b hb => .inl hb)).to st hFF
      have R6 := (hm6.fr0 f05d).to st hFF
      refine wpList_callC rfl 36 #[.pointer (some ⟨x, 0, none⟩), .agg (refC mm.2 vs6 ve6).toArray, .int .i64 mm.1, .int .i64 mm.1, .bool false] (by first | (go_simp; done) | (go_simp; rfl)) _ (change_calls D6 R6 (fun b hb => (hK'.fl b hb).2) (by omega) mm.1 false) ?_
      rintro e w7 ⟨rfl, D7, F7⟩
      refine ⟨_, rfl, effQ_skip (by decide) ?_⟩
      simp only [Act.put, List.setIfInBounds_toArray, List.set_cons_zero, List.set_cons_succ]
      repeat (first | (refine wpO_free ?_ (by rfl) (by rfl) (fun w' => ?_) ?_; rotate_left; (go_simp; rfl); simp only [Act.put, List.setIfInBounds_toArray, List.set_cons_zero, List.set_cons_succ]) | (refine wpO_take ?_ hS (by rfl) (by rfl) (fun w' hw' => ?_) ?_; rotate_left; (go_simp; rfl); simp only [Act.put, List.setIfInBounds_toArray, List.set_cons_zero, List.set_cons_succ]) | (refine wpO_pass (by rfl) ?_; simp only [Act.put, List.setIfInBounds_toArray, List.set_cons_zero, List.set_cons_succ]))
      refine wpO_nil ?_
      obtain ⟨rs', v3, v4⟩ := HV.out.2.2
      rw [HV.out.2.1, v3] at hK'
      have HE := Lib.hid (Dk16.close HW.out HK.out hK' (Stp.trans (Stp.of f05d (by simp)) st (fun b hb => .inl hb)) (v4.more (B' := B + b) (N' := N + 1) (by omega) (Nat.le_refl _)) D7 F7)
      clear hS hS0 hK' st hFF D6 R6 D7 F7 v3 v4 hm6 f05d r0 r1 r2 r3 r4 r5 rx p2 p3
      go_wp2_with fail
      go_meet
      exact ⟨rfl, HE.out⟩
    · have b0 : (kind == 0) = false := by simp [k0]
      have hwk : k.wf := by have := HL.out.kd.now.wf; rwa [HKK.out] at this
      have HWK := Lib.hid hwk
      clear hwk
      by_cases k1 : kind = 1
      · subst k1
        go_wp2_with fail
        have R3 := HEL.out.fr0 HF03.out
        have hw3 : ∀ g, FX F x g → g < w3.heap.size := fun g hg => by
          have := HF03.out.size
          rcases hg with hg | hg
          · have := (HK.out.fl g hg).2; omega
          · omega
        refine (rput_calls R3 HWK.out index term hi ht a m c l HR.out.2.2 hmc (HR.out.1.rd.fr0 HF03.out) hw3).mono ?_
        rintro e w4 ⟨cs', rfl, R4, F4⟩
        obtain ⟨mm, hmm⟩ : ∃ mm, putR k index term l = mm := ⟨_, rfl⟩
        rw [hmm] at R4 ⊢
        have HR4 := Lib.hid R4
        obtain ⟨vs7, ve7, rfl, hs7, he7⟩ := R4
        have hq1 := hs7.one
        have hq2 := he7.one
        have HF4 := Lib.hid F4
        have HMM := Lib.hid hmm
        clear R3 hs7 he7 F4 hmm f0 f1 f2 f3 f4 f5
        dsimp only
        go_upto_region 9 with (first
          | (refine wpList_allocZ rfl 39 rfl zR rkeep_zero ?_; intro wA BA FA SA; have HBA := Lib.hid BA; have HFA := Lib.hid FA; clear BA FA SA)
          | (refine wpList_storeB rfl 39 _ _ rfl w4.heap.size 0 (refC mm.2 vs7 ve7) (by rfl) (by rfl) 39 _ HBA.out (by simp [refC, zR]) (by exact rkeep_size) (refC_one hq1 hq2) ?_; intro w5 B5 F5 S5; rw [splice_all _ _ (by rfl)] at B5; have HB5 := Lib.hid B5; have HF5 := Lib.hid F5; clear B5 F5 S5)
          | fail)
        have hz3 := HF03.out.size
        have hz4 := HF4.out.size
        have f45 : Fr [] w4 w5 := HFA.out.trans HF5.out (fun b hb hlt => by rw [List.mem_singleton.1 hb] at hlt; omega)
        have f05 : Fr [] w w5 := (HF03.out.trans0 HF4.out).trans0 f45
        have hFw : ∀ g, F g → g < w.heap.size := fun g hg => (HK.out.fl g hg).2
        have hxb := HX.out.1.fr f05 (by simp)
        have hob := HO3.out.fr (HF4.out.trans0 f45) (by simp)
        have hn1 : ¬ F w.heap.size := fun h => by have := hFw _ h; omega
        have hn2 : ¬ F w4.heap.size := fun h => by have := hFw _ h; omega
        have r0 : ∀ W, Stp F w5 W → W.cell? ⟨w4.heap.size, 0, none⟩ = some (.int .i64 mm.2.term) := fun W f => HB5.out.keeps f hn2 rfl
        have r1 : ∀ W, Stp F w5 W → W.cell? ⟨w4.heap.size, 1, none⟩ = some (.int .i64 mm.2.vote) := fun W f => HB5.out.keeps f hn2 rfl
        have r2 : ∀ W, Stp F w5 W → W.cell? ⟨w4.heap.size, 2, none⟩ = some (.int .i64 mm.2.base) := fun W f => HB5.out.keeps f hn2 rfl
        have r3 : ∀ W, Stp F w5 W → W.cell? ⟨w4.heap.size, 3, none⟩ = some (.int .i64 mm.2.bt) := fun W f => HB5.out.keeps f hn2 rfl
        have r4 : ∀ W, Stp F w5 W → W.cell? ⟨w4.heap.size, 4, none⟩ = some vs7 := fun W f => HB5.out.keeps f hn2 rfl
        have r5 : ∀ W, Stp F w5 W → W.cell? ⟨w4.heap.size, 5, none⟩ = some ve7 := fun W f => HB5.out.keeps f hn2 rfl
        have rx : ∀ W, Stp F w5 W → W.cell? ⟨x, 1, none⟩ = some (.pointer (some ⟨K, 0, none⟩)) := fun W f => hxb.keeps f hxF rfl
        have p1 : ∀ W, Stp F w5 W → W.cell? ⟨w.heap.size, 1, none⟩ = some (.int .i64 index) := fun W f => hob.keeps f hn1 rfl
        have p2 : ∀ W, Stp F w5 W → W.cell? ⟨w.heap.size, 2, none⟩ = some (.int .i64 term) := fun W f => hob.keeps f hn1 rfl
        have p4 : ∀ W, Stp F w5 W → W.cell? ⟨w.heap.size, 4, none⟩ = some (.slice a m c) := fun W f => hob.keeps f hn1 rfl
        have HF05 := Lib.hid f05
        have hKL := HL.out.put (i := index) (by omega) ht HR.out.2.1 hb hfit
        rw [HKK.out, HMM.out] at hKL
        have HV := Lib.hid hKL
        clear o0 o1 o2 o3 o4 f45 f05 hxb hob hn1 hn2 hKL hFw hw3
        refine wp_region_ord (Stp F w5) [0,1,2,3,4,5,6,7,8,9,10,11,13,12,14,15] [14] [12, 14] [1, 5, 7, 9, 11] mixed15 (by kernel_rfl) ?_
        have hS : Stp F w5 w5.drew := Stp.of (S := []) ((Fr.refl _ _).drew) (by simp)
        have hS0 : Fr [] w5 w5.drew := (Fr.refl _ _).drew
        simp only [pairs, pickN]
        repeat (first | (refine wpO_free ?_ (by rfl) (by rfl) (fun w' => ?_) ?_; rotate_left; (go_simp; rfl); simp only [Act.put, List.setIfInBounds_toArray, List.set_cons_zero, List.set_cons_succ]) | (refine wpO_take ?_ hS (by rfl) (by rfl) (fun w' hw' => ?_) ?_; rotate_left; (go_simp; rfl); simp only [Act.put, List.setIfInBounds_toArray, List.set_cons_zero, List.set_cons_succ]) | (refine wpO_pass (by rfl) ?_; simp only [Act.put, List.setIfInBounds_toArray, List.set_cons_zero, List.set_cons_succ]))
        refine wpO_eff (by rfl) ?_
        have hbw := HW.out.2.1
        have hzd : w5.drew.heap.size = w5.heap.size := rfl
        have hz5 := HF05.out.size
        have hpk := HL.out.kd.now.pack
        have hel9 := HL.out.kd.now.el
        rw [HKK.out] at hpk hel9
        have hra := Dk16.args HW.out.1 HK.out HR.out.1
        have hrd := hra.step (HF05.out.trans0 hS0) (by simp) (X' := F) (fun b hb => .inl hb)
        have HK5 := Lib.hid (HK.out.fr0 (HF05.out.trans0 hS0))
        refine wpList_callC rfl 10 #[.pointer (some ⟨K, 0, none⟩), .int .i64 index, .int .i64 term, .slice a m c] (by first | (go_simp; done) | (go_simp; rfl)) _ (kput_calls HK5.out (by omega) HL.out.kd.bud (by omega) (by omega) (by omega) index term hi ht a m c l HR.out.2.2 hmc hrd HR.out.2.1) ?_
        rintro e w6 ⟨rfl, F', lv', tl', vs', ve', hK', st, hFF⟩
        rw [HV.out.1]
        refine ⟨_, rfl, effQ_keep (Stp.trans hS st (fun b hb => .inl hb)) ?_⟩
        simp only [Act.put, List.setIfInBounds_toArray, List.set_cons_zero, List.set_cons_succ]
        refine wpO_eff (by rfl) ?_
        have f05d := HF05.out.trans0 hS0
        have D6 := (HD.out.step f05d (by simp) (F' := F) (fun b hb => .inl hb)).to st hFF
        have R6 := ((HR4.out.fr0 (HFA.out.trans HF5.out (fun b hb hlt => by rw [List.mem_singleton.1 hb] at hlt; omega))).fr0 hS0).to st hFF
        refine wpList_callC rfl 36 #[.pointer (some ⟨x, 0, none⟩), .agg (refC mm.2 vs7 ve7).toArray, .int .i64 mm.1, .int .i64 mm.1, .bool false] (by first | (go_simp; done) | (go_simp; rfl)) _ (change_calls D6 R6 (fun b hb => (hK'.fl b hb).2) (by omega) mm.1 false) ?_
        rintro e w7 ⟨rfl, D7, F7⟩
        refine ⟨_, rfl, effQ_skip (by decide) ?_⟩
        simp only [Act.put, List.setIfInBounds_toArray, List.set_cons_zero, List.set_cons_succ]
        repeat (first | (refine wpO_free ?_ (by rfl) (by rfl) (fun w' => ?_) ?_; rotate_left; (go_simp; rfl); simp only [Act.put, List.setIfInBounds_toArray, List.set_cons_zero, List.set_cons_succ]) | (refine wpO_take ?_ hS (by rfl) (by rfl) (fun w' hw' => ?_) ?_; rotate_left; (go_simp; rfl); simp only [Act.put, List.setIfInBounds_toArray, List.set_cons_zero, List.set_cons_succ]) | (refine wpO_pass (by rfl) ?_; simp only [Act.put, List.setIfInBounds_toArray, List.set_cons_zero, List.set_cons_succ]))
        refine wpO_nil ?_
        obtain ⟨rs', v3, v4⟩ := HV.out.2.2
        rw [HV.out.2.1, v3] at hK'
        have HE := Lib.hid (Dk16.close HW.out HK.out hK' (Stp.trans (Stp.of f05d (by simp)) st (fun b hb => .inl hb)) v4 D7 F7)
        clear hS hS0 hK' st hFF D6 R6 D7 F7 v3 v4 f05d r0 r1 r2 r3 r4 r5 rx p1 p2 p4 hra hrd
        go_wp2_with fail
        go_meet
        exact ⟨rfl, HE.out⟩
      · have b1 : (kind == 1) = false := by simp [k1]
        by_cases k2 : kind = 2
        · subst k2
          have hpR : (resetE k index term l).pack.length ≤ 1000000000 := by
            have h1 := resetE_pack k index term l
            have h2 := HL.out.kd.now.byt
            have h3 := HL.out.kd.now.el
            rw [HKK.out] at h2 h3
            omega
          have HPR := Lib.hid hpR
          clear hpR
          go_wp2_with fail
          have R3 := HEL.out.fr0 HF03.out
          have hw3 : ∀ g, FX F x g → g < w3.heap.size := fun g hg => by
            have := HF03.out.size
            rcases hg with hg | hg
            · have := (HK.out.fl g hg).2; omega
            · omega
          refine (rreset_calls R3 HWK.out index term hi ht a m c l HR.out.2.2 hmc (HR.out.1.rd.fr0 HF03.out) hw3).mono ?_
          rintro e w4 ⟨cs', rfl, R4, F4⟩
          obtain ⟨mm, hmm⟩ : ∃ mm, resetR k index term l = mm := ⟨_, rfl⟩
          rw [hmm] at R4 ⊢
          have HR4 := Lib.hid R4
          obtain ⟨vs7, ve7, rfl, hs7, he7⟩ := R4
          have hq1 := hs7.one
          have hq2 := he7.one
          have HF4 := Lib.hid F4
          have HMM := Lib.hid hmm
          clear R3 hs7 he7 F4 hmm f0 f1 f2 f3 f4 f5
          dsimp only
          go_upto_region 12 with (first
            | (refine wpList_allocZ rfl 39 rfl zR rkeep_zero ?_; intro wA BA FA SA; have HBA := Lib.hid BA; have HFA := Lib.hid FA; clear BA FA SA)
            | (refine wpList_storeB rfl 39 _ _ rfl w4.heap.size 0 (refC mm.2 vs7 ve7) (by rfl) (by rfl) 39 _ HBA.out (by simp [refC, zR]) (by exact rkeep_size) (refC_one hq1 hq2) ?_; intro w5 B5 F5 S5; rw [splice_all _ _ (by rfl)] at B5; have HB5 := Lib.hid B5; have HF5 := Lib.hid F5; clear B5 F5 S5)
            | fail)
          have hz3 := HF03.out.size
          have hz4 := HF4.out.size
          have f45 : Fr [] w4 w5 := HFA.out.trans HF5.out (fun b hb hlt => by rw [List.mem_singleton.1 hb] at hlt; omega)
          have f05 : Fr [] w w5 := (HF03.out.trans0 HF4.out).trans0 f45
          have hFw : ∀ g, F g → g < w.heap.size := fun g hg => (HK.out.fl g hg).2
          have hxb := HX.out.1.fr f05 (by simp)
          have hob := HO3.out.fr (HF4.out.trans0 f45) (by simp)
          have hn1 : ¬ F w.heap.size := fun h => by have := hFw _ h; omega
          have hn2 : ¬ F w4.heap.size := fun h => by have := hFw _ h; omega
          have r0 : ∀ W, Stp F w5 W → W.cell? ⟨w4.heap.size, 0, none⟩ = some (.int .i64 mm.2.term) := fun W f => HB5.out.keeps f hn2 rfl
          have r1 : ∀ W, Stp F w5 W → W.cell? ⟨w4.heap.size, 1, none⟩ = some (.int .i64 mm.2.vote) := fun W f => HB5.out.keeps f hn2 rfl
          have r2 : ∀ W, Stp F w5 W → W.cell? ⟨w4.heap.size, 2, none⟩ = some (.int .i64 mm.2.base) := fun W f => HB5.out.keeps f hn2 rfl
          have r3 : ∀ W, Stp F w5 W → W.cell? ⟨w4.heap.size, 3, none⟩ = some (.int .i64 mm.2.bt) := fun W f => HB5.out.keeps f hn2 rfl
          have r4 : ∀ W, Stp F w5 W → W.cell? ⟨w4.heap.size, 4, none⟩ = some vs7 := fun W f => HB5.out.keeps f hn2 rfl
          have r5 : ∀ W, Stp F w5 W → W.cell? ⟨w4.heap.size, 5, none⟩ = some ve7 := fun W f => HB5.out.keeps f hn2 rfl
          have rx : ∀ W, Stp F w5 W → W.cell? ⟨x, 1, none⟩ = some (.pointer (some ⟨K, 0, none⟩)) := fun W f => hxb.keeps f hxF rfl
          have p1 : ∀ W, Stp F w5 W → W.cell? ⟨w.heap.size, 1, none⟩ = some (.int .i64 index) := fun W f => hob.keeps f hn1 rfl
          have p2 : ∀ W, Stp F w5 W → W.cell? ⟨w.heap.size, 2, none⟩ = some (.int .i64 term) := fun W f => hob.keeps f hn1 rfl
          have p4 : ∀ W, Stp F w5 W → W.cell? ⟨w.heap.size, 4, none⟩ = some (.slice a m c) := fun W f => hob.keeps f hn1 rfl
          have HF05 := Lib.hid f05
          have hKL := HL.out.reset (i := index) (by omega) ht HR.out.2.1 hb hp hfit
          rw [HKK.out, HMM.out] at hKL
          have HV := Lib.hid hKL
          clear o0 o1 o2 o3 o4 f45 f05 hxb hob hn1 hn2 hKL hFw hw3
          refine wp_region_ord (Stp F w5) [0,1,2,3,4,5,6,7,8,9,10,11,13,12,14,15] [14] [12, 14] [1, 5, 7, 9, 11] mixed15 (by kernel_rfl) ?_
          have hS : Stp F w5 w5.drew := Stp.of (S := []) ((Fr.refl _ _).drew) (by simp)
          have hS0 : Fr [] w5 w5.drew := (Fr.refl _ _).drew
          simp only [pairs, pickN]
          repeat (first | (refine wpO_free ?_ (by rfl) (by rfl) (fun w' => ?_) ?_; rotate_left; (go_simp; rfl); simp only [Act.put, List.setIfInBounds_toArray, List.set_cons_zero, List.set_cons_succ]) | (refine wpO_take ?_ hS (by rfl) (by rfl) (fun w' hw' => ?_) ?_; rotate_left; (go_simp; rfl); simp only [Act.put, List.setIfInBounds_toArray, List.set_cons_zero, List.set_cons_succ]) | (refine wpO_pass (by rfl) ?_; simp only [Act.put, List.setIfInBounds_toArray, List.set_cons_zero, List.set_cons_succ]))
          refine wpO_eff (by rfl) ?_
          have hbw := HW.out.2.1
          have hzd : w5.drew.heap.size = w5.heap.size := rfl
          have hz5 := HF05.out.size
          have hpk := HL.out.kd.now.pack
          have hel9 := HL.out.kd.now.el
          rw [HKK.out] at hpk hel9
          have hra := Dk16.args HW.out.1 HK.out HR.out.1
          have hrd := hra.step (HF05.out.trans0 hS0) (by simp) (X' := F) (fun b hb => .inl hb)
          have HK5 := Lib.hid (HK.out.fr0 (HF05.out.trans0 hS0))
          refine wpList_callC rfl 19 #[.pointer (some ⟨K, 0, none⟩), .int .i64 index, .int .i64 term, .slice a m c] (by first | (go_simp; done) | (go_simp; rfl)) _ (kreset_calls HK5.out (by omega) index term hi ht a m c l HR.out.2.2 hmc hrd HR.out.2.1 HPR.out) ?_
          rintro e w6 ⟨rfl, F', lv', tl', vs', ve', hK', st, hFF⟩
          rw [HV.out.1]
          refine ⟨_, rfl, effQ_keep (Stp.trans hS st (fun b hb => .inl hb)) ?_⟩
          simp only [Act.put, List.setIfInBounds_toArray, List.set_cons_zero, List.set_cons_succ]
          refine wpO_eff (by rfl) ?_
          have f05d := HF05.out.trans0 hS0
          have D6 := (HD.out.step f05d (by simp) (F' := F) (fun b hb => .inl hb)).to st hFF
          have R6 := ((HR4.out.fr0 (HFA.out.trans HF5.out (fun b hb hlt => by rw [List.mem_singleton.1 hb] at hlt; omega))).fr0 hS0).to st hFF
          refine wpList_callC rfl 36 #[.pointer (some ⟨x, 0, none⟩), .agg (refC mm.2 vs7 ve7).toArray, .int .i64 mm.1, .int .i64 mm.1, .bool true] (by first | (go_simp; done) | (go_simp; rfl)) _ (change_calls D6 R6 (fun b hb => (hK'.fl b hb).2) (by omega) mm.1 true) ?_
          rintro e w7 ⟨rfl, D7, F7⟩
          refine ⟨_, rfl, effQ_skip (by decide) ?_⟩
          simp only [Act.put, List.setIfInBounds_toArray, List.set_cons_zero, List.set_cons_succ]
          repeat (first | (refine wpO_free ?_ (by rfl) (by rfl) (fun w' => ?_) ?_; rotate_left; (go_simp; rfl); simp only [Act.put, List.setIfInBounds_toArray, List.set_cons_zero, List.set_cons_succ]) | (refine wpO_take ?_ hS (by rfl) (by rfl) (fun w' hw' => ?_) ?_; rotate_left; (go_simp; rfl); simp only [Act.put, List.setIfInBounds_toArray, List.set_cons_zero, List.set_cons_succ]) | (refine wpO_pass (by rfl) ?_; simp only [Act.put, List.setIfInBounds_toArray, List.set_cons_zero, List.set_cons_succ]))
          refine wpO_nil ?_
          obtain ⟨k0', rs', v3, v4⟩ := HV.out.2.2
          rw [HV.out.2.1, v3] at hK'
          have HE := Lib.hid (Dk16.close HW.out HK.out hK' (Stp.trans (Stp.of f05d (by simp)) st (fun b hb => .inl hb)) v4 D7 F7)
          clear hS hS0 hK' st hFF D6 R6 D7 F7 v3 v4 f05d r0 r1 r2 r3 r4 r5 rx p1 p2 p4 hra hrd
          go_wp2_with fail
          go_meet
          exact ⟨rfl, HE.out⟩
        · have b2 : (kind == 2) = false := by simp [k2]
          have HD3 := Lib.hid (HDK.out.fr0 HF03.out)
          by_cases k3 : kind = 3
          · subst k3
            have cx1 : w3.cell? ⟨x, 1, none⟩ = some (.pointer (some ⟨K, 0, none⟩)) := (HX.out.1.fr HF03.out (by simp)).cellAt rfl
            go_wp2_with fail
            refine (ksync_calls (HK.out.fr0 HF03.out)).mono ?_
            rintro e w4 ⟨rfl, F', lv', tl', vs', ve', hK', st, hFF⟩
            have hbw := HW.out.2.1
            have D4 := (HD.out.step HF03.out (by simp) (F' := F) (fun b hb => .inl hb)).to st hFF
            obtain ⟨a5, c5, css5, hb5, hr5, hl5, hm5, hx5⟩ := D4
            have hdr : lst.drop j = [k] := by
              have hlt : j < lst.length := by have := HJ.out; omega
              have h1 := HGET.out
              rw [List.getElem?_eq_getElem hlt, Option.some.injEq] at h1
              rw [List.drop_eq_getElem_cons hlt, h1, List.drop_eq_nil_of_le (by have := HJ.out; omega)]
            obtain ⟨aR, hRR, hsl⟩ := slice_lK (P := Try.prog) Try.underlying28 rkeep_size a5 (j + 1) c5 j (j : Int) rfl (by omega) (by have := HJ.out; omega)
            rw [show j + 1 - j = 1 by omega] at hsl
            obtain ⟨c6, hc6⟩ : ∃ c6, c5 - j = c6 := ⟨_, rfl⟩
            rw [hc6] at hsl
            have hrow := hr5.dropN j (hRR w4 _ _ hr5.rd (by rw [flat_length id 6 _ hr5.all, hr5.len, HJ.out]))
            rw [hdr] at hrow
            rw [HJ.out] at hb5 hl5
            have HB5 := Lib.hid hb5
            have HROW := Lib.hid (And.intro hrow (And.intro (show 1 ≤ c6 by omega) (show c6 ≤ maxLen by omega)))
            have HK4 := Lib.hid hK'
            have HST := Lib.hid st
            have dx : ∀ W, Fr [] w4 W → W.cell? ⟨x, 2, none⟩ = some (.slice a5 (j + 1) c5) := fun W f => (HB5.out.fr f (by simp)).cellAt rfl
            have j1 : IntKind.i64.wrap ((j : Int) + 1 - 1) = (j : Int) := by rw [show (j : Int) + 1 - 1 = j by omega]; exact IntWalk.i64_in _ (by omega)
            have j2 : IntKind.i64.wrap (j : Int) = (j : Int) := IntWalk.i64_in _ (by omega)
            clear hb5 hr5 hrow hRR hc6 hl5 hm5 hdr hK' st hFF cx1 o0 o1 o2 o3 o4 f0 f1 f2 f3 f4 f5
            dsimp only
            go_upto_region 15 with fail
            refine wp_region_ord (Fr [] w4) (List.range 15) [14] [14] [4, 8] mixed15 (by kernel_rfl) ?_
            have hS : Fr [] w4 w4.drew := (Fr.refl _ _).drew
            simp only [pairs, pickN, List.range, List.range.loop]
            repeat (first | (refine wpO_free ?_ (by rfl) (by rfl) (fun w' => ?_) ?_; rotate_left; (go_simp; rfl); simp only [Act.put, List.setIfInBounds_toArray, List.set_cons_zero, List.set_cons_succ]) | (refine wpO_take ?_ hS (by rfl) (by rfl) (fun w' hw' => ?_) ?_; rotate_left; (go_simp; rfl); simp only [Act.put, List.setIfInBounds_toArray, List.set_cons_zero, List.set_cons_succ]) | (refine wpO_pass (by rfl) ?_; simp only [Act.put, List.setIfInBounds_toArray, List.set_cons_zero, List.set_cons_succ]))
            refine wpO_eff (by rfl) ?_
            refine wpList_store1 rfl 28 _ _ rfl x 2 (.slice aR 1 c6) (by rfl) (by rfl) rfl 30 _ (HB5.out.fr hS (by simp)) (by simp) (by kernel_rfl) rfl ?_
            intro w6 B6 F6 S6
            refine effQ_skip (by decide) (wpO_nil ?_)
            simp only [Act.put, List.setIfInBounds_toArray, List.set_cons_zero, List.set_cons_succ]
            have hFx : Fr [x] w4 w6 := hS.ext.trans1 F6
            have hSx : ∀ b ∈ [x], FX F' x b ∨ w4.heap.size ≤ b := fun b hb => .inl (.inr (List.mem_singleton.1 hb))
            have hlast : DeskL w6 F' x p K [k] := ⟨aR, c6, _, B6, HROW.out.1.step hFx hSx (fun b hb => .inl hb) (fun cs t h => h.step hFx hSx (fun b hb => .inl hb)), HROW.out.2.1, HROW.out.2.2, hx5⟩
            have hLs := HL.out.sync
            have hK4 := HK4.out
            rw [← HKK.out] at hK4 hlast
            have HE := Lib.hid ((Dk16.close HW.out HK.out hK4 (Stp.trans (Stp.of HF03.out (by simp)) HST.out (fun b hb => .inl hb)) hLs hlast hFx).more (B' := B + b) (N' := N + 1) (by omega) (by omega))
            clear B6 F6 S6 hS hlast hFx dx hLs hK4
            go_wp2_with fail
            go_meet
            exact ⟨rfl, HE.out⟩
          · have b3 : (kind == 3) = false := by simp [k3]
            by_cases k4 : kind = 4
            · subst k4
              by_cases hv0 : 0 ≤ vote
              · go_wp2_with fail
                all_goals first
                  | (exfalso; omega)
                  | (refine (dcrash_calls HD3.out (by omega) (by omega) vote hv0).mono ?_
                     rintro e w4 ⟨rfl, H4⟩
                     have HE := Lib.hid (H4.more (B' := B + b) (N' := N + 1) (by omega) (Nat.le_refl _))
                     clear H4
                     dsimp only
                     go_wp2_with fail
                     go_meet
                     exact ⟨rfl, HE.out⟩)
              · go_wp2_with fail
                all_goals first
                  | (exfalso; omega)
                  | (refine (dcrash_calls HD3.out (by omega) (by omega) 0 (by omega)).mono ?_
                     rintro e w4 ⟨rfl, H4⟩
                     have HE := Lib.hid (H4.more (B' := B + b) (N' := N + 1) (by omega) (Nat.le_refl _))
                     clear H4
                     dsimp only
                     go_wp2_with fail
                     go_meet
                     exact ⟨rfl, HE.out⟩)
            · have b4 : (kind == 4) = false := by simp [k4]
              have HE := Lib.hid (HD3.out.more (B' := B + b) (N' := N + 1) (by omega) (by omega))
              go_wp2_with fail
              go_meet
              exact ⟨rfl, HE.out⟩
  obtain ⟨rfl, hc⟩ := hcut
  have HC := Lib.hid hc
  clear HDK HD HW HK HL HKK HR HX HRG HEL HGET HB1 HF1 HX1 HB3 HF3 HF03 HO3 HJ o0 o1 o2 o3 o4 f0 f1 f2 f3 f4 f5
  obtain ⟨K', k0', rs', lst', F', base', bb', q', lv', tl', vs', ve', d', s', hW, hK, hL, hD⟩ := hc
  have hlast := hL.last
  have hll' := hL.len
  have hxF' := hD.not
  have hxw' := hD.blk
  obtain ⟨al', cl', css', hbx, hrow, hlc, hcm', _⟩ := hD
  obtain ⟨k', hk⟩ : ∃ k, runK k0' rs' = k := ⟨_, rfl⟩
  have hsm := hL.kd.now
  rw [hk] at hlast hK hsm
  obtain ⟨j', hj⟩ : ∃ j : Nat, lst'.length = j + 1 := by
    cases lst' with
    | nil => cases hlast
    | cons y r => exact ⟨r.length, rfl⟩
  have hget : lst'[j']? = some k' := by
    rw [List.getLast?_eq_getElem?] at hlast
    rw [show j' = lst'.length - 1 by omega]
    exact hlast
  obtain ⟨g', o', cs9, ea, hg', hgX', hcl', hel9, hrg⟩ := hrow.get (by decide) hget
  have HEL := Lib.hid hel9
  obtain ⟨vs9, ve9, rfl, hs9, he9⟩ := hel9
  subst ea
  have cx1 : wc.cell? ⟨x, 1, none⟩ = some (.pointer (some ⟨K', 0, none⟩)) := hbx.cellAt rfl
  have HK := Lib.hid hK
  have HX := Lib.hid (And.intro hbx hrg)
  have HS := Lib.hid hsm
  have j1 : IntKind.i64.wrap ((lst'.length : Int) - 1) = (j' : Int) := by rw [hj, show ((j' + 1 : Nat) : Int) - 1 = (j' : Int) by omega]; exact IntWalk.i64_in _ (by omega)
  have kb : (j' : Int) < (lst'.length : Int) := by omega
  have kb0 : (0 : Int) ≤ (j' : Int) := by omega
  have hel5 : k'.es.length ≤ 5000 := by have := hsm.el; omega
  clear hW hK hL hlast hrow hget hs9 he9 hsm hbx hrg hk hj
  go_wp2_with fail
  refine (now_calls (Y' := FX F' x) HK.out.rd hel5 (fun b hb => by
    rcases hb with hb | hb
    · exact (HK.out.fl b hb).2
    · omega)).mono ?_
  rintro e w4 ⟨cs4, rfl, hR4, F4⟩
  have HR4 := Lib.hid hR4
  obtain ⟨vs4, ve4, rfl, hs4, he4⟩ := hR4
  have ho1 := hs4.one
  have ho2 := he4.one
  have HF4 := Lib.hid F4
  clear hs4 he4 F4 cx1
  dsimp only
  go_upto_region 19 with (first
    | (refine wpList_allocZ rfl 39 rfl zR rkeep_zero ?_; intro wA BA FA SA; have HBA := Lib.hid BA; have HFA := Lib.hid FA; clear BA FA SA)
    | (refine wpList_storeB rfl 39 _ _ rfl w4.heap.size 0 (refC k' vs4 ve4) (by rfl) (by rfl) 39 _ HBA.out (by simp [refC, zR]) (by exact rkeep_size) (refC_one ho1 ho2) ?_; intro w5 B5 F5 S5; rw [splice_all _ _ (by rfl)] at B5; have HB5 := Lib.hid B5; have HF5 := Lib.hid F5; clear B5 F5 S5)
    | fail)
  have f45 : Fr [] w4 w5 := HFA.out.trans HF5.out (fun b hb hlt => by rw [List.mem_singleton.1 hb] at hlt; omega)
  have fc5 : Fr [] wc w5 := HF4.out.trans0 f45
  have HFC := Lib.hid fc5
  have HR5 := Lib.hid (HR4.out.fr0 f45)
  have hxb := HX.out.1.fr fc5 (by simp)
  have r0 : ∀ W, Fr [] w5 W → W.cell? ⟨w4.heap.size, 0, none⟩ = some (.int .i64 k'.term) := fun W f => (HB5.out.fr f (by simp)).cellAt rfl
  have r1 : ∀ W, Fr [] w5 W → W.cell? ⟨w4.heap.size, 1, none⟩ = some (.int .i64 k'.vote) := fun W f => (HB5.out.fr f (by simp)).cellAt rfl
  have r2 : ∀ W, Fr [] w5 W → W.cell? ⟨w4.heap.size, 2, none⟩ = some (.int .i64 k'.base) := fun W f => (HB5.out.fr f (by simp)).cellAt rfl
  have r3 : ∀ W, Fr [] w5 W → W.cell? ⟨w4.heap.size, 3, none⟩ = some (.int .i64 k'.bt) := fun W f => (HB5.out.fr f (by simp)).cellAt rfl
  have r4 : ∀ W, Fr [] w5 W → W.cell? ⟨w4.heap.size, 4, none⟩ = some vs4 := fun W f => (HB5.out.fr f (by simp)).cellAt rfl
  have r5 : ∀ W, Fr [] w5 W → W.cell? ⟨w4.heap.size, 5, none⟩ = some ve4 := fun W f => (HB5.out.fr f (by simp)).cellAt rfl
  have dx : ∀ W, Fr [] w5 W → W.cell? ⟨x, 2, none⟩ = some (.slice (some ⟨g', o', none⟩) lst'.length cl') := fun W f => (hxb.fr f (by simp)).cellAt rfl
  have e0 : ∀ W, Fr [] w5 W → W.cell? ⟨g', o' + j' * 6, none⟩ = some (.int .i64 k'.term) := fun W f => rangeAt_fr HX.out.2 (HFC.out.trans0 f) (by simp) 0 _ rfl
  have e1 : ∀ W, Fr [] w5 W → W.cell? ⟨g', o' + j' * 6 + 1, none⟩ = some (.int .i64 k'.vote) := fun W f => rangeAt_fr HX.out.2 (HFC.out.trans0 f) (by simp) 1 _ rfl
  have e2 : ∀ W, Fr [] w5 W → W.cell? ⟨g', o' + j' * 6 + 2, none⟩ = some (.int .i64 k'.base) := fun W f => rangeAt_fr HX.out.2 (HFC.out.trans0 f) (by simp) 2 _ rfl
  have e3 : ∀ W, Fr [] w5 W → W.cell? ⟨g', o' + j' * 6 + 3, none⟩ = some (.int .i64 k'.bt) := fun W f => rangeAt_fr HX.out.2 (HFC.out.trans0 f) (by simp) 3 _ rfl
  have e4 : ∀ W, Fr [] w5 W → W.cell? ⟨g', o' + j' * 6 + 4, none⟩ = some vs9 := fun W f => rangeAt_fr HX.out.2 (HFC.out.trans0 f) (by simp) 4 _ rfl
  have e5 : ∀ W, Fr [] w5 W → W.cell? ⟨g', o' + j' * 6 + 5, none⟩ = some ve9 := fun W f => rangeAt_fr HX.out.2 (HFC.out.trans0 f) (by simp) 5 _ rfl
  clear f45 fc5 hxb
  refine wp_region_ord (Fr [] w5) (List.range 21) [] [18] [5, 9, 13, 17] mixed15 (by kernel_rfl) ?_
  have hS : Fr [] w5 w5.drew := (Fr.refl _ _).drew
  simp only [pairs, pickN, List.range, List.range.loop]
  repeat (first | (refine wpO_free ?_ (by rfl) (by rfl) (fun w' => ?_) ?_; rotate_left; (go_simp; rfl); simp only [Act.put, List.setIfInBounds_toArray, List.set_cons_zero, List.set_cons_succ]) | (refine wpO_take ?_ hS (by rfl) (by rfl) (fun w' hw' => ?_) ?_; rotate_left; (go_simp; rfl); simp only [Act.put, List.setIfInBounds_toArray, List.set_cons_zero, List.set_cons_succ]) | (refine wpO_pass (by rfl) ?_; simp only [Act.put, List.setIfInBounds_toArray, List.set_cons_zero, List.set_cons_succ]))
  refine wpO_eff (by rfl) ?_
  refine wpList_callW (by rfl) 15 #[.agg (refC k' vs4 ve4).toArray, .agg (refC k' vs9 ve9).toArray] (by first | (go_simp; done) | (go_simp; exact ⟨rfl, rfl⟩) | (go_simp; rfl)) _ (rsame_calls (HR5.out.fr0 hS) (HEL.out.fr0 (HFC.out.trans0 hS)) HS.out.wf HS.out.wf) ?_
  rintro e w6 ⟨rfl, F6⟩
  have hS6 := hS.trans0 F6
  refine ⟨_, rfl, effQ_keep hS6 ?_⟩
  rw [show decide (k' = k') = true from by simp]
  simp only [Act.put, List.setIfInBounds_toArray, List.set_cons_zero, List.set_cons_succ]
  repeat (first | (refine wpO_free ?_ (by rfl) (by rfl) (fun w' => ?_) ?_; rotate_left; (go_simp; rfl); simp only [Act.put, List.setIfInBounds_toArray, List.set_cons_zero, List.set_cons_succ]) | (refine wpO_take ?_ hS (by rfl) (by rfl) (fun w' hw' => ?_) ?_; rotate_left; (go_simp; rfl); simp only [Act.put, List.setIfInBounds_toArray, List.set_cons_zero, List.set_cons_succ]) | (refine wpO_pass (by rfl) ?_; simp only [Act.put, List.setIfInBounds_toArray, List.set_cons_zero, List.set_cons_succ]))
  refine wpO_nil ?_
  have HE := Lib.hid (HC.out.fr0 (HFC.out.trans0 hS6))
  clear hS hS6 F6 r0 r1 r2 r3 r4 r5 e0 e1 e2 e3 e4 e5 dx
  go_wp2_with fail
  go_ret
  exact ⟨rfl, HE.out⟩
end Go.Fur
namespace Go.Fur
open Go Go.RowKit Go.Proofs
set_option linter.unusedVariables false
theorem Dk16.new {W w w1 : World} {n p K M g x : Nat} (h : OnNew W n p K M w) (hM : M ≤ g) (f : Fr [] w w1) (hg : Blk w1 g 39 (refC KP.new (.slice none 0 0) (.slice none 0 0))) (hx : Blk w1 x 30 [.pointer (some ⟨p, 0, none⟩), .pointer (some ⟨K, 0, none⟩), .slice (some ⟨g, 0, none⟩) 1 1]) (hxW : w.heap.size ≤ x) : Dk16 W n 0 0 x p w1 := by
  obtain ⟨F, base, bb, q, lv, tl, vs, ve, d, s, hb1, hb2, hK, hP, hs, hF, hFM⟩ := h
  have hz := f.size
  have hz2 := hF.size
  have hxF : ¬ F x := fun hf => by have := (hK.fl x hf).2; omega
  have hgx : g ≠ x := hg.ne hx (by decide)
  refine ⟨K, KP.new, [], [KP.new], F, base, bb, q, lv, tl, vs, ve, d, s, ⟨hb1, by omega, by omega, hF.trans0 f⟩, hK.fr0 f, KdL.one hP hs, ?_⟩
  exact ⟨_, 1, _, hx, RowA.single hg (fun hy => by
    rcases hy with hy | hy
    · have := hFM g hy; omega
    · exact hgx hy) (RefL.nil w1 _) rfl, by simp, by simp only [maxLen]; omega, hxF⟩
end Go.Fur
namespace Go.Fur
open Go Go.RowKit Go.Proofs
set_option linter.unusedVariables false
set_option linter.unusedSimpArgs false
/-- The blocks of Z stay. -/
def Keeps (Z : Nat → Prop) (w w' : World) : Prop := ∃ S, Fr S w w' ∧ ∀ b ∈ S, ¬ Z b
theorem Keeps.of {F Z : Nat → Prop} {w w' : World} (st : Stp F w w') (hF : ∀ b, F b → ¬ Z b) (hZ : ∀ b, Z b → b < w.heap.size) : Keeps Z w w' := by
  obtain ⟨T, f, hT⟩ := st
  refine ⟨T, f, fun b hb hz => ?_⟩
  rcases hT b hb with h | h
  · exact hF b h hz
  · have := hZ b hz; omega
theorem Keeps.fr0 {Z : Nat → Prop} {w w' : World} (f : Fr [] w w') : Keeps Z w w' := ⟨[], f, by simp⟩
theorem Keeps.trans {Z : Nat → Prop} {a b c : World} (h : Keeps Z a b) (k : Keeps Z b c) : Keeps Z a c := by
  obtain ⟨S, f, hS⟩ := h
  obtain ⟨T, g, hT⟩ := k
  refine ⟨S ++ T, (f.mono (fun x hx _ => List.mem_append_left _ hx)).trans g (fun x hx _ => List.mem_append_right _ hx), fun x hx => ?_⟩
  rcases List.mem_append.1 hx with hx | hx
  · exact hS x hx
  · exact hT x hx
theorem Keeps.less {Z Z' : Nat → Prop} {w w' : World} (h : Keeps Z w w') (hZ : ∀ b, Z' b → Z b) : Keeps Z' w w' := by
  obtain ⟨S, f, hS⟩ := h
  exact ⟨S, f, fun b hb hz => hS b hb (hZ b hz)⟩
theorem Keeps.size {Z : Nat → Prop} {w w' : World} (h : Keeps Z w w') : w.heap.size ≤ w'.heap.size := by
  obtain ⟨S, f, hS⟩ := h
  exact f.size
theorem Blk.stays {Z : Nat → Prop} {w w' : World} {g : Nat} {t : TypeId} {cs : List Value} (h : Blk w g t cs) (f : Keeps Z w w') (hg : Z g) : Blk w' g t cs := by
  obtain ⟨S, f, hS⟩ := f
  exact h.fr f (fun hm => hS g hm hg)
theorem RefL.keeps {Z X : Nat → Prop} {w w' : World} {cs : List Value} {k : KP} (h : RefL w X cs k) (f : Keeps Z w w') (hX : ∀ b, ¬ Z b → X b ∨ w.heap.size ≤ b) : RefL w' X cs k := by
  obtain ⟨S, f, hS⟩ := f
  exact h.step f (fun b hb => hX b (hS b hb)) (fun b hb => .inl hb)
/-- A keep at K on the disk p; the blocks of Z aren't its own; lst: what a crash may leave. -/
def Kd (W : World) (Z : Nat → Prop) (n B N p K : Nat) (k : KP) (lst : List KP) (w : World) : Prop :=
  ∃ F base bb q lv tl vs ve d s k0 rs, (W.heap.size ≤ base ∧ base ≤ w.heap.size ∧ Fr [] W w) ∧ (∀ b, F b → ¬ Z b) ∧ (∀ b, Z b → b < w.heap.size) ∧ KpAt w F base K p bb q lv tl vs ve d s k ∧ k = runK k0 rs ∧ KdL n B N d s k0 rs lst
theorem Kd.fr {W : World} {Z : Nat → Prop} {n B N p K : Nat} {k : KP} {lst : List KP} {w : World} (h : Kd W Z n B N p K k lst w) : Fr [] W w := by
  obtain ⟨F, base, bb, q, lv, tl, vs, ve, d, s, k0, rs, h1, h2, h3, h4, h5, h6⟩ := h
  exact h1.2.2
theorem Kd.small {W : World} {Z : Nat → Prop} {n B N p K : Nat} {k : KP} {lst : List KP} {w : World} (h : Kd W Z n B N p K k lst w) : Small B N k := by
  obtain ⟨F, base, bb, q, lv, tl, vs, ve, d, s, k0, rs, h1, h2, h3, h4, rfl, h6⟩ := h
  exact h6.kd.now
theorem Kd.rd {W : World} {Z : Nat → Prop} {n B N p K : Nat} {k : KP} {lst : List KP} {w : World} (h : Kd W Z n B N p K k lst w) : ∃ Y q vs ve, KpRd w Y K q vs ve k := by
  obtain ⟨F, base, bb, q, lv, tl, vs, ve, d, s, k0, rs, h1, h2, h3, h4, rfl, h6⟩ := h
  exact ⟨_, _, _, _, h4.rd⟩
/-- Blocks that were there, and aren't the keep's own, may be turned. -/
theorem Kd.turned {W : World} {Z : Nat → Prop} {n B N p K : Nat} {k : KP} {lst : List KP} {w w' : World} {S : List Nat} (h : Kd W Z n B N p K k lst w) (f : Fr S w w') (hS : ∀ b ∈ S, Z b ∧ W.heap.size ≤ b) : Kd W Z n B N p K k lst w' := by
  obtain ⟨F, base, bb, q, lv, tl, vs, ve, d, s, k0, rs, h1, h2, h3, h4, rfl, h6⟩ := h
  have := f.size
  exact ⟨F, base, bb, q, lv, tl, vs, ve, d, s, k0, rs, ⟨h1.1, by omega, h1.2.2.trans f (fun b hb hlt => by have := (hS b hb).2; omega)⟩, h2, fun b hb => by have := h3 b hb; omega, h4.fr f (fun b hb hF => h2 b hF (hS b hb).1), rfl, h6⟩
theorem Kd.fr0 {W : World} {Z : Nat → Prop} {n B N p K : Nat} {k : KP} {lst : List KP} {w w' : World} (h : Kd W Z n B N p K k lst w) (f : Fr [] w w') : Kd W Z n B N p K k lst w' := h.turned f (by simp)
theorem Kd.wide {W : World} {Z : Nat → Prop} {n B N p K : Nat} {k : KP} {lst : List KP} {w w' : World} (h : Kd W Z n B N p K k lst w) (f : Fr [] w w') : Kd W (fun b => Z b ∨ (w.heap.size ≤ b ∧ b < w'.heap.size)) n B N p K k lst w' := by
  obtain ⟨F, base, bb, q, lv, tl, vs, ve, d, s, k0, rs, h1, h2, h3, h4, rfl, h6⟩ := h
  have := f.size
  refine ⟨F, base, bb, q, lv, tl, vs, ve, d, s, k0, rs, ⟨h1.1, by omega, h1.2.2.trans0 f⟩, fun b hb hz => ?_, fun b hb => ?_, h4.fr0 f, rfl, h6⟩
  · rcases hz with hz | hz
    · exact h2 b hb hz
    · have := (h4.fl b hb).2; omega
  · rcases hb with hb | hb
    · have := h3 b hb; omega
    · exact hb.2
theorem Kd.less {W : World} {Z Z' : Nat → Prop} {n B N p K : Nat} {k : KP} {lst : List KP} {w : World} (h : Kd W Z n B N p K k lst w) (hZ : ∀ b, Z' b → Z b) : Kd W Z' n B N p K k lst w := by
  obtain ⟨F, base, bb, q, lv, tl, vs, ve, d, s, k0, rs, h1, h2, h3, h4, rfl, h6⟩ := h
  exact ⟨F, base, bb, q, lv, tl, vs, ve, d, s, k0, rs, h1, fun b hb hz => h2 b hb (hZ b hz), fun b hb => h3 b (hZ b hb), h4, rfl, h6⟩
theorem Kd.new {w w' : World} {n p K M : Nat} (h : OnNew w n p K M w') : Kd w (fun _ => False) n 0 0 p K KP.new [KP.new] w' := by
  obtain ⟨F, base, bb, q, lv, tl, vs, ve, d, s, hb1, hb2, hK, hP, hs, hF, hFM⟩ := h
  exact ⟨F, base, bb, q, lv, tl, vs, ve, d, s, KP.new, [], ⟨hb1, hb2, hF⟩, fun _ _ h => h, fun _ h => h.elim, hK, rfl, KdL.one hP hs⟩
theorem Kd.more {W : World} {Z : Nat → Prop} {n B N B' N' p K : Nat} {k : KP} {lst : List KP} {w : World} (h : Kd W Z n B N p K k lst w) (hB : B ≤ B') (hN : N ≤ N') : Kd W Z n B' N' p K k lst w := by
  obtain ⟨F, base, bb, q, lv, tl, vs, ve, d, s, k0, rs, h1, h2, h3, h4, rfl, h6⟩ := h
  exact ⟨F, base, bb, q, lv, tl, vs, ve, d, s, k0, rs, h1, h2, h3, h4, rfl, h6.more hB hN⟩
theorem Kd.turn {W w w' : World} {Z : Nat → Prop} {n B N p K K' : Nat} {F F' : Nat → Prop} {base bb bb' q q' : Nat} {lv tl vs ve lv' tl' vs' ve' : Value} {d d' : D} {s s' : St} {k k' k0' : KP} {rs' : List RecK} {lst' : List KP}
    (hW : W.heap.size ≤ base ∧ base ≤ w.heap.size ∧ Fr [] W w) (hFZ : ∀ b, F b → ¬ Z b) (hZ : ∀ b, Z b → b < w.heap.size) (hK : KpAt w F base K p bb q lv tl vs ve d s k) (hK' : KpAt w' F' base K' p bb' q' lv' tl' vs' ve' d' s' k') (st : Stp F w w') (hFF : ∀ b, F' b → F b ∨ w.heap.size ≤ b)
    (hk : k' = runK k0' rs') (hL : KdL n B N d' s' k0' rs' lst') : Kd W Z n B N p K' k' lst' w' ∧ Keeps Z w w' := by
  have hz := st.size
  refine ⟨⟨F', base, bb', q', lv', tl', vs', ve', d', s', k0', rs', ⟨hW.1, by omega, stp_fr hW.2.2 st (fun b hb => by have := (hK.fl b hb).1; omega)⟩, fun b hb hz => ?_, fun b hb => by have := hZ b hb; omega, hK', hk, hL⟩, Keeps.of st hFZ hZ⟩
  rcases hFF b hb with h | h
  · exact hFZ b h hz
  · have := hZ b hz; omega
theorem Kd.vote {W w0 w : World} {Z : Nat → Prop} {n B N p K : Nat} {k : KP} {lst : List KP} (h : Kd W Z n B N p K k lst w0) (f : Fr [] w0 w) (hN : N ≤ 100000) (hB : B ≤ 1000000) (hfit : 2 * B + 100 * (N + 1) + 100 ≤ (n - 2) / 2 * 55) (t v : Int) (ht : I64 t) (hv : I64 v) :
    Calls Try.prog 9 #[.pointer (some ⟨K, 0, none⟩), .int .i64 t, .int .i64 v] w fun e w' => e = .returned (.int .i64 (voteE k t v).1) ∧ Kd W Z n B (N + 1) p K (voteE k t v).2 (chgL lst (voteE k t v).2 (voteE k t v).1 false) w' ∧ Keeps Z w w' := by
  have hz := f.size
  obtain ⟨F, base, bb, q, lv, tl, vs, ve, d, s, k0, rs, ⟨hb1, hb2, fW⟩, hFZ, hZ, hK, rfl, hL⟩ := h
  obtain ⟨a1, a2, rs', a3, a4⟩ := hL.vote hN hfit ht hv
  refine (kvote_calls (hK.fr0 f) (by omega) hL.kd.bud hN (by have := hL.kd.now.pack; omega) t v ht hv).mono ?_
  rintro e w' ⟨rfl, F', lv', tl', vs', ve', hK', st, hFF⟩
  rw [a2] at hK'
  exact ⟨by rw [a1], Kd.turn ⟨hb1, by omega, fW.trans0 f⟩ hFZ (fun b hb => by have := hZ b hb; omega) (hK.fr0 f) hK' st hFF a3 a4⟩
theorem Kd.args {W w0 w : World} {Z F : Nat → Prop} {base : Nat} (hb : W.heap.size ≤ base) (hFZ : ∀ b, F b → ¬ Z b) (hF : ∀ b, F b → base ≤ b ∧ b < w0.heap.size) {a : Option Addr} {cs : List Value} (hr : RdA w (fun b => ¬ Z b ∧ W.heap.size ≤ b ∧ b < w0.heap.size) a cs) : RdA w F a cs :=
  hr.step (Fr.refl [] w) (by simp) (fun b h => .inl ⟨hFZ b h, by have := (hF b h).1; omega, (hF b h).2⟩)
theorem Kd.put {W w0 w : World} {Z : Nat → Prop} {n B N b p K : Nat} {k : KP} {lst : List KP} (h : Kd W Z n B N p K k lst w0) (f : Fr [] w0 w) (hN : N ≤ 100000) (hB : B ≤ 1000000) (i t : Int) (hi : I64 i) (ht : I64 t)
    (a : Option Addr) (m c : Nat) (l : List Int) (hm : l.length = m) (hmc : m ≤ maxLen) (hr : RdA w (fun b => ¬ Z b ∧ W.heap.size ≤ b ∧ b < w0.heap.size) a (bv l)) (hl : Byt l) (hb : min l.length 300000 ≤ b) (hfit : 2 * (B + b) + 100 * (N + 1) + 100 ≤ (n - 2) / 2 * 55) :
    Calls Try.prog 10 #[.pointer (some ⟨K, 0, none⟩), .int .i64 i, .int .i64 t, .slice a m c] w fun e w' => e = .returned (.int .i64 (putR k i t l).1) ∧ Kd W Z n (B + b) (N + 1) p K (putR k i t l).2 (chgL lst (putR k i t l).2 (putR k i t l).1 false) w' ∧ Keeps Z w w' := by
  have hz := f.size
  obtain ⟨F, base, bb, q, lv, tl, vs, ve, d, s, k0, rs, ⟨hb1, hb2, fW⟩, hFZ, hZ, hK, rfl, hL⟩ := h
  obtain ⟨a1, a2, rs', a3, a4⟩ := hL.put (i := i) hN ht hl hb hfit
  have hel := hL.kd.now.el
  refine (kput_calls (hK.fr0 f) (by omega) hL.kd.bud hN (by have := hL.kd.now.pack; omega) (by omega) i t hi ht a m c l hm hmc (Kd.args hb1 hFZ hK.fl hr) hl).mono ?_
  rintro e w' ⟨rfl, F', lv', tl', vs', ve', hK', st, hFF⟩
  rw [a2] at hK'
  exact ⟨by rw [a1], Kd.turn ⟨hb1, by omega, fW.trans0 f⟩ hFZ (fun b hb => by have := hZ b hb; omega) (hK.fr0 f) hK' st hFF a3 a4⟩
theorem Kd.reset {W w0 w : World} {Z : Nat → Prop} {n B N b p K : Nat} {k : KP} {lst : List KP} (h : Kd W Z n B N p K k lst w0) (f : Fr [] w0 w) (hN : N ≤ 100000) (i t : Int) (hi : I64 i) (ht : I64 t)
    (a : Option Addr) (m c : Nat) (l : List Int) (hm : l.length = m) (hmc : m ≤ 300000) (hr : RdA w (fun b => ¬ Z b ∧ W.heap.size ≤ b ∧ b < w0.heap.size) a (bv l)) (hl : Byt l) (hb : min l.length 300000 ≤ b) (hp : B + b + 18 * (N + 1) + 54 ≤ 524288) (hfit : 2 * (B + b) + 100 * (N + 1) + 100 ≤ (n - 2) / 2 * 55) :
    Calls Try.prog 19 #[.pointer (some ⟨K, 0, none⟩), .int .i64 i, .int .i64 t, .slice a m c] w fun e w' => e = .returned (.int .i64 (resetR k i t l).1) ∧ Kd W Z n (B + b) (N + 1) p K (resetR k i t l).2 (chgL lst (resetR k i t l).2 (resetR k i t l).1 true) w' ∧ Keeps Z w w' := by
  have hz := f.size
  obtain ⟨F, base, bb, q, lv, tl, vs, ve, d, s, k0, rs, ⟨hb1, hb2, fW⟩, hFZ, hZ, hK, rfl, hL⟩ := h
  obtain ⟨a1, a2, k0', rs', a3, a4⟩ := hL.reset (i := i) hN ht hl hb hp hfit
  have hpk : (resetE (runK k0 rs) i t l).pack.length ≤ 1000000000 := by
    have h1 := pack_len (resetE (runK k0 rs) i t l)
    have h2 := hL.kd.now.byt
    have h3 := hL.kd.now.el
    have h4 := sum_drop (runK k0 rs).es (i - (runK k0 rs).base).toNat
    have h5 : (resetE (runK k0 rs) i t l).bytes ≤ B + l.length := by
      unfold KP.bytes at h2
      show l.length + ((if keepsE (runK k0 rs) i t then (runK k0 rs).es.drop (i - (runK k0 rs).base).toNat else []).map fun e => e.2.length).sum ≤ _
      split
      · omega
      · simp
    have h6 : (resetE (runK k0 rs) i t l).es.length ≤ N := by
      show (if keepsE (runK k0 rs) i t then (runK k0 rs).es.drop (i - (runK k0 rs).base).toNat else []).length ≤ _
      split
      · rw [List.length_drop]; omega
      · simp
    omega
  refine (kreset_calls (hK.fr0 f) (by omega) i t hi ht a m c l hm (by simp only [maxLen]; omega) (Kd.args hb1 hFZ hK.fl hr) hl hpk).mono ?_
  rintro e w' ⟨rfl, F', lv', tl', vs', ve', hK', st, hFF⟩
  rw [a2] at hK'
  exact ⟨by rw [a1], Kd.turn ⟨hb1, by omega, fW.trans0 f⟩ hFZ (fun b hb => by have := hZ b hb; omega) (hK.fr0 f) hK' st hFF a3 a4⟩
theorem Kd.sync {W w0 w : World} {Z : Nat → Prop} {n B N p K : Nat} {k : KP} {lst : List KP} (h : Kd W Z n B N p K k lst w0) (f : Fr [] w0 w) :
    Calls Try.prog 12 #[.pointer (some ⟨K, 0, none⟩)] w fun e w' => e = .returned (.int .i64 0) ∧ Kd W Z n B N p K k [k] w' ∧ Keeps Z w w' := by
  have hz := f.size
  obtain ⟨F, base, bb, q, lv, tl, vs, ve, d, s, k0, rs, ⟨hb1, hb2, fW⟩, hFZ, hZ, hK, rfl, hL⟩ := h
  refine (ksync_calls (hK.fr0 f)).mono ?_
  rintro e w' ⟨rfl, F', lv', tl', vs', ve', hK', st, hFF⟩
  exact ⟨rfl, Kd.turn ⟨hb1, by omega, fW.trans0 f⟩ hFZ (fun b hb => by have := hZ b hb; omega) (hK.fr0 f) hK' st hFF rfl hL.sync⟩
theorem Kd.now {W w : World} {Z : Nat → Prop} {n B N p K : Nat} {k : KP} {lst : List KP} (h : Kd W Z n B N p K k lst w) (hN : N ≤ 5000) :
    Calls Try.prog 11 #[.pointer (some ⟨K, 0, none⟩)] w fun e w' => ∃ cs, e = .returned (.tuple #[.agg cs.toArray, .bool true]) ∧ RefL w' (fun b => b < w.heap.size) cs k ∧ Fr [] w w' := by
  have hel := h.small.el
  obtain ⟨Y, q, vs, ve, hr⟩ := h.rd
  exact now_calls hr (by omega) (fun b hb => hb)
/-- A crash, and what is open again. -/
theorem Kd.crash {W w0 w : World} {Z : Nat → Prop} {n B N p K : Nat} {k : KP} {lst : List KP} (h : Kd W Z n B N p K k lst w0) (f : Fr [] w0 w) (hN : N ≤ 100000) (hB : B ≤ 1000000) (keep : Int) (hk : 0 ≤ keep) :
    Calls Try.prog 13 #[.pointer (some ⟨p, 0, none⟩), .int .i64 keep] w fun e w1 => e = .returned (.int .i64 0) ∧ Keeps Z w w1 ∧
      ∀ w2, Fr [] w1 w2 → Calls Try.prog 14 #[.pointer (some ⟨p, 0, none⟩)] w2 fun e w3 => ∃ K' k', e = .returned (.tuple #[.pointer (some ⟨K', 0, none⟩), .int .i64 0]) ∧ k' ∈ lst ∧ Kd W Z n B (N + 1) p K' k' [k'] w3 ∧ Keeps Z w2 w3 := by
  have hz := f.size
  obtain ⟨F, base, bb, q, lv, tl, vs, ve, d, s, k0, rs, ⟨hb1, hb2, fW⟩, hFZ, hZ, hK, rfl, hL⟩ := h
  have hK1 := hK.fr0 f
  obtain ⟨rs', hok, hmem, hL'⟩ := hL.lost hK.sto.da.wf hN (by omega) keep.toNat
  refine (crash_calls hK1.sto.da keep hk).mono ?_
  rintro e w1 ⟨rfl, D1, F1⟩
  have hpF : F p := hK.fX p (.inr (.inr (.inl (by simp))))
  have hbF : F bb := hK.fX bb (.inr (.inr (.inl (by simp))))
  have hS1 : ∀ b ∈ [p, bb], F b := fun b hb => by
    simp only [List.mem_cons, List.not_mem_nil, or_false] at hb
    rcases hb with rfl | rfl
    · exact hpF
    · exact hbF
  have hz1 := F1.size
  refine ⟨rfl, ⟨_, F1, fun b hb => hFZ b (hS1 b hb)⟩, fun w2 f12 => ?_⟩
  have hz2 := f12.size
  have D2 := DiskAt.fr0 D1 f12
  refine (kopen_calls (F0 := fun b => b ∈ p :: bb :: ob (.slice none 0 0)) D2 ⟨undo_byt hK.sto.yd _, by simp⟩ hok (fun b hb => hb) (fun b hb => ⟨D2.ge b hb, D2.lt b hb⟩) (by omega)).mono ?_
  rintro e w3 ⟨K2, q2, tl2, vs2, ve2, rfl, hK2, st2⟩
  have hF0 : ∀ b, b ∈ p :: bb :: ob (.slice none 0 0) → F b := fun b hb => by
    simp only [List.mem_cons, ob_nil, List.not_mem_nil, or_false] at hb
    rcases hb with rfl | rfl
    · exact hpF
    · exact hbF
  have hz3 := st2.size
  have fW1 : Fr [] W w2 := (((fW.trans0 f).trans F1 (fun b hb hlt => by have := (hK.fl b (hS1 b hb)).1; omega)).trans0 f12)
  refine ⟨K2, _, rfl, hmem, ⟨_, base, bb, q2, _, tl2, vs2, ve2, _, _, k0, rs', ⟨hb1, by omega, stp_fr fW1 st2 (fun b hb => by have := (hK.fl b (hF0 b hb)).1; omega)⟩, fun b hb hz => ?_, fun b hb => by have := hZ b hb; omega, hK2, rfl, hL'⟩, Keeps.of st2 (fun b hb => hFZ b (hF0 b hb)) (fun b hb => by have := hZ b hb; omega)⟩
  rcases hb with hb | hb
  · exact hFZ b (hF0 b hb) hz
  · have := hZ b hz; omega
theorem Kd.base {W w1 w : World} {Z : Nat → Prop} {n B N p K : Nat} {k : KP} {lst : List KP} (h : Kd w1 Z n B N p K k lst w) (f : Fr [] W w1) : Kd W Z n B N p K k lst w := by
  have := f.size
  obtain ⟨F, base, bb, q, lv, tl, vs, ve, d, s, k0, rs, h1, h2, h3, h4, rfl, h6⟩ := h
  exact ⟨F, base, bb, q, lv, tl, vs, ve, d, s, k0, rs, ⟨by omega, h1.2.1, f.trans0 h1.2.2⟩, h2, h3, h4, rfl, h6⟩
theorem Kd.last {W w : World} {Z : Nat → Prop} {n B N p K : Nat} {k : KP} {lst : List KP} (h : Kd W Z n B N p K k lst w) : k ∈ lst := by
  obtain ⟨F, base, bb, q, lv, tl, vs, ve, d, s, k0, rs, h1, h2, h3, h4, rfl, h6⟩ := h
  exact List.mem_of_getLast? h6.last
end Go.Fur
