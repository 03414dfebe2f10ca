/- disk.Disk: Crash. -/
import Derived.Test.YtmhejgelmmjihaaDisk
namespace Go.Fur
open Go Go.RowKit Go.Proofs
set_option linter.unusedVariables false
set_option linter.unusedSimpArgs false

/-! ### Crash -/
def undo (d : D) (k : Nat) : List (List Int) := (d.loose.drop k).foldr (fun x now => now.set x.1 x.2.1) d.now
theorem undo_length (d : D) (k : Nat) : (undo d k).length = d.now.length := by
  unfold undo
  induction d.loose.drop k with
  | nil => rfl
  | cons x r ih => simpa using ih
theorem undo_all (d : D) (k : Nat) (h : d.loose.length ≤ k) : undo d k = d.now := by
  unfold undo
  rw [List.drop_eq_nil_of_le h]
  rfl
theorem undo_step (d : D) (k : Nat) (x : Nat × List Int × List Int) (h : d.loose[k]? = some x) : undo d k = (undo d (k + 1)).set x.1 x.2.1 := by
  unfold undo
  obtain ⟨hk, hx⟩ := List.getElem?_eq_some_iff.1 h
  rw [List.drop_eq_getElem_cons hk, hx]
  rfl
theorem undo_wf {d : D} (h : d.wf) (k : Nat) : ∀ b ∈ undo d k, b.length = 64 := by
  unfold undo
  have hs : ∀ x ∈ d.loose.drop k, x.2.1.length = 64 := fun x hx => (h.loose x (List.mem_of_mem_drop hx)).2.1
  generalize d.loose.drop k = r at hs ⊢
  induction r with
  | nil => exact h.now
  | cons x r ih =>
    intro b hb
    rcases List.mem_or_eq_of_mem_set hb with hb | rfl
    · exact ih (fun y hy => hs y (by simp [hy])) b hb
    · exact hs x (by simp)
theorem undo_D {d : D} (h : d.wf) (k : Nat) : D.wf ⟨undo d k, d.loose⟩ :=
  ⟨undo_wf h k, fun x hx => by simpa only [undo_length] using h.loose x hx, by simpa only [undo_length] using h.pos, by simpa only [undo_length] using h.max, h.few⟩
def CrashRel (w : World) (base p bb : Nat) (lv : Value) (d : D) (keep : Int) (i : Value) (wr : World) : Prop :=
  ∃ k : Nat, k ≤ d.loose.length ∧ (keep ≤ k ∨ k = d.loose.length) ∧ i = .int .i64 ((k : Int) - 1) ∧ DiskAt wr base p bb lv ⟨undo d k, d.loose⟩ ∧ Fr [bb] w wr
set_option maxRecDepth 100000 in
set_option maxHeartbeats 1000000 in
theorem crash_calls {w : World} {base p bb : Nat} {lv : Value} {d : D} (h : DiskAt w base p bb lv d) (keep : Int) (hk : 0 ≤ keep) :
    Calls Try.prog 36 #[.pointer (some ⟨p, 0, none⟩), .int .i64 keep] w fun e w' => e = .returned (.int .i64 0) ∧
      DiskAt w' base p bb (.slice none 0 0) ⟨undo d keep.toNat, []⟩ ∧ Fr [p, bb] w w' := by
  have h0 : ¬ keep < 0 := by omega
  obtain ⟨la, lc, hlv, hlc, hlm, hlr⟩ := h.hl.form
  have hfew := h.wf.few
  have hlm' : lc ≤ 9223372036854775807 := by simpa only [maxLen] using hlm
  have h2 : w.cell? ⟨p, 1, none⟩ = some (.slice la d.loose.length lc) := by rw [← hlv]; exact h.hp.cellAt (i := 1) rfl
  have HLV := Lib.hid hlv
  have HH := Lib.hid h
  clear hlv h
  go_enter Try.func36, Try.ntmps36
  go_wp2_with fail
  go_loopw [5] (fun i wr => CrashRel w base p bb lv d keep i wr) (fun i _ => (intOf i + 1 - keep).toNat)
  case atStart => exact ⟨d.loose.length, Nat.le_refl _, .inr rfl, rfl, by rw [undo_all d _ (Nat.le_refl _)]; exact HH.out, Fr.refl _ _⟩
  case round =>
    obtain ⟨k, hk1, hk2, rfl, hD, hF⟩ := hrel
    by_cases hlt : keep ≤ (k : Int) - 1
    · obtain ⟨j, rfl⟩ : ∃ j, k = j + 1 := ⟨k - 1, by omega⟩
      obtain ⟨x, hx⟩ : ∃ x, d.loose[j]? = some x := ⟨d.loose[j]'(by omega), List.getElem?_eq_getElem (by omega)⟩
      obtain ⟨hxn, hxw, hxi⟩ := HH.out.wf.loose x (List.mem_of_getElem? hx)
      have hl0 := HH.out.wf
      obtain ⟨hpb, hap⟩ := hD.apart
      have e : (((j + 1 : Nat)) : Int) - 1 = (j : Int) := by omega
      rw [e] at hlt ⊢
      obtain ⟨g, cap, cur, hg1, hg2, hg3, hg4, hg5, hg6, hg7⟩ := hD.hl.blk (by simp only []; omega)
      simp only [] at hg1 hg4 hg7
      obtain ⟨hla, hcap⟩ : la = some ⟨g, 0, none⟩ ∧ lc = cap := by
        have := HLV.out.symm.trans hg1
        simp only [Value.slice.injEq] at this
        exact ⟨this.1, this.2.2⟩
      subst hla hcap
      have hrng : wr.rangeAt g (j * 129) (lv3 x) := by
        have h5 : ((flat lv3 d.loose).drop (j * 129)).take 129 = lv3 x := flat_piece lv3 129 d.loose hl0.lvlen j x hx
        intro q v hq
        have h6 : (flat lv3 d.loose)[j * 129 + q]? = some v := by
          rw [← h5] at hq
          rw [List.getElem?_take] at hq
          split at hq
          · rwa [List.getElem?_drop] at hq
          · cases hq
        rw [← hg7, List.getElem?_take] at h6
        split at h6
        · exact hg3.cellAt h6
        · cases h6
      have c0 : ∀ w', Fr [] wr w' → w'.cell? ⟨p, 0, none⟩ = some (.slice (some ⟨bb, 0, none⟩) d.now.length d.now.length) := fun w' f => by
        have := (hD.hp.fr f (by simp)).cellAt (i := 0) rfl
        simpa only [undo_length] using this
      have c1 : ∀ w', Fr [] wr w' → w'.cell? ⟨p, 1, none⟩ = some (.slice (some ⟨g, 0, none⟩) d.loose.length lc) := fun w' f => by
        rw [← HLV.out]
        exact (hD.hp.fr f (by simp)).cellAt (i := 1) rfl
      have c2 : ∀ w', Fr [] wr w' → w'.cell? ⟨g, j * 129, none⟩ = some (.int .i64 x.1) := fun w' f => by
        have := rangeAt_fr hrng f (by simp) 0 _ rfl
        simpa using this
      have c3 : ∀ w', Fr [] wr w' → w'.rangeAt g (j * 129 + 1) (bv x.2.1) := fun w' f q v hq => by
        have h7 : (lv3 x)[q + 1]? = some v := by
          simp only [lv3, List.getElem?_cons_succ]
          rw [List.getElem?_append_left (List.getElem?_eq_some_iff.1 hq).1]
          exact hq
        have := rangeAt_fr hrng f (by simp) (q + 1) v h7
        rwa [show j * 129 + 1 + q = j * 129 + (q + 1) from by omega]
      have i0 : (0 : Int) ≤ (j : Int) := by omega
      have i1 : (j : Int) < (d.loose.length : Int) := by omega
      have i2 : (0 : Int) ≤ (x.1 : Int) := by omega
      have i3 : (x.1 : Int) < (d.now.length : Int) := by omega
      have hbl : (bv x.2.1).length = 64 := by rw [bv_length]; exact hxw
      have HX := Lib.hid hx
      have HD := Lib.hid hD
      have HB := Lib.hid hbl
      have HF := Lib.hid hF
      clear hx hD hg7 hg1 hg6 hg3 hap hrng hxw hxi hxn hl0 hbl e hF
      go_wp2_with fail
      refine wp_region_ord (Fr [] wr) [0,1,2,3,4,5,6,7,8,9,10,11,12,13,14,15,16,17,18,19,20,21] [21] [21] [3, 7, 11, 15, 19] mixed (by kernel_rfl) ?_
      have hS : Fr [] wr wr.drew := (Fr.refl _ _).drew
      simp only [pairs, pickN]
      repeat (first | (refine wpO_free ?_ (by rfl) (by rfl) (fun w' => ?_) ?_; rotate_left; (go_simp; rfl); simp only [Act.put, List.setIfInBounds_toArray, List.set_cons_zero, List.set_cons_succ]) | (refine wpO_take ?_ hS (by rfl) (by rfl) (fun w' hw' => ?_) ?_; rotate_left; (go_simp; rfl); simp only [Act.put, List.setIfInBounds_toArray, List.set_cons_zero, List.set_cons_succ]) | (refine wpO_pass (by rfl) ?_; simp only [Act.put, List.setIfInBounds_toArray, List.set_cons_zero, List.set_cons_succ]))
      refine wpO_takeY _ hS (by rfl) (yieldsIf_load_mid (by rfl) 61 _ rfl g (j * 129 + 1) rfl (bv x.2.1) _ c3 Try.underlying61 rfl (by rw [HB.out]; exact size_block)) ?_
      simp only [Act.put, List.setIfInBounds_toArray, List.set_cons_zero, List.set_cons_succ]
      repeat (first | (refine wpO_free ?_ (by rfl) (by rfl) (fun w' => ?_) ?_; rotate_left; (go_simp; rfl); simp only [Act.put, List.setIfInBounds_toArray, List.set_cons_zero, List.set_cons_succ]) | (refine wpO_take ?_ hS (by rfl) (by rfl) (fun w' hw' => ?_) ?_; rotate_left; (go_simp; rfl); simp only [Act.put, List.setIfInBounds_toArray, List.set_cons_zero, List.set_cons_succ]) | (refine wpO_pass (by rfl) ?_; simp only [Act.put, List.setIfInBounds_toArray, List.set_cons_zero, List.set_cons_succ]))
      refine wpO_eff (by rfl) ?_
      refine wpList_storeB rfl 61 _ _ rfl bb (x.1 * 64) (bv x.2.1) (by rfl) (by rfl) 61 _ HD.out.hb.drew ?_ (by rw [HB.out]; exact size_block) (bv_one _) ?_
      · have := (HH.out.wf.loose x (List.mem_of_getElem? HX.out)).1
        rw [HB.out, flat_length bv 64 _ (fun b hb => by rw [bv_length]; exact undo_wf HH.out.wf _ b hb), undo_length]
        omega
      intro w6 B6 F6 S6
      rw [flat_splice bv 64 _ (fun b hb => by rw [bv_length]; exact undo_wf HH.out.wf _ b hb) x.1 (by rw [undo_length]; exact (HH.out.wf.loose x (List.mem_of_getElem? HX.out)).1) x.2.1 HB.out, ← undo_step d j x HX.out] at B6
      refine effQ_skip (by decide) (wpO_nil ?_)
      simp only [Act.put, List.setIfInBounds_toArray, List.set_cons_zero, List.set_cons_succ]
      have hD3 : CrashRel w base p bb lv d keep (.int .i64 ((j : Int) - 1)) w6 := by
        have hap := HD.out.apart
        refine ⟨j, by omega, .inl hlt, rfl, ⟨?_, B6, ?_, undo_D HH.out.wf j, HD.out.bp, HD.out.bbb⟩, ?_⟩
        · have := HD.out.hp.drew.fr F6 (by simpa using hap.1)
          simpa only [undo_length] using this
        · exact (HD.out.hl.fr hS (by simp)).fr F6 (fun k hk => by simpa using (hap.2 k hk).2)
        · exact (HF.out.drew).trans1 F6
      have H3 := Lib.hid hD3
      clear hD3 c0 c1 c2 c3 B6
      go_wp2_with fail
      go_roundw
      case rel => exact H3.out
      case measure => simp [intOf]; omega
    · have hkk : undo d k = undo d keep.toNat := by
        rcases hk2 with hk2 | hk2
        · have : keep.toNat = k := by omega
          rw [this]
        · rw [undo_all d k (by omega), undo_all d _ (by omega)]
      have hD2 := hD.calm
      rw [hkk] at hD2
      have c1 : wr.cell? ⟨p, 1, none⟩ = some lv := hD.hp.cellAt (i := 1) rfl
      have c2 := hD.hp.frozen 1
      have H2 := Lib.hid hD2
      have HF := Lib.hid hF
      clear hkk hD hF hD2
      go_wp2_with fail
      go_ret
      refine ⟨rfl, H2.out, ?_⟩
      exact (HF.out.mono (S' := [p, bb]) (fun k hk _ => by simp at hk ⊢; simp [hk])).setCell (.inl (by simp)) _

theorem DiskAt.fr {S : List Nat} {w w' : World} {base p bb : Nat} {lv : Value} {d : D} (h : DiskAt w base p bb lv d) (f : Fr S w w') (hp : p ∉ S) (hb : bb ∉ S) (hl : ∀ k ∈ ob lv, k ∉ S) : DiskAt w' base p bb lv d :=
  ⟨h.hp.fr f hp, h.hb.fr f hb, h.hl.fr f hl, h.wf, h.bp, h.bbb⟩
theorem DiskAt.fr0 {w w' : World} {base p bb : Nat} {lv : Value} {d : D} (h : DiskAt w base p bb lv d) (f : Fr [] w w') : DiskAt w' base p bb lv d := h.fr f (by simp) (by simp) (by simp)
theorem DiskAt.wbase {w : World} {base base' p bb : Nat} {lv : Value} {d : D} (h : DiskAt w base p bb lv d) (hb : base' ≤ base) : DiskAt w base' p bb lv d :=
  ⟨h.hp, h.hb, h.hl.base hb, h.wf, Nat.le_trans hb h.bp, Nat.le_trans hb h.bbb⟩
/-- All that a disk may write lies from 'base' on. -/
theorem DiskAt.ge {w : World} {base p bb : Nat} {lv : Value} {d : D} (h : DiskAt w base p bb lv d) : ∀ k ∈ p :: bb :: ob lv, base ≤ k := fun k hk => by
  simp only [List.mem_cons] at hk
  rcases hk with rfl | rfl | hk
  · exact h.bp
  · exact h.bbb
  · exact (h.hl.lt hk).1
theorem DiskAt.lt {w : World} {base p bb : Nat} {lv : Value} {d : D} (h : DiskAt w base p bb lv d) : ∀ k ∈ p :: bb :: ob lv, k < w.heap.size := fun k hk => by
  simp only [List.mem_cons] at hk
  rcases hk with rfl | rfl | hk
  · exact h.hp.lt
  · exact h.hb.lt
  · exact (h.hl.lt hk).2
end Go.Fur
