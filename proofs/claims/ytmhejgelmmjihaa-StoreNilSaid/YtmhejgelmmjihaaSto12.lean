/- Lists of lists alike; Len, Safe, Sync of a store: contracts. -/
import Derived.Test.YtmhejgelmmjihaaSto11
import Derived.Test.YtmhejgelmmjihaaSto7
namespace Go.Fur
open Go Go.RowKit Go.Proofs
set_option linter.unusedVariables false
set_option linter.unusedSimpArgs false
theorem slen_calls {w : World} {base p bb q : Nat} {lv tl : Value} {d : D} {s : St} (h : StoAt w base p bb q lv tl d s) :
    Calls Try.prog 15 #[.pointer (some ⟨q, 0, none⟩)] w fun e w' => e = .returned (.int .i64 s.count) ∧ w = w' := len_calls h.hq
theorem ssafe_calls {w : World} {base p bb q : Nat} {lv tl : Value} {d : D} {s : St} (h : StoAt w base p bb q lv tl d s) :
    Calls Try.prog 16 #[.pointer (some ⟨q, 0, none⟩)] w fun e w' => e = .returned (.int .i64 s.safe) ∧ w = w' := safe_calls h.hq
theorem ssync_calls {w : World} {base p bb q : Nat} {lv tl : Value} {d : D} {s : St} (h : StoAt w base p bb q lv tl d s) :
    Calls Try.prog 14 #[.pointer (some ⟨q, 0, none⟩)] w fun e w' => e = .returned (.int .i64 0) ∧ StoAt w' base p bb q (.slice none 0 0) tl d.calm { s with safe := s.count } ∧ Fr [p, q] w w' :=
  (syncS_calls h.da h.hq).mono fun e w' ⟨he, hd, hq, hf⟩ => by
    refine ⟨he, ⟨hd, h.yd.calm, hq, h.ht.fr hf (fun k hk hm => ?_), h.yt, h.bq, h.g32, h.l32⟩, hf⟩
    obtain ⟨cur, hc⟩ := h.ht.blkOf hk
    simp only [List.mem_cons, List.not_mem_nil, or_false] at hm
    rcases hm with hm | hm
    · exact hc.ne h.da.hp (by decide) hm
    · exact hc.ne h.hq (by decide) hm
def Dr (w W : World) : Prop := ∃ j, W = w.drewN j
theorem Dr.refl (w : World) : Dr w w := ⟨0, rfl⟩
theorem Dr.drew (w : World) : Dr w w.drew := ⟨1, rfl⟩
theorem Dr.trans {a b c : World} (h : Dr a b) (g : Dr b c) : Dr a c := by
  obtain ⟨j, rfl⟩ := h
  obtain ⟨k, rfl⟩ := g
  exact ⟨j + k, by rw [World.drewN_drewN]⟩
theorem Dr.fr {a b : World} (h : Dr a b) : Fr [] a b := by
  obtain ⟨j, rfl⟩ := h
  exact (Fr.refl _ _).drewN _
def LisR (w : World) (xs ys : List (List Int)) (i : Value) (wr : World) : Prop := ∃ k : Nat, k ≤ xs.length ∧ i = .int .i64 k ∧ xs.take k = ys.take k ∧ Dr w wr
set_option maxRecDepth 100000 in
set_option maxHeartbeats 2000000 in
theorem lists_quiet {w : World} {a1 a2 : Option Addr} {n m c1 c2 : Nat} {us vs : List Value} {xs ys : List (List Int)} (h1 : RdA w (fun _ => False) a1 us) (h2 : RdA w (fun _ => False) a2 vs) (hu : AllB w (fun _ => False) us xs) (hv : AllB w (fun _ => False) vs ys)
    (hn : xs.length = n) (hm : ys.length = m) (hx : ∀ x ∈ xs, Byt x) (hy : ∀ y ∈ ys, Byt y) (hnx : n ≤ maxLen) :
    Calls Try.prog 25 #[.slice a1 n c1, .slice a2 m c2] w fun e w' => e = .returned (.bool (decide (xs = ys))) ∧ Dr w w' := by
  subst hn hm
  have hn63 : xs.length ≤ 9223372036854775807 := by unfold maxLen at hnx; exact hnx
  by_cases hl : xs.length = ys.length
  · have hb : ((xs.length : Int) != (ys.length : Int)) = false := by rw [hl]; simp
    have HA := Lib.hid (And.intro h1 (And.intro h2 (And.intro hu hv)))
    have HB := Lib.hid (And.intro hx hy)
    have HL := Lib.hid hl
    clear h1 h2 hu hv hx hy hl
    go_enter Try.func25, Try.ntmps25
    go_wp2_with fail
    go_loopw [13] (fun i wr => LisR w xs ys i wr) (fun i _ => xs.length - (intOf i).toNat)
    case atStart => exact ⟨0, Nat.zero_le _, rfl, by simp, Dr.refl _⟩
    case round =>
      obtain ⟨k, hk, rfl, htk, hF⟩ := hrel
      have HT := Lib.hid htk
      have HF := Lib.hid hF
      clear htk hF
      by_cases hlt : k < xs.length
      · have i0 : (0 : Int) ≤ (k : Int) := by omega
        have i1 : (k : Int) < (xs.length : Int) := by omega
        have i2 : (k : Int) < (ys.length : Int) := by have := HL.out; omega
        obtain ⟨x, hxk⟩ : ∃ x, xs[k]? = some x := ⟨_, List.getElem?_eq_getElem hlt⟩
        obtain ⟨y, hyk⟩ : ∃ y, ys[k]? = some y := ⟨_, List.getElem?_eq_getElem (by have := HL.out; omega)⟩
        obtain ⟨u, hu1, ax, cx, rfl, hux, hcx, _⟩ := HA.out.2.2.1.get hxk
        obtain ⟨v, hv1, ay, cy, rfl, hvy, hcy, _⟩ := HA.out.2.2.2.get hyk
        obtain ⟨b1, o1, ha1, _, hr1, _⟩ := HA.out.1.cellAt hu1
        obtain ⟨b2, o2, ha2, _, hr2, _⟩ := HA.out.2.1.cellAt hv1
        subst ha1 ha2
        have d1 : ∀ W', Dr wr W' → W'.cell? ⟨b1, o1 + k, none⟩ = some (.slice ax x.length cx) := fun W' f => rangeAt_fr hr1 (HF.out.fr.trans0 f.fr) (by simp) k _ hu1
        have d2 : ∀ W', Dr wr W' → W'.cell? ⟨b2, o2 + k, none⟩ = some (.slice ay y.length cy) := fun W' f => rangeAt_fr hr2 (HF.out.fr.trans0 f.fr) (by simp) k _ hv1
        have HXK := Lib.hid hxk
        have HYK := Lib.hid hyk
        have HUX := Lib.hid hux.rd
        have HVY := Lib.hid hvy.rd
        clear hu1 hv1 hr1 hr2 hxk hyk hux hvy
        go_wp2_with fail
        refine wp_region_ord (Dr wr) [0,1,2,3,4,5,6,7,8,9] [] [8] [3, 7] mixed (by kernel_rfl) ?_
        have hS : Dr wr wr.drew := Dr.drew _
        simp only [pairs, pickN]
        repeat (first | (refine wpO_free ?_ (by rfl) (by rfl) (fun w' => ?_) ?_; rotate_left; (go_simp; rfl); simp only [Act.put, List.setIfInBounds_toArray, List.set_cons_zero, List.set_cons_succ]) | (refine wpO_take ?_ hS (by rfl) (by rfl) (fun w' hw' => ?_) ?_; rotate_left; (go_simp; rfl); simp only [Act.put, List.setIfInBounds_toArray, List.set_cons_zero, List.set_cons_succ]) | (refine wpO_pass (by rfl) ?_; simp only [Act.put, List.setIfInBounds_toArray, List.set_cons_zero, List.set_cons_succ]))
        refine wpO_eff (by rfl) ?_
        refine wpList_callC rfl 18 #[.slice ax x.length cx, .slice ay y.length cy] (by first | (go_simp; done) | (go_simp; rfl)) _ (bytes_calls _ ax ay cx cy x.length y.length x y rfl rfl (HB.out.1 x (List.mem_of_getElem? HXK.out)) (HB.out.2 y (List.mem_of_getElem? HYK.out)) (HUX.out.fr0 (HF.out.fr.trans0 hS.fr)) (HVY.out.fr0 (HF.out.fr.trans0 hS.fr))) ?_
        rintro e w2 ⟨rfl, rfl⟩
        refine ⟨_, rfl, effQ_keep hS ?_⟩
        simp only [Act.put, List.setIfInBounds_toArray, List.set_cons_zero, List.set_cons_succ]
        repeat (first | (refine wpO_free ?_ (by rfl) (by rfl) (fun w' => ?_) ?_; rotate_left; (go_simp; rfl); simp only [Act.put, List.setIfInBounds_toArray, List.set_cons_zero, List.set_cons_succ]) | (refine wpO_pass (by rfl) ?_; simp only [Act.put, List.setIfInBounds_toArray, List.set_cons_zero, List.set_cons_succ]))
        refine wpO_nil ?_
        have HS := Lib.hid (HF.out.trans hS)
        clear hS d1 d2
        obtain ⟨z, hz⟩ : ∃ z, decide (x = y) = z := ⟨_, rfl⟩
        rw [hz]
        cases z with
        | true =>
          have HXY := Lib.hid (of_decide_eq_true hz)
          clear hz
          go_wp2_with fail
          go_roundw
          case rel =>
            refine ⟨k + 1, by omega, by go_num, ?_, HS.out⟩
            rw [List.take_add_one, List.take_add_one, HT.out, HXK.out, HYK.out, HXY.out]
          case measure => simp [intOf]; omega
        | false =>
          have HNE : Hid (decide (xs = ys) = false) := Lib.hid (by
            rw [decide_eq_false_iff_not]
            intro e
            apply of_decide_eq_false hz
            have := HXK.out
            rw [e, HYK.out] at this
            exact (Option.some.inj this).symm)
          clear hz
          go_wp2_with fail
          go_ret
          exact ⟨by rw [HNE.out]; rfl, HS.out⟩
      · have i1 : ¬ (k : Int) < (xs.length : Int) := by omega
        have HEQ : Hid (decide (xs = ys) = true) := Lib.hid (by
          rw [decide_eq_true_iff]
          have h1 := HT.out
          rwa [List.take_of_length_le (by omega), List.take_of_length_le (by have := HL.out; omega)] at h1)
        go_wp2_with fail
        go_ret
        exact ⟨by rw [HEQ.out]; rfl, HF.out⟩
  · have hb : ((xs.length : Int) != (ys.length : Int)) = true := by rw [bne_iff_ne]; omega
    have HNE : Hid (decide (xs = ys) = false) := Lib.hid (by
      rw [decide_eq_false_iff_not]
      intro e
      exact hl (by rw [e]))
    clear h1 h2 hu hv hx hy hl
    go_enter Try.func25, Try.ntmps25
    go_wp2_with fail
    go_ret
    exact ⟨by rw [HNE.out]; rfl, Dr.refl _⟩
theorem lists_calls {w : World} {a1 a2 : Option Addr} {n m c1 c2 : Nat} {us vs : List Value} {xs ys : List (List Int)} (h1 : RdA w (fun _ => False) a1 us) (h2 : RdA w (fun _ => False) a2 vs) (hu : AllB w (fun _ => False) us xs) (hv : AllB w (fun _ => False) vs ys)
    (hn : xs.length = n) (hm : ys.length = m) (hx : ∀ x ∈ xs, Byt x) (hy : ∀ y ∈ ys, Byt y) (hnx : n ≤ maxLen) :
    Calls Try.prog 25 #[.slice a1 n c1, .slice a2 m c2] w fun e w' => e = .returned (.bool (decide (xs = ys))) ∧ Fr [] w w' :=
  (lists_quiet h1 h2 hu hv hn hm hx hy hnx).mono fun e w' ⟨he, hd⟩ => ⟨he, hd.fr⟩
end Go.Fur
