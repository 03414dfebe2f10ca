/- One more record: contracts of fits and Append. -/
import Derived.Test.YtmhejgelmmjihaaSto9
namespace Go.Fur
open Go Go.RowKit Go.Proofs
set_option linter.unusedVariables false
set_option linter.unusedSimpArgs false
def fitsB (d : D) (s : St) (n : Nat) : Bool := decide (n + s.tail.length + s.at_ * 55 ≤ halfP d * 55)
theorem halfP_le {d : D} (h : d.wf) : halfP d ≤ 32768 := by have := h.max; unfold halfP; omega
set_option maxRecDepth 100000 in
set_option maxHeartbeats 2000000 in
theorem fits_calls {w : World} {base p bb q : Nat} {lv tl : Value} {d : D} {s : St} (h : StoAt w base p bb q lv tl d s) (n : Nat) (hn : n ≤ 1000000000) (hi : s.at_ ≤ 40000) (ht : s.tail.length ≤ 1000) :
    Calls Try.prog 31 #[.pointer (some ⟨q, 0, none⟩), .int .i64 n] w fun e w' => e = .returned (.bool (fitsB d s n)) ∧ ∃ k, w' = w.drewN k := by
  obtain ⟨a0, k0, rfl, _, _, _⟩ := h.ht.form
  have HH := Lib.hid (fun (W : World) (f : Fr [] w W) => (half_calls (h.da.fr0 f) (h.hq.fr f (by simp))).mono (R' := fun e w' => e = .returned (.int .i64 (halfP d)) ∧ w' = W) (fun e w' hh => ⟨hh.1, hh.2.symm⟩))
  have c4 : w.cell? ⟨q, 4, none⟩ = some (.int .i64 s.at_) := h.hq.cellAt rfl
  have c3 : w.cell? ⟨q, 3, none⟩ = some (.slice a0 s.tail.length k0) := h.hq.cellAt rfl
  have hh := halfP_le h.da.wf
  have hfit : fitsB d s n = decide ((n : Int) ≤ ((halfP d : Int) - (s.at_ : Int)) * 55 - (s.tail.length : Int)) := by
    unfold fitsB
    rw [decide_eq_decide]
    omega
  have HF := Lib.hid hfit
  clear h hfit
  generalize halfP d = n2 at *
  go_enter Try.func31, Try.ntmps31
  go_wp2_with fail
  go_quiet ((refine Calls.quiet_of_same (HH.out _ ?_); exact (Fr.refl _ _).drewN _))
  go_wp2_with fail
  go_ret
  refine ⟨?_, nq, rfl⟩
  rw [HF.out]
  rfl
/-- Append(l): the errno, the disk and the store behind it. -/
def appS (d : D) (s : St) (l : List Int) : Int × D × St :=
  if 65536 < l.length then (3, d, s)
  else if fitsB d s (l.length + 4) = false then (10, d, s)
  else (0, (putS d s (le4 l.length ++ l)).1, { (putS d s (le4 l.length ++ l)).2 with count := s.count + 1 })
theorem Stp.refl (X : Nat → Prop) (w : World) : Stp X w w := ⟨[], Fr.refl _ _, by simp⟩
theorem Stp.of {X : Nat → Prop} {w w' : World} {S : List Nat} (f : Fr S w w') (h : ∀ k ∈ S, X k ∨ w.heap.size ≤ k) : Stp X w w' := f.x h
theorem Stp.trans {X X' : Nat → Prop} {a b c : World} (h : Stp X a b) (k : Stp X' b c) (hX : ∀ i, X' i → X i ∨ a.heap.size ≤ i) : Stp X a c := by
  have hs := h.size
  obtain ⟨T, f, hT⟩ := k
  exact FrX.trans h ⟨T, f, fun i hi => by
    rcases hT i hi with h1 | h1
    · exact hX i h1
    · exact .inr (by omega)⟩
theorem StoAt.fr0 {w w' : World} {base p bb q : Nat} {lv tl : Value} {d : D} {s : St} (h : StoAt w base p bb q lv tl d s) (f : Fr [] w w') : StoAt w' base p bb q lv tl d s :=
  ⟨h.da.fr0 f, h.yd, h.hq.fr f (by simp), h.ht.fr0 f, h.yt, h.bq, h.g32, h.l32⟩
/-- A store's own cells are turned. -/
theorem StoAt.cell {w w' : World} {base p bb q : Nat} {lv tl : Value} {d : D} {s s' : St} (h : StoAt w base p bb q lv tl d s) (f : Fr [q] w w') (hq : Blk w' q 67 (sto p s'.gen s'.life tl s'.at_ s'.count s'.safe)) (ht : s'.tail = s.tail) (hg : s'.gen < 4294967296) (hl : s'.life < 4294967296) : StoAt w' base p bb q lv tl d s' := by
  have hqd : ∀ k ∈ p :: bb :: ob lv, k ∉ [q] := fun k hk hm => by
    have e := List.mem_singleton.1 hm
    subst e
    simp only [List.mem_cons] at hk
    rcases hk with hk | hk | hk
    · exact h.hq.ne h.da.hp (by decide) hk
    · exact h.hq.ne h.da.hb (by decide) hk
    · obtain ⟨cur, hc⟩ := h.da.hl.blkOf hk
      exact h.hq.ne hc (by decide) rfl
  refine ⟨h.da.fr f (hqd p (by simp)) (hqd bb (by simp)) (fun k hk => hqd k (by simp [hk])), h.yd, hq, ?_, by rw [ht]; exact h.yt, h.bq, hg, hl⟩
  rw [ht]
  exact h.ht.fr f (fun k hk hm => by
    obtain ⟨cur, hc⟩ := h.ht.blkOf hk
    exact hc.ne h.hq (by decide) (List.mem_singleton.1 hm))
set_option maxRecDepth 100000 in
set_option maxHeartbeats 4000000 in
theorem append_calls {w : World} {base p bb q : Nat} {lv tl : Value} {d : D} {s : St} (h : StoAt w base p bb q lv tl d s) (hbase : base ≤ w.heap.size) (a : Option Addr) (m c : Nat) (l : List Int) (hm : l.length = m) (hr : Rd w a (bv l)) (hl : Byt l) (hmc : m ≤ maxLen)
    (ht : s.tail.length < 55) (hi : s.at_ ≤ 40000) (hc : s.count < 1000000000) (hfew : d.loose.length + 20100 < 1000000000) :
    Calls Try.prog 12 #[.pointer (some ⟨q, 0, none⟩), .slice a m c] w fun e w' => ∃ lv' tl', e = .returned (.int .i64 (appS d s l).1) ∧ StoAt w' base p bb q lv' tl' (appS d s l).2.1 (appS d s l).2.2 ∧ Stp (stoX p bb q lv tl) w w' ∧ ∀ k, stoX p bb q lv' tl' k → stoX p bb q lv tl k ∨ w.heap.size ≤ k := by
  have hm63 : m ≤ 9223372036854775807 := by unfold maxLen at hmc; exact hmc
  have HH := Lib.hid h
  have HR := Lib.hid hr
  have HL := Lib.hid hl
  unfold appS
  rw [hm]
  have HM := Lib.hid hm
  by_cases hbig : 65536 < m
  · have hb1 : (65536 : Int) < (m : Int) := by omega
    rw [if_pos hbig]
    clear h hr hl hm
    go_enter Try.func12, Try.ntmps12
    go_wp2_with fail
    go_ret
    exact ⟨lv, tl, rfl, HH.out, Stp.refl _ _, fun k hk => .inl hk⟩
  · have hb1 : ¬ (65536 : Int) < (m : Int) := by omega
    rw [if_neg hbig]
    have HF := Lib.hid (fits_calls h (m + 4) (by omega) hi (by omega))
    clear h hr hl hm
    by_cases hfit : fitsB d s (m + 4) = false
    · rw [if_pos hfit]
      rw [hfit] at HF
      clear hfit
      go_enter Try.func12, Try.ntmps12
      go_wp2_with fail
      refine HF.out.mono ?_
      rintro e w1 ⟨rfl, nk, rfl⟩
      dsimp only
      go_wp2_with fail
      go_ret
      exact ⟨lv, tl, rfl, HH.out.fr0 ((Fr.refl [] w).drewN nk), Stp.of ((Fr.refl [] w).drewN nk) (by simp), fun k hk => .inl hk⟩
    · rw [if_neg hfit]
      have hft : fitsB d s (m + 4) = true := by simpa using hfit
      rw [hft] at HF
      have hle : (le4 m ++ l).length = 4 + m := by rw [List.length_append, HM.out]; rfl
      obtain ⟨r, hr⟩ : ∃ r, putS d s (le4 m ++ l) = r := ⟨_, rfl⟩
      rw [hr]
      have HRR := Lib.hid hr
      have HLE := Lib.hid hle
      clear hfit hft hr hle
      have hw32 : IntKind.u32.wrap (m : Int) = (m : Int) := IntWalk.u32_in _ ⟨by omega, by omega⟩
      go_enter Try.func12, Try.ntmps12
      go_wp2_with fail
      refine HF.out.mono ?_
      rintro e w1 ⟨rfl, nk, rfl⟩
      have HF1 := Lib.hid ((Fr.refl [] w).drewN nk)
      have hz1 : (w.drewN nk).heap.size = w.heap.size := rfl
      dsimp only
      generalize w.drewN nk = w1 at *
      go_wp2_with fail
      refine (put4_calls (n := 0) (l := []) (Own.nil w1 w1.heap.size 5 1) (by omega) (Nat.le_refl _) m (by omega)).mono ?_
      rintro e w2 ⟨v2, rfl, O2, F2, K2⟩
      rw [Nat.zero_add, List.nil_append] at O2
      obtain ⟨a2, k2, rfl, _, _, _⟩ := O2.form
      have HO2 := Lib.hid O2
      have HF2 := Lib.hid (show Fr [] w1 w2 from F2)
      clear O2 F2 K2
      dsimp only
      go_wp2_with (refine wpList_appB rfl _ _ 24 24 rfl w1.heap.size 5 5 .u8 1 Try.underlying24 Try.underlying24 info_byte _ 4 (bv (le4 m)) (by rfl) HO2.out a m _ (bv l) (by rfl) ((HR.out.fr0 HF1.out).fr0 HF2.out) (by rw [bv_length]; exact HM.out) (bv_one _) (by simp only [maxLen]; omega) (by omega) (by have := HF2.out.size; omega) ?_; intro v3 w3 O3 F3 K3 _; obtain ⟨a3, k3, hv3, _, _, hr3⟩ := O3.form; subst hv3; rw [← bv_append] at hr3; have HR3 := Lib.hid hr3; have HF3 := Lib.hid (HF2.out.trans F3 (fun k hk hlt => by have := (HO2.out.lt hk).1; omega)); clear O3 F3 K3 hr3)
      have hle4 : Byt (le4 m ++ l) := by
        refine Byt.append (fun y hy => ?_) HL.out
        simp only [le4, List.mem_cons, List.not_mem_nil, or_false] at hy
        omega
      have hf13 := HF1.out.trans0 HF3.out
      refine (putS_calls (HH.out.fr0 hf13) (by have := hf13.size; omega) a3 (4 + m) k3 (le4 m ++ l) HLE.out HR3.out hle4 ht (by omega) hi hfew).mono ?_
      rintro e w4 ⟨⟨ve, rfl⟩, lv4, tl4, S4, st4, X4⟩
      rw [HRR.out] at S4
      have hr2 : r.2.count = s.count ∧ r.2.safe = s.safe := by rw [← HRR.out]; exact ⟨rfl, rfl⟩
      have c5 : w4.cell? ⟨q, 5, none⟩ = some (.int .i64 s.count) := by rw [← hr2.1]; exact S4.hq.cellAt rfl
      have HS4 := Lib.hid S4
      have HST4 := Lib.hid (show Stp (stoX p bb q lv tl) w w4 from Stp.trans (Stp.of hf13 (by simp)) st4 (fun k hk => .inl hk))
      have HX4 := Lib.hid (fun k hk => (X4 k hk).imp id (fun h => Nat.le_trans hf13.size h))
      have HR2 := Lib.hid hr2
      clear S4 st4 X4 hf13 hle4 hr2 hz1
      dsimp only
      go_wp2_with (refine wpList_store1 rfl 3 _ _ rfl q 5 (.int .i64 ((s.count : Int) + 1)) (by rfl) (by rfl) rfl 67 _ HS4.out.hq (by simp [sto]) (by kernel_rfl) rfl ?_; intro w5 B5 F5 S5; have HB5 := Lib.hid (show Blk w5 q 67 (sto p r.2.gen r.2.life tl4 r.2.at_ ((s.count : Int) + 1) r.2.safe) from B5); have HF5 := Lib.hid F5; clear B5 F5 S5)
      go_ret
      refine ⟨lv4, tl4, rfl, HS4.out.cell HF5.out (by simpa using HB5.out) rfl HS4.out.g32 HS4.out.l32, HST4.out.trans (Stp.of (X := stoX p bb q lv4 tl4) HF5.out (fun k hk => by rw [List.mem_singleton.1 hk]; exact .inl (.inl rfl))) HX4.out, HX4.out⟩
end Go.Fur
