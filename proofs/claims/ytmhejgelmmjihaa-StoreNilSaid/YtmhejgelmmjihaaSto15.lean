/- A snapshot at a desk: contract of the desk's checkpoint. -/
import Derived.Test.YtmhejgelmmjihaaSto14
namespace Go.Fur
open Go Go.RowKit Go.Proofs
set_option linter.unusedVariables false
set_option linter.unusedSimpArgs false
/-- A store that lies apart from the desk's block stays where that block is written. -/
theorem StoAt.desk {w w' : World} {base K p bb q : Nat} {lv tl : Value} {d : D} {s : St} {cs : List Value} (h : StoAt w base p bb q lv tl d s) (hk : Blk w K 44 cs) (f : Fr [K] w w') : StoAt w' base p bb q lv tl d s := by
  have hKs : ∀ k, stoX p bb q lv tl k → k ∉ [K] := fun k hk2 hm => by
    have e := List.mem_singleton.1 hm
    subst e
    rcases hk2 with hk2 | hk2 | hk2
    · exact hk.ne h.hq (by decide) hk2
    · simp only [List.mem_cons] at hk2
      rcases hk2 with hk2 | hk2 | hk2
      · exact hk.ne h.da.hp (by decide) hk2
      · exact hk.ne h.da.hb (by decide) hk2
      · obtain ⟨cur, hc⟩ := h.da.hl.blkOf hk2
        exact hk.ne hc (by decide) rfl
    · obtain ⟨cur, hc⟩ := h.ht.blkOf hk2
      exact hk.ne hc (by decide) rfl
  exact ⟨h.da.fr f (hKs p (.inr (.inl (by simp)))) (hKs bb (.inr (.inl (by simp)))) (fun k hk => hKs k (.inr (.inl (by simp [hk])))), h.yd, h.hq.fr f (hKs q (.inl rfl)), h.ht.fr f (fun k hk => hKs k (.inr (.inr hk))), h.yt, h.bq, h.g32, h.l32⟩
set_option maxRecDepth 100000 in
set_option maxHeartbeats 8000000 in
theorem dchk_calls {W w : World} {K N p bb q : Nat} {lv tl vs : Value} {al : Option Addr} {cl : Nat} {us : List Value} {d : D} {s : St} {whole : Bool} {snap : List Int} {lst : List (List Int)} (h : DkAt W w K N p bb q lv tl vs al cl us d s whole snap lst) (hN : N ≤ 1000) (a : Option Addr) (m c : Nat) (l : List Int) (hm : l.length = m) (hr : RdA w (dkX K p bb q lv tl) a (bv l)) (hl : Byt l) (hmc : m ≤ maxLen) :
    Calls Try.prog 22 #[.pointer (some ⟨K, 0, none⟩), .slice a m c] w fun e w' => e = .returned (.bool true) ∧ Dk W K (N + 1) w' := by
  have hfw := h.few
  have hbk := h.blk
  have hhn : d.now.length ≤ 2 * halfP d + 3 := by unfold halfP; omega
  have hbs : W.heap.size ≤ w.heap.size := h.fr.size
  have HA := Lib.hid (check_calls h.sto hbs a m c l hm (hr.step (Fr.refl [] w) (by simp) (fun k hk => .inl (.inr hk))) hl hmc)
  have c1 : w.cell? ⟨K, 1, none⟩ = some (.pointer (some ⟨q, 0, none⟩)) := h.hk.cellAt rfl
  have HH := Lib.hid h
  have HR := Lib.hid hr
  have HL := Lib.hid hl
  have HM := Lib.hid hm
  have hm63 : m ≤ 9223372036854775807 := by unfold maxLen at hmc; exact hmc
  by_cases hbig : 524288 < m
  · have he : ckS d s l = (3, d, s) := by unfold ckS; rw [if_pos (by omega)]
    have hb1 : (524288 : Int) < (m : Int) := by omega
    rw [he] at HA
    clear h hr hl hm he hfw
    go_enter Try.func22, Try.ntmps22
    go_wp2_with fail
    refine HA.out.mono ?_
    rintro e w1 ⟨lv1, tl1, rfl, S1, st1, X1⟩
    obtain ⟨t1, t2, t3, t4, t5, _⟩ := HH.out.turn S1 st1 X1
    have HD := Lib.hid (show Dk W K (N + 1) w1 from ⟨p, bb, q, lv1, tl1, vs, al, cl, us, d, s, whole, snap, lst, t1, S1, t2, HH.out.kb, t3, HH.out.ys, t4, HH.out.cap, t5, HH.out.yl, HH.out.dk, by have := HH.out.few; omega, HH.out.blk, HH.out.sl⟩)
    clear S1 st1 X1 t1 t2 t3 t4 t5
    dsimp only
    go_wp2_with fail
    go_ret
    exact ⟨rfl, HD.out⟩
  · have hb1 : ¬ (524288 : Int) < (m : Int) := by omega
    by_cases hfit : halfP d * 55 < m
    · have he : ckS d s l = (10, d, s) := by unfold ckS; rw [if_neg (by omega), if_pos (by omega)]
      have hfull : (16 * (d.now.length : Int) - 1024) < (m : Int) := by omega
      rw [he] at HA
      clear h hr hl hm he hfw
      go_enter Try.func22, Try.ntmps22
      go_wp2_with fail
      refine HA.out.mono ?_
      rintro e w1 ⟨lv1, tl1, rfl, S1, st1, X1⟩
      obtain ⟨t1, t2, t3, t4, t5, _⟩ := HH.out.turn S1 st1 X1
      have d2 : w1.cell? ⟨K, 2, none⟩ = some (.int .i64 (16 * d.now.length - 1024)) := t2.cellAt rfl
      have HD := Lib.hid (show Dk W K (N + 1) w1 from ⟨p, bb, q, lv1, tl1, vs, al, cl, us, d, s, whole, snap, lst, t1, S1, t2, HH.out.kb, t3, HH.out.ys, t4, HH.out.cap, t5, HH.out.yl, HH.out.dk, by have := HH.out.few; omega, HH.out.blk, HH.out.sl⟩)
      clear S1 st1 X1 t1 t2 t3 t4 t5
      dsimp only
      go_wp2_with fail
      go_ret
      exact ⟨by first | rfl | (simp; omega), HD.out⟩
    · obtain ⟨e1, e2, e3, e4, e5, e6, e7, e8⟩ := h.dk.check (p := l) (by omega) h.sto.l32 (by omega) (by omega) (by omega)
      rw [e1] at HA
      obtain ⟨r, hr2⟩ : ∃ r, (ckS d s l).2 = r := ⟨_, rfl⟩
      rw [hr2] at HA e2 e3 e4 e5 e6 e7 e8
      have HE := Lib.hid (And.intro e2 (And.intro e3 (And.intro e4 (And.intro e5 (And.intro e6 (And.intro e7 e8))))))
      clear h hr hl hm e1 e2 e3 e4 e5 e6 e7 e8 hr2 hfw hfit
      go_enter Try.func22, Try.ntmps22
      go_wp2_with fail
      refine HA.out.mono ?_
      rintro e w1 ⟨lv1, tl1, rfl, S1, st1, X1⟩
      obtain ⟨t1, t2, t3, t4, t5, t6⟩ := HH.out.turn S1 st1 X1
      have R1 : RdA w1 (dkX K p bb q lv1 tl1) a (bv l) := HR.out.frX (st1.more (fun k hk => .inr hk)) t6
      have HT := Lib.hid (And.intro t1 t2)
      have HS1 := Lib.hid S1
      have HR1 := Lib.hid R1
      clear S1 st1 X1 t1 t2 t3 t4 t5 t6 R1 c1
      dsimp only
      go_wp2_with fail
      refine (twin_calls w1 a c m l HM.out (by omega) HR1.out.rd).mono ?_
      rintro e w2 ⟨v2, rfl, O2, F2⟩
      obtain ⟨a2, k2, rfl, _, _, _⟩ := O2.form
      have HB2 := Lib.hid (HT.out.2.fr F2 (by simp))
      have HO2 := Lib.hid O2
      have HF2 := Lib.hid F2
      clear O2 F2
      dsimp only
      go_wp2_with (first
        | (refine wpList_store1 rfl 4 _ _ rfl K 3 (.bool true) (by rfl) (by rfl) rfl 44 _ HB2.out (by simp [dskC]) (by kernel_rfl) rfl ?_; intro w3 B3 F3 S3; have HB3 := Lib.hid B3; have HF3 := Lib.hid F3; clear B3 F3 S3)
        | (refine wpList_store1 rfl 24 _ _ rfl K 4 (.slice a2 m k2) (by rfl) (by rfl) rfl 44 _ HB3.out (by simp [dskC]) (by kernel_rfl) rfl ?_; intro w4 B4 F4 S4; have HB4 := Lib.hid B4; have HF4 := Lib.hid F4; clear B4 F4 S4)
        | (refine wpList_store1 rfl 23 _ _ rfl K 5 (.slice none 0 0) (by rfl) (by rfl) rfl 44 _ HB4.out (by simp [dskC]) (by kernel_rfl) rfl ?_; intro w5 B5 F5 S5; have HB5 := Lib.hid B5; have HF5 := Lib.hid F5; clear B5 F5 S5)
        | (refine wpList_store1 rfl 3 _ _ rfl K 6 (.int .i64 0) (by rfl) (by rfl) rfl 44 _ HB5.out (by simp [dskC]) (by kernel_rfl) rfl ?_; intro w6 B6 F6 S6; have HB6 := Lib.hid B6; have HF6 := Lib.hid F6; clear B6 F6 S6)
        | (refine wpList_store1 rfl 3 _ _ rfl K 7 (.int .i64 m) (by rfl) (by rfl) rfl 44 _ HB6.out (by simp [dskC]) (by kernel_rfl) rfl ?_; intro w7 B7 F7 S7; have HB7 := Lib.hid (show Blk w7 K 44 (dskC p q (16 * d.now.length - 1024) true (.slice a2 m k2) (.slice none 0 0) 0 m) from B7); have HF7 := Lib.hid F7; clear B7 F7 S7))
      go_ret
      refine ⟨rfl, ?_⟩
      obtain ⟨t1, t2⟩ := HT.out
      obtain ⟨e2, e3, e4, e5, e6, e7, e8⟩ := HE.out
      have f27 : Fr [K] w2 w7 := (((HF3.out.trans1 HF4.out).trans1 HF5.out).trans1 HF6.out).trans1 HF7.out
      have S7 := (HS1.out.fr0 HF2.out).desk HB2.out f27
      have hfar : ∀ k, w1.heap.size ≤ k → ¬ dkX K p bb q lv1 tl1 k := fun k hk hm => by
        rcases hm with hm | hm
        · have := t2.lt
          omega
        · have := (stoX_ge HS1.out hm).2
          omega
      have o7 : Own w7 w1.heap.size 5 1 (.slice a2 m k2) m (bv l) := HO2.out.fr f27 (fun k hk hm => by
        have := (HO2.out.lt hk).1
        rw [List.mem_singleton.1 hm] at this
        have := t2.lt
        omega)
      have b7 : Bs w7 (dkX K p bb q lv1 tl1) (.slice a2 m k2) l := o7.bs HM.out (fun k hk => hfar k (o7.lt hk).1)
      have hfw := HH.out.few
      refine ⟨p, bb, q, lv1, tl1, .slice a2 m k2, none, 0, [], r.1, r.2, true, l, [], ⟨(t1.trans0 HF2.out).trans f27 (fun k hk hlt => by rw [List.mem_singleton.1 hk] at hlt; have := HH.out.kb; omega), S7, ?_, HH.out.kb, b7, HL.out, RdA.nil _ _ _, ⟨Nat.le_refl _, Nat.zero_le _⟩, AllB.nil _ _, by simp, e2, ⟨by omega, by omega, by rw [e7]; simp, by simp⟩, by rw [e8]; exact HH.out.blk, by rw [HM.out]; omega⟩⟩
      rw [e8, e5]
      have := HB7.out
      simpa [tookL, HM.out] using this
end Go.Fur
