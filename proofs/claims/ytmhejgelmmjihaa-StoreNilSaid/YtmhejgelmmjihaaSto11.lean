/- A snapshot in the place of all: contract of Checkpoint. -/
import Derived.Test.YtmhejgelmmjihaaSto10
import Derived.Lib.SlBytesConst
namespace Go.Fur
open Go Go.RowKit Go.Proofs
set_option linter.unusedVariables false
set_option linter.unusedSimpArgs false
/-- Checkpoint(l): the errno, the disk and the store behind it. -/
def ckD (d : D) (s : St) (l : List Int) : D × St := putS d.calm ⟨(s.gen + 1) % 4294967296, s.life, [], 0, 0, 0⟩ l
def ckS (d : D) (s : St) (l : List Int) : Int × D × St :=
  if 524288 < l.length then (3, d, s)
  else if halfP d * 55 < l.length then (10, d, s)
  else (0, ((ckD d s l).1.calm.write ((s.gen + 1) % 4294967296 % 2 : Nat) (magicL ++ le4 ((s.gen + 1) % 4294967296) ++ le4 l.length)).2.calm, (ckD d s l).2)
set_option maxRecDepth 100000 in
set_option maxHeartbeats 1000000 in
/-- A number behind bytes that fill their row. -/
theorem put4F_calls {w : World} {a : Option Addr} {n : Nat} {l : List Int} (hr : Rd w a (bv l)) (hl : l.length = n) (hn : n ≤ 1000000000) (x : Nat) (hx : x < 4294967296) :
    Calls Try.prog 33 #[.slice a n n, .int .u32 x] w fun e w' => ∃ v', e = .returned v' ∧ Own w' w.heap.size 5 1 v' (n + 4) (bv (l ++ le4 x)) ∧ Fr [] w w' := by
  have HR := Lib.hid hr
  have HL := Lib.hid hl
  clear hr hl
  go_enter Try.func33, Try.ntmps33
  go_wp2_with (first
    | (have z := HB1.out; clear z; refine wpList_appF rfl _ _ 24 24 rfl 5 5 .u8 1 Try.underlying24 Try.underlying24 info_byte a n (bv l) (by rfl) (HR.out.fr0 HF1.out) (by rw [bv_length]; exact HL.out) _ 4 4 (bv (le4 x)) (by rfl) (HB1.out.rd0 4) (by simp [bv, le4]) (by omega) (by simp [bv, le4, Value.oneCell']) (by simp only [maxLen]; omega) (by omega) ?_; intro v2 w2 O2 F2; have HO2 := Lib.hid O2; have HF2 := Lib.hid (HF1.out.trans0 F2); clear O2 F2)
    | (refine wpList_buildN rfl 24 5 4 [(0, .tmp 7), (1, .tmp 10), (2, .tmp 13), (3, .tmp 16)] rfl [(0, .int .u8 ((x : Int) % 256)), (1, .int .u8 ((x : Int) / 256 % 256)), (2, .int .u8 ((x : Int) / 65536 % 256)), (3, .int .u8 ((x : Int) / 16777216))] (by rfl) (bv (le4 x)) (bytes_build4 _ _ _ _) ?_; intro w1 B1 F1 S1; have HB1 := Lib.hid B1; have HF1 := Lib.hid F1; have HS1 := Lib.hid S1; clear B1 F1 S1))
  go_ret
  refine ⟨v2, rfl, ?_, HF2.out⟩
  have h := HO2.out
  rw [← bv_append] at h
  exact h.base (by have := HF1.out.size; omega)
/-- The disk of a store is made safe. -/
theorem StoAt.calm {w w' : World} {base p bb q : Nat} {lv tl : Value} {d : D} {s : St} (h : StoAt w base p bb q lv tl d s) (hd : DiskAt w' base p bb (.slice none 0 0) d.calm) (f : Fr [p] w w') : StoAt w' base p bb q (.slice none 0 0) tl d.calm s := by
  refine ⟨hd, h.yd.calm, h.hq.fr f (fun hm => h.hq.ne h.da.hp (by decide) (List.mem_singleton.1 hm)), h.ht.fr f (fun k hk hm => ?_), h.yt, h.bq, h.g32, h.l32⟩
  obtain ⟨cur, hc⟩ := h.ht.blkOf hk
  exact hc.ne h.da.hp (by decide) (List.mem_singleton.1 hm)
/-- A store that begins anew. -/
theorem StoAt.fresh {w w' : World} {base p bb q : Nat} {lv tl : Value} {d : D} {s : St} {g l : Nat} (h : StoAt w base p bb q lv tl d s) (f : Fr [q] w w') (hq : Blk w' q 67 (sto p g l (.slice none 0 0) 0 0 0)) (hg : g < 4294967296) (hl : l < 4294967296) : StoAt w' base p bb q lv (.slice none 0 0) d ⟨g, l, [], 0, 0, 0⟩ := by
  have hqd : ∀ k ∈ p :: bb :: ob lv, k ∉ [q] := fun k hk hm => by
    have e := List.mem_singleton.1 hm
    subst e
    simp only [List.mem_cons] at hk
    rcases hk with hk | hk | hk
    · exact h.hq.ne h.da.hp (by decide) hk
    · exact h.hq.ne h.da.hb (by decide) hk
    · obtain ⟨cur, hc⟩ := h.da.hl.blkOf hk
      exact h.hq.ne hc (by decide) rfl
  exact ⟨h.da.fr f (hqd p (by simp)) (hqd bb (by simp)) (fun k hk => hqd k (by simp [hk])), h.yd, hq, Own.nil _ _ _ _, Byt.nil, h.bq, hg, hl⟩
theorem stoX_calm {p bb q : Nat} {lv tl : Value} {k : Nat} (h : stoX p bb q (.slice none 0 0) tl k) : stoX p bb q lv tl k := by
  rcases h with h | h | h
  · exact .inl h
  · simp only [List.mem_cons, ob_nil, List.not_mem_nil, or_false] at h
    exact .inr (.inl (by rcases h with h | h <;> simp [h]))
  · exact .inr (.inr h)
set_option maxRecDepth 100000 in
set_option maxHeartbeats 8000000 in
theorem check_calls {w : World} {base p bb q : Nat} {lv tl : Value} {d : D} {s : St} (h : StoAt w base p bb q lv tl d s) (hbase : base ≤ w.heap.size) (a : Option Addr) (m c : Nat) (l : List Int) (hm : l.length = m) (hr : RdA w (stoX p bb q lv tl) a (bv l)) (hl : Byt l) (hmc : m ≤ maxLen) :
    Calls Try.prog 13 #[.pointer (some ⟨q, 0, none⟩), .slice a m c] w fun e w' => ∃ lv' tl', e = .returned (.int .i64 (ckS d s l).1) ∧ StoAt w' base p bb q lv' tl' (ckS d s l).2.1 (ckS d s l).2.2 ∧ Stp (stoX p bb q lv tl) w w' ∧ ∀ k, stoX p bb q lv' tl' k → stoX p bb q lv tl k ∨ w.heap.size ≤ k := by
  have hm63 : m ≤ 9223372036854775807 := by unfold maxLen at hmc; exact hmc
  have hhf := halfP_le h.da.wf
  have HH := Lib.hid h
  have HR := Lib.hid hr
  have HL := Lib.hid hl
  unfold ckS
  rw [hm]
  have HM := Lib.hid hm
  have HHf := Lib.hid (half_calls h.da h.hq)
  have c0 : w.cell? ⟨q, 0, none⟩ = some (.pointer (some ⟨p, 0, none⟩)) := h.hq.cellAt rfl
  obtain ⟨hp, hhp⟩ : ∃ hp, halfP d = hp := ⟨_, rfl⟩
  rw [hhp] at HHf hhf ⊢
  clear h hr hl hm hhp
  by_cases hbig : 524288 < m
  · have hb1 : (524288 : Int) < (m : Int) := by omega
    rw [if_pos hbig]
    go_enter Try.func13, Try.ntmps13
    go_wp2_with fail
    go_ret
    exact ⟨lv, tl, rfl, HH.out, Stp.refl _ _, fun k hk => .inl hk⟩
  · have hb1 : ¬ (524288 : Int) < (m : Int) := by omega
    rw [if_neg hbig]
    by_cases hfull : hp * 55 < m
    · rw [if_pos hfull]
      have hb2 : (hp : Int) * 55 < (m : Int) := by omega
      go_enter Try.func13, Try.ntmps13
      go_wp2_with fail
      refine HHf.out.mono ?_
      rintro e w1 ⟨rfl, rfl⟩
      dsimp only
      go_wp2_with fail
      go_ret
      exact ⟨lv, tl, rfl, HH.out, Stp.refl _ _, fun k hk => .inl hk⟩
    · rw [if_neg hfull]
      have hb2 : ¬ (hp : Int) * 55 < (m : Int) := by omega
      obtain ⟨r, hr⟩ : ∃ r, ckD d s l = r := ⟨_, rfl⟩
      rw [hr]
      obtain ⟨g1, hg1⟩ : ∃ g1, (s.gen + 1) % 4294967296 = g1 := ⟨_, rfl⟩
      have hg32 : g1 < 4294967296 := by omega
      have hgi : ((s.gen : Int) + 1) % 4294967296 = (g1 : Int) := by omega
      unfold ckD at hr
      rw [hg1] at hr ⊢
      have HRR := Lib.hid hr
      have HGI := Lib.hid hgi
      clear hr hg1 hgi
      have kc := fun (w : World) (C : Array Value) (n c : Nat) => Lib.run_convert_bytes_const (P := Try.prog) w 24 5 C n c Try.underlying24 Try.underlying5
      go_enter Try.func13, Try.ntmps13
      go_wp2_with fail
      refine HHf.out.mono ?_
      rintro e w1 ⟨rfl, rfl⟩
      dsimp only
      go_wp2_with fail
      refine (sync_calls HH.out.da).mono ?_
      rintro e w1 ⟨rfl, D1, F1⟩
      have S1 := HH.out.calm D1 F1
      have HS1 := Lib.hid S1
      have c1 : w1.cell? ⟨q, 1, none⟩ = some (.int .u32 s.gen) := S1.hq.cellAt rfl
      have HF1 := Lib.hid F1
      clear S1 D1 F1 c0
      dsimp only
      go_upto_region 9 with (refine wpList_store1 rfl 64 _ _ rfl q 1 (.int .u32 (((s.gen : Int) + 1) % 4294967296)) (by rfl) (by rfl) rfl 67 _ HS1.out.hq (by simp [sto]) (by kernel_rfl) rfl ?_; intro w2 B2 F2 S2; rw [HGI.out] at B2; have HB2 := Lib.hid (show Blk w2 q 67 (sto p g1 s.life tl s.at_ s.count s.safe) from B2); have HF2 := Lib.hid F2; clear B2 F2 S2)
      go_wp2_with (first
        | (refine wpList_store1 rfl 3 _ _ rfl q 4 (.int .i64 0) (by rfl) (by rfl) rfl 67 _ HB2.out (by simp [sto]) (by kernel_rfl) rfl ?_; intro w3 B3 F3 S3; have HB3 := Lib.hid (show Blk w3 q 67 (sto p g1 s.life tl 0 s.count s.safe) from B3); have HF3 := Lib.hid F3; clear B3 F3 S3)
        | (refine wpList_store1 rfl 24 _ _ rfl q 3 (.slice none 0 0) (by rfl) (by rfl) rfl 67 _ HB3.out (by simp [sto]) (by kernel_rfl) rfl ?_; intro w4 B4 F4 S4; have HB4 := Lib.hid (show Blk w4 q 67 (sto p g1 s.life (.slice none 0 0) 0 s.count s.safe) from B4); have HF4 := Lib.hid F4; clear B4 F4 S4)
        | (refine wpList_store1 rfl 3 _ _ rfl q 5 (.int .i64 0) (by rfl) (by rfl) rfl 67 _ HB4.out (by simp [sto]) (by kernel_rfl) rfl ?_; intro w5 B5 F5 S5; have HB5 := Lib.hid (show Blk w5 q 67 (sto p g1 s.life (.slice none 0 0) 0 0 s.safe) from B5); have HF5 := Lib.hid F5; clear B5 F5 S5)
        | (refine wpList_store1 rfl 3 _ _ rfl q 6 (.int .i64 0) (by rfl) (by rfl) rfl 67 _ HB5.out (by simp [sto]) (by kernel_rfl) rfl ?_; intro w6 B6 F6 S6; have HB6 := Lib.hid (show Blk w6 q 67 (sto p g1 s.life (.slice none 0 0) 0 0 0) from B6); have HF6 := Lib.hid F6; clear B6 F6 S6))
      have F16 : Fr [q] w1 w6 := (((HF2.out.trans1 HF3.out).trans1 HF4.out).trans1 HF5.out).trans1 HF6.out
      have S6 := HS1.out.fresh F16 HB6.out hg32 HS1.out.l32
      have st6 : Stp (stoX p bb q lv tl) w w6 := (Stp.of HF1.out (fun k hk => by rw [List.mem_singleton.1 hk]; exact .inl (.inr (.inl (by simp))))).trans (Stp.of (X := stoX p bb q lv tl) F16 (fun k hk => by rw [List.mem_singleton.1 hk]; exact .inl (.inl rfl))) (fun k hk => .inl hk)
      have R6 : RdA w6 (stoX p bb q lv tl) a (bv l) := (HR.out.step HF1.out (fun k hk => by rw [List.mem_singleton.1 hk]; exact .inl (.inr (.inl (by simp)))) (fun _ h => .inl h)).step F16 (fun k hk => by rw [List.mem_singleton.1 hk]; exact .inl (.inl rfl)) (fun _ h => .inl h)
      have hz6 := st6.size
      have HST6 := Lib.hid st6
      clear st6 F16 c1
      refine (putS_calls S6 (by omega) a m c l HM.out R6.rd HL.out (by simp) (by omega) (by simp) (by simp [D.calm])).mono ?_
      rintro e w7 ⟨⟨ve, rfl⟩, lv7, tl7, S7, st7, X7⟩
      rw [HRR.out] at S7
      have hr2 : r.2.gen = g1 := by rw [← HRR.out]; rfl
      have HR2 := Lib.hid hr2
      have X7' : ∀ k, stoX p bb q lv7 tl7 k → stoX p bb q lv tl k ∨ w.heap.size ≤ k := fun k hk => by
        rcases X7 k hk with h1 | h1
        · rcases h1 with h1 | h1 | h1
          · exact .inl (.inl h1)
          · simp only [List.mem_cons, ob_nil, List.not_mem_nil, or_false] at h1
            exact .inl (.inr (.inl (by rcases h1 with h1 | h1 <;> simp [h1])))
          · simp at h1
        · exact .inr (Nat.le_trans hz6 h1)
      have HX7 := Lib.hid X7'
      have HST7 := Lib.hid (HST6.out.trans st7 (fun k hk => by
        rcases hk with h1 | h1 | h1
        · exact .inl (.inl h1)
        · simp only [List.mem_cons, ob_nil, List.not_mem_nil, or_false] at h1
          exact .inl (.inr (.inl (by rcases h1 with h1 | h1 <;> simp [h1])))
        · simp at h1))
      have c70 : w7.cell? ⟨q, 0, none⟩ = some (.pointer (some ⟨p, 0, none⟩)) := S7.hq.cellAt rfl
      have HS7 := Lib.hid S7
      clear S7 st7 X7 X7' hr2 S6 R6
      dsimp only
      go_wp2_with fail
      refine (sync_calls HS7.out.da).mono ?_
      rintro e w8 ⟨rfl, D8, F8⟩
      have S8 := HS7.out.calm D8 F8
      have c81 : w8.cell? ⟨q, 1, none⟩ = some (.int .u32 g1) := by rw [← HR2.out]; exact S8.hq.cellAt rfl
      have hq8 : q < w8.heap.size := S8.hq.lt
      have HS8 := Lib.hid S8
      have HF8 := Lib.hid F8
      clear S8 D8 F8 c70
      dsimp only
      go_wp2_with fail
      have hr9 : Rd (w8.alloc (.cells (bv magicL).toArray 5 (8, 9))) (some ⟨w8.heap.size, 0, none⟩) (bv magicL) := Rd.mk (fun j v hv => by
        have := cell_of_row (w8.alloc (.cells (bv magicL).toArray 5 (8, 9))) w8.heap.size (0 + j) _ 5 (8, 9) (World.alloc_heap_new w8 _)
        rw [this, Nat.zero_add]
        simpa using hv)
      refine (put4F_calls (n := 8) (l := magicL) hr9 rfl (by omega) g1 hg32).mono ?_
      rintro e w10 ⟨v10, rfl, O10, F10⟩
      rw [show 8 + 4 = 12 from rfl] at O10
      have F810 : Fr [] w8 w10 := ((Fr.refl [] w8).alloc _).trans0 F10
      replace O10 := O10.base (base' := w8.heap.size) (by rw [World.size_alloc]; omega)
      obtain ⟨a10, k10, rfl, _, _, _⟩ := O10.form
      have HO10 := Lib.hid O10
      have HF810 := Lib.hid F810
      have HS10 := Lib.hid (HS8.out.fr0 F810)
      clear O10 F10 F810 hr9 c81 kc
      have hw32 : IntKind.u32.wrap (m : Int) = (m : Int) := IntWalk.u32_in _ ⟨by omega, by omega⟩
      have hob : ∀ k ∈ ob (Value.slice a10 12 k10), w8.heap.size ≤ k := fun k hk => (HO10.out.lt hk).1
      have hSl : ∀ W', Fr (ob (Value.slice a10 12 k10)) w10 W' → Fr [] w8 W' := fun W' f => HF810.out.trans f (fun k hk hlt => by have := hob k hk; omega)
      have d0 : ∀ W', Fr (ob (Value.slice a10 12 k10)) w10 W' → W'.cell? ⟨q, 0, none⟩ = some (.pointer (some ⟨p, 0, none⟩)) := fun W' f => (HS8.out.hq.fr (hSl W' f) (by simp)).cellAt rfl
      have d1 : ∀ W', Fr (ob (Value.slice a10 12 k10)) w10 W' → W'.cell? ⟨q, 1, none⟩ = some (.int .u32 g1) := fun W' f => by rw [← HR2.out]; exact (HS8.out.hq.fr (hSl W' f) (by simp)).cellAt rfl
      have HSL := Lib.hid hSl
      clear hSl hob
      dsimp only
      go_wp2_with fail
      have hm1 : IntKind.i64.wrap ((g1 : Int).tmod 2) = ((g1 % 2 : Nat) : Int) := by
        rw [Int.tmod_eq_emod_of_nonneg (by omega), IntWalk.i64_in _ (by omega)]
        omega
      refine wp_region_ord (Fr (ob (Value.slice a10 12 k10)) w10) [0,1,2,3,4,5,6,7,8,9,10,11,12,13,14,15] [15] [14, 15] [3, 7] mixed (by kernel_rfl) ?_
      have hS : Fr (ob (Value.slice a10 12 k10)) w10 w10.drew := (Fr.refl _ _).drew
      simp only [pairs, pickN]
      repeat (first | (refine wpO_free ?_ (by rfl) (by rfl) (fun w' => ?_) ?_; rotate_left; (go_simp; rfl); simp only [Act.put, List.setIfInBounds_toArray, List.set_cons_zero, List.set_cons_succ]) | (refine wpO_take ?_ hS (by rfl) (by rfl) (fun w' hw' => ?_) ?_; rotate_left; (go_simp; rfl); simp only [Act.put, List.setIfInBounds_toArray, List.set_cons_zero, List.set_cons_succ]) | (refine wpO_pass (by rfl) ?_; simp only [Act.put, List.setIfInBounds_toArray, List.set_cons_zero, List.set_cons_succ]))
      refine wpO_eff (by rfl) ?_
      refine wpList_callC rfl 33 #[.slice a10 12 k10, .int .u32 m] (by first | (go_simp; done) | (go_simp; rfl)) _ (put4_calls (n := 12) (HO10.out.fr0 ((Fr.refl _ w10).drew)) (by omega) (by have := HF810.out.size; have : w10.drew.heap.size = w10.heap.size := rfl; omega) m (by omega)) ?_
      rintro e w11 ⟨v11, rfl, O11, F11, K11⟩
      rw [show 12 + 4 = 16 from rfl] at O11
      obtain ⟨a11, k11, rfl, _, _, hr11⟩ := O11.form
      have hS11 := hS.trans1 F11
      refine ⟨_, rfl, effQ_keep hS11 ?_⟩
      simp only [Act.put, List.setIfInBounds_toArray, List.set_cons_zero, List.set_cons_succ]
      refine wpO_eff (by rfl) ?_
      have f811 := HSL.out _ hS11
      have S11 := HS8.out.fr0 f811
      refine wpList_callC rfl 10 #[.pointer (some ⟨p, 0, none⟩), .int .i64 ((g1 % 2 : Nat) : Int), .slice a11 16 k11] (by first | (go_simp; done) | (go_simp; rfl)) _ (write_all S11.da (by have := HST7.out.size; have := HF8.out.size; have := f811.size; omega) ((g1 % 2 : Nat) : Int) a11 16 k11 (magicL ++ le4 g1 ++ le4 m) rfl hr11 (by simp [D.calm])) ?_
      rintro e w12 ⟨lv12, rfl, D12, F12, K12⟩
      refine ⟨_, rfl, effQ_skip (by decide) (wpO_nil ?_)⟩
      simp only [Act.put, List.setIfInBounds_toArray, List.set_cons_zero, List.set_cons_succ]
      have hqd : ∀ k ∈ p :: bb :: ob (Value.slice none 0 0), k ≠ q := fun k hk e => by
        subst e
        simp only [List.mem_cons, ob_nil, List.not_mem_nil, or_false] at hk
        rcases hk with hk | hk
        · exact HS8.out.hq.ne HS8.out.da.hp (by decide) hk
        · exact HS8.out.hq.ne HS8.out.da.hb (by decide) hk
      have htd : ∀ k ∈ ob tl7, k ∉ p :: bb :: ob (Value.slice none 0 0) := fun k hk hm => by
        obtain ⟨cur, hc⟩ := HS8.out.ht.blkOf hk
        simp only [List.mem_cons, ob_nil, List.not_mem_nil, or_false] at hm
        rcases hm with hm | hm
        · exact hc.ne HS8.out.da.hp (by decide) hm
        · exact hc.ne HS8.out.da.hb (by decide) hm
      have hbm : Byt (magicL ++ le4 g1 ++ le4 m) := by
        intro y hy
        simp only [magicL, le4, List.mem_append, List.mem_cons, List.not_mem_nil, or_false] at hy
        omega
      have S12 : StoAt w12 base p bb q lv12 tl7 (r.1.calm.write ((g1 % 2 : Nat) : Int) (magicL ++ le4 g1 ++ le4 m)).2 r.2 :=
        ⟨D12, HS8.out.yd.write hbm, S11.hq.fr F12 (fun hm => hqd q hm rfl), S11.ht.fr F12 htd, HS8.out.yt, HS8.out.bq, HS8.out.g32, HS8.out.l32⟩
      have st12 : Stp (stoX p bb q lv tl) w w12 := ((HST7.out.trans (Stp.of (X := stoX p bb q lv tl) HF8.out (fun k hk => by rw [List.mem_singleton.1 hk]; exact .inl (.inr (.inl (by simp))))) (fun k hk => .inl hk)).trans (Stp.of (X := stoX p bb q lv tl) f811 (by simp)) (fun k hk => .inl hk)).trans (Stp.of (X := stoX p bb q lv tl) F12 (fun k hk => by
        simp only [List.mem_cons, ob_nil, List.not_mem_nil, or_false] at hk
        exact .inl (.inr (.inl (by rcases hk with hk | hk <;> simp [hk]))))) (fun k hk => .inl hk)
      have HS12 := Lib.hid S12
      have HST12 := Lib.hid st12
      have c120 : w12.cell? ⟨q, 0, none⟩ = some (.pointer (some ⟨p, 0, none⟩)) := S12.hq.cellAt rfl
      clear S12 st12 S11 D12 F12 K12 O11 F11 K11 hr11 hS11 hS f811 d0 d1 hbm htd hqd
      go_wp2_with fail
      refine (sync_calls HS12.out.da).mono ?_
      rintro e w13 ⟨rfl, D13, F13⟩
      have HS13 := Lib.hid (HS12.out.calm D13 F13)
      have HST13 := Lib.hid (HST12.out.trans (Stp.of (X := stoX p bb q lv tl) F13 (fun k hk => by rw [List.mem_singleton.1 hk]; exact .inl (.inr (.inl (by simp))))) (fun k hk => .inl hk))
      clear D13 F13 c120
      dsimp only
      go_wp2_with fail
      go_ret
      exact ⟨_, _, rfl, HS13.out, HST13.out, fun k hk => HX7.out k (stoX_calm hk)⟩
end Go.Fur
