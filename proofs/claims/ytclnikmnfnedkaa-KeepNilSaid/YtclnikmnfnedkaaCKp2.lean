/- A snapshot in the place of all: contract of Checkpoint. -/
import Derived.Test.YtclnikmnfnedkaaCSto10
import Derived.Lib.SlBytesConst
import Derived.Test.YtclnikmnfnedkaaCSto6
import Derived.WalkMore
import Derived.Test.YtclnikmnfnedkaaCDiskAll
import Derived.Deep.CutBlock
import Derived.Deep.DeepCutAuto
namespace Go.Fur
open Go Go.RowKit Go.Proofs
set_option linter.unusedVariables false
set_option linter.unusedSimpArgs false
/-- Checkpoint(l): the errno, the disk and the store behind it. -/
def ckD (d : D) (s : St) (l : List Int) : D × St := putS d.calm ⟨(s.gen + 1) % 4294967296, s.life, [], 0, 0, 0⟩ l
def ckS (d : D) (s : St) (l : List Int) : Int × D × St :=
  if 524288 < l.length then (3, d, s)
  else if halfP d * 55 < l.length then (10, d, s)
  else (0, ((ckD d s l).1.calm.write ((s.gen + 1) % 4294967296 % 2 : Nat) (magicL ++ le4 ((s.gen + 1) % 4294967296) ++ le4 l.length)).2.calm, (ckD d s l).2)
set_option maxRecDepth 100000 in
set_option maxHeartbeats 1000000 in
/-- A number behind bytes that fill their row. -/
theorem put4F_calls {w : World} {a : Option Addr} {n : Nat} {l : List Int} (hr : Rd w a (bv l)) (hl : l.length = n) (hn : n ≤ 1000000000) (x : Nat) (hx : x < 4294967296) :
    Calls Try.prog 56 #[.slice a n n, .int .u32 x] w fun e w' => ∃ v', e = .returned v' ∧ Own w' w.heap.size 5 1 v' (n + 4) (bv (l ++ le4 x)) ∧ Fr [] w w' := by
  have HR := Lib.hid hr
  have HL := Lib.hid hl
  clear hr hl
  go_enter Try.func56, Try.ntmps56
  go_wp2_with (first
    | (have z := HB1.out; clear z; refine wpList_appF rfl _ _ 33 33 rfl 5 5 .u8 1 Try.underlying33 Try.underlying33 info_byte a n (bv l) (by rfl) (HR.out.fr0 HF1.out) (by rw [bv_length]; exact HL.out) _ 4 4 (bv (le4 x)) (by rfl) (HB1.out.rd0 4) (by simp [bv, le4]) (by omega) (by simp [bv, le4, Value.oneCell']) (by simp only [maxLen]; omega) (by omega) ?_; intro v2 w2 O2 F2; have HO2 := Lib.hid O2; have HF2 := Lib.hid (HF1.out.trans0 F2); clear O2 F2)
    | (refine wpList_buildN rfl 33 5 4 [(0, .tmp 7), (1, .tmp 10), (2, .tmp 13), (3, .tmp 16)] rfl [(0, .int .u8 ((x : Int) % 256)), (1, .int .u8 ((x : Int) / 256 % 256)), (2, .int .u8 ((x : Int) / 65536 % 256)), (3, .int .u8 ((x : Int) / 16777216))] (by rfl) (bv (le4 x)) (bytes_build4 _ _ _ _) ?_; intro w1 B1 F1 S1; have HB1 := Lib.hid B1; have HF1 := Lib.hid F1; have HS1 := Lib.hid S1; clear B1 F1 S1))
  go_ret
  refine ⟨v2, rfl, ?_, HF2.out⟩
  have h := HO2.out
  rw [← bv_append] at h
  exact h.base (by have := HF1.out.size; omega)
/-- The disk of a store is made safe. -/
theorem StoAt.calm {w w' : World} {base p bb q : Nat} {lv tl : Value} {d : D} {s : St} (h : StoAt w base p bb q lv tl d s) (hd : DiskAt w' base p bb (.slice none 0 0) d.calm) (f : Fr [p] w w') : StoAt w' base p bb q (.slice none 0 0) tl d.calm s := by
  refine ⟨hd, h.yd.calm, h.hq.fr f (fun hm => h.hq.ne h.da.hp (by decide) (List.mem_singleton.1 hm)), h.ht.fr f (fun k hk hm => ?_), h.yt, h.bq, h.g32, h.l32⟩
  obtain ⟨cur, hc⟩ := h.ht.blkOf hk
  exact hc.ne h.da.hp (by decide) (List.mem_singleton.1 hm)
/-- A store that begins anew. -/
theorem StoAt.fresh {w w' : World} {base p bb q : Nat} {lv tl : Value} {d : D} {s : St} {g l : Nat} (h : StoAt w base p bb q lv tl d s) (f : Fr [q] w w') (hq : Blk w' q 103 (sto p g l (.slice none 0 0) 0 0 0)) (hg : g < 4294967296) (hl : l < 4294967296) : StoAt w' base p bb q lv (.slice none 0 0) d ⟨g, l, [], 0, 0, 0⟩ := by
  have hqd : ∀ k ∈ p :: bb :: ob lv, k ∉ [q] := fun k hk hm => by
    have e := List.mem_singleton.1 hm
    subst e
    simp only [List.mem_cons] at hk
    rcases hk with hk | hk | hk
    · exact h.hq.ne h.da.hp (by decide) hk
    · exact h.hq.ne h.da.hb (by decide) hk
    · obtain ⟨cur, hc⟩ := h.da.hl.blkOf hk
      exact h.hq.ne hc (by decide) rfl
  exact ⟨h.da.fr f (hqd p (by simp)) (hqd bb (by simp)) (fun k hk => hqd k (by simp [hk])), h.yd, hq, Own.nil _ _ _ _, Byt.nil, h.bq, hg, hl⟩
theorem stoX_calm {p bb q : Nat} {lv tl : Value} {k : Nat} (h : stoX p bb q (.slice none 0 0) tl k) : stoX p bb q lv tl k := by
  rcases h with h | h | h
  · exact .inl h
  · simp only [List.mem_cons, ob_nil, List.not_mem_nil, or_false] at h
    exact .inr (.inl (by rcases h with h | h <;> simp [h]))
  · exact .inr (.inr h)
set_option maxRecDepth 100000 in
set_option maxHeartbeats 8000000 in
theorem check_calls {w : World} {base p bb q : Nat} {lv tl : Value} {d : D} {s : St} (h : StoAt w base p bb q lv tl d s) (hbase : base ≤ w.heap.size) (a : Option Addr) (m c : Nat) (l : List Int) (hm : l.length = m) (hr : RdA w (stoX p bb q lv tl) a (bv l)) (hl : Byt l) (hmc : m ≤ maxLen) :
    Calls Try.prog 40 #[.pointer (some ⟨q, 0, none⟩), .slice a m c] w fun e w' => ∃ lv' tl', e = .returned (.int .i64 (ckS d s l).1) ∧ StoAt w' base p bb q lv' tl' (ckS d s l).2.1 (ckS d s l).2.2 ∧ Stp (stoX p bb q lv tl) w w' ∧ ∀ k, stoX p bb q lv' tl' k → stoX p bb q lv tl k ∨ w.heap.size ≤ k := by
  have hm63 : m ≤ 9223372036854775807 := by unfold maxLen at hmc; exact hmc
  have hhf := halfP_le h.da.wf
  have HH := Lib.hid h
  have HR := Lib.hid hr
  have HL := Lib.hid hl
  unfold ckS
  rw [hm]
  have HM := Lib.hid hm
  have HHf := Lib.hid (half_calls h.da h.hq)
  have c0 : w.cell? ⟨q, 0, none⟩ = some (.pointer (some ⟨p, 0, none⟩)) := h.hq.cellAt rfl
  obtain ⟨hp, hhp⟩ : ∃ hp, halfP d = hp := ⟨_, rfl⟩
  rw [hhp] at HHf hhf ⊢
  clear h hr hl hm hhp
  by_cases hbig : 524288 < m
  · have hb1 : (524288 : Int) < (m : Int) := by omega
    rw [if_pos hbig]
    go_enter Try.func40, Try.ntmps40
    go_wp2_with fail
    go_ret
    exact ⟨lv, tl, rfl, HH.out, Stp.refl _ _, fun k hk => .inl hk⟩
  · have hb1 : ¬ (524288 : Int) < (m : Int) := by omega
    rw [if_neg hbig]
    by_cases hfull : hp * 55 < m
    · rw [if_pos hfull]
      have hb2 : (hp : Int) * 55 < (m : Int) := by omega
      go_enter Try.func40, Try.ntmps40
      go_wp2_with fail
      refine HHf.out.mono ?_
      rintro e w1 ⟨rfl, rfl⟩
      dsimp only
      go_wp2_with fail
      go_ret
      exact ⟨lv, tl, rfl, HH.out, Stp.refl _ _, fun k hk => .inl hk⟩
    · rw [if_neg hfull]
      have hb2 : ¬ (hp : Int) * 55 < (m : Int) := by omega
      obtain ⟨r, hr⟩ : ∃ r, ckD d s l = r := ⟨_, rfl⟩
      rw [hr]
      obtain ⟨g1, hg1⟩ : ∃ g1, (s.gen + 1) % 4294967296 = g1 := ⟨_, rfl⟩
      have hg32 : g1 < 4294967296 := by omega
      have hgi : ((s.gen : Int) + 1) % 4294967296 = (g1 : Int) := by omega
      unfold ckD at hr
      rw [hg1] at hr ⊢
      have HRR := Lib.hid hr
      have HGI := Lib.hid hgi
      clear hr hg1 hgi
      have kc := fun (w : World) (C : Array Value) (n c : Nat) => Lib.run_convert_bytes_const (P := Try.prog) w 33 5 C n c Try.underlying33 Try.underlying5
      go_enter Try.func40, Try.ntmps40
      go_wp2_with fail
      refine HHf.out.mono ?_
      rintro e w1 ⟨rfl, rfl⟩
      dsimp only
      go_wp2_with fail
      refine (sync_calls HH.out.da).mono ?_
      rintro e w1 ⟨rfl, D1, F1⟩
      have S1 := HH.out.calm D1 F1
      have HS1 := Lib.hid S1
      have c1 : w1.cell? ⟨q, 1, none⟩ = some (.int .u32 s.gen) := S1.hq.cellAt rfl
      have HF1 := Lib.hid F1
      clear S1 D1 F1 c0
      dsimp only
      go_upto_region 9 with (refine wpList_store1 rfl 101 _ _ rfl q 1 (.int .u32 (((s.gen : Int) + 1) % 4294967296)) (by rfl) (by rfl) rfl 103 _ HS1.out.hq (by simp [sto]) (by kernel_rfl) rfl ?_; intro w2 B2 F2 S2; rw [HGI.out] at B2; have HB2 := Lib.hid (show Blk w2 q 103 (sto p g1 s.life tl s.at_ s.count s.safe) from B2); have HF2 := Lib.hid F2; clear B2 F2 S2)
      go_wp2_with (first
        | (refine wpList_store1 rfl 3 _ _ rfl q 4 (.int .i64 0) (by rfl) (by rfl) rfl 103 _ HB2.out (by simp [sto]) (by kernel_rfl) rfl ?_; intro w3 B3 F3 S3; have HB3 := Lib.hid (show Blk w3 q 103 (sto p g1 s.life tl 0 s.count s.safe) from B3); have HF3 := Lib.hid F3; clear B3 F3 S3)
        | (refine wpList_store1 rfl 33 _ _ rfl q 3 (.slice none 0 0) (by rfl) (by rfl) rfl 103 _ HB3.out (by simp [sto]) (by kernel_rfl) rfl ?_; intro w4 B4 F4 S4; have HB4 := Lib.hid (show Blk w4 q 103 (sto p g1 s.life (.slice none 0 0) 0 s.count s.safe) from B4); have HF4 := Lib.hid F4; clear B4 F4 S4)
        | (refine wpList_store1 rfl 3 _ _ rfl q 5 (.int .i64 0) (by rfl) (by rfl) rfl 103 _ HB4.out (by simp [sto]) (by kernel_rfl) rfl ?_; intro w5 B5 F5 S5; have HB5 := Lib.hid (show Blk w5 q 103 (sto p g1 s.life (.slice none 0 0) 0 0 s.safe) from B5); have HF5 := Lib.hid F5; clear B5 F5 S5)
        | (refine wpList_store1 rfl 3 _ _ rfl q 6 (.int .i64 0) (by rfl) (by rfl) rfl 103 _ HB5.out (by simp [sto]) (by kernel_rfl) rfl ?_; intro w6 B6 F6 S6; have HB6 := Lib.hid (show Blk w6 q 103 (sto p g1 s.life (.slice none 0 0) 0 0 0) from B6); have HF6 := Lib.hid F6; clear B6 F6 S6))
      have F16 : Fr [q] w1 w6 := (((HF2.out.trans1 HF3.out).trans1 HF4.out).trans1 HF5.out).trans1 HF6.out
      have S6 := HS1.out.fresh F16 HB6.out hg32 HS1.out.l32
      have st6 : Stp (stoX p bb q lv tl) w w6 := (Stp.of HF1.out (fun k hk => by rw [List.mem_singleton.1 hk]; exact .inl (.inr (.inl (by simp))))).trans (Stp.of (X := stoX p bb q lv tl) F16 (fun k hk => by rw [List.mem_singleton.1 hk]; exact .inl (.inl rfl))) (fun k hk => .inl hk)
      have R6 : RdA w6 (stoX p bb q lv tl) a (bv l) := (HR.out.step HF1.out (fun k hk => by rw [List.mem_singleton.1 hk]; exact .inl (.inr (.inl (by simp)))) (fun _ h => .inl h)).step F16 (fun k hk => by rw [List.mem_singleton.1 hk]; exact .inl (.inl rfl)) (fun _ h => .inl h)
      have hz6 := st6.size
      have HST6 := Lib.hid st6
      clear st6 F16 c1
      refine (putS_calls S6 (by omega) a m c l HM.out R6.rd HL.out (by simp) (by omega) (by simp) (by simp [D.calm])).mono ?_
      rintro e w7 ⟨⟨ve, rfl⟩, lv7, tl7, S7, st7, X7⟩
      rw [HRR.out] at S7
      have hr2 : r.2.gen = g1 := by rw [← HRR.out]; rfl
      have HR2 := Lib.hid hr2
      have X7' : ∀ k, stoX p bb q lv7 tl7 k → stoX p bb q lv tl k ∨ w.heap.size ≤ k := fun k hk => by
        rcases X7 k hk with h1 | h1
        · rcases h1 with h1 | h1 | h1
          · exact .inl (.inl h1)
          · simp only [List.mem_cons, ob_nil, List.not_mem_nil, or_false] at h1
            exact .inl (.inr (.inl (by rcases h1 with h1 | h1 <;> simp [h1])))
          · simp at h1
        · exact .inr (Nat.le_trans hz6 h1)
      have HX7 := Lib.hid X7'
      have HST7 := Lib.hid (HST6.out.trans st7 (fun k hk => by
        rcases hk with h1 | h1 | h1
        · exact .inl (.inl h1)
        · simp only [List.mem_cons, ob_nil, List.not_mem_nil, or_false] at h1
          exact .inl (.inr (.inl (by rcases h1 with h1 | h1 <;> simp [h1])))
        · simp at h1))
      have c70 : w7.cell? ⟨q, 0, none⟩ = some (.pointer (some ⟨p, 0, none⟩)) := S7.hq.cellAt rfl
      have HS7 := Lib.hid S7
      clear S7 st7 X7 X7' hr2 S6 R6
      dsimp only
      go_wp2_with fail
      refine (sync_calls HS7.out.da).mono ?_
      rintro e w8 ⟨rfl, D8, F8⟩
      have S8 := HS7.out.calm D8 F8
      have c81 : w8.cell? ⟨q, 1, none⟩ = some (.int .u32 g1) := by rw [← HR2.out]; exact S8.hq.cellAt rfl
      have hq8 : q < w8.heap.size := S8.hq.lt
      have HS8 := Lib.hid S8
      have HF8 := Lib.hid F8
      clear S8 D8 F8 c70
      dsimp only
      go_wp2_with fail
      have hr9 : Rd (w8.alloc (.cells (bv magicL).toArray 5 (8, 9))) (some ⟨w8.heap.size, 0, none⟩) (bv magicL) := Rd.mk (fun j v hv => by
        have := cell_of_row (w8.alloc (.cells (bv magicL).toArray 5 (8, 9))) w8.heap.size (0 + j) _ 5 (8, 9) (World.alloc_heap_new w8 _)
        rw [this, Nat.zero_add]
        simpa using hv)
      refine (put4F_calls (n := 8) (l := magicL) hr9 rfl (by omega) g1 hg32).mono ?_
      rintro e w10 ⟨v10, rfl, O10, F10⟩
      rw [show 8 + 4 = 12 from rfl] at O10
      have F810 : Fr [] w8 w10 := ((Fr.refl [] w8).alloc _).trans0 F10
      replace O10 := O10.base (base' := w8.heap.size) (by rw [World.size_alloc]; omega)
      obtain ⟨a10, k10, rfl, _, _, _⟩ := O10.form
      have HO10 := Lib.hid O10
      have HF810 := Lib.hid F810
      have HS10 := Lib.hid (HS8.out.fr0 F810)
      clear O10 F10 F810 hr9 c81 kc
      have hw32 : IntKind.u32.wrap (m : Int) = (m : Int) := IntWalk.u32_in _ ⟨by omega, by omega⟩
      have hob : ∀ k ∈ ob (Value.slice a10 12 k10), w8.heap.size ≤ k := fun k hk => (HO10.out.lt hk).1
      have hSl : ∀ W', Fr (ob (Value.slice a10 12 k10)) w10 W' → Fr [] w8 W' := fun W' f => HF810.out.trans f (fun k hk hlt => by have := hob k hk; omega)
      have d0 : ∀ W', Fr (ob (Value.slice a10 12 k10)) w10 W' → W'.cell? ⟨q, 0, none⟩ = some (.pointer (some ⟨p, 0, none⟩)) := fun W' f => (HS8.out.hq.fr (hSl W' f) (by simp)).cellAt rfl
      have d1 : ∀ W', Fr (ob (Value.slice a10 12 k10)) w10 W' → W'.cell? ⟨q, 1, none⟩ = some (.int .u32 g1) := fun W' f => by rw [← HR2.out]; exact (HS8.out.hq.fr (hSl W' f) (by simp)).cellAt rfl
      have HSL := Lib.hid hSl
      clear hSl hob
      dsimp only
      go_wp2_with fail
      have hm1 : IntKind.i64.wrap ((g1 : Int).tmod 2) = ((g1 % 2 : Nat) : Int) := by
        rw [Int.tmod_eq_emod_of_nonneg (by omega), IntWalk.i64_in _ (by omega)]
        omega
      refine wp_region_ord (Fr (ob (Value.slice a10 12 k10)) w10) [0,1,2,3,4,5,6,7,8,9,10,11,12,13,14,15] [15] [14, 15] [3, 7] mixed (by kernel_rfl) ?_
      have hS : Fr (ob (Value.slice a10 12 k10)) w10 w10.drew := (Fr.refl _ _).drew
      simp only [pairs, pickN]
      repeat (first | (refine wpO_free ?_ (by rfl) (by rfl) (fun w' => ?_) ?_; rotate_left; (go_simp; rfl); simp only [Act.put, List.setIfInBounds_toArray, List.set_cons_zero, List.set_cons_succ]) | (refine wpO_take ?_ hS (by rfl) (by rfl) (fun w' hw' => ?_) ?_; rotate_left; (go_simp; rfl); simp only [Act.put, List.setIfInBounds_toArray, List.set_cons_zero, List.set_cons_succ]) | (refine wpO_pass (by rfl) ?_; simp only [Act.put, List.setIfInBounds_toArray, List.set_cons_zero, List.set_cons_succ]))
      refine wpO_eff (by rfl) ?_
      refine wpList_callC rfl 56 #[.slice a10 12 k10, .int .u32 m] (by first | (go_simp; done) | (go_simp; rfl)) _ (put4_calls (n := 12) (HO10.out.fr0 ((Fr.refl _ w10).drew)) (by omega) (by have := HF810.out.size; have : w10.drew.heap.size = w10.heap.size := rfl; omega) m (by omega)) ?_
      rintro e w11 ⟨v11, rfl, O11, F11, K11⟩
      rw [show 12 + 4 = 16 from rfl] at O11
      obtain ⟨a11, k11, rfl, _, _, hr11⟩ := O11.form
      have hS11 := hS.trans1 F11
      refine ⟨_, rfl, effQ_keep hS11 ?_⟩
      simp only [Act.put, List.setIfInBounds_toArray, List.set_cons_zero, List.set_cons_succ]
      refine wpO_eff (by rfl) ?_
      have f811 := HSL.out _ hS11
      have S11 := HS8.out.fr0 f811
      refine wpList_callC rfl 57 #[.pointer (some ⟨p, 0, none⟩), .int .i64 ((g1 % 2 : Nat) : Int), .slice a11 16 k11] (by first | (go_simp; done) | (go_simp; rfl)) _ (write_all S11.da (by have := HST7.out.size; have := HF8.out.size; have := f811.size; omega) ((g1 % 2 : Nat) : Int) a11 16 k11 (magicL ++ le4 g1 ++ le4 m) rfl hr11 (by simp [D.calm])) ?_
      rintro e w12 ⟨lv12, rfl, D12, F12, K12⟩
      refine ⟨_, rfl, effQ_skip (by decide) (wpO_nil ?_)⟩
      simp only [Act.put, List.setIfInBounds_toArray, List.set_cons_zero, List.set_cons_succ]
      have hqd : ∀ k ∈ p :: bb :: ob (Value.slice none 0 0), k ≠ q := fun k hk e => by
        subst e
        simp only [List.mem_cons, ob_nil, List.not_mem_nil, or_false] at hk
        rcases hk with hk | hk
        · exact HS8.out.hq.ne HS8.out.da.hp (by decide) hk
        · exact HS8.out.hq.ne HS8.out.da.hb (by decide) hk
      have htd : ∀ k ∈ ob tl7, k ∉ p :: bb :: ob (Value.slice none 0 0) := fun k hk hm => by
        obtain ⟨cur, hc⟩ := HS8.out.ht.blkOf hk
        simp only [List.mem_cons, ob_nil, List.not_mem_nil, or_false] at hm
        rcases hm with hm | hm
        · exact hc.ne HS8.out.da.hp (by decide) hm
        · exact hc.ne HS8.out.da.hb (by decide) hm
      have hbm : Byt (magicL ++ le4 g1 ++ le4 m) := by
        intro y hy
        simp only [magicL, le4, List.mem_append, List.mem_cons, List.not_mem_nil, or_false] at hy
        omega
      have S12 : StoAt w12 base p bb q lv12 tl7 (r.1.calm.write ((g1 % 2 : Nat) : Int) (magicL ++ le4 g1 ++ le4 m)).2 r.2 :=
        ⟨D12, HS8.out.yd.write hbm, S11.hq.fr F12 (fun hm => hqd q hm rfl), S11.ht.fr F12 htd, HS8.out.yt, HS8.out.bq, HS8.out.g32, HS8.out.l32⟩
      have st12 : Stp (stoX p bb q lv tl) w w12 := ((HST7.out.trans (Stp.of (X := stoX p bb q lv tl) HF8.out (fun k hk => by rw [List.mem_singleton.1 hk]; exact .inl (.inr (.inl (by simp))))) (fun k hk => .inl hk)).trans (Stp.of (X := stoX p bb q lv tl) f811 (by simp)) (fun k hk => .inl hk)).trans (Stp.of (X := stoX p bb q lv tl) F12 (fun k hk => by
        simp only [List.mem_cons, ob_nil, List.not_mem_nil, or_false] at hk
        exact .inl (.inr (.inl (by rcases hk with hk | hk <;> simp [hk]))))) (fun k hk => .inl hk)
      have HS12 := Lib.hid S12
      have HST12 := Lib.hid st12
      have c120 : w12.cell? ⟨q, 0, none⟩ = some (.pointer (some ⟨p, 0, none⟩)) := S12.hq.cellAt rfl
      clear S12 st12 S11 D12 F12 K12 O11 F11 K11 hr11 hS11 hS f811 d0 d1 hbm htd hqd
      go_wp2_with fail
      refine (sync_calls HS12.out.da).mono ?_
      rintro e w13 ⟨rfl, D13, F13⟩
      have HS13 := Lib.hid (HS12.out.calm D13 F13)
      have HST13 := Lib.hid (HST12.out.trans (Stp.of (X := stoX p bb q lv tl) F13 (fun k hk => by rw [List.mem_singleton.1 hk]; exact .inl (.inr (.inl (by simp))))) (fun k hk => .inl hk))
      clear D13 F13 c120
      dsimp only
      go_wp2_with fail
      go_ret
      exact ⟨_, _, rfl, HS13.out, HST13.out, fun k hk => HX7.out k (stoX_calm hk)⟩
end Go.Fur
namespace Go.Fur
open Go Go.RowKit Go.Proofs
set_option linter.unusedVariables false
set_option linter.unusedSimpArgs false
/-- The records that stand in the bytes A from e on, and where they end. -/
def recsP (A : List Int) : Nat → Nat → List (List Int) × Nat
  | 0, e => ([], e)
  | f + 1, e =>
    if A.length < e + 4 then ([], e)
    else if 65536 < four4 A e ∨ A.length < e + 4 + four4 A e then ([], e)
    else ((A.drop (e + 4)).take (four4 A e) :: (recsP A f (e + 4 + four4 A e)).1, (recsP A f (e + 4 + four4 A e)).2)
structure Opn where
  gen : Nat
  life : Nat
  whole : Bool
  snap : List Int
  recs : List (List Int)
  at_ : Nat
  tail : List Int
def allP (d : D) : List Int := (readB d (rootP d.now).1).flatten
/-- What is there when the snapshot's length is n and all bytes are A. -/
def openA (gen life : Nat) (whole : Bool) (n : Nat) (A : List Int) : Opn :=
  ⟨gen, life, whole, A.take n, (recsP A (A.length + 1) n).1, (recsP A (A.length + 1) n).2 / 55, (A.take (recsP A (A.length + 1) n).2).drop ((recsP A (A.length + 1) n).2 / 55 * 55)⟩
def lifeP (d : D) : Nat := (eldL d (d.now.length - 2) + 1) % 4294967296
def openP (d : D) : Opn :=
  if (allP d).length < (rootP d.now).2.1 then openA (rootP d.now).1 (lifeP d) false 0 [] else openA (rootP d.now).1 (lifeP d) (rootP d.now).2.2 (rootP d.now).2.1 (allP d)
theorem results_cellMid {P : Program} {fn : Func} {p t u : Tmp} {ty : TypeId} (h : fn.results = #[.tmp t, .cell p ty, .tmp u]) (tmps : Array Value) (w : World) (g : Nat) (ty' : TypeId) (cs : List Value) (dd : TypeDesc)
    (hp : tmps.getD p undef = .pointer (some ⟨g, 0, none⟩)) (hg : Blk w g ty' cs)
    (hu : P.underlying ty = some dd) (hd : (match dd with | .struct _ | .array _ _ => true | _ => false) = true) (hi : (P.info? ty).map (·.size) = some cs.length) :
    (results fn tmps).run P w = .ok (.tuple #[tmps.getD t undef, .agg cs.toArray, tmps.getD u undef]) w := by
  have hp' : tmps[p]?.getD undef = .pointer (some ⟨g, 0, none⟩) := by simpa using hp
  simp [results, h, hp', asAddr, run_loadVar_row w g ty' ty cs.toArray (0, 0) dd hg hu hd (by simpa using hi)]
theorem found_size : (Try.prog.info? 85).map (·.size) = some 3 := by kernel_rfl
theorem found_zero : ∀ w, (zeroValue 85).run Try.prog w = .ok (.agg ([Value.bool false, .slice none 0 0, .slice none 0 0] : List Value).toArray) w := fun w => by kernel_rfl
theorem found_build : ∀ w, (Instr.build 85 #[]).run Try.prog w = .ok (.agg ([Value.bool false, .slice none 0 0, .slice none 0 0] : List Value).toArray) w := fun w => by kernel_rfl
set_option maxRecDepth 100000 in
set_option maxHeartbeats 1000000 in
theorem openN_calls (w : World) : Calls Try.prog 32 #[.pointer none] w fun e w' => e = .returned (.tuple #[.pointer none, .agg #[.bool false, .slice none 0 0, .slice none 0 0], .int .i64 17]) ∧ Fr [] w w' := by
  go_enter Try.func32, Try.ntmps32
  go_wp2_with fail
  go_step3
  go_wp2_with fail
  rw [Exit.noGoto_ret]
  have B1 := Blk.new w 85 [.bool false, .slice none 0 0, .slice none 0 0]
  exact bodyPost_ret (results_cellMid rfl _ _ w.heap.size 85 [.bool false, .slice none 0 0, .slice none 0 0] _ (by rfl) B1 Try.underlying85 (by rfl) found_size) rfl ⟨rfl, (Fr.refl [] w).alloc _⟩
end Go.Fur
namespace Go.Fur
open Go Go.RowKit Go.Proofs
set_option linter.unusedVariables false
set_option linter.unusedSimpArgs false
theorem ssync_calls {w : World} {base p bb q : Nat} {lv tl : Value} {d : D} {s : St} (h : StoAt w base p bb q lv tl d s) :
    Calls Try.prog 31 #[.pointer (some ⟨q, 0, none⟩)] w fun e w' => e = .returned (.int .i64 0) ∧ StoAt w' base p bb q (.slice none 0 0) tl d.calm { s with safe := s.count } ∧ Fr [p, q] w w' :=
  (syncS_calls h.da h.hq).mono fun e w' ⟨he, hd, hq, hf⟩ => by
    refine ⟨he, ⟨hd, h.yd.calm, hq, h.ht.fr hf (fun k hk hm => ?_), h.yt, h.bq, h.g32, h.l32⟩, hf⟩
    obtain ⟨cur, hc⟩ := h.ht.blkOf hk
    simp only [List.mem_cons, List.not_mem_nil, or_false] at hm
    rcases hm with hm | hm
    · exact hc.ne h.da.hp (by decide) hm
    · exact hc.ne h.hq (by decide) hm
def Dr (w W : World) : Prop := ∃ j, W = w.drewN j
theorem Dr.refl (w : World) : Dr w w := ⟨0, rfl⟩
theorem Dr.drew (w : World) : Dr w w.drew := ⟨1, rfl⟩
theorem Dr.trans {a b c : World} (h : Dr a b) (g : Dr b c) : Dr a c := by
  obtain ⟨j, rfl⟩ := h
  obtain ⟨k, rfl⟩ := g
  exact ⟨j + k, by rw [World.drewN_drewN]⟩
theorem Dr.fr {a b : World} (h : Dr a b) : Fr [] a b := by
  obtain ⟨j, rfl⟩ := h
  exact (Fr.refl _ _).drewN _
def LisR (w : World) (xs ys : List (List Int)) (i : Value) (wr : World) : Prop := ∃ k : Nat, k ≤ xs.length ∧ i = .int .i64 k ∧ xs.take k = ys.take k ∧ Dr w wr
end Go.Fur
namespace Go.Fur
open Go Go.RowKit Go.Proofs
set_option linter.unusedVariables false
set_option linter.unusedSimpArgs false
def ivs (l : List Int) : List Value := l.map (Value.int .i64)
theorem ints_nil (l : List Int) : l.flatMap layI = (l.flatMap layI) := rfl
theorem flatI_snoc (l : List Int) (x : Int) : (l ++ [x]).flatMap layI = l.flatMap layI ++ layI x := by simp
theorem flatI_length : ∀ l : List Int, (l.flatMap layI).length ≤ 9 * l.length
  | [] => by simp
  | x :: l => by
    have h1 := layI_length x
    have h2 := flatI_length l
    simp only [List.flatMap_cons, List.length_append, List.length_cons]
    omega
def IntsR (w : World) (b0 l : List Int) (v i : Value) (wr : World) : Prop :=
  ∃ (k : Nat) (a : Option Addr) (c : Nat), k ≤ l.length ∧ i = .int .i64 k ∧ v = .slice a (b0 ++ (l.take k).flatMap layI).length c ∧ Rd wr a (bv (b0 ++ (l.take k).flatMap layI)) ∧ Fr [] w wr ∧ (0 < k → Own wr w.heap.size 5 1 v (b0 ++ (l.take k).flatMap layI).length (bv (b0 ++ (l.take k).flatMap layI)))
set_option maxRecDepth 100000 in
set_option maxHeartbeats 1000000 in
theorem ints_calls (w : World) (a : Option Addr) (n c : Nat) (b0 : List Int) (hb : b0.length = n) (ra : Rd w a (bv b0)) (g m cm : Nat) (l : List Int) (hg : Blk w g 3 (ivs l)) (hm : l.length = m) (hpos : 0 < m) (hI : ∀ x ∈ l, I64 x) (hr : n + 9 * (m + 1) ≤ 70368744177664) (hcm : m ≤ 1000) :
    Calls Try.prog 29 #[.slice a n c, .slice (some ⟨g, 0, none⟩) m cm] w fun e w' => ∃ v, e = .returned v ∧ Own w' w.heap.size 5 1 v (b0 ++ l.flatMap layI).length (bv (b0 ++ l.flatMap layI)) ∧ Fr [] w w' := by
  subst hb hm
  have HG := Lib.hid hg
  have HI := Lib.hid hI
  have HR0 := Lib.hid (show IntsR w b0 l (.slice a b0.length c) (.int .i64 (0 : Nat)) w from ⟨0, a, c, Nat.zero_le _, rfl, by simp, by simpa using ra, Fr.refl _ _, fun h => by omega⟩)
  clear hg hI ra
  obtain ⟨R, hR⟩ : ∃ R, b0 ++ l.flatMap layI = R := ⟨_, rfl⟩
  rw [hR]
  have HRR := Lib.hid hR
  clear hR
  go_enter Try.func29, Try.ntmps29
  go_wp2_with fail
  go_loopw [0, 9] (fun v i wr => IntsR w b0 l v i wr) (fun _ i _ => l.length - (intOf i).toNat)
  case atStart => exact HR0.out
  case round =>
    obtain ⟨k, a1, c1, hk, rfl, rfl, hrd, hF, hO⟩ := hrel
    have hfl := flatI_length (l.take k)
    have htk : (l.take k).length = k := by rw [List.length_take]; omega
    by_cases hlt : k < l.length
    · obtain ⟨y, hy⟩ : ∃ y, l[k]? = some y := ⟨l[k], List.getElem?_eq_getElem hlt⟩
      have hsn : l.take (k + 1) = l.take k ++ [y] := by rw [List.take_add_one, hy]; rfl
      have hyI := HI.out y (List.mem_of_getElem? hy)
      have cy : wr.cell? ⟨g, k, none⟩ = some (.int .i64 y) := (HG.out.fr hF (by simp)).cellAt (by simp [ivs, hy])
      have kb : (k : Int) < (l.length : Int) := by omega
      have hz := hF.size
      have HC := Lib.hid (layInt_calls wr a1 (b0 ++ (l.take k).flatMap layI).length c1 _ rfl (by simp only [List.length_append]; omega) hrd y hyI)
      have HN := Lib.hid hsn
      have HF := Lib.hid hF
      clear hrd hF hO hsn hy hyI hfl htk
      generalize hB : b0 ++ (l.take k).flatMap layI = B at *
      have HB := Lib.hid hB
      clear hB
      go_wp2_with fail
      refine HC.out.mono ?_
      rintro e w1 ⟨v1, rfl, O1, F1⟩
      obtain ⟨a2, c2, rfl, g1, g2, g3⟩ := O1.form
      have HR := Lib.hid (show IntsR w b0 l (.slice a2 (B ++ layI y).length c2) (.int .i64 (k + 1 : Nat)) w1 from by
        have e : b0 ++ (l.take (k + 1)).flatMap layI = B ++ layI y := by rw [HN.out, flatI_snoc, ← List.append_assoc, HB.out]
        refine ⟨k + 1, a2, c2, by omega, rfl, by rw [e], by rw [e]; exact g3, HF.out.trans0 F1, fun _ => by rw [e]; exact O1.base hz⟩)
      clear O1 F1 g1 g2 g3
      dsimp only
      go_wp2_with fail
      go_roundw
      case rel => exact HR.out
      case measure => simp [intOf]; omega
    · have hkl : k = l.length := by omega
      subst hkl
      have kb : ¬ ((l.length : Int) < (l.length : Int)) := by omega
      rw [List.take_length] at hO hrd
      have HO := Lib.hid (hO hpos)
      have HF := Lib.hid hF
      clear hO hF hrd hfl htk
      simp only [List.take_length] at *
      rw [HRR.out] at HO
      rw [show (b0 ++ l.flatMap layI).length = R.length by rw [HRR.out]]
      go_wp2_with fail
      go_ret
      exact ⟨_, rfl, HO.out, HF.out⟩
/-- What is kept. -/
structure KP where
  term : Int
  vote : Int
  base : Int
  bt : Int
  snap : List Int
  es : List (Int × List Int)
def KP.new : KP := ⟨0, -1, 0, 0, [], []⟩
def KP.last (k : KP) : Int := k.base + k.es.length
def eB (e : Int × List Int) : List Int := layI e.1 ++ layB e.2
def KP.pack (k : KP) : List Int := layI k.term ++ layI k.vote ++ layI k.base ++ layI k.bt ++ layB k.snap ++ layI k.es.length ++ k.es.flatMap eB
structure KP.wf (k : KP) : Prop where
  term : I64 k.term
  vote : I64 k.vote
  base : 0 ≤ k.base ∧ k.base ≤ 1152921504606846976
  bt : I64 k.bt
  snap : Byt k.snap
  sl : k.snap.length ≤ 1048576
  es : ∀ e ∈ k.es, I64 e.1 ∧ Byt e.2 ∧ e.2.length ≤ 1048576
  el : k.es.length ≤ 1000000
theorem KP.wf.baseI {k : KP} (h : k.wf) : I64 k.base := by have := h.base; unfold I64; omega
theorem KP.wf.lastI {k : KP} (h : k.wf) : 0 ≤ k.last ∧ k.last ≤ 1152921504607846976 := by have := h.base; have := h.el; unfold KP.last; omega
def kpC (q : Nat) (k : KP) (vs ve : Value) : List Value := [.pointer (some ⟨q, 0, none⟩), .int .i64 k.term, .int .i64 k.vote, .int .i64 k.base, .int .i64 k.bt, vs, ve]
/-- An entry's two cells. -/
def EntL (w : World) (Y : Nat → Prop) (cs : List Value) (t : Int × List Int) : Prop := ∃ v, cs = [.int .i64 t.1, v] ∧ Bs w Y v t.2
theorem EntL.step {S : List Nat} {w w' : World} {X X' : Nat → Prop} {cs : List Value} {t : Int × List Int} (h : EntL w X cs t) (f : Fr S w w') (hS : ∀ k ∈ S, X k ∨ w.heap.size ≤ k) (hX : ∀ k, X' k → X k ∨ w.heap.size ≤ k) : EntL w' X' cs t := by
  obtain ⟨v, h1, h2⟩ := h
  exact ⟨v, h1, h2.step f hS hX⟩
/-- A row of entries. -/
def Ents (w : World) (Y : Nat → Prop) (ve : Value) (l : List (Int × List Int)) : Prop := ∃ a c css, ve = .slice a l.length c ∧ RowA EntL 2 w Y a l css ∧ l.length ≤ c ∧ c ≤ maxLen
theorem Ents.step {S : List Nat} {w w' : World} {X X' : Nat → Prop} {ve : Value} {l : List (Int × List Int)} (h : Ents w X ve l) (f : Fr S w w') (hS : ∀ k ∈ S, X k ∨ w.heap.size ≤ k) (hX : ∀ k, X' k → X k ∨ w.heap.size ≤ k) : Ents w' X' ve l := by
  obtain ⟨a, c, css, h1, h2, h3⟩ := h
  exact ⟨a, c, css, h1, h2.step f hS hX (fun cs t h => h.step f hS hX), h3⟩
theorem Ents.nil (w : World) (Y : Nat → Prop) : Ents w Y (.slice none 0 0) [] := ⟨none, 0, [], rfl, RowA.nil _ _ _ _ _, Nat.le_refl _, Nat.zero_le _⟩
/-- What is kept, as it is read. -/
structure KpRd (w : World) (Y : Nat → Prop) (K q : Nat) (vs ve : Value) (k : KP) : Prop where
  hk : Blk w K 70 (kpC q k vs ve)
  sn : Bs w Y vs k.snap
  en : Ents w Y ve k.es
  wf : k.wf
theorem KpRd.fr0 {w w' : World} {Y : Nat → Prop} {K q : Nat} {vs ve : Value} {k : KP} (h : KpRd w Y K q vs ve k) (f : Fr [] w w') : KpRd w' Y K q vs ve k :=
  ⟨h.hk.fr f (by simp), h.sn.step f (by simp) (fun _ h => .inl h), h.en.step f (by simp) (fun _ h => .inl h), h.wf⟩
theorem entry_size : (Try.prog.info? 75).map (·.size) = some 2 := by kernel_rfl
theorem entry_zero : ∀ w, (zeroValue 75).run Try.prog w = .ok (.agg ([Value.int .i64 0, .slice none 0 0] : List Value).toArray) w := fun w => by kernel_rfl
def PackR (w : World) (k : KP) (B0 : List Int) (v i : Value) (wr : World) : Prop :=
  ∃ (n : Nat) (a : Option Addr) (c : Nat), n ≤ k.es.length ∧ i = .int .i64 n ∧ v = .slice a (B0 ++ (k.es.take n).flatMap eB).length c ∧ Rd wr a (bv (B0 ++ (k.es.take n).flatMap eB)) ∧ Fr [] w wr ∧ Own wr w.heap.size 5 1 v (B0 ++ (k.es.take n).flatMap eB).length (bv (B0 ++ (k.es.take n).flatMap eB))
theorem flatE_length (f : Int × List Int → List Int) : ∀ (l : List (Int × List Int)) (n : Nat), ((l.take n).flatMap f).length ≤ (l.flatMap f).length
  | [], n => by simp
  | x :: l, 0 => by simp
  | x :: l, n + 1 => by
    have := flatE_length f l n
    simp only [List.take_succ_cons, List.flatMap_cons, List.length_append]
    omega
theorem ints_build1 (x : Int) : ∀ W : World, (Instr.buildSlice 23 1 [(0, .int .i64 x)].toArray).run Try.prog W = .ok (.slice (some ⟨W.heap.size, 0, none⟩) 1 1) (W.alloc (.cells (ivs [x]).toArray 3)) := fun W => by kernel_rfl
theorem ints_build3 (x y z : Int) : ∀ W : World, (Instr.buildSlice 23 3 [(0, .int .i64 x), (1, .int .i64 y), (2, .int .i64 z)].toArray).run Try.prog W = .ok (.slice (some ⟨W.heap.size, 0, none⟩) 3 3) (W.alloc (.cells (ivs [x, y, z]).toArray 3)) := fun W => by kernel_rfl
theorem ints_build4 (x y z u : Int) : ∀ W : World, (Instr.buildSlice 23 4 [(0, .int .i64 x), (1, .int .i64 y), (2, .int .i64 z), (3, .int .i64 u)].toArray).run Try.prog W = .ok (.slice (some ⟨W.heap.size, 0, none⟩) 4 4) (W.alloc (.cells (ivs [x, y, z, u]).toArray 3)) := fun W => by kernel_rfl
set_option maxRecDepth 100000 in
set_option maxHeartbeats 4000000 in
theorem pack_calls {w : World} {Y : Nat → Prop} {K q : Nat} {vs ve : Value} {k : KP} (h : KpRd w Y K q vs ve k) (hp : k.pack.length ≤ 1000000000) :
    Calls Try.prog 41 #[.pointer (some ⟨K, 0, none⟩)] w fun e w' => ∃ v, e = .returned v ∧ Own w' w.heap.size 5 1 v k.pack.length (bv k.pack) ∧ Fr [] w w' := by
  obtain ⟨as1, cs1, rfl, hs1, hs2, hs3⟩ := h.sn
  obtain ⟨ae, ce, css, rfl, he1, he2, he3⟩ := h.en
  have d1 : ∀ W, Fr [] w W → W.cell? ⟨K, 1, none⟩ = some (.int .i64 k.term) := fun W f => (h.hk.fr f (by simp)).cellAt rfl
  have d2 : ∀ W, Fr [] w W → W.cell? ⟨K, 2, none⟩ = some (.int .i64 k.vote) := fun W f => (h.hk.fr f (by simp)).cellAt rfl
  have d3 : ∀ W, Fr [] w W → W.cell? ⟨K, 3, none⟩ = some (.int .i64 k.base) := fun W f => (h.hk.fr f (by simp)).cellAt rfl
  have d4 : ∀ W, Fr [] w W → W.cell? ⟨K, 4, none⟩ = some (.int .i64 k.bt) := fun W f => (h.hk.fr f (by simp)).cellAt rfl
  have HH := Lib.hid h
  have HS1 := Lib.hid hs1
  have HE1 := Lib.hid he1
  clear h hs1 he1
  obtain ⟨P1, hP1⟩ : ∃ P1, [] ++ [k.term, k.vote, k.base, k.bt].flatMap layI = P1 := ⟨_, rfl⟩
  obtain ⟨P2, hP2⟩ : ∃ P2, P1 ++ layB k.snap = P2 := ⟨_, rfl⟩
  obtain ⟨P3, hP3⟩ : ∃ P3, P2 ++ [(k.es.length : Int)].flatMap layI = P3 := ⟨_, rfl⟩
  obtain ⟨R, hR⟩ : ∃ R, k.pack = R := ⟨_, rfl⟩
  have hR2 : R = P3 ++ k.es.flatMap eB := by
    rw [← hR, ← hP3, ← hP2, ← hP1]
    simp [KP.pack]
  have hl1 : P1.length ≤ 36 := by rw [← hP1, List.nil_append]; exact flatI_length _
  rw [hR] at hp ⊢
  have hRl := congrArg List.length hR2
  rw [List.length_append] at hRl
  have hl3 : P2.length ≤ P3.length := by rw [← hP3, List.length_append]; omega
  have HP1 := Lib.hid hP1
  have HP2 := Lib.hid hP2
  have HP3 := Lib.hid hP3
  have HR := Lib.hid hR2
  have HWF := Lib.hid HH.out.wf
  have HL := Lib.hid (And.intro hp (And.intro hRl (And.intro hl3 hl1)))
  have hsl := HH.out.wf.sl
  have hel := HH.out.wf.el
  clear hP1 hP2 hP3 hR hR2 hRl hl3 hl1
  go_enter Try.func41, Try.ntmps41
  go_wp2_with fail
  refine wp_region_ord (Fr [] w) [0,1,2,3,4,5,6,7,8,9,10,11,12,13,14,15,16,17,18] [] [16, 17] [3, 7, 11, 15] mixed (by kernel_rfl) ?_
  have hS : Fr [] w w.drew := (Fr.refl _ _).drew
  simp only [pairs, pickN]
  repeat (first | (refine wpO_free ?_ (by rfl) (by rfl) (fun w' => ?_) ?_; rotate_left; (go_simp; rfl); simp only [Act.put, List.setIfInBounds_toArray, List.set_cons_zero, List.set_cons_succ]) | (refine wpO_take ?_ hS (by rfl) (by rfl) (fun w' hw' => ?_) ?_; rotate_left; (go_simp; rfl); simp only [Act.put, List.setIfInBounds_toArray, List.set_cons_zero, List.set_cons_succ]) | (refine wpO_pass (by rfl) ?_; simp only [Act.put, List.setIfInBounds_toArray, List.set_cons_zero, List.set_cons_succ]))
  refine wpO_eff (by rfl) ?_
  refine wpList_buildN rfl 23 3 4 [(0, .tmp 9), (1, .tmp 13), (2, .tmp 17), (3, .tmp 21)] rfl [(0, .int .i64 k.term), (1, .int .i64 k.vote), (2, .int .i64 k.base), (3, .int .i64 k.bt)] (by rfl) (ivs [k.term, k.vote, k.base, k.bt]) (ints_build4 _ _ _ _) ?_
  intro w1 B1 F1 S1
  have hS1 : Fr [] w w1 := hS.trans0 F1
  refine effQ_keep hS1 ?_
  simp only [Act.put, List.setIfInBounds_toArray, List.set_cons_zero, List.set_cons_succ]
  refine wpO_eff (by rfl) ?_
  refine wpList_callC rfl 29 #[.slice none 0 0, .slice (some ⟨w.drew.heap.size, 0, none⟩) 4 4] (by first | (go_simp; done) | (go_simp; rfl)) _ (ints_calls w1 none 0 0 [] rfl (Rd.nil _ _) w.drew.heap.size 4 4 [k.term, k.vote, k.base, k.bt] B1 rfl (by omega) (by have h := HWF.out; intro x hx; simp only [List.mem_cons, List.not_mem_nil, or_false] at hx; rcases hx with rfl | rfl | rfl | rfl; exact h.term; exact h.vote; exact h.baseI; exact h.bt) (by omega) (by omega)) ?_
  rintro e w2 ⟨v2, rfl, O2, F2⟩
  rw [HP1.out] at O2
  obtain ⟨a2, c2, rfl, g1, g2, g3⟩ := O2.form
  have hS2 : Fr [] w w2 := hS1.trans0 F2
  refine ⟨_, rfl, effQ_keep hS2 ?_⟩
  simp only [Act.put, List.setIfInBounds_toArray, List.set_cons_zero, List.set_cons_succ]
  repeat (first | (refine wpO_free ?_ (by rfl) (by rfl) (fun w' => ?_) ?_; rotate_left; (go_simp; rfl); simp only [Act.put, List.setIfInBounds_toArray, List.set_cons_zero, List.set_cons_succ]) | (refine wpO_pass (by rfl) ?_; simp only [Act.put, List.setIfInBounds_toArray, List.set_cons_zero, List.set_cons_succ]))
  refine wpO_nil ?_
  have HS2 := Lib.hid hS2
  have HR2 := Lib.hid g3
  clear hS hS1 hS2 B1 F1 S1 O2 F2 g1 g2 g3
  have d5 : ∀ W, Fr [] w2 W → W.cell? ⟨K, 5, none⟩ = some (.slice as1 k.snap.length cs1) := fun W f => (HH.out.hk.fr (HS2.out.trans0 f) (by simp)).cellAt rfl
  have d6 : ∀ W, Fr [] w2 W → W.cell? ⟨K, 6, none⟩ = some (.slice ae k.es.length ce) := fun W f => (HH.out.hk.fr (HS2.out.trans0 f) (by simp)).cellAt rfl
  clear d1 d2 d3 d4
  go_upto_region 2 with fail
  go_cut [3] from 24 to 36 (fun v wx => ∃ a5 c5, v = .slice a5 P3.length c5 ∧ Fr [] w wx ∧ Own wx w.heap.size 5 1 (.slice a5 P3.length c5) P3.length (bv P3))
  case first =>
    refine wp_region_tree (Fr [] w2) (seqT [0,1,2,3,4,6,7,8,9,10] (.two 5 (seqT [11,12,13] .done) 11 (seqT [5,12,13] .done))) [] [5, 11, 12] [4, 9] mixed (by kernel_rfl) ?_
    have hS : Fr [] w2 w2.drew := (Fr.refl _ _).drew
    simp only [seqT, List.foldr]
    repeat (first | (refine wpT_free ?_ (by rfl) (by rfl) (fun w' => ?_) ?_; rotate_left; (simp only [pickN]; go_simp; rfl); simp only [pickN, Act.put, List.setIfInBounds_toArray, List.set_cons_zero, List.set_cons_succ]) | (refine wpT_take ?_ hS (by rfl) (by rfl) (fun w' hw' => ?_) ?_; rotate_left; (simp only [pickN]; go_simp; rfl); simp only [pickN, Act.put, List.setIfInBounds_toArray, List.set_cons_zero, List.set_cons_succ]))
    refine wpT_two ?_ ?_
    · refine wpList_callC rfl 30 #[.slice a2 P1.length c2, .slice as1 k.snap.length cs1] (by simp only [pickN]; first | (go_simp; done) | (go_simp; rfl)) _ (layBytes_calls w2.drew a2 as1 P1.length c2 k.snap.length cs1 P1 k.snap rfl rfl (by have := HL.out; omega) (HR2.out.fr0 hS) (HS1.out.rd.fr0 (HS2.out.trans0 hS))) ?_
      rintro e w3 ⟨v3, rfl, O3, F3⟩
      rw [HP2.out] at O3
      obtain ⟨a3, c3, rfl, g1, g2, g3⟩ := O3.form
      have hS3 : Fr [] w2 w3 := hS.trans0 F3
      refine ⟨_, rfl, effT_keep hS3 ?_⟩
      simp only [pickN, Act.put, List.setIfInBounds_toArray, List.set_cons_zero, List.set_cons_succ]
      refine wpT_eff (by rfl) ?_
      refine wpList_buildN rfl 23 3 1 [(0, .tmp 34)] rfl [(0, .int .i64 k.es.length)] (by rfl) (ivs [(k.es.length : Int)]) (ints_build1 _) ?_
      intro w4 B4 F4 S4
      have hS4 : Fr [] w2 w4 := hS3.trans0 F4
      refine effT_keep hS4 ?_
      simp only [pickN, Act.put, List.setIfInBounds_toArray, List.set_cons_zero, List.set_cons_succ]
      have g3 := g3.fr0 F4
      refine wpT_eff (by rfl) ?_
      refine wpList_callC rfl 29 #[.slice a3 P2.length c3, .slice (some ⟨w3.heap.size, 0, none⟩) 1 1] (by simp only [pickN]; first | (go_simp; done) | (go_simp; rfl)) _ (ints_calls w4 a3 P2.length c3 P2 rfl g3 (w3.heap.size) 1 1 [(k.es.length : Int)] B4 rfl (by omega) (by intro x hx; rw [List.mem_singleton.1 hx]; unfold I64; omega) (by have := HL.out; omega) (by omega)) ?_
      rintro e w5 ⟨v5, rfl, O5, F5⟩
      rw [HP3.out] at O5
      obtain ⟨a5, c5, rfl, g51, g52, g53⟩ := O5.form
      have hS5 : Fr [] w2 w5 := hS4.trans0 F5
      refine ⟨_, rfl, effT_keep hS5 ?_⟩
      simp only [pickN, Act.put, List.setIfInBounds_toArray, List.set_cons_zero, List.set_cons_succ]
      repeat (first | (refine wpT_free ?_ (by rfl) (by rfl) (fun w' => ?_) ?_; rotate_left; (simp only [pickN]; go_simp; rfl); simp only [pickN, Act.put, List.setIfInBounds_toArray, List.set_cons_zero, List.set_cons_succ]) | (refine wpT_take ?_ hS (by rfl) (by rfl) (fun w' hw' => ?_) ?_; rotate_left; (simp only [pickN]; go_simp; rfl); simp only [pickN, Act.put, List.setIfInBounds_toArray, List.set_cons_zero, List.set_cons_succ]))
      refine wpT_done ?_
      go_wp2_with fail
      go_meet
      exact ⟨a5, c5, rfl, HS2.out.trans0 hS5, O5.base (by have := (HS2.out.trans0 hS4).size; omega)⟩
    · refine wpList_buildN rfl 23 3 1 [(0, .tmp 34)] rfl [(0, .int .i64 k.es.length)] (by rfl) (ivs [(k.es.length : Int)]) (ints_build1 _) ?_
      intro w3 B3 F3 S3
      have hS3 : Fr [] w2 w3 := hS.trans0 F3
      refine effT_keep hS3 ?_
      simp only [pickN, Act.put, List.setIfInBounds_toArray, List.set_cons_zero, List.set_cons_succ]
      refine wpT_eff (by rfl) ?_
      refine wpList_callC rfl 30 #[.slice a2 P1.length c2, .slice as1 k.snap.length cs1] (by simp only [pickN]; first | (go_simp; done) | (go_simp; rfl)) _ (layBytes_calls w3 a2 as1 P1.length c2 k.snap.length cs1 P1 k.snap rfl rfl (by have := HL.out; omega) (HR2.out.fr0 hS3) (HS1.out.rd.fr0 (HS2.out.trans0 hS3))) ?_
      rintro e w4 ⟨v3, rfl, O3, F4⟩
      rw [HP2.out] at O3
      obtain ⟨a3, c3, rfl, g1, g2, g3⟩ := O3.form
      have hS4 : Fr [] w2 w4 := hS3.trans0 F4
      refine ⟨_, rfl, effT_keep hS4 ?_⟩
      simp only [pickN, Act.put, List.setIfInBounds_toArray, List.set_cons_zero, List.set_cons_succ]
      have B4 := B3.fr F4 (by simp)
      refine wpT_eff (by rfl) ?_
      refine wpList_callC rfl 29 #[.slice a3 P2.length c3, .slice (some ⟨w2.drew.heap.size, 0, none⟩) 1 1] (by simp only [pickN]; first | (go_simp; done) | (go_simp; rfl)) _ (ints_calls w4 a3 P2.length c3 P2 rfl g3 (w2.drew.heap.size) 1 1 [(k.es.length : Int)] B4 rfl (by omega) (by intro x hx; rw [List.mem_singleton.1 hx]; unfold I64; omega) (by have := HL.out; omega) (by omega)) ?_
      rintro e w5 ⟨v5, rfl, O5, F5⟩
      rw [HP3.out] at O5
      obtain ⟨a5, c5, rfl, g51, g52, g53⟩ := O5.form
      have hS5 : Fr [] w2 w5 := hS4.trans0 F5
      refine ⟨_, rfl, effT_keep hS5 ?_⟩
      simp only [pickN, Act.put, List.setIfInBounds_toArray, List.set_cons_zero, List.set_cons_succ]
      repeat (first | (refine wpT_free ?_ (by rfl) (by rfl) (fun w' => ?_) ?_; rotate_left; (simp only [pickN]; go_simp; rfl); simp only [pickN, Act.put, List.setIfInBounds_toArray, List.set_cons_zero, List.set_cons_succ]) | (refine wpT_take ?_ hS (by rfl) (by rfl) (fun w' hw' => ?_) ?_; rotate_left; (simp only [pickN]; go_simp; rfl); simp only [pickN, Act.put, List.setIfInBounds_toArray, List.set_cons_zero, List.set_cons_succ]))
      refine wpT_done ?_
      go_wp2_with fail
      go_meet
      exact ⟨a5, c5, rfl, HS2.out.trans0 hS5, O5.base (by have := (HS2.out.trans0 hS4).size; omega)⟩
  obtain ⟨a5, c5, rfl, hS5, O5⟩ := hcut
  obtain ⟨_, _, hv5, _, _, g53⟩ := O5.form
  simp only [Value.slice.injEq] at hv5
  obtain ⟨rfl, _, rfl⟩ := hv5
  have HPR := Lib.hid (show PackR w k P3 (.slice a5 P3.length c5) (.int .i64 (0 : Nat)) wc from ⟨0, a5, c5, Nat.zero_le _, rfl, by simp, by simpa using g53, hS5, by simpa using O5⟩)
  have d6 : wc.cell? ⟨K, 6, none⟩ = some (.slice ae k.es.length ce) := (HH.out.hk.fr hS5 (by simp)).cellAt rfl
  clear hS5 O5 g53 d5
  go_wp2_with fail
  go_loopw [3, 42] (fun v i wr => PackR w k P3 v i wr) (fun _ i _ => k.es.length - (intOf i).toNat)
  case atStart => exact HPR.out
  case round =>
    obtain ⟨n, a6, c6, hn, rfl, rfl, hrd, hF, hO⟩ := hrel
    have hfl := flatE_length eB k.es n
    by_cases hlt : n < k.es.length
    · obtain ⟨y, hy⟩ : ∃ y, k.es[n]? = some y := ⟨k.es[n], List.getElem?_eq_getElem hlt⟩
      have hsn : k.es.take (n + 1) = k.es.take n ++ [y] := by rw [List.take_add_one, hy]; rfl
      obtain ⟨b, off, cs, hae, hb, _, hcl, ⟨vd, hcs, hbd⟩, hrg⟩ := HE1.out.get (by decide) hy
      obtain ⟨hyI, hyB, hyL⟩ := HWF.out.es y (List.mem_of_getElem? hy)
      subst hcs
      obtain ⟨ad, cd, rfl, hd1, hd2, hd3⟩ := hbd
      have hrg2 := rangeAt_fr hrg hF (by simp)
      have nb : (n : Int) < (k.es.length : Int) := by omega
      have hz := hF.size
      have hle := flatE_length eB k.es (n + 1)
      rw [hsn, List.flatMap_append] at hle
      simp only [List.flatMap_cons, List.flatMap_nil, List.append_nil, List.length_append] at hle
      have hly := layI_length y.1
      have hBl : (P3 ++ (k.es.take n).flatMap eB).length ≤ 1000000000 := by
        have := HL.out
        simp only [List.length_append]
        omega
      have HN := Lib.hid hsn
      have HF := Lib.hid hF
      have HRG := Lib.hid hrg2
      have HRD := Lib.hid hrd
      have HY := Lib.hid (And.intro hyI (And.intro hyB hyL))
      have HD := Lib.hid hd1
      subst hae
      clear hrg hrg2 hrd hF hO hsn hy hyI hyB hd1 hle hly hfl
      generalize hB : P3 ++ (k.es.take n).flatMap eB = B at *
      have HB := Lib.hid hB
      clear hB
      go_wp2_with (first
        | refine wpList_load_mid rfl 75 _ rfl b (off + n * 2) rfl [.int .i64 y.1, .slice ad y.2.length cd] _ HRG.out Try.underlying75 rfl (by exact entry_size) ?_
        | (refine wpList_allocZ rfl 75 rfl _ entry_zero ?_; intro w7 B7 F7 S7)
        | (refine wpList_storeB rfl 75 _ _ rfl wr.heap.size 0 [.int .i64 y.1, .slice ad y.2.length cd] (by rfl) (by rfl) 75 _ B7 (by simp) (by exact entry_size) (by simp [Value.oneCell']) ?_; intro w8 B8 F8 S8; rw [splice_all _ _ (by rfl)] at B8; have HB8 := Lib.hid B8; have HF8 := Lib.hid (F7.trans F8 (fun x hx hlt => by simp at hx; omega)); clear B7 F7 S7 B8 F8 S8))
      obtain ⟨g, hg⟩ : ∃ g, wr.heap.size = g := ⟨_, rfl⟩
      rw [hg] at HB8 ⊢
      clear hg
      have e0 : ∀ W, Fr [] w8 W → W.cell? ⟨g, 0, none⟩ = some (.int .i64 y.1) := fun W f => (HB8.out.fr f (by simp)).cellAt rfl
      have e1 : ∀ W, Fr [] w8 W → W.cell? ⟨g, 1, none⟩ = some (.slice ad y.2.length cd) := fun W f => (HB8.out.fr f (by simp)).cellAt rfl
      refine wp_region_ord (Fr [] w8) [0,1,2,5,6,3,4,7,8] [] [3, 4, 7] [2, 6] mixed (by kernel_rfl) ?_
      have hS : Fr [] w8 w8.drew := (Fr.refl _ _).drew
      simp only [pairs, pickN]
      repeat (first | (refine wpO_free ?_ (by rfl) (by rfl) (fun w' => ?_) ?_; rotate_left; (go_simp; rfl); simp only [Act.put, List.setIfInBounds_toArray, List.set_cons_zero, List.set_cons_succ]) | (refine wpO_take ?_ hS (by rfl) (by rfl) (fun w' hw' => ?_) ?_; rotate_left; (go_simp; rfl); simp only [Act.put, List.setIfInBounds_toArray, List.set_cons_zero, List.set_cons_succ]) | (refine wpO_pass (by rfl) ?_; simp only [Act.put, List.setIfInBounds_toArray, List.set_cons_zero, List.set_cons_succ]))
      refine wpO_eff (by rfl) ?_
      refine wpList_buildN rfl 23 3 1 [(0, .tmp 48)] rfl [(0, .int .i64 y.1)] (by rfl) (ivs [y.1]) (ints_build1 _) ?_
      intro w9 B9 F9 S9
      have hS9 : Fr [] w8 w9 := hS.trans0 F9
      refine effQ_keep hS9 ?_
      simp only [Act.put, List.setIfInBounds_toArray, List.set_cons_zero, List.set_cons_succ]
      refine wpO_eff (by rfl) ?_
      refine wpList_callC rfl 29 #[.slice a6 B.length c6, .slice (some ⟨w8.drew.heap.size, 0, none⟩) 1 1] (by first | (go_simp; done) | (go_simp; rfl)) _ (ints_calls w9 a6 B.length c6 B rfl (HRD.out.fr0 (HF8.out.trans0 hS9)) w8.drew.heap.size 1 1 [y.1] B9 rfl (by omega) (by intro x hx; rw [List.mem_singleton.1 hx]; exact HY.out.1) (by omega) (by omega)) ?_
      rintro e w10 ⟨v10, rfl, O10, F10⟩
      obtain ⟨B2, hB2⟩ : ∃ B2, B ++ [y.1].flatMap layI = B2 := ⟨_, rfl⟩
      have hB2l : B2.length ≤ B.length + 9 := by rw [← hB2, List.length_append]; have := flatI_length [y.1]; simp only [List.length_singleton] at this; omega
      rw [hB2] at O10
      obtain ⟨a10, c10, rfl, g1, g2, g3⟩ := O10.form
      have hS10 : Fr [] w8 w10 := hS9.trans0 F10
      refine ⟨_, rfl, effQ_keep hS10 ?_⟩
      simp only [Act.put, List.setIfInBounds_toArray, List.set_cons_zero, List.set_cons_succ]
      have hS := hS10
      repeat (first | (refine wpO_free ?_ (by rfl) (by rfl) (fun w' => ?_) ?_; rotate_left; (go_simp; rfl); simp only [Act.put, List.setIfInBounds_toArray, List.set_cons_zero, List.set_cons_succ]) | (refine wpO_take ?_ hS (by rfl) (by rfl) (fun w' hw' => ?_) ?_; rotate_left; (go_simp; rfl); simp only [Act.put, List.setIfInBounds_toArray, List.set_cons_zero, List.set_cons_succ]) | (refine wpO_pass (by rfl) ?_; simp only [Act.put, List.setIfInBounds_toArray, List.set_cons_zero, List.set_cons_succ]))
      refine wpO_eff (by rfl) ?_
      refine wpList_callC rfl 30 #[.slice a10 B2.length c10, .slice ad y.2.length cd] (by first | (go_simp; done) | (go_simp; rfl)) _ (layBytes_calls w10 a10 ad B2.length c10 y.2.length cd B2 y.2 rfl rfl (by have := HY.out.2.2; omega) g3 (HD.out.rd.fr0 ((HF.out.trans0 HF8.out).trans0 hS10))) ?_
      rintro e w11 ⟨v11, rfl, O11, F11⟩
      obtain ⟨B3, hB3⟩ : ∃ B3, B2 ++ layB y.2 = B3 := ⟨_, rfl⟩
      rw [hB3] at O11
      obtain ⟨a11, c11, rfl, g11, g12, g13⟩ := O11.form
      have hS11 : Fr [] w8 w11 := hS10.trans0 F11
      refine ⟨_, rfl, effQ_keep hS11 ?_⟩
      simp only [Act.put, List.setIfInBounds_toArray, List.set_cons_zero, List.set_cons_succ]
      repeat (first | (refine wpO_free ?_ (by rfl) (by rfl) (fun w' => ?_) ?_; rotate_left; (go_simp; rfl); simp only [Act.put, List.setIfInBounds_toArray, List.set_cons_zero, List.set_cons_succ]) | (refine wpO_pass (by rfl) ?_; simp only [Act.put, List.setIfInBounds_toArray, List.set_cons_zero, List.set_cons_succ]))
      refine wpO_nil ?_
      have hfin : P3 ++ (k.es.take (n + 1)).flatMap eB = B3 := by
        rw [HN.out, List.flatMap_append, ← List.append_assoc, HB.out, ← hB3, ← hB2]
        simp [eB]
      have F12 : Fr [] wr w11 := HF8.out.trans0 hS11
      have HR6 := Lib.hid (show PackR w k P3 (.slice a11 B3.length c11) (.int .i64 (n + 1 : Nat)) w11 from by
        refine ⟨n + 1, a11, c11, by omega, rfl, by rw [hfin], by rw [hfin]; exact g13, HF.out.trans0 F12, by rw [hfin]; exact O11.base (by have := (HF8.out.trans0 hS10).size; omega)⟩)
      clear hS hS9 hS10 hS11 B9 F9 S9 O10 F10 g1 g2 g3 O11 F11 g11 g12 g13 hfin F12 e0 e1 hB2 hB3
      go_wp2_with fail
      go_roundw
      case rel => exact HR6.out
      case measure => simp [intOf]; omega
    · have hnl : n = k.es.length := by omega
      subst hnl
      have nb : ¬ ((k.es.length : Int) < (k.es.length : Int)) := by omega
      rw [List.take_length, ← HR.out] at hO ⊢
      have HO := Lib.hid hO
      have HF := Lib.hid hF
      clear hO hF hrd hfl
      go_wp2_with fail
      go_ret
      exact ⟨_, rfl, HO.out, HF.out⟩
end Go.Fur
