/- disk.Disk: what a disk in memory is, and contracts of its methods. -/
import Derived.Test.YtmhejgelmmjihaaArr
import Derived.Test.YtmhejgelmmjihaaReg
import Derived.Test.YtmhejgelmmjihaaRows
import Derived.StillTailTactics
import Derived.Deep.RegionHeld3
import Derived.Outline
namespace Go.Fur
open Go Go.RowKit Go.Proofs
set_option linter.unusedVariables false
set_option linter.unusedSimpArgs false

/-- A disk: its blocks, 64 bytes each; the loose writes: a block's number, what it was, what it is. -/
structure D where
  now : List (List Int)
  loose : List (Nat × List Int × List Int)
def lv3 (x : Nat × List Int × List Int) : List Value := Value.int .i64 x.1 :: (bv x.2.1 ++ bv x.2.2)
structure D.wf (d : D) : Prop where
  now : ∀ b ∈ d.now, b.length = 64
  loose : ∀ x ∈ d.loose, x.1 < d.now.length ∧ x.2.1.length = 64 ∧ x.2.2.length = 64
  pos : 1 ≤ d.now.length
  max : d.now.length ≤ 65536
  few : d.loose.length ≤ 1000000000
theorem D.wf.bvlen {d : D} (h : d.wf) : ∀ b ∈ d.now, (bv b).length = 64 := fun b hb => by rw [bv_length]; exact h.now b hb
theorem D.wf.lvlen {d : D} (h : d.wf) : ∀ x ∈ d.loose, (lv3 x).length = 129 := fun x hx => by
  obtain ⟨_, h1, h2⟩ := h.loose x hx
  simp [lv3, h1, h2]

/-- The disk at block p of w: its blocks lie in block bb, its loose writes in the row lv. -/
structure DiskAt (w : World) (base p bb : Nat) (lv : Value) (d : D) : Prop where
  hp : Blk w p 59 [.slice (some ⟨bb, 0, none⟩) d.now.length d.now.length, lv]
  hb : Blk w bb 61 (flat bv d.now)
  hl : Own w base 63 129 lv d.loose.length (flat lv3 d.loose)
  wf : d.wf
  bp : base ≤ p
  bbb : base ≤ bb

theorem info_write : (Try.prog.info? 63).map (fun i => (i.size, i.bytes)) = some (129, 136) := by kernel_rfl
theorem info_block : (Try.prog.info? 61).map (fun i => (i.size, i.bytes)) = some (64, 64) := by kernel_rfl
theorem size_block : (Try.prog.info? 61).map (·.size) = some 64 := by kernel_rfl
theorem info_byte : (Try.prog.info? 5).map (fun i => (i.zero, i.size, i.bytes)) = some (some (.int .u8 0), 1, 1) := by kernel_rfl

theorem loose_nil (w : World) : Calls Try.prog 35 #[.pointer none] w fun e w' => e = .returned (.int .i64 0) ∧ w = w' := by
  go_enter Try.func35, Try.ntmps35
  go_wp2
  go_ret
  exact ⟨rfl, rfl⟩
theorem loose_calls {w : World} {base p bb : Nat} {lv : Value} {d : D} (h : DiskAt w base p bb lv d) :
    Calls Try.prog 35 #[.pointer (some ⟨p, 0, none⟩)] w fun e w' => e = .returned (.int .i64 d.loose.length) ∧ w = w' := by
  obtain ⟨a, c, rfl, _⟩ := h.hl.form
  have h1 := h.hp.cellAt (i := 1) rfl
  go_enter Try.func35, Try.ntmps35
  go_wp2
  go_ret
  exact ⟨rfl, rfl⟩
theorem blocks_nil (w : World) : Calls Try.prog 37 #[.pointer none] w fun e w' => e = .returned (.int .i64 0) ∧ w = w' := by
  go_enter Try.func37, Try.ntmps37
  go_wp2
  go_ret
  exact ⟨rfl, rfl⟩
theorem blocks_calls {w : World} {base p bb : Nat} {lv : Value} {d : D} (h : DiskAt w base p bb lv d) :
    Calls Try.prog 37 #[.pointer (some ⟨p, 0, none⟩)] w fun e w' => e = .returned (.int .i64 d.now.length) ∧ w = w' := by
  have h1 := h.hp.cellAt (i := 0) rfl
  go_enter Try.func37, Try.ntmps37
  go_wp2
  go_ret
  exact ⟨rfl, rfl⟩
theorem sync_nil (w : World) : Calls Try.prog 30 #[.pointer none] w fun e w' => e = .returned (.int .i64 17) ∧ w = w' := by
  go_enter Try.func30, Try.ntmps30
  go_wp2
  go_ret
  exact ⟨rfl, rfl⟩
theorem DiskAt.calm {w : World} {base p bb : Nat} {lv : Value} {d : D} (h : DiskAt w base p bb lv d) : DiskAt (w.setCell ⟨p, 1, none⟩ (.slice none 0 0)) base p bb (.slice none 0 0) { d with loose := [] } := by
  refine ⟨h.hp.set 1 _, h.hb.far ?_ _, Own.nil _ _ _ _, ⟨h.wf.now, by simp, h.wf.pos, h.wf.max, by simp⟩, h.bp, h.bbb⟩
  exact (h.hp.ne h.hb (by decide)).symm
theorem sync_calls {w : World} {base p bb : Nat} {lv : Value} {d : D} (h : DiskAt w base p bb lv d) :
    Calls Try.prog 30 #[.pointer (some ⟨p, 0, none⟩)] w fun e w' => e = .returned (.int .i64 0) ∧ DiskAt w' base p bb (.slice none 0 0) { d with loose := [] } ∧ Fr [p] w w' := by
  have h1 := h.hp.cellAt (i := 1) rfl
  have h2 := h.hp.frozen 1
  have h3 := h.calm
  have H := Lib.hid h3
  clear h3
  go_enter Try.func30, Try.ntmps30
  go_wp2
  go_ret
  exact ⟨rfl, H.out, (Fr.refl _ _).setCell (.inl (by simp)) _⟩

theorem read_nil (w : World) (n : Int) : Calls Try.prog 38 #[.pointer none, .int .i64 n] w fun e w' => e = .returned (.tuple #[.slice none 0 0, .int .i64 17]) ∧ w = w' := by
  go_enter Try.func38, Try.ntmps38
  go_wp2
  go_ret2
  exact ⟨rfl, rfl⟩
theorem read_none {w : World} {base p bb : Nat} {lv : Value} {d : D} (h : DiskAt w base p bb lv d) (n : Int) (hn : n < 0 ∨ d.now.length ≤ n) :
    Calls Try.prog 38 #[.pointer (some ⟨p, 0, none⟩), .int .i64 n] w fun e w' => e = .returned (.tuple #[.slice none 0 0, .int .i64 8]) ∧ w = w' := by
  have h1 := h.hp.cellAt (i := 0) rfl
  rcases hn with hn | hn
  · go_enter Try.func38, Try.ntmps38
    go_wp2
    go_ret2
    exact ⟨rfl, rfl⟩
  · have h0 : ¬ n < 0 := by omega
    go_enter Try.func38, Try.ntmps38
    go_wp2
    go_ret2
    exact ⟨rfl, rfl⟩

theorem zero_block : ∀ w, (zeroValue 61).run Try.prog w = .ok (.agg (bv (zeros 64)).toArray) w := fun w => by kernel_rfl
set_option maxRecDepth 100000 in
theorem read_calls {w : World} {base p bb : Nat} {lv : Value} {d : D} (h : DiskAt w base p bb lv d) (n : Nat) (b : List Int) (hn : d.now[n]? = some b) :
    Calls Try.prog 38 #[.pointer (some ⟨p, 0, none⟩), .int .i64 n] w fun e w' => ∃ g cap, e = .returned (.tuple #[.slice (some ⟨g, 0, none⟩) 64 cap, .int .i64 0]) ∧ Own w' w.heap.size 5 1 (.slice (some ⟨g, 0, none⟩) 64 cap) 64 (bv b) ∧ Fr [] w w' := by
  have hlt : n < d.now.length := (List.getElem?_eq_some_iff.1 hn).1
  have h0 : ¬ (n : Int) < 0 := by omega
  have h00 : (0 : Int) ≤ (n : Int) := by omega
  have hlt' : (n : Int) < (d.now.length : Int) := by omega
  have h1 := h.hp.cellAt (i := 0) rfl
  have hr : w.rangeAt bb (n * 64) (bv b) := by
    have := h.hb.range (n * 64) 64
    rwa [flat_piece bv 64 d.now h.wf.bvlen n b hn] at this
  have hbl : (bv b).length = 64 := h.wf.bvlen b (List.mem_of_getElem? hn)
  have hsp : splice (bv (zeros 64)) 0 (bv b) = bv b := splice_all _ _ (by rw [hbl]; simp)
  have htk : (bv b).take 64 = bv b := List.take_of_length_le (by omega)
  have HL := Lib.hid hbl
  have HS := Lib.hid hsp
  have HT := Lib.hid htk
  clear hbl hn hsp htk
  go_enter Try.func38, Try.ntmps38
  go_wp2_with (first
    | refine wpList_load_mid rfl 61 _ rfl bb (n * 64) rfl (bv b) _ hr Try.underlying61 rfl (by rw [HL.out]; exact size_block) ?_
    | (refine wpList_allocZ rfl 61 rfl _ zero_block ?_; intro w1 B1 F1 S1)
    | (refine wpList_storeB rfl 61 _ _ rfl w.heap.size 0 (bv b) (by rfl) (by rfl) 61 _ B1 (by rw [HL.out]; simp) (by rw [HL.out]; exact size_block) (bv_one b) ?_; intro w2 B2 F2 S2)
    | (refine wpList_appB rfl _ _ 24 24 rfl w.heap.size 5 5 .u8 1 Try.underlying24 Try.underlying24 info_byte (.slice none 0 0) 0 [] (by rfl) (Own.nil _ _ _ _) (some ⟨w.heap.size, 0, none⟩) 64 64 (bv b) (by rfl) (show Rd w2 _ _ from by have h5 := B2.rd0 64; rwa [HS.out, HT.out] at h5) HL.out (bv_one b) (by simp [maxLen]) (by simp) (by omega) ?_; intro v' w3 O3 F3 _ _))
  simp only [Nat.zero_add, List.nil_append] at O3
  obtain ⟨g, cap, cur, hv, hg, _⟩ := O3.blk (by omega)
  rw [hv] at O3
  rw [hv]
  exact bodyPost_ret (results_tmp2 rfl _ _ _) rfl ⟨g, cap, rfl, O3, (F1.trans F2 (by simp)).trans F3 (by simp)⟩

theorem write_nil (w : World) (n : Int) (v : Value) : Calls Try.prog 10 #[.pointer none, .int .i64 n, v] w fun e w' => e = .returned (.int .i64 17) ∧ w = w' := by
  go_enter Try.func10, Try.ntmps10
  go_wp2
  go_ret
  exact ⟨rfl, rfl⟩
theorem write_none {w : World} {base p bb : Nat} {lv : Value} {d : D} (h : DiskAt w base p bb lv d) (n : Int) (v : Value) (hn : n < 0 ∨ d.now.length ≤ n) :
    Calls Try.prog 10 #[.pointer (some ⟨p, 0, none⟩), .int .i64 n, v] w fun e w' => e = .returned (.int .i64 8) ∧ w = w' := by
  have h1 := h.hp.cellAt (i := 0) rfl
  rcases hn with hn | hn
  · go_enter Try.func10, Try.ntmps10
    go_wp2
    go_ret
    exact ⟨rfl, rfl⟩
  · have h0 : ¬ n < 0 := by omega
    go_enter Try.func10, Try.ntmps10
    go_wp2
    go_ret
    exact ⟨rfl, rfl⟩
theorem write_long {w : World} {base p bb : Nat} {lv : Value} {d : D} (h : DiskAt w base p bb lv d) (n : Nat) (hn : n < d.now.length) (a : Option Addr) (m c : Nat) (hm : 64 < m) :
    Calls Try.prog 10 #[.pointer (some ⟨p, 0, none⟩), .int .i64 n, .slice a m c] w fun e w' => e = .returned (.int .i64 3) ∧ w = w' := by
  have h1 := h.hp.cellAt (i := 0) rfl
  have h0 : ¬ (n : Int) < 0 := by omega
  have h2 : ¬ (d.now.length : Int) ≤ (n : Int) := by omega
  have h3 : (64 : Int) < (m : Int) := by omega
  go_enter Try.func10, Try.ntmps10
  go_wp2
  go_ret
  exact ⟨rfl, rfl⟩

theorem crash_nil (w : World) (n : Int) : Calls Try.prog 36 #[.pointer none, .int .i64 n] w fun e w' => e = .returned (.int .i64 17) ∧ w = w' := by
  go_enter Try.func36, Try.ntmps36
  go_wp2
  go_ret
  exact ⟨rfl, rfl⟩
theorem crash_arg (w : World) (p : Nat) (n : Int) (hn : n < 0) : Calls Try.prog 36 #[.pointer (some ⟨p, 0, none⟩), .int .i64 n] w fun e w' => e = .returned (.int .i64 1) ∧ w = w' := by
  go_enter Try.func36, Try.ntmps36
  go_wp2
  go_ret
  exact ⟨rfl, rfl⟩
theorem new_arg (w : World) (n : Int) (hn : n < 1 ∨ 65536 < n) : Calls Try.prog 9 #[.int .i64 n] w fun e w' => e = .returned (.tuple #[.pointer none, .int .i64 1]) ∧ w = w' := by
  rcases hn with hn | hn
  · go_enter Try.func9, Try.ntmps9
    go_wp2
    go_ret2
    exact ⟨rfl, rfl⟩
  · have h0 : ¬ n < 1 := by omega
    go_enter Try.func9, Try.ntmps9
    go_wp2
    go_ret2
    exact ⟨rfl, rfl⟩

theorem info_blockZ : (Try.prog.info? 61).map (fun i => (i.zero.map (·.cells), i.size, i.bytes)) = some (some (bv (zeros 64)).toArray, 64, 64) := by kernel_rfl
theorem info_writeZ : (Try.prog.info? 63).map (fun i => (i.zero.map (·.cells), i.size, i.bytes)) = some (some (lv3 (0, zeros 64, zeros 64)).toArray, 129, 136) := by kernel_rfl
theorem new_calls (w : World) (n : Nat) (h1 : 1 ≤ n) (h2 : n ≤ 65536) : Calls Try.prog 9 #[.int .i64 n] w fun e w' => e = .returned (.tuple #[.pointer (some ⟨w.heap.size + 1, 0, none⟩), .int .i64 0]) ∧
    DiskAt w' w.heap.size (w.heap.size + 1) w.heap.size (.slice none 0 0) ⟨List.replicate n (zeros 64), []⟩ ∧ Fr [] w w' := by
  have h3 : ¬ (n : Int) < 1 := by omega
  have h4 : ¬ 65536 < (n : Int) := by omega
  go_enter Try.func9, Try.ntmps9
  go_wp2_with (refine wpList_makeZ rfl 56 _ _ rfl 61 (bv (zeros 64)) 64 64 Try.underlying56 info_blockZ (by omega) (by simp) n n (by rfl) (by rfl) (by omega) (by omega) (by simp only [maxLen]; omega) ?_; intro w1 B1 F1 S1)
  refine bodyPost_ret (results_tmp2 rfl _ _ _) rfl ⟨rfl, ⟨?_, ?_, Own.nil _ _ _ _, ⟨?_, by simp, by simpa using h1, by simpa using h2, by simp⟩, by omega, by omega⟩, F1.alloc _⟩
  · have := Blk.new w1 59 [.slice (some ⟨w.heap.size, 0, none⟩) n n, .slice none 0 0]
    rw [S1] at this
    simpa using this
  · have e : flat bv (List.replicate n (zeros 64)) = flat id (List.replicate n (bv (zeros 64))) := by simp [flat, List.flatMap_replicate]
    rw [e]
    exact B1.alloc _
  · intro b hb
    rw [List.eq_of_mem_replicate hb]
    simp
def pad (l : List Int) : List Int := l ++ zeros (64 - l.length)
theorem pad_length (l : List Int) (h : l.length ≤ 64) : (pad l).length = 64 := by simp [pad]; omega
theorem bv_pad (l : List Int) (h : l.length ≤ 64) : splice (bv (zeros 64)) 0 (bv l) = bv (pad l) := by
  unfold splice pad
  rw [List.take_zero, List.nil_append, Nat.zero_add, bv_append, bv_length, ← bv_drop]
  have e : ∀ n : Nat, (zeros n).drop l.length = zeros (n - l.length) := fun n => by simp only [zeros, List.drop_replicate]
  rw [e]
theorem mixed : Try.prog.follows .mixedOrders = true := by kernel_rfl
theorem build_write (n : Int) (A B : List Value) (hA : A.length = 64) (hB : B.length = 64) (w : World) : (Instr.build 63 #[(0, .int .i64 n), (1, .agg A.toArray), (2, .agg B.toArray)]).run Try.prog w = .ok (.agg (Value.int .i64 n :: (A ++ B)).toArray) w := by
  have := run_build_struct (P := Try.prog) 63 _ #[(0, 1), (1, 64), (65, 64)] (.agg (lv3 (0, zeros 64, zeros 64)).toArray) #[(0, .int .i64 n), (1, .agg A.toArray), (2, .agg B.toArray)] Try.underlying63 (fun w => by kernel_rfl) (fun w => by kernel_rfl)
    ⟨rfl, by simp [Value.cells, hA], by simp [Value.cells, hA, hB], trivial⟩ (by simp [catV, Value.cells, hA, hB, lv3]) w
  rw [this]
  simp [catV, Value.cells]
theorem flat_snoc {α : Type} (f : α → List Value) (xs : List α) (x : α) : flat f (xs ++ [x]) = flat f xs ++ f x := by simp [flat]
theorem D.wf.put {d : D} (h : d.wf) {n : Nat} {b l : List Int} (hn : d.now[n]? = some b) (hl : l.length ≤ 64) (hf : d.loose.length < 1000000000) : D.wf ⟨d.now.set n (pad l), d.loose ++ [(n, b, pad l)]⟩ := by
  have hlt : n < d.now.length := (List.getElem?_eq_some_iff.1 hn).1
  refine ⟨fun x hx => ?_, fun x hx => ?_, by simpa using h.pos, by simpa using h.max, by simp; omega⟩
  · rcases List.mem_or_eq_of_mem_set hx with hx | rfl
    · exact h.now x hx
    · exact pad_length l hl
  · simp only [List.mem_append, List.mem_singleton] at hx
    rcases hx with hx | rfl
    · obtain ⟨h1, h2⟩ := h.loose x hx
      exact ⟨by simpa using h1, h2⟩
    · exact ⟨by simpa using hlt, h.now b (List.mem_of_getElem? hn), pad_length l hl⟩
theorem DiskAt.apart {w : World} {base p bb : Nat} {lv : Value} {d : D} (h : DiskAt w base p bb lv d) : p ≠ bb ∧ (∀ k ∈ ob lv, k ≠ p ∧ k ≠ bb) := by
  refine ⟨h.hp.ne h.hb (by decide), fun k hk => ?_⟩
  have hk' := mem_ob.1 hk
  rcases h.hl.2 with ⟨rfl, _⟩ | ⟨g, cap, cur, rfl, _, hg, _⟩
  · simp at hk
  · have hkg : k = g := by simpa using hk
    subst hkg
    have hB : Blk w k 63 cur.toList := by unfold Blk; simpa using hg
    exact ⟨hB.ne h.hp (by decide), hB.ne h.hb (by decide)⟩
set_option maxRecDepth 100000 in
set_option maxHeartbeats 1000000 in
theorem write_calls {w : World} {base p bb : Nat} {lv : Value} {d : D} (h : DiskAt w base p bb lv d) (hbase : base ≤ w.heap.size) (n : Nat) (b : List Int) (hn : d.now[n]? = some b) (a : Option Addr) (c : Nat) (l : List Int) (hl : l.length ≤ 64) (hr : Rd w a (bv l)) (hfew : d.loose.length < 1000000000) :
    Calls Try.prog 10 #[.pointer (some ⟨p, 0, none⟩), .int .i64 n, .slice a l.length c] w fun e w' => ∃ lv', e = .returned (.int .i64 0) ∧
      DiskAt w' base p bb lv' ⟨d.now.set n (pad l), d.loose ++ [(n, b, pad l)]⟩ ∧ Fr (p :: bb :: ob lv) w w' ∧ (∀ k ∈ ob lv', k ∈ ob lv ∨ w.heap.size ≤ k) := by
  have hlt : n < d.now.length := (List.getElem?_eq_some_iff.1 hn).1
  have h0 : ¬ (n : Int) < 0 := by omega
  have h00 : (0 : Int) ≤ (n : Int) := by omega
  have h01 : ¬ (d.now.length : Int) ≤ (n : Int) := by omega
  have h01' : (n : Int) < (d.now.length : Int) := by omega
  have h02 : ¬ (64 : Int) < (l.length : Int) := by omega
  have h1 := h.hp.cellAt (i := 0) rfl
  have h2 := h.hp.cellAt (i := 1) rfl
  obtain ⟨hpb, hap⟩ := h.apart
  have hrb : w.rangeAt bb (n * 64) (bv b) := by
    have := h.hb.range (n * 64) 64
    rwa [flat_piece bv 64 d.now h.wf.bvlen n b hn] at this
  have hbl : (bv b).length = 64 := h.wf.bvlen b (List.mem_of_getElem? hn)
  have hpl : (bv (pad l)).length = 64 := by rw [bv_length]; exact pad_length l hl
  have HN := Lib.hid hn
  have HB := Lib.hid hbl
  have HP := Lib.hid hpl
  have HA := Lib.hid hap
  obtain ⟨la, lc, hlv, hlc, hlm, hlr⟩ := h.hl.form
  have HLV := Lib.hid hlv
  clear hn hbl hpl hap hlv hlr
  go_enter Try.func10, Try.ntmps10
  go_wp2_with (first
    | (refine wpList_allocZ rfl 61 rfl _ zero_block ?_; intro w1 B1 F1 S1)
    | (refine wpList_copyB rfl _ _ 24 24 rfl 5 Try.underlying24 (by kernel_rfl) w.heap.size 0 64 64 l.length c a (by rfl) (by rfl) (bv (zeros 64)) 61 B1 (bv l) (by rw [bv_length]; exact (Nat.min_eq_left hl).symm) (hr.fr0 F1) (by simp; omega) (bv_one l) ?_; intro w2 B2 F2 S2))
  have F12 : Fr [] w w2 := F1.trans F2 (by simp)
  have S12 : w2.heap.size = w.heap.size + 1 := by omega
  rw [bv_pad l hl] at B2
  have c0 : ∀ w', Fr [] w2 w' → w'.cell? ⟨p, 0, none⟩ = some (.slice (some ⟨bb, 0, none⟩) d.now.length d.now.length) := fun w' f => ((h.hp.fr F12 (by simp)).fr f (by simp)).cellAt (i := 0) rfl
  have c1 : ∀ w', Fr [] w2 w' → w'.cell? ⟨p, 1, none⟩ = some lv := fun w' f => ((h.hp.fr F12 (by simp)).fr f (by simp)).cellAt (i := 1) rfl
  have c2 : ∀ w', Fr [] w2 w' → w'.rangeAt bb (n * 64) (bv b) := fun w' f => rangeAt_fr (rangeAt_fr hrb F12 (by simp)) f (by simp)
  have c3 : ∀ w', Fr [] w2 w' → w'.rangeAt w.heap.size 0 (bv (pad l)) := fun w' f => by
    have := (B2.fr f (by simp)).range 0 64
    rwa [List.drop_zero, List.take_of_length_le (by rw [HP.out]; omega)] at this
  refine wp_region_ord (Fr [] w2) [0,1,2,3,4,5,6,7,8,9,10,11,12,13,14,15,16,17,18,19] [16, 19] [15, 16, 19] [4, 9, 12, 13] mixed (by kernel_rfl) ?_
  have hS : Fr [] w2 w2.drew := (Fr.refl _ _).drew
  simp only [pairs, pickN]
  repeat (first | (refine wpO_free ?_ (by rfl) (by rfl) (fun w' => ?_) ?_; rotate_left; (go_simp; rfl); simp only [Act.put, List.setIfInBounds_toArray, List.set_cons_zero, List.set_cons_succ]) | (refine wpO_take ?_ hS (by rfl) (by rfl) (fun w' hw' => ?_) ?_; rotate_left; (go_simp; rfl); simp only [Act.put, List.setIfInBounds_toArray, List.set_cons_zero, List.set_cons_succ]) | (refine wpO_pass (by rfl) ?_; simp only [Act.put, List.setIfInBounds_toArray, List.set_cons_zero, List.set_cons_succ]))
  refine wpO_takeY _ hS (by rfl) (yieldsIf_load_mid (by rfl) 61 _ rfl bb (n * 64) rfl (bv b) _ c2 Try.underlying61 rfl (by rw [HB.out]; exact size_block)) ?_
  simp only [Act.put, List.setIfInBounds_toArray, List.set_cons_zero, List.set_cons_succ]
  refine wpO_takeY _ hS (by rfl) (yieldsIf_load_mid (by rfl) 61 _ rfl w.heap.size 0 rfl (bv (pad l)) _ c3 Try.underlying61 rfl (by rw [HP.out]; exact size_block)) ?_
  simp only [Act.put, List.setIfInBounds_toArray, List.set_cons_zero, List.set_cons_succ]
  refine wpO_build _ (by rfl) _ _ rfl rfl [(0, .int .i64 n), (1, .agg (bv b).toArray), (2, .agg (bv (pad l)).toArray)] (by rfl) (build_write n (bv b) (bv (pad l)) HB.out HP.out) ?_
  simp only [Act.put, List.setIfInBounds_toArray, List.set_cons_zero, List.set_cons_succ]
  refine wpO_eff (by rfl) ?_
  refine wpList_buildSlice1 rfl 57 63 _ rfl (lv3 (0, zeros 64, zeros 64)) 129 136 Try.underlying57 info_writeZ (by simp [lv3]) (by omega) (by omega) _ (lv3 (n, b, pad l)) (by rfl) (by rfl) (by simp only [lv3, List.length_cons, List.length_append, HB.out, HP.out]) ?_
  intro w3 B3 F3 S3
  refine effQ_keep (hS.trans0 F3) ?_
  simp only [Act.put, List.setIfInBounds_toArray, List.set_cons_zero, List.set_cons_succ]
  refine wpO_eff (by rfl) ?_
  have F13 : Fr [] w w3 := (F12.trans0 hS).trans0 F3
  have S13 : w3.heap.size = w.heap.size + 2 := by simp only [World.size_drew] at S3; omega
  obtain ⟨i0, hi0, hz0, hz1, hz2⟩ := info_parts (P := Try.prog) (e := 63) (z := .agg (lv3 (0, zeros 64, zeros 64)).toArray) (size := 129) (bytes := 136) (by kernel_rfl)
  have hfew2 : d.loose.length + 1 ≤ 1000000000 := hfew
  refine wpList_app rfl _ _ 57 57 rfl base 63 i0 _ 129 136 Try.underlying57 hi0 hz0 hz1 hz2 (by simp [Value.cells, lv3]) (by omega) lv d.loose.length (flat lv3 d.loose) (by rfl) (h.hl.fr0 F13) _ 1 (lv3 (n, b, pad l)) (by rfl) ?_ (by simp only [maxLen]; omega) (by omega) (by have := F13.size; omega) ?_
  · refine Rd.src (Rd.mk ?_) Try.underlying57 (by simp only [lv3, List.length_cons, List.length_append, HB.out, HP.out]) ?_
    · have := B3.range 0 129
      rwa [List.drop_zero, List.take_of_length_le (by simp only [lv3, List.length_cons, List.length_append, HB.out, HP.out]; omega)] at this
    · intro u hu
      simp only [lv3, List.mem_cons, List.mem_append] at hu
      rcases hu with rfl | hu | hu
      · rfl
      · exact bv_one _ u hu
      · exact bv_one _ u hu
  intro lv' w4 O4 F4 K4 _
  rw [← flat_snoc] at O4
  refine effQ_skip (by decide) ?_
  simp only [Act.put, List.setIfInBounds_toArray, List.set_cons_zero, List.set_cons_succ]
  repeat (first | (refine wpO_free ?_ (by rfl) (by rfl) (fun w' => ?_) ?_; rotate_left; (go_simp; rfl); simp only [Act.put, List.setIfInBounds_toArray, List.set_cons_zero, List.set_cons_succ]) | (refine wpO_pass (by rfl) ?_; simp only [Act.put, List.setIfInBounds_toArray, List.set_cons_zero, List.set_cons_succ]))
  refine wpO_eff (by rfl) ?_
  obtain ⟨la', lc', hlv', _⟩ := O4.form
  have B4 := (h.hp.fr F13 (by simp)).fr F4 (fun hm => (HA.out p hm).1 rfl)
  have hone : lv'.oneCell' = true ∧ lv'.cells = #[lv'] := by rw [hlv']; exact ⟨rfl, rfl⟩
  refine wpList_store1 rfl 57 _ _ rfl p 1 lv' (by rfl) (by rfl) hone.2 59 _ B4 (by simp) (by kernel_rfl) hone.1 ?_
  intro w5 B5 F5 S5
  refine effQ_skip (by decide) (wpO_nil ?_)
  simp only [Act.put, List.setIfInBounds_toArray, List.set_cons_zero, List.set_cons_succ]
  have F14 : Fr (ob lv) w w4 := F13.ext.trans1 F4
  have F15 : Fr (p :: ob lv) w w5 := (F14.mono (fun k hk _ => by simp [hk])).trans F5 (by simp)
  have hbn : bb ∉ p :: ob lv := fun hm => by
    simp only [List.mem_cons] at hm
    rcases hm with hm | hm
    · exact hpb hm.symm
    · exact (HA.out bb hm).2 rfl
  have d0 : ∀ w', Fr [] w5 w' → w'.cell? ⟨p, 0, none⟩ = some (.slice (some ⟨bb, 0, none⟩) d.now.length d.now.length) := fun w' f => (B5.fr f (by simp)).cellAt (i := 0) rfl
  have G2 : Blk w5 w.heap.size 61 (bv (pad l)) := by
    have g3 := ((B2.drew).fr F3 (by simp))
    have hne : w.heap.size ∉ ob lv := fun hm => by have := (h.hl.lt hm).2; omega
    have hnp : w.heap.size ∉ [p] := fun hm => by
      have := h.hp.lt
      simp only [List.mem_singleton] at hm
      omega
    exact (g3.fr F4 hne).fr F5 hnp
  have d3 : ∀ w', Fr [] w5 w' → w'.rangeAt w.heap.size 0 (bv (pad l)) := fun w' f => by
    have := (G2.fr f (by simp)).range 0 64
    rwa [List.drop_zero, List.take_of_length_le (by rw [HP.out]; omega)] at this
  clear c0 c1 c2 c3 hS
  have HO4 := Lib.hid O4
  have HK4 := Lib.hid K4
  have HB5 := Lib.hid B5
  clear O4 K4 B5 hone B4
  go_wp2_with fail
  refine wp_region_ord (Fr [] w5) [0,1,2,3,4,5,6,7] [7] [7] [3, 5] mixed (by kernel_rfl) ?_
  have hS : Fr [] w5 w5.drew := (Fr.refl _ _).drew
  simp only [pairs, pickN]
  repeat (first | (refine wpO_free ?_ (by rfl) (by rfl) (fun w' => ?_) ?_; rotate_left; (go_simp; rfl); simp only [Act.put, List.setIfInBounds_toArray, List.set_cons_zero, List.set_cons_succ]) | (refine wpO_take ?_ hS (by rfl) (by rfl) (fun w' hw' => ?_) ?_; rotate_left; (go_simp; rfl); simp only [Act.put, List.setIfInBounds_toArray, List.set_cons_zero, List.set_cons_succ]) | (refine wpO_pass (by rfl) ?_; simp only [Act.put, List.setIfInBounds_toArray, List.set_cons_zero, List.set_cons_succ]))
  refine wpO_takeY _ hS (by rfl) (yieldsIf_load_mid (by rfl) 61 _ rfl w.heap.size 0 rfl (bv (pad l)) _ d3 Try.underlying61 rfl (by rw [HP.out]; exact size_block)) ?_
  simp only [Act.put, List.setIfInBounds_toArray, List.set_cons_zero, List.set_cons_succ]
  repeat (first | (refine wpO_free ?_ (by rfl) (by rfl) (fun w' => ?_) ?_; rotate_left; (go_simp; rfl); simp only [Act.put, List.setIfInBounds_toArray, List.set_cons_zero, List.set_cons_succ]) | (refine wpO_take ?_ hS (by rfl) (by rfl) (fun w' hw' => ?_) ?_; rotate_left; (go_simp; rfl); simp only [Act.put, List.setIfInBounds_toArray, List.set_cons_zero, List.set_cons_succ]) | (refine wpO_pass (by rfl) ?_; simp only [Act.put, List.setIfInBounds_toArray, List.set_cons_zero, List.set_cons_succ]))
  refine wpO_eff (by rfl) ?_
  have G3 : Blk w5.drew bb 61 (flat bv d.now) := (h.hb.fr F15 hbn).drew
  refine wpList_storeB rfl 61 _ _ rfl bb (n * 64) (bv (pad l)) (by rfl) (by rfl) 61 _ G3 ?_ (by rw [HP.out]; exact size_block) (bv_one _) ?_
  · rw [HP.out, flat_length bv 64 d.now h.wf.bvlen]
    omega
  intro w6 B6 F6 S6
  rw [flat_splice bv 64 d.now h.wf.bvlen n hlt (pad l) HP.out] at B6
  refine effQ_skip (by decide) (wpO_nil ?_)
  simp only [Act.put, List.setIfInBounds_toArray, List.set_cons_zero, List.set_cons_succ]
  have hfin : DiskAt w6 base p bb lv' ⟨d.now.set n (pad l), d.loose ++ [(n, b, pad l)]⟩ := by
    have g1 := HB5.out.drew.fr F6 (by simpa using hpb)
    have hlvb : ∀ k ∈ ob lv', k ∉ [p] ∧ k ∉ [bb] := fun k hk => by
      have h3 := h.hp.lt
      have h4 := h.hb.lt
      rcases HK4.out with hk' | hk'
      · rw [hk'] at hk
        have := HA.out k hk
        exact ⟨by simpa using this.1, by simpa using this.2⟩
      · rw [hk'] at hk
        simp only [List.mem_singleton] at hk
        exact ⟨by simp only [List.mem_singleton]; omega, by simp only [List.mem_singleton]; omega⟩
    refine ⟨by simpa using g1, B6, ?_, h.wf.put HN.out hl hfew, h.bp, h.bbb⟩
    have g2 := (HO4.out.fr F5 (fun k hk => (hlvb k hk).1)).fr ((Fr.refl [] w5).drew) (by simp)
    simpa using g2.fr F6 (fun k hk => (hlvb k hk).2)
  have hF : Fr (p :: bb :: ob lv) w w6 := by
    have g1 := (F15.drew).mono (S' := p :: bb :: ob lv) (fun k hk _ => by simp only [List.mem_cons] at hk ⊢; rcases hk with hk | hk <;> simp [hk])
    exact g1.trans F6 (by simp)
  have hK : ∀ k ∈ ob lv', k ∈ ob lv ∨ w.heap.size ≤ k := fun k hk => by
    rcases HK4.out with hk' | hk'
    · rw [hk'] at hk
      exact .inl hk
    · rw [hk'] at hk
      simp only [List.mem_singleton] at hk
      exact .inr (by omega)
  have HF := Lib.hid hfin
  have HFF := Lib.hid hF
  have HK := Lib.hid hK
  clear hfin hF hK
  go_wp2_with fail
  go_ret
  exact ⟨lv', rfl, HF.out, HFF.out, HK.out⟩
end Go.Fur
