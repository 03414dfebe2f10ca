/- disk.Disk: what a disk in memory is, and contracts of its methods. -/
import Derived.Test.YtclnikmnfnedkaaCArr
import Derived.Test.YtclnikmnfnedkaaCStrip1
import Derived.Test.YtclnikmnfnedkaaRows
import Derived.StillTailTactics
import Derived.Deep.RegionHeld3
import Derived.Outline
import Derived.WalkMore
import Derived.Laws.BitsAllLaws
namespace Go.Fur
open Go Go.RowKit Go.Proofs
set_option linter.unusedVariables false
set_option linter.unusedSimpArgs false

/-- A disk: its blocks, 64 bytes each; the loose writes: a block's number, what it was, what it is. -/
structure D where
  now : List (List Int)
  loose : List (Nat × List Int × List Int)
def lv3 (x : Nat × List Int × List Int) : List Value := Value.int .i64 x.1 :: (bv x.2.1 ++ bv x.2.2)
structure D.wf (d : D) : Prop where
  now : ∀ b ∈ d.now, b.length = 64
  loose : ∀ x ∈ d.loose, x.1 < d.now.length ∧ x.2.1.length = 64 ∧ x.2.2.length = 64
  pos : 1 ≤ d.now.length
  max : d.now.length ≤ 65536
  few : d.loose.length ≤ 1000000000
theorem D.wf.bvlen {d : D} (h : d.wf) : ∀ b ∈ d.now, (bv b).length = 64 := fun b hb => by rw [bv_length]; exact h.now b hb
theorem D.wf.lvlen {d : D} (h : d.wf) : ∀ x ∈ d.loose, (lv3 x).length = 129 := fun x hx => by
  obtain ⟨_, h1, h2⟩ := h.loose x hx
  simp [lv3, h1, h2]

/-- The disk at block p of w: its blocks lie in block bb, its loose writes in the row lv. -/
structure DiskAt (w : World) (base p bb : Nat) (lv : Value) (d : D) : Prop where
  hp : Blk w p 79 [.slice (some ⟨bb, 0, none⟩) d.now.length d.now.length, lv]
  hb : Blk w bb 81 (flat bv d.now)
  hl : Own w base 83 129 lv d.loose.length (flat lv3 d.loose)
  wf : d.wf
  bp : base ≤ p
  bbb : base ≤ bb

theorem info_write : (Try.prog.info? 83).map (fun i => (i.size, i.bytes)) = some (129, 136) := by kernel_rfl
theorem info_block : (Try.prog.info? 81).map (fun i => (i.size, i.bytes)) = some (64, 64) := by kernel_rfl
theorem size_block : (Try.prog.info? 81).map (·.size) = some 64 := by kernel_rfl
theorem info_byte : (Try.prog.info? 5).map (fun i => (i.zero, i.size, i.bytes)) = some (some (.int .u8 0), 1, 1) := by kernel_rfl

theorem blocks_nil (w : World) : Calls Try.prog 61 #[.pointer none] w fun e w' => e = .returned (.int .i64 0) ∧ w = w' := by
  go_enter Try.func61, Try.ntmps61
  go_wp2
  go_ret
  exact ⟨rfl, rfl⟩
theorem blocks_calls {w : World} {base p bb : Nat} {lv : Value} {d : D} (h : DiskAt w base p bb lv d) :
    Calls Try.prog 61 #[.pointer (some ⟨p, 0, none⟩)] w fun e w' => e = .returned (.int .i64 d.now.length) ∧ w = w' := by
  have h1 := h.hp.cellAt (i := 0) rfl
  go_enter Try.func61, Try.ntmps61
  go_wp2
  go_ret
  exact ⟨rfl, rfl⟩
theorem sync_nil (w : World) : Calls Try.prog 45 #[.pointer none] w fun e w' => e = .returned (.int .i64 17) ∧ w = w' := by
  go_enter Try.func45, Try.ntmps45
  go_wp2
  go_ret
  exact ⟨rfl, rfl⟩
theorem DiskAt.calm {w : World} {base p bb : Nat} {lv : Value} {d : D} (h : DiskAt w base p bb lv d) : DiskAt (w.setCell ⟨p, 1, none⟩ (.slice none 0 0)) base p bb (.slice none 0 0) { d with loose := [] } := by
  refine ⟨h.hp.set 1 _, h.hb.far ?_ _, Own.nil _ _ _ _, ⟨h.wf.now, by simp, h.wf.pos, h.wf.max, by simp⟩, h.bp, h.bbb⟩
  exact (h.hp.ne h.hb (by decide)).symm
theorem sync_calls {w : World} {base p bb : Nat} {lv : Value} {d : D} (h : DiskAt w base p bb lv d) :
    Calls Try.prog 45 #[.pointer (some ⟨p, 0, none⟩)] w fun e w' => e = .returned (.int .i64 0) ∧ DiskAt w' base p bb (.slice none 0 0) { d with loose := [] } ∧ Fr [p] w w' := by
  have h1 := h.hp.cellAt (i := 1) rfl
  have h2 := h.hp.frozen 1
  have h3 := h.calm
  have H := Lib.hid h3
  clear h3
  go_enter Try.func45, Try.ntmps45
  go_wp2
  go_ret
  exact ⟨rfl, H.out, (Fr.refl _ _).setCell (.inl (by simp)) _⟩

theorem read_nil (w : World) (n : Int) : Calls Try.prog 62 #[.pointer none, .int .i64 n] w fun e w' => e = .returned (.tuple #[.slice none 0 0, .int .i64 17]) ∧ w = w' := by
  go_enter Try.func62, Try.ntmps62
  go_wp2
  go_ret2
  exact ⟨rfl, rfl⟩
theorem read_none {w : World} {base p bb : Nat} {lv : Value} {d : D} (h : DiskAt w base p bb lv d) (n : Int) (hn : n < 0 ∨ d.now.length ≤ n) :
    Calls Try.prog 62 #[.pointer (some ⟨p, 0, none⟩), .int .i64 n] w fun e w' => e = .returned (.tuple #[.slice none 0 0, .int .i64 8]) ∧ w = w' := by
  have h1 := h.hp.cellAt (i := 0) rfl
  rcases hn with hn | hn
  · go_enter Try.func62, Try.ntmps62
    go_wp2
    go_ret2
    exact ⟨rfl, rfl⟩
  · have h0 : ¬ n < 0 := by omega
    go_enter Try.func62, Try.ntmps62
    go_wp2
    go_ret2
    exact ⟨rfl, rfl⟩

theorem zero_block : ∀ w, (zeroValue 81).run Try.prog w = .ok (.agg (bv (zeros 64)).toArray) w := fun w => by kernel_rfl
set_option maxRecDepth 100000 in
theorem read_calls {w : World} {base p bb : Nat} {lv : Value} {d : D} (h : DiskAt w base p bb lv d) (n : Nat) (b : List Int) (hn : d.now[n]? = some b) :
    Calls Try.prog 62 #[.pointer (some ⟨p, 0, none⟩), .int .i64 n] w fun e w' => ∃ g cap, e = .returned (.tuple #[.slice (some ⟨g, 0, none⟩) 64 cap, .int .i64 0]) ∧ Own w' w.heap.size 5 1 (.slice (some ⟨g, 0, none⟩) 64 cap) 64 (bv b) ∧ Fr [] w w' := by
  have hlt : n < d.now.length := (List.getElem?_eq_some_iff.1 hn).1
  have h0 : ¬ (n : Int) < 0 := by omega
  have h00 : (0 : Int) ≤ (n : Int) := by omega
  have hlt' : (n : Int) < (d.now.length : Int) := by omega
  have h1 := h.hp.cellAt (i := 0) rfl
  have hr : w.rangeAt bb (n * 64) (bv b) := by
    have := h.hb.range (n * 64) 64
    rwa [flat_piece bv 64 d.now h.wf.bvlen n b hn] at this
  have hbl : (bv b).length = 64 := h.wf.bvlen b (List.mem_of_getElem? hn)
  have hsp : splice (bv (zeros 64)) 0 (bv b) = bv b := splice_all _ _ (by rw [hbl]; simp)
  have htk : (bv b).take 64 = bv b := List.take_of_length_le (by omega)
  have HL := Lib.hid hbl
  have HS := Lib.hid hsp
  have HT := Lib.hid htk
  clear hbl hn hsp htk
  go_enter Try.func62, Try.ntmps62
  go_wp2_with (first
    | refine wpList_load_mid rfl 81 _ rfl bb (n * 64) rfl (bv b) _ hr Try.underlying81 rfl (by rw [HL.out]; exact size_block) ?_
    | (refine wpList_allocZ rfl 81 rfl _ zero_block ?_; intro w1 B1 F1 S1)
    | (refine wpList_storeB rfl 81 _ _ rfl w.heap.size 0 (bv b) (by rfl) (by rfl) 81 _ B1 (by rw [HL.out]; simp) (by rw [HL.out]; exact size_block) (bv_one b) ?_; intro w2 B2 F2 S2)
    | (refine wpList_appB rfl _ _ 33 33 rfl w.heap.size 5 5 .u8 1 Try.underlying33 Try.underlying33 info_byte (.slice none 0 0) 0 [] (by rfl) (Own.nil _ _ _ _) (some ⟨w.heap.size, 0, none⟩) 64 64 (bv b) (by rfl) (show Rd w2 _ _ from by have h5 := B2.rd0 64; rwa [HS.out, HT.out] at h5) HL.out (bv_one b) (by simp [maxLen]) (by simp) (by omega) ?_; intro v' w3 O3 F3 _ _))
  simp only [Nat.zero_add, List.nil_append] at O3
  obtain ⟨g, cap, cur, hv, hg, _⟩ := O3.blk (by omega)
  rw [hv] at O3
  rw [hv]
  exact bodyPost_ret (results_tmp2 rfl _ _ _) rfl ⟨g, cap, rfl, O3, (F1.trans F2 (by simp)).trans F3 (by simp)⟩

theorem write_nil (w : World) (n : Int) (v : Value) : Calls Try.prog 57 #[.pointer none, .int .i64 n, v] w fun e w' => e = .returned (.int .i64 17) ∧ w = w' := by
  go_enter Try.func57, Try.ntmps57
  go_wp2
  go_ret
  exact ⟨rfl, rfl⟩
theorem write_none {w : World} {base p bb : Nat} {lv : Value} {d : D} (h : DiskAt w base p bb lv d) (n : Int) (v : Value) (hn : n < 0 ∨ d.now.length ≤ n) :
    Calls Try.prog 57 #[.pointer (some ⟨p, 0, none⟩), .int .i64 n, v] w fun e w' => e = .returned (.int .i64 8) ∧ w = w' := by
  have h1 := h.hp.cellAt (i := 0) rfl
  rcases hn with hn | hn
  · go_enter Try.func57, Try.ntmps57
    go_wp2
    go_ret
    exact ⟨rfl, rfl⟩
  · have h0 : ¬ n < 0 := by omega
    go_enter Try.func57, Try.ntmps57
    go_wp2
    go_ret
    exact ⟨rfl, rfl⟩
theorem write_long {w : World} {base p bb : Nat} {lv : Value} {d : D} (h : DiskAt w base p bb lv d) (n : Nat) (hn : n < d.now.length) (a : Option Addr) (m c : Nat) (hm : 64 < m) :
    Calls Try.prog 57 #[.pointer (some ⟨p, 0, none⟩), .int .i64 n, .slice a m c] w fun e w' => e = .returned (.int .i64 3) ∧ w = w' := by
  have h1 := h.hp.cellAt (i := 0) rfl
  have h0 : ¬ (n : Int) < 0 := by omega
  have h2 : ¬ (d.now.length : Int) ≤ (n : Int) := by omega
  have h3 : (64 : Int) < (m : Int) := by omega
  go_enter Try.func57, Try.ntmps57
  go_wp2
  go_ret
  exact ⟨rfl, rfl⟩

theorem crash_nil (w : World) (n : Int) : Calls Try.prog 13 #[.pointer none, .int .i64 n] w fun e w' => e = .returned (.int .i64 17) ∧ w = w' := by
  go_enter Try.func13, Try.ntmps13
  go_wp2
  go_ret
  exact ⟨rfl, rfl⟩
theorem crash_arg (w : World) (p : Nat) (n : Int) (hn : n < 0) : Calls Try.prog 13 #[.pointer (some ⟨p, 0, none⟩), .int .i64 n] w fun e w' => e = .returned (.int .i64 1) ∧ w = w' := by
  go_enter Try.func13, Try.ntmps13
  go_wp2
  go_ret
  exact ⟨rfl, rfl⟩
theorem new_arg (w : World) (n : Int) (hn : n < 1 ∨ 65536 < n) : Calls Try.prog 26 #[.int .i64 n] w fun e w' => e = .returned (.tuple #[.pointer none, .int .i64 1]) ∧ w = w' := by
  rcases hn with hn | hn
  · go_enter Try.func26, Try.ntmps26
    go_wp2
    go_ret2
    exact ⟨rfl, rfl⟩
  · have h0 : ¬ n < 1 := by omega
    go_enter Try.func26, Try.ntmps26
    go_wp2
    go_ret2
    exact ⟨rfl, rfl⟩

theorem info_blockZ : (Try.prog.info? 81).map (fun i => (i.zero.map (·.cells), i.size, i.bytes)) = some (some (bv (zeros 64)).toArray, 64, 64) := by kernel_rfl
theorem info_writeZ : (Try.prog.info? 83).map (fun i => (i.zero.map (·.cells), i.size, i.bytes)) = some (some (lv3 (0, zeros 64, zeros 64)).toArray, 129, 136) := by kernel_rfl
theorem new_calls (w : World) (n : Nat) (h1 : 1 ≤ n) (h2 : n ≤ 65536) : Calls Try.prog 26 #[.int .i64 n] w fun e w' => e = .returned (.tuple #[.pointer (some ⟨w.heap.size + 1, 0, none⟩), .int .i64 0]) ∧
    DiskAt w' w.heap.size (w.heap.size + 1) w.heap.size (.slice none 0 0) ⟨List.replicate n (zeros 64), []⟩ ∧ Fr [] w w' := by
  have h3 : ¬ (n : Int) < 1 := by omega
  have h4 : ¬ 65536 < (n : Int) := by omega
  go_enter Try.func26, Try.ntmps26
  go_wp2_with (refine wpList_makeZ rfl 76 _ _ rfl 81 (bv (zeros 64)) 64 64 Try.underlying76 info_blockZ (by omega) (by simp) n n (by rfl) (by rfl) (by omega) (by omega) (by simp only [maxLen]; omega) ?_; intro w1 B1 F1 S1)
  refine bodyPost_ret (results_tmp2 rfl _ _ _) rfl ⟨rfl, ⟨?_, ?_, Own.nil _ _ _ _, ⟨?_, by simp, by simpa using h1, by simpa using h2, by simp⟩, by omega, by omega⟩, F1.alloc _⟩
  · have := Blk.new w1 79 [.slice (some ⟨w.heap.size, 0, none⟩) n n, .slice none 0 0]
    rw [S1] at this
    simpa using this
  · have e : flat bv (List.replicate n (zeros 64)) = flat id (List.replicate n (bv (zeros 64))) := by simp [flat, List.flatMap_replicate]
    rw [e]
    exact B1.alloc _
  · intro b hb
    rw [List.eq_of_mem_replicate hb]
    simp
def pad (l : List Int) : List Int := l ++ zeros (64 - l.length)
theorem pad_length (l : List Int) (h : l.length ≤ 64) : (pad l).length = 64 := by simp [pad]; omega
theorem bv_pad (l : List Int) (h : l.length ≤ 64) : splice (bv (zeros 64)) 0 (bv l) = bv (pad l) := by
  unfold splice pad
  rw [List.take_zero, List.nil_append, Nat.zero_add, bv_append, bv_length, ← bv_drop]
  have e : ∀ n : Nat, (zeros n).drop l.length = zeros (n - l.length) := fun n => by simp only [zeros, List.drop_replicate]
  rw [e]
theorem mixed : Try.prog.follows .mixedOrders = true := by kernel_rfl
theorem build_write (n : Int) (A B : List Value) (hA : A.length = 64) (hB : B.length = 64) (w : World) : (Instr.build 83 #[(0, .int .i64 n), (1, .agg A.toArray), (2, .agg B.toArray)]).run Try.prog w = .ok (.agg (Value.int .i64 n :: (A ++ B)).toArray) w := by
  have := run_build_struct (P := Try.prog) 83 _ #[(0, 1), (1, 64), (65, 64)] (.agg (lv3 (0, zeros 64, zeros 64)).toArray) #[(0, .int .i64 n), (1, .agg A.toArray), (2, .agg B.toArray)] Try.underlying83 (fun w => by kernel_rfl) (fun w => by kernel_rfl)
    ⟨rfl, by simp [Value.cells, hA], by simp [Value.cells, hA, hB], trivial⟩ (by simp [catV, Value.cells, hA, hB, lv3]) w
  rw [this]
  simp [catV, Value.cells]
theorem flat_snoc {α : Type} (f : α → List Value) (xs : List α) (x : α) : flat f (xs ++ [x]) = flat f xs ++ f x := by simp [flat]
theorem D.wf.put {d : D} (h : d.wf) {n : Nat} {b l : List Int} (hn : d.now[n]? = some b) (hl : l.length ≤ 64) (hf : d.loose.length < 1000000000) : D.wf ⟨d.now.set n (pad l), d.loose ++ [(n, b, pad l)]⟩ := by
  have hlt : n < d.now.length := (List.getElem?_eq_some_iff.1 hn).1
  refine ⟨fun x hx => ?_, fun x hx => ?_, by simpa using h.pos, by simpa using h.max, by simp; omega⟩
  · rcases List.mem_or_eq_of_mem_set hx with hx | rfl
    · exact h.now x hx
    · exact pad_length l hl
  · simp only [List.mem_append, List.mem_singleton] at hx
    rcases hx with hx | rfl
    · obtain ⟨h1, h2⟩ := h.loose x hx
      exact ⟨by simpa using h1, h2⟩
    · exact ⟨by simpa using hlt, h.now b (List.mem_of_getElem? hn), pad_length l hl⟩
theorem DiskAt.apart {w : World} {base p bb : Nat} {lv : Value} {d : D} (h : DiskAt w base p bb lv d) : p ≠ bb ∧ (∀ k ∈ ob lv, k ≠ p ∧ k ≠ bb) := by
  refine ⟨h.hp.ne h.hb (by decide), fun k hk => ?_⟩
  have hk' := mem_ob.1 hk
  rcases h.hl.2 with ⟨rfl, _⟩ | ⟨g, cap, cur, rfl, _, hg, _⟩
  · simp at hk
  · have hkg : k = g := by simpa using hk
    subst hkg
    have hB : Blk w k 83 cur.toList := by unfold Blk; simpa using hg
    exact ⟨hB.ne h.hp (by decide), hB.ne h.hb (by decide)⟩
set_option maxRecDepth 100000 in
set_option maxHeartbeats 1000000 in
theorem write_calls {w : World} {base p bb : Nat} {lv : Value} {d : D} (h : DiskAt w base p bb lv d) (hbase : base ≤ w.heap.size) (n : Nat) (b : List Int) (hn : d.now[n]? = some b) (a : Option Addr) (c : Nat) (l : List Int) (hl : l.length ≤ 64) (hr : Rd w a (bv l)) (hfew : d.loose.length < 1000000000) :
    Calls Try.prog 57 #[.pointer (some ⟨p, 0, none⟩), .int .i64 n, .slice a l.length c] w fun e w' => ∃ lv', e = .returned (.int .i64 0) ∧
      DiskAt w' base p bb lv' ⟨d.now.set n (pad l), d.loose ++ [(n, b, pad l)]⟩ ∧ Fr (p :: bb :: ob lv) w w' ∧ (∀ k ∈ ob lv', k ∈ ob lv ∨ w.heap.size ≤ k) := by
  have hlt : n < d.now.length := (List.getElem?_eq_some_iff.1 hn).1
  have h0 : ¬ (n : Int) < 0 := by omega
  have h00 : (0 : Int) ≤ (n : Int) := by omega
  have h01 : ¬ (d.now.length : Int) ≤ (n : Int) := by omega
  have h01' : (n : Int) < (d.now.length : Int) := by omega
  have h02 : ¬ (64 : Int) < (l.length : Int) := by omega
  have h1 := h.hp.cellAt (i := 0) rfl
  have h2 := h.hp.cellAt (i := 1) rfl
  obtain ⟨hpb, hap⟩ := h.apart
  have hrb : w.rangeAt bb (n * 64) (bv b) := by
    have := h.hb.range (n * 64) 64
    rwa [flat_piece bv 64 d.now h.wf.bvlen n b hn] at this
  have hbl : (bv b).length = 64 := h.wf.bvlen b (List.mem_of_getElem? hn)
  have hpl : (bv (pad l)).length = 64 := by rw [bv_length]; exact pad_length l hl
  have HN := Lib.hid hn
  have HB := Lib.hid hbl
  have HP := Lib.hid hpl
  have HA := Lib.hid hap
  obtain ⟨la, lc, hlv, hlc, hlm, hlr⟩ := h.hl.form
  have HLV := Lib.hid hlv
  clear hn hbl hpl hap hlv hlr
  go_enter Try.func57, Try.ntmps57
  go_wp2_with (first
    | (refine wpList_allocZ rfl 81 rfl _ zero_block ?_; intro w1 B1 F1 S1)
    | (refine wpList_copyB rfl _ _ 33 33 rfl 5 Try.underlying33 (by kernel_rfl) w.heap.size 0 64 64 l.length c a (by rfl) (by rfl) (bv (zeros 64)) 81 B1 (bv l) (by rw [bv_length]; exact (Nat.min_eq_left hl).symm) (hr.fr0 F1) (by simp; omega) (bv_one l) ?_; intro w2 B2 F2 S2))
  have F12 : Fr [] w w2 := F1.trans F2 (by simp)
  have S12 : w2.heap.size = w.heap.size + 1 := by omega
  rw [bv_pad l hl] at B2
  have c0 : ∀ w', Fr [] w2 w' → w'.cell? ⟨p, 0, none⟩ = some (.slice (some ⟨bb, 0, none⟩) d.now.length d.now.length) := fun w' f => ((h.hp.fr F12 (by simp)).fr f (by simp)).cellAt (i := 0) rfl
  have c1 : ∀ w', Fr [] w2 w' → w'.cell? ⟨p, 1, none⟩ = some lv := fun w' f => ((h.hp.fr F12 (by simp)).fr f (by simp)).cellAt (i := 1) rfl
  have c2 : ∀ w', Fr [] w2 w' → w'.rangeAt bb (n * 64) (bv b) := fun w' f => rangeAt_fr (rangeAt_fr hrb F12 (by simp)) f (by simp)
  have c3 : ∀ w', Fr [] w2 w' → w'.rangeAt w.heap.size 0 (bv (pad l)) := fun w' f => by
    have := (B2.fr f (by simp)).range 0 64
    rwa [List.drop_zero, List.take_of_length_le (by rw [HP.out]; omega)] at this
  refine wp_region_ord (Fr [] w2) [0,1,2,3,4,5,6,7,8,9,10,11,12,13,14,15,16,17,18,19] [16, 19] [15, 16, 19] [4, 9, 12, 13] mixed (by kernel_rfl) ?_
  have hS : Fr [] w2 w2.drew := (Fr.refl _ _).drew
  simp only [pairs, pickN]
  repeat (first | (refine wpO_free ?_ (by rfl) (by rfl) (fun w' => ?_) ?_; rotate_left; (go_simp; rfl); simp only [Act.put, List.setIfInBounds_toArray, List.set_cons_zero, List.set_cons_succ]) | (refine wpO_take ?_ hS (by rfl) (by rfl) (fun w' hw' => ?_) ?_; rotate_left; (go_simp; rfl); simp only [Act.put, List.setIfInBounds_toArray, List.set_cons_zero, List.set_cons_succ]) | (refine wpO_pass (by rfl) ?_; simp only [Act.put, List.setIfInBounds_toArray, List.set_cons_zero, List.set_cons_succ]))
  refine wpO_takeY _ hS (by rfl) (yieldsIf_load_mid (by rfl) 81 _ rfl bb (n * 64) rfl (bv b) _ c2 Try.underlying81 rfl (by rw [HB.out]; exact size_block)) ?_
  simp only [Act.put, List.setIfInBounds_toArray, List.set_cons_zero, List.set_cons_succ]
  refine wpO_takeY _ hS (by rfl) (yieldsIf_load_mid (by rfl) 81 _ rfl w.heap.size 0 rfl (bv (pad l)) _ c3 Try.underlying81 rfl (by rw [HP.out]; exact size_block)) ?_
  simp only [Act.put, List.setIfInBounds_toArray, List.set_cons_zero, List.set_cons_succ]
  refine wpO_build _ (by rfl) _ _ rfl rfl [(0, .int .i64 n), (1, .agg (bv b).toArray), (2, .agg (bv (pad l)).toArray)] (by rfl) (build_write n (bv b) (bv (pad l)) HB.out HP.out) ?_
  simp only [Act.put, List.setIfInBounds_toArray, List.set_cons_zero, List.set_cons_succ]
  refine wpO_eff (by rfl) ?_
  refine wpList_buildSlice1 rfl 77 83 _ rfl (lv3 (0, zeros 64, zeros 64)) 129 136 Try.underlying77 info_writeZ (by simp [lv3]) (by omega) (by omega) _ (lv3 (n, b, pad l)) (by rfl) (by rfl) (by simp only [lv3, List.length_cons, List.length_append, HB.out, HP.out]) ?_
  intro w3 B3 F3 S3
  refine effQ_keep (hS.trans0 F3) ?_
  simp only [Act.put, List.setIfInBounds_toArray, List.set_cons_zero, List.set_cons_succ]
  refine wpO_eff (by rfl) ?_
  have F13 : Fr [] w w3 := (F12.trans0 hS).trans0 F3
  have S13 : w3.heap.size = w.heap.size + 2 := by simp only [World.size_drew] at S3; omega
  obtain ⟨i0, hi0, hz0, hz1, hz2⟩ := info_parts (P := Try.prog) (e := 83) (z := .agg (lv3 (0, zeros 64, zeros 64)).toArray) (size := 129) (bytes := 136) (by kernel_rfl)
  have hfew2 : d.loose.length + 1 ≤ 1000000000 := hfew
  refine wpList_app rfl _ _ 77 77 rfl base 83 i0 _ 129 136 Try.underlying77 hi0 hz0 hz1 hz2 (by simp [Value.cells, lv3]) (by omega) lv d.loose.length (flat lv3 d.loose) (by rfl) (h.hl.fr0 F13) _ 1 (lv3 (n, b, pad l)) (by rfl) ?_ (by simp only [maxLen]; omega) (by omega) (by have := F13.size; omega) ?_
  · refine Rd.src (Rd.mk ?_) Try.underlying77 (by simp only [lv3, List.length_cons, List.length_append, HB.out, HP.out]) ?_
    · have := B3.range 0 129
      rwa [List.drop_zero, List.take_of_length_le (by simp only [lv3, List.length_cons, List.length_append, HB.out, HP.out]; omega)] at this
    · intro u hu
      simp only [lv3, List.mem_cons, List.mem_append] at hu
      rcases hu with rfl | hu | hu
      · rfl
      · exact bv_one _ u hu
      · exact bv_one _ u hu
  intro lv' w4 O4 F4 K4 _
  rw [← flat_snoc] at O4
  refine effQ_skip (by decide) ?_
  simp only [Act.put, List.setIfInBounds_toArray, List.set_cons_zero, List.set_cons_succ]
  repeat (first | (refine wpO_free ?_ (by rfl) (by rfl) (fun w' => ?_) ?_; rotate_left; (go_simp; rfl); simp only [Act.put, List.setIfInBounds_toArray, List.set_cons_zero, List.set_cons_succ]) | (refine wpO_pass (by rfl) ?_; simp only [Act.put, List.setIfInBounds_toArray, List.set_cons_zero, List.set_cons_succ]))
  refine wpO_eff (by rfl) ?_
  obtain ⟨la', lc', hlv', _⟩ := O4.form
  have B4 := (h.hp.fr F13 (by simp)).fr F4 (fun hm => (HA.out p hm).1 rfl)
  have hone : lv'.oneCell' = true ∧ lv'.cells = #[lv'] := by rw [hlv']; exact ⟨rfl, rfl⟩
  refine wpList_store1 rfl 77 _ _ rfl p 1 lv' (by rfl) (by rfl) hone.2 79 _ B4 (by simp) (by kernel_rfl) hone.1 ?_
  intro w5 B5 F5 S5
  refine effQ_skip (by decide) (wpO_nil ?_)
  simp only [Act.put, List.setIfInBounds_toArray, List.set_cons_zero, List.set_cons_succ]
  have F14 : Fr (ob lv) w w4 := F13.ext.trans1 F4
  have F15 : Fr (p :: ob lv) w w5 := (F14.mono (fun k hk _ => by simp [hk])).trans F5 (by simp)
  have hbn : bb ∉ p :: ob lv := fun hm => by
    simp only [List.mem_cons] at hm
    rcases hm with hm | hm
    · exact hpb hm.symm
    · exact (HA.out bb hm).2 rfl
  have d0 : ∀ w', Fr [] w5 w' → w'.cell? ⟨p, 0, none⟩ = some (.slice (some ⟨bb, 0, none⟩) d.now.length d.now.length) := fun w' f => (B5.fr f (by simp)).cellAt (i := 0) rfl
  have G2 : Blk w5 w.heap.size 81 (bv (pad l)) := by
    have g3 := ((B2.drew).fr F3 (by simp))
    have hne : w.heap.size ∉ ob lv := fun hm => by have := (h.hl.lt hm).2; omega
    have hnp : w.heap.size ∉ [p] := fun hm => by
      have := h.hp.lt
      simp only [List.mem_singleton] at hm
      omega
    exact (g3.fr F4 hne).fr F5 hnp
  have d3 : ∀ w', Fr [] w5 w' → w'.rangeAt w.heap.size 0 (bv (pad l)) := fun w' f => by
    have := (G2.fr f (by simp)).range 0 64
    rwa [List.drop_zero, List.take_of_length_le (by rw [HP.out]; omega)] at this
  clear c0 c1 c2 c3 hS
  have HO4 := Lib.hid O4
  have HK4 := Lib.hid K4
  have HB5 := Lib.hid B5
  clear O4 K4 B5 hone B4
  go_wp2_with fail
  refine wp_region_ord (Fr [] w5) [0,1,2,3,4,5,6,7] [7] [7] [3, 5] mixed (by kernel_rfl) ?_
  have hS : Fr [] w5 w5.drew := (Fr.refl _ _).drew
  simp only [pairs, pickN]
  repeat (first | (refine wpO_free ?_ (by rfl) (by rfl) (fun w' => ?_) ?_; rotate_left; (go_simp; rfl); simp only [Act.put, List.setIfInBounds_toArray, List.set_cons_zero, List.set_cons_succ]) | (refine wpO_take ?_ hS (by rfl) (by rfl) (fun w' hw' => ?_) ?_; rotate_left; (go_simp; rfl); simp only [Act.put, List.setIfInBounds_toArray, List.set_cons_zero, List.set_cons_succ]) | (refine wpO_pass (by rfl) ?_; simp only [Act.put, List.setIfInBounds_toArray, List.set_cons_zero, List.set_cons_succ]))
  refine wpO_takeY _ hS (by rfl) (yieldsIf_load_mid (by rfl) 81 _ rfl w.heap.size 0 rfl (bv (pad l)) _ d3 Try.underlying81 rfl (by rw [HP.out]; exact size_block)) ?_
  simp only [Act.put, List.setIfInBounds_toArray, List.set_cons_zero, List.set_cons_succ]
  repeat (first | (refine wpO_free ?_ (by rfl) (by rfl) (fun w' => ?_) ?_; rotate_left; (go_simp; rfl); simp only [Act.put, List.setIfInBounds_toArray, List.set_cons_zero, List.set_cons_succ]) | (refine wpO_take ?_ hS (by rfl) (by rfl) (fun w' hw' => ?_) ?_; rotate_left; (go_simp; rfl); simp only [Act.put, List.setIfInBounds_toArray, List.set_cons_zero, List.set_cons_succ]) | (refine wpO_pass (by rfl) ?_; simp only [Act.put, List.setIfInBounds_toArray, List.set_cons_zero, List.set_cons_succ]))
  refine wpO_eff (by rfl) ?_
  have G3 : Blk w5.drew bb 81 (flat bv d.now) := (h.hb.fr F15 hbn).drew
  refine wpList_storeB rfl 81 _ _ rfl bb (n * 64) (bv (pad l)) (by rfl) (by rfl) 81 _ G3 ?_ (by rw [HP.out]; exact size_block) (bv_one _) ?_
  · rw [HP.out, flat_length bv 64 d.now h.wf.bvlen]
    omega
  intro w6 B6 F6 S6
  rw [flat_splice bv 64 d.now h.wf.bvlen n hlt (pad l) HP.out] at B6
  refine effQ_skip (by decide) (wpO_nil ?_)
  simp only [Act.put, List.setIfInBounds_toArray, List.set_cons_zero, List.set_cons_succ]
  have hfin : DiskAt w6 base p bb lv' ⟨d.now.set n (pad l), d.loose ++ [(n, b, pad l)]⟩ := by
    have g1 := HB5.out.drew.fr F6 (by simpa using hpb)
    have hlvb : ∀ k ∈ ob lv', k ∉ [p] ∧ k ∉ [bb] := fun k hk => by
      have h3 := h.hp.lt
      have h4 := h.hb.lt
      rcases HK4.out with hk' | hk'
      · rw [hk'] at hk
        have := HA.out k hk
        exact ⟨by simpa using this.1, by simpa using this.2⟩
      · rw [hk'] at hk
        simp only [List.mem_singleton] at hk
        exact ⟨by simp only [List.mem_singleton]; omega, by simp only [List.mem_singleton]; omega⟩
    refine ⟨by simpa using g1, B6, ?_, h.wf.put HN.out hl hfew, h.bp, h.bbb⟩
    have g2 := (HO4.out.fr F5 (fun k hk => (hlvb k hk).1)).fr ((Fr.refl [] w5).drew) (by simp)
    simpa using g2.fr F6 (fun k hk => (hlvb k hk).2)
  have hF : Fr (p :: bb :: ob lv) w w6 := by
    have g1 := (F15.drew).mono (S' := p :: bb :: ob lv) (fun k hk _ => by simp only [List.mem_cons] at hk ⊢; rcases hk with hk | hk <;> simp [hk])
    exact g1.trans F6 (by simp)
  have hK : ∀ k ∈ ob lv', k ∈ ob lv ∨ w.heap.size ≤ k := fun k hk => by
    rcases HK4.out with hk' | hk'
    · rw [hk'] at hk
      exact .inl hk
    · rw [hk'] at hk
      simp only [List.mem_singleton] at hk
      exact .inr (by omega)
  have HF := Lib.hid hfin
  have HFF := Lib.hid hF
  have HK := Lib.hid hK
  clear hfin hF hK
  go_wp2_with fail
  go_ret
  exact ⟨lv', rfl, HF.out, HFF.out, HK.out⟩
end Go.Fur
namespace Go.Fur
open Go Go.RowKit Go.Proofs
set_option linter.unusedVariables false
set_option linter.unusedSimpArgs false
theorem info_byteZ : (Try.prog.info? 5).map (fun i => (i.zero.map (·.cells), i.size, i.bytes)) = some (some [Value.int .u8 0].toArray, 1, 1) := by kernel_rfl
/-- The digits of y to the base 256, the first m of k. -/
def dg (y k m : Nat) : List Int := (List.range m).map fun i => ((y / 256 ^ (k - 1 - i) % 256 : Nat) : Int)
theorem dg_length (y k m : Nat) : (dg y k m).length = m := by simp [dg]
theorem dg_succ (y k m : Nat) : dg y k (m + 1) = dg y k m ++ [((y / 256 ^ (k - 1 - m) % 256 : Nat) : Int)] := by simp [dg, List.range_succ]
/-- The bytes of a number. -/
def layN (x : Nat) : List Int := if kl x = 0 then [(x : Int)] else ((191 + kl x : Nat) : Int) :: dg (x - sh (kl x - 1)) (kl x) (kl x)
theorem layN_length (x : Nat) : (layN x).length = 1 + kl x := by
  unfold layN
  split
  · rename_i h
    simp [h]
  · simp [dg_length]
    omega
def LayR (w : World) (n : Nat) (l : List Int) (y k : Nat) (v i : Value) (wr : World) : Prop :=
  ∃ m : Nat, m ≤ k ∧ i = .int .i64 m ∧ Own wr w.heap.size 5 1 v (n + 1 + m) (bv (l ++ ((191 + k : Nat) : Int) :: dg y k m)) ∧ Fr [] w wr
set_option maxRecDepth 100000 in
set_option maxHeartbeats 1000000 in
theorem lay_calls (w : World) (a : Option Addr) (n c : Nat) (l : List Int) (hl : l.length = n) (hn : n + 9 ≤ 140737488355328) (ra : Rd w a (bv l)) (x : Nat) (hx : x < 18446744073709551616) :
    Calls Try.prog 44 #[.slice a n c, .int .u64 x] w fun e w' => ∃ v, e = .returned v ∧ Own w' w.heap.size 5 1 v (n + (layN x).length) (bv (l ++ layN x)) ∧ Fr [] w w' := by
  subst hl
  have hb9 : (l.length : Int) + 9 ≤ 140737488355328 := by omega
  have hw9 : IntKind.i64.wrap ((l.length : Int) + 9) = ((l.length + 9 : Nat) : Int) := by rw [IntKind.wrap_i64]; omega
  have HA := Lib.hid ra
  obtain ⟨k, hk8, hk, hlo, hhi⟩ := kl_spec x
  have hly : layN x = if k = 0 then [(x : Int)] else ((191 + k : Nat) : Int) :: dg (x - sh (k - 1)) k k := by unfold layN; rw [hk]
  generalize layN x = L at *
  have HK := Lib.hid (And.intro hk (And.intro hlo (And.intro hhi hly)))
  clear ra hk hlo hhi hly
  go_enter Try.func44, Try.ntmps44
  go_wp2_with (first
    | (refine wpList_makeZ rfl 33 _ _ rfl 5 [.int .u8 0] 1 1 Try.underlying33 info_byteZ (by omega) rfl 0 (l.length + 9) (by rfl) (by rfl) (by omega) (by omega) (by simp only [maxLen]; omega) ?_; intro w1 B1 F1 S1; have O1 := Own.of_blk (base := w.heap.size) (size := 1) (n := 0) (cap := l.length + 9) (Nat.le_refl _) B1 (by omega) (by simp only [maxLen]; omega) (by rw [flat_length id 1 _ (fun x hx => by rw [List.eq_of_mem_replicate hx]; rfl)]; simp); have HO1 := Lib.hid O1; have HF1 := Lib.hid F1; have HS1 := Lib.hid S1; clear B1 F1 S1 O1)
    | (refine wpList_appB rfl _ _ 33 33 rfl _ 5 5 .u8 1 Try.underlying33 Try.underlying33 info_byte _ 0 _ (by rfl) HO1.out a l.length c (bv l) (by rfl) (HA.out.fr0 HF1.out) (by simp) (bv_one _) (by simp only [maxLen]; omega) (by omega) (by have := HS1.out; omega) ?_; intro v2 w2 O2 F2 K2 _; have HO2 := Lib.hid O2; have HF2 := Lib.hid (HF1.out.trans F2 (fun x hx hlt => by simp at hx; omega)); clear O2 F2 K2))
  refine (size_calls w2 x).mono ?_
  rintro e w' ⟨rfl, rfl⟩
  have O2 := HO2.out
  simp only [Nat.zero_mul, List.take_zero, List.nil_append, Nat.zero_add] at O2
  have HO2 := Lib.hid O2
  clear O2
  obtain ⟨hk, hlo, hhi, hly⟩ := HK.out
  rw [hk, show ((1 + k : Nat) : Int) = (k : Int) + 1 by omega]
  have hz2 := HF2.out.size
  by_cases h0 : k = 0
  · subst h0
    have h192 := hhi (by omega)
    rw [sh_vals.1] at h192
    have hxu : IntKind.u8.wrap (x : Int) = (x : Int) := by rw [IntKind.wrap_u8]; omega
    rw [if_pos rfl] at hly
    subst hly
    clear hk hlo hhi HK
    go_wp2_with (first
      | (refine wpList_buildSlice1 rfl 33 5 _ rfl [.int .u8 0] 1 1 Try.underlying33 info_byteZ (by simp) (by omega) (by omega) _ [.int .u8 x] (by rfl) (by rfl) (by simp) ?_; intro w3 B3 F3 S3; have HB3 := Lib.hid B3; have HF3 := Lib.hid F3; have HS3 := Lib.hid S3; clear B3 F3 S3)
      | (refine wpList_appB rfl _ _ 33 33 rfl _ 5 5 .u8 1 Try.underlying33 Try.underlying33 info_byte v2 l.length (bv l) (by rfl) (HO2.out.fr0 HF3.out) _ 1 1 [.int .u8 x] (by rfl) (by simpa using HB3.out.rd0 1) (by simp) (by simp [Value.oneCell']) (by simp only [maxLen]; omega) (by omega) (by have := HS3.out; omega) ?_; intro v4 w4 O4 F4 K4 _; have HO4 := Lib.hid O4; have HF4 := Lib.hid F4; clear O4 F4 K4))
    go_ret
    refine ⟨v4, rfl, ?_, (HF2.out.trans0 HF3.out).trans HF4.out (fun y hy hlt => by have := (HO2.out.lt hy).1; omega)⟩
    have e : bv l ++ [Value.int .u8 x] = bv (l ++ [(x : Int)]) := by simp [bv_append, bv]
    rw [← e]
    exact HO4.out
  · have h0b : ((k : Int) == 0) = false := by simpa using h0
    rw [if_neg h0] at hly
    have hlo := hlo (by omega)
    have hsb : sh (k - 1) ≤ x := hlo
    have hwk5 : IntKind.u8.wrap (192 + (k : Int) - 1) = 191 + (k : Int) := by rw [IntKind.wrap_u8]; omega
    have hsub : IntKind.u64.wrap ((x : Int) - (sh (k - 1) : Int)) = ((x - sh (k - 1) : Nat) : Int) := by rw [IntKind.wrap_u64]; omega
    have HL := Lib.hid hly
    have HSB := Lib.hid hsb
    have H0 := Lib.hid h0
    clear hly hk hhi HK hlo hsb h0 hb9 hw9
    generalize hY : x - sh (k - 1) = y at *
    generalize hS : sh (k - 1) = s at *
    go_wp2_with (first
      | (refine wpList_buildSlice1 rfl 33 5 _ rfl [.int .u8 0] 1 1 Try.underlying33 info_byteZ (by simp) (by omega) (by omega) _ [.int .u8 (191 + (k : Int))] (by rfl) (by rfl) (by simp) ?_; intro w3 B3 F3 S3; have HB3 := Lib.hid B3; have HF3 := Lib.hid F3; have HS3 := Lib.hid S3; clear B3 F3 S3)
      | (refine wpList_appB rfl _ _ 33 33 rfl _ 5 5 .u8 1 Try.underlying33 Try.underlying33 info_byte v2 l.length (bv l) (by rfl) (HO2.out.fr0 HF3.out) _ 1 1 [.int .u8 (191 + (k : Int))] (by rfl) (by simpa using HB3.out.rd0 1) (by simp) (by simp [Value.oneCell']) (by simp only [maxLen]; omega) (by omega) (by have := HS3.out; omega) ?_; intro v4 w4 O4 F4 K4 _; have HO4 := Lib.hid O4; have HF4 := Lib.hid F4; clear O4 F4 K4))
    refine (shelf_calls w4 k (by have := H0.out; omega) hk8).mono ?_
    rintro e w' ⟨rfl, rfl⟩
    rw [hS]
    go_wp2_with fail
    have R0 : LayR w l.length l y k v4 (.int .i64 (0 : Nat)) w4 := by
      refine ⟨0, Nat.zero_le _, rfl, ?_, (HF2.out.trans0 HF3.out).trans HF4.out (fun y hy hlt => by have := (HO2.out.lt hy).1; omega)⟩
      have e : bv l ++ [Value.int .u8 (191 + (k : Int))] = bv (l ++ ((191 + k : Nat) : Int) :: dg y k 0) := by simp [bv_append, bv, dg]
      rw [← e]
      exact HO4.out
    have HR0 := Lib.hid R0
    clear R0 HO4 HF4 HO2 HF3 HS3 HB3
    go_loopw [5, 36] (fun v i wr => LayR w l.length l y k v i wr) (fun _ i _ => k - (intOf i).toNat)
    case atStart => exact HR0.out
    case round =>
      obtain ⟨m, hm, rfl, hO, hF⟩ := hrel
      by_cases hlt : m < k
      · have hmb : (m : Int) < (k : Int) := by omega
        have HO := Lib.hid hO
        have HF := Lib.hid hF
        clear hO hF
        have hz := HF.out.size
        go_wp2_with (first
          | (refine wpList_buildSlice1 rfl 33 5 _ rfl [.int .u8 0] 1 1 Try.underlying33 info_byteZ (by simp) (by omega) (by omega) _ [.int .u8 ((y : Int) / 2 ^ (8 * (k - 1 - m)) % 256)] (by rfl) (by rfl) (by simp) ?_; intro w5 B5 F5 S5; have HB5 := Lib.hid B5; have HF5 := Lib.hid F5; have HS5 := Lib.hid S5; clear B5 F5 S5)
          | (refine wpList_appB rfl _ _ 33 33 rfl _ 5 5 .u8 1 Try.underlying33 Try.underlying33 info_byte _ (l.length + 1 + m) (bv (l ++ ((191 + k : Nat) : Int) :: dg y k m)) (by rfl) (HO.out.fr0 HF5.out) _ 1 1 [.int .u8 ((y : Int) / 2 ^ (8 * (k - 1 - m)) % 256)] (by rfl) (by simpa using HB5.out.rd0 1) (by simp) (by simp [Value.oneCell']) (by simp only [maxLen]; omega) (by omega) (by have := HS5.out; omega) ?_; intro v6 w6 O6 F6 K6 _; have HO6 := Lib.hid O6; have HF6 := Lib.hid F6; clear O6 F6 K6))
        have R6 : LayR w l.length l y k v6 (.int .i64 (m + 1 : Nat)) w6 := by
          refine ⟨m + 1, by omega, rfl, ?_, (HF.out.trans0 HF5.out).trans HF6.out (fun z hz hlt => by have := (HO.out.lt hz).1; omega)⟩
          have e1 : (y : Int) / 2 ^ (8 * (k - 1 - m)) % 256 = ((y / 256 ^ (k - 1 - m) % 256 : Nat) : Int) := by
            have : (256 : Nat) = 2 ^ 8 := rfl
            rw [show (256 : Nat) ^ (k - 1 - m) = 2 ^ (8 * (k - 1 - m)) by rw [this, ← Nat.pow_mul]]
            simp
          have e : bv (l ++ ((191 + k : Nat) : Int) :: dg y k m) ++ [Value.int .u8 ((y : Int) / 2 ^ (8 * (k - 1 - m)) % 256)] = bv (l ++ ((191 + k : Nat) : Int) :: dg y k (m + 1)) := by
            rw [e1, dg_succ]
            simp [bv]
          rw [← e]
          exact HO6.out
        have HR6 := Lib.hid R6
        clear R6
        go_wp2_with fail
        go_roundw
        case rel => exact HR6.out
        case measure => simp [intOf]; omega
      · have hmk : m = k := by omega
        subst hmk
        have hmb : ¬ (m : Int) < (m : Int) := by omega
        have HO := Lib.hid hO
        clear hO
        go_wp2_with fail
        go_ret
        refine ⟨_, rfl, ?_, hF⟩
        have e := HL.out
        rw [e]
        have := HO.out
        rwa [show l.length + (((191 + m : Nat) : Int) :: dg y m m).length = l.length + 1 + m by simp [dg_length]; omega]
end Go.Fur
namespace Go.Fur
open Go Go.RowKit Go.Proofs
set_option linter.unusedVariables false
set_option linter.unusedSimpArgs false
/-- Digits to the base 256. -/
def n256 (l : List Int) : Nat := l.foldl (fun x c => 256 * x + c.toNat) 0
theorem n256_snoc (l : List Int) (c : Int) : n256 (l ++ [c]) = 256 * n256 l + c.toNat := by simp [n256]
theorem n256_lt_aux : ∀ (l : List Int) (a : Nat), Byt l → l.foldl (fun x c => 256 * x + c.toNat) a < (a + 1) * 256 ^ l.length
  | [], a, _ => by simp
  | c :: l, a, h => by
    have h1 := n256_lt_aux l (256 * a + c.toNat) (fun x hx => h x (by simp [hx]))
    have h2 := h c (by simp)
    rw [List.foldl_cons, List.length_cons, Nat.pow_succ]
    refine Nat.lt_of_lt_of_le h1 ?_
    rw [Nat.mul_comm (256 ^ l.length) 256, ← Nat.mul_assoc]
    exact Nat.mul_le_mul_right _ (by omega)
theorem n256_lt (l : List Int) (h : Byt l) : n256 l < 256 ^ l.length := by
  have := n256_lt_aux l 0 h
  simpa [n256] using this
theorem or_digit (x y : Nat) (hx : x < 72057594037927936) (hy : y < 256) : bits BinOp.or IntKind.u64 ((x : Int) * 256) (y : Int) = ((256 * x + y : Nat) : Int) := by
  have h := u64_or_nat (x * 256) y (by omega) (by omega)
  have h2 := Nat.two_pow_add_eq_or_of_lt (i := 8) (b := y) (by simpa using hy) x
  rw [Int.natCast_mul] at h
  rw [show ((256 : Nat) : Int) = 256 from rfl] at h
  rw [h, Nat.mul_comm x 256, ← show 2 ^ 8 * x = 256 * x from rfl, ← h2]
/-- What is read at a place: the number, the place behind it, the error. -/
def readN (b : List Int) (at_ : Int) : Int × Int × Int :=
  if at_ < 0 ∨ (b.length : Int) < at_ then (0, 0, 1) else
  match b.drop at_.toNat with
  | [] => (0, at_, 5)
  | h :: t =>
    if h < 192 then (h, at_ + 1, 0) else if 199 < h then (0, at_, 4) else
    if t.length < (h - 191).toNat then (0, (b.length : Int), 5) else
    if 18446744073709551616 ≤ n256 (t.take (h - 191).toNat) + sh ((h - 191).toNat - 1) then (0, at_, 4) else
    ((n256 (t.take (h - 191).toNat) + sh ((h - 191).toNat - 1) : Nat), at_ + 1 + ((h - 191).toNat : Int), 0)
def ReadR (w : World) (t : List Int) (k : Nat) (x left i : Value) (wr : World) : Prop :=
  ∃ m : Nat, m ≤ t.length ∧ m < k ∧ x = .int .u64 (n256 (t.take m)) ∧ left = .int .i64 ((k - m : Nat) : Int) ∧ i = .int .i64 m ∧ w = wr
theorem sh_le (k : Nat) (h : k ≤ 8) : sh (k - 1) ≤ 72340172838076864 := by
  have := sh_mono (k - 1) 7 (by omega)
  rwa [sh_vals.2.2.2.2.2.2.2] at this
def ReadE (r : Int × Int × Int) (w : World) (e : Ending) (w' : World) : Prop := e = .returned (.tuple #[.int .u64 r.1, .int .i64 r.2.1, .int .i64 r.2.2]) ∧ w = w'
set_option maxRecDepth 100000 in
set_option maxHeartbeats 1000000 in
theorem sread_calls (w : World) (a : Option Addr) (n c : Nat) (l : List Int) (hl : l.length = n) (hc : n ≤ c) (hn : n ≤ 140737488355328) (hb : Byt l) (ra : Rd w a (bv l)) (at_ : Int) :
    Calls Try.prog 67 #[.slice a n c, .int .i64 at_] w (ReadE (readN l at_) w) := by
  subst hl
  by_cases h0 : at_ < 0
  · have e : readN l at_ = (0, 0, 1) := by unfold readN; rw [if_pos (.inl h0)]
    rw [e]
    clear e
    go_enter Try.func67, Try.ntmps67
    go_wp2_with fail
    go_step3
    go_wp2_with fail
    rw [Exit.noGoto_ret]
    go_ret3
    exact ⟨rfl, rfl⟩
  by_cases h1 : (l.length : Int) < at_
  · have e : readN l at_ = (0, 0, 1) := by unfold readN; rw [if_pos (.inr h1)]
    rw [e]
    clear e
    go_enter Try.func67, Try.ntmps67
    go_wp2_with fail
    go_step3
    go_wp2_with fail
    rw [Exit.noGoto_ret]
    go_ret3
    exact ⟨rfl, rfl⟩
  obtain ⟨i, rfl⟩ := Int.eq_ofNat_of_zero_le (show 0 ≤ at_ by omega)
  have hi : i ≤ l.length := by omega
  by_cases h2 : i = l.length
  · have e : readN l i = (0, (i : Int), 5) := by
      unfold readN
      rw [if_neg (by omega), Int.toNat_natCast, List.drop_eq_nil_of_le (by omega)]
    rw [e]
    clear e
    subst h2
    clear hi
    go_enter Try.func67, Try.ntmps67
    go_wp2_with fail
    go_step3
    go_wp2_with fail
    rw [Exit.noGoto_ret]
    go_ret3
    exact ⟨rfl, rfl⟩
  have hlt : i < l.length := by omega
  obtain ⟨h, t, hd⟩ : ∃ h t, l.drop i = h :: t := ⟨l[i], l.drop (i + 1), by rw [List.drop_eq_getElem_cons hlt]⟩
  have hli : l[i]? = some h := by
    have := congrArg (·[0]?) hd
    simpa using this
  have ht : t = l.drop (i + 1) := by
    have := congrArg List.tail hd
    simpa using this.symm
  have hby := hb h (List.mem_of_getElem? hli)
  obtain ⟨b, o, rfl, hr⟩ := ra (by intro e; have := congrArg List.length e; simp at this; subst this; simp at hlt)
  have hcell : w.cell? ⟨b, o + i, none⟩ = some (.int .u8 h) := hr i _ (by rw [bv_get, hli]; rfl)
  have hRr : readN l i = if h < 192 then (h, (i : Int) + 1, 0) else if 199 < h then (0, (i : Int), 4) else
    if t.length < (h - 191).toNat then (0, (l.length : Int), 5) else
    if 18446744073709551616 ≤ n256 (t.take (h - 191).toNat) + sh ((h - 191).toNat - 1) then (0, (i : Int), 4) else
    ((n256 (t.take (h - 191).toNat) + sh ((h - 191).toNat - 1) : Nat), (i : Int) + 1 + ((h - 191).toNat : Int), 0) := by
      unfold readN
      rw [if_neg (by omega), Int.toNat_natCast, hd]
  have i0 : ((i : Int) == (l.length : Int)) = false := by simp; omega
  have i1 : ¬ (i : Int) < 0 := by omega
  have i2 : ¬ (l.length : Int) < (i : Int) := by omega
  have i3 : (i : Int) < (l.length : Int) := by omega
  have i4 : (0 : Int) ≤ (i : Int) := by omega
  have hby0 := hby.1
  have hby1 := hby.2
  have HR := Lib.hid hr
  have HD := Lib.hid (And.intro hd (And.intro hli ht))
  generalize readN l (i : Int) = r at *
  have HB := Lib.hid hb
  clear hr hd hli ht hb h0 h1 h2 hby ra
  by_cases h3 : h < 192
  · rw [if_pos h3] at hRr
    subst hRr
    go_enter Try.func67, Try.ntmps67
    go_wp2_with fail
    go_step3
    go_wp2_with fail
    rw [Exit.noGoto_ret]
    go_ret3
    exact ⟨rfl, rfl⟩
  rw [if_neg h3] at hRr
  by_cases h4 : 199 < h
  · rw [if_pos h4] at hRr
    subst hRr
    go_enter Try.func67, Try.ntmps67
    go_wp2_with fail
    go_step3
    go_wp2_with fail
    rw [Exit.noGoto_ret]
    go_ret3
    exact ⟨rfl, rfl⟩
  rw [if_neg h4] at hRr
  obtain ⟨k, hk⟩ : ∃ k : Nat, h = (k : Int) + 191 := ⟨(h - 191).toNat, by omega⟩
  have hkk : (h - 191).toNat = k := by omega
  rw [hkk] at hRr
  have HE := Lib.hid hRr
  clear hRr
  subst hk
  have hk8 : 1 ≤ k ∧ k ≤ 8 := by omega
  obtain ⟨hk1, hk8⟩ := hk8
  have htl : t.length + (i + 1) = l.length := by rw [HD.out.2.2, List.length_drop]; omega
  have R0 : ReadR w t k (.int .u64 0) (.int .i64 k) (.int .i64 0) w := ⟨0, Nat.zero_le _, hk1, rfl, rfl, rfl, rfl⟩
  have HR0 := Lib.hid R0
  have HT := Lib.hid htl
  clear R0 hkk htl h3 h4
  have j1 : decide ((i : Int) < 0) = false := by simp
  have j2 : decide ((k : Int) + 191 < 192) = false := by simp; omega
  have j3 : decide ((199 : Int) < (k : Int) + 191) = false := by simp; omega
  have hwk : (k : Int) + 191 - 192 + 1 = (k : Int) := by omega
  by_cases hcap : c = i + 1
  · subst hcap
    go_enter Try.func67, Try.ntmps67
    go_wp2_with fail
    go_step3
    go_wp2_with fail
    go_step3
    go_wp2_with fail
    clear hwk j1 j2 j3
    have hE : r = (0, (l.length : Int), 5) := by rw [HE.out, if_pos (by have := HT.out; omega)]
    have hk0 : 0 < (k : Int) := by omega
    clear HE
    have HE := Lib.hid hE
    clear hE
    have hnl : ¬ 0 < l.length - (i + 1) := by omega
    go_loopw [8, 9, 61] (fun x left j wr => x = .int .u64 0 ∧ left = .int .i64 k ∧ j = .int .i64 (0 : Nat) ∧ w = wr) (fun _ _ _ _ => 0)
    case atStart => exact ⟨rfl, rfl, rfl, rfl⟩
    case round =>
      obtain ⟨rfl, rfl, rfl, rfl⟩ := hrel
      go_wp2_with fail
      refine (shelf_calls w k hk1 hk8).mono ?_
      rintro e w' ⟨rfl, rfl⟩
      go_wp2_with fail
      rw [Exit.noGoto_ret]
      go_ret3
      rw [HE.out]
      exact ⟨rfl, rfl⟩
  · go_enter Try.func67, Try.ntmps67
    go_wp2_with fail
    go_step3
    go_wp2_with fail
    go_step3
    go_wp2_with fail
    clear hwk j1 j2 j3
    go_loopw [8, 9, 61] (fun x left i wr => ReadR w t k x left i wr) (fun _ _ i _ => t.length - (intOf i).toNat)
    case atStart => exact HR0.out
    case round =>
      obtain ⟨m, hm, hmk, rfl, rfl, rfl, rfl⟩ := hrel
      by_cases hlt2 : m < t.length
      · have hnl : m < l.length - (i + 1) := by have := HT.out; omega
        obtain ⟨y, hy⟩ : ∃ y, t[m]? = some y := ⟨t[m], List.getElem?_eq_getElem hlt2⟩
        have hyl : l[i + 1 + m]? = some y := by
          have := hy
          rw [HD.out.2.2, List.getElem?_drop] at this
          exact this
        have hyb := HB.out y (List.mem_of_getElem? hyl)
        have hc2 : w.cell? ⟨b, o + (i + 1) + m, none⟩ = some (.int .u8 y) := by
          have := HR.out (i + 1 + m) (.int .u8 y) (by rw [bv_get, hyl]; rfl)
          rwa [show o + (i + 1) + m = o + (i + 1 + m) by omega]
        have hsn : n256 (t.take (m + 1)) = 256 * n256 (t.take m) + y.toNat := by
          rw [List.take_add_one, hy]
          exact n256_snoc _ _
        have hlo : n256 (t.take m) < 256 ^ m := by
          have := n256_lt (t.take m) (by rw [HD.out.2.2]; exact (HB.out.drop _).take _)
          rwa [List.length_take, Nat.min_eq_left hm] at this
        have h56 : n256 (t.take m) < 72057594037927936 := Nat.lt_of_lt_of_le hlo (Nat.le_trans (Nat.pow_le_pow_right (by omega) (show m ≤ 7 by omega)) (by decide))
        have hy0 := hyb.1
        have hy1 := hyb.2
        have HS := Lib.hid hsn
        have HX := Lib.hid hlo
        clear hsn hlo hyb hy hyl
        generalize hx : n256 (t.take m) = x at *
        obtain ⟨z, rfl⟩ := Int.eq_ofNat_of_zero_le hy0
        rw [Int.toNat_natCast] at HS
        have hor := or_digit x z h56 (by omega)
        by_cases hlast : m + 1 = k
        · have hkm : ((k - m : Nat) : Int) - 1 = 0 := by omega
          have hx2 : 256 * x + z < 256 ^ k := by
            rw [← hlast, Nat.pow_succ]
            have := HX.out
            omega
          have hx3 : 256 * x + z < 18446744073709551616 := by omega
          generalize hX : 256 * x + z = X at *
          have hE : r = if 18446744073709551616 ≤ X + sh (k - 1) then (0, (i : Int), 4) else (((X + sh (k - 1) : Nat) : Int), (i : Int) + 1 + k, 0) := by
            rw [HE.out, if_neg (by omega), ← hlast, HS.out]
          have hsk := sh_le k hk8
          clear HE hx HX hX hx2
          have HL := Lib.hid hlast
          clear hlast
          by_cases hov : 18446744073709551616 ≤ X + sh (k - 1)
          · rw [if_pos hov] at hE
            have HE := Lib.hid hE
            obtain ⟨Z, hZ, hZ2⟩ : ∃ Z : Nat, Z < sh (k - 1) ∧ IntKind.u64.wrap ((X : Int) + (sh (k - 1) : Int)) = (Z : Int) := ⟨X + sh (k - 1) - 18446744073709551616, by omega, by rw [IntKind.wrap_u64]; omega⟩
            clear hE hov hx3 hsk
            generalize hs : sh (k - 1) = s at *
            have HZ := Lib.hid hs
            clear hs
            have hZi : (Z : Int) < (s : Int) := by omega
            go_wp2_with fail
            refine (shelf_calls w k hk1 hk8).mono ?_
            rintro e w' ⟨rfl, rfl⟩
            rw [HZ.out]
            go_wp2_with fail
            rw [Exit.noGoto_ret]
            go_ret3
            rw [HE.out]
            exact ⟨rfl, rfl⟩
          · rw [if_neg hov] at hE
            have HE := Lib.hid hE
            have hZ2 : IntKind.u64.wrap ((X : Int) + (sh (k - 1) : Int)) = ((X + sh (k - 1) : Nat) : Int) := by rw [IntKind.wrap_u64]; omega
            have hZi : ¬ ((X + sh (k - 1) : Nat) : Int) < (sh (k - 1) : Int) := by omega
            clear hE hov hx3 hsk
            generalize hs : sh (k - 1) = s at *
            have HZ := Lib.hid hs
            clear hs
            go_wp2_with fail
            refine (shelf_calls w k hk1 hk8).mono ?_
            rintro e w' ⟨rfl, rfl⟩
            rw [HZ.out]
            go_wp2_with fail
            rw [Exit.noGoto_ret]
            go_ret3
            rw [HE.out]
            exact ⟨rfl, rfl⟩
        · have hkm : (((k - m : Nat) : Int) - 1 == 0) = false := by simp; omega
          clear HX
          go_wp2_with fail
          refine ⟨⟨m + 1, by omega, by omega, ?_, ?_, rfl, rfl⟩, by simp [intOf]; omega⟩
          · rw [HS.out]
            exact congrArg _ (by omega)
          · congr 1
            omega
      · have hmt : ¬ m < l.length - (i + 1) := by have := HT.out; omega
        have hE : r = (0, (l.length : Int), 5) := by rw [HE.out, if_pos (by omega)]
        have hk0 : 0 < ((k - m : Nat) : Int) := by omega
        clear HE
        have HE := Lib.hid hE
        clear hE
        go_wp2_with fail
        refine (shelf_calls w k hk1 hk8).mono ?_
        rintro e w' ⟨rfl, rfl⟩
        go_wp2_with fail
        rw [Exit.noGoto_ret]
        go_ret3
        rw [HE.out]
        exact ⟨rfl, rfl⟩
end Go.Fur
namespace Go.Fur
open Go Go.RowKit Go.Proofs
set_option linter.unusedVariables false
set_option linter.unusedSimpArgs false
theorem readN_ok (l : List Int) (hb : Byt l) (at_ : Int) (h : (readN l at_).2.2 = 0) :
    0 ≤ (readN l at_).1 ∧ (readN l at_).1 < 18446744073709551616 ∧ at_ < (readN l at_).2.1 ∧ (readN l at_).2.1 ≤ l.length ∧ 0 ≤ at_ := by
  unfold readN at h ⊢
  by_cases h0 : at_ < 0 ∨ (l.length : Int) < at_
  · rw [if_pos h0] at h
    simp at h
  rw [if_neg h0] at h ⊢
  cases hd : l.drop at_.toNat with
  | nil => rw [hd] at h; simp at h
  | cons c t =>
    rw [hd] at h
    dsimp only at h ⊢
    have hl := congrArg List.length hd
    rw [List.length_drop, List.length_cons] at hl
    have hc := hb c (List.mem_of_mem_drop (hd ▸ List.mem_cons_self))
    by_cases h1 : c < 192
    · rw [if_pos h1]
      dsimp only
      omega
    rw [if_neg h1] at h ⊢
    by_cases h2 : 199 < c
    · rw [if_pos h2] at h
      simp at h
    rw [if_neg h2] at h ⊢
    by_cases h3 : t.length < (c - 191).toNat
    · rw [if_pos h3] at h
      simp at h
    rw [if_neg h3] at h ⊢
    generalize n256 (t.take (c - 191).toNat) + sh ((c - 191).toNat - 1) = y at *
    by_cases h4 : 18446744073709551616 ≤ y
    · rw [if_pos h4] at h
      simp at h
    rw [if_neg h4]
    dsimp only
    omega
/-- What is read as bytes: the bytes, the place behind them, the error. -/
def readBy (l : List Int) (at_ : Int) : List Int × Int × Int :=
  if (readN l at_).2.2 ≠ 0 then ([], (readN l at_).2.1, (readN l at_).2.2) else
  if 1048576 < (readN l at_).1 then ([], at_, 3) else
  if (l.length : Int) - (readN l at_).2.1 < (readN l at_).1 then ([], (l.length : Int), 5) else
  ((l.drop (readN l at_).2.1.toNat).take (readN l at_).1.toNat, (readN l at_).2.1 + (readN l at_).1, 0)
def ReadBE (tb : TypeId) (r : List Int × Int × Int) (w : World) (e : Ending) (w' : World) : Prop := ∃ v, e = .returned (.tuple #[v, .int .i64 r.2.1, .int .i64 r.2.2]) ∧ Own w' w.heap.size tb 1 v r.1.length (bv r.1) ∧ Fr [] w w'
set_option maxRecDepth 100000 in
set_option maxHeartbeats 1000000 in
theorem readBytes_calls (w : World) (a : Option Addr) (n c : Nat) (l : List Int) (hl : l.length = n) (hc : n ≤ c) (hn : n ≤ 140737488355328) (hb : Byt l) (ra : Rd w a (bv l)) (at_ : Int) :
    Calls Try.prog 66 #[.slice a n c, .int .i64 at_] w (ReadBE 5 (readBy l at_) w) := by
  subst hl
  have hrd := sread_calls w a l.length c l rfl hc hn hb ra at_
  have hok := readN_ok l hb at_
  have hB : readBy l at_ = if (readN l at_).2.2 ≠ 0 then ([], (readN l at_).2.1, (readN l at_).2.2) else
    if 1048576 < (readN l at_).1 then ([], at_, 3) else
    if (l.length : Int) - (readN l at_).2.1 < (readN l at_).1 then ([], (l.length : Int), 5) else
    ((l.drop (readN l at_).2.1.toNat).take (readN l at_).1.toNat, (readN l at_).2.1 + (readN l at_).1, 0) := rfl
  generalize readBy l at_ = R at *
  generalize readN l at_ = r at *
  obtain ⟨x, nx, e⟩ := r
  dsimp only at hok hB
  have HC := Lib.hid hrd
  have HA := Lib.hid ra
  clear hrd ra
  by_cases he : e = 0
  · subst he
    rw [if_neg (by simp)] at hB
    obtain ⟨h0, h1, h2, h3, h4⟩ := hok rfl
    clear h1
    by_cases hL : 1048576 < x
    · rw [if_pos hL] at hB
      subst hB
      go_enter Try.func66, Try.ntmps66
      go_wp2_with fail
      refine HC.out.mono ?_
      rintro e w' ⟨rfl, rfl⟩
      go_wp2_with fail
      go_ret3
      exact ⟨_, rfl, Own.nil _ _ _ _, Fr.refl _ _⟩
    rw [if_neg hL] at hB
    obtain ⟨X, rfl⟩ := Int.eq_ofNat_of_zero_le h0
    obtain ⟨j, rfl⟩ := Int.eq_ofNat_of_zero_le (show 0 ≤ nx by omega)
    have hw1 : IntKind.u64.wrap ((l.length : Int) - (j : Int)) = (l.length : Int) - (j : Int) := by rw [IntKind.wrap_u64]; omega
    by_cases hS : (l.length : Int) - (j : Int) < (X : Int)
    · rw [if_pos hS] at hB
      subst hB
      go_enter Try.func66, Try.ntmps66
      go_wp2_with fail
      refine HC.out.mono ?_
      rintro e w' ⟨rfl, rfl⟩
      go_wp2_with fail
      go_ret3
      exact ⟨_, rfl, Own.nil _ _ _ _, Fr.refl _ _⟩
    rw [if_neg hS] at hB
    rw [Int.toNat_natCast, Int.toNat_natCast] at hB
    obtain ⟨b, o, rfl, hr⟩ := HA.out (by intro e; have := congrArg List.length e; simp at this; subst this; simp at h3; omega)
    have HB := Lib.hid hB
    have HR := Lib.hid hr
    have hj : j + X ≤ l.length := by omega
    have hjb : (j : Int) + (X : Int) ≤ (l.length : Int) := by omega
    clear hB hr hok
    by_cases hcap : j = c
    · subst hcap
      have hX : X = 0 := by omega
      subst hX
      go_enter Try.func66, Try.ntmps66
      go_wp2_with fail
      refine HC.out.mono ?_
      rintro e w' ⟨rfl, rfl⟩
      go_wp2_with fail
      go_ret3
      rw [HB.out]
      exact ⟨_, rfl, Own.nil _ _ _ _, Fr.refl _ _⟩
    · have hjc : j < c := by omega
      go_enter Try.func66, Try.ntmps66
      go_wp2_with fail
      refine HC.out.mono ?_
      rintro e w' ⟨rfl, rfl⟩
      have R1 : Rd w (some ⟨b, o + j, none⟩) (bv ((l.drop j).take X)) := by
        refine Rd.mk (fun q v hv => ?_)
        rw [bv_take, List.getElem?_take] at hv
        split at hv
        · rw [bv_drop, List.getElem?_drop] at hv
          have := HR.out (j + q) v hv
          rwa [show o + j + q = o + (j + q) by omega]
        · cases hv
      have L1 : ((l.drop j).take X).length = X := by rw [List.length_take, List.length_drop]; omega
      have HR1 := Lib.hid (And.intro R1 L1)
      clear R1 L1
      generalize (l.drop j).take X = ys at *
      go_wp2_with (first
        | (refine wpList_appB rfl _ _ 33 33 rfl w.heap.size 5 5 .u8 1 Try.underlying33 Try.underlying33 info_byte (.slice none 0 0) 0 [] (by rfl) (Own.nil _ _ _ _) (some ⟨b, o + j, none⟩) (j + X - j) (c - j) (bv ys) (by rfl) HR1.out.1 (by rw [bv_length, HR1.out.2]; omega) (bv_one _) (by simp only [maxLen]; omega) (by omega) (Nat.le_refl _) ?_; intro v2 w2 O2 F2 K2 _; have HO2 := Lib.hid O2; have HF2 := Lib.hid F2; clear O2 F2 K2))
      go_ret3
      rw [HB.out]
      refine ⟨v2, rfl, ?_, HF2.out⟩
      have := HO2.out
      simp only [Nat.zero_add, List.nil_append, Nat.add_sub_cancel_left] at this
      rw [HR1.out.2]
      exact this
  · rw [if_pos he] at hB
    subst hB
    have heb : (e == 0) = false := by simpa using he
    go_enter Try.func66, Try.ntmps66
    go_wp2_with fail
    refine HC.out.mono ?_
    rintro e w' ⟨rfl, rfl⟩
    go_wp2_with fail
    go_ret3
    exact ⟨_, rfl, Own.nil _ _ _ _, Fr.refl _ _⟩
end Go.Fur
