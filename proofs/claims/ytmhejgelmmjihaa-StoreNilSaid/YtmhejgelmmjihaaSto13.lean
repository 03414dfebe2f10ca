/- A store on a new disk, as the laws begin: contracts of blocks and begin. -/
import Derived.Test.YtmhejgelmmjihaaSto8
import Derived.Test.YtmhejgelmmjihaaSto12
import Derived.Test.YtmhejgelmmjihaaStoP5
import Derived.IntWalk
namespace Go.Fur
open Go Go.RowKit Go.Proofs
set_option linter.unusedVariables false
set_option linter.unusedSimpArgs false
theorem OpenAt.sto {w : World} {base p bb q lo m1 m2 : Nat} {vs vr tl : Value} {d : D} {o : Opn} (h : OpenAt w base p bb q vs vr tl d o lo m1 m2) (hb : base ≤ lo) (hy : d.byt) (ht : Byt o.tail) (hg : o.gen < 4294967296) (hl : o.life < 4294967296) :
    StoAt w base p bb q (.slice none 0 0) tl d.calm ⟨o.gen, o.life, o.tail, o.at_, o.recs.length, o.recs.length⟩ :=
  ⟨h.da, hy.calm, h.hq, h.tl.base (by have := h.l1; have := h.l2; omega), ht, by have := h.ql; omega, hg, hl⟩
def blocksN (n : Int) : Nat := 80 + (min (max n 0) 4000).toNat
theorem blocksN_bnd (n : Int) : 80 ≤ blocksN n ∧ blocksN n ≤ 4080 := by unfold blocksN; omega
theorem blocksN_calls (w : World) (n : Int) (h1 : -9223372036854775808 ≤ n) (h2 : n ≤ 9223372036854775807) :
    Calls Try.prog 23 #[.int .i64 n] w fun e w' => e = .returned (.int .i64 (blocksN n)) ∧ w = w' := by
  have hr : ∃ m : Int, m = (blocksN n : Int) := ⟨_, rfl⟩
  rcases Int.lt_or_le n 0 with h0 | h0
  · have e : (blocksN n : Int) = 80 := by unfold blocksN; omega
    rw [e]
    go_enter Try.func23, Try.ntmps23
    go_wp2_with fail
    all_goals first
      | (exfalso; omega)
      | (go_ret; exact ⟨rfl, rfl⟩)
  · rcases Int.lt_or_le 4000 n with h3 | h3
    · have e : (blocksN n : Int) = 4080 := by unfold blocksN; omega
      rw [e]
      go_enter Try.func23, Try.ntmps23
      go_wp2_with fail
      all_goals first
        | (exfalso; omega)
        | (go_ret; exact ⟨rfl, rfl⟩)
    · have e : (blocksN n : Int) = 80 + n := by unfold blocksN; omega
      rw [e]
      go_enter Try.func23, Try.ntmps23
      go_wp2_with fail
      all_goals first
        | (exfalso; omega)
        | (go_ret; exact ⟨rfl, rfl⟩)
/-- The cells of a desk. -/
def dskC (p q : Nat) (size : Int) (whole : Bool) (vs vl : Value) (safe took : Int) : List Value := [.pointer (some ⟨p, 0, none⟩), .pointer (some ⟨q, 0, none⟩), .int .i64 size, .bool whole, vs, vl, .int .i64 safe, .int .i64 took]
theorem desk_size : (Try.prog.info? 44).map (·.size) = some 8 := by kernel_rfl
theorem desk_zero : ∀ w, (zeroValue 44).run Try.prog w = .ok (.agg ([Value.pointer none, .pointer none, .int .i64 0, .bool false, .slice none 0 0, .slice none 0 0, .int .i64 0, .int .i64 0] : List Value).toArray) w := fun w => by kernel_rfl
theorem desk_build (p q : Nat) (n : Int) : ∀ W, (Instr.build 44 #[(0, .pointer (some ⟨p, 0, none⟩)), (1, .pointer (some ⟨q, 0, none⟩)), (2, .int .i64 n)]).run Try.prog W = .ok (.agg (dskC p q n false (.slice none 0 0) (.slice none 0 0) 0 0).toArray) W := fun W => by kernel_rfl
set_option maxRecDepth 100000 in
set_option maxHeartbeats 4000000 in
theorem begin_calls (w : World) (n : Nat) (h1 : 80 ≤ n) (h2 : n ≤ 5000) :
    Calls Try.prog 19 #[.int .i64 n] w fun e w' => ∃ p bb q lv tl d s, e = .returned (.tuple #[.agg (dskC p q (16 * n - 1024) false (.slice none 0 0) (.slice none 0 0) 0 0).toArray, .bool true]) ∧
      StoAt w' w.heap.size p bb q lv tl d s ∧ Desk d s false [] [] ∧ d.now.length = n ∧ s.gen ≤ 1 ∧ s.life ≤ 1 ∧ d.loose = [] ∧ s.safe = 0 ∧ Fr [] w w' := by
  obtain ⟨L', i, tail, g1, g2, g3⟩ := desk_open (good_new n) (fun b hb => by rw [List.eq_of_mem_replicate hb]; simp) (by omega) (by simp [encs])
  have hp1 := g3.pos.len
  have hsh := g3.short
  dsimp only at hp1 hsh
  have htl : tail = [] := List.eq_nil_of_length_eq_zero (by simp [encs] at hp1; omega)
  have HG := Lib.hid (And.intro g2 g3)
  clear g2 g3 hp1 hsh
  go_enter Try.func19, Try.ntmps19
  go_wp2_with fail
  have hz0 := World.size_alloc w (.cells #[.pointer none, .pointer none, .int .i64 0, .bool false, .slice none 0 0, .slice none 0 0, .int .i64 0, .int .i64 0] 44)
  have B0 : Blk (w.alloc (.cells #[.pointer none, .pointer none, .int .i64 0, .bool false, .slice none 0 0, .slice none 0 0, .int .i64 0, .int .i64 0] 44)) w.heap.size 44 [.pointer none, .pointer none, .int .i64 0, .bool false, .slice none 0 0, .slice none 0 0, .int .i64 0, .int .i64 0] := Blk.new w 44 _
  have F0 := (Fr.refl [] w).alloc (.cells #[.pointer none, .pointer none, .int .i64 0, .bool false, .slice none 0 0, .slice none 0 0, .int .i64 0, .int .i64 0] 44)
  generalize w.alloc (.cells #[.pointer none, .pointer none, .int .i64 0, .bool false, .slice none 0 0, .slice none 0 0, .int .i64 0, .int .i64 0] 44) = w0 at *
  refine (new_calls w0 n (by omega) (by omega)).mono ?_
  rintro e w1 ⟨rfl, D1, F1⟩
  obtain ⟨p, hp⟩ : ∃ p, w0.heap.size + 1 = p := ⟨_, rfl⟩
  obtain ⟨bb, hbb⟩ : ∃ bb, w0.heap.size = bb := ⟨_, rfl⟩
  rw [hp, hbb] at D1
  rw [hp]
  have D1' : DiskAt w1 bb p bb (.slice none 0 0) (D.new n) := D1
  have B1 := B0.fr F1 (by simp)
  have F01 := F0.trans0 F1
  clear D1 B0 F0 F1
  dsimp only
  go_wp2_with fail
  refine (open_calls D1' (D.new_byt n)).mono ?_
  rintro e w2 ⟨q, vs, vr, tl, m1, m2, rfl, O2, F2⟩
  rw [HG.out.1] at O2 ⊢
  obtain ⟨as1, cs1, rfl, _, _, _⟩ := O2.sn.form
  obtain ⟨us, hus, _, _⟩ := O2.rs
  obtain ⟨ar1, cr1, rfl, _, _, _⟩ := hus.form
  have hbw : w.heap.size ≤ bb := by omega
  have S2 := O2.sto (by have := F01.size; have := O2.ql; have h := D1'.hb.lt; omega) (D.new_byt n) (by dsimp only; rw [htl]; exact Byt.nil) (by dsimp only; omega) (by dsimp only; omega)
  have B2 : Blk w2 w.heap.size 44 [.pointer none, .pointer none, .int .i64 0, .bool false, .slice none 0 0, .slice none 0 0, .int .i64 0, .int .i64 0] := B1.fr F2 (by rw [List.mem_singleton]; omega)
  have F02 : Fr [] w w2 := F01.trans F2 (fun k hk hlt => by rw [List.mem_singleton.1 hk] at hlt; omega)
  have HS2 := Lib.hid S2
  have HB2 := Lib.hid B2
  have HF2 := Lib.hid F02
  have hw2 := B2.lt
  clear O2 F2 S2 B2 F02 D1' B1 F01 hus hz0
  dsimp only [List.length_nil]
  go_wp2_with fail
  have hz2 := World.size_alloc w2 (.cells #[.bool false, .slice as1 0 cs1, .slice ar1 0 cr1] 33)
  have B3 : Blk (w2.alloc (.cells #[.bool false, .slice as1 0 cs1, .slice ar1 0 cr1] 33)) w2.heap.size 33 [.bool false, .slice as1 0 cs1, .slice ar1 0 cr1] := Blk.new w2 33 _
  have F3 := (Fr.refl [] w2).alloc (.cells #[.bool false, .slice as1 0 cs1, .slice ar1 0 cr1] 33)
  generalize w2.alloc (.cells #[.bool false, .slice as1 0 cs1, .slice ar1 0 cr1] 33) = w3 at *
  obtain ⟨g, hg⟩ : ∃ g, w2.heap.size = g := ⟨_, rfl⟩
  rw [hg] at B3 hw2 ⊢
  have d0 : ∀ W', Fr [w.heap.size] w3 W' → W'.cell? ⟨g, 0, none⟩ = some (.bool false) := fun W' f => (B3.fr f (by rw [List.mem_singleton]; omega)).cellAt rfl
  have d1 : ∀ W', Fr [w.heap.size] w3 W' → W'.cell? ⟨g, 1, none⟩ = some (.slice as1 0 cs1) := fun W' f => (B3.fr f (by rw [List.mem_singleton]; omega)).cellAt rfl
  have d2 : ∀ W', Fr [w.heap.size] w3 W' → W'.cell? ⟨g, 2, none⟩ = some (.slice ar1 0 cr1) := fun W' f => (B3.fr f (by rw [List.mem_singleton]; omega)).cellAt rfl
  have HF3 := Lib.hid F3
  clear B3 F3 hg hz2 hp hbb
  have hb := desk_build p q (16 * n - 1024)
  have i1 : IntKind.i64.wrap (16 * (n : Int)) = 16 * (n : Int) := IntWalk.i64_in _ (by omega)
  have i2 : IntKind.i64.wrap (16 * (n : Int) - 1024) = 16 * (n : Int) - 1024 := IntWalk.i64_in _ (by omega)
  refine wp_region_ord (Fr [w.heap.size] w3) [0,1,2,3,4,5,6,7,8,9,10,11,12,13,14,15,16,17,18,19,20,21,22,23,24,25,26,27,28,29,30,31,32] [] [31] [18, 23, 26] mixed (by kernel_rfl) ?_
  have hS : Fr [w.heap.size] w3 w3.drew := (Fr.refl _ _).drew
  simp only [pairs, pickN]
  repeat (first | (refine wpO_free ?_ (by rfl) (by rfl) (fun w' => ?_) ?_; rotate_left; (go_simp; rfl); simp only [Act.put, List.setIfInBounds_toArray, List.set_cons_zero, List.set_cons_succ]) | (refine wpO_take ?_ hS (by rfl) (by rfl) (fun w' hw' => ?_) ?_; rotate_left; (go_simp; rfl); simp only [Act.put, List.setIfInBounds_toArray, List.set_cons_zero, List.set_cons_succ]) | (refine wpO_pass (by rfl) ?_; simp only [Act.put, List.setIfInBounds_toArray, List.set_cons_zero, List.set_cons_succ]))
  refine wpO_eff (by rfl) ?_
  have hd8 : ∀ v ∈ dskC p q (16 * n - 1024) false (.slice none 0 0) (.slice none 0 0) 0 0, v.oneCell' = true := by simp [dskC, Value.oneCell']
  refine wpList_storeB rfl 44 _ _ rfl w.heap.size 0 (dskC p q (16 * n - 1024) false (.slice none 0 0) (.slice none 0 0) 0 0) (by rfl) (by rfl) 44 _ ((HB2.out.fr HF3.out (by simp)).fr ((Fr.refl [] w3).drew) (by simp)) (by simp [dskC]) desk_size hd8 ?_
  intro w4 B4 F4 S4
  rw [splice_all _ _ (by rfl)] at B4
  have hS4 : Fr [w.heap.size] w3 w4 := hS.trans1 F4
  refine effQ_keep hS4 ?_
  simp only [Act.put, List.setIfInBounds_toArray, List.set_cons_zero, List.set_cons_succ]
  repeat (first | (refine wpO_free ?_ (by rfl) (by rfl) (fun w' => ?_) ?_; rotate_left; (go_simp; rfl); simp only [Act.put, List.setIfInBounds_toArray, List.set_cons_zero, List.set_cons_succ]) | (refine wpO_pass (by rfl) ?_; simp only [Act.put, List.setIfInBounds_toArray, List.set_cons_zero, List.set_cons_succ]))
  refine wpO_nil ?_
  have F24 : Fr [w.heap.size] w2 w4 := (HF3.out.ext (S := [w.heap.size])).trans1 hS4
  have HB4 := Lib.hid B4
  have HF24 := Lib.hid F24
  clear B4 F4 hS hS4 F24 d0 d1 d2 hb hd8
  go_wp2_with fail
  have hbb2 := HS2.out.da
  have hKn : ∀ (k : Nat) (t : TypeId) cs, Blk w2 k t cs → t ≠ 44 → k ∉ [w.heap.size] := fun k t cs hb ht hm => hb.ne HB2.out ht (List.mem_singleton.1 hm)
  have S4' : StoAt w4 w.heap.size p bb q (.slice none 0 0) tl (D.new n).calm ⟨1, L', tail, i, 0, 0⟩ := by
    have h2 := HS2.out
    refine ⟨(h2.da.fr HF24.out (hKn _ _ _ h2.da.hp (by decide)) (hKn _ _ _ h2.da.hb (by decide)) (by simp)).wbase hbw, h2.yd, h2.hq.fr HF24.out (hKn _ _ _ h2.hq (by decide)), (h2.ht.fr HF24.out (fun k hk => by obtain ⟨cur, hc⟩ := h2.ht.blkOf hk; exact hKn _ _ _ hc (by decide))).base hbw, h2.yt, by have := h2.bq; omega, h2.g32, h2.l32⟩
  have HSF := Lib.hid S4'
  clear S4'
  refine bodyPost_ret (results_cellB_tmp rfl _ _ w.heap.size 44 _ _ (by rfl) HB4.out Try.underlying44 (by rfl) desk_size) rfl ?_
  refine ⟨p, bb, q, _, tl, _, _, rfl, HSF.out, HG.out.2, by simp [D.new, D.calm], Nat.le_refl _, by dsimp only; omega, rfl, rfl, HF2.out.trans HF24.out (fun k hk hlt => by rw [List.mem_singleton.1 hk] at hlt; omega)⟩
end Go.Fur
