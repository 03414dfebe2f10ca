/- All that is kept, as it tells: contract. -/
import Derived.Test.YtclnikmnfnedkaaCKp15
import Derived.Test.YtclnikmnfnedkaaCKp11
import Derived.Test.YtclnikmnfnedkaaCStoP5
import Derived.Test.YtclnikmnfnedkaaCRegIn
namespace Go.Fur
open Go Go.RowKit Go.Proofs
set_option linter.unusedVariables false
set_option linter.unusedSimpArgs false
/-- An entry of one's own. -/
def EntW (lo : Nat) (W : World) (cs : List Value) (t : Int × List Int) : Prop := ∃ v, cs = [.int .i64 t.1, v] ∧ Own W lo 5 1 v t.2.length (bv t.2)
theorem EntW.frT {lo : Nat} {W W' : World} {S : List Nat} {cs : List Value} {t : Int × List Int} (h : EntW lo W cs t) (f : Fr S W W') (hS : ∀ g ∈ S, ∃ ty cur, Blk W g ty cur ∧ ty ≠ 5) : EntW lo W' cs t := by
  obtain ⟨v, h1, h2⟩ := h
  refine ⟨v, h1, h2.fr f (fun g hg hm => ?_)⟩
  obtain ⟨ty, cur, hb, hne⟩ := hS g hm
  obtain ⟨c2, hc⟩ := h2.blkOf hg
  exact hc.ne hb (fun h => hne h.symm) rfl
theorem rowW_ref {W : World} {lo b2 : Nat} {Y : Nat → Prop} {v : Value} {l : List (Int × List Int)} (h : RowW (EntW lo) 2 55 b2 W v l) (hb : lo ≤ b2) (hY : ∀ b, Y b → b < lo) : Ents W Y v l := by
  obtain ⟨css, h1, h2, h3⟩ := h
  obtain ⟨a, c, hv, h4, h5, h6⟩ := h1.rdA (X := Y) (fun b hm hy => by have := (h1.lt hm).1; have := hY b hy; omega)
  refine ⟨a, c, css, hv, ⟨h6, h2, fun i cs t hc ht => ⟨(h3 i cs t hc ht).1, ?_⟩⟩, h4, h5⟩
  obtain ⟨u, hu, ho⟩ := (h3 i cs t hc ht).2
  exact ⟨u, hu, ho.bs rfl (fun b hm hy => by have := (ho.lt hm).1; have := hY b hy; omega)⟩
/-- Between the rounds. -/
def NowR (w : World) (M0 M : Nat) (vS : Value) (k : KP) (i : Value) (wr : World) : Prop :=
  ∃ j vE, j ≤ k.es.length ∧ i = .int .i64 (k.base + 1 + (j : Nat)) ∧ Blk wr M 39 (refC k vS vE) ∧ Blk wr M0 39 zR ∧ RowW (EntW w.heap.size) 2 55 w.heap.size wr vE (k.es.take j) ∧ Own wr w.heap.size 5 1 vS k.snap.length (bv k.snap) ∧ Fr [] w wr
theorem wrap_next {b : Int} {j : Nat} (h0 : 0 ≤ b) (h1 : b ≤ 1152921504606846976) (hj : j ≤ 1000000) : wrap64 (b + 1 + (j : Int) + 1) = b + 1 + ((j + 1 : Nat) : Int) := by unfold wrap64; omega
theorem meas2 {b : Int} {n j : Nat} (h : j < n) : (b + 1 + (n : Int) - intOf (.int .i64 (b + 1 + (j : Int) + 1))).toNat < (b + 1 + (n : Int) - intOf (.int .i64 (b + 1 + (j : Int)))).toNat := by
  show (b + 1 + (n : Int) - (b + 1 + (j : Int) + 1)).toNat < (b + 1 + (n : Int) - (b + 1 + (j : Int))).toNat
  omega
theorem now_build (x y b t : Int) (a : Option Addr) (n c : Nat) : ∀ W, (Instr.build 39 #[(0, .int .i64 x), (1, .int .i64 y), (2, .int .i64 b), (3, .int .i64 t), (4, .slice a n c)]).run Try.prog W = .ok (.agg #[.int .i64 x, .int .i64 y, .int .i64 b, .int .i64 t, .slice a n c, .slice none 0 0]) W := fun W => by kernel_rfl
set_option maxRecDepth 100000 in
set_option maxHeartbeats 4000000 in
theorem now_calls {w : World} {Y Y' : Nat → Prop} {K q : Nat} {vs ve : Value} {k : KP} (h : KpRd w Y K q vs ve k) (hn : k.es.length ≤ 5000) (hY : ∀ b, Y' b → b < w.heap.size) :
    Calls Try.prog 11 #[.pointer (some ⟨K, 0, none⟩)] w fun e w' => ∃ cs, e = .returned (.tuple #[.agg cs.toArray, .bool true]) ∧ RefL w' Y' cs k ∧ Fr [] w w' := by
  have hK := h.hk.lt
  have hb := h.wf.base
  have hll := h.wf.lastI
  have hlast : k.last = k.base + k.es.length := rfl
  have HH := Lib.hid h
  have HL := Lib.hid hlast
  have j1 : IntKind.i64.wrap (k.last - k.base) = k.es.length := by rw [hlast, show k.base + (k.es.length : Int) - k.base = k.es.length by omega]; exact IntWalk.i64_in _ (by omega)
  have j2 : IntKind.i64.wrap (k.base + 1) = k.base + 1 := IntWalk.i64_in _ (by omega)
  have j3 : IntKind.i64.wrap (k.last + 1) = k.last + 1 := IntWalk.i64_in _ (by omega)
  have k1 : ¬ k.last < k.base := by omega
  have k2 : ¬ (5000 : Int) < (k.es.length : Int) := by omega
  have hbd := now_build k.term k.vote k.base k.bt
  clear hlast h
  go_enter Try.func11, Try.ntmps11
  go_wp2_with (refine wpList_allocZ rfl 39 rfl zR rkeep_zero ?_; intro w1 B1 F1 S1; have HB1 := Lib.hid B1; have HF1 := Lib.hid F1; clear B1 F1 S1)
  refine (kbase_calls (HH.out.fr0 HF1.out)).mono ?_
  rintro e w2 ⟨v2, rfl, O2, F2⟩
  have hz1 := HF1.out.size
  have HO2 := Lib.hid (O2.base hz1)
  have HB2 := Lib.hid (HB1.out.fr F2 (by simp))
  have HF2 := Lib.hid (HF1.out.trans0 F2)
  obtain ⟨a2, c2, rfl, _, _, _⟩ := O2.form
  have hbd2 := hbd a2 k.snap.length c2
  clear O2 F2
  dsimp only
  go_wp2_with fail
  refine (kterm_calls (HH.out.fr0 HF2.out)).mono ?_
  rintro e w3 ⟨rfl, rfl⟩
  dsimp only
  go_wp2_with fail
  refine (kvoted_calls (HH.out.fr0 HF2.out)).mono ?_
  rintro e w3 ⟨rfl, rfl⟩
  dsimp only
  go_upto_region 3 with (first
    | (refine wpList_allocZ rfl 39 rfl zR rkeep_zero ?_; intro w4 B4 F4 S4; have HB4 := Lib.hid B4; have HF4 := Lib.hid F4; clear B4 F4 S4)
    | (refine wpList_storeB rfl 39 _ _ rfl w2.heap.size 0 (refC k (.slice a2 k.snap.length c2) (.slice none 0 0)) (by rfl) (by rfl) 39 _ HB4.out (by simp [refC, zR]) (by exact rkeep_size) (refC_one rfl rfl) ?_; intro w5 B5 F5 S5; rw [splice_all _ _ (by rfl)] at B5; have HB5 := Lib.hid B5; have HF5 := Lib.hid F5; clear B5 F5 S5)
    | fail)
  have hone1 : ∀ x ∈ [w2.heap.size], ∀ (h : x < w.heap.size), x ∈ ([] : List Nat) := fun x hx hlt => by have := HF2.out.size; rw [List.mem_singleton.1 hx] at hlt; omega
  have HF6 := Lib.hid ((HF2.out.trans0 HF4.out).trans HF5.out hone1)
  have hM01 := HB2.out.lt
  have HM0 := Lib.hid ((HB2.out.fr HF4.out (by simp)).fr HF5.out (by simp; omega))
  have HO6 := Lib.hid ((HO2.out.fr HF4.out (by simp)).fr HF5.out (fun g hg hm => by have := (HO2.out.lt hg).2; rw [List.mem_singleton.1 hm] at this; omega))
  have HLA := Lib.hid (fun W (f : Fr [] w W) => (klast_calls (HH.out.fr0 f)).mono (R' := fun e w' => e = .returned (.int .i64 k.last) ∧ Fr [] W w') (fun e w' hw' => ⟨hw'.1, by obtain ⟨m, rfl⟩ := hw'.2; exact (Fr.refl _ _).drewN m⟩))
  have HEN := Lib.hid (fun W (f : Fr [] w W) => kentry_calls (HH.out.fr0 f))
  clear hone1
  go_wp2_with fail
  refine (HLA.out w5 HF6.out).mono ?_
  rintro e w6 ⟨rfl, F6⟩
  dsimp only
  go_wp2_with fail
  refine (HLA.out w6 (HF6.out.trans0 F6)).mono ?_
  rintro e w7 ⟨rfl, F7⟩
  dsimp only
  have R0 := Lib.hid (show NowR w w.heap.size w2.heap.size (.slice a2 k.snap.length c2) k (.int .i64 (k.base + 1)) w7 from
    ⟨0, .slice none 0 0, Nat.zero_le _, by simp, ((HB5.out.fr F6 (by simp)).fr F7 (by simp)), ((HM0.out.fr F6 (by simp)).fr F7 (by simp)), by rw [List.take_zero]; exact RowW.nil _, (HO6.out.fr0 F6).fr0 F7, (HF6.out.trans0 F6).trans0 F7⟩)
  obtain ⟨M, hM⟩ : ∃ M, w2.heap.size = M := ⟨_, rfl⟩
  rw [hM] at R0 ⊢
  have hMw : w.heap.size < M := by omega
  clear F6 F7 HB5 HM0 HO6 HB4 HF4 HF5 HB1 HF1 HB2 HF2 HO2 HF6 hM hM01 hz1 hbd hbd2
  go_wp2_with fail
  go_loopw [8] (fun i wr => NowR w w.heap.size M (.slice a2 k.snap.length c2) k i wr) (fun i _ => (k.base + 1 + k.es.length - intOf i).toNat)
  case atStart => exact R0.out
  case round =>
    obtain ⟨j, vE, hj, rfl, hBM, hB0, hR, hO, hF⟩ := hrel
    have HX := Lib.hid (And.intro hBM (And.intro hB0 (And.intro hR (And.intro hO hF))))
    clear hBM hB0 hR hO hF R0
    go_wp2_with fail
    refine (HLA.out wr HX.out.2.2.2.2).mono ?_
    rintro e w8 ⟨rfl, F8⟩
    dsimp only
    have HF8 := Lib.hid F8
    clear F8
    by_cases hlt : j < k.es.length
    · have q1 : k.base + 1 + (j : Int) ≤ k.last := by have := HL.out; omega
      obtain ⟨y, hy⟩ : ∃ y, k.es[j]? = some y := ⟨k.es[j], List.getElem?_eq_getElem hlt⟩
      have e3 : k.entry (k.base + 1 + (j : Int)) = (y.1, y.2, 0) := by
        unfold KP.entry
        rw [if_neg (by have := HL.out; omega), show (k.base + 1 + (j : Int) - k.base - 1).toNat = j by omega, List.getD_eq_getElem?_getD, hy]
        rfl
      have hyl : y.2.length ≤ 1048576 := (HH.out.wf.es y (List.mem_of_getElem? hy)).2.2
      have HY := Lib.hid hy
      clear hy
      go_wp2_with fail
      refine (HEN.out w8 (HX.out.2.2.2.2.trans0 HF8.out) (k.base + 1 + (j : Int)) (by unfold I64; omega)).mono ?_
      rw [e3]
      rintro e w9 ⟨v9, rfl, O9, F9⟩
      dsimp only at O9
      obtain ⟨a9, c9, rfl, _, _, _⟩ := O9.form
      have hz8 : w.heap.size ≤ w8.heap.size := (HX.out.2.2.2.2.trans0 HF8.out).size
      have HO9 := Lib.hid (O9.base hz8)
      have HF9 := Lib.hid (HF8.out.trans0 F9)
      clear O9 F9
      dsimp only
      have htl : (k.es.take j).length = j := by rw [List.length_take]; exact Nat.min_eq_left hj
      have hR := HX.out.2.2.1.fr HF9.out (by simp) (fun cs t h => h.frT HF9.out (by simp))
      obtain ⟨a5, c5, hvE, _, _⟩ := hR.form
      rw [htl] at hvE
      subst hvE
      have HR := Lib.hid hR
      have hBM := HX.out.1.fr HF9.out (by simp)
      have x5 := hBM.cellAt (i := 5) rfl
      have HBM := Lib.hid hBM
      have HF09 := Lib.hid (HX.out.2.2.2.2.trans0 HF9.out)
      have heb := rentry_build y.1 a9 y.2.length c9
      have hz9 := HF09.out.size
      have HTL := Lib.hid htl
      have hs1 : (k.es.take j).length + 1 ≤ maxLen := by rw [htl]; simp only [maxLen]; omega
      have hs2 : ((k.es.take j).length + 1) * 32 ≤ 140737488355328 := by rw [htl]; omega
      have hlj : (k.es.take j ++ [y]).length = j + 1 := by rw [List.length_append, htl]; rfl
      clear hR hBM htl
      go_upto_region 11 with fail
      go_upto_region 7 with (first
        | (refine wpList_buildSlice1 rfl 37 55 _ rfl [.int .i64 0, .slice none 0 0] 2 32 Try.underlying37 info_rentry (by simp) (by omega) (by omega) _ [.int .i64 y.1, .slice a9 y.2.length c9] (by rfl) (by rfl) (by simp) ?_; intro w10 B10 F10 S10; have HB10 := Lib.hid B10; have HF10 := Lib.hid F10; have HR10 := Lib.hid (HR.out.fr F10 (by simp) (fun cs t h => h.frT F10 (by simp))); have hz10 := F10.size; clear B10 F10)
        | (refine wpList_appW rfl _ _ 37 37 rfl w.heap.size 55 55 [.int .i64 0, .slice none 0 0] 2 32 Try.underlying37 Try.underlying37 info_rentry rfl (by decide) _ (k.es.take j) (by rfl) HR10.out _ 1 (by rfl) 55 [.int .i64 y.1, .slice a9 y.2.length c9] HB10.out rfl (by simp [Value.oneCell']) y ⟨_, rfl, HO9.out.fr0 HF10.out⟩ hs1 hs2 (by omega) (fun w' cs t f h => h.frT f (fun g hg => by obtain ⟨cur, hc⟩ := HR10.out.blkOf hg; exact ⟨_, _, hc, by decide⟩)) ?_; intro v11 w11 R11 F11 K11; obtain ⟨a11, c11, hv11, _, _⟩ := R11.form; rw [hlj] at hv11; subst hv11; have HR11 := Lib.hid R11; have HF11 := Lib.hid F11; have HB11 := Lib.hid (HBM.out.fr (HF10.out.ext.trans1 F11) (fun hm => by obtain ⟨cur, hc⟩ := HR10.out.blkOf hm; exact hc.ne (HBM.out.fr HF10.out (by simp)) (by decide) rfl)); clear R11 F11 K11)
        | (refine wpList_store1 rfl 37 _ _ rfl M 5 (.slice a11 (j + 1) c11) (by rfl) (by rfl) rfl 39 _ HB11.out (by simp [refC]) (by kernel_rfl) rfl ?_; intro w12 B12 F12 S12; have HB12 := Lib.hid B12; have HF12 := Lib.hid F12; clear B12 F12 S12)
        | fail)
      have hobT : ∀ g ∈ ob (.slice a5 j c5), ∃ ty cur, Blk w10 g ty cur ∧ ty ≠ 5 := fun g hg => by obtain ⟨cur, hc⟩ := HR10.out.blkOf hg; exact ⟨_, _, hc, by decide⟩
      have hMT : ∀ g ∈ [M], ∃ ty cur, Blk w11 g ty cur ∧ ty ≠ 5 := fun g hg => ⟨_, _, (List.mem_singleton.1 hg) ▸ HB11.out, by decide⟩
      have o0 := HX.out.2.2.2.1.fr0 (HF9.out.trans0 HF10.out)
      have o1 := o0.fr HF11.out (fun g hg hm => by obtain ⟨ty, cur, hb, ht⟩ := hobT g hm; obtain ⟨c3, hc⟩ := o0.blkOf hg; exact hc.ne hb (fun h => ht h.symm) rfl)
      have o2 := o1.fr HF12.out (fun g hg hm => by obtain ⟨ty, cur, hb, ht⟩ := hMT g hm; obtain ⟨c3, hc⟩ := o1.blkOf hg; exact hc.ne hb (fun h => ht h.symm) rfl)
      have m0 := HX.out.2.1.fr (HF9.out.trans0 HF10.out) (by simp)
      have m1 := m0.fr HF11.out (fun hm => by obtain ⟨cur, hc⟩ := HR10.out.blkOf hm; exact hc.ne m0 (by decide) rfl)
      have m2 := m1.fr HF12.out (by simp; omega)
      have r2 := HR11.out.fr HF12.out (fun g hg hm => by obtain ⟨cur, hc⟩ := HR11.out.blkOf hg; rw [List.mem_singleton.1 hm] at hc; exact hc.ne HB11.out (by decide) rfl) (fun cs t h => h.frT HF12.out hMT)
      have f2 : Fr [] w w12 := ((HF09.out.trans0 HF10.out).trans HF11.out (fun x hx hlt => by have := (HR10.out.lt hx).1; omega)).trans HF12.out (fun x hx hlt => by rw [List.mem_singleton.1 hx] at hlt; omega)
      have htk : k.es.take j ++ [y] = k.es.take (j + 1) := by rw [List.take_add_one, HY.out]; rfl
      rw [htk] at r2
      have HREL := Lib.hid (show NowR w w.heap.size M (.slice a2 k.snap.length c2) k (.int .i64 (k.base + 1 + ((j + 1 : Nat) : Int))) w12 from ⟨j + 1, _, hlt, rfl, HB12.out, m2, r2, o2, f2⟩)
      have hbq := hb
      have j5 : wrap64 (k.base + 1 + (j : Int) + 1) = k.base + 1 + ((j + 1 : Nat) : Int) := wrap_next hb.1 hb.2 (by omega)
      clear hobT hMT o0 o1 o2 m0 m1 m2 r2 f2 x5 heb e3
      go_wp2_with fail
      go_roundw
      case rel =>
        have h9 := HREL.out
        rw [show k.base + 1 + ((j + 1 : Nat) : Int) = k.base + 1 + (j : Int) + 1 by omega] at h9
        exact h9
      case measure => exact meas2 hlt
    · obtain rfl : j = k.es.length := by omega
      have q1 : ¬ k.base + 1 + (k.es.length : Int) ≤ k.last := by have := HL.out; omega
      have e1 : k.entry k.base = (0, [], 8) := by unfold KP.entry; rw [if_pos (.inl (Int.le_refl _))]
      have e2 : k.entry (k.last + 1) = (0, [], 8) := by unfold KP.entry; rw [if_pos (.inr (by omega))]
      go_wp2_with fail
      have F08 := HX.out.2.2.2.2.trans0 HF8.out
      refine (HEN.out w8 F08 k.base (by unfold I64; omega)).mono ?_
      rw [e1]
      rintro e w9 ⟨v9, rfl, O9, F9⟩
      obtain ⟨a9, c9, rfl, _, _, _⟩ := O9.form
      have HF9 := Lib.hid (HF8.out.trans0 F9)
      clear O9 F9 F08
      dsimp only
      go_wp2_with fail
      refine (HLA.out w9 (HX.out.2.2.2.2.trans0 HF9.out)).mono ?_
      rintro e w10 ⟨rfl, F10⟩
      have HF10 := Lib.hid (HF9.out.trans0 F10)
      clear F10
      dsimp only
      go_wp2_with fail
      refine (HEN.out w10 (HX.out.2.2.2.2.trans0 HF10.out) (k.last + 1) (by unfold I64; omega)).mono ?_
      rw [e2]
      rintro e w11 ⟨v11, rfl, O11, F11⟩
      obtain ⟨a11, c11, rfl, _, _, _⟩ := O11.form
      have HF11 := Lib.hid (HF10.out.trans0 F11)
      clear O11 F11
      dsimp only
      have hR := HX.out.2.2.1
      rw [List.take_length] at hR
      obtain ⟨a5, c5, hvE, _, _⟩ := hR.form
      subst hvE
      have HR := Lib.hid hR
      clear hR
      have hBM := HX.out.1.fr HF11.out (by simp)
      have x0 := hBM.cellAt (i := 0) rfl
      have x1 := hBM.cellAt (i := 1) rfl
      have x2 := hBM.cellAt (i := 2) rfl
      have x3 := hBM.cellAt (i := 3) rfl
      have x4 := hBM.cellAt (i := 4) rfl
      have x5 := hBM.cellAt (i := 5) rfl
      have HM := Lib.hid (HX.out.2.1.fr HF11.out (by simp))
      clear hBM
      go_upto_region 14 with fail
      go_wp2_with (refine wpList_storeB rfl 39 _ _ rfl w.heap.size 0 (refC k (.slice a2 k.snap.length c2) (.slice a5 k.es.length c5)) (by rfl) (by rfl) 39 _ HM.out (by simp [refC, zR]) (by exact rkeep_size) (refC_one rfl rfl) ?_; intro w12 B12 F12 S12; rw [splice_all _ _ (by rfl)] at B12; have HB12 := Lib.hid B12; have HF12 := Lib.hid F12; clear B12 F12 S12)
      have f12 : Fr [] w w12 := (HX.out.2.2.2.2.trans0 HF11.out).trans HF12.out (fun x hx hlt => by rw [List.mem_singleton.1 hx] at hlt; omega)
      have hne : ∀ g ty cur, Blk w11 g ty cur → ty ≠ 39 → g ∉ [w.heap.size] := fun g ty cur hb ht hm => by rw [List.mem_singleton.1 hm] at hb; exact hb.ne HM.out ht rfl
      have o11 := HX.out.2.2.2.1.fr0 HF11.out
      have o12 := o11.fr HF12.out (fun g hg => by obtain ⟨cur, hc⟩ := o11.blkOf hg; exact hne g _ _ hc (by decide))
      have r11 := HR.out.fr HF11.out (by simp) (fun cs t h => h.frT HF11.out (by simp))
      have r12 := r11.fr HF12.out (fun g hg => by obtain ⟨cur, hc⟩ := r11.blkOf hg; exact hne g _ _ hc (by decide)) (fun cs t h => h.frT HF12.out (fun g hg => ⟨_, _, (List.mem_singleton.1 hg) ▸ HM.out, by decide⟩))
      exact bodyPost_ret (results_cellB_tmp rfl _ _ w.heap.size 39 _ _ (by rfl) HB12.out Try.underlying39 rfl (by exact rkeep_size)) rfl ⟨_, by rfl, ⟨_, _, rfl, o12.bs rfl (fun b hb hy => by have := (o12.lt hb).1; have := hY b hy; omega), rowW_ref r12 (Nat.le_refl _) hY⟩, f12⟩
end Go.Fur
namespace Go.Fur
open Go Go.RowKit Go.Proofs
set_option linter.unusedVariables false
set_option linter.unusedSimpArgs false
theorem info_rkeep : (Try.prog.info? 39).map (fun i => (i.zero.map (·.cells), i.size, i.bytes)) = some (some zR.toArray, 6, 80) := by kernel_rfl
theorem rkeeps_build0 : ∀ W : World, (Instr.buildSlice 28 0 #[]).run Try.prog W = .ok (.slice (some ⟨W.heap.size, 0, none⟩) 0 0) (W.alloc (.cells #[] 39)) := fun W => by kernel_rfl
theorem RowA.snoc {τ : Type} {EL : World → (Nat → Prop) → List Value → τ → Prop} {w : World} {Y : Nat → Prop} {e : TypeId} {base k : Nat} {v : Value} {l : List τ} {css : List (List Value)} {a : Option Addr} {x : τ} {cs : List Value} (h : RowA EL k w Y a l css) (hx : EL w Y cs x) (hk : cs.length = k) (ho : Own w base e k v (l.length + 1) (flat id css ++ cs)) (hb : ∀ b ∈ ob v, ¬ Y b) :
    ∃ a' c', v = .slice a' (l ++ [x]).length c' ∧ RowA EL k w Y a' (l ++ [x]) (css ++ [cs]) ∧ (l ++ [x]).length ≤ c' ∧ c' ≤ maxLen := by
  obtain ⟨a', c', hv, h1, h2, h3⟩ := ho.rdA hb
  refine ⟨a', c', by rw [hv, List.length_append]; rfl, ⟨?_, by simp [h.len], fun i cs' t hc ht => ?_⟩, by rw [List.length_append]; exact h1, h2⟩
  · rw [flat_append]
    simpa [flat] using h3
  · rcases Nat.lt_or_ge i css.length with hi | hi
    · rw [List.getElem?_append_left hi] at hc
      rw [List.getElem?_append_left (by rw [← h.len]; exact hi)] at ht
      exact h.each i cs' t hc ht
    · rw [List.getElem?_append_right hi] at hc
      rw [List.getElem?_append_right (by rw [← h.len]; exact hi), ← h.len] at ht
      rcases Nat.eq_zero_or_pos (i - css.length) with h0 | h0
      · rw [h0] at hc ht
        simp only [List.getElem?_cons_zero, Option.some.injEq] at hc ht
        subst hc ht
        exact ⟨hk, hx⟩
      · rw [List.getElem?_eq_none (by simp; omega)] at hc
        cases hc
theorem RowA.single {τ : Type} {EL : World → (Nat → Prop) → List Value → τ → Prop} {w : World} {Y : Nat → Prop} {g k : Nat} {e : TypeId} {x : τ} {cs : List Value} (hb : Blk w g e cs) (hY : ¬ Y g) (hx : EL w Y cs x) (hk : cs.length = k) : RowA EL k w Y (some ⟨g, 0, none⟩) [x] [cs] := by
  refine ⟨fun _ => ⟨g, 0, rfl, hY, hb.lt, ?_⟩, rfl, fun i cs' t hc ht => ?_⟩
  · simpa [flat] using hb.range 0 cs.length
  · rcases Nat.eq_zero_or_pos i with h0 | h0
    · subst h0
      simp only [List.getElem?_cons_zero, Option.some.injEq] at hc ht
      subst hc ht
      exact ⟨hk, hx⟩
    · rw [List.getElem?_eq_none (by simp; omega)] at hc
      cases hc
theorem RowA.ones {τ : Type} {EL : World → (Nat → Prop) → List Value → τ → Prop} {k : Nat} {w : World} {X : Nat → Prop} {a : Option Addr} {l : List τ} {css : List (List Value)} (h : RowA EL k w X a l css) (h1 : ∀ cs t, EL w X cs t → ∀ u ∈ cs, u.oneCell' = true) : ∀ u ∈ flat id css, u.oneCell' = true := fun u hu => by
  obtain ⟨cs, hcs, hm⟩ := List.mem_flatMap.1 hu
  obtain ⟨i, hi⟩ := List.getElem?_of_mem hcs
  have hlt := (List.getElem?_eq_some_iff.1 hi).1
  exact h1 _ _ (h.each i cs _ hi (List.getElem?_eq_getElem (by rw [← h.len]; exact hlt))).2 u hm
/-- F and one block more. -/
def FX (F : Nat → Prop) (x : Nat) (b : Nat) : Prop := F b ∨ b = x
/-- The desk at x: its disk p, its keep K, and what it may be behind a crash. -/
def DeskL (w : World) (F : Nat → Prop) (x p K : Nat) (lst : List KP) : Prop :=
  ∃ a c css, Blk w x 30 [.pointer (some ⟨p, 0, none⟩), .pointer (some ⟨K, 0, none⟩), .slice a lst.length c] ∧ RowA RefL 6 w (FX F x) a lst css ∧ lst.length ≤ c ∧ c ≤ maxLen ∧ ¬ F x
theorem RefL.len {w : World} {X : Nat → Prop} {cs : List Value} {k : KP} (h : RefL w X cs k) : cs.length = 6 := by
  obtain ⟨vs, ve, rfl, _⟩ := h
  rfl
theorem DeskL.step {S : List Nat} {w w' : World} {F F' : Nat → Prop} {x p K : Nat} {lst : List KP} (h : DeskL w F x p K lst) (f : Fr S w w') (hS : ∀ b ∈ S, F b ∨ w.heap.size ≤ b) (hF : ∀ b, F' b → F b ∨ w.heap.size ≤ b) : DeskL w' F' x p K lst := by
  obtain ⟨a, c, css, h1, h2, h3, h4, h5⟩ := h
  have hl := h1.lt
  have hx : ∀ b, F b ∨ w.heap.size ≤ b → b ≠ x := fun b hb e => by
    subst e
    rcases hb with hb | hb
    · exact h5 hb
    · omega
  have hS' : ∀ b ∈ S, FX F x b ∨ w.heap.size ≤ b := fun b hb => (hS b hb).imp .inl id
  have hF' : ∀ b, FX F' x b → FX F x b ∨ w.heap.size ≤ b := fun b hb => by
    rcases hb with hb | hb
    · exact (hF b hb).imp .inl id
    · exact .inl (.inr hb)
  exact ⟨a, c, css, h1.fr f (fun hm => hx x (hS x hm) rfl), h2.step f hS' hF' (fun cs t h => h.step f hS' hF'), h3, h4, fun hb => hx x (hF x hb) rfl⟩
def chgL (lst : List KP) (m : KP) (e : Int) (safe : Bool) : List KP := if e = 0 then (if safe then [m] else lst ++ [m]) else lst
theorem grown {w w1 w9 w12 : World} {F : Nat → Prop} {x p K : Nat} {lst : List KP} {m : KP} {vs ve : Value} {al a9 : Option Addr} {c9 : Nat} {css : List (List Value)} (hm : RefL w (FX F x) (refC m vs ve) m) (hF : ∀ b, F b → b < w.heap.size) (f1 : Fr [] w w1) (f9 : Fr [] w1 w9)
    (hr : RowA RefL 6 w (FX F x) al lst css) (o9 : Own w9 w1.heap.size 39 6 (.slice a9 (lst.length + 1) c9) (lst.length + 1) (flat id css ++ refC m vs ve)) (f12 : Fr [x] w9 w12) (b12 : Blk w12 x 30 [.pointer (some ⟨p, 0, none⟩), .pointer (some ⟨K, 0, none⟩), .slice a9 (lst.length + 1) c9]) (hx : x < w.heap.size) (hxF : ¬ F x) {cur : List Value} (hxT : Blk w9 x 30 cur) :
    DeskL w12 F x p K (lst ++ [m]) ∧ Fr [x] w w12 := by
  have o12 := o9.fr f12 (fun g hg hm => by
    obtain ⟨c1, hc⟩ := o9.blkOf hg
    rw [List.mem_singleton.1 hm] at hc
    exact hc.ne hxT (by decide) rfl)
  have hFx : Fr [x] w w12 := (f1.trans0 f9).ext.trans1 f12
  have hz := f1.size
  have hS : ∀ b ∈ [x], FX F x b ∨ w.heap.size ≤ b := fun b hb => .inl (.inr (List.mem_singleton.1 hb))
  obtain ⟨a', c', hv, h1, h2, h3⟩ := (hr.step hFx hS (X' := FX F x) (fun b hb => .inl hb) (fun cs t h => h.step hFx hS (fun b hb => .inl hb))).snoc (hm.step hFx hS (fun b hb => .inl hb)) rfl o12 (fun b hb hy => by
    have := (o12.lt hb).1
    rcases hy with hy | hy
    · have := hF b hy; omega
    · omega)
  rw [hv] at b12
  exact ⟨⟨a', c', _, b12, h1, h2, h3, hxF⟩, hFx⟩
set_option maxRecDepth 100000 in
set_option maxHeartbeats 4000000 in
theorem change_calls {w : World} {F : Nat → Prop} {x p K : Nat} {lst : List KP} (h : DeskL w F x p K lst) {cs : List Value} {m : KP} (hm : RefL w (FX F x) cs m) (hF : ∀ b, F b → b < w.heap.size) (hlen : lst.length + 1 ≤ 1000000) (e : Int) (safe : Bool) :
    Calls Try.prog 36 #[.pointer (some ⟨x, 0, none⟩), .agg cs.toArray, .int .i64 e, .int .i64 e, .bool safe] w fun r w' => r = .returned (.bool true) ∧ DeskL w' F x p K (chgL lst m e safe) ∧ Fr [x] w w' := by
  have HD := Lib.hid h
  have HM := Lib.hid hm
  obtain ⟨vs, ve, rfl, hs, he⟩ := hm
  have hb1 := hs.one
  have hb2 := he.one
  obtain ⟨al, c, css, hx, hr, hlc, hcm, hxF⟩ := h
  have HX := Lib.hid (And.intro hx (And.intro hr (And.intro hlc (And.intro hcm hxF))))
  have hxl := hx.lt
  clear hs he hx hr
  by_cases h0 : e = 0
  · subst h0
    go_enter Try.func36, Try.ntmps36
    go_upto_region 1 with (refine wpList_boxB rfl 39 _ rfl (refC m vs ve) (by rfl) ?_; intro w1 B1 F1 S1; have HB1 := Lib.hid B1; have HF1 := Lib.hid F1; clear B1 F1 S1)
    have HXW := Lib.hid (HX.out.1.fr HF1.out (by simp))
    have HR := Lib.hid (show Rd w1 al (flat id css) ∧ (flat id css).length = lst.length * 6 ∧ ∀ v ∈ flat id css, v.oneCell' = true from
      ⟨HX.out.2.1.rd.rd.fr0 HF1.out, by rw [flat_length id 6 _ HX.out.2.1.all, HX.out.2.1.len], HX.out.2.1.ones (fun cs t h => h.one)⟩)
    have d0 : ∀ W, Fr [] w1 W → W.cell? ⟨w.heap.size, 0, none⟩ = some (.int .i64 m.term) := fun W f => (HB1.out.fr f (by simp)).cellAt rfl
    have d1 : ∀ W, Fr [] w1 W → W.cell? ⟨w.heap.size, 1, none⟩ = some (.int .i64 m.vote) := fun W f => (HB1.out.fr f (by simp)).cellAt rfl
    have d2 : ∀ W, Fr [] w1 W → W.cell? ⟨w.heap.size, 2, none⟩ = some (.int .i64 m.base) := fun W f => (HB1.out.fr f (by simp)).cellAt rfl
    have d3 : ∀ W, Fr [] w1 W → W.cell? ⟨w.heap.size, 3, none⟩ = some (.int .i64 m.bt) := fun W f => (HB1.out.fr f (by simp)).cellAt rfl
    have d4 : ∀ W, Fr [] w1 W → W.cell? ⟨w.heap.size, 4, none⟩ = some vs := fun W f => (HB1.out.fr f (by simp)).cellAt rfl
    have d5 : ∀ W, Fr [] w1 W → W.cell? ⟨w.heap.size, 5, none⟩ = some ve := fun W f => (HB1.out.fr f (by simp)).cellAt rfl
    have dx : ∀ W, Fr [] w1 W → W.cell? ⟨x, 2, none⟩ = some (.slice al lst.length c) := fun W f => (HXW.out.fr f (by simp)).cellAt rfl
    go_upto_region 4 with fail
    go_cut [] from 16 to 28 (fun wx => DeskL wx F x p K (lst ++ [m]) ∧ Fr [x] w wx)
    case first =>
      refine wp_region_tree (Fr [] w1) (seqT [0,2,3,4,5,7] (.two 1 (.two 6 (.one 8 (.one 9 (.one 10 (.one 11 (.one 12 .done))))) 8 (.one 6 (.one 9 (.one 10 (.one 11 (.one 12 .done)))))) 8 (.one 1 (.one 6 (.one 9 (.one 10 (.one 11 (.one 12 .done)))))))) [12] [1, 6, 8, 9, 12] [5, 7] mixed15 (by kernel_rfl) ?_
      have hS : Fr [] w1 w1.drew := (Fr.refl _ _).drew
      have hdz : w1.drew.heap.size = w1.heap.size := rfl
      have hz1 := HF1.out.size
      simp only [seqT, List.foldr]
      repeat (first | (refine wpT_free ?_ (by rfl) (by rfl) (fun w' => ?_) ?_; rotate_left; (simp only [pickN]; go_simp; rfl); simp only [pickN, Act.put, List.setIfInBounds_toArray, List.set_cons_zero, List.set_cons_succ]) | (refine wpT_take ?_ hS (by rfl) (by rfl) (fun w' hw' => ?_) ?_; rotate_left; (simp only [pickN]; go_simp; rfl); simp only [pickN, Act.put, List.setIfInBounds_toArray, List.set_cons_zero, List.set_cons_succ]))
      refine wpT_two ?_ ?_
      · refine wpList_build0 rfl 28 39 6 rfl rkeeps_build0 ?_
        intro v1 OA1 FA1 SA1
        have g1 : Fr [] w1 v1 := (hS).trans0 FA1
        refine effT_keep g1 ?_
        clear SA1
        simp only [pickN, Act.put, List.setIfInBounds_toArray, List.set_cons_zero, List.set_cons_succ]
        refine wpT_two ?_ ?_
        · refine wpList_appN rfl _ _ 28 28 rfl w1.heap.size 39 39 zR 6 80 Try.underlying28 Try.underlying28 info_rkeep rfl (by decide) _ 0 [] (by rfl) (OA1) al lst.length c (flat id css) (by rfl) (HR.out.1.fr0 g1) HR.out.2.1 HR.out.2.2 (by simp only [maxLen]; omega) (by omega) (by have := (g1).size; omega) ?_
          intro v6 w6 O6 F6 K6
          have g6 : Fr [] w1 w6 := (g1).trans F6 (fun b hb hlt => by have := ((OA1).lt hb).1; omega)
          have k6 : ∀ b ∈ ob (.slice (some ⟨w1.drew.heap.size, 0, none⟩) 0 0), w1.heap.size ≤ b := fun b hb => ((OA1).lt hb).1
          rw [Nat.zero_add, List.nil_append] at O6
          obtain ⟨a6, c6, hv6, _, _, _⟩ := O6.form
          subst hv6
          refine effT_keep g6 ?_
          simp only [pickN, Act.put, List.setIfInBounds_toArray, List.set_cons_zero, List.set_cons_succ]
          refine wpT_eff (by rfl) ?_
          refine wpList_buildSlice1 rfl 28 39 _ rfl zR 6 80 Try.underlying28 info_rkeep (by simp [zR]) (by omega) (by omega) _ (refC m vs ve) (by rfl) (by rfl) (by simp [refC]) ?_
          intro w8 B8 F8 S8
          have g8 : Fr [] w1 w8 := (g6).trans0 F8
          refine effT_keep g8 ?_
          clear S8
          simp only [pickN, Act.put, List.setIfInBounds_toArray, List.set_cons_zero, List.set_cons_succ]
          refine wpT_eff (by rfl) ?_
          refine wpList_appN rfl _ _ 28 28 rfl w1.heap.size 39 39 zR 6 80 Try.underlying28 Try.underlying28 info_rkeep rfl (by decide) _ lst.length (flat id css) (by rfl) (O6.fr0 F8) (some ⟨w6.heap.size, 0, none⟩) 1 1 (refC m vs ve) (by rfl) ((B8).rd0 6) (by simp [refC]) (refC_one hb1 hb2) (by simp only [maxLen]; omega) (by omega) (by have := (g8).size; omega) ?_
          intro v9 w9 O9 F9 K9
          have g9 : Fr [] w1 w9 := (g8).trans F9 (fun b hb hlt => by have := (((O6.fr0 F8)).lt hb).1; omega)
          obtain ⟨a9, c9, hv9, _, _, _⟩ := O9.form
          subst hv9
          refine effT_keep g9 ?_
          simp only [pickN, Act.put, List.setIfInBounds_toArray, List.set_cons_zero, List.set_cons_succ]
          repeat (refine wpT_free ?_ (by rfl) (by rfl) (fun w' => ?_) ?_; rotate_left; (simp only [pickN]; go_simp; rfl); simp only [pickN, Act.put, List.setIfInBounds_toArray, List.set_cons_zero, List.set_cons_succ])
          refine wpT_eff (by rfl) ?_
          refine wpList_store1 rfl 28 _ _ rfl x 2 (.slice a9 (lst.length + 1) c9) (by rfl) (by rfl) rfl 30 _ (HXW.out.fr g9 (by simp)) (by simp) (by kernel_rfl) rfl ?_
          intro w12 B12 F12 S12
          refine effT_skip (by decide) (wpT_done ?_)
          simp only [pickN, Act.put, List.setIfInBounds_toArray, List.set_cons_zero, List.set_cons_succ]
          have hG := grown HM.out hF HF1.out g9 HX.out.2.1 O9 F12 B12 hxl hxF (HXW.out.fr g9 (by simp))
          clear S12 B12 F12 O9 F9 K9
          go_wp2_with fail
          go_meet
          exact hG
        · refine wpList_buildSlice1 rfl 28 39 _ rfl zR 6 80 Try.underlying28 info_rkeep (by simp [zR]) (by omega) (by omega) _ (refC m vs ve) (by rfl) (by rfl) (by simp [refC]) ?_
          intro w8 B8 F8 S8
          have g8 : Fr [] w1 w8 := (g1).trans0 F8
          refine effT_keep g8 ?_
          clear S8
          simp only [pickN, Act.put, List.setIfInBounds_toArray, List.set_cons_zero, List.set_cons_succ]
          refine wpT_eff (by rfl) ?_
          refine wpList_appN rfl _ _ 28 28 rfl w1.heap.size 39 39 zR 6 80 Try.underlying28 Try.underlying28 info_rkeep rfl (by decide) _ 0 [] (by rfl) ((OA1.fr0 F8)) al lst.length c (flat id css) (by rfl) (HR.out.1.fr0 g8) HR.out.2.1 HR.out.2.2 (by simp only [maxLen]; omega) (by omega) (by have := (g8).size; omega) ?_
          intro v6 w6 O6 F6 K6
          have g6 : Fr [] w1 w6 := (g8).trans F6 (fun b hb hlt => by have := (((OA1.fr0 F8)).lt hb).1; omega)
          have k6 : ∀ b ∈ ob (.slice (some ⟨w1.drew.heap.size, 0, none⟩) 0 0), w1.heap.size ≤ b := fun b hb => (((OA1.fr0 F8)).lt hb).1
          rw [Nat.zero_add, List.nil_append] at O6
          obtain ⟨a6, c6, hv6, _, _, _⟩ := O6.form
          subst hv6
          refine effT_keep g6 ?_
          simp only [pickN, Act.put, List.setIfInBounds_toArray, List.set_cons_zero, List.set_cons_succ]
          refine wpT_eff (by rfl) ?_
          refine wpList_appN rfl _ _ 28 28 rfl w1.heap.size 39 39 zR 6 80 Try.underlying28 Try.underlying28 info_rkeep rfl (by decide) _ lst.length (flat id css) (by rfl) O6 (some ⟨v1.heap.size, 0, none⟩) 1 1 (refC m vs ve) (by rfl) (((B8.fr F6 (fun hm => by have := (OA1.lt hm).2; omega))).rd0 6) (by simp [refC]) (refC_one hb1 hb2) (by simp only [maxLen]; omega) (by omega) (by have := (g6).size; omega) ?_
          intro v9 w9 O9 F9 K9
          have g9 : Fr [] w1 w9 := (g6).trans F9 (fun b hb hlt => by have := ((O6).lt hb).1; omega)
          obtain ⟨a9, c9, hv9, _, _, _⟩ := O9.form
          subst hv9
          refine effT_keep g9 ?_
          simp only [pickN, Act.put, List.setIfInBounds_toArray, List.set_cons_zero, List.set_cons_succ]
          repeat (refine wpT_free ?_ (by rfl) (by rfl) (fun w' => ?_) ?_; rotate_left; (simp only [pickN]; go_simp; rfl); simp only [pickN, Act.put, List.setIfInBounds_toArray, List.set_cons_zero, List.set_cons_succ])
          refine wpT_eff (by rfl) ?_
          refine wpList_store1 rfl 28 _ _ rfl x 2 (.slice a9 (lst.length + 1) c9) (by rfl) (by rfl) rfl 30 _ (HXW.out.fr g9 (by simp)) (by simp) (by kernel_rfl) rfl ?_
          intro w12 B12 F12 S12
          refine effT_skip (by decide) (wpT_done ?_)
          simp only [pickN, Act.put, List.setIfInBounds_toArray, List.set_cons_zero, List.set_cons_succ]
          have hG := grown HM.out hF HF1.out g9 HX.out.2.1 O9 F12 B12 hxl hxF (HXW.out.fr g9 (by simp))
          clear S12 B12 F12 O9 F9 K9
          go_wp2_with fail
          go_meet
          exact hG
      · refine wpList_buildSlice1 rfl 28 39 _ rfl zR 6 80 Try.underlying28 info_rkeep (by simp [zR]) (by omega) (by omega) _ (refC m vs ve) (by rfl) (by rfl) (by simp [refC]) ?_
        intro w8 B8 F8 S8
        have g8 : Fr [] w1 w8 := (hS).trans0 F8
        refine effT_keep g8 ?_
        clear S8
        simp only [pickN, Act.put, List.setIfInBounds_toArray, List.set_cons_zero, List.set_cons_succ]
        refine wpT_eff (by rfl) ?_
        refine wpList_build0 rfl 28 39 6 rfl rkeeps_build0 ?_
        intro v1 OA1 FA1 SA1
        have g1 : Fr [] w1 v1 := (g8).trans0 FA1
        refine effT_keep g1 ?_
        clear SA1
        simp only [pickN, Act.put, List.setIfInBounds_toArray, List.set_cons_zero, List.set_cons_succ]
        refine wpT_eff (by rfl) ?_
        refine wpList_appN rfl _ _ 28 28 rfl w1.heap.size 39 39 zR 6 80 Try.underlying28 Try.underlying28 info_rkeep rfl (by decide) _ 0 [] (by rfl) ((OA1.base g8.size)) al lst.length c (flat id css) (by rfl) (HR.out.1.fr0 g1) HR.out.2.1 HR.out.2.2 (by simp only [maxLen]; omega) (by omega) (by have := (g1).size; omega) ?_
        intro v6 w6 O6 F6 K6
        have g6 : Fr [] w1 w6 := (g1).trans F6 (fun b hb hlt => by have := (((OA1.base g8.size)).lt hb).1; omega)
        have k6 : ∀ b ∈ ob (.slice (some ⟨w8.heap.size, 0, none⟩) 0 0), w1.heap.size ≤ b := fun b hb => (((OA1.base g8.size)).lt hb).1
        rw [Nat.zero_add, List.nil_append] at O6
        obtain ⟨a6, c6, hv6, _, _, _⟩ := O6.form
        subst hv6
        refine effT_keep g6 ?_
        simp only [pickN, Act.put, List.setIfInBounds_toArray, List.set_cons_zero, List.set_cons_succ]
        refine wpT_eff (by rfl) ?_
        refine wpList_appN rfl _ _ 28 28 rfl w1.heap.size 39 39 zR 6 80 Try.underlying28 Try.underlying28 info_rkeep rfl (by decide) _ lst.length (flat id css) (by rfl) O6 (some ⟨w1.drew.heap.size, 0, none⟩) 1 1 (refC m vs ve) (by rfl) ((((B8.fr FA1 (by simp)).fr F6 (fun hm => by have := (OA1.lt hm).1; have := B8.lt; omega))).rd0 6) (by simp [refC]) (refC_one hb1 hb2) (by simp only [maxLen]; omega) (by omega) (by have := (g6).size; omega) ?_
        intro v9 w9 O9 F9 K9
        have g9 : Fr [] w1 w9 := (g6).trans F9 (fun b hb hlt => by have := ((O6).lt hb).1; omega)
        obtain ⟨a9, c9, hv9, _, _, _⟩ := O9.form
        subst hv9
        refine effT_keep g9 ?_
        simp only [pickN, Act.put, List.setIfInBounds_toArray, List.set_cons_zero, List.set_cons_succ]
        repeat (refine wpT_free ?_ (by rfl) (by rfl) (fun w' => ?_) ?_; rotate_left; (simp only [pickN]; go_simp; rfl); simp only [pickN, Act.put, List.setIfInBounds_toArray, List.set_cons_zero, List.set_cons_succ])
        refine wpT_eff (by rfl) ?_
        refine wpList_store1 rfl 28 _ _ rfl x 2 (.slice a9 (lst.length + 1) c9) (by rfl) (by rfl) rfl 30 _ (HXW.out.fr g9 (by simp)) (by simp) (by kernel_rfl) rfl ?_
        intro w12 B12 F12 S12
        refine effT_skip (by decide) (wpT_done ?_)
        simp only [pickN, Act.put, List.setIfInBounds_toArray, List.set_cons_zero, List.set_cons_succ]
        have hG := grown HM.out hF HF1.out g9 HX.out.2.1 O9 F12 B12 hxl hxF (HXW.out.fr g9 (by simp))
        clear S12 B12 F12 O9 F9 K9
        go_wp2_with fail
        go_meet
        exact hG
    obtain ⟨hD5, hF5⟩ := hcut
    have HD5 := Lib.hid (And.intro hD5 hF5)
    clear hD5 hF5 d0 d1 d2 d3 d4 d5 dx
    cases safe with
    | false =>
      go_wp2_with fail
      go_ret
      exact ⟨rfl, HD5.out.1, HD5.out.2⟩
    | true =>
      obtain ⟨a5, c5, css5, hb5, hr5, hl5, hm5, hx5⟩ := HD5.out.1
      have hNN : (lst ++ [m]).length = lst.length + 1 := by simp
      obtain ⟨aR, hRR, hsl⟩ := slice_lK (P := Try.prog) Try.underlying28 rkeep_size a5 (lst.length + 1) c5 lst.length (lst.length : Int) rfl (by omega) (by omega)
      rw [show lst.length + 1 - lst.length = 1 by omega] at hsl
      obtain ⟨c6, hc6⟩ : ∃ c6, c5 - lst.length = c6 := ⟨_, rfl⟩
      rw [hc6] at hsl
      rw [hNN] at hb5 hl5
      have hrow := hr5.dropN lst.length (hRR wc _ _ hr5.rd (by rw [flat_length id 6 _ hr5.all, hr5.len, hNN]))
      rw [List.drop_left] at hrow
      have HB5 := Lib.hid hb5
      have HROW := Lib.hid (And.intro hrow (And.intro (show 1 ≤ c6 by omega) (show c6 ≤ maxLen by omega)))
      have dx : ∀ W, Fr [] wc W → W.cell? ⟨x, 2, none⟩ = some (.slice a5 (lst.length + 1) c5) := fun W f => (HB5.out.fr f (by simp)).cellAt rfl
      have j1 : IntKind.i64.wrap ((lst.length : Int) + 1 - 1) = (lst.length : Int) := by rw [show (lst.length : Int) + 1 - 1 = lst.length by omega]; exact IntWalk.i64_in _ (by omega)
      have j2 : IntKind.i64.wrap (lst.length : Int) = (lst.length : Int) := IntWalk.i64_in _ (by omega)
      clear hb5 hr5 hrow hRR hNN hc6 hl5 hm5
      go_upto_region 6 with fail
      refine wp_region_ord (Fr [] wc) (List.range 15) [14] [14] [4, 8] mixed15 (by kernel_rfl) ?_
      have hS : Fr [] wc wc.drew := (Fr.refl _ _).drew
      simp only [pairs, pickN, List.range, List.range.loop]
      repeat (first | (refine wpO_free ?_ (by rfl) (by rfl) (fun w' => ?_) ?_; rotate_left; (go_simp; rfl); simp only [Act.put, List.setIfInBounds_toArray, List.set_cons_zero, List.set_cons_succ]) | (refine wpO_take ?_ hS (by rfl) (by rfl) (fun w' hw' => ?_) ?_; rotate_left; (go_simp; rfl); simp only [Act.put, List.setIfInBounds_toArray, List.set_cons_zero, List.set_cons_succ]) | (refine wpO_pass (by rfl) ?_; simp only [Act.put, List.setIfInBounds_toArray, List.set_cons_zero, List.set_cons_succ]))
      refine wpO_eff (by rfl) ?_
      refine wpList_store1 rfl 28 _ _ rfl x 2 (.slice aR 1 c6) (by rfl) (by rfl) rfl 30 _ (HB5.out.fr hS (by simp)) (by simp) (by kernel_rfl) rfl ?_
      intro w6 B6 F6 S6
      refine effQ_skip (by decide) (wpO_nil ?_)
      simp only [Act.put, List.setIfInBounds_toArray, List.set_cons_zero, List.set_cons_succ]
      have hFx : Fr [x] wc w6 := hS.ext.trans1 F6
      have hSx : ∀ b ∈ [x], FX F x b ∨ wc.heap.size ≤ b := fun b hb => .inl (.inr (List.mem_singleton.1 hb))
      have hlast : DeskL w6 F x p K [m] := ⟨aR, c6, _, B6, HROW.out.1.step hFx hSx (fun b hb => .inl hb) (fun cs t h => h.step hFx hSx (fun b hb => .inl hb)), HROW.out.2.1, HROW.out.2.2, hxF⟩
      have HE := Lib.hid (And.intro hlast (HD5.out.2.trans1 hFx))
      clear B6 F6 S6 hS hlast hFx dx
      go_wp2_with fail
      go_ret
      exact ⟨rfl, HE.out.1, HE.out.2⟩
  · have q1 : (e != e) = false := by simp
    have q2 : (e == 0) = false := by simpa using h0
    have hl : chgL lst m e safe = lst := by unfold chgL; rw [if_neg h0]
    rw [hl]
    clear h0
    go_enter Try.func36, Try.ntmps36
    go_upto_region 1 with (refine wpList_boxB rfl 39 _ rfl (refC m vs ve) (by rfl) ?_; intro w1 B1 F1 S1; have HB1 := Lib.hid B1; have HF1 := Lib.hid F1; clear B1 F1 S1)
    go_wp2_with fail
    go_ret
    exact ⟨rfl, HD.out.step HF1.out (by simp) (fun b hb => .inl hb), HF1.out.ext⟩
end Go.Fur
namespace Go.Fur
open Go Go.RowKit
set_option linter.unusedVariables false
set_option linter.unusedSimpArgs false
def KP.bytes (k : KP) : Nat := k.snap.length + (k.es.map fun e => e.2.length).sum
/-- What is kept is small. -/
structure Small (B N : Nat) (k : KP) : Prop where
  wf : k.wf
  byt : k.bytes ≤ B
  el : k.es.length ≤ N
theorem Small.le {B N B' N' : Nat} {k : KP} (h : Small B N k) (hB : B ≤ B') (hN : N ≤ N') : Small B' N' k := ⟨h.wf, Nat.le_trans h.byt hB, Nat.le_trans h.el hN⟩
theorem eB_sum : ∀ l : List (Int × List Int), (l.flatMap eB).length ≤ 18 * l.length + (l.map fun e => e.2.length).sum
  | [] => by simp
  | e :: l => by
    have h1 := eB_sum l
    have h2 := layI_length e.1
    have h3 := layB_length e.2
    simp only [List.flatMap_cons, List.length_append, List.length_cons, List.map_cons, List.sum_cons, eB]
    omega
theorem pack_len (k : KP) : k.pack.length ≤ k.bytes + 18 * k.es.length + 54 := by
  have h1 := layI_length k.term
  have h2 := layI_length k.vote
  have h3 := layI_length k.base
  have h4 := layI_length k.bt
  have h5 := layB_length k.snap
  have h6 := layI_length k.es.length
  have h7 := eB_sum k.es
  unfold KP.pack KP.bytes
  simp only [List.length_append]
  omega
theorem Small.pack {B N : Nat} {k : KP} (h : Small B N k) : k.pack.length ≤ B + 18 * N + 54 := by
  have h1 := pack_len k
  have h2 := h.byt
  have h3 := Nat.mul_le_mul_left 18 h.el
  omega
theorem sum_take (l : List (Int × List Int)) (n : Nat) : ((l.take n).map fun e => e.2.length).sum ≤ (l.map fun e => e.2.length).sum := by
  have : (l.map fun e => e.2.length).sum = ((l.take n).map fun e => e.2.length).sum + ((l.drop n).map fun e => e.2.length).sum := by
    rw [← List.sum_append, ← List.map_append, List.take_append_drop]
  omega
theorem sum_drop (l : List (Int × List Int)) (n : Nat) : ((l.drop n).map fun e => e.2.length).sum ≤ (l.map fun e => e.2.length).sum := by
  have : (l.map fun e => e.2.length).sum = ((l.take n).map fun e => e.2.length).sum + ((l.drop n).map fun e => e.2.length).sum := by
    rw [← List.sum_append, ← List.map_append, List.take_append_drop]
  omega
theorem Small.new : Small 0 0 KP.new := ⟨KP.new_wf, by simp [KP.bytes, KP.new], by simp [KP.new]⟩
theorem Small.vote {B N : Nat} {k : KP} (h : Small B N k) {t v : Int} (ht : I64 t) (hv : I64 v) : Small B N { k with term := t, vote := v } :=
  ⟨⟨ht, hv, h.wf.base, h.wf.bt, h.wf.snap, h.wf.sl, h.wf.es, h.wf.el⟩, h.byt, h.el⟩
theorem Small.put {B N : Nat} {k : KP} (h : Small B N k) (hN : N + 1 ≤ 1000000) {i t : Int} {l : List Int} (ht : I64 t) (hl : Byt l) (hll : l.length ≤ 60000) : Small (B + l.length) (N + 1) (putE k i t l) := by
  have h1 := sum_take k.es (i - k.base - 1).toNat
  have h2 := h.byt
  have h3 := h.el
  unfold KP.bytes at h2
  have hlen : (k.es.take (i - k.base - 1).toNat).length ≤ N := by rw [List.length_take]; omega
  refine ⟨⟨h.wf.term, h.wf.vote, h.wf.base, h.wf.bt, h.wf.snap, h.wf.sl, fun e he => ?_, ?_⟩, ?_, ?_⟩
  · rcases List.mem_append.1 (show e ∈ k.es.take (i - k.base - 1).toNat ++ [(t, l)] from he) with he | he
    · exact h.wf.es e (List.mem_of_mem_take he)
    · rw [List.mem_singleton.1 he]
      exact ⟨ht, hl, by dsimp only; omega⟩
  · show (k.es.take (i - k.base - 1).toNat ++ [(t, l)]).length ≤ 1000000
    rw [List.length_append, List.length_singleton]
    omega
  · show k.snap.length + ((k.es.take (i - k.base - 1).toNat ++ [(t, l)]).map fun e => e.2.length).sum ≤ _
    rw [List.map_append, List.sum_append]
    simp only [List.map_cons, List.map_nil, List.sum_cons, List.sum_nil]
    omega
  · show (k.es.take (i - k.base - 1).toNat ++ [(t, l)]).length ≤ _
    rw [List.length_append, List.length_singleton]
    omega
theorem Small.reset {B N : Nat} {k : KP} (h : Small B N k) {i t : Int} {l : List Int} (hi : k.base < i) (hi2 : i ≤ 1152921504606846976) (ht : I64 t) (hl : Byt l) (hll : l.length ≤ 262144) : Small (B + l.length) N (resetE k i t l) := by
  have h1 := sum_drop k.es (i - k.base).toNat
  have h2 := h.byt
  have h3 := h.el
  unfold KP.bytes at h2
  refine ⟨resetE_wf h.wf hi hi2 ht hl (by omega), ?_, ?_⟩
  · show l.length + ((if keepsE k i t then k.es.drop (i - k.base).toNat else []).map fun e => e.2.length).sum ≤ _
    split
    · omega
    · simp
  · show (if keepsE k i t then k.es.drop (i - k.base).toNat else []).length ≤ _
    split
    · rw [List.length_drop]; omega
    · simp
/-- A keep on its disk: what it began with, its records. -/
structure KdP (n B N : Nat) (d : D) (s : St) (k0 : KP) (rs : List RecK) : Prop where
  desk : ∃ whole snap, Desk d s whole snap (rs.map RecK.enc) ∧ ((whole = true ∧ snap = k0.pack) ∨ (whole = false ∧ snap = [] ∧ k0 = KP.new)) ∧ (snap ++ encs (rs.map RecK.enc)).length ≤ 2 * B + 100 * N + 100
  gen : s.gen ≤ N + 1
  life : s.life ≤ N + 1
  loose : d.loose.length ≤ N * 3000
  rsl : rs.length ≤ N
  small : ∀ j, Small B N (runK k0 (rs.take j))
  ok : OkK k0 rs
  len : d.now.length = n
theorem KdP.now {n B N : Nat} {d : D} {s : St} {k0 : KP} {rs : List RecK} (h : KdP n B N d s k0 rs) : Small B N (runK k0 rs) := by
  have := h.small rs.length
  rwa [List.take_length] at this
theorem KdP.bud {n B N : Nat} {d : D} {s : St} {k0 : KP} {rs : List RecK} (h : KdP n B N d s k0 rs) : Bud d s N := by
  obtain ⟨whole, snap, hd, _, _⟩ := h.desk
  have h1 := hd.pos.len
  have h2 := hd.fit
  have h3 := hd.cnt
  have h4 := hd.sf
  have h5 := h.rsl
  rw [List.length_map] at h3 h4
  exact ⟨⟨hd.short, by omega, by rw [budC_eq]; omega, by rw [budC_eq]; omega⟩, h.loose⟩
theorem okK_snoc : ∀ {k : KP} {rs : List RecK} {r : RecK}, OkK k rs → r.ok (runK k rs) → OkK k (rs ++ [r])
  | k, [], r, _, h => ⟨h, trivial⟩
  | k, x :: rs, r, h1, h2 => ⟨h1.1, okK_snoc (k := x.run k) h1.2 h2⟩
theorem okK_take : ∀ {k : KP} {rs : List RecK} (j : Nat), OkK k rs → OkK k (rs.take j)
  | k, rs, 0, _ => trivial
  | k, [], j + 1, _ => trivial
  | k, x :: rs, j + 1, h => ⟨h.1, okK_take (k := x.run k) j h.2⟩
theorem KdP.app {n B N b : Nat} {d : D} {s : St} {k0 : KP} {rs : List RecK} (h : KdP n B N d s k0 rs) (hN : N ≤ 100000) {r : RecK} (hr : r.ok (runK k0 rs)) (hl : r.enc.length ≤ b + 36) (hb : b ≤ 60000) (hs : Small (B + b) (N + 1) (r.run (runK k0 rs))) (hfit : 2 * (B + b) + 100 * (N + 1) + 100 ≤ (n - 2) / 2 * 55) (k : KP) :
    (appK d s k r.enc).1 = 0 ∧ KdP n (B + b) (N + 1) (appK d s k r.enc).2.1 (appK d s k r.enc).2.2 k0 (rs ++ [r]) ∧ (appK d s k r.enc).2.2.safe = s.safe := by
  obtain ⟨whole, snap, hd, hw, hlen⟩ := h.desk
  have h1 := hd.pos.len
  have hg := h.gen
  have hli := h.life
  have hn := h.len
  have hrs := h.rsl
  have hft : fitsB d s (r.enc.length + 4) = true := by
    unfold fitsB
    rw [decide_eq_true_iff]
    unfold halfP
    rw [hn]
    omega
  obtain ⟨e1, e2, e3, e4, e5, e6, e7, e8⟩ := hd.append (by omega) (by omega) (p := r.enc) (by omega) hft
  have hany := (h.bud.app r.enc).lo
  have he : appK d s k r.enc = appS d s r.enc := by unfold appK; rw [if_pos (by rw [e1]; decide)]
  rw [he]
  refine ⟨e1, ⟨⟨whole, snap, by rw [List.map_append]; exact e2, hw, ?_⟩, by rw [e3]; omega, by rw [e4]; omega, hany, by rw [List.length_append, List.length_singleton]; omega, fun j => ?_, okK_snoc h.ok hr, by rw [e7]; exact hn⟩, e8⟩
  · rw [List.map_append, encs_append, ← List.append_assoc, List.length_append]
    have : (encs ([r].map RecK.enc)).length = r.enc.length + 4 := by
      rw [List.map_cons, List.map_nil, encs_one, List.length_append]
      simp [le4]
      omega
    rw [this]
    omega
  · rcases Nat.lt_or_ge rs.length j with hj | hj
    · rw [List.take_of_length_le (by rw [List.length_append, List.length_singleton]; omega), runK_snoc]
      exact hs
    · rw [List.take_append_of_le_length hj]
      exact (h.small j).le (by omega) (by omega)
theorem KdP.sync {n B N : Nat} {d : D} {s : St} {k0 : KP} {rs : List RecK} (h : KdP n B N d s k0 rs) : KdP n B N d.calm { s with safe := s.count } k0 rs ∧ s.count = rs.length := by
  obtain ⟨whole, snap, hd, hw, hlen⟩ := h.desk
  exact ⟨⟨⟨whole, snap, hd.calm, hw, hlen⟩, h.gen, h.life, by simp [D.calm], h.rsl, h.small, h.ok, h.len⟩, by rw [hd.cnt, List.length_map]⟩
theorem KdP.check {n B N B' N' : Nat} {d : D} {s : St} {k0 : KP} {rs : List RecK} (h : KdP n B N d s k0 rs) (hN : N ≤ 100000) {k : KP} (hs : Small B' N' k) (hN' : N + 1 ≤ N') (hp : B' + 18 * N' + 54 ≤ 524288) (hfit : B' + 18 * N' + 54 ≤ (n - 2) / 2 * 55) :
    (ckS d s k.pack).1 = 0 ∧ KdP n B' N' (ckS d s k.pack).2.1 (ckS d s k.pack).2.2 k [] ∧ (ckS d s k.pack).2.2.safe = 0 := by
  obtain ⟨whole, snap, hd, hw, hlen⟩ := h.desk
  have hg := h.gen
  have hli := h.life
  have hn := h.len
  have hpk := hs.pack
  have hh : halfP d = (n - 2) / 2 := by unfold halfP; rw [hn]
  obtain ⟨e1, e2, e3, e4, e5, e6, e7, e8⟩ := hd.check (p := k.pack) (by omega) (by omega) (by omega) (by omega) (by rw [hh]; omega)
  refine ⟨e1, ⟨⟨true, k.pack, e2, .inl ⟨rfl, rfl⟩, ?_⟩, by rw [e3]; omega, by rw [e4]; omega, by rw [e7]; simp, by simp, fun j => by rw [List.take_nil]; exact hs, trivial, by rw [e8]; exact hn⟩, e5⟩
  simp [encs]
  omega
theorem KdP.lost {n B N : Nat} {d : D} {s : St} {k0 : KP} {rs : List RecK} (h : KdP n B N d s k0 rs) (hw : d.wf) (hN : N ≤ 100000) (hp : B + 18 * N + 54 ≤ 1000000000) (keep : Nat) :
    ∃ j, s.safe ≤ j ∧ j ≤ rs.length ∧ OpenOk ⟨undo d keep, []⟩ k0 (rs.take j) ∧ KdP n B (N + 1) (D.calm ⟨undo d keep, []⟩) (openS ⟨undo d keep, []⟩) k0 (rs.take j) ∧ (openS ⟨undo d keep, []⟩).safe = j := by
  obtain ⟨whole, snap, hd, hws, hlen⟩ := h.desk
  have hg := h.gen
  have hli := h.life
  obtain ⟨j, j1, j2, _, _, L', i, tail, o1, o2, o3⟩ := hd.lost hw (by omega) keep
  rw [List.length_map] at j2
  have hmt : (rs.map RecK.enc).take j = (rs.take j).map RecK.enc := by rw [List.map_take]
  rw [hmt] at o2 o3
  have htl : (rs.take j).length = j := by rw [List.length_take]; exact Nat.min_eq_left j2
  have hk0 := h.small 0
  rw [List.take_zero] at hk0
  have hos : openS ⟨undo d keep, []⟩ = ⟨s.gen, L', tail, i, j, j⟩ := by unfold openS; rw [o2]; dsimp only; rw [List.length_map, htl]
  refine ⟨j, j1, j2, ⟨?_, hk0.wf, by rw [o2], okK_take j h.ok⟩, ?_, by rw [hos]⟩
  · rw [o2]
    rcases hws with ⟨h1, h2⟩ | ⟨h1, h2, h3⟩
    · exact .inl ⟨h1, h2, by have := hk0.pack; exact Nat.le_trans this hp⟩
    · exact .inr ⟨h1, h3⟩
  · rw [hos]
    have hl2 := encs_take (rs.map RecK.enc) j
    rw [hmt] at hl2
    rw [List.length_append] at hlen
    refine ⟨⟨whole, snap, o3, hws, by rw [List.length_append]; omega⟩, by dsimp only; omega, by dsimp only; omega, by simp [D.calm], by rw [htl]; have := h.rsl; omega, fun m => ?_, okK_take j h.ok, ?_⟩
    · rw [List.take_take]
      exact (h.small _).le (Nat.le_refl _) (by omega)
    · show (undo d keep).length = n
      rw [undo_length]
      exact h.len
end Go.Fur
namespace Go.Fur
open Go Go.RowKit
set_option linter.unusedVariables false
set_option linter.unusedSimpArgs false
structure KdL (n B N : Nat) (d : D) (s : St) (k0 : KP) (rs : List RecK) (lst : List KP) : Prop where
  kd : KdP n B N d s k0 rs
  last : lst.getLast? = some (runK k0 rs)
  all : ∀ j, s.safe ≤ j → j ≤ rs.length → runK k0 (rs.take j) ∈ lst
  len : lst.length ≤ N + 1
  small : ∀ k ∈ lst, Small B N k
theorem KdL.snoc {n B N B' : Nat} {d d' : D} {s s' : St} {k0 : KP} {rs : List RecK} {lst : List KP} {r : RecK} (h : KdL n B N d s k0 rs lst) (hB : B ≤ B') (hk : KdP n B' (N + 1) d' s' k0 (rs ++ [r])) (hs : s'.safe = s.safe) : KdL n B' (N + 1) d' s' k0 (rs ++ [r]) (lst ++ [runK k0 (rs ++ [r])]) := by
  refine ⟨hk, by simp, fun j h1 h2 => ?_, by have := h.len; rw [List.length_append, List.length_singleton]; omega, fun k hm => ?_⟩
  · rcases Nat.lt_or_ge rs.length j with hj | hj
    · rw [List.take_of_length_le (by rw [List.length_append, List.length_singleton]; omega)]
      simp
    · rw [List.take_append_of_le_length hj]
      exact List.mem_append_left _ (h.all j (by omega) hj)
  · rcases List.mem_append.1 hm with hm | hm
    · exact (h.small k hm).le hB (by omega)
    · rw [List.mem_singleton.1 hm]
      exact hk.now
theorem KdP.more {n B N B' N' : Nat} {d : D} {s : St} {k0 : KP} {rs : List RecK} (h : KdP n B N d s k0 rs) (hB : B ≤ B') (hN : N ≤ N') : KdP n B' N' d s k0 rs := by
  obtain ⟨whole, snap, hd, hw, hl⟩ := h.desk
  exact ⟨⟨whole, snap, hd, hw, by omega⟩, by have := h.gen; omega, by have := h.life; omega, Nat.le_trans h.loose (Nat.mul_le_mul_right _ hN), by have := h.rsl; omega, fun j => (h.small j).le hB hN, h.ok, h.len⟩
theorem KdL.more {n B N B' N' : Nat} {d : D} {s : St} {k0 : KP} {rs : List RecK} {lst : List KP} (h : KdL n B N d s k0 rs lst) (hB : B ≤ B') (hN : N ≤ N') : KdL n B' N' d s k0 rs lst :=
  ⟨h.kd.more hB hN, h.last, h.all, by have := h.len; omega, fun k hk => (h.small k hk).le hB hN⟩
/-- One state, all of it safe. -/
theorem KdL.one {n B N : Nat} {d : D} {s : St} {k0 : KP} {rs : List RecK} (h : KdP n B N d s k0 rs) (hs : s.safe = rs.length) : KdL n B N d s k0 rs [runK k0 rs] := by
  refine ⟨h, by simp, fun j h1 h2 => ?_, by simp, fun k hk => ?_⟩
  · rw [List.take_of_length_le (by omega)]
    simp
  · rw [List.mem_singleton.1 hk]
    exact h.now
theorem KdL.vote {n B N : Nat} {d : D} {s : St} {k0 : KP} {rs : List RecK} {lst : List KP} (h : KdL n B N d s k0 rs lst) (hN : N ≤ 100000) (hfit : 2 * B + 100 * (N + 1) + 100 ≤ (n - 2) / 2 * 55) {t v : Int} (ht : I64 t) (hv : I64 v) :
    (voteK d s (runK k0 rs) t v).1 = (voteE (runK k0 rs) t v).1 ∧ (voteK d s (runK k0 rs) t v).2.2.2 = (voteE (runK k0 rs) t v).2 ∧
      ∃ rs', (voteE (runK k0 rs) t v).2 = runK k0 rs' ∧ KdL n B (N + 1) (voteK d s (runK k0 rs) t v).2.1 (voteK d s (runK k0 rs) t v).2.2.1 k0 rs' (chgL lst (voteE (runK k0 rs) t v).2 (voteE (runK k0 rs) t v).1 false) := by
  by_cases hbad : t < 0 ∨ t < (runK k0 rs).term ∨ v < -1
  · have e1 : voteK d s (runK k0 rs) t v = (1, d, s, runK k0 rs) := by unfold voteK; rw [if_pos hbad]
    have e2 : voteE (runK k0 rs) t v = (1, runK k0 rs) := by unfold voteE; rw [if_pos hbad]
    rw [e1, e2]
    exact ⟨rfl, rfl, rs, rfl, h.more (Nat.le_refl _) (by omega)⟩
  · obtain ⟨a1, a2, a3⟩ := h.kd.app (b := 0) hN (r := .vote t v) ⟨ht, hv⟩ (by have := recV_length t v; show (recV t v).length ≤ _; omega) (by omega) ((h.kd.now.vote ht hv).le (by omega) (by omega)) (by omega) (runK k0 rs)
    have e2 : voteE (runK k0 rs) t v = (0, RecK.run (runK k0 rs) (.vote t v)) := by unfold voteE; rw [if_neg hbad]; rfl
    have e1 : voteK d s (runK k0 rs) t v = (0, (appK d s (runK k0 rs) (RecK.enc (.vote t v))).2.1, (appK d s (runK k0 rs) (RecK.enc (.vote t v))).2.2, RecK.run (runK k0 rs) (.vote t v)) := by
      unfold voteK
      rw [if_neg hbad, if_neg (by rw [show recV t v = RecK.enc (.vote t v) from rfl, a1]; simp)]
      rfl
    rw [e1, e2, ← runK_snoc]
    exact ⟨rfl, rfl, _, rfl, h.snoc (Nat.le_refl _) a2 a3⟩
theorem KdL.put {n B N : Nat} {d : D} {s : St} {k0 : KP} {rs : List RecK} {lst : List KP} (h : KdL n B N d s k0 rs lst) (hN : N ≤ 100000) {i t : Int} {l : List Int} (ht : I64 t) (hl : Byt l) {b : Nat} (hb : min l.length 300000 ≤ b) (hfit : 2 * (B + b) + 100 * (N + 1) + 100 ≤ (n - 2) / 2 * 55) :
    (putK d s (runK k0 rs) i t l).1 = (putR (runK k0 rs) i t l).1 ∧ (putK d s (runK k0 rs) i t l).2.2.2 = (putR (runK k0 rs) i t l).2 ∧
      ∃ rs', (putR (runK k0 rs) i t l).2 = runK k0 rs' ∧ KdL n (B + b) (N + 1) (putK d s (runK k0 rs) i t l).2.1 (putK d s (runK k0 rs) i t l).2.2.1 k0 rs' (chgL lst (putR (runK k0 rs) i t l).2 (putR (runK k0 rs) i t l).1 false) := by
  by_cases hbad : i ≤ (runK k0 rs).base ∨ (runK k0 rs).last + 1 < i ∨ t < 0 ∨ 60000 < l.length
  · have e1 : putK d s (runK k0 rs) i t l = (1, d, s, runK k0 rs) := by unfold putK; rw [if_pos hbad]
    have e2 : putR (runK k0 rs) i t l = (1, runK k0 rs) := by unfold putR; rw [if_pos hbad]
    rw [e1, e2]
    exact ⟨rfl, rfl, rs, rfl, h.more (by omega) (by omega)⟩
  · have hll : l.length ≤ 60000 := by omega
    have hel := h.kd.now.el
    obtain ⟨a1, a2, a3⟩ := h.kd.app (b := l.length) hN (r := .put i t l) ⟨by omega, by omega, ht, hl, hll, by omega⟩ (by have := recP_length i t l; show (recP i t l).length ≤ _; omega) hll (h.kd.now.put (by omega) ht hl hll) (by omega) (runK k0 rs)
    have e2 : putR (runK k0 rs) i t l = (0, RecK.run (runK k0 rs) (.put i t l)) := by unfold putR; rw [if_neg hbad]; rfl
    have e1 : putK d s (runK k0 rs) i t l = (0, (appK d s (runK k0 rs) (RecK.enc (.put i t l))).2.1, (appK d s (runK k0 rs) (RecK.enc (.put i t l))).2.2, RecK.run (runK k0 rs) (.put i t l)) := by
      unfold putK
      rw [if_neg hbad, if_neg (by rw [show recP i t l = RecK.enc (.put i t l) from rfl, a1]; simp)]
      rfl
    rw [e1, e2, ← runK_snoc]
    exact ⟨rfl, rfl, _, rfl, h.snoc (by omega) (a2.more (by omega) (Nat.le_refl _)) a3⟩
theorem KdL.reset {n B N : Nat} {d : D} {s : St} {k0 : KP} {rs : List RecK} {lst : List KP} (h : KdL n B N d s k0 rs lst) (hN : N ≤ 100000) {i t : Int} {l : List Int} (ht : I64 t) (hl : Byt l) {b : Nat} (hb : min l.length 300000 ≤ b) (hp : B + b + 18 * (N + 1) + 54 ≤ 524288) (hfit : 2 * (B + b) + 100 * (N + 1) + 100 ≤ (n - 2) / 2 * 55) :
    (resetK d s (runK k0 rs) i t l).1 = (resetR (runK k0 rs) i t l).1 ∧ (resetK d s (runK k0 rs) i t l).2.2.2 = (resetR (runK k0 rs) i t l).2 ∧
      ∃ k0' rs', (resetR (runK k0 rs) i t l).2 = runK k0' rs' ∧ KdL n (B + b) (N + 1) (resetK d s (runK k0 rs) i t l).2.1 (resetK d s (runK k0 rs) i t l).2.2.1 k0' rs' (chgL lst (resetR (runK k0 rs) i t l).2 (resetR (runK k0 rs) i t l).1 true) := by
  by_cases hbad : i ≤ (runK k0 rs).base ∨ 1152921504606846976 < i ∨ t < 0
  · have e1 : resetK d s (runK k0 rs) i t l = (1, d, s, runK k0 rs) := by unfold resetK; rw [if_pos hbad]
    have e2 : resetR (runK k0 rs) i t l = (1, runK k0 rs) := by unfold resetR; rw [if_pos hbad]
    rw [e1, e2]
    exact ⟨rfl, rfl, k0, rs, rfl, h.more (by omega) (by omega)⟩
  · by_cases hlong : 262144 < l.length
    · have e1 : resetK d s (runK k0 rs) i t l = (3, d, s, runK k0 rs) := by unfold resetK; rw [if_neg hbad, if_pos hlong]
      have e2 : resetR (runK k0 rs) i t l = (3, runK k0 rs) := by unfold resetR; rw [if_neg hbad, if_pos hlong]
      rw [e1, e2]
      exact ⟨rfl, rfl, k0, rs, rfl, h.more (by omega) (by omega)⟩
    · have hs := (h.kd.now.reset (i := i) (t := t) (l := l) (by omega) (by omega) ht hl (by omega)).le (B' := B + b) (N' := N + 1) (by omega) (by omega)
      obtain ⟨a1, a2, a3⟩ := h.kd.check hN hs (Nat.le_refl _) hp (by omega)
      have e2 : resetR (runK k0 rs) i t l = (0, resetE (runK k0 rs) i t l) := by unfold resetR; rw [if_neg hbad, if_neg hlong]
      have e1 : resetK d s (runK k0 rs) i t l = (0, (ckS d s (resetE (runK k0 rs) i t l).pack).2.1, (ckS d s (resetE (runK k0 rs) i t l).pack).2.2, resetE (runK k0 rs) i t l) := by
        unfold resetK
        rw [if_neg hbad, if_neg hlong, if_neg (by rw [a1]; simp)]
      rw [e1, e2]
      exact ⟨rfl, rfl, _, [], rfl, KdL.one a2 a3⟩
theorem KdL.sync {n B N : Nat} {d : D} {s : St} {k0 : KP} {rs : List RecK} {lst : List KP} (h : KdL n B N d s k0 rs lst) : KdL n B N d.calm { s with safe := s.count } k0 rs [runK k0 rs] :=
  KdL.one h.kd.sync.1 h.kd.sync.2
/-- A crash: what is open again stands in the list. -/
theorem KdL.lost {n B N : Nat} {d : D} {s : St} {k0 : KP} {rs : List RecK} {lst : List KP} (h : KdL n B N d s k0 rs lst) (hw : d.wf) (hN : N ≤ 100000) (hp : B + 18 * N + 54 ≤ 1000000000) (keep : Nat) :
    ∃ rs', OpenOk ⟨undo d keep, []⟩ k0 rs' ∧ runK k0 rs' ∈ lst ∧ KdL n B (N + 1) (D.calm ⟨undo d keep, []⟩) (openS ⟨undo d keep, []⟩) k0 rs' [runK k0 rs'] := by
  obtain ⟨j, j1, j2, h1, h2, h3⟩ := h.kd.lost hw hN hp keep
  exact ⟨_, h1, h.all j j1 j2, KdL.one h2 (by rw [h3, List.length_take]; exact (Nat.min_eq_left j2).symm)⟩
end Go.Fur
