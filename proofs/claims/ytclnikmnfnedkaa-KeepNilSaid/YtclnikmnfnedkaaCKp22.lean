/- A keep on a new disk: begin. -/
import Derived.Test.YtclnikmnfnedkaaCKp19
namespace Go.Fur
open Go Go.RowKit Go.Proofs
set_option linter.unusedVariables false
set_option linter.unusedSimpArgs false
theorem KdP.new (n : Nat) : OpenOk (D.new n) KP.new [] ∧ KdP n 0 0 (D.new n).calm (openS (D.new n)) KP.new [] ∧ (openS (D.new n)).safe = 0 := by
  obtain ⟨L', i, tail, g1, g2, g3⟩ := desk_open (good_new n) (fun b hb => by rw [List.eq_of_mem_replicate hb]; simp) (by omega) (by simp [encs])
  have hos : openS (D.new n) = ⟨1, L', tail, i, 0, 0⟩ := by unfold openS; rw [g2]; rfl
  refine ⟨⟨.inr ⟨by rw [g2], rfl⟩, KP.new_wf, by rw [g2]; rfl, trivial⟩, ?_, by rw [hos]⟩
  rw [hos]
  refine ⟨⟨false, [], g3, .inr ⟨rfl, rfl, rfl⟩, by simp [encs]⟩, by dsimp only; omega, by dsimp only; omega, by simp [D.calm], by simp, fun j => by rw [List.take_nil]; exact Small.new, trivial, by simp [D.calm, D.new]⟩
theorem stp_fr {F : Nat → Prop} {w w1 w2 : World} (f : Fr [] w w1) (st : Stp F w1 w2) (hF : ∀ b, F b → w.heap.size ≤ b) : Fr [] w w2 := by
  obtain ⟨S, g, hS⟩ := st
  have := f.size
  exact f.trans g (fun b hb hlt => by
    rcases hS b hb with h | h
    · have := hF b h; omega
    · omega)
/-- Made in two calls: a new disk, and a keep on it. -/
def OnNew (w : World) (n p K M : Nat) (w' : World) : Prop := ∃ F base bb q lv tl vs ve d s, w.heap.size ≤ base ∧ base ≤ w'.heap.size ∧ KpAt w' F base K p bb q lv tl vs ve d s KP.new ∧ KdP n 0 0 d s KP.new [] ∧ s.safe = 0 ∧ Fr [] w w' ∧ ∀ b, F b → b < M
theorem onNew_calls {w w0 : World} (f0 : Fr [] w w0) (n : Nat) (h1 : 1 ≤ n) (h2 : n ≤ 65536) :
    Calls Try.prog 26 #[.int .i64 n] w0 fun e w1 => ∃ p, e = .returned (.tuple #[.pointer (some ⟨p, 0, none⟩), .int .i64 0]) ∧ Fr [] w w1 ∧
      ∀ w2, Fr [] w1 w2 → Calls Try.prog 14 #[.pointer (some ⟨p, 0, none⟩)] w2 fun e w3 => ∃ K, e = .returned (.tuple #[.pointer (some ⟨K, 0, none⟩), .int .i64 0]) ∧ OnNew w n p K w3.heap.size w3 := by
  refine (new_calls w0 n h1 h2).mono ?_
  rintro e w1 ⟨rfl, D1, F1⟩
  refine ⟨_, rfl, f0.trans0 F1, fun w2 f12 => ?_⟩
  have D2 : DiskAt w2 w.heap.size (w0.heap.size + 1) w0.heap.size (.slice none 0 0) (D.new n) := (DiskAt.fr0 D1 f12).wbase f0.size
  obtain ⟨h3, h4, h5⟩ := KdP.new n
  refine (kopen_calls (F0 := fun b => b ∈ (w0.heap.size + 1) :: w0.heap.size :: ob (.slice none 0 0)) D2 (D.new_byt n) h3 (fun b hb => hb) (fun b hb => ⟨D2.ge b hb, D2.lt b hb⟩) ((f0.trans0 F1).trans0 f12).size).mono ?_
  rintro e w3 ⟨K, q, tl, vs, ve, rfl, hK, st⟩
  exact ⟨K, rfl, _, _, _, q, _, tl, vs, ve, _, _, Nat.le_refl _, Nat.le_trans ((f0.trans0 F1).trans0 f12).size st.size, hK, h4, h5, stp_fr ((f0.trans0 F1).trans0 f12) st (fun b hb => D2.ge b hb), fun b hb => (hK.fl b hb).2⟩
theorem desk_size : (Try.prog.info? 30).map (·.size) = some 3 := by kernel_rfl
def zD : List Value := [.pointer none, .pointer none, .slice none 0 0]
theorem desk_zero : ∀ w, (zeroValue 30).run Try.prog w = .ok (.agg zD.toArray) w := fun w => by kernel_rfl
theorem desk_build (p K : Nat) (a : Option Addr) (n c : Nat) : ∀ W, (Instr.build 30 #[(0, .pointer (some ⟨p, 0, none⟩)), (1, .pointer (some ⟨K, 0, none⟩)), (2, .slice a n c)]).run Try.prog W = .ok (.agg #[.pointer (some ⟨p, 0, none⟩), .pointer (some ⟨K, 0, none⟩), .slice a n c]) W := fun W => by kernel_rfl
set_option maxRecDepth 100000 in
set_option maxHeartbeats 4000000 in
theorem begin_calls (w : World) : Calls Try.prog 8 #[] w fun e w' => ∃ p K g M, e = .returned (.tuple #[.agg #[.pointer (some ⟨p, 0, none⟩), .pointer (some ⟨K, 0, none⟩), .slice (some ⟨g, 0, none⟩) 1 1], .bool true]) ∧ OnNew w 65536 p K M w' ∧ Blk w' g 39 (refC KP.new (.slice none 0 0) (.slice none 0 0)) ∧ w.heap.size ≤ g ∧ M ≤ g := by
  go_enter Try.func8, Try.ntmps8
  go_upto_region 1 with (refine wpList_allocZ rfl 30 rfl zD desk_zero ?_; intro w1 B1 F1 S1; have HB1 := Lib.hid B1; have HF1 := Lib.hid F1; clear B1 F1 S1)
  go_wp2_with fail
  refine (onNew_calls (Fr.refl [] w1) 65536 (by omega) (by omega)).mono ?_
  rintro e w2 ⟨p, rfl, hF2, hO⟩
  have HO := Lib.hid hO
  have HF2 := Lib.hid hF2
  clear hO hF2
  dsimp only
  go_wp2_with fail
  refine (HO.out w2 (Fr.refl _ _)).mono ?_
  rintro e w3 ⟨K, rfl, F, base, bb, q, lv, tl, vs, ve, d, s, hba, hbb, hK, hP, hs0, hF3, hFM⟩
  have HK := Lib.hid hK
  have HP := Lib.hid (And.intro hP (And.intro hs0 hF3))
  have HBA := Lib.hid (And.intro hba hbb)
  clear hK hP hs0 hF3 hba hbb
  dsimp only
  go_wp2_with fail
  refine (now_calls (Y' := F) HK.out.rd (by simp [KP.new]) (fun b hb => (HK.out.fl b hb).2)).mono ?_
  rintro e w4 ⟨cs4, rfl, hR4, hF4⟩
  have HR4 := Lib.hid hR4
  obtain ⟨vs4, ve4, rfl, hs4, he4⟩ := hR4
  have ho1 := hs4.one
  have ho2 := he4.one
  have HF4 := Lib.hid (HP.out.2.2.trans0 hF4)
  have HF34 := Lib.hid hF4
  clear hs4 he4 hF4
  dsimp only
  go_upto_region 6 with (first
    | (refine wpList_allocZ rfl 39 rfl zR rkeep_zero ?_; intro w5 B5 F5 S5; have HB5 := Lib.hid B5; have HF5 := Lib.hid F5; clear B5 F5 S5)
    | (refine wpList_storeB rfl 39 _ _ rfl w4.heap.size 0 (refC KP.new vs4 ve4) (by rfl) (by rfl) 39 _ HB5.out (by simp [refC, zR]) (by exact rkeep_size) (refC_one ho1 ho2) ?_; intro w6 B6 F6 S6; rw [splice_all _ _ (by rfl)] at B6; have HB6 := Lib.hid B6; have HF6 := Lib.hid F6; clear B6 F6 S6)
    | fail)
  have f46 : Fr [] w4 w6 := HF5.out.trans HF6.out (fun b hb hlt => by rw [List.mem_singleton.1 hb] at hlt; omega)
  have HR6 := Lib.hid (HR4.out.fr0 f46)
  have HD6 := Lib.hid (((HB1.out.fr HP.out.2.2 (by simp)).fr HF34.out (by simp)).fr f46 (by simp))
  have HF46 := Lib.hid f46
  have hzz1 := HB1.out.lt
  have hzz2 := (HF4.out.trans0 f46).size
  clear f46
  have d0 : ∀ W, Fr [] w6 W → W.cell? ⟨w4.heap.size, 0, none⟩ = some (.int .i64 KP.new.term) := fun W f => (HB6.out.fr f (by simp)).cellAt rfl
  have d1 : ∀ W, Fr [] w6 W → W.cell? ⟨w4.heap.size, 1, none⟩ = some (.int .i64 KP.new.vote) := fun W f => (HB6.out.fr f (by simp)).cellAt rfl
  have d2 : ∀ W, Fr [] w6 W → W.cell? ⟨w4.heap.size, 2, none⟩ = some (.int .i64 KP.new.base) := fun W f => (HB6.out.fr f (by simp)).cellAt rfl
  have d3 : ∀ W, Fr [] w6 W → W.cell? ⟨w4.heap.size, 3, none⟩ = some (.int .i64 KP.new.bt) := fun W f => (HB6.out.fr f (by simp)).cellAt rfl
  have d4 : ∀ W, Fr [] w6 W → W.cell? ⟨w4.heap.size, 4, none⟩ = some vs4 := fun W f => (HB6.out.fr f (by simp)).cellAt rfl
  have d5 : ∀ W, Fr [] w6 W → W.cell? ⟨w4.heap.size, 5, none⟩ = some ve4 := fun W f => (HB6.out.fr f (by simp)).cellAt rfl
  go_cut [1] from 33 to 43 (fun v wx => v = .bool true ∧ ∃ g, Blk wx w.heap.size 30 [.pointer (some ⟨p, 0, none⟩), .pointer (some ⟨K, 0, none⟩), .slice (some ⟨g, 0, none⟩) 1 1] ∧ Blk wx g 39 (refC KP.new (.slice none 0 0) (.slice none 0 0)) ∧ (w.heap.size ≤ g ∧ w6.heap.size ≤ g) ∧ ∃ S, Fr S w6 wx ∧ ∀ b ∈ S, b = w.heap.size)
  case first =>
    refine wp_region_tree (Fr [] w6) (seqT [0,1,5,2,6,7] (.two 3 (.one 4 (.one 8 (.one 9 (.one 10 (.one 11 (.one 12 .done)))))) 8 (.two 3 (.one 4 (.one 9 (.one 10 (.one 11 (.one 12 .done))))) 9 (.one 10 (.one 3 (.one 4 (.one 11 (.one 12 .done)))))))) [11] [2, 3, 8, 9, 11] [7] mixed15 (by kernel_rfl) ?_
    have hS : Fr [] w6 w6.drew := (Fr.refl _ _).drew
    simp only [seqT, List.foldr]
    repeat (first | (refine wpT_free ?_ (by rfl) (by rfl) (fun w' => ?_) ?_; rotate_left; (simp only [pickN]; go_simp; rfl); simp only [pickN, Act.put, List.setIfInBounds_toArray, List.set_cons_zero, List.set_cons_succ]) | (refine wpT_take ?_ hS (by rfl) (by rfl) (fun w' hw' => ?_) ?_; rotate_left; (simp only [pickN]; go_simp; rfl); simp only [pickN, Act.put, List.setIfInBounds_toArray, List.set_cons_zero, List.set_cons_succ]))
    refine wpT_eff (by rfl) ?_
    refine wpList_callC rfl 27 #[] (by simp only [pickN]; first | (go_simp; done) | (go_simp; rfl)) _ (rnew_calls _) ?_
    rintro e v2 ⟨rfl, f2⟩
    have g2 : Fr [] w6 v2 := hS.trans0 f2
    refine ⟨_, rfl, effT_keep g2 ?_⟩
    simp only [pickN, Act.put, List.setIfInBounds_toArray, List.set_cons_zero, List.set_cons_succ]
    have hS := g2
    repeat (first | (refine wpT_free ?_ (by rfl) (by rfl) (fun w' => ?_) ?_; rotate_left; (simp only [pickN]; go_simp; rfl); simp only [pickN, Act.put, List.setIfInBounds_toArray, List.set_cons_zero, List.set_cons_succ]) | (refine wpT_take ?_ hS (by rfl) (by rfl) (fun w' hw' => ?_) ?_; rotate_left; (simp only [pickN]; go_simp; rfl); simp only [pickN, Act.put, List.setIfInBounds_toArray, List.set_cons_zero, List.set_cons_succ]))
    refine wpT_two ?_ ?_
    · refine wpList_buildSlice1 rfl 28 39 _ rfl zR 6 80 Try.underlying28 info_rkeep (by simp [zR]) (by omega) (by omega) _ (refC KP.new (.slice none 0 0) (.slice none 0 0)) (by rfl) (by rfl) (by simp [refC]) ?_
      intro v3 B3 f3 s3
      have g3 : Fr [] w6 v3 := (g2).trans0 f3
      refine effT_keep g3 ?_
      clear s3
      simp only [pickN, Act.put, List.setIfInBounds_toArray, List.set_cons_zero, List.set_cons_succ]
      repeat (first | (refine wpT_free ?_ (by rfl) (by rfl) (fun w' => ?_) ?_; rotate_left; (simp only [pickN]; go_simp; rfl); simp only [pickN, Act.put, List.setIfInBounds_toArray, List.set_cons_zero, List.set_cons_succ]) | (refine wpT_take ?_ hS (by rfl) (by rfl) (fun w' hw' => ?_) ?_; rotate_left; (simp only [pickN]; go_simp; rfl); simp only [pickN, Act.put, List.setIfInBounds_toArray, List.set_cons_zero, List.set_cons_succ]))
      refine wpT_eff (by rfl) ?_
      refine wpList_callW (by rfl) 27 #[] (by simp only [pickN]; first | (go_simp; done) | (go_simp; rfl)) _ (rnew_calls _) ?_
      rintro e v8 ⟨rfl, f8⟩
      have g8 : Fr [] w6 v8 := (g3).trans0 f8
      refine ⟨_, rfl, effT_keep g8 ?_⟩
      simp only [pickN, Act.put, List.setIfInBounds_toArray, List.set_cons_zero, List.set_cons_succ]
      refine wpT_eff (by rfl) ?_
      refine wpList_callW (by rfl) 15 #[.agg (refC KP.new vs4 ve4).toArray, .agg (refC KP.new (.slice none 0 0) (.slice none 0 0)).toArray] (by simp only [pickN]; first | (go_simp; done) | (go_simp; rfl)) _ (rsame_calls (HR6.out.fr0 g8) (RefL.nil _ (fun _ => False)) KP.new_wf KP.new_wf) ?_
      rintro e v9 ⟨rfl, f9⟩
      have g9 : Fr [] w6 v9 := (g8).trans0 f9
      refine ⟨_, rfl, effT_keep g9 ?_⟩
      rw [show decide (KP.new = KP.new) = true from by simp]
      simp only [pickN, Act.put, List.setIfInBounds_toArray, List.set_cons_zero, List.set_cons_succ]
      repeat (first | (refine wpT_free ?_ (by rfl) (by rfl) (fun w' => ?_) ?_; rotate_left; (simp only [pickN]; go_simp; rfl); simp only [pickN, Act.put, List.setIfInBounds_toArray, List.set_cons_zero, List.set_cons_succ]) | (refine wpT_take ?_ hS (by rfl) (by rfl) (fun w' hw' => ?_) ?_; rotate_left; (simp only [pickN]; go_simp; rfl); simp only [pickN, Act.put, List.setIfInBounds_toArray, List.set_cons_zero, List.set_cons_succ]))
      refine wpT_eff (by rfl) ?_
      refine wpList_storeB rfl 30 _ _ rfl w.heap.size 0 [.pointer (some ⟨p, 0, none⟩), .pointer (some ⟨K, 0, none⟩), .slice (some ⟨v2.heap.size, 0, none⟩) 1 1] (by rfl) (by rfl) 30 _ (HD6.out.fr g9 (by simp)) (by simp [zD]) (by exact desk_size) (by simp [Value.oneCell']) ?_
      intro v11 B11 f11 s11
      rw [splice_all _ _ (by rfl)] at B11
      refine effT_skip (by decide) ?_
      simp only [pickN, Act.put, List.setIfInBounds_toArray, List.set_cons_zero, List.set_cons_succ]
      repeat (first | (refine wpT_free ?_ (by rfl) (by rfl) (fun w' => ?_) ?_; rotate_left; (simp only [pickN]; go_simp; rfl); simp only [pickN, Act.put, List.setIfInBounds_toArray, List.set_cons_zero, List.set_cons_succ]) | (refine wpT_take ?_ hS (by rfl) (by rfl) (fun w' hw' => ?_) ?_; rotate_left; (simp only [pickN]; go_simp; rfl); simp only [pickN, Act.put, List.setIfInBounds_toArray, List.set_cons_zero, List.set_cons_succ]))
      refine wpT_done ?_
      have hz6 := (g9).size
      have hG := Lib.hid (And.intro B11 (And.intro ((((B3.fr f8 (by simp)).fr f9 (by simp))).fr f11 (fun hm => (((B3.fr f8 (by simp)).fr f9 (by simp))).ne (HD6.out.fr g9 (by simp)) (by decide) (List.mem_singleton.1 hm))) (show Fr [w.heap.size] w6 v11 from (g9).ext.trans1 f11)))
      clear B11 f11 s11
      go_wp2_with fail
      go_meet
      have hgs := (g2).size
      exact ⟨rfl, _, hG.out.1, hG.out.2.1, ⟨by omega, by omega⟩, _, hG.out.2.2, fun b hb => List.mem_singleton.1 hb⟩
    · refine wpList_callW (by rfl) 27 #[] (by simp only [pickN]; first | (go_simp; done) | (go_simp; rfl)) _ (rnew_calls _) ?_
      rintro e v8 ⟨rfl, f8⟩
      have g8 : Fr [] w6 v8 := (g2).trans0 f8
      refine ⟨_, rfl, effT_keep g8 ?_⟩
      simp only [pickN, Act.put, List.setIfInBounds_toArray, List.set_cons_zero, List.set_cons_succ]
      refine wpT_two ?_ ?_
      · refine wpList_buildSlice1 rfl 28 39 _ rfl zR 6 80 Try.underlying28 info_rkeep (by simp [zR]) (by omega) (by omega) _ (refC KP.new (.slice none 0 0) (.slice none 0 0)) (by rfl) (by rfl) (by simp [refC]) ?_
        intro v3 B3 f3 s3
        have g3 : Fr [] w6 v3 := (g8).trans0 f3
        refine effT_keep g3 ?_
        clear s3
        simp only [pickN, Act.put, List.setIfInBounds_toArray, List.set_cons_zero, List.set_cons_succ]
        repeat (first | (refine wpT_free ?_ (by rfl) (by rfl) (fun w' => ?_) ?_; rotate_left; (simp only [pickN]; go_simp; rfl); simp only [pickN, Act.put, List.setIfInBounds_toArray, List.set_cons_zero, List.set_cons_succ]) | (refine wpT_take ?_ hS (by rfl) (by rfl) (fun w' hw' => ?_) ?_; rotate_left; (simp only [pickN]; go_simp; rfl); simp only [pickN, Act.put, List.setIfInBounds_toArray, List.set_cons_zero, List.set_cons_succ]))
        refine wpT_eff (by rfl) ?_
        refine wpList_callW (by rfl) 15 #[.agg (refC KP.new vs4 ve4).toArray, .agg (refC KP.new (.slice none 0 0) (.slice none 0 0)).toArray] (by simp only [pickN]; first | (go_simp; done) | (go_simp; rfl)) _ (rsame_calls (HR6.out.fr0 g3) (RefL.nil _ (fun _ => False)) KP.new_wf KP.new_wf) ?_
        rintro e v9 ⟨rfl, f9⟩
        have g9 : Fr [] w6 v9 := (g3).trans0 f9
        refine ⟨_, rfl, effT_keep g9 ?_⟩
        rw [show decide (KP.new = KP.new) = true from by simp]
        simp only [pickN, Act.put, List.setIfInBounds_toArray, List.set_cons_zero, List.set_cons_succ]
        repeat (first | (refine wpT_free ?_ (by rfl) (by rfl) (fun w' => ?_) ?_; rotate_left; (simp only [pickN]; go_simp; rfl); simp only [pickN, Act.put, List.setIfInBounds_toArray, List.set_cons_zero, List.set_cons_succ]) | (refine wpT_take ?_ hS (by rfl) (by rfl) (fun w' hw' => ?_) ?_; rotate_left; (simp only [pickN]; go_simp; rfl); simp only [pickN, Act.put, List.setIfInBounds_toArray, List.set_cons_zero, List.set_cons_succ]))
        refine wpT_eff (by rfl) ?_
        refine wpList_storeB rfl 30 _ _ rfl w.heap.size 0 [.pointer (some ⟨p, 0, none⟩), .pointer (some ⟨K, 0, none⟩), .slice (some ⟨v8.heap.size, 0, none⟩) 1 1] (by rfl) (by rfl) 30 _ (HD6.out.fr g9 (by simp)) (by simp [zD]) (by exact desk_size) (by simp [Value.oneCell']) ?_
        intro v11 B11 f11 s11
        rw [splice_all _ _ (by rfl)] at B11
        refine effT_skip (by decide) ?_
        simp only [pickN, Act.put, List.setIfInBounds_toArray, List.set_cons_zero, List.set_cons_succ]
        repeat (first | (refine wpT_free ?_ (by rfl) (by rfl) (fun w' => ?_) ?_; rotate_left; (simp only [pickN]; go_simp; rfl); simp only [pickN, Act.put, List.setIfInBounds_toArray, List.set_cons_zero, List.set_cons_succ]) | (refine wpT_take ?_ hS (by rfl) (by rfl) (fun w' hw' => ?_) ?_; rotate_left; (simp only [pickN]; go_simp; rfl); simp only [pickN, Act.put, List.setIfInBounds_toArray, List.set_cons_zero, List.set_cons_succ]))
        refine wpT_done ?_
        have hz6 := (g9).size
        have hG := Lib.hid (And.intro B11 (And.intro (((B3.fr f9 (by simp))).fr f11 (fun hm => ((B3.fr f9 (by simp))).ne (HD6.out.fr g9 (by simp)) (by decide) (List.mem_singleton.1 hm))) (show Fr [w.heap.size] w6 v11 from (g9).ext.trans1 f11)))
        clear B11 f11 s11
        go_wp2_with fail
        go_meet
        have hgs := (g8).size
        exact ⟨rfl, _, hG.out.1, hG.out.2.1, ⟨by omega, by omega⟩, _, hG.out.2.2, fun b hb => List.mem_singleton.1 hb⟩
      · refine wpList_callW (by rfl) 15 #[.agg (refC KP.new vs4 ve4).toArray, .agg (refC KP.new (.slice none 0 0) (.slice none 0 0)).toArray] (by simp only [pickN]; first | (go_simp; done) | (go_simp; rfl)) _ (rsame_calls (HR6.out.fr0 g8) (RefL.nil _ (fun _ => False)) KP.new_wf KP.new_wf) ?_
        rintro e v9 ⟨rfl, f9⟩
        have g9 : Fr [] w6 v9 := (g8).trans0 f9
        refine ⟨_, rfl, effT_keep g9 ?_⟩
        rw [show decide (KP.new = KP.new) = true from by simp]
        simp only [pickN, Act.put, List.setIfInBounds_toArray, List.set_cons_zero, List.set_cons_succ]
        repeat (first | (refine wpT_free ?_ (by rfl) (by rfl) (fun w' => ?_) ?_; rotate_left; (simp only [pickN]; go_simp; rfl); simp only [pickN, Act.put, List.setIfInBounds_toArray, List.set_cons_zero, List.set_cons_succ]) | (refine wpT_take ?_ hS (by rfl) (by rfl) (fun w' hw' => ?_) ?_; rotate_left; (simp only [pickN]; go_simp; rfl); simp only [pickN, Act.put, List.setIfInBounds_toArray, List.set_cons_zero, List.set_cons_succ]))
        refine wpT_eff (by rfl) ?_
        refine wpList_buildSlice1 rfl 28 39 _ rfl zR 6 80 Try.underlying28 info_rkeep (by simp [zR]) (by omega) (by omega) _ (refC KP.new (.slice none 0 0) (.slice none 0 0)) (by rfl) (by rfl) (by simp [refC]) ?_
        intro v3 B3 f3 s3
        have g3 : Fr [] w6 v3 := (g9).trans0 f3
        refine effT_keep g3 ?_
        clear s3
        simp only [pickN, Act.put, List.setIfInBounds_toArray, List.set_cons_zero, List.set_cons_succ]
        repeat (first | (refine wpT_free ?_ (by rfl) (by rfl) (fun w' => ?_) ?_; rotate_left; (simp only [pickN]; go_simp; rfl); simp only [pickN, Act.put, List.setIfInBounds_toArray, List.set_cons_zero, List.set_cons_succ]) | (refine wpT_take ?_ hS (by rfl) (by rfl) (fun w' hw' => ?_) ?_; rotate_left; (simp only [pickN]; go_simp; rfl); simp only [pickN, Act.put, List.setIfInBounds_toArray, List.set_cons_zero, List.set_cons_succ]))
        refine wpT_eff (by rfl) ?_
        refine wpList_storeB rfl 30 _ _ rfl w.heap.size 0 [.pointer (some ⟨p, 0, none⟩), .pointer (some ⟨K, 0, none⟩), .slice (some ⟨v9.heap.size, 0, none⟩) 1 1] (by rfl) (by rfl) 30 _ (HD6.out.fr g3 (by simp)) (by simp [zD]) (by exact desk_size) (by simp [Value.oneCell']) ?_
        intro v11 B11 f11 s11
        rw [splice_all _ _ (by rfl)] at B11
        refine effT_skip (by decide) ?_
        simp only [pickN, Act.put, List.setIfInBounds_toArray, List.set_cons_zero, List.set_cons_succ]
        repeat (first | (refine wpT_free ?_ (by rfl) (by rfl) (fun w' => ?_) ?_; rotate_left; (simp only [pickN]; go_simp; rfl); simp only [pickN, Act.put, List.setIfInBounds_toArray, List.set_cons_zero, List.set_cons_succ]) | (refine wpT_take ?_ hS (by rfl) (by rfl) (fun w' hw' => ?_) ?_; rotate_left; (simp only [pickN]; go_simp; rfl); simp only [pickN, Act.put, List.setIfInBounds_toArray, List.set_cons_zero, List.set_cons_succ]))
        refine wpT_done ?_
        have hz6 := (g3).size
        have hG := Lib.hid (And.intro B11 (And.intro ((B3).fr f11 (fun hm => (B3).ne (HD6.out.fr g3 (by simp)) (by decide) (List.mem_singleton.1 hm))) (show Fr [w.heap.size] w6 v11 from (g3).ext.trans1 f11)))
        clear B11 f11 s11
        go_wp2_with fail
        go_meet
        have hgs := (g9).size
        exact ⟨rfl, _, hG.out.1, hG.out.2.1, ⟨by omega, by omega⟩, _, hG.out.2.2, fun b hb => List.mem_singleton.1 hb⟩
  obtain ⟨rfl, g, hbD, hbG, hg, S, hS, hSx⟩ := hcut
  have HC := Lib.hid (And.intro hbD (And.intro hbG (And.intro hg (And.intro hS hSx))))
  clear hbD hbG hg hS hSx d0 d1 d2 d3 d4 d5
  go_wp2_with fail
  have fC : Fr S w3 wc := ((HF34.out.trans0 HF46.out).ext).trans1 HC.out.2.2.2.1
  have hKc := HK.out.fr fC (fun b hb hF => by have h1 := HC.out.2.2.2.2 b hb; have h2 := (HK.out.fl b hF).1; have h3 := HBA.out.1; omega)
  have fW : Fr [] w wc := ((HF1.out.trans0 HF4.out).trans0 HF46.out).trans HC.out.2.2.2.1 (fun b hb hlt => by have h1 := HC.out.2.2.2.2 b hb; omega)
  have hz3 := fC.size
  exact bodyPost_ret (results_cellB_tmp rfl _ _ w.heap.size 30 _ _ (by rfl) HC.out.1 Try.underlying30 rfl (by exact desk_size)) rfl ⟨p, K, g, w3.heap.size, by rfl, ⟨F, base, bb, q, lv, tl, vs, ve, d, s, by have := HBA.out.1; omega, by have := HBA.out.2; omega, hKc, HP.out.1, HP.out.2.1, fW, fun b hb => (HK.out.fl b hb).2⟩, HC.out.2.1, HC.out.2.2.1.1, by have h8 := HC.out.2.2.1.2; have h9 := (HF34.out.trans0 HF46.out).size; omega⟩
end Go.Fur
namespace Go.Fur
open Go Go.RowKit Go.Proofs
set_option linter.unusedVariables false
set_option linter.unusedSimpArgs false
/-- The desk at x on the disk p; all that is written lies behind W. -/
def Dk16 (W : World) (n B N x p : Nat) (w : World) : Prop :=
  ∃ K k0 rs lst F base bb q lv tl vs ve d s, (W.heap.size ≤ base ∧ base ≤ w.heap.size ∧ W.heap.size ≤ x ∧ Fr [] W w) ∧ KpAt w F base K p bb q lv tl vs ve d s (runK k0 rs) ∧ KdL n B N d s k0 rs lst ∧ DeskL w F x p K lst
theorem Dk16.fr0 {W w w' : World} {n B N x p : Nat} (h : Dk16 W n B N x p w) (f : Fr [] w w') : Dk16 W n B N x p w' := by
  obtain ⟨K, k0, rs, lst, F, base, bb, q, lv, tl, vs, ve, d, s, h1, h2, h3, h4⟩ := h
  have := f.size
  exact ⟨K, k0, rs, lst, F, base, bb, q, lv, tl, vs, ve, d, s, ⟨h1.1, by omega, h1.2.2.1, h1.2.2.2.trans0 f⟩, h2.fr0 f, h3, h4.step f (by simp) (fun b hb => .inl hb)⟩
theorem meas3 {n j : Nat} (h : j < n) : n - (intOf (.int .i64 ((j : Int) + 1))).toNat < n - (intOf (.int .i64 (j : Int))).toNat := by
  show n - ((j : Int) + 1).toNat < n - ((j : Int)).toNat
  omega
/-- Between the rounds of the search. -/
def CrR (w5 : World) (m : KP) (lst : List KP) (i : Value) (wr : World) : Prop := ∃ j : Nat, j ≤ lst.length ∧ i = .int .i64 j ∧ (∀ k ∈ lst.take j, ¬ k = m) ∧ Fr [] w5 wr
set_option maxRecDepth 100000 in
set_option maxHeartbeats 4000000 in
theorem dcrash_calls {W w : World} {n B N x p : Nat} (h : Dk16 W n B N x p w) (hN : N ≤ 4000) (hB : B + 18 * N + 54 ≤ 1000000000) (keep : Int) (hk : 0 ≤ keep) :
    Calls Try.prog 17 #[.pointer (some ⟨x, 0, none⟩), .int .i64 keep] w fun e w' => e = .returned (.bool true) ∧ Dk16 W n B (N + 1) x p w' := by
  obtain ⟨K, k0, rs, lst, F, base, bb, q, lv, tl, vs, ve, d, s, hW, hK, hL, hD⟩ := h
  obtain ⟨rs', hok, hmem, hL'⟩ := hL.lost hK.sto.da.wf (by omega) hB keep.toNat
  obtain ⟨al, c, css, hbx, hrow, hlc, hcm, hxF⟩ := hD
  have HW := Lib.hid hW
  have HK := Lib.hid hK
  have HL := Lib.hid hL
  have HL2 := Lib.hid (And.intro hok (And.intro hmem hL'))
  have HX := Lib.hid (And.intro hbx (And.intro hrow (And.intro hlc (And.intro hcm hxF))))
  have c0 : w.cell? ⟨x, 0, none⟩ = some (.pointer (some ⟨p, 0, none⟩)) := hbx.cellAt rfl
  clear hW hK hL hok hmem hL' hbx hrow
  go_enter Try.func17, Try.ntmps17
  go_wp2_with fail
  refine (crash_calls HK.out.sto.da keep hk).mono ?_
  rintro e w1 ⟨rfl, D1, F1⟩
  have hpF : F p := HK.out.fX p (.inr (.inr (.inl (by simp))))
  have hbF : F bb := HK.out.fX bb (.inr (.inr (.inl (by simp))))
  have hx1 : x ∉ [p, bb] := fun hm => by
    simp only [List.mem_cons, List.not_mem_nil, or_false] at hm
    rcases hm with rfl | rfl
    · exact hxF hpF
    · exact hxF hbF
  have HB1 := Lib.hid (HX.out.1.fr F1 hx1)
  have c0 : w1.cell? ⟨x, 0, none⟩ = some (.pointer (some ⟨p, 0, none⟩)) := HB1.out.cellAt rfl
  have HD1 := Lib.hid (And.intro D1 F1)
  clear D1 F1
  dsimp only
  go_wp2_with fail
  have hz1 := HD1.out.2.size
  refine (kopen_calls (F0 := fun b => b ∈ p :: bb :: ob (.slice none 0 0)) HD1.out.1 ⟨undo_byt HK.out.sto.yd _, by simp⟩ HL2.out.1 (fun b hb => hb) (fun b hb => ⟨HD1.out.1.ge b hb, HD1.out.1.lt b hb⟩) (by have := HW.out.2.1; omega)).mono ?_
  rintro e w2 ⟨K2, q2, tl2, vs2, ve2, rfl, hK2, st2⟩
  obtain ⟨F2, hF2⟩ : ∃ F2, grow (fun b => b ∈ p :: bb :: ob (.slice none 0 0)) w1 w2 = F2 := ⟨_, rfl⟩
  rw [hF2] at hK2
  have hFF : ∀ b, F2 b → F b ∨ w.heap.size ≤ b := fun b hb => by
    rw [← hF2] at hb
    rcases hb with hb | hb
    · simp only [List.mem_cons, ob_nil, List.not_mem_nil, or_false] at hb
      rcases hb with rfl | rfl
      · exact .inl hpF
      · exact .inl hbF
    · exact .inr (by omega)
  obtain ⟨T2, f2, hT2⟩ := st2
  have hT2' : ∀ b ∈ T2, F b ∨ w1.heap.size ≤ b := fun b hb => (hT2 b hb).imp (fun hm => by
    simp only [List.mem_cons, ob_nil, List.not_mem_nil, or_false] at hm
    rcases hm with rfl | rfl
    · exact hpF
    · exact hbF) id
  have hxw := HX.out.1.lt
  have hx2 : x ∉ T2 := fun hm => by
    rcases hT2' x hm with h | h
    · exact hxF h
    · omega
  have hS1 : ∀ b ∈ [p, bb], FX F x b ∨ w.heap.size ≤ b := fun b hb => by
    simp only [List.mem_cons, List.not_mem_nil, or_false] at hb
    rcases hb with rfl | rfl
    · exact .inl (.inl hpF)
    · exact .inl (.inl hbF)
  have hS2 : ∀ b ∈ T2, FX F x b ∨ w1.heap.size ≤ b := fun b hb => (hT2' b hb).imp .inl id
  have hX2 : ∀ b, FX F2 x b → FX F x b ∨ w1.heap.size ≤ b := fun b hb => by
    rcases hb with hb | hb
    · rw [← hF2] at hb
      rcases hb with hb | hb
      · simp only [List.mem_cons, ob_nil, List.not_mem_nil, or_false] at hb
        rcases hb with rfl | rfl
        · exact .inl (.inl hpF)
        · exact .inl (.inl hbF)
      · exact .inr hb.1
    · exact .inl (.inr hb)
  have hrow2 : RowA RefL 6 w2 (FX F2 x) al lst css := (HX.out.2.1.step HD1.out.2 hS1 (X' := FX F x) (fun b hb => .inl hb) (fun cs t h => h.step HD1.out.2 hS1 (fun b hb => .inl hb))).step f2 hS2 hX2 (fun cs t h => h.step f2 hS2 hX2)
  have HB2 := Lib.hid (HB1.out.fr f2 hx2)
  have HR2 := Lib.hid hrow2
  have HK2 := Lib.hid hK2
  have HFF := Lib.hid hFF
  have hz2 := f2.size
  have hW2 : Fr [] W w2 := ((HW.out.2.2.2.trans HD1.out.2 (fun b hb hlt => by
    simp only [List.mem_cons, List.not_mem_nil, or_false] at hb
    have h1 := HW.out.1
    rcases hb with rfl | rfl
    · have := (HK.out.fl _ hpF).1; omega
    · have := (HK.out.fl _ hbF).1; omega)).trans f2 (fun b hb hlt => by
    have h1 := HW.out.1
    have h2 := HW.out.2.2.2.size
    rcases hT2' b hb with h | h
    · have := (HK.out.fl _ h).1; omega
    · omega))
  have HW2 := Lib.hid hW2
  have hel := HL2.out.2.2.kd.now.el
  have hxF2 : ¬ F2 x := fun h => by
    rcases hFF x h with h | h
    · exact hxF h
    · omega
  clear hF2 hFF f2 hT2 hT2' hx2 hS1 hS2 hX2 hrow2 hK2 hW2
  dsimp only
  go_wp2_with fail
  refine (now_calls (Y' := FX F2 x) HK2.out.rd (by omega) (fun b hb => by
    rcases hb with hb | hb
    · exact (HK2.out.fl b hb).2
    · omega)).mono ?_
  rintro e w3 ⟨cs3, rfl, hR3, hF3⟩
  have HR3 := Lib.hid hR3
  have HF3 := Lib.hid hF3
  obtain ⟨vs3, ve3, rfl, hs3, he3⟩ := hR3
  have ho1 := hs3.one
  have ho2 := he3.one
  clear hs3 he3 hF3
  obtain ⟨m, hm⟩ : ∃ m, runK k0 rs' = m := ⟨_, rfl⟩
  rw [hm] at HL2 HR3 HK2 hel ⊢
  dsimp only
  go_upto_region 7 with (first
    | (refine wpList_allocZ rfl 39 rfl zR rkeep_zero ?_; intro w4 B4 F4 S4; have HB4 := Lib.hid B4; have HF4 := Lib.hid F4; clear B4 F4 S4)
    | (refine wpList_storeB rfl 39 _ _ rfl w3.heap.size 0 (refC m vs3 ve3) (by rfl) (by rfl) 39 _ HB4.out (by simp [refC, zR]) (by exact rkeep_size) (refC_one ho1 ho2) ?_; intro w5 B5 F5 S5; rw [splice_all _ _ (by rfl)] at B5; have HB5 := Lib.hid B5; have HF5 := Lib.hid F5; clear B5 F5 S5)
    | fail)
  have f35 : Fr [] w3 w5 := HF4.out.trans HF5.out (fun b hb hlt => by rw [List.mem_singleton.1 hb] at hlt; omega)
  have HF25 := Lib.hid (HF3.out.trans0 f35)
  have HR5 := Lib.hid (HR3.out.fr0 f35)
  have HX5 := Lib.hid (HB2.out.fr HF25.out (by simp))
  have c2 : w5.cell? ⟨x, 2, none⟩ = some (.slice al lst.length c) := HX5.out.cellAt rfl
  have HROW5 := Lib.hid (HR2.out.step HF25.out (by simp) (X' := FX F2 x) (fun b hb => .inl hb) (fun cs t h => h.step HF25.out (by simp) (fun b hb => .inl hb)))
  have R0 := Lib.hid (show CrR w5 m lst (.int .i64 0) w5 from ⟨0, Nat.zero_le _, rfl, by simp, Fr.refl _ _⟩)
  clear f35 c0
  have hll : lst.length ≤ 4001 := by have := HL.out.len; omega
  have hwfl : ∀ k ∈ lst, k.wf := fun k hk => (HL.out.small k hk).wf
  have hwfm : m.wf := HL2.out.2.2.kd.now.wf |> fun h => by rw [hm] at h; exact h
  have HWF := Lib.hid (And.intro hwfl hwfm)
  have HMM := Lib.hid HL2.out.2.1
  have HM0 := Lib.hid hm
  clear hwfl hwfm hm
  go_wp2_with fail
  clear c2
  go_loopw [42] (fun i wr => CrR w5 m lst i wr) (fun i _ => lst.length - (intOf i).toNat)
  case atStart => exact R0.out
  case round =>
    obtain ⟨j, hj, rfl, hno, hF⟩ := hrel
    by_cases hlt : j < lst.length
    · obtain ⟨y, hy⟩ : ∃ y, lst[j]? = some y := ⟨lst[j], List.getElem?_eq_getElem hlt⟩
      have kb : (j : Int) < (lst.length : Int) := by omega
      have k0' : (0 : Int) ≤ (j : Int) := by omega
      obtain ⟨g, o, cs6, ea, hg, _, hcl, hel6, hrg⟩ := (HROW5.out.step hF (by simp) (X' := FX F2 x) (fun b hb => .inl hb) (fun cs t h => h.step hF (by simp) (fun b hb => .inl hb))).get (by decide) hy
      have HEL := Lib.hid hel6
      obtain ⟨vs6, ve6, rfl, hs6, he6⟩ := hel6
      have hp1 := hs6.one
      have hp2 := he6.one
      subst ea
      have e0 : wr.cell? ⟨g, o + j * 6, none⟩ = some (.int .i64 y.term) := hrg 0 _ rfl
      have e1 : wr.cell? ⟨g, o + j * 6 + 1, none⟩ = some (.int .i64 y.vote) := hrg 1 _ rfl
      have e2 : wr.cell? ⟨g, o + j * 6 + 2, none⟩ = some (.int .i64 y.base) := hrg 2 _ rfl
      have e3 : wr.cell? ⟨g, o + j * 6 + 3, none⟩ = some (.int .i64 y.bt) := hrg 3 _ rfl
      have e4 : wr.cell? ⟨g, o + j * 6 + 4, none⟩ = some vs6 := hrg 4 _ rfl
      have e5 : wr.cell? ⟨g, o + j * 6 + 5, none⟩ = some ve6 := hrg 5 _ rfl
      have HU := Lib.hid (And.intro hy (And.intro hno hF))
      clear hy hno hF hs6 he6 hrg R0
      go_upto_region 9 with fail
      go_upto_region 10 with (first
        | (refine wpList_allocZ rfl 39 rfl zR rkeep_zero ?_; intro w6 B6 F6 S6; have HB6 := Lib.hid B6; have HF6 := Lib.hid F6; clear B6 F6 S6)
        | (refine wpList_storeB rfl 39 _ _ rfl wr.heap.size 0 (refC y vs6 ve6) (by rfl) (by rfl) 39 _ HB6.out (by simp [refC, zR]) (by exact rkeep_size) (refC_one hp1 hp2) ?_; intro w7 B7 F7 S7; rw [splice_all _ _ (by rfl)] at B7; have HB7 := Lib.hid B7; have HF7 := Lib.hid F7; clear B7 F7 S7)
        | fail)
      have f7 : Fr [] wr w7 := HF6.out.trans HF7.out (fun b hb hlt => by rw [List.mem_singleton.1 hb] at hlt; omega)
      have hM7 := HB5.out.fr (HU.out.2.2.trans0 f7) (by simp)
      have x0 := HB7.out.cellAt (i := 0) rfl
      have x1 := HB7.out.cellAt (i := 1) rfl
      have x2 := HB7.out.cellAt (i := 2) rfl
      have x3 := HB7.out.cellAt (i := 3) rfl
      have x4 := HB7.out.cellAt (i := 4) rfl
      have x5 := HB7.out.cellAt (i := 5) rfl
      have y0 := hM7.cellAt (i := 0) rfl
      have y1 := hM7.cellAt (i := 1) rfl
      have y2 := hM7.cellAt (i := 2) rfl
      have y3 := hM7.cellAt (i := 3) rfl
      have y4 := hM7.cellAt (i := 4) rfl
      have y5 := hM7.cellAt (i := 5) rfl
      have HM7 := Lib.hid hM7
      have HE7 := Lib.hid f7
      clear f7 hM7 e0 e1 e2 e3 e4 e5
      go_wp2_with fail
      refine (rsame_calls (HEL.out.fr0 HE7.out) (HR5.out.fr0 (HU.out.2.2.trans0 HE7.out)) (HWF.out.1 y (List.mem_of_getElem? HU.out.1)) HWF.out.2).mono ?_
      rintro e w8 ⟨rfl, f8⟩
      have HF8 := Lib.hid ((HU.out.2.2.trans0 HE7.out).trans0 f8)
      clear x0 x1 x2 x3 x4 x5 y0 y1 y2 y3 y4 y5 f8
      dsimp only
      by_cases hym : y = m
      · rw [show decide (y = m) = true from by simpa using hym]
        subst hym
        have hM8 := HB5.out.fr HF8.out (by simp)
        have hX8 := HX5.out.fr HF8.out (by simp)
        have hmx : w3.heap.size ∉ [x] := fun hm => by have := List.mem_singleton.1 hm; have := HF3.out.size; omega
        have d0 : ∀ W, Fr [x] w8 W → W.cell? ⟨w3.heap.size, 0, none⟩ = some (.int .i64 y.term) := fun W f => (hM8.fr f hmx).cellAt rfl
        have d1 : ∀ W, Fr [x] w8 W → W.cell? ⟨w3.heap.size, 1, none⟩ = some (.int .i64 y.vote) := fun W f => (hM8.fr f hmx).cellAt rfl
        have d2 : ∀ W, Fr [x] w8 W → W.cell? ⟨w3.heap.size, 2, none⟩ = some (.int .i64 y.base) := fun W f => (hM8.fr f hmx).cellAt rfl
        have d3 : ∀ W, Fr [x] w8 W → W.cell? ⟨w3.heap.size, 3, none⟩ = some (.int .i64 y.bt) := fun W f => (hM8.fr f hmx).cellAt rfl
        have d4 : ∀ W, Fr [x] w8 W → W.cell? ⟨w3.heap.size, 4, none⟩ = some vs3 := fun W f => (hM8.fr f hmx).cellAt rfl
        have d5 : ∀ W, Fr [x] w8 W → W.cell? ⟨w3.heap.size, 5, none⟩ = some ve3 := fun W f => (hM8.fr f hmx).cellAt rfl
        have HX8 := Lib.hid hX8
        clear hM8 hX8
        go_upto_region 11 with fail
        refine wp_region_tree (Fr [x] w8) (seqT [0,1,2,3,5,6] (.two 4 (.one 7 (.one 8 (.one 9 (.one 10 .done)))) 7 (.one 4 (.one 8 (.one 9 (.one 10 .done)))))) [] [4, 7, 10] [3] mixed15 (by kernel_rfl) ?_
        have hS0 : Fr [] w8 w8.drew := (Fr.refl _ _).drew
        have hS : Fr [x] w8 w8.drew := hS0.ext
        have hdz : w8.drew.heap.size = w8.heap.size := rfl
        have f28 : Fr [] w2 w8 := HF25.out.trans0 HF8.out
        have hz28 := f28.size
        have HR8 := Lib.hid (HR5.out.fr0 HF8.out)
        have hxs : ∀ b ∈ [x], FX F2 x b := fun b hb => .inr (List.mem_singleton.1 hb)
        simp only [seqT, List.foldr]
        repeat (first | (refine wpT_free ?_ (by rfl) (by rfl) (fun w' => ?_) ?_; rotate_left; (simp only [pickN]; go_simp; rfl); simp only [pickN, Act.put, List.setIfInBounds_toArray, List.set_cons_zero, List.set_cons_succ]) | (refine wpT_take ?_ hS (by rfl) (by rfl) (fun w' hw' => ?_) ?_; rotate_left; (simp only [pickN]; go_simp; rfl); simp only [pickN, Act.put, List.setIfInBounds_toArray, List.set_cons_zero, List.set_cons_succ]))
        refine wpT_two ?_ ?_
        · refine wpList_buildSlice1 rfl 28 39 _ rfl zR 6 80 Try.underlying28 info_rkeep (by simp [zR]) (by omega) (by omega) _ (refC y vs3 ve3) (by rfl) (by rfl) (by simp [refC]) ?_
          intro w9 B9 F9 S9
          have hS9 : Fr [] w8 w9 := hS0.trans0 F9
          refine effT_keep hS9.ext ?_
          simp only [pickN, Act.put, List.setIfInBounds_toArray, List.set_cons_zero, List.set_cons_succ]
          refine wpT_eff (by rfl) ?_
          refine wpList_store1 rfl 27 _ _ rfl x 1 (.pointer (some ⟨K2, 0, none⟩)) (by rfl) (by rfl) rfl 30 _ (HX8.out.fr hS9 (by simp)) (by simp) (by kernel_rfl) rfl ?_
          intro w10 B10 F10 S10
          refine effT_keep (hS9.ext.trans1 F10) ?_
          simp only [pickN, Act.put, List.setIfInBounds_toArray, List.set_cons_zero, List.set_cons_succ]
          repeat (refine wpT_free ?_ (by rfl) (by rfl) (fun w' => ?_) ?_; rotate_left; (simp only [pickN]; go_simp; rfl); simp only [pickN, Act.put, List.setIfInBounds_toArray, List.set_cons_zero, List.set_cons_succ])
          refine wpT_eff (by rfl) ?_
          refine wpList_store1 rfl 28 _ _ rfl x 2 (.slice (some ⟨w8.drew.heap.size, 0, none⟩) 1 1) (by rfl) (by rfl) rfl 30 _ B10 (by simp) (by kernel_rfl) rfl ?_
          intro w11 B11 F11 S11
          refine effT_keep ((hS9.ext.trans1 F10).trans1 F11) (wpT_done ?_)
          simp only [pickN, Act.put, List.setIfInBounds_toArray, List.set_cons_zero, List.set_cons_succ]
          have hgx : ∀ b ∈ [x], b ≠ w8.drew.heap.size := fun b hb => by rw [List.mem_singleton.1 hb]; omega
          have hF11 := (f28.ext (S := [x])).trans1 (((hS9.ext.trans1 F10).trans1 F11))
          have hDL : DeskL w11 F2 x p K2 [y] := ⟨_, 1, _, B11, RowA.single (((B9.fr F10 (fun hm => hgx _ hm rfl)).fr F11 (fun hm => hgx _ hm rfl))) (fun hy => by
              rcases hy with hy | hy
              · have := (HK2.out.fl _ hy).2; omega
              · omega) (HR8.out.step (((hS9.ext.trans1 F10).trans1 F11)) (fun b hb => .inl (hxs b hb)) (fun b hb => .inl hb)) rfl, by simp, by simp only [maxLen]; omega, hxF2⟩
          have hK11 := HK2.out.fr hF11 (fun b hb hF => hxF2 ((List.mem_singleton.1 hb) ▸ hF))
          have hW11 : Fr [] W w11 := HW2.out.trans hF11 (fun b hb hlt => by rw [List.mem_singleton.1 hb] at hlt; have := HW.out.2.2.1; omega)
          have HE := Lib.hid (show Dk16 W n B (N + 1) x p w11 from ⟨K2, k0, rs', [y], F2, base, bb, q2, _, tl2, vs2, ve2, _, _, ⟨HW.out.1, by have := HW.out.2.1; have := hF11.size; omega, HW.out.2.2.1, hW11⟩, by rw [HM0.out]; exact hK11, HL2.out.2.2, hDL⟩)
          clear B9 F9 S9 hS9 B10 F10 S10 B11 F11 S11 hS hS0 hF11 hDL hK11 hW11 d0 d1 d2 d3 d4 d5 f28
          go_wp2_with fail
          go_ret
          exact ⟨rfl, HE.out⟩
        · refine wpList_store1 rfl 27 _ _ rfl x 1 (.pointer (some ⟨K2, 0, none⟩)) (by rfl) (by rfl) rfl 30 _ (HX8.out.fr hS0 (by simp)) (by simp) (by kernel_rfl) rfl ?_
          intro w10 B10 F10 S10
          refine effT_keep (hS.trans1 F10) ?_
          simp only [pickN, Act.put, List.setIfInBounds_toArray, List.set_cons_zero, List.set_cons_succ]
          refine wpT_eff (by rfl) ?_
          refine wpList_buildSlice1 rfl 28 39 _ rfl zR 6 80 Try.underlying28 info_rkeep (by simp [zR]) (by omega) (by omega) _ (refC y vs3 ve3) (by rfl) (by rfl) (by simp [refC]) ?_
          intro w9 B9 F9 S9
          have hS9 : Fr [x] w8 w9 := (hS.trans1 F10).trans0 F9
          have hz10 := (hS.trans1 F10).size
          refine effT_keep hS9 ?_
          simp only [pickN, Act.put, List.setIfInBounds_toArray, List.set_cons_zero, List.set_cons_succ]
          repeat (refine wpT_free ?_ (by rfl) (by rfl) (fun w' => ?_) ?_; rotate_left; (simp only [pickN]; go_simp; rfl); simp only [pickN, Act.put, List.setIfInBounds_toArray, List.set_cons_zero, List.set_cons_succ])
          refine wpT_eff (by rfl) ?_
          refine wpList_store1 rfl 28 _ _ rfl x 2 (.slice (some ⟨w10.heap.size, 0, none⟩) 1 1) (by rfl) (by rfl) rfl 30 _ (B10.fr F9 (by simp)) (by simp) (by kernel_rfl) rfl ?_
          intro w11 B11 F11 S11
          refine effT_keep (hS9.trans1 F11) (wpT_done ?_)
          simp only [pickN, Act.put, List.setIfInBounds_toArray, List.set_cons_zero, List.set_cons_succ]
          have hgx : ∀ b ∈ [x], b ≠ w10.heap.size := fun b hb => by rw [List.mem_singleton.1 hb]; omega
          have hF11 := (f28.ext (S := [x])).trans1 ((hS9.trans1 F11))
          have hDL : DeskL w11 F2 x p K2 [y] := ⟨_, 1, _, B11, RowA.single ((B9.fr F11 (fun hm => hgx _ hm rfl))) (fun hy => by
              rcases hy with hy | hy
              · have := (HK2.out.fl _ hy).2; omega
              · omega) (HR8.out.step ((hS9.trans1 F11)) (fun b hb => .inl (hxs b hb)) (fun b hb => .inl hb)) rfl, by simp, by simp only [maxLen]; omega, hxF2⟩
          have hK11 := HK2.out.fr hF11 (fun b hb hF => hxF2 ((List.mem_singleton.1 hb) ▸ hF))
          have hW11 : Fr [] W w11 := HW2.out.trans hF11 (fun b hb hlt => by rw [List.mem_singleton.1 hb] at hlt; have := HW.out.2.2.1; omega)
          have HE := Lib.hid (show Dk16 W n B (N + 1) x p w11 from ⟨K2, k0, rs', [y], F2, base, bb, q2, _, tl2, vs2, ve2, _, _, ⟨HW.out.1, by have := HW.out.2.1; have := hF11.size; omega, HW.out.2.2.1, hW11⟩, by rw [HM0.out]; exact hK11, HL2.out.2.2, hDL⟩)
          clear B9 F9 S9 hS9 B10 F10 S10 B11 F11 S11 hS hS0 hF11 hDL hK11 hW11 d0 d1 d2 d3 d4 d5 f28
          go_wp2_with fail
          go_ret
          exact ⟨rfl, HE.out⟩
      · rw [show decide (y = m) = false from by simpa using hym]
        have HREL := Lib.hid (show CrR w5 m lst (.int .i64 ((j + 1 : Nat) : Int)) w8 from ⟨j + 1, hlt, rfl, fun k hk => by
          rw [List.take_add_one, HU.out.1] at hk
          rcases List.mem_append.1 hk with hk | hk
          · exact HU.out.2.1 k hk
          · rw [List.mem_singleton.1 hk]; exact hym, HF8.out⟩)
        clear hym
        go_wp2_with fail
        go_roundw
        case rel =>
          have h9 := HREL.out
          first
            | exact h9
            | (rw [show (((j + 1 : Nat) : Int)) = wrap64 ((j : Int) + 1) from by unfold wrap64; omega] at h9; exact h9)
            | (rw [show (((j + 1 : Nat) : Int)) = (j : Int) + 1 from by omega] at h9; exact h9)
        case measure => first | exact meas1 hlt (by omega) | exact meas3 hlt
    · exfalso
      obtain rfl : j = lst.length := by omega
      rw [List.take_length] at hno
      exact hno m HMM.out rfl
end Go.Fur
namespace Go.Fur
open Go Go.RowKit Go.Proofs
set_option linter.unusedVariables false
set_option linter.unusedSimpArgs false
theorem fx_to {w : World} {F F' : Nat → Prop} {x : Nat} (hFF : ∀ b, F' b → F b ∨ w.heap.size ≤ b) : ∀ b, FX F' x b → FX F x b ∨ w.heap.size ≤ b := fun b hb => by
  rcases hb with hb | hb
  · exact (hFF b hb).imp .inl id
  · exact .inl (.inr hb)
/-- The keep was turned: the desk stays. -/
theorem DeskL.to {w w' : World} {F F' : Nat → Prop} {x p K : Nat} {lst : List KP} (h : DeskL w F x p K lst) (st : Stp F w w') (hFF : ∀ b, F' b → F b ∨ w.heap.size ≤ b) : DeskL w' F' x p K lst := by
  obtain ⟨T, f, hT⟩ := st
  exact h.step f hT hFF
theorem RefL.to {w w' : World} {F F' : Nat → Prop} {x : Nat} {cs : List Value} {m : KP} (h : RefL w (FX F x) cs m) (st : Stp F w w') (hFF : ∀ b, F' b → F b ∨ w.heap.size ≤ b) : RefL w' (FX F' x) cs m := by
  obtain ⟨T, f, hT⟩ := st
  exact h.step f (fun b hb => (hT b hb).imp .inl id) (fx_to hFF)
theorem DeskL.not {w : World} {F : Nat → Prop} {x p K : Nat} {lst : List KP} (h : DeskL w F x p K lst) : ¬ F x := by
  obtain ⟨_, _, _, _, _, _, _, h⟩ := h
  exact h
theorem DeskL.blk {w : World} {F : Nat → Prop} {x p K : Nat} {lst : List KP} (h : DeskL w F x p K lst) : x < w.heap.size := by
  obtain ⟨_, _, _, h, _⟩ := h
  exact h.lt
/-- The keep was turned, then the desk's own block. -/
theorem Dk16.close {W w w' w'' : World} {n B N x p K : Nat} {F F' : Nat → Prop} {base bb bb' q q' : Nat} {lv tl vs ve lv' tl' vs' ve' : Value} {d d' : D} {s s' : St} {k k0' : KP} {rs' : List RecK} {lst' : List KP}
    (hW : W.heap.size ≤ base ∧ base ≤ w.heap.size ∧ W.heap.size ≤ x ∧ Fr [] W w) (hK : KpAt w F base K p bb q lv tl vs ve d s k) (hK' : KpAt w' F' base K p bb' q' lv' tl' vs' ve' d' s' (runK k0' rs')) (st : Stp F w w')
    (hL : KdL n B N d' s' k0' rs' lst') (hD : DeskL w'' F' x p K lst') (f : Fr [x] w' w'') : Dk16 W n B N x p w'' := by
  have hn := hD.not
  have hz := st.size
  have hz2 := f.size
  have fW : Fr [] W w' := stp_fr hW.2.2.2 st (fun b hb => by have := (hK.fl b hb).1; have := hW.1; omega)
  exact ⟨K, k0', rs', lst', F', base, bb', q', lv', tl', vs', ve', d', s', ⟨hW.1, by have := hW.2.1; omega, hW.2.2.1, fW.trans f (fun b hb hlt => by rw [List.mem_singleton.1 hb] at hlt; have := hW.2.2.1; omega)⟩, hK'.fr f (fun b hb hF => hn ((List.mem_singleton.1 hb) ▸ hF)), hL, hD⟩
/-- Bytes that lie ahead of the law's own memory. -/
theorem Dk16.args {W w : World} {F : Nat → Prop} {base K p bb q : Nat} {lv tl vs ve : Value} {d : D} {s : St} {k : KP} (hb : W.heap.size ≤ base) (hK : KpAt w F base K p bb q lv tl vs ve d s k) {a : Option Addr} {cs : List Value} (hr : RdA w (fun b => W.heap.size ≤ b) a cs) : RdA w F a cs :=
  hr.step (Fr.refl [] w) (by simp) (fun b h => .inl (by have := (hK.fl b h).1; omega))
end Go.Fur
