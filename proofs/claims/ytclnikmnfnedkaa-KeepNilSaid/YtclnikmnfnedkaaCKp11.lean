/- A snapshot in the place of entries: contract of Reset. -/
import Derived.Test.YtclnikmnfnedkaaCSeqV
import Derived.Test.YtclnikmnfnedkaaCStrip1
import Derived.Deep.CutBlock
import Derived.Deep.DeepCutAuto
namespace Go.Fur
open Go Go.RowKit Go.Proofs
attribute [local go_sem] Oper.semAt_some
set_option linter.unusedVariables false
set_option linter.unusedSimpArgs false
def keepsE (k : KP) (i t : Int) : Prop := i ≤ k.last ∧ (k.es.getD (i - k.base - 1).toNat (0, [])).1 = t
instance (k : KP) (i t : Int) : Decidable (keepsE k i t) := by unfold keepsE; infer_instance
def resetE (k : KP) (i t : Int) (l : List Int) : KP := { k with base := i, bt := t, snap := l, es := if keepsE k i t then k.es.drop (i - k.base).toNat else [] }
def resetK (d : D) (s : St) (k : KP) (i t : Int) (l : List Int) : Int × D × St × KP :=
  if i ≤ k.base ∨ 1152921504606846976 < i ∨ t < 0 then (1, d, s, k)
  else if 262144 < l.length then (3, d, s, k)
  else if (ckS d s (resetE k i t l).pack).1 ≠ 0 then (10, d, s, k)
  else (0, (ckS d s (resetE k i t l).pack).2.1, (ckS d s (resetE k i t l).pack).2.2, resetE k i t l)
theorem resetE_wf {k : KP} {i t : Int} {l : List Int} (h : k.wf) (hi : k.base < i) (hi2 : i ≤ 1152921504606846976) (ht : I64 t) (hl : Byt l) (hll : l.length ≤ 1048576) : (resetE k i t l).wf := by
  have hb := h.base
  refine ⟨h.term, h.vote, ⟨by show 0 ≤ i; omega, hi2⟩, ht, hl, hll, fun e he => ?_, ?_⟩
  · show I64 e.1 ∧ _
    have he' : e ∈ (if keepsE k i t then k.es.drop (i - k.base).toNat else []) := he
    split at he'
    · exact h.es e (List.mem_of_mem_drop he')
    · cases he'
  · show (if keepsE k i t then k.es.drop (i - k.base).toNat else []).length ≤ 1000000
    have := h.el
    split
    · rw [List.length_drop]; omega
    · simp
/-- Between the rounds: the entries that are taken over. -/
def ResI (Y : Nat → Prop) (w4 : World) (q : Nat) (R : KP) (N B : Nat) (vsn : Value) (pre : List EV) (W : World) : Prop :=
  ∃ ven, Blk W B 27 [.pointer (some ⟨N, 0, none⟩)] ∧ Blk W N 70 (kpC q R vsn ven) ∧ RowW (fun W cs t => EntL W Y cs t) 2 75 w4.heap.size W ven (pre.map Prod.fst) ∧ Fr [N] w4 W
/-- What the assignment of a round leaves: its own variable at g, apart from the entries taken over. -/
def ResAx (q : Nat) (R : KP) (N : Nat) (vsn : Value) (g : Nat) (pre : List EV) (x : EV) (W : World) : Prop :=
  (∃ v, x.2 = .agg #[.int .i64 x.1.1, v] ∧ Blk W g 75 [.int .i64 x.1.1, v]) ∧ ∃ ven, Blk W N 70 (kpC q R vsn ven) ∧ g ∉ ob ven
theorem RowW.ents {w : World} {Y Y' : Nat → Prop} {base : Nat} {v : Value} {l : List (Int × List Int)} (h : RowW (fun W cs t => EntL W Y' cs t) 2 75 base w v l) (hY : ∀ b, Y b → Y' b) (hb : ∀ b ∈ ob v, ¬ Y b) : Ents w Y v l := by
  obtain ⟨css, h1, h2, h3⟩ := h
  obtain ⟨a, c, hv, h4, h5, h6⟩ := h1.rdA hb
  exact ⟨a, c, css, hv, ⟨h6, h2, fun i cs t hc ht => ⟨(h3 i cs t hc ht).1, (h3 i cs t hc ht).2.step (Fr.refl [] w) (by simp) (fun k hk => .inl (hY k hk))⟩⟩, h4, h5⟩
/-- The keep that is being made: its variable at B, itself at N. -/
structure NewK (w wx : World) (q : Nat) (k' : KP) (N B : Nat) (vs : Value) : Prop where
  hb : Blk wx B 27 [.pointer (some ⟨N, 0, none⟩)]
  hn : Blk wx N 70 (kpC q k' vs (.slice none 0 0))
  hs : Own wx w.heap.size 5 1 vs k'.snap.length (bv k'.snap)
  gN : w.heap.size ≤ N
  gB : w.heap.size ≤ B
  fr : Fr [] w wx
theorem pkeep_zero : ∀ w, (zeroValue 27).run Try.prog w = .ok (.pointer none) w := fun w => by kernel_rfl
theorem reset_build (q : Nat) (x y i t : Int) (a : Option Addr) (n c : Nat) : ∀ W, (Instr.build 70 #[(0, .pointer (some ⟨q, 0, none⟩)), (1, .int .i64 x), (2, .int .i64 y), (3, .int .i64 i), (4, .int .i64 t), (5, .slice a n c)]).run Try.prog W = .ok (.agg #[.pointer (some ⟨q, 0, none⟩), .int .i64 x, .int .i64 y, .int .i64 i, .int .i64 t, .slice a n c, .slice none 0 0]) W := fun W => by kernel_rfl
set_option maxRecDepth 100000 in
set_option maxHeartbeats 8000000 in
theorem kreset_calls {w : World} {F : Nat → Prop} {base K p bb q : Nat} {lv tl vs ve : Value} {d : D} {s : St} {k : KP} (h : KpAt w F base K p bb q lv tl vs ve d s k) (hbase : base ≤ w.heap.size) (i t : Int) (hi : I64 i) (ht : I64 t)
    (a : Option Addr) (m c : Nat) (l : List Int) (hm : l.length = m) (hmc : m ≤ maxLen) (hr : RdA w F a (bv l)) (hl : Byt l) (hpk : (resetE k i t l).pack.length ≤ 1000000000) :
    Calls Try.prog 19 #[.pointer (some ⟨K, 0, none⟩), .int .i64 i, .int .i64 t, .slice a m c] w fun e w' => e = .returned (.int .i64 (resetK d s k i t l).1) ∧ KpTo w F base K p bb q lv tl (resetK d s k i t l).2.1 (resetK d s k i t l).2.2.1 (resetK d s k i t l).2.2.2 w' := by
  subst hm
  have c3 : w.cell? ⟨K, 3, none⟩ = some (.int .i64 k.base) := h.rd.hk.cellAt rfl
  have hm63 : l.length ≤ 9223372036854775807 := by unfold maxLen at hmc; exact hmc
  have hb := h.rd.wf.base
  have hll := h.rd.wf.lastI
  have HH := Lib.hid h
  have HR := Lib.hid hr
  unfold I64 at hi ht
  clear h hr
  have HE0 := Lib.hid (show KpTo w F base K p bb q lv tl d s k w from ⟨F, lv, tl, vs, ve, HH.out, Stp.refl _ _, fun b hb => .inl hb⟩)
  by_cases hbad : i ≤ k.base ∨ 1152921504606846976 < i ∨ t < 0
  · have e : resetK d s k i t l = (1, d, s, k) := by unfold resetK; rw [if_pos hbad]
    rw [e]
    have HE := HE0
    clear e
    by_cases h1 : i ≤ k.base
    · go_enter Try.func19, Try.ntmps19
      go_wp2_with fail
      go_ret
      exact ⟨rfl, HE.out⟩
    · by_cases h2 : 1152921504606846976 < i
      · go_enter Try.func19, Try.ntmps19
        go_wp2_with fail
        go_ret
        exact ⟨rfl, HE.out⟩
      · have h3 : t < 0 := by omega
        go_enter Try.func19, Try.ntmps19
        go_wp2_with fail
        go_ret
        exact ⟨rfl, HE.out⟩
  · have h1 : ¬ i ≤ k.base := by omega
    have h2 : ¬ 1152921504606846976 < i := by omega
    have h3 : ¬ t < 0 := by omega
    by_cases hlong : 262144 < l.length
    · have e : resetK d s k i t l = (3, d, s, k) := by unfold resetK; rw [if_neg hbad, if_pos hlong]
      rw [e]
      have HE := HE0
      have h4 : (262144 : Int) < (l.length : Int) := by omega
      clear e
      go_enter Try.func19, Try.ntmps19
      go_wp2_with fail
      go_ret
      exact ⟨rfl, HE.out⟩
    · have h4 : ¬ (262144 : Int) < (l.length : Int) := by omega
      have d0 : ∀ W, Fr [] w W → W.cell? ⟨K, 0, none⟩ = some (.pointer (some ⟨q, 0, none⟩)) := fun W f => (HH.out.rd.hk.fr f (by simp)).cellAt rfl
      have d1 : ∀ W, Fr [] w W → W.cell? ⟨K, 1, none⟩ = some (.int .i64 k.term) := fun W f => (HH.out.rd.hk.fr f (by simp)).cellAt rfl
      have d2 : ∀ W, Fr [] w W → W.cell? ⟨K, 2, none⟩ = some (.int .i64 k.vote) := fun W f => (HH.out.rd.hk.fr f (by simp)).cellAt rfl
      have hbd := reset_build q k.term k.vote i t
      obtain ⟨R, hRR⟩ : ∃ R, resetE k i t l = R := ⟨_, rfl⟩
      have e : resetK d s k i t l = if (ckS d s R.pack).1 ≠ 0 then (10, d, s, k) else (0, (ckS d s R.pack).2.1, (ckS d s R.pack).2.2, R) := by unfold resetK; rw [if_neg hbad, if_neg hlong, hRR]
      obtain ⟨vr, hvr⟩ : ∃ vr, resetK d s k i t l = vr := ⟨_, rfl⟩
      rw [hvr] at e ⊢
      rw [hRR] at hpk
      have HE := Lib.hid e
      have HRR := Lib.hid hRR
      have hwf : R.wf := hRR ▸ resetE_wf HH.out.rd.wf (by omega) (by omega) ht hl (by omega)
      have HWF := Lib.hid hwf
      clear e hvr hRR hbad HE0 hwf
      by_cases hke : keepsE k i t
      · refine (callsIn_wide (n := 3)).1 ?_
        refine callsIn_of_wp_marks Try.func19 rfl trivial ?_ rfl
        simp only [Try.ntmps19, List.size_toArray, List.length_cons, List.length_nil, Nat.reduceAdd, Nat.reduceSub, Array.replicate_succ, Array.replicate_zero, List.push_toArray, List.append_toArray, List.nil_append, List.cons_append]
        refine wpIn_wide.2 ?_
        go_upto_region 7 with fail
        go_cut [9] from 33 to 50 (fun v wx => ∃ N B vs, v = .pointer (some ⟨B, 0, none⟩) ∧ NewK w wx q (resetE k i t l) N B vs)
        case first =>
          refine wp_region_tree (Fr [] w) (seqT [0,1,2,3,4,5,6,7,8,9,10,11,12,13,14] (.two 15 (.one 16 (.two 17 (.one 18 (.one 19 .done)) 18 (.one 17 (.one 19 .done)))) 18 (.one 15 (.one 16 (.one 17 (.one 19 .done)))))) [] [15, 17, 18, 19] [3, 7, 11] mixed15 (by kernel_rfl) ?_
          have hS : Fr [] w w.drew := (Fr.refl _ _).drew
          have hsw : w.drew.heap.size = w.heap.size := rfl
          simp only [seqT, List.foldr]
          repeat (first | (refine wpT_free ?_ (by rfl) (by rfl) (fun w' => ?_) ?_; rotate_left; (simp only [pickN]; go_simp; rfl); simp only [pickN, Act.put, List.setIfInBounds_toArray, List.set_cons_zero, List.set_cons_succ]) | (refine wpT_take ?_ hS (by rfl) (by rfl) (fun w' hw' => ?_) ?_; rotate_left; (simp only [pickN]; go_simp; rfl); simp only [pickN, Act.put, List.setIfInBounds_toArray, List.set_cons_zero, List.set_cons_succ]))
          refine wpT_two ?_ ?_
          · refine wpList_appB rfl _ _ 33 33 rfl w.heap.size 5 5 .u8 1 Try.underlying33 Try.underlying33 info_byte (.slice none 0 0) 0 [] (by rfl) (Own.nil _ _ _ _) a l.length c (bv l) (by rfl) (HR.out.rd.fr0 hS) (by rw [bv_length]) (bv_one _) (by simp only [maxLen]; omega) (by omega) (by have := (hS).size; omega) ?_
            intro v15 w15 O15 F15 K15 _
            rw [Nat.zero_add, List.nil_append] at O15
            obtain ⟨a15, c15, hv15, _, _, _⟩ := O15.form
            subst hv15
            have h15 : Fr [] w w15 := (hS).trans0 F15
            refine effT_keep h15 ?_
            simp only [pickN, Act.put, List.setIfInBounds_toArray, List.set_cons_zero, List.set_cons_succ]
            have hb15 := hbd a15 l.length c15
            repeat (first | (refine wpT_free ?_ (by rfl) (by rfl) (fun w' => ?_) ?_; rotate_left; (simp only [pickN]; go_simp; rfl); simp only [pickN, Act.put, List.setIfInBounds_toArray, List.set_cons_zero, List.set_cons_succ]) | (refine wpT_take ?_ hS (by rfl) (by rfl) (fun w' hw' => ?_) ?_; rotate_left; (simp only [pickN]; go_simp; rfl); simp only [pickN, Act.put, List.setIfInBounds_toArray, List.set_cons_zero, List.set_cons_succ]))
            have hz15 := h15.size
            refine wpT_two ?_ ?_
            · refine wpList_boxB rfl 70 _ rfl [.pointer (some ⟨q, 0, none⟩), .int .i64 k.term, .int .i64 k.vote, .int .i64 i, .int .i64 t, .slice a15 l.length c15, .slice none 0 0] (by first | rfl | (simp only [pickN]; rfl)) ?_
              intro w17 B17 F17 S17
              clear S17
              have h17 : Fr [] w w17 := (h15).trans0 F17
              refine effT_keep h17 ?_
              simp only [pickN, Act.put, List.setIfInBounds_toArray, List.set_cons_zero, List.set_cons_succ]
              have hz17 := h17.size
              refine wpT_eff (by rfl) ?_
              refine wpList_allocV rfl 27 rfl (.pointer none) pkeep_zero rfl ?_
              intro w18 B18 F18 S18
              clear S18
              have h18 : Fr [] w w18 := (h17).trans0 F18
              refine effT_keep h18 ?_
              simp only [pickN, Act.put, List.setIfInBounds_toArray, List.set_cons_zero, List.set_cons_succ]
              refine wpT_eff (by rfl) ?_
              refine wpList_store1 rfl 27 _ _ rfl w17.heap.size 0 (.pointer (some ⟨w15.heap.size, 0, none⟩)) (by rfl) (by rfl) rfl 27 _ B18 (by simp) (by kernel_rfl) rfl ?_
              intro w19 B19 F19 S19
              have h19 : Fr [] w w19 := (h18).trans F19 (fun b hb hlt => by rw [List.mem_singleton.1 hb] at hlt; have := (hz17); omega)
              refine effT_keep h19 (wpT_done ?_)
              simp only [pickN, Act.put, List.setIfInBounds_toArray, List.set_cons_zero, List.set_cons_succ]
              have HNK := Lib.hid (show NewK w w19 q (resetE k i t l) (w15.heap.size) (w17.heap.size) (.slice a15 l.length c15) from
                ⟨B19, ((B17.fr F18 (by simp))).fr F19 (fun hm => (B18).ne ((B17.fr F18 (by simp))) (by decide) (List.mem_singleton.1 hm).symm), ((((O15.fr0 F17).fr0 F18)).fr F19 (fun g hg hm => by obtain ⟨cur, hcur⟩ := (((O15.fr0 F17).fr0 F18)).blkOf hg; rw [List.mem_singleton.1 hm] at hcur; exact hcur.ne (B18) (by decide) rfl)).base (Nat.le_refl _), hz15, hz17, h19⟩)
              clear F19 B19 S19
              go_wp2_with fail
              go_meet
              exact ⟨_, _, _, rfl, HNK.out⟩
            · refine wpList_allocV rfl 27 rfl (.pointer none) pkeep_zero rfl ?_
              intro w18 B18 F18 S18
              clear S18
              have h18 : Fr [] w w18 := (h15).trans0 F18
              refine effT_keep h18 ?_
              simp only [pickN, Act.put, List.setIfInBounds_toArray, List.set_cons_zero, List.set_cons_succ]
              have hz18 := h18.size
              refine wpT_eff (by rfl) ?_
              refine wpList_boxB rfl 70 _ rfl [.pointer (some ⟨q, 0, none⟩), .int .i64 k.term, .int .i64 k.vote, .int .i64 i, .int .i64 t, .slice a15 l.length c15, .slice none 0 0] (by first | rfl | (simp only [pickN]; rfl)) ?_
              intro w17 B17 F17 S17
              clear S17
              have h17 : Fr [] w w17 := (h18).trans0 F17
              refine effT_keep h17 ?_
              simp only [pickN, Act.put, List.setIfInBounds_toArray, List.set_cons_zero, List.set_cons_succ]
              refine wpT_eff (by rfl) ?_
              refine wpList_store1 rfl 27 _ _ rfl w15.heap.size 0 (.pointer (some ⟨w18.heap.size, 0, none⟩)) (by rfl) (by rfl) rfl 27 _ (B18.fr F17 (by simp)) (by simp) (by kernel_rfl) rfl ?_
              intro w19 B19 F19 S19
              have h19 : Fr [] w w19 := (h17).trans F19 (fun b hb hlt => by rw [List.mem_singleton.1 hb] at hlt; have := (hz15); omega)
              refine effT_keep h19 (wpT_done ?_)
              simp only [pickN, Act.put, List.setIfInBounds_toArray, List.set_cons_zero, List.set_cons_succ]
              have HNK := Lib.hid (show NewK w w19 q (resetE k i t l) (w18.heap.size) (w15.heap.size) (.slice a15 l.length c15) from
                ⟨B19, (B17).fr F19 (fun hm => ((B18.fr F17 (by simp))).ne (B17) (by decide) (List.mem_singleton.1 hm).symm), ((((O15.fr0 F18).fr0 F17)).fr F19 (fun g hg hm => by obtain ⟨cur, hcur⟩ := (((O15.fr0 F18).fr0 F17)).blkOf hg; rw [List.mem_singleton.1 hm] at hcur; exact hcur.ne ((B18.fr F17 (by simp))) (by decide) rfl)).base (Nat.le_refl _), hz18, hz15, h19⟩)
              clear F19 B19 S19
              go_wp2_with fail
              go_meet
              exact ⟨_, _, _, rfl, HNK.out⟩
          · refine wpList_allocV rfl 27 rfl (.pointer none) pkeep_zero rfl ?_
            intro w18 B18 F18 S18
            clear S18
            have h18 : Fr [] w w18 := (hS).trans0 F18
            refine effT_keep h18 ?_
            simp only [pickN, Act.put, List.setIfInBounds_toArray, List.set_cons_zero, List.set_cons_succ]
            have hz18 := h18.size
            refine wpT_eff (by rfl) ?_
            refine wpList_appB rfl _ _ 33 33 rfl w.heap.size 5 5 .u8 1 Try.underlying33 Try.underlying33 info_byte (.slice none 0 0) 0 [] (by rfl) (Own.nil _ _ _ _) a l.length c (bv l) (by rfl) (HR.out.rd.fr0 h18) (by rw [bv_length]) (bv_one _) (by simp only [maxLen]; omega) (by omega) (by have := (h18).size; omega) ?_
            intro v15 w15 O15 F15 K15 _
            rw [Nat.zero_add, List.nil_append] at O15
            obtain ⟨a15, c15, hv15, _, _, _⟩ := O15.form
            subst hv15
            have h15 : Fr [] w w15 := (h18).trans0 F15
            refine effT_keep h15 ?_
            simp only [pickN, Act.put, List.setIfInBounds_toArray, List.set_cons_zero, List.set_cons_succ]
            have hb15 := hbd a15 l.length c15
            repeat (first | (refine wpT_free ?_ (by rfl) (by rfl) (fun w' => ?_) ?_; rotate_left; (simp only [pickN]; go_simp; rfl); simp only [pickN, Act.put, List.setIfInBounds_toArray, List.set_cons_zero, List.set_cons_succ]) | (refine wpT_take ?_ hS (by rfl) (by rfl) (fun w' hw' => ?_) ?_; rotate_left; (simp only [pickN]; go_simp; rfl); simp only [pickN, Act.put, List.setIfInBounds_toArray, List.set_cons_zero, List.set_cons_succ]))
            have hz15 := h15.size
            refine wpT_eff (by rfl) ?_
            refine wpList_boxB rfl 70 _ rfl [.pointer (some ⟨q, 0, none⟩), .int .i64 k.term, .int .i64 k.vote, .int .i64 i, .int .i64 t, .slice a15 l.length c15, .slice none 0 0] (by first | rfl | (simp only [pickN]; rfl)) ?_
            intro w17 B17 F17 S17
            clear S17
            have h17 : Fr [] w w17 := (h15).trans0 F17
            refine effT_keep h17 ?_
            simp only [pickN, Act.put, List.setIfInBounds_toArray, List.set_cons_zero, List.set_cons_succ]
            refine wpT_eff (by rfl) ?_
            refine wpList_store1 rfl 27 _ _ rfl w.heap.size 0 (.pointer (some ⟨w15.heap.size, 0, none⟩)) (by rfl) (by rfl) rfl 27 _ ((B18.fr F15 (by simp)).fr F17 (by simp)) (by simp) (by kernel_rfl) rfl ?_
            intro w19 B19 F19 S19
            have h19 : Fr [] w w19 := (h17).trans F19 (fun b hb hlt => by rw [List.mem_singleton.1 hb] at hlt; have := ((Nat.le_refl w.heap.size)); omega)
            refine effT_keep h19 (wpT_done ?_)
            simp only [pickN, Act.put, List.setIfInBounds_toArray, List.set_cons_zero, List.set_cons_succ]
            have HNK := Lib.hid (show NewK w w19 q (resetE k i t l) (w15.heap.size) (w.heap.size) (.slice a15 l.length c15) from
              ⟨B19, (B17).fr F19 (fun hm => (((B18.fr F15 (by simp)).fr F17 (by simp))).ne (B17) (by decide) (List.mem_singleton.1 hm).symm), (((O15.fr0 F17)).fr F19 (fun g hg hm => by obtain ⟨cur, hcur⟩ := ((O15.fr0 F17)).blkOf hg; rw [List.mem_singleton.1 hm] at hcur; exact hcur.ne (((B18.fr F15 (by simp)).fr F17 (by simp))) (by decide) rfl)).base (Nat.le_refl _), hz15, (Nat.le_refl w.heap.size), h19⟩)
            clear F19 B19 S19
            go_wp2_with fail
            go_meet
            exact ⟨_, _, _, rfl, HNK.out⟩
        obtain ⟨N, B, vsn, rfl, hNK⟩ := hcut
        have HNK := Lib.hid hNK
        have HKc := Lib.hid (HH.out.fr0 hNK.fr)
        clear hNK
        have HL := Lib.hid (fun j => (klast_calls (HKc.out.rd.fr0 ((Fr.refl [] wc).drewN j))).mono (R' := fun e w' => e = .returned (.int .i64 k.last) ∧ ∃ m, w' = wc.drewN m) (fun e w' hw' => ⟨hw'.1, by obtain ⟨m, hm⟩ := hw'.2; exact ⟨j + m, by rw [hm, World.drewN_drewN]⟩⟩))
        have hRe : R.es = k.es.drop (i - k.base).toNat := by rw [← HRR.out]; show (if keepsE k i t then _ else _) = _; rw [if_pos hke]
        go_wp2_with fail
        have hla := hke.1
        have hlast : k.last = k.base + k.es.length := rfl
        obtain ⟨n, hn⟩ : ∃ n : Nat, i - k.base - 1 = n := ⟨(i - k.base - 1).toNat, by omega⟩
        have hnl : n < k.es.length := by omega
        obtain ⟨y, hy⟩ : ∃ y, k.es[n]? = some y := ⟨k.es[n], List.getElem?_eq_getElem hnl⟩
        have hyt : y.1 = t := by have h := hke.2; rw [hn, Int.toNat_natCast, List.getD_eq_getElem?_getD, hy] at h; exact h
        obtain ⟨ae, ce, css, hve, he1, he2, he3⟩ := HKc.out.rd.en
        obtain ⟨b, off, cs, hae, hblt, _, hcl, ⟨vd, hcs, hbd2⟩, hrg⟩ := he1.get (by decide) hy
        subst hcs hae hve
        have q6 : ∀ W, Fr [] wc W → W.cell? ⟨K, 6, none⟩ = some (.slice (some ⟨b, off, none⟩) k.es.length ce) := fun W f => (HKc.out.rd.hk.fr f (by simp)).cellAt rfl
        have q3 : ∀ W, Fr [] wc W → W.cell? ⟨K, 3, none⟩ = some (.int .i64 k.base) := fun W f => (HKc.out.rd.hk.fr f (by simp)).cellAt rfl
        have q0 : ∀ W, Fr [] wc W → W.cell? ⟨b, off + n * 2, none⟩ = some (.int .i64 y.1) := fun W f => rangeAt_fr hrg f (by simp) 0 _ rfl
        have j1 : IntKind.i64.wrap (i - k.base) = i - k.base := IntWalk.i64_in _ (by omega)
        have j2 : IntKind.i64.wrap (n : Int) = (n : Int) := IntWalk.i64_in _ (by omega)
        have k0 : (0 : Int) ≤ (n : Int) := by omega
        have k1 : (n : Int) < (k.es.length : Int) := by omega
        have k2 : (y.1 == t) = true := by simpa using hyt
        have hni : n + 1 = (i - k.base).toNat := by omega
        clear he1 he3 hbd2 hrg hcl hlast
        refine wp_region_ord (Fr [] wc) [0,1,2,3,4,5,6,7,8,9,10,11,12,13,14,15,16,17,18,19,20,21] [] [2] [8, 13, 18] mixed15 (by kernel_rfl) ?_
        have hS : Fr [] wc wc.drew := (Fr.refl _ _).drew
        simp only [pairs, pickN]
        repeat (first | (refine wpO_free ?_ (by rfl) (by rfl) (fun w' => ?_) ?_; rotate_left; (go_simp; rfl); simp only [Act.put, List.setIfInBounds_toArray, List.set_cons_zero, List.set_cons_succ]) | (refine wpO_take ?_ hS (by rfl) (by rfl) (fun w' hw' => ?_) ?_; rotate_left; (go_simp; rfl); simp only [Act.put, List.setIfInBounds_toArray, List.set_cons_zero, List.set_cons_succ]) | (refine wpO_pass (by rfl) ?_; simp only [Act.put, List.setIfInBounds_toArray, List.set_cons_zero, List.set_cons_succ]))
        refine wpO_eff (by rfl) ?_
        refine wpList_callC rfl 18 #[.pointer (some ⟨K, 0, none⟩)] (by first | (go_simp; done) | (go_simp; rfl)) _ (HL.out 1) ?_
        rintro e w3 ⟨rfl, nq, rfl⟩
        have hS3 : Fr [] wc (wc.drewN nq) := (Fr.refl _ _).drewN nq
        refine ⟨_, rfl, effQ_keep hS3 ?_⟩
        simp only [Act.put, List.setIfInBounds_toArray, List.set_cons_zero, List.set_cons_succ]
        have hS := hS3
        repeat (first | (refine wpO_free ?_ (by rfl) (by rfl) (fun w' => ?_) ?_; rotate_left; (go_simp; rfl); simp only [Act.put, List.setIfInBounds_toArray, List.set_cons_zero, List.set_cons_succ]) | (refine wpO_take ?_ hS (by rfl) (by rfl) (fun w' hw' => ?_) ?_; rotate_left; (go_simp; rfl); simp only [Act.put, List.setIfInBounds_toArray, List.set_cons_zero, List.set_cons_succ]) | (refine wpO_pass (by rfl) ?_; simp only [Act.put, List.setIfInBounds_toArray, List.set_cons_zero, List.set_cons_succ]))
        refine wpO_nil ?_
        clear hS hS3
        clear q6 q3 q0
        go_wp2_with fail
        refine (behind_calls (wc.drewN nq) K i).mono ?_
        rintro e w4 ⟨rfl, b1, b2, f4, z4⟩
        have hzc : (wc.drewN nq).heap.size = wc.heap.size := rfl
        rw [hzc] at b1 b2 z4
        have fd : Fr [] wc w4 := ((Fr.refl [] wc).drewN nq).trans0 f4
        have HB1 := Lib.hid (And.intro b1 b2)
        have HFD := Lib.hid fd
        have HZ := Lib.hid z4
        clear b1 b2 f4 z4 fd hzc
        dsimp only
        go_wp2_with fail
        have hKw := HH.out.rd.hk.lt
        have hNw := HNK.out.gN
        have hBw := HNK.out.gB
        have hNc := HNK.out.hn.lt
        have hBc := HNK.out.hb.lt
        have hNB : N ≠ B := HNK.out.hn.ne HNK.out.hb (by decide)
        have hF0 : ∀ b, F b → b < w.heap.size := fun b hb => (HH.out.fl b hb).2
        have hz4 := HZ.out
        have hYn : ∀ b, w.heap.size ≤ b → (¬ F b ∨ kX K p bb q lv tl b) := fun b hb => .inl (fun h => by have := hF0 b h; omega)
        have hwc : w.heap.size ≤ wc.heap.size := HNK.out.fr.size
        have hRR := HRR.out
        rw [hRR] at HNK
        refine (wpIn_wide (n := 3)).1 ?_
        refine wpIn_rangeFrV (gf := 53) (lb := #[.pointer (some ⟨wc.heap.size, 0, none⟩), .pointer (some ⟨wc.heap.size + 1, 0, none⟩)]) 10 rfl (enters_of Try.func53 (by kernel_rfl) rfl) (enc := fun x : EV => x.2) (El := SEnt (fun b => ¬ F b ∨ kX K p bb q lv tl b)) (S := []) (X := fun x => x = N ∨ w4.heap.size ≤ x) (N := 1000000) (End := fun xs _ => xs.map Prod.fst = k.es.drop (i - k.base).toNat) (by simp) (fun k hk => .inr hk)
          (behind1_seq (HKc.out.rd.fr0 HFD.out) HB1.out.1 HB1.out.2 (fun x hx => ?far) h1 h2)
          (ResI (fun b => ¬ F b ∨ kX K p bb q lv tl b) w4 q R N B vsn) ?hI ?hEl (fun _ _ _ _ h _ _ => h) (ResAx q R N vsn) ?hAx ?h0 ?assign ?body ?done
        case far =>
          rcases hx with rfl | hx
          · exact ⟨hYn _ hNw, by omega, by omega, by omega⟩
          · exact ⟨hYn _ (by omega), by omega, by omega, by omega⟩
        case hI =>
          rintro pre T A C ⟨ven, hb1, hn1, hr1, hf1⟩ hT hk
          have hcell : ∀ x ty cs, Blk A x ty cs → x ∉ T := fun x ty cs hbk hm => by
            rcases hk x hm with h | ⟨_, o, h1, h2⟩
            · cases h
            · unfold Blk at hbk
              rw [h1] at hbk
              cases hbk
              cases h2
          have hge : ∀ x ∈ T, w4.heap.size ≤ x := fun x hm => by
            rcases hk x hm with h | h
            · cases h
            · exact h.1
          refine ⟨ven, hb1.fr hT (hcell _ _ _ hb1), hn1.fr hT (hcell _ _ _ hn1), hr1.fr hT (fun g hg => ?_) (fun cs t h => h.step hT (fun x hx => .inl (hYn x (by have := hge x hx; omega))) (fun _ h => .inl h)), hf1.trans hT (fun x hm hlt => by have := hge x hm; omega)⟩
          obtain ⟨cur, hcur⟩ := hr1.blkOf hg
          exact hcell _ _ _ hcur
        case hEl =>
          rintro x T A C ⟨v, hx1, hx2⟩ hT hk
          exact ⟨v, hx1, hx2.step hT (fun b hb => .inl (hYn b (by rcases hk b hb with h | h; cases h; have := h.1; omega))) (fun _ h => .inl h)⟩
        case hAx =>
          rintro g pre x T A C ⟨⟨v, hx1, hx2⟩, ven, hn1, hgo⟩ hT hk
          have hcell : ∀ x ty cs, Blk A x ty cs → x ∉ T := fun x ty cs hbk hm => by
            rcases hk x hm with h | ⟨_, o, h1, h2⟩
            · cases h
            · unfold Blk at hbk
              rw [h1] at hbk
              cases hbk
              cases h2
          exact ⟨⟨v, hx1, hx2.fr hT (hcell _ _ _ hx2)⟩, ven, hn1.fr hT (hcell _ _ _ hn1), hgo⟩
        case h0 => exact ⟨.slice none 0 0, HNK.out.hb.fr HFD.out (by simp), HNK.out.hn.fr HFD.out (by simp), RowW.nil _, Fr.refl _ _⟩
        case assign =>
          rintro lo pre ⟨x1, x2⟩ W ⟨ven, _, hn1, hr1, hf1⟩ ⟨v, hv, hbs⟩
          dsimp only at hv
          have hgo : W.heap.size ∉ ob ven := fun hm => by have := (hr1.lt hm).2; omega
          have hNl := hn1.lt
          subst hv
          obtain ⟨av, cv, hvv, _, _, _⟩ := hbs
          dsimp only at hvv
          subst hvv
          simp only [List.setIfInBounds_toArray, List.set_cons_zero, List.set_cons_succ]
          refine wpIn_region_lit ?_
          refine wpListIn_of_wpList (by rintro ⟨a, w, h⟩; exact h) _ _ _ (by intro o ho c; simp only [List.mem_cons, List.not_mem_nil, or_false] at ho; rcases ho with rfl | rfl <;> simp) ?_
          go_wp2_with (first
            | (refine wpList_storeB rfl 75 _ _ rfl W.heap.size 0 [.int .i64 x1.1, .slice av x1.2.length cv] (by rfl) (by rfl) 75 _ HB3.out (by simp) (by exact entry_size) (by simp [Value.oneCell']) ?_; intro w9 B9 F9 S9; rw [splice_all _ _ (by rfl)] at B9; have HB9 := Lib.hid B9; have HF9 := Lib.hid (HF3.out.trans F9 (fun k hk hlt => by rw [List.mem_singleton.1 hk] at hlt; omega)); clear B9 F9 S9)
            | (refine wpList_allocZ rfl 75 rfl _ entry_zero ?_; intro w3 B3 F3 S3; have HB3 := Lib.hid B3; have HF3 := Lib.hid F3; clear B3 F3 S3))
          exact ⟨HF9.out, ⟨.slice av x1.2.length cv, rfl, HB9.out⟩, ven, hn1.fr HF9.out (by simp), hgo⟩
        case body =>
          rintro lo pre ⟨x1, x2⟩ g W ⟨ven, hb1, hn1, hr1, hf1⟩ ⟨v0, hv0, hbs⟩ ⟨⟨v, hv, hg⟩, ven', hn', hgo'⟩ hlen
          have hvn : ven' = ven := by have h := hn'.cellAt (i := 6) rfl; rw [hn1.cellAt (i := 6) rfl] at h; exact (Option.some.inj h).symm
          rw [hvn] at hgo'
          clear hvn hn'
          dsimp only at hv hv0 hbs hg
          subst hv
          simp only [Value.agg.injEq] at hv0
          have hvv : v = v0 := by simpa using hv0
          subst hvv
          obtain ⟨a1, k1, rfl, g1, g2⟩ := hr1.form
          obtain ⟨ad, cd, hvd, hd1, hd2, hd3⟩ := hbs
          subst hvd
          have hml : (pre.map Prod.fst).length = pre.length := List.length_map _
          generalize hL : pre.map Prod.fst = L at *
          have hno : ∀ (x : Nat) (ty : TypeId) cs, Blk W x ty cs → ty ≠ 75 → x ∉ ob (.slice a1 L.length k1) := fun x ty cs hb ht hm => by
            obtain ⟨cur, hc⟩ := hr1.blkOf hm
            exact hb.ne hc ht rfl
          have hno2 : ∀ (x : Nat) (ty : TypeId) cs, Blk W x ty cs → ty ≠ 75 → x ∉ ob (.slice a1 L.length k1) := hno
          have hgo : g ∉ ob (.slice a1 L.length k1) := hgo'
          have HML := Lib.hid hml
          clear hml hgo'
          have p9 : ∀ W', Fr (ob (.slice a1 L.length k1)) W W' → W'.cell? ⟨B, 0, none⟩ = some (.pointer (some ⟨N, 0, none⟩)) := fun W' f => (hb1.fr f (hno _ _ _ hb1 (by decide))).cellAt rfl
          have p6 : ∀ W', Fr (ob (.slice a1 L.length k1)) W W' → W'.cell? ⟨N, 6, none⟩ = some (.slice a1 L.length k1) := fun W' f => (hn1.fr f (hno _ _ _ hn1 (by decide))).cellAt rfl
          have pg : ∀ W', Fr (ob (.slice a1 L.length k1)) W W' → W'.rangeAt g 0 [.int .i64 x1.1, .slice ad x1.2.length cd] := fun W' f => by have := (hg.fr f hgo).range 0 2; simpa using this
          have HI := Lib.hid (And.intro hb1 (And.intro hn1 (And.intro hr1 hf1)))
          have HD1 := Lib.hid hd1
          have hW4 := hf1.size
          clear hb1 hn1 hr1 hf1 hd1 hg hv0
          simp only [List.setIfInBounds_toArray, List.set_cons_zero, List.set_cons_succ]
          refine wpIn_block ?_
          refine wpIn_round_ord (Fr (ob (.slice a1 L.length k1)) W) [0,1,2,3,4,5,6,7,8,9,10] [10] [6, 7, 10] [0, 1, 4, 5] mixed15 (by rintro ⟨a, w, h⟩; exact h) (by rfl) (by kernel_rfl) ?_
          have hS : Fr (ob (.slice a1 L.length k1)) W W.drew := (Fr.refl _ _).drew
          simp only [pairs, pickN]
          repeat (first | (refine wpO_takeY _ hS (by rfl) (yieldsIf_load_mid (by rfl) 75 _ rfl g 0 rfl [.int .i64 x1.1, .slice ad x1.2.length cd] _ pg Try.underlying75 rfl (by exact entry_size)) ?_; simp only [Act.put, List.setIfInBounds_toArray, List.set_cons_zero, List.set_cons_succ]) | (refine wpO_free ?_ (by rfl) (by rfl) (fun w' => ?_) ?_; rotate_left; (go_simp; rfl); simp only [Act.put, List.setIfInBounds_toArray, List.set_cons_zero, List.set_cons_succ]) | (refine wpO_take ?_ hS (by rfl) (by rfl) (fun w' hw' => ?_) ?_; rotate_left; (go_simp; rfl); simp only [Act.put, List.setIfInBounds_toArray, List.set_cons_zero, List.set_cons_succ]) | (refine wpO_pass (by rfl) ?_; simp only [Act.put, List.setIfInBounds_toArray, List.set_cons_zero, List.set_cons_succ]))
          refine wpO_eff (by rfl) ?_
          refine wpList_buildSlice1 rfl 68 75 _ rfl [.int .i64 0, .slice none 0 0] 2 32 Try.underlying68 info_entry (by simp) (by omega) (by omega) _ [.int .i64 x1.1, .slice ad x1.2.length cd] (by rfl) (by rfl) (by simp) ?_
          intro w5 B5 F5 S5
          have f5 : Fr [] W w5 := ((Fr.refl [] W).drew).trans0 F5
          refine effQ_keep (hS.trans0 F5) ?_
          simp only [Act.put, List.setIfInBounds_toArray, List.set_cons_zero, List.set_cons_succ]
          have hR5 : RowW (fun W cs t => EntL W (fun b => ¬ F b ∨ kX K p bb q lv tl b) cs t) 2 75 w4.heap.size w5 (.slice a1 L.length k1) L := HI.out.2.2.1.fr f5 (by simp) (fun cs t h => h.step f5 (by simp) (fun _ h => .inl h))
          refine wpO_eff (by rfl) ?_
          refine wpList_appW rfl _ _ 68 68 rfl w4.heap.size 75 75 [.int .i64 0, .slice none 0 0] 2 32 Try.underlying68 Try.underlying68 info_entry rfl (by decide) _ L (by rfl) hR5 _ 1 (by rfl) 75 [.int .i64 x1.1, .slice ad x1.2.length cd] B5 rfl (by simp [Value.oneCell']) x1 ⟨_, rfl, ad, cd, rfl, HD1.out.step f5 (by simp) (fun _ h => .inl h), hd2, hd3⟩ (by have := HML.out; simp only [maxLen]; omega) (by have := HML.out; omega) (by have := f5.size; omega) (fun w' cs t f h => h.step f (fun x hx => .inl (hYn x (by have := (hR5.lt hx).1; omega))) (fun _ h => .inl h)) ?_
          intro v6 w6 R6 F6 K6
          have f6 : Fr (ob (.slice a1 L.length k1)) W w6 := (f5.ext (S := ob (.slice a1 L.length k1))).trans1 F6
          refine effQ_keep f6 ?_
          simp only [Act.put, List.setIfInBounds_toArray, List.set_cons_zero, List.set_cons_succ]
          repeat (first | (refine wpO_free ?_ (by rfl) (by rfl) (fun w' => ?_) ?_; rotate_left; (go_simp; rfl); simp only [Act.put, List.setIfInBounds_toArray, List.set_cons_zero, List.set_cons_succ]) | (refine wpO_pass (by rfl) ?_; simp only [Act.put, List.setIfInBounds_toArray, List.set_cons_zero, List.set_cons_succ]))
          refine wpO_eff (by rfl) ?_
          obtain ⟨a6, k6, hv6, _, _⟩ := R6.form
          subst hv6
          have hob : ∀ x, w5.heap.size ≤ x ∨ w4.heap.size ≤ x → x ≠ N := fun x hx => by have := f5.size; omega
          have N6 := HI.out.2.1.fr f6 (hno2 N _ _ HI.out.2.1 (by decide))
          have B6 := HI.out.1.fr f6 (hno2 B _ _ HI.out.1 (by decide))
          refine wpList_store1 rfl 68 _ _ rfl N 6 (.slice a6 (L ++ [x1]).length k6) (by rfl) (by rfl) rfl 70 _ N6 (by simp [kpC]) (by kernel_rfl) rfl ?_
          intro w7 B7 F7 S7
          refine effQ_skip (by decide) (wpO_nil ?_)
          simp only [Act.put, List.setIfInBounds_toArray, List.set_cons_zero, List.set_cons_succ]
          have hN6 : N ∉ ob (.slice a6 (L ++ [x1]).length k6) := fun hm => by obtain ⟨cur, hc⟩ := R6.blkOf hm; exact N6.ne hc (by decide) rfl
          have FT : Fr (N :: ob (.slice a1 L.length k1)) W w7 := (f6.mono (fun x hx _ => List.mem_cons_of_mem _ hx)).trans F7 (fun x hx _ => by rw [List.mem_singleton.1 hx]; exact List.mem_cons_self)
          refine ⟨⟨_, FT, fun x hx => ?_⟩, .slice a6 (L ++ [x1]).length k6, B6.fr F7 (by simpa using hNB.symm), B7, ?_, HI.out.2.2.2.trans FT (fun x hx hlt => ?_)⟩
          · rcases List.mem_cons.1 hx with rfl | hx
            · exact ⟨.inl rfl, _, _, HI.out.2.1⟩
            · obtain ⟨cur, hcur⟩ := HI.out.2.2.1.blkOf hx
              exact ⟨.inr (HI.out.2.2.1.lt hx).1, _, _, hcur⟩
          · rw [List.map_append, hL]
            exact R6.fr F7 (fun x hx hm => hN6 ((List.mem_singleton.1 hm) ▸ hx)) (fun cs t h => h.step F7 (fun x hx => .inl (hYn x (by rw [List.mem_singleton.1 hx]; exact hNw))) (fun _ h => .inl h))
          · rcases List.mem_cons.1 hx with rfl | hx
            · simp
            · have := (HI.out.2.2.1.lt hx).1
              omega
        case done =>
          rintro D xs W hD hxs ⟨ven, hb1, hn1, hr1, hf1⟩ hKD
          have hDl := (Array.getElem?_eq_some_iff.1 hKD).1
          have hcell : ∀ x ty cs, Blk W x ty cs → x ≠ D := fun x ty cs hbk hm => by
            unfold Blk at hbk
            rw [hm, hKD] at hbk
            cases hbk
          have hsz1 := HFD.out.size
          have hF5 : Fr [] w W := (HNK.out.fr.trans0 HFD.out).trans hf1 (fun x hx hlt => by rw [List.mem_singleton.1 hx] at hlt; omega)
          have hK5 := show KpAt W F base K p bb q lv tl vs _ d s k from (HKc.out.fr0 HFD.out).fr hf1 (fun x hx hF => by rw [List.mem_singleton.1 hx] at hF; have := hF0 _ hF; omega)
          obtain ⟨G, hG⟩ : ∃ G : Nat → Prop, G = fun b => grow F w W b ∧ b ≠ D := ⟨_, rfl⟩
          have hG5 : (∀ b, F b → G b) ∧ (∀ b, G b → grow F w W b) := by
            rw [hG]
            exact ⟨fun b hb => ⟨.inl hb, by have := hF0 b hb; omega⟩, fun b hb => hb.1⟩
          have hGD : ¬ G D := by rw [hG]; exact fun h => h.2 rfl
          have hs1 := (HNK.out.hs.fr0 HFD.out).fr hf1 (fun g hg hm => by
            obtain ⟨cur, hcur⟩ := (HNK.out.hs.fr0 HFD.out).blkOf hg
            rw [List.mem_singleton.1 hm] at hcur
            exact hcur.ne (HNK.out.hn.fr HFD.out (by simp)) (by decide) rfl)
          have hnY : ∀ b, w.heap.size ≤ b → b < W.heap.size → b ≠ D → b ≠ K → ¬ (¬ G b ∨ kX K p bb q lv tl b) := fun b h1 h2 h3 h4 hk => by
            rcases hk with hk | hk | hk
            · rw [hG] at hk
              exact hk ⟨.inr ⟨h1, h2⟩, h3⟩
            · exact h4 hk
            · have := (stoX_ge HH.out.sto hk).2
              omega
          have hN5 : KpRd W (fun b => ¬ G b ∨ kX K p bb q lv tl b) N q vsn ven R :=
            ⟨hn1, hs1.bs rfl (fun b hb => by
              obtain ⟨cur, hcur⟩ := hs1.blkOf hb
              have := hs1.lt hb
              exact hnY b this.1 this.2 (hcell _ _ _ hcur) (by omega)), by
              rw [hRe, ← hxs]
              exact hr1.ents (fun b hb => hb.imp (fun h hF => h (hG5.1 b hF)) id) (fun b hb => by
                obtain ⟨cur, hcur⟩ := hr1.blkOf hb
                have := hr1.lt hb
                exact hnY b (by omega) this.2 (hcell _ _ _ hcur) (by omega)), HWF.out⟩
          have HF5 := Lib.hid hF5
          have HK5 := Lib.hid hK5
          have HB5 := Lib.hid hb1
          have HG5 := Lib.hid hG5
          have HN5 := Lib.hid hN5
          have HDD := Lib.hid (And.intro hKD (And.intro hDl (And.intro hGD (And.intro (show ∀ x, kX K p bb q lv tl x → x ≠ D from fun x hx => by have := hF0 x (HH.out.fX x hx); omega) (show w.heap.size ≤ D by omega)))))
          have hgB := HNK.out.gB
          clear hDl hcell hF5 hK5 hG hG5 hGD hs1 hnY hN5 hb1 hn1 hr1 hf1 hxs hF0 hYn HNK HKc HL HB1 HFD HZ hKD
          obtain ⟨w5, hw5⟩ : ∃ w5, W = w5 := ⟨_, rfl⟩
          rw [hw5] at HF5 HK5 HB5 HG5 HN5 HDD ⊢
          clear hw5
          dsimp only
          go_wp2_with fail
          have c0 : ∀ W, Fr [] w5 W → W.cell? ⟨K, 0, none⟩ = some (.pointer (some ⟨q, 0, none⟩)) := fun W f => (HK5.out.rd.hk.fr f (by simp)).cellAt rfl
          have cB : ∀ W, Fr [] w5 W → W.cell? ⟨B, 0, none⟩ = some (.pointer (some ⟨N, 0, none⟩)) := fun W f => (HB5.out.fr f (by simp)).cellAt rfl
          have hz5 := HF5.out.size
          refine wp_region_ord (Fr [] w5) [0,1,2,3,4,5,6,7] [6] [5, 6] [3, 4] mixed15 (by kernel_rfl) ?_
          have hS : Fr [] w5 w5.drew := (Fr.refl _ _).drew
          simp only [pairs, pickN]
          repeat (first | (refine wpO_free ?_ (by rfl) (by rfl) (fun w' => ?_) ?_; rotate_left; (go_simp; rfl); simp only [Act.put, List.setIfInBounds_toArray, List.set_cons_zero, List.set_cons_succ]) | (refine wpO_take ?_ hS (by rfl) (by rfl) (fun w' hw' => ?_) ?_; rotate_left; (go_simp; rfl); simp only [Act.put, List.setIfInBounds_toArray, List.set_cons_zero, List.set_cons_succ]) | (refine wpO_pass (by rfl) ?_; simp only [Act.put, List.setIfInBounds_toArray, List.set_cons_zero, List.set_cons_succ]))
          refine wpO_eff (by rfl) ?_
          refine wpList_callC rfl 41 #[.pointer (some ⟨N, 0, none⟩)] (by first | (go_simp; done) | (go_simp; rfl)) _ (pack_calls (HN5.out.fr0 hS) hpk) ?_
          rintro e w6 ⟨v6, rfl, O6, F6⟩
          obtain ⟨a6, c6, rfl, g1, g2, g3⟩ := O6.form
          have hS6 : Fr [] w5 w6 := hS.trans0 F6
          refine ⟨_, rfl, effQ_keep hS6 ?_⟩
          simp only [Act.put, List.setIfInBounds_toArray, List.set_cons_zero, List.set_cons_succ]
          have S6 := HK5.out.sto.fr0 hS6
          have hrd6 : RdA w6 (stoX p bb q lv tl) a6 (bv R.pack) := (O6.rdS (fun b hb hx => by have := (O6.lt hb).1; have := (stoX_ge HK5.out.sto hx).2; have : w5.drew.heap.size = w5.heap.size := rfl; omega)).1
          refine wpO_eff (by rfl) ?_
          refine wpList_callC rfl 40 #[.pointer (some ⟨q, 0, none⟩), .slice a6 R.pack.length c6] (by first | (go_simp; done) | (go_simp; rfl)) _ (check_calls S6 (by have := hS6.size; omega) a6 R.pack.length c6 R.pack rfl hrd6 HN5.out.wf.byt (by simp only [maxLen]; omega)) ?_
          rintro e w7 ⟨lv7, tl7, rfl, S7, st7, X7⟩
          refine ⟨_, rfl, effQ_skip (by decide) ?_⟩
          simp only [Act.put, List.setIfInBounds_toArray, List.set_cons_zero, List.set_cons_succ]
          repeat (first | (refine wpO_free ?_ (by rfl) (by rfl) (fun w' => ?_) ?_; rotate_left; (go_simp; rfl); simp only [Act.put, List.setIfInBounds_toArray, List.set_cons_zero, List.set_cons_succ]) | (refine wpO_pass (by rfl) ?_; simp only [Act.put, List.setIfInBounds_toArray, List.set_cons_zero, List.set_cons_succ]))
          refine wpO_nil ?_
          obtain ⟨ck, hck⟩ : ∃ ck, ckS d s R.pack = ck := ⟨_, rfl⟩
          rw [hck] at S7 ⊢
          have hE := HE.out
          rw [hck] at hE
          have hz6 := hS6.size
          have hz7 := st7.size
          have hst7 : Stp F w w7 := (Stp.of (X := F) (HF5.out.trans0 hS6) (by simp)).trans (st7.more (fun b hb => HH.out.fX b (.inr hb))) (fun b hb => .inl hb)
          have hG := HG5.out
          have hfl7 : ∀ b, (G b ∨ (w5.heap.size ≤ b ∧ b < w7.heap.size)) → base ≤ b ∧ b < w7.heap.size := fun b hb => by
            rcases hb with hb | hb
            · rcases hG.2 b hb with h | h
              · have := HH.out.fl b h
                exact ⟨this.1, by omega⟩
              · exact ⟨by omega, by omega⟩
            · exact ⟨by omega, hb.2⟩
          have K7 := ((HK5.out.fr0 hS6).turn (by omega) S7 st7 X7).widen (F2 := fun b => G b ∨ (w5.heap.size ≤ b ∧ b < w7.heap.size)) (fun b hb => by
            rcases hb with hb | hb
            · exact .inl (hG.1 b hb)
            · exact .inr ⟨by omega, hb.2⟩) hfl7
          have hGR : ∀ b, (G b ∨ (w5.heap.size ≤ b ∧ b < w7.heap.size)) → F b ∨ w.heap.size ≤ b := fun b hb => by
            rcases hb with hb | hb
            · rcases hG.2 b hb with h | h
              · exact .inl h
              · exact .inr h.1
            · exact .inr (by omega)
          have HD7 := Lib.hid (show ∀ x, x < w5.heap.size → ¬ kX K p bb q lv tl x → w7.heap[x]? = w5.heap[x]? from fun x hx hk => by
            obtain ⟨T, fT, hT⟩ := st7
            exact (fT.block x (by omega) (fun hm => by
              rcases hT x hm with h | h
              · exact hk (.inr h)
              · omega)).trans (hS6.block x hx (by simp)))
          by_cases hz : ck.1 = 0
          · rw [if_neg (by rw [hz]; simp)] at hE
            subst hE
            have N7 := (HN5.out.hk.fr hS6 (by simp)).stp st7 (S6.kn (HN5.out.hk.fr hS6 (by simp)))
            have B7 := (HB5.out.fr hS6 (by simp)).stp st7 (fun hx => by obtain ⟨ty, cur, hc, _⟩ := stoX_typed S6 hx; have := (stoX_ge HH.out.sto hx).2; omega)
            have HY7 := Lib.hid (show Bs w7 (fun b => ¬ (G b ∨ (w5.heap.size ≤ b ∧ b < w7.heap.size)) ∨ kX K p bb q lv7 tl7 b) vsn R.snap ∧ Ents w7 (fun b => ¬ (G b ∨ (w5.heap.size ≤ b ∧ b < w7.heap.size)) ∨ kX K p bb q lv7 tl7 b) ven R.es from by
              obtain ⟨T, fT, hT⟩ := st7
              have hY : ∀ b ∈ T, (¬ G b ∨ kX K p bb q lv tl b) ∨ w6.heap.size ≤ b := fun b hb => (hT b hb).imp (fun hx => .inr (.inr hx)) id
              have hY' : ∀ b, (¬ (G b ∨ (w5.heap.size ≤ b ∧ b < w7.heap.size)) ∨ kX K p bb q lv7 tl7 b) → (¬ G b ∨ kX K p bb q lv tl b) ∨ w6.heap.size ≤ b := fun b hb => by
                rcases hb with hb | hb | hb
                · exact .inl (.inl (fun h => hb (.inl h)))
                · exact .inl (.inr (.inl hb))
                · exact (X7 b hb).imp (fun hx => .inr (.inr hx)) id
              exact ⟨(HN5.out.fr0 hS6).sn.step fT hY hY', (HN5.out.fr0 hS6).en.step fT hY hY'⟩)
            have cB7 : w7.cell? ⟨B, 0, none⟩ = some (.pointer (some ⟨N, 0, none⟩)) := B7.cellAt rfl
            have HK7 := Lib.hid K7
            have HN7 := Lib.hid N7
            have HST7 := Lib.hid (And.intro hst7 hGR)
            have hwR := HN5.out.wf
            rw [hz]
            clear hS hS6 O6 F6 g1 g2 g3 S6 hrd6 S7 st7 X7 hck K7 N7 B7 hst7 hGR hfl7 hG c0 cB
            go_wp2_with (first
              | (refine wpList_storeB rfl 70 _ _ rfl K 0 (kpC q R vsn ven) (by rfl) (by rfl) 70 _ HK7.out.rd.hk (by simp [kpC]) (by exact keep_size) (by obtain ⟨x1, x2, hx, _⟩ := HY7.out.1; obtain ⟨y1, y2, y3, hy, _⟩ := HY7.out.2; subst hx hy; simp [kpC, Value.oneCell']) ?_; intro w8 B8 F8 S8; rw [splice_all _ _ (by rfl)] at B8)
              | (refine wpList_loadB rfl 70 _ rfl N (by rfl) 70 (kpC q R vsn ven) _ HN7.out Try.underlying70 rfl (by exact keep_size) ?_))
            have HK8 := Lib.hid (HK7.out.cells F8 B8 HY7.out.1 HY7.out.2 hwR)
            have HST8 := Lib.hid (HST7.out.1.trans (Stp.of (X := F) F8 (fun b hb => .inl (by rw [List.mem_singleton.1 hb]; exact HH.out.fX K (.inl rfl)))) (fun b hb => .inl hb))
            have HGR8 := Lib.hid HST7.out.2
            have HD8 := Lib.hid (show ∀ x, x < w5.heap.size → ¬ kX K p bb q lv tl x → w8.heap[x]? = w5.heap[x]? from fun x hx hk => (F8.block x (by omega) (fun hm => hk (.inl (List.mem_singleton.1 hm)))).trans (HD7.out x hx hk))
            clear B8 F8 S8
            (go_wp2_with fail; have hDw := HD8.out D HDD.out.2.1 (fun hx => HDD.out.2.2.2.1 D hx rfl); have FD : Fr [D] w8 (World.putObj w8 D (.deferred none)) := (Fr.refl _ _).putObj D _ (.inl (by simp)); have hF2 : ¬ (G D ∨ (w5.heap.size ≤ D ∧ D < w7.heap.size)) := fun h => h.elim HDD.out.2.2.1 (fun h => by have := HDD.out.2.1; omega); refine ⟨by simp, .inl ⟨D, _, rfl, run_takeDeferred (hDw.trans HDD.out.1), ?_⟩⟩; exact ⟨_, results_tmp rfl _ _ _, rfl, _, lv7, tl7, vsn, ven, HK8.out.fr FD (fun b hb => by rw [List.mem_singleton.1 hb]; exact hF2), FrX.trans HST8.out (FD.x (fun b hb => .inr (by rw [List.mem_singleton.1 hb]; exact HDD.out.2.2.2.2))), HGR8.out⟩)
          · rw [if_pos hz] at hE
            subst hE
            have hno := ckS_no (by rw [hck]; exact hz)
            rw [hck] at hno
            have hne : (ck.1 != 0) = true := by simpa using hz
            rw [hno] at K7
            have HK8 := Lib.hid (show KpAt w7 (fun b => G b ∨ (w5.heap.size ≤ b ∧ b < w7.heap.size)) base K p bb q lv7 tl7 vs _ d s k from K7)
            have HST8 := Lib.hid hst7
            have HGR8 := Lib.hid hGR
            clear hS hS6 O6 F6 g1 g2 g3 S6 hrd6 S7 st7 X7 hck K7 hst7 hGR hfl7 hG c0 cB hno
            go_wp2_with fail
            (have hDw := HD7.out D HDD.out.2.1 (fun hx => HDD.out.2.2.2.1 D hx rfl); have FD : Fr [D] w7 (World.putObj w7 D (.deferred none)) := (Fr.refl _ _).putObj D _ (.inl (by simp)); have hF2 : ¬ (G D ∨ (w5.heap.size ≤ D ∧ D < w7.heap.size)) := fun h => h.elim HDD.out.2.2.1 (fun h => by have := HDD.out.2.1; omega); refine ⟨by simp, .inl ⟨D, _, rfl, run_takeDeferred (hDw.trans HDD.out.1), ?_⟩⟩; exact ⟨_, results_tmp rfl _ _ _, rfl, _, lv7, tl7, vs, _, HK8.out.fr FD (fun b hb => by rw [List.mem_singleton.1 hb]; exact hF2), FrX.trans HST8.out (FD.x (fun b hb => .inr (by rw [List.mem_singleton.1 hb]; exact HDD.out.2.2.2.2))), HGR8.out⟩)
      · go_enter Try.func19, Try.ntmps19
        go_upto_region 7 with fail
        go_cut [9] from 33 to 50 (fun v wx => ∃ N B vs, v = .pointer (some ⟨B, 0, none⟩) ∧ NewK w wx q (resetE k i t l) N B vs)
        case first =>
          refine wp_region_tree (Fr [] w) (seqT [0,1,2,3,4,5,6,7,8,9,10,11,12,13,14] (.two 15 (.one 16 (.two 17 (.one 18 (.one 19 .done)) 18 (.one 17 (.one 19 .done)))) 18 (.one 15 (.one 16 (.one 17 (.one 19 .done)))))) [] [15, 17, 18, 19] [3, 7, 11] mixed15 (by kernel_rfl) ?_
          have hS : Fr [] w w.drew := (Fr.refl _ _).drew
          have hsw : w.drew.heap.size = w.heap.size := rfl
          simp only [seqT, List.foldr]
          repeat (first | (refine wpT_free ?_ (by rfl) (by rfl) (fun w' => ?_) ?_; rotate_left; (simp only [pickN]; go_simp; rfl); simp only [pickN, Act.put, List.setIfInBounds_toArray, List.set_cons_zero, List.set_cons_succ]) | (refine wpT_take ?_ hS (by rfl) (by rfl) (fun w' hw' => ?_) ?_; rotate_left; (simp only [pickN]; go_simp; rfl); simp only [pickN, Act.put, List.setIfInBounds_toArray, List.set_cons_zero, List.set_cons_succ]))
          refine wpT_two ?_ ?_
          · refine wpList_appB rfl _ _ 33 33 rfl w.heap.size 5 5 .u8 1 Try.underlying33 Try.underlying33 info_byte (.slice none 0 0) 0 [] (by rfl) (Own.nil _ _ _ _) a l.length c (bv l) (by rfl) (HR.out.rd.fr0 hS) (by rw [bv_length]) (bv_one _) (by simp only [maxLen]; omega) (by omega) (by have := (hS).size; omega) ?_
            intro v15 w15 O15 F15 K15 _
            rw [Nat.zero_add, List.nil_append] at O15
            obtain ⟨a15, c15, hv15, _, _, _⟩ := O15.form
            subst hv15
            have h15 : Fr [] w w15 := (hS).trans0 F15
            refine effT_keep h15 ?_
            simp only [pickN, Act.put, List.setIfInBounds_toArray, List.set_cons_zero, List.set_cons_succ]
            have hb15 := hbd a15 l.length c15
            repeat (first | (refine wpT_free ?_ (by rfl) (by rfl) (fun w' => ?_) ?_; rotate_left; (simp only [pickN]; go_simp; rfl); simp only [pickN, Act.put, List.setIfInBounds_toArray, List.set_cons_zero, List.set_cons_succ]) | (refine wpT_take ?_ hS (by rfl) (by rfl) (fun w' hw' => ?_) ?_; rotate_left; (simp only [pickN]; go_simp; rfl); simp only [pickN, Act.put, List.setIfInBounds_toArray, List.set_cons_zero, List.set_cons_succ]))
            have hz15 := h15.size
            refine wpT_two ?_ ?_
            · refine wpList_boxB rfl 70 _ rfl [.pointer (some ⟨q, 0, none⟩), .int .i64 k.term, .int .i64 k.vote, .int .i64 i, .int .i64 t, .slice a15 l.length c15, .slice none 0 0] (by first | rfl | (simp only [pickN]; rfl)) ?_
              intro w17 B17 F17 S17
              clear S17
              have h17 : Fr [] w w17 := (h15).trans0 F17
              refine effT_keep h17 ?_
              simp only [pickN, Act.put, List.setIfInBounds_toArray, List.set_cons_zero, List.set_cons_succ]
              have hz17 := h17.size
              refine wpT_eff (by rfl) ?_
              refine wpList_allocV rfl 27 rfl (.pointer none) pkeep_zero rfl ?_
              intro w18 B18 F18 S18
              clear S18
              have h18 : Fr [] w w18 := (h17).trans0 F18
              refine effT_keep h18 ?_
              simp only [pickN, Act.put, List.setIfInBounds_toArray, List.set_cons_zero, List.set_cons_succ]
              refine wpT_eff (by rfl) ?_
              refine wpList_store1 rfl 27 _ _ rfl w17.heap.size 0 (.pointer (some ⟨w15.heap.size, 0, none⟩)) (by rfl) (by rfl) rfl 27 _ B18 (by simp) (by kernel_rfl) rfl ?_
              intro w19 B19 F19 S19
              have h19 : Fr [] w w19 := (h18).trans F19 (fun b hb hlt => by rw [List.mem_singleton.1 hb] at hlt; have := (hz17); omega)
              refine effT_keep h19 (wpT_done ?_)
              simp only [pickN, Act.put, List.setIfInBounds_toArray, List.set_cons_zero, List.set_cons_succ]
              have HNK := Lib.hid (show NewK w w19 q (resetE k i t l) (w15.heap.size) (w17.heap.size) (.slice a15 l.length c15) from
                ⟨B19, ((B17.fr F18 (by simp))).fr F19 (fun hm => (B18).ne ((B17.fr F18 (by simp))) (by decide) (List.mem_singleton.1 hm).symm), ((((O15.fr0 F17).fr0 F18)).fr F19 (fun g hg hm => by obtain ⟨cur, hcur⟩ := (((O15.fr0 F17).fr0 F18)).blkOf hg; rw [List.mem_singleton.1 hm] at hcur; exact hcur.ne (B18) (by decide) rfl)).base (Nat.le_refl _), hz15, hz17, h19⟩)
              clear F19 B19 S19
              go_wp2_with fail
              go_meet
              exact ⟨_, _, _, rfl, HNK.out⟩
            · refine wpList_allocV rfl 27 rfl (.pointer none) pkeep_zero rfl ?_
              intro w18 B18 F18 S18
              clear S18
              have h18 : Fr [] w w18 := (h15).trans0 F18
              refine effT_keep h18 ?_
              simp only [pickN, Act.put, List.setIfInBounds_toArray, List.set_cons_zero, List.set_cons_succ]
              have hz18 := h18.size
              refine wpT_eff (by rfl) ?_
              refine wpList_boxB rfl 70 _ rfl [.pointer (some ⟨q, 0, none⟩), .int .i64 k.term, .int .i64 k.vote, .int .i64 i, .int .i64 t, .slice a15 l.length c15, .slice none 0 0] (by first | rfl | (simp only [pickN]; rfl)) ?_
              intro w17 B17 F17 S17
              clear S17
              have h17 : Fr [] w w17 := (h18).trans0 F17
              refine effT_keep h17 ?_
              simp only [pickN, Act.put, List.setIfInBounds_toArray, List.set_cons_zero, List.set_cons_succ]
              refine wpT_eff (by rfl) ?_
              refine wpList_store1 rfl 27 _ _ rfl w15.heap.size 0 (.pointer (some ⟨w18.heap.size, 0, none⟩)) (by rfl) (by rfl) rfl 27 _ (B18.fr F17 (by simp)) (by simp) (by kernel_rfl) rfl ?_
              intro w19 B19 F19 S19
              have h19 : Fr [] w w19 := (h17).trans F19 (fun b hb hlt => by rw [List.mem_singleton.1 hb] at hlt; have := (hz15); omega)
              refine effT_keep h19 (wpT_done ?_)
              simp only [pickN, Act.put, List.setIfInBounds_toArray, List.set_cons_zero, List.set_cons_succ]
              have HNK := Lib.hid (show NewK w w19 q (resetE k i t l) (w18.heap.size) (w15.heap.size) (.slice a15 l.length c15) from
                ⟨B19, (B17).fr F19 (fun hm => ((B18.fr F17 (by simp))).ne (B17) (by decide) (List.mem_singleton.1 hm).symm), ((((O15.fr0 F18).fr0 F17)).fr F19 (fun g hg hm => by obtain ⟨cur, hcur⟩ := (((O15.fr0 F18).fr0 F17)).blkOf hg; rw [List.mem_singleton.1 hm] at hcur; exact hcur.ne ((B18.fr F17 (by simp))) (by decide) rfl)).base (Nat.le_refl _), hz18, hz15, h19⟩)
              clear F19 B19 S19
              go_wp2_with fail
              go_meet
              exact ⟨_, _, _, rfl, HNK.out⟩
          · refine wpList_allocV rfl 27 rfl (.pointer none) pkeep_zero rfl ?_
            intro w18 B18 F18 S18
            clear S18
            have h18 : Fr [] w w18 := (hS).trans0 F18
            refine effT_keep h18 ?_
            simp only [pickN, Act.put, List.setIfInBounds_toArray, List.set_cons_zero, List.set_cons_succ]
            have hz18 := h18.size
            refine wpT_eff (by rfl) ?_
            refine wpList_appB rfl _ _ 33 33 rfl w.heap.size 5 5 .u8 1 Try.underlying33 Try.underlying33 info_byte (.slice none 0 0) 0 [] (by rfl) (Own.nil _ _ _ _) a l.length c (bv l) (by rfl) (HR.out.rd.fr0 h18) (by rw [bv_length]) (bv_one _) (by simp only [maxLen]; omega) (by omega) (by have := (h18).size; omega) ?_
            intro v15 w15 O15 F15 K15 _
            rw [Nat.zero_add, List.nil_append] at O15
            obtain ⟨a15, c15, hv15, _, _, _⟩ := O15.form
            subst hv15
            have h15 : Fr [] w w15 := (h18).trans0 F15
            refine effT_keep h15 ?_
            simp only [pickN, Act.put, List.setIfInBounds_toArray, List.set_cons_zero, List.set_cons_succ]
            have hb15 := hbd a15 l.length c15
            repeat (first | (refine wpT_free ?_ (by rfl) (by rfl) (fun w' => ?_) ?_; rotate_left; (simp only [pickN]; go_simp; rfl); simp only [pickN, Act.put, List.setIfInBounds_toArray, List.set_cons_zero, List.set_cons_succ]) | (refine wpT_take ?_ hS (by rfl) (by rfl) (fun w' hw' => ?_) ?_; rotate_left; (simp only [pickN]; go_simp; rfl); simp only [pickN, Act.put, List.setIfInBounds_toArray, List.set_cons_zero, List.set_cons_succ]))
            have hz15 := h15.size
            refine wpT_eff (by rfl) ?_
            refine wpList_boxB rfl 70 _ rfl [.pointer (some ⟨q, 0, none⟩), .int .i64 k.term, .int .i64 k.vote, .int .i64 i, .int .i64 t, .slice a15 l.length c15, .slice none 0 0] (by first | rfl | (simp only [pickN]; rfl)) ?_
            intro w17 B17 F17 S17
            clear S17
            have h17 : Fr [] w w17 := (h15).trans0 F17
            refine effT_keep h17 ?_
            simp only [pickN, Act.put, List.setIfInBounds_toArray, List.set_cons_zero, List.set_cons_succ]
            refine wpT_eff (by rfl) ?_
            refine wpList_store1 rfl 27 _ _ rfl w.heap.size 0 (.pointer (some ⟨w15.heap.size, 0, none⟩)) (by rfl) (by rfl) rfl 27 _ ((B18.fr F15 (by simp)).fr F17 (by simp)) (by simp) (by kernel_rfl) rfl ?_
            intro w19 B19 F19 S19
            have h19 : Fr [] w w19 := (h17).trans F19 (fun b hb hlt => by rw [List.mem_singleton.1 hb] at hlt; have := ((Nat.le_refl w.heap.size)); omega)
            refine effT_keep h19 (wpT_done ?_)
            simp only [pickN, Act.put, List.setIfInBounds_toArray, List.set_cons_zero, List.set_cons_succ]
            have HNK := Lib.hid (show NewK w w19 q (resetE k i t l) (w15.heap.size) (w.heap.size) (.slice a15 l.length c15) from
              ⟨B19, (B17).fr F19 (fun hm => (((B18.fr F15 (by simp)).fr F17 (by simp))).ne (B17) (by decide) (List.mem_singleton.1 hm).symm), (((O15.fr0 F17)).fr F19 (fun g hg hm => by obtain ⟨cur, hcur⟩ := ((O15.fr0 F17)).blkOf hg; rw [List.mem_singleton.1 hm] at hcur; exact hcur.ne (((B18.fr F15 (by simp)).fr F17 (by simp))) (by decide) rfl)).base (Nat.le_refl _), hz15, (Nat.le_refl w.heap.size), h19⟩)
            clear F19 B19 S19
            go_wp2_with fail
            go_meet
            exact ⟨_, _, _, rfl, HNK.out⟩
        obtain ⟨N, B, vsn, rfl, hNK⟩ := hcut
        have HNK := Lib.hid hNK
        have HKc := Lib.hid (HH.out.fr0 hNK.fr)
        clear hNK
        have HL := Lib.hid (fun j => (klast_calls (HKc.out.rd.fr0 ((Fr.refl [] wc).drewN j))).mono (R' := fun e w' => e = .returned (.int .i64 k.last) ∧ ∃ m, w' = wc.drewN m) (fun e w' hw' => ⟨hw'.1, by obtain ⟨m, hm⟩ := hw'.2; exact ⟨j + m, by rw [hm, World.drewN_drewN]⟩⟩))
        have hRe : R.es = [] := by rw [← HRR.out]; show (if keepsE k i t then _ else _) = _; rw [if_neg hke]
        go_wp2_with fail
        by_cases hla : i ≤ k.last
        · have hlast : k.last = k.base + k.es.length := rfl
          obtain ⟨n, hn⟩ : ∃ n : Nat, i - k.base - 1 = n := ⟨(i - k.base - 1).toNat, by omega⟩
          have hnl : n < k.es.length := by omega
          obtain ⟨y, hy⟩ : ∃ y, k.es[n]? = some y := ⟨k.es[n], List.getElem?_eq_getElem hnl⟩
          have hyt : ¬ y.1 = t := fun h => hke ⟨hla, by rw [hn, Int.toNat_natCast, List.getD_eq_getElem?_getD, hy]; exact h⟩
          obtain ⟨ae, ce, css, hve, he1, he2, he3⟩ := HKc.out.rd.en
          obtain ⟨b, off, cs, hae, hblt, _, hcl, ⟨vd, hcs, hbd2⟩, hrg⟩ := he1.get (by decide) hy
          subst hcs hae hve
          have q6 : ∀ W, Fr [] wc W → W.cell? ⟨K, 6, none⟩ = some (.slice (some ⟨b, off, none⟩) k.es.length ce) := fun W f => (HKc.out.rd.hk.fr f (by simp)).cellAt rfl
          have q3 : ∀ W, Fr [] wc W → W.cell? ⟨K, 3, none⟩ = some (.int .i64 k.base) := fun W f => (HKc.out.rd.hk.fr f (by simp)).cellAt rfl
          have q0 : ∀ W, Fr [] wc W → W.cell? ⟨b, off + n * 2, none⟩ = some (.int .i64 y.1) := fun W f => rangeAt_fr hrg f (by simp) 0 _ rfl
          have j1 : IntKind.i64.wrap (i - k.base) = i - k.base := IntWalk.i64_in _ (by omega)
          have j2 : IntKind.i64.wrap (n : Int) = (n : Int) := IntWalk.i64_in _ (by omega)
          have k0 : (0 : Int) ≤ (n : Int) := by omega
          have k1 : (n : Int) < (k.es.length : Int) := by omega
          have k2 : (y.1 == t) = false := by simpa using hyt
          clear he1 he3 hbd2 hrg hcl hlast
          refine wp_region_ord (Fr [] wc) [0,1,2,3,4,5,6,7,8,9,10,11,12,13,14,15,16,17,18,19,20,21] [] [2] [8, 13, 18] mixed15 (by kernel_rfl) ?_
          have hS : Fr [] wc wc.drew := (Fr.refl _ _).drew
          simp only [pairs, pickN]
          repeat (first | (refine wpO_free ?_ (by rfl) (by rfl) (fun w' => ?_) ?_; rotate_left; (go_simp; rfl); simp only [Act.put, List.setIfInBounds_toArray, List.set_cons_zero, List.set_cons_succ]) | (refine wpO_take ?_ hS (by rfl) (by rfl) (fun w' hw' => ?_) ?_; rotate_left; (go_simp; rfl); simp only [Act.put, List.setIfInBounds_toArray, List.set_cons_zero, List.set_cons_succ]) | (refine wpO_pass (by rfl) ?_; simp only [Act.put, List.setIfInBounds_toArray, List.set_cons_zero, List.set_cons_succ]))
          refine wpO_eff (by rfl) ?_
          refine wpList_callC rfl 18 #[.pointer (some ⟨K, 0, none⟩)] (by first | (go_simp; done) | (go_simp; rfl)) _ (HL.out 1) ?_
          rintro e w3 ⟨rfl, nq, rfl⟩
          have hS3 : Fr [] wc (wc.drewN nq) := (Fr.refl _ _).drewN nq
          refine ⟨_, rfl, effQ_keep hS3 ?_⟩
          simp only [Act.put, List.setIfInBounds_toArray, List.set_cons_zero, List.set_cons_succ]
          have hS := hS3
          repeat (first | (refine wpO_free ?_ (by rfl) (by rfl) (fun w' => ?_) ?_; rotate_left; (go_simp; rfl); simp only [Act.put, List.setIfInBounds_toArray, List.set_cons_zero, List.set_cons_succ]) | (refine wpO_take ?_ hS (by rfl) (by rfl) (fun w' hw' => ?_) ?_; rotate_left; (go_simp; rfl); simp only [Act.put, List.setIfInBounds_toArray, List.set_cons_zero, List.set_cons_succ]) | (refine wpO_pass (by rfl) ?_; simp only [Act.put, List.setIfInBounds_toArray, List.set_cons_zero, List.set_cons_succ]))
          refine wpO_nil ?_
          clear hS hS3
          clear q6 q3 q0
          obtain ⟨w5, hw5⟩ : ∃ w5, wc.drewN nq = w5 := ⟨_, rfl⟩
          rw [hw5]
          have fd : Fr [] wc w5 := hw5 ▸ (Fr.refl _ _).drewN nq
          have HF5 := Lib.hid (HNK.out.fr.trans0 fd)
          have HK5 := Lib.hid (HKc.out.fr0 fd)
          have HB5 := Lib.hid (HNK.out.hb.fr fd (by simp))
          obtain ⟨G, hG⟩ : ∃ G, G = grow F w w5 := ⟨_, rfl⟩
          have HG5 := Lib.hid (show (∀ b, F b → G b) ∧ (∀ b, G b → grow F w w5 b) from by rw [hG]; exact ⟨fun b hb => Or.inl hb, fun b hb => hb⟩)
          have HN5 := Lib.hid (show KpRd w5 (fun b => ¬ G b ∨ kX K p bb q lv tl b) N q vsn (.slice none 0 0) R from
            ⟨HRR.out ▸ HNK.out.hn.fr fd (by simp), (HRR.out ▸ (HNK.out.hs.fr0 fd)).bs rfl (fun b hb hk => by
              have hlt := (HNK.out.hs.fr0 fd).lt hb
              rcases hk with hk | hk | hk
              · rw [hG] at hk; exact hk (.inr hlt)
              · have := HH.out.rd.hk.lt; omega
              · have := (stoX_ge HH.out.sto hk).2; omega), by rw [hRe]; exact Ents.nil _ _, HWF.out⟩)
          obtain ⟨ven, hven⟩ : ∃ ven : Value, ven = .slice none 0 0 := ⟨_, rfl⟩
          rw [← hven] at HN5
          have hgB := HNK.out.gB
          clear hw5 fd hG HNK HKc HL hRe hven
          go_wp2_with fail
          have c0 : ∀ W, Fr [] w5 W → W.cell? ⟨K, 0, none⟩ = some (.pointer (some ⟨q, 0, none⟩)) := fun W f => (HK5.out.rd.hk.fr f (by simp)).cellAt rfl
          have cB : ∀ W, Fr [] w5 W → W.cell? ⟨B, 0, none⟩ = some (.pointer (some ⟨N, 0, none⟩)) := fun W f => (HB5.out.fr f (by simp)).cellAt rfl
          have hz5 := HF5.out.size
          refine wp_region_ord (Fr [] w5) [0,1,2,3,4,5,6,7] [6] [5, 6] [3, 4] mixed15 (by kernel_rfl) ?_
          have hS : Fr [] w5 w5.drew := (Fr.refl _ _).drew
          simp only [pairs, pickN]
          repeat (first | (refine wpO_free ?_ (by rfl) (by rfl) (fun w' => ?_) ?_; rotate_left; (go_simp; rfl); simp only [Act.put, List.setIfInBounds_toArray, List.set_cons_zero, List.set_cons_succ]) | (refine wpO_take ?_ hS (by rfl) (by rfl) (fun w' hw' => ?_) ?_; rotate_left; (go_simp; rfl); simp only [Act.put, List.setIfInBounds_toArray, List.set_cons_zero, List.set_cons_succ]) | (refine wpO_pass (by rfl) ?_; simp only [Act.put, List.setIfInBounds_toArray, List.set_cons_zero, List.set_cons_succ]))
          refine wpO_eff (by rfl) ?_
          refine wpList_callC rfl 41 #[.pointer (some ⟨N, 0, none⟩)] (by first | (go_simp; done) | (go_simp; rfl)) _ (pack_calls (HN5.out.fr0 hS) hpk) ?_
          rintro e w6 ⟨v6, rfl, O6, F6⟩
          obtain ⟨a6, c6, rfl, g1, g2, g3⟩ := O6.form
          have hS6 : Fr [] w5 w6 := hS.trans0 F6
          refine ⟨_, rfl, effQ_keep hS6 ?_⟩
          simp only [Act.put, List.setIfInBounds_toArray, List.set_cons_zero, List.set_cons_succ]
          have S6 := HK5.out.sto.fr0 hS6
          have hrd6 : RdA w6 (stoX p bb q lv tl) a6 (bv R.pack) := (O6.rdS (fun b hb hx => by have := (O6.lt hb).1; have := (stoX_ge HK5.out.sto hx).2; have : w5.drew.heap.size = w5.heap.size := rfl; omega)).1
          refine wpO_eff (by rfl) ?_
          refine wpList_callC rfl 40 #[.pointer (some ⟨q, 0, none⟩), .slice a6 R.pack.length c6] (by first | (go_simp; done) | (go_simp; rfl)) _ (check_calls S6 (by have := hS6.size; omega) a6 R.pack.length c6 R.pack rfl hrd6 HN5.out.wf.byt (by simp only [maxLen]; omega)) ?_
          rintro e w7 ⟨lv7, tl7, rfl, S7, st7, X7⟩
          refine ⟨_, rfl, effQ_skip (by decide) ?_⟩
          simp only [Act.put, List.setIfInBounds_toArray, List.set_cons_zero, List.set_cons_succ]
          repeat (first | (refine wpO_free ?_ (by rfl) (by rfl) (fun w' => ?_) ?_; rotate_left; (go_simp; rfl); simp only [Act.put, List.setIfInBounds_toArray, List.set_cons_zero, List.set_cons_succ]) | (refine wpO_pass (by rfl) ?_; simp only [Act.put, List.setIfInBounds_toArray, List.set_cons_zero, List.set_cons_succ]))
          refine wpO_nil ?_
          obtain ⟨ck, hck⟩ : ∃ ck, ckS d s R.pack = ck := ⟨_, rfl⟩
          rw [hck] at S7 ⊢
          have hE := HE.out
          rw [hck] at hE
          have hz6 := hS6.size
          have hz7 := st7.size
          have hst7 : Stp F w w7 := (Stp.of (X := F) (HF5.out.trans0 hS6) (by simp)).trans (st7.more (fun b hb => HH.out.fX b (.inr hb))) (fun b hb => .inl hb)
          have hG := HG5.out
          have hfl7 : ∀ b, (G b ∨ (w5.heap.size ≤ b ∧ b < w7.heap.size)) → base ≤ b ∧ b < w7.heap.size := fun b hb => by
            rcases hb with hb | hb
            · rcases hG.2 b hb with h | h
              · have := HH.out.fl b h
                exact ⟨this.1, by omega⟩
              · exact ⟨by omega, by omega⟩
            · exact ⟨by omega, hb.2⟩
          have K7 := ((HK5.out.fr0 hS6).turn (by omega) S7 st7 X7).widen (F2 := fun b => G b ∨ (w5.heap.size ≤ b ∧ b < w7.heap.size)) (fun b hb => by
            rcases hb with hb | hb
            · exact .inl (hG.1 b hb)
            · exact .inr ⟨by omega, hb.2⟩) hfl7
          have hGR : ∀ b, (G b ∨ (w5.heap.size ≤ b ∧ b < w7.heap.size)) → F b ∨ w.heap.size ≤ b := fun b hb => by
            rcases hb with hb | hb
            · rcases hG.2 b hb with h | h
              · exact .inl h
              · exact .inr h.1
            · exact .inr (by omega)
          have HD7 := Lib.hid (show ∀ x, x < w5.heap.size → ¬ kX K p bb q lv tl x → w7.heap[x]? = w5.heap[x]? from fun x hx hk => by
            obtain ⟨T, fT, hT⟩ := st7
            exact (fT.block x (by omega) (fun hm => by
              rcases hT x hm with h | h
              · exact hk (.inr h)
              · omega)).trans (hS6.block x hx (by simp)))
          by_cases hz : ck.1 = 0
          · rw [if_neg (by rw [hz]; simp)] at hE
            subst hE
            have N7 := (HN5.out.hk.fr hS6 (by simp)).stp st7 (S6.kn (HN5.out.hk.fr hS6 (by simp)))
            have B7 := (HB5.out.fr hS6 (by simp)).stp st7 (fun hx => by obtain ⟨ty, cur, hc, _⟩ := stoX_typed S6 hx; have := (stoX_ge HH.out.sto hx).2; omega)
            have HY7 := Lib.hid (show Bs w7 (fun b => ¬ (G b ∨ (w5.heap.size ≤ b ∧ b < w7.heap.size)) ∨ kX K p bb q lv7 tl7 b) vsn R.snap ∧ Ents w7 (fun b => ¬ (G b ∨ (w5.heap.size ≤ b ∧ b < w7.heap.size)) ∨ kX K p bb q lv7 tl7 b) ven R.es from by
              obtain ⟨T, fT, hT⟩ := st7
              have hY : ∀ b ∈ T, (¬ G b ∨ kX K p bb q lv tl b) ∨ w6.heap.size ≤ b := fun b hb => (hT b hb).imp (fun hx => .inr (.inr hx)) id
              have hY' : ∀ b, (¬ (G b ∨ (w5.heap.size ≤ b ∧ b < w7.heap.size)) ∨ kX K p bb q lv7 tl7 b) → (¬ G b ∨ kX K p bb q lv tl b) ∨ w6.heap.size ≤ b := fun b hb => by
                rcases hb with hb | hb | hb
                · exact .inl (.inl (fun h => hb (.inl h)))
                · exact .inl (.inr (.inl hb))
                · exact (X7 b hb).imp (fun hx => .inr (.inr hx)) id
              exact ⟨(HN5.out.fr0 hS6).sn.step fT hY hY', (HN5.out.fr0 hS6).en.step fT hY hY'⟩)
            have cB7 : w7.cell? ⟨B, 0, none⟩ = some (.pointer (some ⟨N, 0, none⟩)) := B7.cellAt rfl
            have HK7 := Lib.hid K7
            have HN7 := Lib.hid N7
            have HST7 := Lib.hid (And.intro hst7 hGR)
            have hwR := HN5.out.wf
            rw [hz]
            clear hS hS6 O6 F6 g1 g2 g3 S6 hrd6 S7 st7 X7 hck K7 N7 B7 hst7 hGR hfl7 hG c0 cB
            go_wp2_with (first
              | (refine wpList_storeB rfl 70 _ _ rfl K 0 (kpC q R vsn ven) (by rfl) (by rfl) 70 _ HK7.out.rd.hk (by simp [kpC]) (by exact keep_size) (by obtain ⟨x1, x2, hx, _⟩ := HY7.out.1; obtain ⟨y1, y2, y3, hy, _⟩ := HY7.out.2; subst hx hy; simp [kpC, Value.oneCell']) ?_; intro w8 B8 F8 S8; rw [splice_all _ _ (by rfl)] at B8)
              | (refine wpList_loadB rfl 70 _ rfl N (by rfl) 70 (kpC q R vsn ven) _ HN7.out Try.underlying70 rfl (by exact keep_size) ?_))
            have HK8 := Lib.hid (HK7.out.cells F8 B8 HY7.out.1 HY7.out.2 hwR)
            have HST8 := Lib.hid (HST7.out.1.trans (Stp.of (X := F) F8 (fun b hb => .inl (by rw [List.mem_singleton.1 hb]; exact HH.out.fX K (.inl rfl)))) (fun b hb => .inl hb))
            have HGR8 := Lib.hid HST7.out.2
            have HD8 := Lib.hid (show ∀ x, x < w5.heap.size → ¬ kX K p bb q lv tl x → w8.heap[x]? = w5.heap[x]? from fun x hx hk => (F8.block x (by omega) (fun hm => hk (.inl (List.mem_singleton.1 hm)))).trans (HD7.out x hx hk))
            clear B8 F8 S8
            (go_wp2_with fail; go_ret; exact ⟨rfl, _, lv7, tl7, vsn, ven, HK8.out, HST8.out, HGR8.out⟩)
          · rw [if_pos hz] at hE
            subst hE
            have hno := ckS_no (by rw [hck]; exact hz)
            rw [hck] at hno
            have hne : (ck.1 != 0) = true := by simpa using hz
            rw [hno] at K7
            have HK8 := Lib.hid (show KpAt w7 (fun b => G b ∨ (w5.heap.size ≤ b ∧ b < w7.heap.size)) base K p bb q lv7 tl7 vs _ d s k from K7)
            have HST8 := Lib.hid hst7
            have HGR8 := Lib.hid hGR
            clear hS hS6 O6 F6 g1 g2 g3 S6 hrd6 S7 st7 X7 hck K7 hst7 hGR hfl7 hG c0 cB hno
            go_wp2_with fail
            (go_ret; exact ⟨rfl, _, lv7, tl7, vs, _, HK8.out, HST8.out, HGR8.out⟩)
        · go_quiet (first | exact HL.out _)
          obtain ⟨w5, hw5⟩ : ∃ w5, wc.drewN nq = w5 := ⟨_, rfl⟩
          rw [hw5]
          have fd : Fr [] wc w5 := hw5 ▸ (Fr.refl _ _).drewN nq
          have HF5 := Lib.hid (HNK.out.fr.trans0 fd)
          have HK5 := Lib.hid (HKc.out.fr0 fd)
          have HB5 := Lib.hid (HNK.out.hb.fr fd (by simp))
          obtain ⟨G, hG⟩ : ∃ G, G = grow F w w5 := ⟨_, rfl⟩
          have HG5 := Lib.hid (show (∀ b, F b → G b) ∧ (∀ b, G b → grow F w w5 b) from by rw [hG]; exact ⟨fun b hb => Or.inl hb, fun b hb => hb⟩)
          have HN5 := Lib.hid (show KpRd w5 (fun b => ¬ G b ∨ kX K p bb q lv tl b) N q vsn (.slice none 0 0) R from
            ⟨HRR.out ▸ HNK.out.hn.fr fd (by simp), (HRR.out ▸ (HNK.out.hs.fr0 fd)).bs rfl (fun b hb hk => by
              have hlt := (HNK.out.hs.fr0 fd).lt hb
              rcases hk with hk | hk | hk
              · rw [hG] at hk; exact hk (.inr hlt)
              · have := HH.out.rd.hk.lt; omega
              · have := (stoX_ge HH.out.sto hk).2; omega), by rw [hRe]; exact Ents.nil _ _, HWF.out⟩)
          obtain ⟨ven, hven⟩ : ∃ ven : Value, ven = .slice none 0 0 := ⟨_, rfl⟩
          rw [← hven] at HN5
          have hgB := HNK.out.gB
          clear hw5 fd hG HNK HKc HL hRe hven
          go_wp2_with fail
          have c0 : ∀ W, Fr [] w5 W → W.cell? ⟨K, 0, none⟩ = some (.pointer (some ⟨q, 0, none⟩)) := fun W f => (HK5.out.rd.hk.fr f (by simp)).cellAt rfl
          have cB : ∀ W, Fr [] w5 W → W.cell? ⟨B, 0, none⟩ = some (.pointer (some ⟨N, 0, none⟩)) := fun W f => (HB5.out.fr f (by simp)).cellAt rfl
          have hz5 := HF5.out.size
          refine wp_region_ord (Fr [] w5) [0,1,2,3,4,5,6,7] [6] [5, 6] [3, 4] mixed15 (by kernel_rfl) ?_
          have hS : Fr [] w5 w5.drew := (Fr.refl _ _).drew
          simp only [pairs, pickN]
          repeat (first | (refine wpO_free ?_ (by rfl) (by rfl) (fun w' => ?_) ?_; rotate_left; (go_simp; rfl); simp only [Act.put, List.setIfInBounds_toArray, List.set_cons_zero, List.set_cons_succ]) | (refine wpO_take ?_ hS (by rfl) (by rfl) (fun w' hw' => ?_) ?_; rotate_left; (go_simp; rfl); simp only [Act.put, List.setIfInBounds_toArray, List.set_cons_zero, List.set_cons_succ]) | (refine wpO_pass (by rfl) ?_; simp only [Act.put, List.setIfInBounds_toArray, List.set_cons_zero, List.set_cons_succ]))
          refine wpO_eff (by rfl) ?_
          refine wpList_callC rfl 41 #[.pointer (some ⟨N, 0, none⟩)] (by first | (go_simp; done) | (go_simp; rfl)) _ (pack_calls (HN5.out.fr0 hS) hpk) ?_
          rintro e w6 ⟨v6, rfl, O6, F6⟩
          obtain ⟨a6, c6, rfl, g1, g2, g3⟩ := O6.form
          have hS6 : Fr [] w5 w6 := hS.trans0 F6
          refine ⟨_, rfl, effQ_keep hS6 ?_⟩
          simp only [Act.put, List.setIfInBounds_toArray, List.set_cons_zero, List.set_cons_succ]
          have S6 := HK5.out.sto.fr0 hS6
          have hrd6 : RdA w6 (stoX p bb q lv tl) a6 (bv R.pack) := (O6.rdS (fun b hb hx => by have := (O6.lt hb).1; have := (stoX_ge HK5.out.sto hx).2; have : w5.drew.heap.size = w5.heap.size := rfl; omega)).1
          refine wpO_eff (by rfl) ?_
          refine wpList_callC rfl 40 #[.pointer (some ⟨q, 0, none⟩), .slice a6 R.pack.length c6] (by first | (go_simp; done) | (go_simp; rfl)) _ (check_calls S6 (by have := hS6.size; omega) a6 R.pack.length c6 R.pack rfl hrd6 HN5.out.wf.byt (by simp only [maxLen]; omega)) ?_
          rintro e w7 ⟨lv7, tl7, rfl, S7, st7, X7⟩
          refine ⟨_, rfl, effQ_skip (by decide) ?_⟩
          simp only [Act.put, List.setIfInBounds_toArray, List.set_cons_zero, List.set_cons_succ]
          repeat (first | (refine wpO_free ?_ (by rfl) (by rfl) (fun w' => ?_) ?_; rotate_left; (go_simp; rfl); simp only [Act.put, List.setIfInBounds_toArray, List.set_cons_zero, List.set_cons_succ]) | (refine wpO_pass (by rfl) ?_; simp only [Act.put, List.setIfInBounds_toArray, List.set_cons_zero, List.set_cons_succ]))
          refine wpO_nil ?_
          obtain ⟨ck, hck⟩ : ∃ ck, ckS d s R.pack = ck := ⟨_, rfl⟩
          rw [hck] at S7 ⊢
          have hE := HE.out
          rw [hck] at hE
          have hz6 := hS6.size
          have hz7 := st7.size
          have hst7 : Stp F w w7 := (Stp.of (X := F) (HF5.out.trans0 hS6) (by simp)).trans (st7.more (fun b hb => HH.out.fX b (.inr hb))) (fun b hb => .inl hb)
          have hG := HG5.out
          have hfl7 : ∀ b, (G b ∨ (w5.heap.size ≤ b ∧ b < w7.heap.size)) → base ≤ b ∧ b < w7.heap.size := fun b hb => by
            rcases hb with hb | hb
            · rcases hG.2 b hb with h | h
              · have := HH.out.fl b h
                exact ⟨this.1, by omega⟩
              · exact ⟨by omega, by omega⟩
            · exact ⟨by omega, hb.2⟩
          have K7 := ((HK5.out.fr0 hS6).turn (by omega) S7 st7 X7).widen (F2 := fun b => G b ∨ (w5.heap.size ≤ b ∧ b < w7.heap.size)) (fun b hb => by
            rcases hb with hb | hb
            · exact .inl (hG.1 b hb)
            · exact .inr ⟨by omega, hb.2⟩) hfl7
          have hGR : ∀ b, (G b ∨ (w5.heap.size ≤ b ∧ b < w7.heap.size)) → F b ∨ w.heap.size ≤ b := fun b hb => by
            rcases hb with hb | hb
            · rcases hG.2 b hb with h | h
              · exact .inl h
              · exact .inr h.1
            · exact .inr (by omega)
          have HD7 := Lib.hid (show ∀ x, x < w5.heap.size → ¬ kX K p bb q lv tl x → w7.heap[x]? = w5.heap[x]? from fun x hx hk => by
            obtain ⟨T, fT, hT⟩ := st7
            exact (fT.block x (by omega) (fun hm => by
              rcases hT x hm with h | h
              · exact hk (.inr h)
              · omega)).trans (hS6.block x hx (by simp)))
          by_cases hz : ck.1 = 0
          · rw [if_neg (by rw [hz]; simp)] at hE
            subst hE
            have N7 := (HN5.out.hk.fr hS6 (by simp)).stp st7 (S6.kn (HN5.out.hk.fr hS6 (by simp)))
            have B7 := (HB5.out.fr hS6 (by simp)).stp st7 (fun hx => by obtain ⟨ty, cur, hc, _⟩ := stoX_typed S6 hx; have := (stoX_ge HH.out.sto hx).2; omega)
            have HY7 := Lib.hid (show Bs w7 (fun b => ¬ (G b ∨ (w5.heap.size ≤ b ∧ b < w7.heap.size)) ∨ kX K p bb q lv7 tl7 b) vsn R.snap ∧ Ents w7 (fun b => ¬ (G b ∨ (w5.heap.size ≤ b ∧ b < w7.heap.size)) ∨ kX K p bb q lv7 tl7 b) ven R.es from by
              obtain ⟨T, fT, hT⟩ := st7
              have hY : ∀ b ∈ T, (¬ G b ∨ kX K p bb q lv tl b) ∨ w6.heap.size ≤ b := fun b hb => (hT b hb).imp (fun hx => .inr (.inr hx)) id
              have hY' : ∀ b, (¬ (G b ∨ (w5.heap.size ≤ b ∧ b < w7.heap.size)) ∨ kX K p bb q lv7 tl7 b) → (¬ G b ∨ kX K p bb q lv tl b) ∨ w6.heap.size ≤ b := fun b hb => by
                rcases hb with hb | hb | hb
                · exact .inl (.inl (fun h => hb (.inl h)))
                · exact .inl (.inr (.inl hb))
                · exact (X7 b hb).imp (fun hx => .inr (.inr hx)) id
              exact ⟨(HN5.out.fr0 hS6).sn.step fT hY hY', (HN5.out.fr0 hS6).en.step fT hY hY'⟩)
            have cB7 : w7.cell? ⟨B, 0, none⟩ = some (.pointer (some ⟨N, 0, none⟩)) := B7.cellAt rfl
            have HK7 := Lib.hid K7
            have HN7 := Lib.hid N7
            have HST7 := Lib.hid (And.intro hst7 hGR)
            have hwR := HN5.out.wf
            rw [hz]
            clear hS hS6 O6 F6 g1 g2 g3 S6 hrd6 S7 st7 X7 hck K7 N7 B7 hst7 hGR hfl7 hG c0 cB
            go_wp2_with (first
              | (refine wpList_storeB rfl 70 _ _ rfl K 0 (kpC q R vsn ven) (by rfl) (by rfl) 70 _ HK7.out.rd.hk (by simp [kpC]) (by exact keep_size) (by obtain ⟨x1, x2, hx, _⟩ := HY7.out.1; obtain ⟨y1, y2, y3, hy, _⟩ := HY7.out.2; subst hx hy; simp [kpC, Value.oneCell']) ?_; intro w8 B8 F8 S8; rw [splice_all _ _ (by rfl)] at B8)
              | (refine wpList_loadB rfl 70 _ rfl N (by rfl) 70 (kpC q R vsn ven) _ HN7.out Try.underlying70 rfl (by exact keep_size) ?_))
            have HK8 := Lib.hid (HK7.out.cells F8 B8 HY7.out.1 HY7.out.2 hwR)
            have HST8 := Lib.hid (HST7.out.1.trans (Stp.of (X := F) F8 (fun b hb => .inl (by rw [List.mem_singleton.1 hb]; exact HH.out.fX K (.inl rfl)))) (fun b hb => .inl hb))
            have HGR8 := Lib.hid HST7.out.2
            have HD8 := Lib.hid (show ∀ x, x < w5.heap.size → ¬ kX K p bb q lv tl x → w8.heap[x]? = w5.heap[x]? from fun x hx hk => (F8.block x (by omega) (fun hm => hk (.inl (List.mem_singleton.1 hm)))).trans (HD7.out x hx hk))
            clear B8 F8 S8
            (go_wp2_with fail; go_ret; exact ⟨rfl, _, lv7, tl7, vsn, ven, HK8.out, HST8.out, HGR8.out⟩)
          · rw [if_pos hz] at hE
            subst hE
            have hno := ckS_no (by rw [hck]; exact hz)
            rw [hck] at hno
            have hne : (ck.1 != 0) = true := by simpa using hz
            rw [hno] at K7
            have HK8 := Lib.hid (show KpAt w7 (fun b => G b ∨ (w5.heap.size ≤ b ∧ b < w7.heap.size)) base K p bb q lv7 tl7 vs _ d s k from K7)
            have HST8 := Lib.hid hst7
            have HGR8 := Lib.hid hGR
            clear hS hS6 O6 F6 g1 g2 g3 S6 hrd6 S7 st7 X7 hck K7 hst7 hGR hfl7 hG c0 cB hno
            go_wp2_with fail
            (go_ret; exact ⟨rfl, _, lv7, tl7, vs, _, HK8.out, HST8.out, HGR8.out⟩)
end Go.Fur
