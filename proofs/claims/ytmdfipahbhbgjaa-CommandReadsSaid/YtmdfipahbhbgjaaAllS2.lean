/- Lists of queues, nodes, tasks, hungers that are read: contracts. -/
import Derived.Test.YtmdfipahbhbgjaaAllS
namespace Go.Fur
open Go Go.RowKit Go.Proofs Go.Proofs.YtmdfipahbhbgjaaW.PrintWords
attribute [local go_sem] Oper.semAt_some
set_option linter.unusedVariables false
set_option linter.unusedSimpArgs false
def zcQ : List Value := [.int .i64 0, .int .i64 0, .int .i64 0, .int .i64 0, .int .i64 0, .int .i64 0, .int .i64 0]
theorem rzQ : ∀ w, (zeroValue 25).run Try.prog w = .ok (.agg zcQ.toArray) w := fun w => by kernel_rfl
theorem riQ : (Try.prog.info? 25).map (fun i => (i.zero.map (·.cells), i.size, i.bytes)) = some (some zcQ.toArray, 7, 56) := by kernel_rfl
theorem thingsQ_calls (w : World) (p k : Nat) :
    Calls Try.prog 105 #[.pointer (some ⟨p, 0, none⟩), mv k p] w fun e w' => e = .returned (.func (.func 113) #[] #[.pointer (some ⟨w.heap.size, 0, none⟩), .pointer (some ⟨w.heap.size + 1, 0, none⟩)]) ∧
      Blk w' w.heap.size 90 [.pointer (some ⟨p, 0, none⟩)] ∧ Blk w' (w.heap.size + 1) 155 [mv k p] ∧ Fr [] w w' ∧ w'.heap.size = w.heap.size + 2 := by
  go_enter Try.func105, Try.ntmps105
  go_wp2_with fail
  go_ret
  have b1 := Blk.new w 90 [.pointer (some ⟨p, 0, none⟩)]
  have b2 := Blk.new (w.alloc (.cells #[.pointer (some ⟨p, 0, none⟩)] 90)) 155 [mv k p]
  rw [World.size_alloc] at b2
  exact ⟨rfl, b1.alloc _, b2, ((Fr.refl [] w).alloc _).alloc _, by simp⟩
set_option maxRecDepth 100000 in
set_option maxHeartbeats 1000000 in
theorem things1Q_seq {β : Type} {w : World} {X : Nat → Prop} {base p B1 B2 : Nat} {a : Option Addr} {n c : Nat} {l : List Int} {s : Int × Int} (one : Int × Int → β × Int × Int) (El : β × Value → World → Prop)
    (hone : OneC Try.prog 88 base p a n c l one El) (hElS : ∀ xv W, El xv W → ∃ cs : List Value, xv.2 = .agg cs.toArray ∧ cs.length = 7 ∧ ∀ u ∈ cs, u.oneCell' = true) (hElF : ∀ xv W W', Fr [] W W' → El xv W → El xv W') (h : Rs w (fun k => k = p ∨ X k) p a n c l s) (hbase : base ≤ w.heap.size) (hp : ¬ X p)
    (h1 : Blk w B1 90 [.pointer (some ⟨p, 0, none⟩)]) (h2 : Blk w B2 155 [mv 88 p]) (hx1 : ¬ X B1) (hx2 : ¬ X B2) :
    SeqFr Try.prog 113 #[.pointer (some ⟨B1, 0, none⟩), .pointer (some ⟨B2, 0, none⟩)] Prod.snd El [p] X 1024 (fun xs W => xs.map Prod.fst = (allR l one s).1 ∧ Rs W (fun k => k = p ∨ X k) p a n c l (allR l one s).2 ∧ w.heap.size ≤ W.heap.size) w := by
  intro y J W hW hJ hY h0
  obtain ⟨m, hm, hr1⟩ := rU_1024 l h.src.byt s
  have HC := Lib.hid (upto_calls ((h.fr0 hW).rr (.inl rfl)) 1024 3)
  have c1 : W.cell? ⟨B1, 0, none⟩ = some (.pointer (some ⟨p, 0, none⟩)) := (h1.fr hW (by simp)).cellAt rfl
  unfold allR
  generalize rU l 1024 3 s = r at *
  obtain ⟨r1, sr⟩ := r
  dsimp only at hr1 HC ⊢
  subst hr1
  rw [Int.toNat_natCast]
  have HH := Lib.hid (And.intro h (And.intro h1 h2))
  clear h h1 h2
  refine callsIn_of_wp Try.func113 rfl trivial ?_ rfl
  simp only [Try.ntmps113, List.size_toArray, List.length_cons, List.length_nil, Nat.reduceAdd, Nat.reduceSub, Array.replicate_succ, Array.replicate_zero, List.push_toArray, List.append_toArray, List.nil_append, List.cons_append]
  gi_wp2
  refine ⟨trivial, (callsIn_wide.2 HC.out).mono ?_⟩
  rintro e w1 ⟨rfl, hr, hf⟩
  have hB1p : B1 ≠ p := fun e => by
    have := (HH.out.1.hp.ne HH.out.2.1 (by decide))
    exact this e.symm
  have hB2p : B2 ≠ p := fun e => by
    have := (HH.out.1.hp.ne HH.out.2.2 (by decide))
    exact this e.symm
  have R0 : T1S (155) w (fun k => k = p ∨ X k) J p B1 B2 88 a n c l one m sr 0 [] sr w1 :=
    ⟨Nat.zero_le _, rfl, hJ [] _ _ h0 hf, (HH.out.1.fr0 hW).one (.inl rfl) hr hf, (HH.out.2.1.fr hW (by simp)).fr hf (by simpa using hB1p), (HH.out.2.2.fr hW (by simp)).fr hf (by simpa using hB2p), by have := hW.size; have := hf.size; omega, by simp, rfl⟩
  have HR0 := Lib.hid R0
  have HE := Lib.hid (And.intro hJ hY)
  clear R0 c1 HC h0 hr hf hJ hY
  gi_wp2
  gi_loopw [7] (fun i wr => ∃ k pre s2, i = .int .u64 (k : Nat) ∧ T1S (155) w (fun k => k = p ∨ X k) J p B1 B2 88 a n c l one m sr k pre s2 wr) (fun i _ => m - (intOf i).toNat)
  case atStart => exact ⟨0, [], sr, rfl, HR0.out⟩
  case round =>
    obtain ⟨k, pre, s2, rfl, hT⟩ := hrel
    have hkm := hT.le
    by_cases hlt : k < m
    · obtain ⟨d, hd⟩ : ∃ d, m - k = d + 1 := ⟨m - k - 1, by omega⟩
      have kb : (k : Int) < (m : Int) := by omega
      have c1 : wr.cell? ⟨B1, 0, none⟩ = some (.pointer (some ⟨p, 0, none⟩)) := hT.b1.cellAt rfl
      have c2 : wr.cell? ⟨B2, 0, none⟩ = some (mv 88 p) := hT.b2.cellAt rfl
      have HO := Lib.hid (hone wr s2 (by have := hT.sz; omega) (hT.rs.rr (.inl rfl)))
      have e1 := hT.e1
      have e2 := hT.e2
      rw [hd, manyR] at e1 e2
      generalize one s2 = q at *
      obtain ⟨x, s3⟩ := q
      have HT := Lib.hid hT
      have HEE := Lib.hid (And.intro e1 e2)
      have HDD := Lib.hid hd
      clear hT e1 e2 hd
      gi_wp2
      refine ⟨trivial, (callsIn_wide.2 HO.out).mono ?_⟩
      rintro e w2 ⟨v, rfl, hel, hr, hf⟩
      obtain ⟨cs, hv, hcl, hone1⟩ := hElS _ _ hel
      dsimp only at hv
      subst hv
      rename_i K2 a2 K1 a1 K0 a0
      refine a0 _ _ ?_
      refine wpListInW_step (by rfl) (by simp) (wpList_allocZ rfl 25 rfl _ rzQ ?_)
      intro w3 B3 F3 S3
      refine ⟨rfl, ?_⟩
      simp only [Act.put, List.setIfInBounds_toArray, List.set_cons_zero, List.set_cons_succ]
      refine wpListInW_step (by rfl) (by simp) (wpList_storeB rfl 25 _ _ rfl w2.heap.size 0 cs (by rfl) (by rfl) 25 _ B3 (by rw [hcl]; show 0 + 7 ≤ 7; omega) (by rw [hcl]; kernel_rfl) hone1 ?_)
      intro w4 B4 F4 S4
      refine ⟨rfl, ?_⟩
      rw [splice_all _ _ (by rw [hcl]; rfl)] at B4
      simp only [Act.put, List.setIfInBounds_toArray, List.set_cons_zero, List.set_cons_succ]
      have F24 : Fr [] w2 w4 := F3.trans F4 (fun k hk hlt => by rw [List.mem_singleton.1 hk] at hlt; omega)
      refine a1 _ _ ?_
      have b1 := (HT.out.b1.fr hf (by simpa using hB1p)).fr F24 (by simp)
      have b2 := (HT.out.b2.fr hf (by simpa using hB2p)).fr F24 (by simp)
      have R2 := (HT.out.rs.one (.inl rfl) hr hf).fr0 F24
      have J2 := HE.out.1 pre _ _ (HE.out.1 pre _ _ HT.out.j hf) (Fr.ext F24)
      have hel4 := hElF _ _ _ F24 hel
      have HB4 := Lib.hid B4
      have hf4 := hf.trans0 F24
      have d1 : w4.cell? ⟨B1, 0, none⟩ = some (.pointer (some ⟨p, 0, none⟩)) := b1.cellAt rfl
      have d2 : w4.cell? ⟨p, 2, none⟩ = some (.int .i64 s3.2) := R2.hp.cellAt rfl
      obtain ⟨at3, er3⟩ := s3
      dsimp only at d2
      have hpl := R2.hp.lt
      clear B3 F3 S3 B4 F4 S4 F24 hel a0 K0
      by_cases he : er3 = 0
      · subst he
        obtain ⟨fn, tmps, assign, body, hy, hR⟩ := HE.out.2 pre (x, .agg cs.toArray) w4 J2 hel4 (by have := HT.out.len; omega)
        dsimp only at hy
        have HRR := Lib.hid hR
        have HB := Lib.hid (And.intro b1 (And.intro b2 (And.intro R2 (And.intro hf4 J2))))
        clear hR b1 b2 R2 hf hf4 J2 hr hel4 c1 c2 HR0
        gi_wp2_with (refine wpListInW_step (by rfl) (by simp) (gate_guard (by rfl) (wpList_loadB rfl 25 _ rfl w2.heap.size (by rfl) 25 _ _ HB4.out Try.underlying25 rfl (by rw [hcl]; kernel_rfl) ?_)); refine ⟨rfl, ?_⟩)
        refine HRR.out.mono ?_
        rintro e w3 ⟨rfl, hJ3, hk3⟩
        have RR := Lib.hid (show T1S (155) w (fun k => k = p ∨ X k) J p B1 B2 88 a n c l one m sr (k + 1) (pre ++ [(x, .agg cs.toArray)]) (at3, 0) w3 from
          ⟨hlt, by rw [List.length_append, HT.out.len]; rfl, hJ3, HB.out.2.2.1.frX hk3 hp (fun k h => .inr h), HB.out.1.frX hk3 hx1, HB.out.2.1.frX hk3 hx2, by have := HT.out.sz; have := HB.out.2.2.2.1.size; have := hk3.size; omega,
            by rw [HEE.out.1, if_pos trivial, show m - (k + 1) = d by have := HDD.out; omega]; simp, by rw [HEE.out.2, if_pos trivial, show m - (k + 1) = d by have := HDD.out; omega]⟩)
        clear hJ3 hk3 hy d1 d2
        gi_wp2
        go_roundw
        case rel => exact ⟨k + 1, _, _, by first | rfl | (simp; done) | (rw [IntKind.wrap_u64]; congr 1; omega), RR.out⟩
        case measure => simp [intOf]; omega
      · have hb : (er3 != 0) = true := by simpa using he
        have HB := Lib.hid (And.intro R2 (And.intro hf4 J2))
        have HE0 := Lib.hid he
        clear b1 b2 R2 hf hf4 J2 hr hel4 c1 c2 HR0 he
        gi_wp2
        refine ⟨fun _ h => (by cases h), ?_⟩
        gi_wp2
        refine bodyPost_ret (results_none rfl _ _ _) rfl ?_
        refine ⟨⟨_, rfl⟩, pre, HB.out.2.2, ?_, ?_, by have := HT.out.sz; have := HB.out.2.1.size; omega⟩
        · rw [HEE.out.1, if_neg HE0.out]
          simp
        · rw [HEE.out.2, if_neg HE0.out]
          exact HB.out.1
    · obtain rfl : k = m := by omega
      have HT := Lib.hid hT
      clear hT
      gi_wp2
      go_end0
      refine ⟨⟨_, rfl⟩, pre, HT.out.j, ?_, ?_, HT.out.sz⟩
      · rw [HT.out.e1, Nat.sub_self]
        simp [manyR]
      · rw [HT.out.e2, Nat.sub_self]
        exact HT.out.rs
set_option maxRecDepth 100000 in
set_option maxHeartbeats 2000000 in
theorem allQ_calls {β : Type} {EW : World → List Value → β → Prop} {w : World} {p : Nat} {a : Option Addr} {n c : Nat} {l : List Int} {s : Int × Int} (one : Int × Int → β × Int × Int) (hst : Stays EW p 25 53) (hone : OneC Try.prog 88 w.heap.size p a n c l one (SEl EW 7)) (h : Rr w p a n c l s) :
    Calls Try.prog 87 #[.pointer (some ⟨p, 0, none⟩), mv 88 p] w fun e w' => ∃ v, e = .returned v ∧ RowW EW 7 25 w.heap.size w' v (allR l one s).1 ∧ Rr w' p a n c l (allR l one s).2 ∧ Fr [p] w w' := by
  have hpl := h.hp.lt
  have HH := Lib.hid h
  have HST := Lib.hid hst
  clear h
  refine (callsIn_wide (n := 3)).1 ?_
  refine callsIn_of_wp_marks Try.func87 rfl trivial ?_ rfl
  simp only [Try.ntmps87, List.size_toArray, List.length_cons, List.length_nil, Nat.reduceAdd, Nat.reduceSub, Array.replicate_succ, Array.replicate_zero, List.push_toArray, List.append_toArray, List.nil_append, List.cons_append]
  gi_wp2
  have b0 := Blk.new w 53 [.slice none 0 0]
  have f0 := (Fr.refl [] w).alloc (.cells #[.slice none 0 0] 53)
  have z0 := World.size_alloc w (.cells #[.slice none 0 0] 53)
  generalize w.alloc (.cells #[.slice none 0 0] 53) = w1 at *
  refine ⟨trivial, (callsIn_wide.2 (thingsQ_calls w1 p 88)).mono ?_⟩
  rintro e w2 ⟨rfl, b1, b2, f2, z2⟩
  rw [z0] at b1 b2 z2
  gi_wp2
  have hnp : w.heap.size ≠ p := by omega
  have fw2 := f0.trans0 f2
  have hX0 : ∀ k, k = w.heap.size ∨ w2.heap.size ≤ k → w.heap.size ≤ k := fun k hk => by omega
  have hXp : ¬ (p = w.heap.size ∨ w2.heap.size ≤ p) := by omega
  have rs : Rs w2 (fun k => k = p ∨ (k = w.heap.size ∨ w2.heap.size ≤ k)) p a n c l s :=
    ⟨HH.out.hp.fr fw2 (by simp), HH.out.rd.step fw2 (by simp) (fun k hk => by rcases hk with h | h; exact .inl h; exact .inr (hX0 k h)), HH.out.src⟩
  have hElF : ∀ xv W W', Fr [] W W' → SEl EW 7 xv W → SEl EW 7 xv W' := fun xv W W' f hx => by
    obtain ⟨cs, h1, h2, h3, h4⟩ := hx
    exact ⟨cs, h1, h2, h3, hst.fr0 f h4⟩
  refine wpIn_rangeFr (gf := 113) (lb := #[.pointer (some ⟨w.heap.size + 1, 0, none⟩), .pointer (some ⟨w.heap.size + 1 + 1, 0, none⟩)]) rfl (enters_of Try.func113 (by kernel_rfl) rfl) (S := [p]) (X := fun k => k = w.heap.size ∨ w2.heap.size ≤ k) (N := 1024) (fun k hk => by rw [List.mem_singleton.1 hk]; omega) (fun k hk => .inr hk)
    (things1Q_seq (base := w.heap.size) one (SEl EW 7) hone (fun xv W hx => by obtain ⟨cs, h1, h2, h3, _⟩ := hx; exact ⟨cs, h1, h2, h3⟩) hElF rs (by omega) hXp b1 b2 (by omega) (by omega))
    (fun pre W => ∃ v, Blk W w.heap.size 53 [v] ∧ RowW EW 7 25 w2.heap.size W v (pre.map Prod.fst) ∧ Fr [p] w W ∧ w2.heap.size ≤ W.heap.size) ?hI ?hEl ?hEnd
    (AxS 25 7 fun gv xv => { tmps := #[.pointer (some ⟨p, 0, none⟩), mv 88 p, undef, undef, .slice none 0 0, .pointer (some ⟨w.heap.size, 0, none⟩), gv, .pointer (some ⟨p, 0, none⟩), mv 88 p, .func (.func 113) #[] #[.pointer (some ⟨w.heap.size + 1, 0, none⟩), .pointer (some ⟨w.heap.size + 1 + 1, 0, none⟩)], xv, undef, undef, undef, undef, undef], defers := [] })
    ?hAx ⟨_, b0.fr f2 (by simp), RowW.nil _, Fr.ext fw2, Nat.le_refl _⟩ ?assign ?body ?done
  case hI =>
    rintro pre T A C ⟨v, hb, ho, hf, hz⟩ hT hk
    have hcell : ∀ k t cs, Blk A k t cs → k ≠ p → k ∉ T := fun k t cs hbk hkp hm => by
      rcases hk k hm with h | ⟨_, o, h1, h2⟩
      · exact hkp (List.mem_singleton.1 h)
      · unfold Blk at hbk
        rw [h1] at hbk
        cases hbk
        cases h2
    refine ⟨v, hb.fr hT (hcell _ _ _ hb hnp), ho.fr hT (fun g hg => ?_) (fun cs t h => hst _ _ _ _ _ hT (fun k hm => ?_) h), hf.trans hT (fun k hm hlt => ?_), by have := hT.size; omega⟩
    · obtain ⟨cur, hcur⟩ := ho.blkOf hg
      exact hcell _ _ _ hcur (by have := (ho.lt hg).1; omega)
    · rcases hk k hm with h | ⟨_, o, h1, h2⟩
      · exact .inl (List.mem_singleton.1 h)
      · exact .inr (.inl ⟨o, h1, h2⟩)
    · rcases hk k hm with h | h
      · exact h
      · exact absurd h.1 (by omega)
  case hEl =>
    rintro xv T A C ⟨cs, h1, h2, h3, h4⟩ hT hk
    refine ⟨cs, h1, h2, h3, hst _ _ _ _ _ hT (fun k hm => ?_) h4⟩
    rcases hk k hm with h | ⟨_, o, h1, h2⟩
    · exact .inl (List.mem_singleton.1 h)
    · exact .inr (.inl ⟨o, h1, h2⟩)
  case hAx =>
    rintro a' x T A C ⟨g, cs, h1, h2, h3, hb, h4⟩ hT hk
    refine ⟨g, cs, h1, h2, h3, hb.fr hT (fun hm => ?_), h4⟩
    rcases hk g hm with h | ⟨_, o, k1, k2⟩
    · simp at h
    · unfold Blk at hb
      rw [k1] at hb
      cases hb
      cases k2
  case hEnd =>
    rintro xs T A C ⟨he, hr, hz⟩ hT hk
    exact ⟨he, hr.frX (hT.x (X := fun k => k = w.heap.size ∨ w2.heap.size ≤ k) (fun k hm => by rcases hk k hm with h | h; simp at h; exact .inr h.1)) hXp (fun k h => .inr h), by have := hT.size; omega⟩
  case assign =>
    rintro y ⟨x1, x2⟩ W ⟨cs, hv, hcl, h1, _⟩
    dsimp only at hv
    subst hv
    clear b0 f0 f2 b1 b2 fw2 rs hX0 hXp
    refine wpIn_region_lit ?_
    refine wpListIn_of_wpList (by rintro ⟨a, w, h⟩; exact h) _ _ _ (by intro o ho c; simp only [List.mem_cons, List.not_mem_nil, or_false] at ho; rcases ho with rfl | rfl <;> simp) ?_
    go_wp2_with (first
      | (refine wpList_storeB rfl 25 _ _ rfl W.heap.size 0 cs (by rfl) (by rfl) 25 _ HB3.out (by rw [hcl]; show 0 + 7 ≤ 7; omega) (by rw [hcl]; kernel_rfl) h1 ?_; intro w4 B4 F4 S4; rw [splice_all _ _ (by rw [hcl]; rfl)] at B4; have HB4 := Lib.hid B4; have HF4 := Lib.hid (HF3.out.trans F4 (fun k hk hlt => by rw [List.mem_singleton.1 hk] at hlt; omega)); clear B4 F4 S4)
      | (refine wpList_allocZ rfl 25 rfl _ rzQ ?_; intro w3 B3 F3 S3; have HB3 := Lib.hid B3; have HF3 := Lib.hid F3; clear B3 F3 S3))
    exact ⟨HF4.out, _, cs, rfl, hcl, h1, HB4.out, rfl⟩
  case body =>
    rintro y pre ⟨x1, x2⟩ a₁ W ⟨v, hb, ho, hf, hz⟩ ⟨cs0, hv0, hcl0, hone0, hew⟩ ⟨g, cs, hv, hcl, h1, hg, rfl⟩ hlen
    dsimp only at hv hv0
    have hcc : cs0 = cs := by
      rw [hv] at hv0
      simpa using hv0.symm
    subst hcc
    subst hv
    obtain ⟨a1, k1, rfl, g1, g2⟩ := ho.form
    have c0 : W.cell? ⟨w.heap.size, 0, none⟩ = some (.slice a1 (pre.map Prod.fst).length k1) := hb.cellAt rfl
    have hml : (pre.map Prod.fst).length = pre.length := List.length_map _
    have hmm : (pre.map Prod.fst).length < 1024 := by omega
    have HI := Lib.hid (And.intro hb (And.intro ho (And.intro hf (And.intro hz (And.intro hew hg)))))
    have hbl := hb.lt
    have hgB : w.heap.size ∉ ob (.slice a1 (pre.map Prod.fst).length k1) := fun hm => by have := (ho.lt hm).1; omega
    have HGB := Lib.hid hgB
    clear hb ho hf hz b0 f0 f2 b1 b2 fw2 rs hX0 hXp g1 g2 hew hg hv0 hcl0 hone0 hlen hgB hml
    generalize hL : pre.map Prod.fst = L at *
    have HZ := Lib.hid z2
    clear z2
    refine wpIn_block ?_
    refine wpIn_region_lit ?_
    refine wpListIn_of_wpList (by rintro ⟨a, w, h⟩; exact h) _ _ _ (by intro o ho c; simp only [List.mem_cons, List.not_mem_nil, or_false] at ho; rcases ho with rfl | rfl | rfl | rfl | rfl <;> simp) ?_
    go_wp2_with (first
      | (have z := HR4.out; clear z; refine wpList_store1 rfl 53 _ _ rfl w.heap.size 0 (.slice a4 (L ++ [x1]).length k4) (by rfl) (by rfl) rfl 53 _ HB4.out (by simp) (by kernel_rfl) rfl ?_; intro w5 B5 F5 S5)
      | (have z := HB3.out; clear z; refine wpList_appW rfl _ _ 53 53 rfl w2.heap.size 25 25 zcQ 7 56 Try.underlying53 Try.underlying53 riQ rfl (by decide) _ L (by rfl) HR3.out _ 1 (by rfl) 25 cs0 HB3.out hcl h1 x1 HW3.out (by simp only [maxLen]; omega) (by omega) (by have := HF3.out.size; have := HI.out.2.2.2.1; omega) (fun w' cs t f h => HST.out _ _ _ _ _ f (fun k hk => .inr (.inr (by obtain ⟨cur, hcur⟩ := HR3.out.blkOf hk; exact ⟨_, cur, hcur, .inl rfl⟩))) h) ?_; intro v4 w4 R4 F4 K4; obtain ⟨a4, k4, hv4, _, _⟩ := R4.form; subst hv4; have HR4 := Lib.hid R4; have HF4 := Lib.hid F4; have HB4 := Lib.hid ((HI.out.1.fr HF3.out (by simp)).fr F4 HGB.out); clear R4 F4 K4)
      | (refine wpList_loadB rfl 25 _ rfl g (by rfl) 25 _ _ HI.out.2.2.2.2.2 Try.underlying25 rfl (by rw [hcl]; kernel_rfl) ?_)
      | (refine wpList_buildSlice1 rfl 53 25 _ rfl zcQ 7 56 Try.underlying53 riQ (by rfl) (by omega) (by omega) _ cs0 (by rfl) (by rfl) hcl ?_; intro w3 B3 F3 S3; have HB3 := Lib.hid B3; have HF3 := Lib.hid F3; have HW3 := Lib.hid (HST.out.fr0 F3 HI.out.2.2.2.2.1); have HR3 := Lib.hid (HI.out.2.1.fr F3 (by simp) (fun cs t h => HST.out.fr0 F3 h)); clear B3 F3 S3))
    have hob4 : ∀ k ∈ ob (.slice a4 (L ++ [x1]).length k4), k ∉ [w.heap.size] := fun k hk hm => by
      rw [List.mem_singleton.1 hm] at hk
      have := (HR4.out.lt hk).1
      have := HZ.out
      omega
    have FT : Fr (w.heap.size :: ob (.slice a1 L.length k1)) W w5 := ((Fr.ext HF3.out).trans (S' := ob (.slice a1 L.length k1)) HF4.out (fun k hk _ => List.mem_cons_of_mem _ hk)).trans F5 (fun k hk _ => by rw [List.mem_singleton.1 hk]; exact List.mem_cons_self)
    have R5 := HR4.out.fr F5 hob4 (fun cs t h => HST.out _ _ _ _ _ F5 (fun k hk => .inr (.inr (by rw [List.mem_singleton.1 hk]; exact ⟨_, _, HB4.out, .inr rfl⟩))) h)
    refine ⟨⟨_, FT, fun k hk => ?_⟩, _, B5, ?_, HI.out.2.2.1.trans FT (fun k hk hlt => ?_), by have := FT.size; have := HI.out.2.2.2.1; omega⟩
    · rcases List.mem_cons.1 hk with rfl | hk
      · exact ⟨.inl rfl, _, _, HI.out.1⟩
      · obtain ⟨cur, hcur⟩ := HI.out.2.1.blkOf hk
        exact ⟨.inr (HI.out.2.1.lt hk).1, _, _, hcur⟩
    · first | exact R5 | (rw [List.map_append, hL]; exact R5)
    · rcases List.mem_cons.1 hk with rfl | hk
      · omega
      · have := (HI.out.2.1.lt hk).1
        have := HZ.out
        omega
  case done =>
    rintro D xs W hD ⟨he, hr, hz⟩ ⟨v, hb, ho, hf, hz2⟩ hK
    obtain ⟨a1, k1, rfl, g1, g2⟩ := ho.form
    have c0 : W.cell? ⟨w.heap.size, 0, none⟩ = some (.slice a1 (xs.map Prod.fst).length k1) := hb.cellAt rfl
    have HI := Lib.hid (And.intro he (And.intro hr (And.intro hb (And.intro ho (And.intro hf hz2)))))
    clear he hr hb ho hf hz hz2 b0 f0 f2 b1 b2 fw2 rs hX0 g1 g2
    generalize hL : xs.map Prod.fst = L at *
    have HZ := Lib.hid z2
    clear z2
    gi_wp2
    have FD : Fr [D] W (W.putObj D (.deferred none)) := (Fr.refl _ W).putObj D _ (.inl (by simp))
    have hcell : ∀ k t cs, Blk W k t cs → k ∉ [D] := fun k t cs hbk hm => by
      rw [List.mem_singleton.1 hm] at hbk
      unfold Blk at hbk
      rw [hK] at hbk
      cases hbk
    have FE : Fr [p] w (W.putObj D (.deferred none)) := HI.out.2.2.2.2.1.trans FD (fun k hm hlt => by have h9 := List.mem_singleton.1 hm; have := HZ.out; omega)
    refine ⟨by simp, .inl ⟨D, _, rfl, run_takeDeferred hK, ?_⟩⟩
    refine ⟨_, results_tmp rfl _ _ _, _, rfl, ?_, (HI.out.2.1.frX (FD.x (X := fun k => k = w.heap.size ∨ w2.heap.size ≤ k) (fun k hm => .inr (by rw [List.mem_singleton.1 hm]; exact hD))) hXp (fun k h => .inr h)).rr (.inl rfl), FE⟩
    have hR : RowW EW 7 25 w2.heap.size W (.slice a1 L.length k1) (allR l one s).1 := by rw [← HI.out.1]; exact HI.out.2.2.2.1
    refine RowW.base (base := w2.heap.size) ?_ (by have := HZ.out; omega)
    exact (hR.fr FD (fun g hg => by obtain ⟨cur, hcur⟩ := hR.blkOf hg; exact hcell _ _ _ hcur) (fun cs t h => HST.out _ _ _ _ _ FD (fun k hk => .inr (.inl (by rw [List.mem_singleton.1 hk]; exact ⟨_, hK, rfl⟩))) h))
def zcN : List Value := [.int .i64 0, .int .i64 0, .int .i64 0, .int .i64 0, .int .i64 0]
theorem rzN : ∀ w, (zeroValue 27).run Try.prog w = .ok (.agg zcN.toArray) w := fun w => by kernel_rfl
theorem riN : (Try.prog.info? 27).map (fun i => (i.zero.map (·.cells), i.size, i.bytes)) = some (some zcN.toArray, 5, 40) := by kernel_rfl
theorem thingsN_calls (w : World) (p k : Nat) :
    Calls Try.prog 107 #[.pointer (some ⟨p, 0, none⟩), mv k p] w fun e w' => e = .returned (.func (.func 114) #[] #[.pointer (some ⟨w.heap.size, 0, none⟩), .pointer (some ⟨w.heap.size + 1, 0, none⟩)]) ∧
      Blk w' w.heap.size 90 [.pointer (some ⟨p, 0, none⟩)] ∧ Blk w' (w.heap.size + 1) 157 [mv k p] ∧ Fr [] w w' ∧ w'.heap.size = w.heap.size + 2 := by
  go_enter Try.func107, Try.ntmps107
  go_wp2_with fail
  go_ret
  have b1 := Blk.new w 90 [.pointer (some ⟨p, 0, none⟩)]
  have b2 := Blk.new (w.alloc (.cells #[.pointer (some ⟨p, 0, none⟩)] 90)) 157 [mv k p]
  rw [World.size_alloc] at b2
  exact ⟨rfl, b1.alloc _, b2, ((Fr.refl [] w).alloc _).alloc _, by simp⟩
set_option maxRecDepth 100000 in
set_option maxHeartbeats 1000000 in
theorem things1N_seq {β : Type} {w : World} {X : Nat → Prop} {base p B1 B2 : Nat} {a : Option Addr} {n c : Nat} {l : List Int} {s : Int × Int} (one : Int × Int → β × Int × Int) (El : β × Value → World → Prop)
    (hone : OneC Try.prog 90 base p a n c l one El) (hElS : ∀ xv W, El xv W → ∃ cs : List Value, xv.2 = .agg cs.toArray ∧ cs.length = 5 ∧ ∀ u ∈ cs, u.oneCell' = true) (hElF : ∀ xv W W', Fr [] W W' → El xv W → El xv W') (h : Rs w (fun k => k = p ∨ X k) p a n c l s) (hbase : base ≤ w.heap.size) (hp : ¬ X p)
    (h1 : Blk w B1 90 [.pointer (some ⟨p, 0, none⟩)]) (h2 : Blk w B2 157 [mv 90 p]) (hx1 : ¬ X B1) (hx2 : ¬ X B2) :
    SeqFr Try.prog 114 #[.pointer (some ⟨B1, 0, none⟩), .pointer (some ⟨B2, 0, none⟩)] Prod.snd El [p] X 1024 (fun xs W => xs.map Prod.fst = (allR l one s).1 ∧ Rs W (fun k => k = p ∨ X k) p a n c l (allR l one s).2 ∧ w.heap.size ≤ W.heap.size) w := by
  intro y J W hW hJ hY h0
  obtain ⟨m, hm, hr1⟩ := rU_1024 l h.src.byt s
  have HC := Lib.hid (upto_calls ((h.fr0 hW).rr (.inl rfl)) 1024 3)
  have c1 : W.cell? ⟨B1, 0, none⟩ = some (.pointer (some ⟨p, 0, none⟩)) := (h1.fr hW (by simp)).cellAt rfl
  unfold allR
  generalize rU l 1024 3 s = r at *
  obtain ⟨r1, sr⟩ := r
  dsimp only at hr1 HC ⊢
  subst hr1
  rw [Int.toNat_natCast]
  have HH := Lib.hid (And.intro h (And.intro h1 h2))
  clear h h1 h2
  refine callsIn_of_wp Try.func114 rfl trivial ?_ rfl
  simp only [Try.ntmps114, List.size_toArray, List.length_cons, List.length_nil, Nat.reduceAdd, Nat.reduceSub, Array.replicate_succ, Array.replicate_zero, List.push_toArray, List.append_toArray, List.nil_append, List.cons_append]
  gi_wp2
  refine ⟨trivial, (callsIn_wide.2 HC.out).mono ?_⟩
  rintro e w1 ⟨rfl, hr, hf⟩
  have hB1p : B1 ≠ p := fun e => by
    have := (HH.out.1.hp.ne HH.out.2.1 (by decide))
    exact this e.symm
  have hB2p : B2 ≠ p := fun e => by
    have := (HH.out.1.hp.ne HH.out.2.2 (by decide))
    exact this e.symm
  have R0 : T1S (157) w (fun k => k = p ∨ X k) J p B1 B2 90 a n c l one m sr 0 [] sr w1 :=
    ⟨Nat.zero_le _, rfl, hJ [] _ _ h0 hf, (HH.out.1.fr0 hW).one (.inl rfl) hr hf, (HH.out.2.1.fr hW (by simp)).fr hf (by simpa using hB1p), (HH.out.2.2.fr hW (by simp)).fr hf (by simpa using hB2p), by have := hW.size; have := hf.size; omega, by simp, rfl⟩
  have HR0 := Lib.hid R0
  have HE := Lib.hid (And.intro hJ hY)
  clear R0 c1 HC h0 hr hf hJ hY
  gi_wp2
  gi_loopw [7] (fun i wr => ∃ k pre s2, i = .int .u64 (k : Nat) ∧ T1S (157) w (fun k => k = p ∨ X k) J p B1 B2 90 a n c l one m sr k pre s2 wr) (fun i _ => m - (intOf i).toNat)
  case atStart => exact ⟨0, [], sr, rfl, HR0.out⟩
  case round =>
    obtain ⟨k, pre, s2, rfl, hT⟩ := hrel
    have hkm := hT.le
    by_cases hlt : k < m
    · obtain ⟨d, hd⟩ : ∃ d, m - k = d + 1 := ⟨m - k - 1, by omega⟩
      have kb : (k : Int) < (m : Int) := by omega
      have c1 : wr.cell? ⟨B1, 0, none⟩ = some (.pointer (some ⟨p, 0, none⟩)) := hT.b1.cellAt rfl
      have c2 : wr.cell? ⟨B2, 0, none⟩ = some (mv 90 p) := hT.b2.cellAt rfl
      have HO := Lib.hid (hone wr s2 (by have := hT.sz; omega) (hT.rs.rr (.inl rfl)))
      have e1 := hT.e1
      have e2 := hT.e2
      rw [hd, manyR] at e1 e2
      generalize one s2 = q at *
      obtain ⟨x, s3⟩ := q
      have HT := Lib.hid hT
      have HEE := Lib.hid (And.intro e1 e2)
      have HDD := Lib.hid hd
      clear hT e1 e2 hd
      gi_wp2
      refine ⟨trivial, (callsIn_wide.2 HO.out).mono ?_⟩
      rintro e w2 ⟨v, rfl, hel, hr, hf⟩
      obtain ⟨cs, hv, hcl, hone1⟩ := hElS _ _ hel
      dsimp only at hv
      subst hv
      rename_i K2 a2 K1 a1 K0 a0
      refine a0 _ _ ?_
      refine wpListInW_step (by rfl) (by simp) (wpList_allocZ rfl 27 rfl _ rzN ?_)
      intro w3 B3 F3 S3
      refine ⟨rfl, ?_⟩
      simp only [Act.put, List.setIfInBounds_toArray, List.set_cons_zero, List.set_cons_succ]
      refine wpListInW_step (by rfl) (by simp) (wpList_storeB rfl 27 _ _ rfl w2.heap.size 0 cs (by rfl) (by rfl) 27 _ B3 (by rw [hcl]; show 0 + 5 ≤ 5; omega) (by rw [hcl]; kernel_rfl) hone1 ?_)
      intro w4 B4 F4 S4
      refine ⟨rfl, ?_⟩
      rw [splice_all _ _ (by rw [hcl]; rfl)] at B4
      simp only [Act.put, List.setIfInBounds_toArray, List.set_cons_zero, List.set_cons_succ]
      have F24 : Fr [] w2 w4 := F3.trans F4 (fun k hk hlt => by rw [List.mem_singleton.1 hk] at hlt; omega)
      refine a1 _ _ ?_
      have b1 := (HT.out.b1.fr hf (by simpa using hB1p)).fr F24 (by simp)
      have b2 := (HT.out.b2.fr hf (by simpa using hB2p)).fr F24 (by simp)
      have R2 := (HT.out.rs.one (.inl rfl) hr hf).fr0 F24
      have J2 := HE.out.1 pre _ _ (HE.out.1 pre _ _ HT.out.j hf) (Fr.ext F24)
      have hel4 := hElF _ _ _ F24 hel
      have HB4 := Lib.hid B4
      have hf4 := hf.trans0 F24
      have d1 : w4.cell? ⟨B1, 0, none⟩ = some (.pointer (some ⟨p, 0, none⟩)) := b1.cellAt rfl
      have d2 : w4.cell? ⟨p, 2, none⟩ = some (.int .i64 s3.2) := R2.hp.cellAt rfl
      obtain ⟨at3, er3⟩ := s3
      dsimp only at d2
      have hpl := R2.hp.lt
      clear B3 F3 S3 B4 F4 S4 F24 hel a0 K0
      by_cases he : er3 = 0
      · subst he
        obtain ⟨fn, tmps, assign, body, hy, hR⟩ := HE.out.2 pre (x, .agg cs.toArray) w4 J2 hel4 (by have := HT.out.len; omega)
        dsimp only at hy
        have HRR := Lib.hid hR
        have HB := Lib.hid (And.intro b1 (And.intro b2 (And.intro R2 (And.intro hf4 J2))))
        clear hR b1 b2 R2 hf hf4 J2 hr hel4 c1 c2 HR0
        gi_wp2_with (refine wpListInW_step (by rfl) (by simp) (gate_guard (by rfl) (wpList_loadB rfl 27 _ rfl w2.heap.size (by rfl) 27 _ _ HB4.out Try.underlying27 rfl (by rw [hcl]; kernel_rfl) ?_)); refine ⟨rfl, ?_⟩)
        refine HRR.out.mono ?_
        rintro e w3 ⟨rfl, hJ3, hk3⟩
        have RR := Lib.hid (show T1S (157) w (fun k => k = p ∨ X k) J p B1 B2 90 a n c l one m sr (k + 1) (pre ++ [(x, .agg cs.toArray)]) (at3, 0) w3 from
          ⟨hlt, by rw [List.length_append, HT.out.len]; rfl, hJ3, HB.out.2.2.1.frX hk3 hp (fun k h => .inr h), HB.out.1.frX hk3 hx1, HB.out.2.1.frX hk3 hx2, by have := HT.out.sz; have := HB.out.2.2.2.1.size; have := hk3.size; omega,
            by rw [HEE.out.1, if_pos trivial, show m - (k + 1) = d by have := HDD.out; omega]; simp, by rw [HEE.out.2, if_pos trivial, show m - (k + 1) = d by have := HDD.out; omega]⟩)
        clear hJ3 hk3 hy d1 d2
        gi_wp2
        go_roundw
        case rel => exact ⟨k + 1, _, _, by first | rfl | (simp; done) | (rw [IntKind.wrap_u64]; congr 1; omega), RR.out⟩
        case measure => simp [intOf]; omega
      · have hb : (er3 != 0) = true := by simpa using he
        have HB := Lib.hid (And.intro R2 (And.intro hf4 J2))
        have HE0 := Lib.hid he
        clear b1 b2 R2 hf hf4 J2 hr hel4 c1 c2 HR0 he
        gi_wp2
        refine ⟨fun _ h => (by cases h), ?_⟩
        gi_wp2
        refine bodyPost_ret (results_none rfl _ _ _) rfl ?_
        refine ⟨⟨_, rfl⟩, pre, HB.out.2.2, ?_, ?_, by have := HT.out.sz; have := HB.out.2.1.size; omega⟩
        · rw [HEE.out.1, if_neg HE0.out]
          simp
        · rw [HEE.out.2, if_neg HE0.out]
          exact HB.out.1
    · obtain rfl : k = m := by omega
      have HT := Lib.hid hT
      clear hT
      gi_wp2
      go_end0
      refine ⟨⟨_, rfl⟩, pre, HT.out.j, ?_, ?_, HT.out.sz⟩
      · rw [HT.out.e1, Nat.sub_self]
        simp [manyR]
      · rw [HT.out.e2, Nat.sub_self]
        exact HT.out.rs
set_option maxRecDepth 100000 in
set_option maxHeartbeats 2000000 in
theorem allN_calls {β : Type} {EW : World → List Value → β → Prop} {w : World} {p : Nat} {a : Option Addr} {n c : Nat} {l : List Int} {s : Int × Int} (one : Int × Int → β × Int × Int) (hst : Stays EW p 27 54) (hone : OneC Try.prog 90 w.heap.size p a n c l one (SEl EW 5)) (h : Rr w p a n c l s) :
    Calls Try.prog 89 #[.pointer (some ⟨p, 0, none⟩), mv 90 p] w fun e w' => ∃ v, e = .returned v ∧ RowW EW 5 27 w.heap.size w' v (allR l one s).1 ∧ Rr w' p a n c l (allR l one s).2 ∧ Fr [p] w w' := by
  have hpl := h.hp.lt
  have HH := Lib.hid h
  have HST := Lib.hid hst
  clear h
  refine (callsIn_wide (n := 3)).1 ?_
  refine callsIn_of_wp_marks Try.func89 rfl trivial ?_ rfl
  simp only [Try.ntmps89, List.size_toArray, List.length_cons, List.length_nil, Nat.reduceAdd, Nat.reduceSub, Array.replicate_succ, Array.replicate_zero, List.push_toArray, List.append_toArray, List.nil_append, List.cons_append]
  gi_wp2
  have b0 := Blk.new w 54 [.slice none 0 0]
  have f0 := (Fr.refl [] w).alloc (.cells #[.slice none 0 0] 54)
  have z0 := World.size_alloc w (.cells #[.slice none 0 0] 54)
  generalize w.alloc (.cells #[.slice none 0 0] 54) = w1 at *
  refine ⟨trivial, (callsIn_wide.2 (thingsN_calls w1 p 90)).mono ?_⟩
  rintro e w2 ⟨rfl, b1, b2, f2, z2⟩
  rw [z0] at b1 b2 z2
  gi_wp2
  have hnp : w.heap.size ≠ p := by omega
  have fw2 := f0.trans0 f2
  have hX0 : ∀ k, k = w.heap.size ∨ w2.heap.size ≤ k → w.heap.size ≤ k := fun k hk => by omega
  have hXp : ¬ (p = w.heap.size ∨ w2.heap.size ≤ p) := by omega
  have rs : Rs w2 (fun k => k = p ∨ (k = w.heap.size ∨ w2.heap.size ≤ k)) p a n c l s :=
    ⟨HH.out.hp.fr fw2 (by simp), HH.out.rd.step fw2 (by simp) (fun k hk => by rcases hk with h | h; exact .inl h; exact .inr (hX0 k h)), HH.out.src⟩
  have hElF : ∀ xv W W', Fr [] W W' → SEl EW 5 xv W → SEl EW 5 xv W' := fun xv W W' f hx => by
    obtain ⟨cs, h1, h2, h3, h4⟩ := hx
    exact ⟨cs, h1, h2, h3, hst.fr0 f h4⟩
  refine wpIn_rangeFr (gf := 114) (lb := #[.pointer (some ⟨w.heap.size + 1, 0, none⟩), .pointer (some ⟨w.heap.size + 1 + 1, 0, none⟩)]) rfl (enters_of Try.func114 (by kernel_rfl) rfl) (S := [p]) (X := fun k => k = w.heap.size ∨ w2.heap.size ≤ k) (N := 1024) (fun k hk => by rw [List.mem_singleton.1 hk]; omega) (fun k hk => .inr hk)
    (things1N_seq (base := w.heap.size) one (SEl EW 5) hone (fun xv W hx => by obtain ⟨cs, h1, h2, h3, _⟩ := hx; exact ⟨cs, h1, h2, h3⟩) hElF rs (by omega) hXp b1 b2 (by omega) (by omega))
    (fun pre W => ∃ v, Blk W w.heap.size 54 [v] ∧ RowW EW 5 27 w2.heap.size W v (pre.map Prod.fst) ∧ Fr [p] w W ∧ w2.heap.size ≤ W.heap.size) ?hI ?hEl ?hEnd
    (AxS 27 5 fun gv xv => { tmps := #[.pointer (some ⟨p, 0, none⟩), mv 90 p, undef, undef, .slice none 0 0, .pointer (some ⟨w.heap.size, 0, none⟩), gv, .pointer (some ⟨p, 0, none⟩), mv 90 p, .func (.func 114) #[] #[.pointer (some ⟨w.heap.size + 1, 0, none⟩), .pointer (some ⟨w.heap.size + 1 + 1, 0, none⟩)], xv, undef, undef, undef, undef, undef], defers := [] })
    ?hAx ⟨_, b0.fr f2 (by simp), RowW.nil _, Fr.ext fw2, Nat.le_refl _⟩ ?assign ?body ?done
  case hI =>
    rintro pre T A C ⟨v, hb, ho, hf, hz⟩ hT hk
    have hcell : ∀ k t cs, Blk A k t cs → k ≠ p → k ∉ T := fun k t cs hbk hkp hm => by
      rcases hk k hm with h | ⟨_, o, h1, h2⟩
      · exact hkp (List.mem_singleton.1 h)
      · unfold Blk at hbk
        rw [h1] at hbk
        cases hbk
        cases h2
    refine ⟨v, hb.fr hT (hcell _ _ _ hb hnp), ho.fr hT (fun g hg => ?_) (fun cs t h => hst _ _ _ _ _ hT (fun k hm => ?_) h), hf.trans hT (fun k hm hlt => ?_), by have := hT.size; omega⟩
    · obtain ⟨cur, hcur⟩ := ho.blkOf hg
      exact hcell _ _ _ hcur (by have := (ho.lt hg).1; omega)
    · rcases hk k hm with h | ⟨_, o, h1, h2⟩
      · exact .inl (List.mem_singleton.1 h)
      · exact .inr (.inl ⟨o, h1, h2⟩)
    · rcases hk k hm with h | h
      · exact h
      · exact absurd h.1 (by omega)
  case hEl =>
    rintro xv T A C ⟨cs, h1, h2, h3, h4⟩ hT hk
    refine ⟨cs, h1, h2, h3, hst _ _ _ _ _ hT (fun k hm => ?_) h4⟩
    rcases hk k hm with h | ⟨_, o, h1, h2⟩
    · exact .inl (List.mem_singleton.1 h)
    · exact .inr (.inl ⟨o, h1, h2⟩)
  case hAx =>
    rintro a' x T A C ⟨g, cs, h1, h2, h3, hb, h4⟩ hT hk
    refine ⟨g, cs, h1, h2, h3, hb.fr hT (fun hm => ?_), h4⟩
    rcases hk g hm with h | ⟨_, o, k1, k2⟩
    · simp at h
    · unfold Blk at hb
      rw [k1] at hb
      cases hb
      cases k2
  case hEnd =>
    rintro xs T A C ⟨he, hr, hz⟩ hT hk
    exact ⟨he, hr.frX (hT.x (X := fun k => k = w.heap.size ∨ w2.heap.size ≤ k) (fun k hm => by rcases hk k hm with h | h; simp at h; exact .inr h.1)) hXp (fun k h => .inr h), by have := hT.size; omega⟩
  case assign =>
    rintro y ⟨x1, x2⟩ W ⟨cs, hv, hcl, h1, _⟩
    dsimp only at hv
    subst hv
    clear b0 f0 f2 b1 b2 fw2 rs hX0 hXp
    refine wpIn_region_lit ?_
    refine wpListIn_of_wpList (by rintro ⟨a, w, h⟩; exact h) _ _ _ (by intro o ho c; simp only [List.mem_cons, List.not_mem_nil, or_false] at ho; rcases ho with rfl | rfl <;> simp) ?_
    go_wp2_with (first
      | (refine wpList_storeB rfl 27 _ _ rfl W.heap.size 0 cs (by rfl) (by rfl) 27 _ HB3.out (by rw [hcl]; show 0 + 5 ≤ 5; omega) (by rw [hcl]; kernel_rfl) h1 ?_; intro w4 B4 F4 S4; rw [splice_all _ _ (by rw [hcl]; rfl)] at B4; have HB4 := Lib.hid B4; have HF4 := Lib.hid (HF3.out.trans F4 (fun k hk hlt => by rw [List.mem_singleton.1 hk] at hlt; omega)); clear B4 F4 S4)
      | (refine wpList_allocZ rfl 27 rfl _ rzN ?_; intro w3 B3 F3 S3; have HB3 := Lib.hid B3; have HF3 := Lib.hid F3; clear B3 F3 S3))
    exact ⟨HF4.out, _, cs, rfl, hcl, h1, HB4.out, rfl⟩
  case body =>
    rintro y pre ⟨x1, x2⟩ a₁ W ⟨v, hb, ho, hf, hz⟩ ⟨cs0, hv0, hcl0, hone0, hew⟩ ⟨g, cs, hv, hcl, h1, hg, rfl⟩ hlen
    dsimp only at hv hv0
    have hcc : cs0 = cs := by
      rw [hv] at hv0
      simpa using hv0.symm
    subst hcc
    subst hv
    obtain ⟨a1, k1, rfl, g1, g2⟩ := ho.form
    have c0 : W.cell? ⟨w.heap.size, 0, none⟩ = some (.slice a1 (pre.map Prod.fst).length k1) := hb.cellAt rfl
    have hml : (pre.map Prod.fst).length = pre.length := List.length_map _
    have hmm : (pre.map Prod.fst).length < 1024 := by omega
    have HI := Lib.hid (And.intro hb (And.intro ho (And.intro hf (And.intro hz (And.intro hew hg)))))
    have hbl := hb.lt
    have hgB : w.heap.size ∉ ob (.slice a1 (pre.map Prod.fst).length k1) := fun hm => by have := (ho.lt hm).1; omega
    have HGB := Lib.hid hgB
    clear hb ho hf hz b0 f0 f2 b1 b2 fw2 rs hX0 hXp g1 g2 hew hg hv0 hcl0 hone0 hlen hgB hml
    generalize hL : pre.map Prod.fst = L at *
    have HZ := Lib.hid z2
    clear z2
    refine wpIn_block ?_
    refine wpIn_region_lit ?_
    refine wpListIn_of_wpList (by rintro ⟨a, w, h⟩; exact h) _ _ _ (by intro o ho c; simp only [List.mem_cons, List.not_mem_nil, or_false] at ho; rcases ho with rfl | rfl | rfl | rfl | rfl <;> simp) ?_
    go_wp2_with (first
      | (have z := HR4.out; clear z; refine wpList_store1 rfl 54 _ _ rfl w.heap.size 0 (.slice a4 (L ++ [x1]).length k4) (by rfl) (by rfl) rfl 54 _ HB4.out (by simp) (by kernel_rfl) rfl ?_; intro w5 B5 F5 S5)
      | (have z := HB3.out; clear z; refine wpList_appW rfl _ _ 54 54 rfl w2.heap.size 27 27 zcN 5 40 Try.underlying54 Try.underlying54 riN rfl (by decide) _ L (by rfl) HR3.out _ 1 (by rfl) 27 cs0 HB3.out hcl h1 x1 HW3.out (by simp only [maxLen]; omega) (by omega) (by have := HF3.out.size; have := HI.out.2.2.2.1; omega) (fun w' cs t f h => HST.out _ _ _ _ _ f (fun k hk => .inr (.inr (by obtain ⟨cur, hcur⟩ := HR3.out.blkOf hk; exact ⟨_, cur, hcur, .inl rfl⟩))) h) ?_; intro v4 w4 R4 F4 K4; obtain ⟨a4, k4, hv4, _, _⟩ := R4.form; subst hv4; have HR4 := Lib.hid R4; have HF4 := Lib.hid F4; have HB4 := Lib.hid ((HI.out.1.fr HF3.out (by simp)).fr F4 HGB.out); clear R4 F4 K4)
      | (refine wpList_loadB rfl 27 _ rfl g (by rfl) 27 _ _ HI.out.2.2.2.2.2 Try.underlying27 rfl (by rw [hcl]; kernel_rfl) ?_)
      | (refine wpList_buildSlice1 rfl 54 27 _ rfl zcN 5 40 Try.underlying54 riN (by rfl) (by omega) (by omega) _ cs0 (by rfl) (by rfl) hcl ?_; intro w3 B3 F3 S3; have HB3 := Lib.hid B3; have HF3 := Lib.hid F3; have HW3 := Lib.hid (HST.out.fr0 F3 HI.out.2.2.2.2.1); have HR3 := Lib.hid (HI.out.2.1.fr F3 (by simp) (fun cs t h => HST.out.fr0 F3 h)); clear B3 F3 S3))
    have hob4 : ∀ k ∈ ob (.slice a4 (L ++ [x1]).length k4), k ∉ [w.heap.size] := fun k hk hm => by
      rw [List.mem_singleton.1 hm] at hk
      have := (HR4.out.lt hk).1
      have := HZ.out
      omega
    have FT : Fr (w.heap.size :: ob (.slice a1 L.length k1)) W w5 := ((Fr.ext HF3.out).trans (S' := ob (.slice a1 L.length k1)) HF4.out (fun k hk _ => List.mem_cons_of_mem _ hk)).trans F5 (fun k hk _ => by rw [List.mem_singleton.1 hk]; exact List.mem_cons_self)
    have R5 := HR4.out.fr F5 hob4 (fun cs t h => HST.out _ _ _ _ _ F5 (fun k hk => .inr (.inr (by rw [List.mem_singleton.1 hk]; exact ⟨_, _, HB4.out, .inr rfl⟩))) h)
    refine ⟨⟨_, FT, fun k hk => ?_⟩, _, B5, ?_, HI.out.2.2.1.trans FT (fun k hk hlt => ?_), by have := FT.size; have := HI.out.2.2.2.1; omega⟩
    · rcases List.mem_cons.1 hk with rfl | hk
      · exact ⟨.inl rfl, _, _, HI.out.1⟩
      · obtain ⟨cur, hcur⟩ := HI.out.2.1.blkOf hk
        exact ⟨.inr (HI.out.2.1.lt hk).1, _, _, hcur⟩
    · first | exact R5 | (rw [List.map_append, hL]; exact R5)
    · rcases List.mem_cons.1 hk with rfl | hk
      · omega
      · have := (HI.out.2.1.lt hk).1
        have := HZ.out
        omega
  case done =>
    rintro D xs W hD ⟨he, hr, hz⟩ ⟨v, hb, ho, hf, hz2⟩ hK
    obtain ⟨a1, k1, rfl, g1, g2⟩ := ho.form
    have c0 : W.cell? ⟨w.heap.size, 0, none⟩ = some (.slice a1 (xs.map Prod.fst).length k1) := hb.cellAt rfl
    have HI := Lib.hid (And.intro he (And.intro hr (And.intro hb (And.intro ho (And.intro hf hz2)))))
    clear he hr hb ho hf hz hz2 b0 f0 f2 b1 b2 fw2 rs hX0 g1 g2
    generalize hL : xs.map Prod.fst = L at *
    have HZ := Lib.hid z2
    clear z2
    gi_wp2
    have FD : Fr [D] W (W.putObj D (.deferred none)) := (Fr.refl _ W).putObj D _ (.inl (by simp))
    have hcell : ∀ k t cs, Blk W k t cs → k ∉ [D] := fun k t cs hbk hm => by
      rw [List.mem_singleton.1 hm] at hbk
      unfold Blk at hbk
      rw [hK] at hbk
      cases hbk
    have FE : Fr [p] w (W.putObj D (.deferred none)) := HI.out.2.2.2.2.1.trans FD (fun k hm hlt => by have h9 := List.mem_singleton.1 hm; have := HZ.out; omega)
    refine ⟨by simp, .inl ⟨D, _, rfl, run_takeDeferred hK, ?_⟩⟩
    refine ⟨_, results_tmp rfl _ _ _, _, rfl, ?_, (HI.out.2.1.frX (FD.x (X := fun k => k = w.heap.size ∨ w2.heap.size ≤ k) (fun k hm => .inr (by rw [List.mem_singleton.1 hm]; exact hD))) hXp (fun k h => .inr h)).rr (.inl rfl), FE⟩
    have hR : RowW EW 5 27 w2.heap.size W (.slice a1 L.length k1) (allR l one s).1 := by rw [← HI.out.1]; exact HI.out.2.2.2.1
    refine RowW.base (base := w2.heap.size) ?_ (by have := HZ.out; omega)
    exact (hR.fr FD (fun g hg => by obtain ⟨cur, hcur⟩ := hR.blkOf hg; exact hcell _ _ _ hcur) (fun cs t h => HST.out _ _ _ _ _ FD (fun k hk => .inr (.inl (by rw [List.mem_singleton.1 hk]; exact ⟨_, hK, rfl⟩))) h))
def zcT : List Value := [.int .i64 0, .int .i64 0, .int .i64 0, .int .i64 0, .int .i64 0, .slice none 0 0, .int .i64 0]
theorem rzT : ∀ w, (zeroValue 30).run Try.prog w = .ok (.agg zcT.toArray) w := fun w => by kernel_rfl
theorem riT : (Try.prog.info? 30).map (fun i => (i.zero.map (·.cells), i.size, i.bytes)) = some (some zcT.toArray, 7, 72) := by kernel_rfl
theorem thingsT_calls (w : World) (p k : Nat) :
    Calls Try.prog 108 #[.pointer (some ⟨p, 0, none⟩), mv k p] w fun e w' => e = .returned (.func (.func 115) #[] #[.pointer (some ⟨w.heap.size, 0, none⟩), .pointer (some ⟨w.heap.size + 1, 0, none⟩)]) ∧
      Blk w' w.heap.size 90 [.pointer (some ⟨p, 0, none⟩)] ∧ Blk w' (w.heap.size + 1) 159 [mv k p] ∧ Fr [] w w' ∧ w'.heap.size = w.heap.size + 2 := by
  go_enter Try.func108, Try.ntmps108
  go_wp2_with fail
  go_ret
  have b1 := Blk.new w 90 [.pointer (some ⟨p, 0, none⟩)]
  have b2 := Blk.new (w.alloc (.cells #[.pointer (some ⟨p, 0, none⟩)] 90)) 159 [mv k p]
  rw [World.size_alloc] at b2
  exact ⟨rfl, b1.alloc _, b2, ((Fr.refl [] w).alloc _).alloc _, by simp⟩
set_option maxRecDepth 100000 in
set_option maxHeartbeats 1000000 in
theorem things1T_seq {β : Type} {w : World} {X : Nat → Prop} {base p B1 B2 : Nat} {a : Option Addr} {n c : Nat} {l : List Int} {s : Int × Int} (one : Int × Int → β × Int × Int) (El : β × Value → World → Prop)
    (hone : OneC Try.prog 92 base p a n c l one El) (hElS : ∀ xv W, El xv W → ∃ cs : List Value, xv.2 = .agg cs.toArray ∧ cs.length = 7 ∧ ∀ u ∈ cs, u.oneCell' = true) (hElF : ∀ xv W W', Fr [] W W' → El xv W → El xv W') (h : Rs w (fun k => k = p ∨ X k) p a n c l s) (hbase : base ≤ w.heap.size) (hp : ¬ X p)
    (h1 : Blk w B1 90 [.pointer (some ⟨p, 0, none⟩)]) (h2 : Blk w B2 159 [mv 92 p]) (hx1 : ¬ X B1) (hx2 : ¬ X B2) :
    SeqFr Try.prog 115 #[.pointer (some ⟨B1, 0, none⟩), .pointer (some ⟨B2, 0, none⟩)] Prod.snd El [p] X 1024 (fun xs W => xs.map Prod.fst = (allR l one s).1 ∧ Rs W (fun k => k = p ∨ X k) p a n c l (allR l one s).2 ∧ w.heap.size ≤ W.heap.size) w := by
  intro y J W hW hJ hY h0
  obtain ⟨m, hm, hr1⟩ := rU_1024 l h.src.byt s
  have HC := Lib.hid (upto_calls ((h.fr0 hW).rr (.inl rfl)) 1024 3)
  have c1 : W.cell? ⟨B1, 0, none⟩ = some (.pointer (some ⟨p, 0, none⟩)) := (h1.fr hW (by simp)).cellAt rfl
  unfold allR
  generalize rU l 1024 3 s = r at *
  obtain ⟨r1, sr⟩ := r
  dsimp only at hr1 HC ⊢
  subst hr1
  rw [Int.toNat_natCast]
  have HH := Lib.hid (And.intro h (And.intro h1 h2))
  clear h h1 h2
  refine callsIn_of_wp Try.func115 rfl trivial ?_ rfl
  simp only [Try.ntmps115, List.size_toArray, List.length_cons, List.length_nil, Nat.reduceAdd, Nat.reduceSub, Array.replicate_succ, Array.replicate_zero, List.push_toArray, List.append_toArray, List.nil_append, List.cons_append]
  gi_wp2
  refine ⟨trivial, (callsIn_wide.2 HC.out).mono ?_⟩
  rintro e w1 ⟨rfl, hr, hf⟩
  have hB1p : B1 ≠ p := fun e => by
    have := (HH.out.1.hp.ne HH.out.2.1 (by decide))
    exact this e.symm
  have hB2p : B2 ≠ p := fun e => by
    have := (HH.out.1.hp.ne HH.out.2.2 (by decide))
    exact this e.symm
  have R0 : T1S (159) w (fun k => k = p ∨ X k) J p B1 B2 92 a n c l one m sr 0 [] sr w1 :=
    ⟨Nat.zero_le _, rfl, hJ [] _ _ h0 hf, (HH.out.1.fr0 hW).one (.inl rfl) hr hf, (HH.out.2.1.fr hW (by simp)).fr hf (by simpa using hB1p), (HH.out.2.2.fr hW (by simp)).fr hf (by simpa using hB2p), by have := hW.size; have := hf.size; omega, by simp, rfl⟩
  have HR0 := Lib.hid R0
  have HE := Lib.hid (And.intro hJ hY)
  clear R0 c1 HC h0 hr hf hJ hY
  gi_wp2
  gi_loopw [7] (fun i wr => ∃ k pre s2, i = .int .u64 (k : Nat) ∧ T1S (159) w (fun k => k = p ∨ X k) J p B1 B2 92 a n c l one m sr k pre s2 wr) (fun i _ => m - (intOf i).toNat)
  case atStart => exact ⟨0, [], sr, rfl, HR0.out⟩
  case round =>
    obtain ⟨k, pre, s2, rfl, hT⟩ := hrel
    have hkm := hT.le
    by_cases hlt : k < m
    · obtain ⟨d, hd⟩ : ∃ d, m - k = d + 1 := ⟨m - k - 1, by omega⟩
      have kb : (k : Int) < (m : Int) := by omega
      have c1 : wr.cell? ⟨B1, 0, none⟩ = some (.pointer (some ⟨p, 0, none⟩)) := hT.b1.cellAt rfl
      have c2 : wr.cell? ⟨B2, 0, none⟩ = some (mv 92 p) := hT.b2.cellAt rfl
      have HO := Lib.hid (hone wr s2 (by have := hT.sz; omega) (hT.rs.rr (.inl rfl)))
      have e1 := hT.e1
      have e2 := hT.e2
      rw [hd, manyR] at e1 e2
      generalize one s2 = q at *
      obtain ⟨x, s3⟩ := q
      have HT := Lib.hid hT
      have HEE := Lib.hid (And.intro e1 e2)
      have HDD := Lib.hid hd
      clear hT e1 e2 hd
      gi_wp2
      refine ⟨trivial, (callsIn_wide.2 HO.out).mono ?_⟩
      rintro e w2 ⟨v, rfl, hel, hr, hf⟩
      obtain ⟨cs, hv, hcl, hone1⟩ := hElS _ _ hel
      dsimp only at hv
      subst hv
      rename_i K2 a2 K1 a1 K0 a0
      refine a0 _ _ ?_
      refine wpListInW_step (by rfl) (by simp) (wpList_allocZ rfl 30 rfl _ rzT ?_)
      intro w3 B3 F3 S3
      refine ⟨rfl, ?_⟩
      simp only [Act.put, List.setIfInBounds_toArray, List.set_cons_zero, List.set_cons_succ]
      refine wpListInW_step (by rfl) (by simp) (wpList_storeB rfl 30 _ _ rfl w2.heap.size 0 cs (by rfl) (by rfl) 30 _ B3 (by rw [hcl]; show 0 + 7 ≤ 7; omega) (by rw [hcl]; kernel_rfl) hone1 ?_)
      intro w4 B4 F4 S4
      refine ⟨rfl, ?_⟩
      rw [splice_all _ _ (by rw [hcl]; rfl)] at B4
      simp only [Act.put, List.setIfInBounds_toArray, List.set_cons_zero, List.set_cons_succ]
      have F24 : Fr [] w2 w4 := F3.trans F4 (fun k hk hlt => by rw [List.mem_singleton.1 hk] at hlt; omega)
      refine a1 _ _ ?_
      have b1 := (HT.out.b1.fr hf (by simpa using hB1p)).fr F24 (by simp)
      have b2 := (HT.out.b2.fr hf (by simpa using hB2p)).fr F24 (by simp)
      have R2 := (HT.out.rs.one (.inl rfl) hr hf).fr0 F24
      have J2 := HE.out.1 pre _ _ (HE.out.1 pre _ _ HT.out.j hf) (Fr.ext F24)
      have hel4 := hElF _ _ _ F24 hel
      have HB4 := Lib.hid B4
      have hf4 := hf.trans0 F24
      have d1 : w4.cell? ⟨B1, 0, none⟩ = some (.pointer (some ⟨p, 0, none⟩)) := b1.cellAt rfl
      have d2 : w4.cell? ⟨p, 2, none⟩ = some (.int .i64 s3.2) := R2.hp.cellAt rfl
      obtain ⟨at3, er3⟩ := s3
      dsimp only at d2
      have hpl := R2.hp.lt
      clear B3 F3 S3 B4 F4 S4 F24 hel a0 K0
      by_cases he : er3 = 0
      · subst he
        obtain ⟨fn, tmps, assign, body, hy, hR⟩ := HE.out.2 pre (x, .agg cs.toArray) w4 J2 hel4 (by have := HT.out.len; omega)
        dsimp only at hy
        have HRR := Lib.hid hR
        have HB := Lib.hid (And.intro b1 (And.intro b2 (And.intro R2 (And.intro hf4 J2))))
        clear hR b1 b2 R2 hf hf4 J2 hr hel4 c1 c2 HR0
        gi_wp2_with (refine wpListInW_step (by rfl) (by simp) (gate_guard (by rfl) (wpList_loadB rfl 30 _ rfl w2.heap.size (by rfl) 30 _ _ HB4.out Try.underlying30 rfl (by rw [hcl]; kernel_rfl) ?_)); refine ⟨rfl, ?_⟩)
        refine HRR.out.mono ?_
        rintro e w3 ⟨rfl, hJ3, hk3⟩
        have RR := Lib.hid (show T1S (159) w (fun k => k = p ∨ X k) J p B1 B2 92 a n c l one m sr (k + 1) (pre ++ [(x, .agg cs.toArray)]) (at3, 0) w3 from
          ⟨hlt, by rw [List.length_append, HT.out.len]; rfl, hJ3, HB.out.2.2.1.frX hk3 hp (fun k h => .inr h), HB.out.1.frX hk3 hx1, HB.out.2.1.frX hk3 hx2, by have := HT.out.sz; have := HB.out.2.2.2.1.size; have := hk3.size; omega,
            by rw [HEE.out.1, if_pos trivial, show m - (k + 1) = d by have := HDD.out; omega]; simp, by rw [HEE.out.2, if_pos trivial, show m - (k + 1) = d by have := HDD.out; omega]⟩)
        clear hJ3 hk3 hy d1 d2
        gi_wp2
        go_roundw
        case rel => exact ⟨k + 1, _, _, by first | rfl | (simp; done) | (rw [IntKind.wrap_u64]; congr 1; omega), RR.out⟩
        case measure => simp [intOf]; omega
      · have hb : (er3 != 0) = true := by simpa using he
        have HB := Lib.hid (And.intro R2 (And.intro hf4 J2))
        have HE0 := Lib.hid he
        clear b1 b2 R2 hf hf4 J2 hr hel4 c1 c2 HR0 he
        gi_wp2
        refine ⟨fun _ h => (by cases h), ?_⟩
        gi_wp2
        refine bodyPost_ret (results_none rfl _ _ _) rfl ?_
        refine ⟨⟨_, rfl⟩, pre, HB.out.2.2, ?_, ?_, by have := HT.out.sz; have := HB.out.2.1.size; omega⟩
        · rw [HEE.out.1, if_neg HE0.out]
          simp
        · rw [HEE.out.2, if_neg HE0.out]
          exact HB.out.1
    · obtain rfl : k = m := by omega
      have HT := Lib.hid hT
      clear hT
      gi_wp2
      go_end0
      refine ⟨⟨_, rfl⟩, pre, HT.out.j, ?_, ?_, HT.out.sz⟩
      · rw [HT.out.e1, Nat.sub_self]
        simp [manyR]
      · rw [HT.out.e2, Nat.sub_self]
        exact HT.out.rs
set_option maxRecDepth 100000 in
set_option maxHeartbeats 2000000 in
theorem allT_calls {β : Type} {EW : World → List Value → β → Prop} {w : World} {p : Nat} {a : Option Addr} {n c : Nat} {l : List Int} {s : Int × Int} (one : Int × Int → β × Int × Int) (hst : Stays EW p 30 55) (hone : OneC Try.prog 92 w.heap.size p a n c l one (SEl EW 7)) (h : Rr w p a n c l s) :
    Calls Try.prog 91 #[.pointer (some ⟨p, 0, none⟩), mv 92 p] w fun e w' => ∃ v, e = .returned v ∧ RowW EW 7 30 w.heap.size w' v (allR l one s).1 ∧ Rr w' p a n c l (allR l one s).2 ∧ Fr [p] w w' := by
  have hpl := h.hp.lt
  have HH := Lib.hid h
  have HST := Lib.hid hst
  clear h
  refine (callsIn_wide (n := 3)).1 ?_
  refine callsIn_of_wp_marks Try.func91 rfl trivial ?_ rfl
  simp only [Try.ntmps91, List.size_toArray, List.length_cons, List.length_nil, Nat.reduceAdd, Nat.reduceSub, Array.replicate_succ, Array.replicate_zero, List.push_toArray, List.append_toArray, List.nil_append, List.cons_append]
  gi_wp2
  have b0 := Blk.new w 55 [.slice none 0 0]
  have f0 := (Fr.refl [] w).alloc (.cells #[.slice none 0 0] 55)
  have z0 := World.size_alloc w (.cells #[.slice none 0 0] 55)
  generalize w.alloc (.cells #[.slice none 0 0] 55) = w1 at *
  refine ⟨trivial, (callsIn_wide.2 (thingsT_calls w1 p 92)).mono ?_⟩
  rintro e w2 ⟨rfl, b1, b2, f2, z2⟩
  rw [z0] at b1 b2 z2
  gi_wp2
  have hnp : w.heap.size ≠ p := by omega
  have fw2 := f0.trans0 f2
  have hX0 : ∀ k, k = w.heap.size ∨ w2.heap.size ≤ k → w.heap.size ≤ k := fun k hk => by omega
  have hXp : ¬ (p = w.heap.size ∨ w2.heap.size ≤ p) := by omega
  have rs : Rs w2 (fun k => k = p ∨ (k = w.heap.size ∨ w2.heap.size ≤ k)) p a n c l s :=
    ⟨HH.out.hp.fr fw2 (by simp), HH.out.rd.step fw2 (by simp) (fun k hk => by rcases hk with h | h; exact .inl h; exact .inr (hX0 k h)), HH.out.src⟩
  have hElF : ∀ xv W W', Fr [] W W' → SEl EW 7 xv W → SEl EW 7 xv W' := fun xv W W' f hx => by
    obtain ⟨cs, h1, h2, h3, h4⟩ := hx
    exact ⟨cs, h1, h2, h3, hst.fr0 f h4⟩
  refine wpIn_rangeFr (gf := 115) (lb := #[.pointer (some ⟨w.heap.size + 1, 0, none⟩), .pointer (some ⟨w.heap.size + 1 + 1, 0, none⟩)]) rfl (enters_of Try.func115 (by kernel_rfl) rfl) (S := [p]) (X := fun k => k = w.heap.size ∨ w2.heap.size ≤ k) (N := 1024) (fun k hk => by rw [List.mem_singleton.1 hk]; omega) (fun k hk => .inr hk)
    (things1T_seq (base := w.heap.size) one (SEl EW 7) hone (fun xv W hx => by obtain ⟨cs, h1, h2, h3, _⟩ := hx; exact ⟨cs, h1, h2, h3⟩) hElF rs (by omega) hXp b1 b2 (by omega) (by omega))
    (fun pre W => ∃ v, Blk W w.heap.size 55 [v] ∧ RowW EW 7 30 w2.heap.size W v (pre.map Prod.fst) ∧ Fr [p] w W ∧ w2.heap.size ≤ W.heap.size) ?hI ?hEl ?hEnd
    (AxS 30 7 fun gv xv => { tmps := #[.pointer (some ⟨p, 0, none⟩), mv 92 p, undef, undef, .slice none 0 0, .pointer (some ⟨w.heap.size, 0, none⟩), gv, .pointer (some ⟨p, 0, none⟩), mv 92 p, .func (.func 115) #[] #[.pointer (some ⟨w.heap.size + 1, 0, none⟩), .pointer (some ⟨w.heap.size + 1 + 1, 0, none⟩)], xv, undef, undef, undef, undef, undef], defers := [] })
    ?hAx ⟨_, b0.fr f2 (by simp), RowW.nil _, Fr.ext fw2, Nat.le_refl _⟩ ?assign ?body ?done
  case hI =>
    rintro pre T A C ⟨v, hb, ho, hf, hz⟩ hT hk
    have hcell : ∀ k t cs, Blk A k t cs → k ≠ p → k ∉ T := fun k t cs hbk hkp hm => by
      rcases hk k hm with h | ⟨_, o, h1, h2⟩
      · exact hkp (List.mem_singleton.1 h)
      · unfold Blk at hbk
        rw [h1] at hbk
        cases hbk
        cases h2
    refine ⟨v, hb.fr hT (hcell _ _ _ hb hnp), ho.fr hT (fun g hg => ?_) (fun cs t h => hst _ _ _ _ _ hT (fun k hm => ?_) h), hf.trans hT (fun k hm hlt => ?_), by have := hT.size; omega⟩
    · obtain ⟨cur, hcur⟩ := ho.blkOf hg
      exact hcell _ _ _ hcur (by have := (ho.lt hg).1; omega)
    · rcases hk k hm with h | ⟨_, o, h1, h2⟩
      · exact .inl (List.mem_singleton.1 h)
      · exact .inr (.inl ⟨o, h1, h2⟩)
    · rcases hk k hm with h | h
      · exact h
      · exact absurd h.1 (by omega)
  case hEl =>
    rintro xv T A C ⟨cs, h1, h2, h3, h4⟩ hT hk
    refine ⟨cs, h1, h2, h3, hst _ _ _ _ _ hT (fun k hm => ?_) h4⟩
    rcases hk k hm with h | ⟨_, o, h1, h2⟩
    · exact .inl (List.mem_singleton.1 h)
    · exact .inr (.inl ⟨o, h1, h2⟩)
  case hAx =>
    rintro a' x T A C ⟨g, cs, h1, h2, h3, hb, h4⟩ hT hk
    refine ⟨g, cs, h1, h2, h3, hb.fr hT (fun hm => ?_), h4⟩
    rcases hk g hm with h | ⟨_, o, k1, k2⟩
    · simp at h
    · unfold Blk at hb
      rw [k1] at hb
      cases hb
      cases k2
  case hEnd =>
    rintro xs T A C ⟨he, hr, hz⟩ hT hk
    exact ⟨he, hr.frX (hT.x (X := fun k => k = w.heap.size ∨ w2.heap.size ≤ k) (fun k hm => by rcases hk k hm with h | h; simp at h; exact .inr h.1)) hXp (fun k h => .inr h), by have := hT.size; omega⟩
  case assign =>
    rintro y ⟨x1, x2⟩ W ⟨cs, hv, hcl, h1, _⟩
    dsimp only at hv
    subst hv
    clear b0 f0 f2 b1 b2 fw2 rs hX0 hXp
    refine wpIn_region_lit ?_
    refine wpListIn_of_wpList (by rintro ⟨a, w, h⟩; exact h) _ _ _ (by intro o ho c; simp only [List.mem_cons, List.not_mem_nil, or_false] at ho; rcases ho with rfl | rfl <;> simp) ?_
    go_wp2_with (first
      | (refine wpList_storeB rfl 30 _ _ rfl W.heap.size 0 cs (by rfl) (by rfl) 30 _ HB3.out (by rw [hcl]; show 0 + 7 ≤ 7; omega) (by rw [hcl]; kernel_rfl) h1 ?_; intro w4 B4 F4 S4; rw [splice_all _ _ (by rw [hcl]; rfl)] at B4; have HB4 := Lib.hid B4; have HF4 := Lib.hid (HF3.out.trans F4 (fun k hk hlt => by rw [List.mem_singleton.1 hk] at hlt; omega)); clear B4 F4 S4)
      | (refine wpList_allocZ rfl 30 rfl _ rzT ?_; intro w3 B3 F3 S3; have HB3 := Lib.hid B3; have HF3 := Lib.hid F3; clear B3 F3 S3))
    exact ⟨HF4.out, _, cs, rfl, hcl, h1, HB4.out, rfl⟩
  case body =>
    rintro y pre ⟨x1, x2⟩ a₁ W ⟨v, hb, ho, hf, hz⟩ ⟨cs0, hv0, hcl0, hone0, hew⟩ ⟨g, cs, hv, hcl, h1, hg, rfl⟩ hlen
    dsimp only at hv hv0
    have hcc : cs0 = cs := by
      rw [hv] at hv0
      simpa using hv0.symm
    subst hcc
    subst hv
    obtain ⟨a1, k1, rfl, g1, g2⟩ := ho.form
    have c0 : W.cell? ⟨w.heap.size, 0, none⟩ = some (.slice a1 (pre.map Prod.fst).length k1) := hb.cellAt rfl
    have hml : (pre.map Prod.fst).length = pre.length := List.length_map _
    have hmm : (pre.map Prod.fst).length < 1024 := by omega
    have HI := Lib.hid (And.intro hb (And.intro ho (And.intro hf (And.intro hz (And.intro hew hg)))))
    have hbl := hb.lt
    have hgB : w.heap.size ∉ ob (.slice a1 (pre.map Prod.fst).length k1) := fun hm => by have := (ho.lt hm).1; omega
    have HGB := Lib.hid hgB
    clear hb ho hf hz b0 f0 f2 b1 b2 fw2 rs hX0 hXp g1 g2 hew hg hv0 hcl0 hone0 hlen hgB hml
    generalize hL : pre.map Prod.fst = L at *
    have HZ := Lib.hid z2
    clear z2
    refine wpIn_block ?_
    refine wpIn_region_lit ?_
    refine wpListIn_of_wpList (by rintro ⟨a, w, h⟩; exact h) _ _ _ (by intro o ho c; simp only [List.mem_cons, List.not_mem_nil, or_false] at ho; rcases ho with rfl | rfl | rfl | rfl | rfl <;> simp) ?_
    go_wp2_with (first
      | (have z := HR4.out; clear z; refine wpList_store1 rfl 55 _ _ rfl w.heap.size 0 (.slice a4 (L ++ [x1]).length k4) (by rfl) (by rfl) rfl 55 _ HB4.out (by simp) (by kernel_rfl) rfl ?_; intro w5 B5 F5 S5)
      | (have z := HB3.out; clear z; refine wpList_appW rfl _ _ 55 55 rfl w2.heap.size 30 30 zcT 7 72 Try.underlying55 Try.underlying55 riT rfl (by decide) _ L (by rfl) HR3.out _ 1 (by rfl) 30 cs0 HB3.out hcl h1 x1 HW3.out (by simp only [maxLen]; omega) (by omega) (by have := HF3.out.size; have := HI.out.2.2.2.1; omega) (fun w' cs t f h => HST.out _ _ _ _ _ f (fun k hk => .inr (.inr (by obtain ⟨cur, hcur⟩ := HR3.out.blkOf hk; exact ⟨_, cur, hcur, .inl rfl⟩))) h) ?_; intro v4 w4 R4 F4 K4; obtain ⟨a4, k4, hv4, _, _⟩ := R4.form; subst hv4; have HR4 := Lib.hid R4; have HF4 := Lib.hid F4; have HB4 := Lib.hid ((HI.out.1.fr HF3.out (by simp)).fr F4 HGB.out); clear R4 F4 K4)
      | (refine wpList_loadB rfl 30 _ rfl g (by rfl) 30 _ _ HI.out.2.2.2.2.2 Try.underlying30 rfl (by rw [hcl]; kernel_rfl) ?_)
      | (refine wpList_buildSlice1 rfl 55 30 _ rfl zcT 7 72 Try.underlying55 riT (by rfl) (by omega) (by omega) _ cs0 (by rfl) (by rfl) hcl ?_; intro w3 B3 F3 S3; have HB3 := Lib.hid B3; have HF3 := Lib.hid F3; have HW3 := Lib.hid (HST.out.fr0 F3 HI.out.2.2.2.2.1); have HR3 := Lib.hid (HI.out.2.1.fr F3 (by simp) (fun cs t h => HST.out.fr0 F3 h)); clear B3 F3 S3))
    have hob4 : ∀ k ∈ ob (.slice a4 (L ++ [x1]).length k4), k ∉ [w.heap.size] := fun k hk hm => by
      rw [List.mem_singleton.1 hm] at hk
      have := (HR4.out.lt hk).1
      have := HZ.out
      omega
    have FT : Fr (w.heap.size :: ob (.slice a1 L.length k1)) W w5 := ((Fr.ext HF3.out).trans (S' := ob (.slice a1 L.length k1)) HF4.out (fun k hk _ => List.mem_cons_of_mem _ hk)).trans F5 (fun k hk _ => by rw [List.mem_singleton.1 hk]; exact List.mem_cons_self)
    have R5 := HR4.out.fr F5 hob4 (fun cs t h => HST.out _ _ _ _ _ F5 (fun k hk => .inr (.inr (by rw [List.mem_singleton.1 hk]; exact ⟨_, _, HB4.out, .inr rfl⟩))) h)
    refine ⟨⟨_, FT, fun k hk => ?_⟩, _, B5, ?_, HI.out.2.2.1.trans FT (fun k hk hlt => ?_), by have := FT.size; have := HI.out.2.2.2.1; omega⟩
    · rcases List.mem_cons.1 hk with rfl | hk
      · exact ⟨.inl rfl, _, _, HI.out.1⟩
      · obtain ⟨cur, hcur⟩ := HI.out.2.1.blkOf hk
        exact ⟨.inr (HI.out.2.1.lt hk).1, _, _, hcur⟩
    · first | exact R5 | (rw [List.map_append, hL]; exact R5)
    · rcases List.mem_cons.1 hk with rfl | hk
      · omega
      · have := (HI.out.2.1.lt hk).1
        have := HZ.out
        omega
  case done =>
    rintro D xs W hD ⟨he, hr, hz⟩ ⟨v, hb, ho, hf, hz2⟩ hK
    obtain ⟨a1, k1, rfl, g1, g2⟩ := ho.form
    have c0 : W.cell? ⟨w.heap.size, 0, none⟩ = some (.slice a1 (xs.map Prod.fst).length k1) := hb.cellAt rfl
    have HI := Lib.hid (And.intro he (And.intro hr (And.intro hb (And.intro ho (And.intro hf hz2)))))
    clear he hr hb ho hf hz hz2 b0 f0 f2 b1 b2 fw2 rs hX0 g1 g2
    generalize hL : xs.map Prod.fst = L at *
    have HZ := Lib.hid z2
    clear z2
    gi_wp2
    have FD : Fr [D] W (W.putObj D (.deferred none)) := (Fr.refl _ W).putObj D _ (.inl (by simp))
    have hcell : ∀ k t cs, Blk W k t cs → k ∉ [D] := fun k t cs hbk hm => by
      rw [List.mem_singleton.1 hm] at hbk
      unfold Blk at hbk
      rw [hK] at hbk
      cases hbk
    have FE : Fr [p] w (W.putObj D (.deferred none)) := HI.out.2.2.2.2.1.trans FD (fun k hm hlt => by have h9 := List.mem_singleton.1 hm; have := HZ.out; omega)
    refine ⟨by simp, .inl ⟨D, _, rfl, run_takeDeferred hK, ?_⟩⟩
    refine ⟨_, results_tmp rfl _ _ _, _, rfl, ?_, (HI.out.2.1.frX (FD.x (X := fun k => k = w.heap.size ∨ w2.heap.size ≤ k) (fun k hm => .inr (by rw [List.mem_singleton.1 hm]; exact hD))) hXp (fun k h => .inr h)).rr (.inl rfl), FE⟩
    have hR : RowW EW 7 30 w2.heap.size W (.slice a1 L.length k1) (allR l one s).1 := by rw [← HI.out.1]; exact HI.out.2.2.2.1
    refine RowW.base (base := w2.heap.size) ?_ (by have := HZ.out; omega)
    exact (hR.fr FD (fun g hg => by obtain ⟨cur, hcur⟩ := hR.blkOf hg; exact hcell _ _ _ hcur) (fun cs t h => HST.out _ _ _ _ _ FD (fun k hk => .inr (.inl (by rw [List.mem_singleton.1 hk]; exact ⟨_, hK, rfl⟩))) h))
def zcH : List Value := [.int .i64 0, .int .i64 0]
theorem rzH : ∀ w, (zeroValue 119).run Try.prog w = .ok (.agg zcH.toArray) w := fun w => by kernel_rfl
theorem riH : (Try.prog.info? 119).map (fun i => (i.zero.map (·.cells), i.size, i.bytes)) = some (some zcH.toArray, 2, 16) := by kernel_rfl
theorem thingsH_calls (w : World) (p k : Nat) :
    Calls Try.prog 109 #[.pointer (some ⟨p, 0, none⟩), mv k p] w fun e w' => e = .returned (.func (.func 116) #[] #[.pointer (some ⟨w.heap.size, 0, none⟩), .pointer (some ⟨w.heap.size + 1, 0, none⟩)]) ∧
      Blk w' w.heap.size 90 [.pointer (some ⟨p, 0, none⟩)] ∧ Blk w' (w.heap.size + 1) 161 [mv k p] ∧ Fr [] w w' ∧ w'.heap.size = w.heap.size + 2 := by
  go_enter Try.func109, Try.ntmps109
  go_wp2_with fail
  go_ret
  have b1 := Blk.new w 90 [.pointer (some ⟨p, 0, none⟩)]
  have b2 := Blk.new (w.alloc (.cells #[.pointer (some ⟨p, 0, none⟩)] 90)) 161 [mv k p]
  rw [World.size_alloc] at b2
  exact ⟨rfl, b1.alloc _, b2, ((Fr.refl [] w).alloc _).alloc _, by simp⟩
set_option maxRecDepth 100000 in
set_option maxHeartbeats 1000000 in
theorem things1H_seq {β : Type} {w : World} {X : Nat → Prop} {base p B1 B2 : Nat} {a : Option Addr} {n c : Nat} {l : List Int} {s : Int × Int} (one : Int × Int → β × Int × Int) (El : β × Value → World → Prop)
    (hone : OneC Try.prog 94 base p a n c l one El) (hElS : ∀ xv W, El xv W → ∃ cs : List Value, xv.2 = .agg cs.toArray ∧ cs.length = 2 ∧ ∀ u ∈ cs, u.oneCell' = true) (hElF : ∀ xv W W', Fr [] W W' → El xv W → El xv W') (h : Rs w (fun k => k = p ∨ X k) p a n c l s) (hbase : base ≤ w.heap.size) (hp : ¬ X p)
    (h1 : Blk w B1 90 [.pointer (some ⟨p, 0, none⟩)]) (h2 : Blk w B2 161 [mv 94 p]) (hx1 : ¬ X B1) (hx2 : ¬ X B2) :
    SeqFr Try.prog 116 #[.pointer (some ⟨B1, 0, none⟩), .pointer (some ⟨B2, 0, none⟩)] Prod.snd El [p] X 1024 (fun xs W => xs.map Prod.fst = (allR l one s).1 ∧ Rs W (fun k => k = p ∨ X k) p a n c l (allR l one s).2 ∧ w.heap.size ≤ W.heap.size) w := by
  intro y J W hW hJ hY h0
  obtain ⟨m, hm, hr1⟩ := rU_1024 l h.src.byt s
  have HC := Lib.hid (upto_calls ((h.fr0 hW).rr (.inl rfl)) 1024 3)
  have c1 : W.cell? ⟨B1, 0, none⟩ = some (.pointer (some ⟨p, 0, none⟩)) := (h1.fr hW (by simp)).cellAt rfl
  unfold allR
  generalize rU l 1024 3 s = r at *
  obtain ⟨r1, sr⟩ := r
  dsimp only at hr1 HC ⊢
  subst hr1
  rw [Int.toNat_natCast]
  have HH := Lib.hid (And.intro h (And.intro h1 h2))
  clear h h1 h2
  refine callsIn_of_wp Try.func116 rfl trivial ?_ rfl
  simp only [Try.ntmps116, List.size_toArray, List.length_cons, List.length_nil, Nat.reduceAdd, Nat.reduceSub, Array.replicate_succ, Array.replicate_zero, List.push_toArray, List.append_toArray, List.nil_append, List.cons_append]
  gi_wp2
  refine ⟨trivial, (callsIn_wide.2 HC.out).mono ?_⟩
  rintro e w1 ⟨rfl, hr, hf⟩
  have hB1p : B1 ≠ p := fun e => by
    have := (HH.out.1.hp.ne HH.out.2.1 (by decide))
    exact this e.symm
  have hB2p : B2 ≠ p := fun e => by
    have := (HH.out.1.hp.ne HH.out.2.2 (by decide))
    exact this e.symm
  have R0 : T1S (161) w (fun k => k = p ∨ X k) J p B1 B2 94 a n c l one m sr 0 [] sr w1 :=
    ⟨Nat.zero_le _, rfl, hJ [] _ _ h0 hf, (HH.out.1.fr0 hW).one (.inl rfl) hr hf, (HH.out.2.1.fr hW (by simp)).fr hf (by simpa using hB1p), (HH.out.2.2.fr hW (by simp)).fr hf (by simpa using hB2p), by have := hW.size; have := hf.size; omega, by simp, rfl⟩
  have HR0 := Lib.hid R0
  have HE := Lib.hid (And.intro hJ hY)
  clear R0 c1 HC h0 hr hf hJ hY
  gi_wp2
  gi_loopw [7] (fun i wr => ∃ k pre s2, i = .int .u64 (k : Nat) ∧ T1S (161) w (fun k => k = p ∨ X k) J p B1 B2 94 a n c l one m sr k pre s2 wr) (fun i _ => m - (intOf i).toNat)
  case atStart => exact ⟨0, [], sr, rfl, HR0.out⟩
  case round =>
    obtain ⟨k, pre, s2, rfl, hT⟩ := hrel
    have hkm := hT.le
    by_cases hlt : k < m
    · obtain ⟨d, hd⟩ : ∃ d, m - k = d + 1 := ⟨m - k - 1, by omega⟩
      have kb : (k : Int) < (m : Int) := by omega
      have c1 : wr.cell? ⟨B1, 0, none⟩ = some (.pointer (some ⟨p, 0, none⟩)) := hT.b1.cellAt rfl
      have c2 : wr.cell? ⟨B2, 0, none⟩ = some (mv 94 p) := hT.b2.cellAt rfl
      have HO := Lib.hid (hone wr s2 (by have := hT.sz; omega) (hT.rs.rr (.inl rfl)))
      have e1 := hT.e1
      have e2 := hT.e2
      rw [hd, manyR] at e1 e2
      generalize one s2 = q at *
      obtain ⟨x, s3⟩ := q
      have HT := Lib.hid hT
      have HEE := Lib.hid (And.intro e1 e2)
      have HDD := Lib.hid hd
      clear hT e1 e2 hd
      gi_wp2
      refine ⟨trivial, (callsIn_wide.2 HO.out).mono ?_⟩
      rintro e w2 ⟨v, rfl, hel, hr, hf⟩
      obtain ⟨cs, hv, hcl, hone1⟩ := hElS _ _ hel
      dsimp only at hv
      subst hv
      rename_i K2 a2 K1 a1 K0 a0
      refine a0 _ _ ?_
      refine wpListInW_step (by rfl) (by simp) (wpList_allocZ rfl 119 rfl _ rzH ?_)
      intro w3 B3 F3 S3
      refine ⟨rfl, ?_⟩
      simp only [Act.put, List.setIfInBounds_toArray, List.set_cons_zero, List.set_cons_succ]
      refine wpListInW_step (by rfl) (by simp) (wpList_storeB rfl 119 _ _ rfl w2.heap.size 0 cs (by rfl) (by rfl) 119 _ B3 (by rw [hcl]; show 0 + 2 ≤ 2; omega) (by rw [hcl]; kernel_rfl) hone1 ?_)
      intro w4 B4 F4 S4
      refine ⟨rfl, ?_⟩
      rw [splice_all _ _ (by rw [hcl]; rfl)] at B4
      simp only [Act.put, List.setIfInBounds_toArray, List.set_cons_zero, List.set_cons_succ]
      have F24 : Fr [] w2 w4 := F3.trans F4 (fun k hk hlt => by rw [List.mem_singleton.1 hk] at hlt; omega)
      refine a1 _ _ ?_
      have b1 := (HT.out.b1.fr hf (by simpa using hB1p)).fr F24 (by simp)
      have b2 := (HT.out.b2.fr hf (by simpa using hB2p)).fr F24 (by simp)
      have R2 := (HT.out.rs.one (.inl rfl) hr hf).fr0 F24
      have J2 := HE.out.1 pre _ _ (HE.out.1 pre _ _ HT.out.j hf) (Fr.ext F24)
      have hel4 := hElF _ _ _ F24 hel
      have HB4 := Lib.hid B4
      have hf4 := hf.trans0 F24
      have d1 : w4.cell? ⟨B1, 0, none⟩ = some (.pointer (some ⟨p, 0, none⟩)) := b1.cellAt rfl
      have d2 : w4.cell? ⟨p, 2, none⟩ = some (.int .i64 s3.2) := R2.hp.cellAt rfl
      obtain ⟨at3, er3⟩ := s3
      dsimp only at d2
      have hpl := R2.hp.lt
      clear B3 F3 S3 B4 F4 S4 F24 hel a0 K0
      by_cases he : er3 = 0
      · subst he
        obtain ⟨fn, tmps, assign, body, hy, hR⟩ := HE.out.2 pre (x, .agg cs.toArray) w4 J2 hel4 (by have := HT.out.len; omega)
        dsimp only at hy
        have HRR := Lib.hid hR
        have HB := Lib.hid (And.intro b1 (And.intro b2 (And.intro R2 (And.intro hf4 J2))))
        clear hR b1 b2 R2 hf hf4 J2 hr hel4 c1 c2 HR0
        gi_wp2_with (refine wpListInW_step (by rfl) (by simp) (gate_guard (by rfl) (wpList_loadB rfl 119 _ rfl w2.heap.size (by rfl) 119 _ _ HB4.out Try.underlying119 rfl (by rw [hcl]; kernel_rfl) ?_)); refine ⟨rfl, ?_⟩)
        refine HRR.out.mono ?_
        rintro e w3 ⟨rfl, hJ3, hk3⟩
        have RR := Lib.hid (show T1S (161) w (fun k => k = p ∨ X k) J p B1 B2 94 a n c l one m sr (k + 1) (pre ++ [(x, .agg cs.toArray)]) (at3, 0) w3 from
          ⟨hlt, by rw [List.length_append, HT.out.len]; rfl, hJ3, HB.out.2.2.1.frX hk3 hp (fun k h => .inr h), HB.out.1.frX hk3 hx1, HB.out.2.1.frX hk3 hx2, by have := HT.out.sz; have := HB.out.2.2.2.1.size; have := hk3.size; omega,
            by rw [HEE.out.1, if_pos trivial, show m - (k + 1) = d by have := HDD.out; omega]; simp, by rw [HEE.out.2, if_pos trivial, show m - (k + 1) = d by have := HDD.out; omega]⟩)
        clear hJ3 hk3 hy d1 d2
        gi_wp2
        go_roundw
        case rel => exact ⟨k + 1, _, _, by first | rfl | (simp; done) | (rw [IntKind.wrap_u64]; congr 1; omega), RR.out⟩
        case measure => simp [intOf]; omega
      · have hb : (er3 != 0) = true := by simpa using he
        have HB := Lib.hid (And.intro R2 (And.intro hf4 J2))
        have HE0 := Lib.hid he
        clear b1 b2 R2 hf hf4 J2 hr hel4 c1 c2 HR0 he
        gi_wp2
        refine ⟨fun _ h => (by cases h), ?_⟩
        gi_wp2
        refine bodyPost_ret (results_none rfl _ _ _) rfl ?_
        refine ⟨⟨_, rfl⟩, pre, HB.out.2.2, ?_, ?_, by have := HT.out.sz; have := HB.out.2.1.size; omega⟩
        · rw [HEE.out.1, if_neg HE0.out]
          simp
        · rw [HEE.out.2, if_neg HE0.out]
          exact HB.out.1
    · obtain rfl : k = m := by omega
      have HT := Lib.hid hT
      clear hT
      gi_wp2
      go_end0
      refine ⟨⟨_, rfl⟩, pre, HT.out.j, ?_, ?_, HT.out.sz⟩
      · rw [HT.out.e1, Nat.sub_self]
        simp [manyR]
      · rw [HT.out.e2, Nat.sub_self]
        exact HT.out.rs
set_option maxRecDepth 100000 in
set_option maxHeartbeats 2000000 in
theorem allH_calls {β : Type} {EW : World → List Value → β → Prop} {w : World} {p : Nat} {a : Option Addr} {n c : Nat} {l : List Int} {s : Int × Int} (one : Int × Int → β × Int × Int) (hst : Stays EW p 119 56) (hone : OneC Try.prog 94 w.heap.size p a n c l one (SEl EW 2)) (h : Rr w p a n c l s) :
    Calls Try.prog 93 #[.pointer (some ⟨p, 0, none⟩), mv 94 p] w fun e w' => ∃ v, e = .returned v ∧ RowW EW 2 119 w.heap.size w' v (allR l one s).1 ∧ Rr w' p a n c l (allR l one s).2 ∧ Fr [p] w w' := by
  have hpl := h.hp.lt
  have HH := Lib.hid h
  have HST := Lib.hid hst
  clear h
  refine (callsIn_wide (n := 3)).1 ?_
  refine callsIn_of_wp_marks Try.func93 rfl trivial ?_ rfl
  simp only [Try.ntmps93, List.size_toArray, List.length_cons, List.length_nil, Nat.reduceAdd, Nat.reduceSub, Array.replicate_succ, Array.replicate_zero, List.push_toArray, List.append_toArray, List.nil_append, List.cons_append]
  gi_wp2
  have b0 := Blk.new w 56 [.slice none 0 0]
  have f0 := (Fr.refl [] w).alloc (.cells #[.slice none 0 0] 56)
  have z0 := World.size_alloc w (.cells #[.slice none 0 0] 56)
  generalize w.alloc (.cells #[.slice none 0 0] 56) = w1 at *
  refine ⟨trivial, (callsIn_wide.2 (thingsH_calls w1 p 94)).mono ?_⟩
  rintro e w2 ⟨rfl, b1, b2, f2, z2⟩
  rw [z0] at b1 b2 z2
  gi_wp2
  have hnp : w.heap.size ≠ p := by omega
  have fw2 := f0.trans0 f2
  have hX0 : ∀ k, k = w.heap.size ∨ w2.heap.size ≤ k → w.heap.size ≤ k := fun k hk => by omega
  have hXp : ¬ (p = w.heap.size ∨ w2.heap.size ≤ p) := by omega
  have rs : Rs w2 (fun k => k = p ∨ (k = w.heap.size ∨ w2.heap.size ≤ k)) p a n c l s :=
    ⟨HH.out.hp.fr fw2 (by simp), HH.out.rd.step fw2 (by simp) (fun k hk => by rcases hk with h | h; exact .inl h; exact .inr (hX0 k h)), HH.out.src⟩
  have hElF : ∀ xv W W', Fr [] W W' → SEl EW 2 xv W → SEl EW 2 xv W' := fun xv W W' f hx => by
    obtain ⟨cs, h1, h2, h3, h4⟩ := hx
    exact ⟨cs, h1, h2, h3, hst.fr0 f h4⟩
  refine wpIn_rangeFr (gf := 116) (lb := #[.pointer (some ⟨w.heap.size + 1, 0, none⟩), .pointer (some ⟨w.heap.size + 1 + 1, 0, none⟩)]) rfl (enters_of Try.func116 (by kernel_rfl) rfl) (S := [p]) (X := fun k => k = w.heap.size ∨ w2.heap.size ≤ k) (N := 1024) (fun k hk => by rw [List.mem_singleton.1 hk]; omega) (fun k hk => .inr hk)
    (things1H_seq (base := w.heap.size) one (SEl EW 2) hone (fun xv W hx => by obtain ⟨cs, h1, h2, h3, _⟩ := hx; exact ⟨cs, h1, h2, h3⟩) hElF rs (by omega) hXp b1 b2 (by omega) (by omega))
    (fun pre W => ∃ v, Blk W w.heap.size 56 [v] ∧ RowW EW 2 119 w2.heap.size W v (pre.map Prod.fst) ∧ Fr [p] w W ∧ w2.heap.size ≤ W.heap.size) ?hI ?hEl ?hEnd
    (AxS 119 2 fun gv xv => { tmps := #[.pointer (some ⟨p, 0, none⟩), mv 94 p, undef, undef, .slice none 0 0, .pointer (some ⟨w.heap.size, 0, none⟩), gv, .pointer (some ⟨p, 0, none⟩), mv 94 p, .func (.func 116) #[] #[.pointer (some ⟨w.heap.size + 1, 0, none⟩), .pointer (some ⟨w.heap.size + 1 + 1, 0, none⟩)], xv, undef, undef, undef, undef, undef], defers := [] })
    ?hAx ⟨_, b0.fr f2 (by simp), RowW.nil _, Fr.ext fw2, Nat.le_refl _⟩ ?assign ?body ?done
  case hI =>
    rintro pre T A C ⟨v, hb, ho, hf, hz⟩ hT hk
    have hcell : ∀ k t cs, Blk A k t cs → k ≠ p → k ∉ T := fun k t cs hbk hkp hm => by
      rcases hk k hm with h | ⟨_, o, h1, h2⟩
      · exact hkp (List.mem_singleton.1 h)
      · unfold Blk at hbk
        rw [h1] at hbk
        cases hbk
        cases h2
    refine ⟨v, hb.fr hT (hcell _ _ _ hb hnp), ho.fr hT (fun g hg => ?_) (fun cs t h => hst _ _ _ _ _ hT (fun k hm => ?_) h), hf.trans hT (fun k hm hlt => ?_), by have := hT.size; omega⟩
    · obtain ⟨cur, hcur⟩ := ho.blkOf hg
      exact hcell _ _ _ hcur (by have := (ho.lt hg).1; omega)
    · rcases hk k hm with h | ⟨_, o, h1, h2⟩
      · exact .inl (List.mem_singleton.1 h)
      · exact .inr (.inl ⟨o, h1, h2⟩)
    · rcases hk k hm with h | h
      · exact h
      · exact absurd h.1 (by omega)
  case hEl =>
    rintro xv T A C ⟨cs, h1, h2, h3, h4⟩ hT hk
    refine ⟨cs, h1, h2, h3, hst _ _ _ _ _ hT (fun k hm => ?_) h4⟩
    rcases hk k hm with h | ⟨_, o, h1, h2⟩
    · exact .inl (List.mem_singleton.1 h)
    · exact .inr (.inl ⟨o, h1, h2⟩)
  case hAx =>
    rintro a' x T A C ⟨g, cs, h1, h2, h3, hb, h4⟩ hT hk
    refine ⟨g, cs, h1, h2, h3, hb.fr hT (fun hm => ?_), h4⟩
    rcases hk g hm with h | ⟨_, o, k1, k2⟩
    · simp at h
    · unfold Blk at hb
      rw [k1] at hb
      cases hb
      cases k2
  case hEnd =>
    rintro xs T A C ⟨he, hr, hz⟩ hT hk
    exact ⟨he, hr.frX (hT.x (X := fun k => k = w.heap.size ∨ w2.heap.size ≤ k) (fun k hm => by rcases hk k hm with h | h; simp at h; exact .inr h.1)) hXp (fun k h => .inr h), by have := hT.size; omega⟩
  case assign =>
    rintro y ⟨x1, x2⟩ W ⟨cs, hv, hcl, h1, _⟩
    dsimp only at hv
    subst hv
    clear b0 f0 f2 b1 b2 fw2 rs hX0 hXp
    refine wpIn_region_lit ?_
    refine wpListIn_of_wpList (by rintro ⟨a, w, h⟩; exact h) _ _ _ (by intro o ho c; simp only [List.mem_cons, List.not_mem_nil, or_false] at ho; rcases ho with rfl | rfl <;> simp) ?_
    go_wp2_with (first
      | (refine wpList_storeB rfl 119 _ _ rfl W.heap.size 0 cs (by rfl) (by rfl) 119 _ HB3.out (by rw [hcl]; show 0 + 2 ≤ 2; omega) (by rw [hcl]; kernel_rfl) h1 ?_; intro w4 B4 F4 S4; rw [splice_all _ _ (by rw [hcl]; rfl)] at B4; have HB4 := Lib.hid B4; have HF4 := Lib.hid (HF3.out.trans F4 (fun k hk hlt => by rw [List.mem_singleton.1 hk] at hlt; omega)); clear B4 F4 S4)
      | (refine wpList_allocZ rfl 119 rfl _ rzH ?_; intro w3 B3 F3 S3; have HB3 := Lib.hid B3; have HF3 := Lib.hid F3; clear B3 F3 S3))
    exact ⟨HF4.out, _, cs, rfl, hcl, h1, HB4.out, rfl⟩
  case body =>
    rintro y pre ⟨x1, x2⟩ a₁ W ⟨v, hb, ho, hf, hz⟩ ⟨cs0, hv0, hcl0, hone0, hew⟩ ⟨g, cs, hv, hcl, h1, hg, rfl⟩ hlen
    dsimp only at hv hv0
    have hcc : cs0 = cs := by
      rw [hv] at hv0
      simpa using hv0.symm
    subst hcc
    subst hv
    obtain ⟨a1, k1, rfl, g1, g2⟩ := ho.form
    have c0 : W.cell? ⟨w.heap.size, 0, none⟩ = some (.slice a1 (pre.map Prod.fst).length k1) := hb.cellAt rfl
    have hml : (pre.map Prod.fst).length = pre.length := List.length_map _
    have hmm : (pre.map Prod.fst).length < 1024 := by omega
    have HI := Lib.hid (And.intro hb (And.intro ho (And.intro hf (And.intro hz (And.intro hew hg)))))
    have hbl := hb.lt
    have hgB : w.heap.size ∉ ob (.slice a1 (pre.map Prod.fst).length k1) := fun hm => by have := (ho.lt hm).1; omega
    have HGB := Lib.hid hgB
    clear hb ho hf hz b0 f0 f2 b1 b2 fw2 rs hX0 hXp g1 g2 hew hg hv0 hcl0 hone0 hlen hgB hml
    generalize hL : pre.map Prod.fst = L at *
    have HZ := Lib.hid z2
    clear z2
    refine wpIn_block ?_
    refine wpIn_region_lit ?_
    refine wpListIn_of_wpList (by rintro ⟨a, w, h⟩; exact h) _ _ _ (by intro o ho c; simp only [List.mem_cons, List.not_mem_nil, or_false] at ho; rcases ho with rfl | rfl | rfl | rfl | rfl <;> simp) ?_
    go_wp2_with (first
      | (have z := HR4.out; clear z; refine wpList_store1 rfl 56 _ _ rfl w.heap.size 0 (.slice a4 (L ++ [x1]).length k4) (by rfl) (by rfl) rfl 56 _ HB4.out (by simp) (by kernel_rfl) rfl ?_; intro w5 B5 F5 S5)
      | (have z := HB3.out; clear z; refine wpList_appW rfl _ _ 56 56 rfl w2.heap.size 119 119 zcH 2 16 Try.underlying56 Try.underlying56 riH rfl (by decide) _ L (by rfl) HR3.out _ 1 (by rfl) 119 cs0 HB3.out hcl h1 x1 HW3.out (by simp only [maxLen]; omega) (by omega) (by have := HF3.out.size; have := HI.out.2.2.2.1; omega) (fun w' cs t f h => HST.out _ _ _ _ _ f (fun k hk => .inr (.inr (by obtain ⟨cur, hcur⟩ := HR3.out.blkOf hk; exact ⟨_, cur, hcur, .inl rfl⟩))) h) ?_; intro v4 w4 R4 F4 K4; obtain ⟨a4, k4, hv4, _, _⟩ := R4.form; subst hv4; have HR4 := Lib.hid R4; have HF4 := Lib.hid F4; have HB4 := Lib.hid ((HI.out.1.fr HF3.out (by simp)).fr F4 HGB.out); clear R4 F4 K4)
      | (refine wpList_loadB rfl 119 _ rfl g (by rfl) 119 _ _ HI.out.2.2.2.2.2 Try.underlying119 rfl (by rw [hcl]; kernel_rfl) ?_)
      | (refine wpList_buildSlice1 rfl 56 119 _ rfl zcH 2 16 Try.underlying56 riH (by rfl) (by omega) (by omega) _ cs0 (by rfl) (by rfl) hcl ?_; intro w3 B3 F3 S3; have HB3 := Lib.hid B3; have HF3 := Lib.hid F3; have HW3 := Lib.hid (HST.out.fr0 F3 HI.out.2.2.2.2.1); have HR3 := Lib.hid (HI.out.2.1.fr F3 (by simp) (fun cs t h => HST.out.fr0 F3 h)); clear B3 F3 S3))
    have hob4 : ∀ k ∈ ob (.slice a4 (L ++ [x1]).length k4), k ∉ [w.heap.size] := fun k hk hm => by
      rw [List.mem_singleton.1 hm] at hk
      have := (HR4.out.lt hk).1
      have := HZ.out
      omega
    have FT : Fr (w.heap.size :: ob (.slice a1 L.length k1)) W w5 := ((Fr.ext HF3.out).trans (S' := ob (.slice a1 L.length k1)) HF4.out (fun k hk _ => List.mem_cons_of_mem _ hk)).trans F5 (fun k hk _ => by rw [List.mem_singleton.1 hk]; exact List.mem_cons_self)
    have R5 := HR4.out.fr F5 hob4 (fun cs t h => HST.out _ _ _ _ _ F5 (fun k hk => .inr (.inr (by rw [List.mem_singleton.1 hk]; exact ⟨_, _, HB4.out, .inr rfl⟩))) h)
    refine ⟨⟨_, FT, fun k hk => ?_⟩, _, B5, ?_, HI.out.2.2.1.trans FT (fun k hk hlt => ?_), by have := FT.size; have := HI.out.2.2.2.1; omega⟩
    · rcases List.mem_cons.1 hk with rfl | hk
      · exact ⟨.inl rfl, _, _, HI.out.1⟩
      · obtain ⟨cur, hcur⟩ := HI.out.2.1.blkOf hk
        exact ⟨.inr (HI.out.2.1.lt hk).1, _, _, hcur⟩
    · first | exact R5 | (rw [List.map_append, hL]; exact R5)
    · rcases List.mem_cons.1 hk with rfl | hk
      · omega
      · have := (HI.out.2.1.lt hk).1
        have := HZ.out
        omega
  case done =>
    rintro D xs W hD ⟨he, hr, hz⟩ ⟨v, hb, ho, hf, hz2⟩ hK
    obtain ⟨a1, k1, rfl, g1, g2⟩ := ho.form
    have c0 : W.cell? ⟨w.heap.size, 0, none⟩ = some (.slice a1 (xs.map Prod.fst).length k1) := hb.cellAt rfl
    have HI := Lib.hid (And.intro he (And.intro hr (And.intro hb (And.intro ho (And.intro hf hz2)))))
    clear he hr hb ho hf hz hz2 b0 f0 f2 b1 b2 fw2 rs hX0 g1 g2
    generalize hL : xs.map Prod.fst = L at *
    have HZ := Lib.hid z2
    clear z2
    gi_wp2
    have FD : Fr [D] W (W.putObj D (.deferred none)) := (Fr.refl _ W).putObj D _ (.inl (by simp))
    have hcell : ∀ k t cs, Blk W k t cs → k ∉ [D] := fun k t cs hbk hm => by
      rw [List.mem_singleton.1 hm] at hbk
      unfold Blk at hbk
      rw [hK] at hbk
      cases hbk
    have FE : Fr [p] w (W.putObj D (.deferred none)) := HI.out.2.2.2.2.1.trans FD (fun k hm hlt => by have h9 := List.mem_singleton.1 hm; have := HZ.out; omega)
    refine ⟨by simp, .inl ⟨D, _, rfl, run_takeDeferred hK, ?_⟩⟩
    refine ⟨_, results_tmp rfl _ _ _, _, rfl, ?_, (HI.out.2.1.frX (FD.x (X := fun k => k = w.heap.size ∨ w2.heap.size ≤ k) (fun k hm => .inr (by rw [List.mem_singleton.1 hm]; exact hD))) hXp (fun k h => .inr h)).rr (.inl rfl), FE⟩
    have hR : RowW EW 2 119 w2.heap.size W (.slice a1 L.length k1) (allR l one s).1 := by rw [← HI.out.1]; exact HI.out.2.2.2.1
    refine RowW.base (base := w2.heap.size) ?_ (by have := HZ.out; omega)
    exact (hR.fr FD (fun g hg => by obtain ⟨cur, hcur⟩ := hR.blkOf hg; exact hcell _ _ _ hcur) (fun cs t h => HST.out _ _ _ _ _ FD (fun k hk => .inr (.inl (by rw [List.mem_singleton.1 hk]; exact ⟨_, hK, rfl⟩))) h))
end Go.Fur
