/- Lists that are read: things, all (of ints): contracts. -/
import Derived.Test.YtmdfipahbhbgjaaCmdR2
import Derived.Test.YtmdfipahbhbgjaaSeq
import Derived.RangeFuncBound
import Derived.RangeFuncLeaves
import Derived.Shelf.Abstract
import Derived.OwnWalkIn
import Derived.TacticsInMore
import Derived.LoopNIn
import Derived.LoopIn
namespace Go.Fur
open Go Go.RowKit Go.Proofs
attribute [local go_sem] Oper.semAt_some
set_option linter.unusedVariables false
set_option linter.unusedSimpArgs false
/-- Things that are read one behind the other, up to the first fault. -/
def manyR {β : Type} (one : Int × Int → β × Int × Int) : Nat → Int × Int → List β × Int × Int
  | 0, s => ([], s)
  | k + 1, s => if (one s).2.2 = 0 then ((one s).1 :: (manyR one k (one s).2).1, (manyR one k (one s).2).2) else ([], (one s).2)
def allR {β : Type} (l : List Int) (one : Int × Int → β × Int × Int) (s : Int × Int) : List β × Int × Int := manyR one (rU l 1024 3 s).1.toNat (rU l 1024 3 s).2
theorem rU_bnd (l : List Int) (hb : Byt l) (most bad : Int) (hm : 0 ≤ most) (s : Int × Int) : 0 ≤ (rU l most bad s).1 ∧ (rU l most bad s).1 < 18446744073709551616 ∧ ((readN l s.1).2.2 = 0 → (rU l most bad s).1 ≤ most) := by
  have h := readN_bnd l hb s.1
  unfold rU
  split
  · split
    · exact ⟨by dsimp only; omega, by dsimp only; omega, fun _ => by dsimp only; omega⟩
    · rename_i hh
      refine ⟨h.1, h.2, fun he => ?_⟩
      have : ¬ most < (readN l s.1).1 := fun hx => hh ⟨he, hx⟩
      omega
  · exact ⟨by dsimp only; omega, by dsimp only; omega, fun _ => by dsimp only; omega⟩
theorem readN_err (l : List Int) (at_ : Int) (h : (readN l at_).2.2 ≠ 0) : (readN l at_).1 = 0 := by
  unfold readN at h ⊢
  split at h
  · rename_i h1; rw [if_pos h1]
  · rename_i h1
    rw [if_neg h1]
    split at h
    · rfl
    · split at h
      · exact absurd rfl h
      · rename_i h2
        rw [if_neg h2]
        split at h
        · rename_i h3; rw [if_pos h3]
        · rename_i h3
          rw [if_neg h3]
          split at h
          · rename_i h4; rw [if_pos h4]
          · rename_i h4
            rw [if_neg h4]
            split at h
            · rename_i h5; rw [if_pos h5]
            · exact absurd rfl h
theorem rU_1024 (l : List Int) (hb : Byt l) (s : Int × Int) : ∃ m : Nat, m ≤ 1024 ∧ (rU l 1024 3 s).1 = (m : Int) := by
  have h := rU_bnd l hb 1024 3 (by omega) s
  refine ⟨(rU l 1024 3 s).1.toNat, ?_, by omega⟩
  by_cases he : (readN l s.1).2.2 = 0
  · have := h.2.2 he
    omega
  · have h0 := readN_err l s.1 he
    unfold rU
    split
    · rw [if_neg (fun hh => he hh.1), h0]
      decide
    · simp
/-- What the reader holds, apart from the blocks of Y. -/
structure Rs (w : World) (Y : Nat → Prop) (p : Nat) (a : Option Addr) (n c : Nat) (l : List Int) (s : Int × Int) : Prop where
  hp : Blk w p 140 [.slice a n c, .int .i64 s.1, .int .i64 s.2]
  rd : RdA w Y a (bv l)
  src : Src l a n c
theorem Rs.rr {w : World} {Y : Nat → Prop} {p : Nat} {a : Option Addr} {n c : Nat} {l : List Int} {s : Int × Int} (h : Rs w Y p a n c l s) (hy : Y p) : Rr w p a n c l s :=
  ⟨h.hp, h.rd.step (Fr.refl [] w) (by simp) (fun k hk => .inl (hk ▸ hy)), h.src⟩
theorem Rs.one {w w' : World} {Y : Nat → Prop} {p : Nat} {a : Option Addr} {n c : Nat} {l : List Int} {s s' : Int × Int} (h : Rs w Y p a n c l s) (hy : Y p) (r : Rr w' p a n c l s') (f : Fr [p] w w') : Rs w' Y p a n c l s' :=
  ⟨r.hp, h.rd.step f (fun k hk => .inl (List.mem_singleton.1 hk ▸ hy)) (fun k hk => .inl hk), h.src⟩
theorem Rs.frX {w w' : World} {X Y : Nat → Prop} {p : Nat} {a : Option Addr} {n c : Nat} {l : List Int} {s : Int × Int} (h : Rs w Y p a n c l s) (f : FrX X w w') (hp : ¬ X p) (hy : ∀ k, X k → Y k) : Rs w' Y p a n c l s := by
  obtain ⟨T, f, hT⟩ := f
  exact ⟨h.hp.fr f (fun hm => hp (hT p hm)), h.rd.step f (fun k hk => .inl (hy k (hT k hk))) (fun k hk => .inl hk), h.src⟩
theorem Rs.fr0 {w w' : World} {Y : Nat → Prop} {p : Nat} {a : Option Addr} {n c : Nat} {l : List Int} {s : Int × Int} (h : Rs w Y p a n c l s) (f : Fr [] w w') : Rs w' Y p a n c l s :=
  ⟨h.hp.fr f (by simp), h.rd.fr0 f, h.src⟩
/-- A thing is read: β its datum, El what its value is. -/
def OneC {β : Type} (P : Program) (f : FuncId) (base p : Nat) (a : Option Addr) (n c : Nat) (l : List Int) (one : Int × Int → β × Int × Int) (El : β × Value → World → Prop) : Prop :=
  ∀ (w : World) (s : Int × Int), base ≤ w.heap.size → Rr w p a n c l s → Calls P f #[.pointer (some ⟨p, 0, none⟩)] w fun e w' => ∃ v, e = .returned v ∧ El ((one s).1, v) w' ∧ Rr w' p a n c l (one s).2 ∧ Fr [p] w w'
/-- A method's value. -/
abbrev mv (k p : Nat) : Value := .func (.func k) #[.pointer (some ⟨p, 0, none⟩)] #[]
theorem things_calls (w : World) (p k : Nat) :
    Calls Try.prog 103 #[.pointer (some ⟨p, 0, none⟩), mv k p] w fun e w' => e = .returned (.func (.func 111) #[] #[.pointer (some ⟨w.heap.size, 0, none⟩), .pointer (some ⟨w.heap.size + 1, 0, none⟩)]) ∧
      Blk w' w.heap.size 90 [.pointer (some ⟨p, 0, none⟩)] ∧ Blk w' (w.heap.size + 1) 142 [mv k p] ∧ Fr [] w w' ∧ w'.heap.size = w.heap.size + 2 := by
  go_enter Try.func103, Try.ntmps103
  go_wp2_with fail
  go_ret
  have b1 := Blk.new w 90 [.pointer (some ⟨p, 0, none⟩)]
  have b2 := Blk.new (w.alloc (.cells #[.pointer (some ⟨p, 0, none⟩)] 90)) 142 [mv k p]
  rw [World.size_alloc] at b2
  exact ⟨rfl, b1.alloc _, b2, ((Fr.refl [] w).alloc _).alloc _, by simp⟩
/-- What holds when k things have been read. -/
structure T1Rel {β : Type} (w : World) (Y : Nat → Prop) (J : List (β × Value) → World → Prop) (p B1 B2 f : Nat) (a : Option Addr) (n c : Nat) (l : List Int) (one : Int × Int → β × Int × Int) (m : Nat) (sr : Int × Int) (k : Nat) (pre : List (β × Value)) (s : Int × Int) (wr : World) : Prop where
  le : k ≤ m
  len : pre.length = k
  j : J pre wr
  rs : Rs wr Y p a n c l s
  b1 : Blk wr B1 90 [.pointer (some ⟨p, 0, none⟩)]
  b2 : Blk wr B2 142 [mv f p]
  sz : w.heap.size ≤ wr.heap.size
  e1 : (manyR one m sr).1 = pre.map Prod.fst ++ (manyR one (m - k) s).1
  e2 : (manyR one m sr).2 = (manyR one (m - k) s).2
set_option maxRecDepth 100000 in
set_option maxHeartbeats 1000000 in
theorem things1_seq {β : Type} {w : World} {X : Nat → Prop} {base p B1 B2 : Nat} {a : Option Addr} {n c : Nat} {l : List Int} {s : Int × Int} (one : Int × Int → β × Int × Int) (El : β × Value → World → Prop)
    (hone : OneC Try.prog 78 base p a n c l one El) (h : Rs w (fun k => k = p ∨ X k) p a n c l s) (hbase : base ≤ w.heap.size) (hp : ¬ X p)
    (h1 : Blk w B1 90 [.pointer (some ⟨p, 0, none⟩)]) (h2 : Blk w B2 142 [mv 78 p]) (hx1 : ¬ X B1) (hx2 : ¬ X B2) :
    SeqFr Try.prog 111 #[.pointer (some ⟨B1, 0, none⟩), .pointer (some ⟨B2, 0, none⟩)] Prod.snd El [p] X 1024 (fun xs W => xs.map Prod.fst = (allR l one s).1 ∧ Rs W (fun k => k = p ∨ X k) p a n c l (allR l one s).2 ∧ w.heap.size ≤ W.heap.size) w := by
  intro y J W hW hJ hY h0
  obtain ⟨m, hm, hr1⟩ := rU_1024 l h.src.byt s
  have HC := Lib.hid (upto_calls ((h.fr0 hW).rr (.inl rfl)) 1024 3)
  have c1 : W.cell? ⟨B1, 0, none⟩ = some (.pointer (some ⟨p, 0, none⟩)) := (h1.fr hW (by simp)).cellAt rfl
  unfold allR
  generalize rU l 1024 3 s = r at *
  obtain ⟨r1, sr⟩ := r
  dsimp only at hr1 HC ⊢
  subst hr1
  rw [Int.toNat_natCast]
  have HH := Lib.hid (And.intro h (And.intro h1 h2))
  clear h h1 h2
  refine callsIn_of_wp Try.func111 rfl trivial ?_ rfl
  simp only [Try.ntmps111, List.size_toArray, List.length_cons, List.length_nil, Nat.reduceAdd, Nat.reduceSub, Array.replicate_succ, Array.replicate_zero, List.push_toArray, List.append_toArray, List.nil_append, List.cons_append]
  gi_wp2
  refine ⟨trivial, (callsIn_wide.2 HC.out).mono ?_⟩
  rintro e w1 ⟨rfl, hr, hf⟩
  have hB1p : B1 ≠ p := fun e => by
    have := (HH.out.1.hp.ne HH.out.2.1 (by decide))
    exact this e.symm
  have hB2p : B2 ≠ p := fun e => by
    have := (HH.out.1.hp.ne HH.out.2.2 (by decide))
    exact this e.symm
  have R0 : T1Rel w (fun k => k = p ∨ X k) J p B1 B2 78 a n c l one m sr 0 [] sr w1 :=
    ⟨Nat.zero_le _, rfl, hJ [] _ _ h0 hf, (HH.out.1.fr0 hW).one (.inl rfl) hr hf, (HH.out.2.1.fr hW (by simp)).fr hf (by simpa using hB1p), (HH.out.2.2.fr hW (by simp)).fr hf (by simpa using hB2p), by have := hW.size; have := hf.size; omega, by simp, rfl⟩
  have HR0 := Lib.hid R0
  have HE := Lib.hid (And.intro hJ hY)
  clear R0 c1 HC h0 hr hf hJ hY
  gi_wp2
  gi_loopw [7] (fun i wr => ∃ k pre s2, i = .int .u64 (k : Nat) ∧ T1Rel w (fun k => k = p ∨ X k) J p B1 B2 78 a n c l one m sr k pre s2 wr) (fun i _ => m - (intOf i).toNat)
  case atStart => exact ⟨0, [], sr, rfl, HR0.out⟩
  case round =>
    obtain ⟨k, pre, s2, rfl, hT⟩ := hrel
    have hkm := hT.le
    by_cases hlt : k < m
    · obtain ⟨d, hd⟩ : ∃ d, m - k = d + 1 := ⟨m - k - 1, by omega⟩
      have kb : (k : Int) < (m : Int) := by omega
      have c1 : wr.cell? ⟨B1, 0, none⟩ = some (.pointer (some ⟨p, 0, none⟩)) := hT.b1.cellAt rfl
      have c2 : wr.cell? ⟨B2, 0, none⟩ = some (mv 78 p) := hT.b2.cellAt rfl
      have HO := Lib.hid (hone wr s2 (by have := hT.sz; omega) (hT.rs.rr (.inl rfl)))
      have e1 := hT.e1
      have e2 := hT.e2
      rw [hd, manyR] at e1 e2
      generalize one s2 = q at *
      obtain ⟨x, s3⟩ := q
      have HT := Lib.hid hT
      have HEE := Lib.hid (And.intro e1 e2)
      have HDD := Lib.hid hd
      clear hT e1 e2 hd
      gi_wp2
      refine ⟨trivial, (callsIn_wide.2 HO.out).mono ?_⟩
      rintro e w2 ⟨v, rfl, hel, hr, hf⟩
      have b1 := HT.out.b1.fr hf (by simpa using hB1p)
      have b2 := HT.out.b2.fr hf (by simpa using hB2p)
      have R2 := HT.out.rs.one (.inl rfl) hr hf
      have J2 := HE.out.1 pre _ _ HT.out.j hf
      have d1 : w2.cell? ⟨B1, 0, none⟩ = some (.pointer (some ⟨p, 0, none⟩)) := b1.cellAt rfl
      have d2 : w2.cell? ⟨p, 2, none⟩ = some (.int .i64 s3.2) := hr.hp.cellAt rfl
      obtain ⟨at3, er3⟩ := s3
      dsimp only at d2
      have hpl := hr.hp.lt
      by_cases he : er3 = 0
      · subst he
        obtain ⟨fn, tmps, assign, body, hy, hR⟩ := HE.out.2 pre (x, v) w2 J2 hel (by have := HT.out.len; omega)
        dsimp only at hy
        have HRR := Lib.hid hR
        have HB := Lib.hid (And.intro b1 (And.intro b2 (And.intro R2 (And.intro hf J2))))
        clear hR b1 b2 R2 hf J2 hr hel c1 c2 HR0
        gi_wp2
        refine HRR.out.mono ?_
        rintro e w3 ⟨rfl, hJ3, hk3⟩
        have RR := Lib.hid (show T1Rel w (fun k => k = p ∨ X k) J p B1 B2 78 a n c l one m sr (k + 1) (pre ++ [(x, v)]) (at3, 0) w3 from
          ⟨hlt, by rw [List.length_append, HT.out.len]; rfl, hJ3, HB.out.2.2.1.frX hk3 hp (fun k h => .inr h), HB.out.1.frX hk3 hx1, HB.out.2.1.frX hk3 hx2, by have := HT.out.sz; have := HB.out.2.2.2.1.size; have := hk3.size; omega,
            by rw [HEE.out.1, if_pos trivial, show m - (k + 1) = d by have := HDD.out; omega]; simp, by rw [HEE.out.2, if_pos trivial, show m - (k + 1) = d by have := HDD.out; omega]⟩)
        clear hJ3 hk3 hy d1 d2
        gi_wp2
        go_roundw
        case rel => exact ⟨k + 1, _, _, by first | rfl | (simp; done) | (rw [IntKind.wrap_u64]; congr 1; omega), RR.out⟩
        case measure => simp [intOf]; omega
      · have hb : (er3 != 0) = true := by simpa using he
        have HB := Lib.hid (And.intro R2 (And.intro hf J2))
        have HE0 := Lib.hid he
        clear b1 b2 R2 hf J2 hr hel c1 c2 HR0 he
        gi_wp2
        refine ⟨fun _ h => (by cases h), ?_⟩
        gi_wp2
        refine bodyPost_ret (results_none rfl _ _ _) rfl ?_
        refine ⟨⟨_, rfl⟩, pre, HB.out.2.2, ?_, ?_, by have := HT.out.sz; have := HB.out.2.1.size; omega⟩
        · rw [HEE.out.1, if_neg HE0.out]
          simp
        · rw [HEE.out.2, if_neg HE0.out]
          exact HB.out.1
    · obtain rfl : k = m := by omega
      have HT := Lib.hid hT
      clear hT
      gi_wp2
      go_end0
      refine ⟨⟨_, rfl⟩, pre, HT.out.j, ?_, ?_, HT.out.sz⟩
      · rw [HT.out.e1, Nat.sub_self]
        simp [manyR]
      · rw [HT.out.e2, Nat.sub_self]
        exact HT.out.rs
theorem int_one {base p : Nat} {a : Option Addr} {n c : Nat} {l : List Int} : OneC Try.prog 78 base p a n c l (rI l) (fun xv _ => xv.2 = .int .i64 xv.1) := fun w s _ hr => (int_rcalls hr).mono (by
  rintro e w' ⟨rfl, h1, h2⟩
  exact ⟨_, rfl, rfl, h1, h2⟩)
/-- The list so far. -/
def AllI (w : World) (B C p : Nat) (pre : List (Int × Value)) (W : World) : Prop :=
  ∃ v, Blk W B 28 [v] ∧ Own W C 3 1 v pre.length (iv (pre.map Prod.fst)) ∧ Fr [p] w W ∧ C ≤ W.heap.size
theorem info_int : (Try.prog.info? 3).map (fun i => (i.zero, i.size, i.bytes)) = some (some (.int .i64 0), 1, 8) := by kernel_rfl
theorem Own.cells {w : World} {b : Nat} {e : TypeId} {size n : Nat} {v : Value} {cs : List Value} (h : Own w b e size v n cs) {k : Nat} (hk : k ∈ ob v) : ∃ cur, Blk w k e cur := by
  rcases h.2 with ⟨rfl, _⟩ | ⟨g', cap, cur, rfl, hg, hh, r⟩
  · simp [ob, Value.ownBlock] at hk
  · have : k = g' := by simpa [ob, Value.ownBlock] using hk
    subst this
    exact ⟨cur.toList, by unfold Blk; simpa using hh⟩
set_option maxRecDepth 100000 in
set_option maxHeartbeats 1000000 in
theorem all_calls {w : World} {base p : Nat} {a : Option Addr} {n c : Nat} {l : List Int} {s : Int × Int} (hbase : base ≤ w.heap.size) (h : Rr w p a n c l s) :
    Calls Try.prog 82 #[.pointer (some ⟨p, 0, none⟩), mv 78 p] w fun e w' => ∃ v, e = .returned v ∧ Own w' base 3 1 v (allR l (rI l) s).1.length (iv (allR l (rI l) s).1) ∧ Rr w' p a n c l (allR l (rI l) s).2 ∧ Fr [p] w w' := by
  have hpl := h.hp.lt
  have HH := Lib.hid h
  clear h
  refine (callsIn_wide (n := 3)).1 ?_
  refine callsIn_of_wp_marks Try.func82 rfl trivial ?_ rfl
  simp only [Try.ntmps82, List.size_toArray, List.length_cons, List.length_nil, Nat.reduceAdd, Nat.reduceSub, Array.replicate_succ, Array.replicate_zero, List.push_toArray, List.append_toArray, List.nil_append, List.cons_append]
  gi_wp2
  have b0 := Blk.new w 28 [.slice none 0 0]
  have f0 := (Fr.refl [] w).alloc (.cells #[.slice none 0 0] 28)
  have z0 := World.size_alloc w (.cells #[.slice none 0 0] 28)
  generalize w.alloc (.cells #[.slice none 0 0] 28) = w1 at *
  refine ⟨trivial, (callsIn_wide.2 (things_calls w1 p 78)).mono ?_⟩
  rintro e w2 ⟨rfl, b1, b2, f2, z2⟩
  rw [z0] at b1 b2 z2
  gi_wp2
  have hnp : w.heap.size ≠ p := by omega
  have fw2 := f0.trans0 f2
  have hX0 : ∀ k, k = w.heap.size ∨ w2.heap.size ≤ k → w.heap.size ≤ k := fun k hk => by omega
  have hXp : ¬ (p = w.heap.size ∨ w2.heap.size ≤ p) := by omega
  have rs : Rs w2 (fun k => k = p ∨ (k = w.heap.size ∨ w2.heap.size ≤ k)) p a n c l s :=
    ⟨HH.out.hp.fr fw2 (by simp), HH.out.rd.step fw2 (by simp) (fun k hk => by rcases hk with h | h; exact .inl h; exact .inr (hX0 k h)), HH.out.src⟩
  refine wpIn_rangeFr (gf := 111) (lb := #[.pointer (some ⟨w.heap.size + 1, 0, none⟩), .pointer (some ⟨w.heap.size + 1 + 1, 0, none⟩)]) rfl (enters_of Try.func111 (by kernel_rfl) rfl) (S := [p]) (X := fun k => k = w.heap.size ∨ w2.heap.size ≤ k) (N := 1024) (fun k hk => by rw [List.mem_singleton.1 hk]; omega) (fun k hk => .inr hk)
    (things1_seq (base := base) (rI l) (fun xv _ => xv.2 = .int .i64 xv.1) int_one rs (by omega) hXp b1 b2 (by omega) (by omega)) (AllI w w.heap.size w2.heap.size p) ?hI (fun _ _ _ _ h _ _ => h) ?hEnd
    (fun x a' _ => a' = { tmps := #[.pointer (some ⟨p, 0, none⟩), mv 78 p, undef, undef, .slice none 0 0, .pointer (some ⟨w.heap.size, 0, none⟩), x.2, .pointer (some ⟨p, 0, none⟩), mv 78 p, .func (.func 111) #[] #[.pointer (some ⟨w.heap.size + 1, 0, none⟩), .pointer (some ⟨w.heap.size + 1 + 1, 0, none⟩)], x.2, undef, undef, undef, undef, undef], defers := [] })
    (fun _ _ _ _ _ h _ _ => h) ⟨_, b0.fr f2 (by simp), Own.nil _ _ _ _, Fr.ext fw2, Nat.le_refl _⟩ ?assign ?body ?done
  case hI =>
    rintro pre T A C ⟨v, hb, ho, hf, hz⟩ hT hk
    have hcell : ∀ k t cs, Blk A k t cs → k ≠ p → k ∉ T := fun k t cs hbk hkp hm => by
      rcases hk k hm with h | ⟨_, o, h1, h2⟩
      · exact hkp (List.mem_singleton.1 h)
      · unfold Blk at hbk
        rw [h1] at hbk
        cases hbk
        cases h2
    refine ⟨v, hb.fr hT (hcell _ _ _ hb hnp), ho.fr hT (fun g hg => ?_), hf.trans hT (fun k hm hlt => ?_), by have := hT.size; omega⟩
    · obtain ⟨cur, hcur⟩ := ho.cells hg
      exact hcell _ _ _ hcur (by have := (ho.lt hg).1; omega)
    · rcases hk k hm with h | h
      · exact h
      · exact absurd h.1 (by omega)
  case hEnd =>
    rintro xs T A C ⟨he, hr, hz⟩ hT hk
    exact ⟨he, hr.frX (hT.x (X := fun k => k = w.heap.size ∨ w2.heap.size ≤ k) (fun k hm => by rcases hk k hm with h | h; simp at h; exact .inr h.1)) hXp (fun k h => .inr h), by have := hT.size; omega⟩
  case assign =>
    intro y x W hx
    clear hx
    gi_wp2
    exact ⟨Fr.refl _ _, by first | rfl | trivial⟩
  case body =>
    rintro y pre ⟨x1, x2⟩ a₁ W ⟨v, hb, ho, hf, hz⟩ hx rfl hlen
    dsimp only at hx
    subst hx
    obtain ⟨a1, k1, rfl, g1, g2, g3⟩ := ho.form
    have c0 : W.cell? ⟨w.heap.size, 0, none⟩ = some (.slice a1 pre.length k1) := hb.cellAt rfl
    have HI := Lib.hid (And.intro hb (And.intro ho (And.intro hf hz)))
    have hbl := hb.lt
    clear hb ho hf hz b0 f0 f2 b1 b2 fw2 rs hX0 hXp g1 g2 g3
    refine wpIn_block ?_
    refine wpIn_region_lit ?_
    refine wpListIn_of_wpList (by rintro ⟨a, w, h⟩; exact h) _ _ _ (by intro o ho c; simp only [List.mem_cons, List.not_mem_nil, or_false] at ho; rcases ho with rfl | rfl | rfl | rfl | rfl <;> simp) ?_
    go_wp2_with (first
      | (refine wpList_buildSlice1 rfl 28 3 _ rfl [.int .i64 0] 1 8 Try.underlying28 (by kernel_rfl) (by simp) (by omega) (by omega) _ [.int .i64 x1] (by rfl) (by rfl) (by simp) ?_; intro w3 B3 F3 S3; have HB3 := Lib.hid B3; have HF3 := Lib.hid F3; have HS3 := Lib.hid S3; clear B3 F3 S3)
      | (refine wpList_appB rfl _ _ 28 28 rfl w2.heap.size 3 3 .i64 8 Try.underlying28 Try.underlying28 info_int _ pre.length (iv (pre.map Prod.fst)) (by rfl) (HI.out.2.1.fr0 HF3.out) (some ⟨W.heap.size, 0, none⟩) 1 1 [.int .i64 x1] (by rfl) (HB3.out.rd0 1) rfl (by simp [Value.oneCell']) (by simp only [maxLen]; omega) (by omega) (by have := HF3.out.size; have := HI.out.2.2.2; omega) ?_; intro v4 w4 O4 F4 K4 _; obtain ⟨a4, k4, hv4, q1, q2, q3⟩ := O4.form; subst hv4; have HO4 := Lib.hid O4; have HF4 := Lib.hid F4; have HK4 := Lib.hid K4; have hbob : w.heap.size ∉ ob (.slice a1 pre.length k1) := (fun hm => by have := (HI.out.2.1.lt hm).1; omega); have HB4 := Lib.hid ((HI.out.1.fr HF3.out (by simp)).fr F4 hbob); clear O4 F4 K4 q1 q2 q3)
      | (refine wpList_store1 rfl 28 _ _ rfl w.heap.size 0 (.slice a4 (pre.length + 1) k4) (by rfl) (by rfl) rfl 28 _ HB4.out (by simp) (by kernel_rfl) rfl ?_; intro w5 B5 F5 S5))
    have hob4 : ∀ k ∈ ob (.slice a4 (pre.length + 1) k4), k ∉ [w.heap.size] := fun k hk hm => by
      rw [List.mem_singleton.1 hm] at hk
      have := (HO4.out.lt hk).1
      omega
    have FT : Fr (w.heap.size :: ob (.slice a1 pre.length k1)) W w5 := ((Fr.ext HF3.out).trans (S' := ob (.slice a1 pre.length k1)) HF4.out (fun k hk _ => List.mem_cons_of_mem _ hk)).trans F5 (fun k hk _ => by rw [List.mem_singleton.1 hk]; exact List.mem_cons_self)
    refine ⟨⟨_, FT, fun k hk => ?_⟩, _, B5, ?_, HI.out.2.2.1.trans FT (fun k hk hlt => ?_), by have := FT.size; have := HI.out.2.2.2; omega⟩
    · rcases List.mem_cons.1 hk with rfl | hk
      · exact ⟨.inl rfl, _, _, HI.out.1⟩
      · obtain ⟨cur, hcur⟩ := HI.out.2.1.cells hk
        exact ⟨.inr (HI.out.2.1.lt hk).1, _, _, hcur⟩
    · have := HO4.out.fr F5 hob4
      simpa [iv] using this
    · rcases List.mem_cons.1 hk with rfl | hk
      · omega
      · have := (HI.out.2.1.lt hk).1
        omega
  case done =>
    rintro D xs W hD ⟨he, hr, hz⟩ ⟨v, hb, ho, hf, hz2⟩ hK
    obtain ⟨a1, k1, rfl, g1, g2, g3⟩ := ho.form
    have c0 : W.cell? ⟨w.heap.size, 0, none⟩ = some (.slice a1 xs.length k1) := hb.cellAt rfl
    have HI := Lib.hid (And.intro he (And.intro hr (And.intro hb (And.intro ho (And.intro hf hz2)))))
    clear he hr hb ho hf hz hz2 b0 f0 f2 b1 b2 fw2 rs hX0 g1 g2 g3
    gi_wp2
    have FD : Fr [D] W (W.putObj D (.deferred none)) := (Fr.refl _ W).putObj D _ (.inl (by simp))
    have hcell : ∀ k t cs, Blk W k t cs → k ∉ [D] := fun k t cs hbk hm => by
      rw [List.mem_singleton.1 hm] at hbk
      unfold Blk at hbk
      rw [hK] at hbk
      cases hbk
    refine ⟨by simp, .inl ⟨D, _, rfl, run_takeDeferred hK, ?_⟩⟩
    refine ⟨_, results_tmp rfl _ _ _, _, rfl, ?_, (HI.out.2.1.frX (FD.x (X := fun k => k = w.heap.size ∨ w2.heap.size ≤ k) (fun k hm => .inr (by rw [List.mem_singleton.1 hm]; exact hD))) hXp (fun k h => .inr h)).rr (.inl rfl), HI.out.2.2.2.2.1.trans FD (fun k hm hlt => by rw [List.mem_singleton.1 hm] at hlt; omega)⟩
    rw [← HI.out.1, List.length_map]
    exact (HI.out.2.2.2.1.fr FD (fun g hg => by obtain ⟨cur, hcur⟩ := HI.out.2.2.2.1.cells hg; exact hcell _ _ _ hcur)).base (by omega)
end Go.Fur
