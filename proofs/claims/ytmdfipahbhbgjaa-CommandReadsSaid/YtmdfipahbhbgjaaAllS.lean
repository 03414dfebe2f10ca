/- Lists of things that are read: things, all, of structs: contracts. -/
import Derived.Test.YtmdfipahbhbgjaaCmdR3
import Derived.Test.YtmdfipahbhbgjaaRowW
import Derived.Test.YtmdfipahbhbgjaaWGuard
namespace Go.Fur
open Go Go.RowKit Go.Proofs Go.Proofs.YtmdfipahbhbgjaaW.PrintWords
attribute [local go_sem] Oper.semAt_some
set_option linter.unusedVariables false
set_option linter.unusedSimpArgs false
section
variable {P : Program}
theorem Oper.wpInW_of_wp {n : Nat} {o : Oper} {a : Act} {w : World} {N N' : Act → World → Prop} {Q : Exit → Act → World → Prop} (hd : ∀ c, o.op ≠ .defer c) (hN : ∀ a w, N a w → N' a w) (h : o.wp P a w N Q) : o.wpIn Fence.wide n P a w N' Q := by
  refine ⟨fun _ _ => trivial, ?_⟩
  rw [Oper.semAt_eq _ _ _ hd]
  unfold Oper.wp at h
  generalize hx : (execOp a.eval o).run P w = r at *
  cases r with
  | ok x w' =>
    cases x with
    | value v => exact hN _ _ h
    | skip => exact hN _ _ h
    | defer d => exact hN _ _ h
    | enter f args =>
      refine ⟨fun h => (by cases h), ((callsIn_wide (n := n - 1)).2 h).mono ?_⟩
      intro e w'' he
      cases e with
      | returned v => exact hN _ _ he
      | panicked c => exact he
      | outgrown => exact he
    | row row args =>
      have hR : RowsIn Fence.wide (n - 1) P row args w' fun v w'' => N' (a.put o.dst v) w'' := fun c cs _ => by
        obtain ⟨v, w2, h1, h2⟩ := h c cs
        exact ⟨v, w2, hN _ _ h1, stepsIn_wide.2 h2⟩
      exact ⟨fun h => (by cases h), hR⟩
    | _ => exact h.elim
  | halt h0 w' =>
    cases h0 with
    | panic v => exact h
    | _ => exact h.elim
theorem wpListInW_of_wpList {n : Nat} {ops : Array Oper} {Q : Exit → Act → World → Prop} (hq : ¬ LetsOut Q) : ∀ (rest : List Oper) (a : Act) (w : World), (∀ o ∈ rest, ∀ c, o.op ≠ .defer c) → wpList P ops Q rest a w → wpListIn Fence.wide n P ops Q rest a w
  | [], a, w, _, h => h
  | o :: rest, a, w, hd, h => by
    unfold wpList at h
    unfold wpListIn
    split at h
    · rename_i hw
      rw [if_pos hw]
      exact Oper.wpInW_of_wp (hd o (by simp)) (fun a w h => wpListInW_of_wpList hq rest a w (fun o ho => hd o (by simp [ho])) h) (h.resolve_right (fun hh => hq hh.2))
    · rename_i hw
      rw [if_neg hw]
      exact ⟨fun _ _ => trivial, wpListInW_of_wpList hq rest _ w (fun o ho => hd o (by simp [ho])) h⟩
theorem wpListInW_step {n : Nat} {ops : Array Oper} {Q : Exit → Act → World → Prop} {o : Oper} {rest : List Oper} {a : Act} {w : World} (hw : Region.wanted o (yielded ops a.tmps) = true) (hd : ∀ c, o.op ≠ .defer c)
    (h : wpList P ops (fun e a' w' => e = .normal ∧ wpListIn Fence.wide n P ops Q rest a' w') [o] a w) : wpListIn Fence.wide n P ops Q (o :: rest) a w := by
  unfold wpList at h
  rw [if_pos hw] at h
  unfold wpListIn
  rw [if_pos hw]
  rcases h with h | ⟨_, a', w', he, _⟩
  · refine Oper.wpInW_of_wp (N := wpListIn Fence.wide n P ops Q rest) hd (fun _ _ h => h) ?_
    unfold Oper.wp at h ⊢
    generalize (execOp a.eval o).run P w = z at *
    cases z with
    | ok nx w' =>
      cases nx with
      | value v => exact h.2
      | skip => exact h.2
      | defer d => exact h.2
      | enter f args =>
        simp only [Oper.upon] at h ⊢
        refine Calls.mono h (fun e w'' he => ?_)
        cases e with
        | returned v => exact he.2
        | panicked c => exact absurd he.1 (by simp)
        | outgrown => obtain ⟨a', w', he, _⟩ := he; cases he
      | row row args =>
        simp only [Oper.upon] at h ⊢
        exact Rows.mono h (fun _ _ he => he.2)
      | _ => exact h.elim
    | halt x w' =>
      cases x with
      | panic v => exact absurd h.1 (by simp)
      | _ => exact h.elim
  · cases he
end
/-- What holds when k things have been read. -/
structure T1S (tf : TypeId) {β : Type} (w : World) (Y : Nat → Prop) (J : List (β × Value) → World → Prop) (p B1 B2 f : Nat) (a : Option Addr) (n c : Nat) (l : List Int) (one : Int × Int → β × Int × Int) (m : Nat) (sr : Int × Int) (k : Nat) (pre : List (β × Value)) (s : Int × Int) (wr : World) : Prop where
  le : k ≤ m
  len : pre.length = k
  j : J pre wr
  rs : Rs wr Y p a n c l s
  b1 : Blk wr B1 90 [.pointer (some ⟨p, 0, none⟩)]
  b2 : Blk wr B2 tf [mv f p]
  sz : w.heap.size ≤ wr.heap.size
  e1 : (manyR one m sr).1 = pre.map Prod.fst ++ (manyR one (m - k) s).1
  e2 : (manyR one m sr).2 = (manyR one (m - k) s).2
/-- A struct that is read: its cells. -/
def SEl {β : Type} (EW : World → List Value → β → Prop) (k : Nat) (xv : β × Value) (W : World) : Prop := ∃ cs : List Value, xv.2 = .agg cs.toArray ∧ cs.length = k ∧ (∀ u ∈ cs, u.oneCell' = true) ∧ EW W cs xv.1
/-- What stays where the blocks of T are turned. -/
def Stays {β : Type} (EW : World → List Value → β → Prop) (p : Nat) (e1 e2 : TypeId) : Prop :=
  ∀ W W' T cs x, Fr T W W' → (∀ k ∈ T, k = p ∨ (∃ o : Obj, W.heap[k]? = some o ∧ o.isCells = false) ∨ ∃ t cur, Blk W k t cur ∧ (t = e1 ∨ t = e2)) → EW W cs x → EW W' cs x
theorem Stays.fr0 {β : Type} {EW : World → List Value → β → Prop} {p : Nat} {e1 e2 : TypeId} (h : Stays EW p e1 e2) {W W' : World} {cs : List Value} {x : β} (f : Fr [] W W') (he : EW W cs x) : EW W' cs x := h W W' [] cs x f (by simp) he
/-- What a round begins with: the struct in a block of its own. -/
def AxS {β : Type} (e : TypeId) (k : Nat) (f : Value → Value → Act) (x : β × Value) (a' : Act) (W : World) : Prop := ∃ (g : Nat) (cs : List Value), x.2 = .agg cs.toArray ∧ cs.length = k ∧ (∀ u ∈ cs, u.oneCell' = true) ∧ Blk W g e cs ∧ a' = f (.pointer (some ⟨g, 0, none⟩)) x.2
theorem thingsL_calls (w : World) (p k : Nat) :
    Calls Try.prog 104 #[.pointer (some ⟨p, 0, none⟩), mv k p] w fun e w' => e = .returned (.func (.func 112) #[] #[.pointer (some ⟨w.heap.size, 0, none⟩), .pointer (some ⟨w.heap.size + 1, 0, none⟩)]) ∧
      Blk w' w.heap.size 90 [.pointer (some ⟨p, 0, none⟩)] ∧ Blk w' (w.heap.size + 1) 150 [mv k p] ∧ Fr [] w w' ∧ w'.heap.size = w.heap.size + 2 := by
  go_enter Try.func104, Try.ntmps104
  go_wp2_with fail
  go_ret
  have b1 := Blk.new w 90 [.pointer (some ⟨p, 0, none⟩)]
  have b2 := Blk.new (w.alloc (.cells #[.pointer (some ⟨p, 0, none⟩)] 90)) 150 [mv k p]
  rw [World.size_alloc] at b2
  exact ⟨rfl, b1.alloc _, b2, ((Fr.refl [] w).alloc _).alloc _, by simp⟩
theorem lease_zero2 : ∀ w, (zeroValue 124).run Try.prog w = .ok (.agg ([.int .i64 0, .int .i64 0, .int .i64 0, .slice none 0 0, .int .i64 0, .int .i64 0, .int .i64 0, .bool false] : List Value).toArray) w := fun w => by kernel_rfl
set_option maxRecDepth 100000 in
set_option maxHeartbeats 1000000 in
theorem things1L_seq {β : Type} {w : World} {X : Nat → Prop} {base p B1 B2 : Nat} {a : Option Addr} {n c : Nat} {l : List Int} {s : Int × Int} (one : Int × Int → β × Int × Int) (El : β × Value → World → Prop)
    (hone : OneC Try.prog 84 base p a n c l one El) (hElS : ∀ xv W, El xv W → ∃ cs : List Value, xv.2 = .agg cs.toArray ∧ cs.length = 8 ∧ ∀ u ∈ cs, u.oneCell' = true) (hElF : ∀ xv W W', Fr [] W W' → El xv W → El xv W') (h : Rs w (fun k => k = p ∨ X k) p a n c l s) (hbase : base ≤ w.heap.size) (hp : ¬ X p)
    (h1 : Blk w B1 90 [.pointer (some ⟨p, 0, none⟩)]) (h2 : Blk w B2 150 [mv 84 p]) (hx1 : ¬ X B1) (hx2 : ¬ X B2) :
    SeqFr Try.prog 112 #[.pointer (some ⟨B1, 0, none⟩), .pointer (some ⟨B2, 0, none⟩)] Prod.snd El [p] X 1024 (fun xs W => xs.map Prod.fst = (allR l one s).1 ∧ Rs W (fun k => k = p ∨ X k) p a n c l (allR l one s).2 ∧ w.heap.size ≤ W.heap.size) w := by
  intro y J W hW hJ hY h0
  obtain ⟨m, hm, hr1⟩ := rU_1024 l h.src.byt s
  have HC := Lib.hid (upto_calls ((h.fr0 hW).rr (.inl rfl)) 1024 3)
  have c1 : W.cell? ⟨B1, 0, none⟩ = some (.pointer (some ⟨p, 0, none⟩)) := (h1.fr hW (by simp)).cellAt rfl
  unfold allR
  generalize rU l 1024 3 s = r at *
  obtain ⟨r1, sr⟩ := r
  dsimp only at hr1 HC ⊢
  subst hr1
  rw [Int.toNat_natCast]
  have HH := Lib.hid (And.intro h (And.intro h1 h2))
  clear h h1 h2
  refine callsIn_of_wp Try.func112 rfl trivial ?_ rfl
  simp only [Try.ntmps112, List.size_toArray, List.length_cons, List.length_nil, Nat.reduceAdd, Nat.reduceSub, Array.replicate_succ, Array.replicate_zero, List.push_toArray, List.append_toArray, List.nil_append, List.cons_append]
  gi_wp2
  refine ⟨trivial, (callsIn_wide.2 HC.out).mono ?_⟩
  rintro e w1 ⟨rfl, hr, hf⟩
  have hB1p : B1 ≠ p := fun e => by
    have := (HH.out.1.hp.ne HH.out.2.1 (by decide))
    exact this e.symm
  have hB2p : B2 ≠ p := fun e => by
    have := (HH.out.1.hp.ne HH.out.2.2 (by decide))
    exact this e.symm
  have R0 : T1S (150) w (fun k => k = p ∨ X k) J p B1 B2 84 a n c l one m sr 0 [] sr w1 :=
    ⟨Nat.zero_le _, rfl, hJ [] _ _ h0 hf, (HH.out.1.fr0 hW).one (.inl rfl) hr hf, (HH.out.2.1.fr hW (by simp)).fr hf (by simpa using hB1p), (HH.out.2.2.fr hW (by simp)).fr hf (by simpa using hB2p), by have := hW.size; have := hf.size; omega, by simp, rfl⟩
  have HR0 := Lib.hid R0
  have HE := Lib.hid (And.intro hJ hY)
  clear R0 c1 HC h0 hr hf hJ hY
  gi_wp2
  gi_loopw [7] (fun i wr => ∃ k pre s2, i = .int .u64 (k : Nat) ∧ T1S (150) w (fun k => k = p ∨ X k) J p B1 B2 84 a n c l one m sr k pre s2 wr) (fun i _ => m - (intOf i).toNat)
  case atStart => exact ⟨0, [], sr, rfl, HR0.out⟩
  case round =>
    obtain ⟨k, pre, s2, rfl, hT⟩ := hrel
    have hkm := hT.le
    by_cases hlt : k < m
    · obtain ⟨d, hd⟩ : ∃ d, m - k = d + 1 := ⟨m - k - 1, by omega⟩
      have kb : (k : Int) < (m : Int) := by omega
      have c1 : wr.cell? ⟨B1, 0, none⟩ = some (.pointer (some ⟨p, 0, none⟩)) := hT.b1.cellAt rfl
      have c2 : wr.cell? ⟨B2, 0, none⟩ = some (mv 84 p) := hT.b2.cellAt rfl
      have HO := Lib.hid (hone wr s2 (by have := hT.sz; omega) (hT.rs.rr (.inl rfl)))
      have e1 := hT.e1
      have e2 := hT.e2
      rw [hd, manyR] at e1 e2
      generalize one s2 = q at *
      obtain ⟨x, s3⟩ := q
      have HT := Lib.hid hT
      have HEE := Lib.hid (And.intro e1 e2)
      have HDD := Lib.hid hd
      clear hT e1 e2 hd
      gi_wp2
      refine ⟨trivial, (callsIn_wide.2 HO.out).mono ?_⟩
      rintro e w2 ⟨v, rfl, hel, hr, hf⟩
      obtain ⟨cs, hv, hcl, hone1⟩ := hElS _ _ hel
      dsimp only at hv
      subst hv
      rename_i K2 a2 K1 a1 K0 a0
      refine a0 _ _ ?_
      refine wpListInW_step (by rfl) (by simp) (wpList_allocZ rfl 124 rfl _ lease_zero2 ?_)
      intro w3 B3 F3 S3
      refine ⟨rfl, ?_⟩
      simp only [Act.put, List.setIfInBounds_toArray, List.set_cons_zero, List.set_cons_succ]
      refine wpListInW_step (by rfl) (by simp) (wpList_storeB rfl 124 _ _ rfl w2.heap.size 0 cs (by rfl) (by rfl) 124 _ B3 (by rw [hcl]; show 0 + 8 ≤ 8; omega) (by rw [hcl]; kernel_rfl) hone1 ?_)
      intro w4 B4 F4 S4
      refine ⟨rfl, ?_⟩
      rw [splice_all _ _ (by rw [hcl]; rfl)] at B4
      simp only [Act.put, List.setIfInBounds_toArray, List.set_cons_zero, List.set_cons_succ]
      have F24 : Fr [] w2 w4 := F3.trans F4 (fun k hk hlt => by rw [List.mem_singleton.1 hk] at hlt; omega)
      refine a1 _ _ ?_
      have b1 := (HT.out.b1.fr hf (by simpa using hB1p)).fr F24 (by simp)
      have b2 := (HT.out.b2.fr hf (by simpa using hB2p)).fr F24 (by simp)
      have R2 := (HT.out.rs.one (.inl rfl) hr hf).fr0 F24
      have J2 := HE.out.1 pre _ _ (HE.out.1 pre _ _ HT.out.j hf) (Fr.ext F24)
      have hel4 := hElF _ _ _ F24 hel
      have HB4 := Lib.hid B4
      have hf4 := hf.trans0 F24
      have d1 : w4.cell? ⟨B1, 0, none⟩ = some (.pointer (some ⟨p, 0, none⟩)) := b1.cellAt rfl
      have d2 : w4.cell? ⟨p, 2, none⟩ = some (.int .i64 s3.2) := R2.hp.cellAt rfl
      obtain ⟨at3, er3⟩ := s3
      dsimp only at d2
      have hpl := R2.hp.lt
      clear B3 F3 S3 B4 F4 S4 F24 hel a0 K0
      by_cases he : er3 = 0
      · subst he
        obtain ⟨fn, tmps, assign, body, hy, hR⟩ := HE.out.2 pre (x, .agg cs.toArray) w4 J2 hel4 (by have := HT.out.len; omega)
        dsimp only at hy
        have HRR := Lib.hid hR
        have HB := Lib.hid (And.intro b1 (And.intro b2 (And.intro R2 (And.intro hf4 J2))))
        clear hR b1 b2 R2 hf hf4 J2 hr hel4 c1 c2 HR0
        gi_wp2_with (refine wpListInW_step (by rfl) (by simp) (gate_guard (by rfl) (wpList_loadB rfl 124 _ rfl w2.heap.size (by rfl) 124 _ _ HB4.out Try.underlying124 rfl (by rw [hcl]; kernel_rfl) ?_)); refine ⟨rfl, ?_⟩)
        refine HRR.out.mono ?_
        rintro e w3 ⟨rfl, hJ3, hk3⟩
        have RR := Lib.hid (show T1S (150) w (fun k => k = p ∨ X k) J p B1 B2 84 a n c l one m sr (k + 1) (pre ++ [(x, .agg cs.toArray)]) (at3, 0) w3 from
          ⟨hlt, by rw [List.length_append, HT.out.len]; rfl, hJ3, HB.out.2.2.1.frX hk3 hp (fun k h => .inr h), HB.out.1.frX hk3 hx1, HB.out.2.1.frX hk3 hx2, by have := HT.out.sz; have := HB.out.2.2.2.1.size; have := hk3.size; omega,
            by rw [HEE.out.1, if_pos trivial, show m - (k + 1) = d by have := HDD.out; omega]; simp, by rw [HEE.out.2, if_pos trivial, show m - (k + 1) = d by have := HDD.out; omega]⟩)
        clear hJ3 hk3 hy d1 d2
        gi_wp2
        go_roundw
        case rel => exact ⟨k + 1, _, _, by first | rfl | (simp; done) | (rw [IntKind.wrap_u64]; congr 1; omega), RR.out⟩
        case measure => simp [intOf]; omega
      · have hb : (er3 != 0) = true := by simpa using he
        have HB := Lib.hid (And.intro R2 (And.intro hf4 J2))
        have HE0 := Lib.hid he
        clear b1 b2 R2 hf hf4 J2 hr hel4 c1 c2 HR0 he
        gi_wp2
        refine ⟨fun _ h => (by cases h), ?_⟩
        gi_wp2
        refine bodyPost_ret (results_none rfl _ _ _) rfl ?_
        refine ⟨⟨_, rfl⟩, pre, HB.out.2.2, ?_, ?_, by have := HT.out.sz; have := HB.out.2.1.size; omega⟩
        · rw [HEE.out.1, if_neg HE0.out]
          simp
        · rw [HEE.out.2, if_neg HE0.out]
          exact HB.out.1
    · obtain rfl : k = m := by omega
      have HT := Lib.hid hT
      clear hT
      gi_wp2
      go_end0
      refine ⟨⟨_, rfl⟩, pre, HT.out.j, ?_, ?_, HT.out.sz⟩
      · rw [HT.out.e1, Nat.sub_self]
        simp [manyR]
      · rw [HT.out.e2, Nat.sub_self]
        exact HT.out.rs
def zLea : List Value := [.int .i64 0, .int .i64 0, .int .i64 0, .slice none 0 0, .int .i64 0, .int .i64 0, .int .i64 0, .bool false]
theorem info_leaZ : (Try.prog.info? 124).map (fun i => (i.zero.map (·.cells), i.size, i.bytes)) = some (some zLea.toArray, 8, 80) := by kernel_rfl
set_option maxRecDepth 100000 in
set_option maxHeartbeats 2000000 in
theorem allL_calls {β : Type} {EW : World → List Value → β → Prop} {w : World} {p : Nat} {a : Option Addr} {n c : Nat} {l : List Int} {s : Int × Int} (one : Int × Int → β × Int × Int) (hst : Stays EW p 124 47) (hone : OneC Try.prog 84 w.heap.size p a n c l one (SEl EW 8)) (h : Rr w p a n c l s) :
    Calls Try.prog 83 #[.pointer (some ⟨p, 0, none⟩), mv 84 p] w fun e w' => ∃ v, e = .returned v ∧ RowW EW 8 124 w.heap.size w' v (allR l one s).1 ∧ Rr w' p a n c l (allR l one s).2 ∧ Fr [p] w w' := by
  have hpl := h.hp.lt
  have HH := Lib.hid h
  have HST := Lib.hid hst
  clear h
  refine (callsIn_wide (n := 3)).1 ?_
  refine callsIn_of_wp_marks Try.func83 rfl trivial ?_ rfl
  simp only [Try.ntmps83, List.size_toArray, List.length_cons, List.length_nil, Nat.reduceAdd, Nat.reduceSub, Array.replicate_succ, Array.replicate_zero, List.push_toArray, List.append_toArray, List.nil_append, List.cons_append]
  gi_wp2
  have b0 := Blk.new w 47 [.slice none 0 0]
  have f0 := (Fr.refl [] w).alloc (.cells #[.slice none 0 0] 47)
  have z0 := World.size_alloc w (.cells #[.slice none 0 0] 47)
  generalize w.alloc (.cells #[.slice none 0 0] 47) = w1 at *
  refine ⟨trivial, (callsIn_wide.2 (thingsL_calls w1 p 84)).mono ?_⟩
  rintro e w2 ⟨rfl, b1, b2, f2, z2⟩
  rw [z0] at b1 b2 z2
  gi_wp2
  have hnp : w.heap.size ≠ p := by omega
  have fw2 := f0.trans0 f2
  have hX0 : ∀ k, k = w.heap.size ∨ w2.heap.size ≤ k → w.heap.size ≤ k := fun k hk => by omega
  have hXp : ¬ (p = w.heap.size ∨ w2.heap.size ≤ p) := by omega
  have rs : Rs w2 (fun k => k = p ∨ (k = w.heap.size ∨ w2.heap.size ≤ k)) p a n c l s :=
    ⟨HH.out.hp.fr fw2 (by simp), HH.out.rd.step fw2 (by simp) (fun k hk => by rcases hk with h | h; exact .inl h; exact .inr (hX0 k h)), HH.out.src⟩
  have hElF : ∀ xv W W', Fr [] W W' → SEl EW 8 xv W → SEl EW 8 xv W' := fun xv W W' f hx => by
    obtain ⟨cs, h1, h2, h3, h4⟩ := hx
    exact ⟨cs, h1, h2, h3, hst.fr0 f h4⟩
  refine wpIn_rangeFr (gf := 112) (lb := #[.pointer (some ⟨w.heap.size + 1, 0, none⟩), .pointer (some ⟨w.heap.size + 1 + 1, 0, none⟩)]) rfl (enters_of Try.func112 (by kernel_rfl) rfl) (S := [p]) (X := fun k => k = w.heap.size ∨ w2.heap.size ≤ k) (N := 1024) (fun k hk => by rw [List.mem_singleton.1 hk]; omega) (fun k hk => .inr hk)
    (things1L_seq (base := w.heap.size) one (SEl EW 8) hone (fun xv W hx => by obtain ⟨cs, h1, h2, h3, _⟩ := hx; exact ⟨cs, h1, h2, h3⟩) hElF rs (by omega) hXp b1 b2 (by omega) (by omega))
    (fun pre W => ∃ v, Blk W w.heap.size 47 [v] ∧ RowW EW 8 124 w2.heap.size W v (pre.map Prod.fst) ∧ Fr [p] w W ∧ w2.heap.size ≤ W.heap.size) ?hI ?hEl ?hEnd
    (AxS 124 8 fun gv xv => { tmps := #[.pointer (some ⟨p, 0, none⟩), mv 84 p, undef, undef, .slice none 0 0, .pointer (some ⟨w.heap.size, 0, none⟩), gv, .pointer (some ⟨p, 0, none⟩), mv 84 p, .func (.func 112) #[] #[.pointer (some ⟨w.heap.size + 1, 0, none⟩), .pointer (some ⟨w.heap.size + 1 + 1, 0, none⟩)], xv, undef, undef, undef, undef, undef], defers := [] })
    ?hAx ⟨_, b0.fr f2 (by simp), RowW.nil _, Fr.ext fw2, Nat.le_refl _⟩ ?assign ?body ?done
  case hI =>
    rintro pre T A C ⟨v, hb, ho, hf, hz⟩ hT hk
    have hcell : ∀ k t cs, Blk A k t cs → k ≠ p → k ∉ T := fun k t cs hbk hkp hm => by
      rcases hk k hm with h | ⟨_, o, h1, h2⟩
      · exact hkp (List.mem_singleton.1 h)
      · unfold Blk at hbk
        rw [h1] at hbk
        cases hbk
        cases h2
    refine ⟨v, hb.fr hT (hcell _ _ _ hb hnp), ho.fr hT (fun g hg => ?_) (fun cs t h => hst _ _ _ _ _ hT (fun k hm => ?_) h), hf.trans hT (fun k hm hlt => ?_), by have := hT.size; omega⟩
    · obtain ⟨cur, hcur⟩ := ho.blkOf hg
      exact hcell _ _ _ hcur (by have := (ho.lt hg).1; omega)
    · rcases hk k hm with h | ⟨_, o, h1, h2⟩
      · exact .inl (List.mem_singleton.1 h)
      · exact .inr (.inl ⟨o, h1, h2⟩)
    · rcases hk k hm with h | h
      · exact h
      · exact absurd h.1 (by omega)
  case hEl =>
    rintro xv T A C ⟨cs, h1, h2, h3, h4⟩ hT hk
    refine ⟨cs, h1, h2, h3, hst _ _ _ _ _ hT (fun k hm => ?_) h4⟩
    rcases hk k hm with h | ⟨_, o, h1, h2⟩
    · exact .inl (List.mem_singleton.1 h)
    · exact .inr (.inl ⟨o, h1, h2⟩)
  case hAx =>
    rintro a' x T A C ⟨g, cs, h1, h2, h3, hb, h4⟩ hT hk
    refine ⟨g, cs, h1, h2, h3, hb.fr hT (fun hm => ?_), h4⟩
    rcases hk g hm with h | ⟨_, o, k1, k2⟩
    · simp at h
    · unfold Blk at hb
      rw [k1] at hb
      cases hb
      cases k2
  case hEnd =>
    rintro xs T A C ⟨he, hr, hz⟩ hT hk
    exact ⟨he, hr.frX (hT.x (X := fun k => k = w.heap.size ∨ w2.heap.size ≤ k) (fun k hm => by rcases hk k hm with h | h; simp at h; exact .inr h.1)) hXp (fun k h => .inr h), by have := hT.size; omega⟩
  case assign =>
    rintro y ⟨x1, x2⟩ W ⟨cs, hv, hcl, h1, _⟩
    dsimp only at hv
    subst hv
    clear b0 f0 f2 b1 b2 fw2 rs hX0 hXp
    refine wpIn_region_lit ?_
    refine wpListIn_of_wpList (by rintro ⟨a, w, h⟩; exact h) _ _ _ (by intro o ho c; simp only [List.mem_cons, List.not_mem_nil, or_false] at ho; rcases ho with rfl | rfl <;> simp) ?_
    go_wp2_with (first
      | (refine wpList_storeB rfl 124 _ _ rfl W.heap.size 0 cs (by rfl) (by rfl) 124 _ HB3.out (by rw [hcl]; show 0 + 8 ≤ 8; omega) (by rw [hcl]; kernel_rfl) h1 ?_; intro w4 B4 F4 S4; rw [splice_all _ _ (by rw [hcl]; rfl)] at B4; have HB4 := Lib.hid B4; have HF4 := Lib.hid (HF3.out.trans F4 (fun k hk hlt => by rw [List.mem_singleton.1 hk] at hlt; omega)); clear B4 F4 S4)
      | (refine wpList_allocZ rfl 124 rfl _ lease_zero2 ?_; intro w3 B3 F3 S3; have HB3 := Lib.hid B3; have HF3 := Lib.hid F3; clear B3 F3 S3))
    exact ⟨HF4.out, _, cs, rfl, hcl, h1, HB4.out, rfl⟩
  case body =>
    rintro y pre ⟨x1, x2⟩ a₁ W ⟨v, hb, ho, hf, hz⟩ ⟨cs0, hv0, hcl0, hone0, hew⟩ ⟨g, cs, hv, hcl, h1, hg, rfl⟩ hlen
    dsimp only at hv hv0
    have hcc : cs0 = cs := by
      rw [hv] at hv0
      simpa using hv0.symm
    subst hcc
    subst hv
    obtain ⟨a1, k1, rfl, g1, g2⟩ := ho.form
    have c0 : W.cell? ⟨w.heap.size, 0, none⟩ = some (.slice a1 (pre.map Prod.fst).length k1) := hb.cellAt rfl
    have hml : (pre.map Prod.fst).length = pre.length := List.length_map _
    have hmm : (pre.map Prod.fst).length < 1024 := by omega
    have HI := Lib.hid (And.intro hb (And.intro ho (And.intro hf (And.intro hz (And.intro hew hg)))))
    have hbl := hb.lt
    have hgB : w.heap.size ∉ ob (.slice a1 (pre.map Prod.fst).length k1) := fun hm => by have := (ho.lt hm).1; omega
    have HGB := Lib.hid hgB
    clear hb ho hf hz b0 f0 f2 b1 b2 fw2 rs hX0 hXp g1 g2 hew hg hv0 hcl0 hone0 hlen hgB hml
    generalize hL : pre.map Prod.fst = L at *
    have HZ := Lib.hid z2
    clear z2
    refine wpIn_block ?_
    refine wpIn_region_lit ?_
    refine wpListIn_of_wpList (by rintro ⟨a, w, h⟩; exact h) _ _ _ (by intro o ho c; simp only [List.mem_cons, List.not_mem_nil, or_false] at ho; rcases ho with rfl | rfl | rfl | rfl | rfl <;> simp) ?_
    go_wp2_with (first
      | (have z := HR4.out; clear z; refine wpList_store1 rfl 47 _ _ rfl w.heap.size 0 (.slice a4 (L ++ [x1]).length k4) (by rfl) (by rfl) rfl 47 _ HB4.out (by simp) (by kernel_rfl) rfl ?_; intro w5 B5 F5 S5)
      | (have z := HB3.out; clear z; refine wpList_appW rfl _ _ 47 47 rfl w2.heap.size 124 124 zLea 8 80 Try.underlying47 Try.underlying47 info_leaZ rfl (by decide) _ L (by rfl) HR3.out _ 1 (by rfl) 124 cs0 HB3.out hcl h1 x1 HW3.out (by simp only [maxLen]; omega) (by omega) (by have := HF3.out.size; have := HI.out.2.2.2.1; omega) (fun w' cs t f h => HST.out _ _ _ _ _ f (fun k hk => .inr (.inr (by obtain ⟨cur, hcur⟩ := HR3.out.blkOf hk; exact ⟨_, cur, hcur, .inl rfl⟩))) h) ?_; intro v4 w4 R4 F4 K4; obtain ⟨a4, k4, hv4, _, _⟩ := R4.form; subst hv4; have HR4 := Lib.hid R4; have HF4 := Lib.hid F4; have HB4 := Lib.hid ((HI.out.1.fr HF3.out (by simp)).fr F4 HGB.out); clear R4 F4 K4)
      | (refine wpList_loadB rfl 124 _ rfl g (by rfl) 124 _ _ HI.out.2.2.2.2.2 Try.underlying124 rfl (by rw [hcl]; kernel_rfl) ?_)
      | (refine wpList_buildSlice1 rfl 47 124 _ rfl zLea 8 80 Try.underlying47 info_leaZ (by rfl) (by omega) (by omega) _ cs0 (by rfl) (by rfl) hcl ?_; intro w3 B3 F3 S3; have HB3 := Lib.hid B3; have HF3 := Lib.hid F3; have HW3 := Lib.hid (HST.out.fr0 F3 HI.out.2.2.2.2.1); have HR3 := Lib.hid (HI.out.2.1.fr F3 (by simp) (fun cs t h => HST.out.fr0 F3 h)); clear B3 F3 S3))
    have hob4 : ∀ k ∈ ob (.slice a4 (L ++ [x1]).length k4), k ∉ [w.heap.size] := fun k hk hm => by
      rw [List.mem_singleton.1 hm] at hk
      have := (HR4.out.lt hk).1
      have := HZ.out
      omega
    have FT : Fr (w.heap.size :: ob (.slice a1 L.length k1)) W w5 := ((Fr.ext HF3.out).trans (S' := ob (.slice a1 L.length k1)) HF4.out (fun k hk _ => List.mem_cons_of_mem _ hk)).trans F5 (fun k hk _ => by rw [List.mem_singleton.1 hk]; exact List.mem_cons_self)
    have R5 := HR4.out.fr F5 hob4 (fun cs t h => HST.out _ _ _ _ _ F5 (fun k hk => .inr (.inr (by rw [List.mem_singleton.1 hk]; exact ⟨_, _, HB4.out, .inr rfl⟩))) h)
    refine ⟨⟨_, FT, fun k hk => ?_⟩, _, B5, ?_, HI.out.2.2.1.trans FT (fun k hk hlt => ?_), by have := FT.size; have := HI.out.2.2.2.1; omega⟩
    · rcases List.mem_cons.1 hk with rfl | hk
      · exact ⟨.inl rfl, _, _, HI.out.1⟩
      · obtain ⟨cur, hcur⟩ := HI.out.2.1.blkOf hk
        exact ⟨.inr (HI.out.2.1.lt hk).1, _, _, hcur⟩
    · first | exact R5 | (rw [List.map_append, hL]; exact R5)
    · rcases List.mem_cons.1 hk with rfl | hk
      · omega
      · have := (HI.out.2.1.lt hk).1
        have := HZ.out
        omega
  case done =>
    rintro D xs W hD ⟨he, hr, hz⟩ ⟨v, hb, ho, hf, hz2⟩ hK
    obtain ⟨a1, k1, rfl, g1, g2⟩ := ho.form
    have c0 : W.cell? ⟨w.heap.size, 0, none⟩ = some (.slice a1 (xs.map Prod.fst).length k1) := hb.cellAt rfl
    have HI := Lib.hid (And.intro he (And.intro hr (And.intro hb (And.intro ho (And.intro hf hz2)))))
    clear he hr hb ho hf hz hz2 b0 f0 f2 b1 b2 fw2 rs hX0 g1 g2
    generalize hL : xs.map Prod.fst = L at *
    have HZ := Lib.hid z2
    clear z2
    gi_wp2
    have FD : Fr [D] W (W.putObj D (.deferred none)) := (Fr.refl _ W).putObj D _ (.inl (by simp))
    have hcell : ∀ k t cs, Blk W k t cs → k ∉ [D] := fun k t cs hbk hm => by
      rw [List.mem_singleton.1 hm] at hbk
      unfold Blk at hbk
      rw [hK] at hbk
      cases hbk
    have FE : Fr [p] w (W.putObj D (.deferred none)) := HI.out.2.2.2.2.1.trans FD (fun k hm hlt => by have h9 := List.mem_singleton.1 hm; have := HZ.out; omega)
    refine ⟨by simp, .inl ⟨D, _, rfl, run_takeDeferred hK, ?_⟩⟩
    refine ⟨_, results_tmp rfl _ _ _, _, rfl, ?_, (HI.out.2.1.frX (FD.x (X := fun k => k = w.heap.size ∨ w2.heap.size ≤ k) (fun k hm => .inr (by rw [List.mem_singleton.1 hm]; exact hD))) hXp (fun k h => .inr h)).rr (.inl rfl), FE⟩
    have hR : RowW EW 8 124 w2.heap.size W (.slice a1 L.length k1) (allR l one s).1 := by rw [← HI.out.1]; exact HI.out.2.2.2.1
    refine RowW.base (base := w2.heap.size) ?_ (by have := HZ.out; omega)
    exact (hR.fr FD (fun g hg => by obtain ⟨cur, hcur⟩ := hR.blkOf hg; exact hcell _ _ _ hcur) (fun cs t h => HST.out _ _ _ _ _ FD (fun k hk => .inr (.inl (by rw [List.mem_singleton.1 hk]; exact ⟨_, hK, rfl⟩))) h))
end Go.Fur
