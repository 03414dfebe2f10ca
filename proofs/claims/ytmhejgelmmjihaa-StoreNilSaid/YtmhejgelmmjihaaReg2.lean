/- Regions that draw their order, where two that write stand side by side: the walk by a tree. No program is named here. -/
import Derived.Test.YtmhejgelmmjihaaReg
namespace Go.Fur
open Go
section
variable {P : Program} {ops : Array Oper} {Q : Exit → Act → World → Prop} {md : Region.Mode} {S : World → Prop} {dep : Array Nat} {skip eff rd : List Nat}
/-- An order; 'two': either of two that write comes next. -/
inductive OT where
  | done : OT
  | one : Nat → OT → OT
  | two : Nat → OT → Nat → OT → OT
def OT.len : OT → Nat
  | .done => 0
  | .one _ t => t.len + 1
  | .two _ t _ _ => t.len + 1
def OT.ok (l : List Oper) : OT → Bool
  | .done => true
  | .one i t => decide (i < l.length) && t.ok l
  | .two i t j u => decide (i < l.length) && decide (j < l.length) && t.ok l && u.ok l
/-- The tree with a list in front. -/
def seqT (l : List Nat) (t : OT) : OT := l.foldr OT.one t
def ordT (md : Region.Mode) (ops : Array Oper) (dep : Array Nat) (skip eff rd : List Nat) : OT → Array Bool → Bool
  | .done, listed => (Region.ready md ops listed).isEmpty
  | .one i r, listed =>
    (if eff.contains i then Region.ready md ops listed == [i]
     else Region.free md ops listed i && (Region.ready md ops listed).contains i && closedB md ops listed && (!rd.contains i || skip.all (fun j => j == i || listed.getD j true || (dep.getD j 0).testBit i))) &&
    ordT md ops dep skip eff rd r (listed.setIfInBounds i true)
  | .two i t j u, listed =>
    Region.ready md ops listed == [i, j] && t.len == u.len && ordT md ops dep skip eff rd t (listed.setIfInBounds i true) && ordT md ops dep skip eff rd u (listed.setIfInBounds j true)
/-- What an operation that writes does. -/
def effP (P : Program) (ops : Array Oper) (Q : Exit → Act → World → Prop) (S : World → Prop) (skip : List Nat) (i : Nat) (o : Oper) (R : Act → World → Prop) (a : Act) (w : World) : Prop :=
  if Region.wanted o (yielded ops a.tmps) then o.wp P a w (fun a' w' => (i ∉ skip → S w → S w') ∧ R a' w') Q ∨ (o.asks P a w ∧ LetsOut Q) else R (a.put o.dst undef) w
def wpT (P : Program) (l : List Oper) (Q : Exit → Act → World → Prop) (S : World → Prop) (skip eff rd : List Nat) : OT → Act → World → Prop
  | .done, a, w => Q .normal a w
  | .one i r, a, w =>
    if eff.contains i then effP P l.toArray Q S skip i (pickN l i) (wpT P l Q S skip eff rd r) a w
    else ∃ v, ((rd.contains i = true ∧ YieldsIf P l.toArray S (pickN l i) v a ∧ S w) ∨ YieldsIf P l.toArray (fun _ => True) (pickN l i) v a) ∧ wpT P l Q S skip eff rd r (a.put (pickN l i).dst v) w
  | .two i t j u, a, w => effP P l.toArray Q S skip i (pickN l i) (wpT P l Q S skip eff rd t) a w ∧ effP P l.toArray Q S skip j (pickN l j) (wpT P l Q S skip eff rd u) a w
theorem wpOp_of_effP {i : Nat} {o : Oper} (hi : ops[i]? = some o) {R : Act → World → Prop} {a : Act} {w : World} (h : effP P ops Q S skip i o R a w) :
    wpOp P ops Q i (fun a' w' => (i ∉ skip → S w → S w') ∧ R a' w') a w := by
  unfold effP at h
  unfold wpOp
  simp only [hi]
  by_cases hw : Region.wanted o (yielded ops a.tmps)
  · rw [if_pos hw] at h ⊢
    exact h
  · rw [if_neg hw] at h ⊢
    exact ⟨fun _ h => h, h⟩
theorem wpG_of_T {l : List Oper} (hs : Region.noSelect l.toArray = true) (hQ : ∀ c a d v w, Q (.panic c) (Act.put a d v) w → Q (.panic c) a w) (hd : depB md l.toArray dep = true) :
    ∀ (t : OT) (listed : Array Bool) (a : Act) (w : World), t.ok l = true → ordT md l.toArray dep skip eff rd t listed = true →
      wpT P l Q S skip eff rd t a w → wpG P md l.toArray Q S skip t.len listed a w
  | .done, listed, a, w, _, hB, h => ⟨by simpa [ordT] using hB, h⟩
  | .one i r, listed, a, w, hk, hB, h => by
    simp only [OT.ok, Bool.and_eq_true, decide_eq_true_eq] at hk
    have hi : l.toArray[i]? = some (pickN l i) := by rw [List.getElem?_toArray]; exact pickN_get l i hk.1
    simp only [ordT, Bool.and_eq_true] at hB
    obtain ⟨hB1, hB2⟩ := hB
    have ih := fun a' w' h' => wpG_of_T hs hQ hd r (listed.setIfInBounds i true) a' w' hk.2 hB2 h'
    unfold wpT at h
    by_cases he : eff.contains i
    · rw [if_pos he] at h hB1
      have hr : Region.ready md l.toArray listed = [i] := by simpa using hB1
      refine ⟨fun h0 => (by rw [hr] at h0; cases h0), fun j hj => ?_⟩
      rw [hr] at hj
      have hji : j = i := by simpa using hj
      subst hji
      exact wpOp_mono (fun a' w' h' => ⟨h'.1, ih a' w' h'.2⟩) (wpOp_of_effP hi h)
    · rw [if_neg he] at h hB1
      simp only [Bool.and_eq_true] at hB1
      obtain ⟨⟨⟨hf, hr⟩, hc⟩, hsk⟩ := hB1
      obtain ⟨v, hy, h⟩ := h
      have hsk' : rd.contains i = true → ∀ j ∈ skip, j ≠ i → listed.getD j true = false → (dep.getD j 0).testBit i = true := fun hrd j hj hne hun => by
        rw [hrd, Bool.not_true, Bool.false_or] at hsk
        have := List.all_eq_true.1 hsk j hj
        simpa only [beq_iff_eq, hne, hun, Bool.or_false, Bool.false_or, beq_eq_false_iff_ne.2 hne] using this
      rcases hy with ⟨hrd, hy, hS⟩ | hy
      · exact wpG_first hi (Region.noSelect_spec hs) (fun c a w h => hQ c a _ _ w h) hd false (.inr ⟨rfl, rfl⟩) r.len listed a w (closed_of hc) (fun _ => hsk' hrd) (Region.free_spec hi hf) (by simpa using hr) hy hS (ih _ _ h)
      · exact wpG_first (T := fun _ => True) hi (Region.noSelect_spec hs) (fun c a w h => hQ c a _ _ w h) hd true (.inl ⟨rfl, rfl⟩) r.len listed a w (closed_of hc) (fun h => by cases h) (Region.free_spec hi hf) (by simpa using hr) hy trivial (ih _ _ h)
  | .two i t j u, listed, a, w, hk, hB, h => by
    simp only [OT.ok, Bool.and_eq_true, decide_eq_true_eq] at hk
    obtain ⟨⟨⟨hki, hkj⟩, hkt⟩, hku⟩ := hk
    have hi : l.toArray[i]? = some (pickN l i) := by rw [List.getElem?_toArray]; exact pickN_get l i hki
    have hj : l.toArray[j]? = some (pickN l j) := by rw [List.getElem?_toArray]; exact pickN_get l j hkj
    simp only [ordT, Bool.and_eq_true, beq_iff_eq] at hB
    obtain ⟨⟨⟨hr, hl⟩, hBt⟩, hBu⟩ := hB
    have iht := fun a' w' h' => wpG_of_T hs hQ hd t (listed.setIfInBounds i true) a' w' hkt hBt h'
    have ihu := fun a' w' h' => wpG_of_T hs hQ hd u (listed.setIfInBounds j true) a' w' hku hBu h'
    unfold wpT at h
    refine ⟨fun h0 => (by rw [hr] at h0; cases h0), fun k hkk => ?_⟩
    rw [hr] at hkk
    simp only [List.mem_cons, List.not_mem_nil, or_false] at hkk
    rcases hkk with rfl | rfl
    · exact wpOp_mono (fun a' w' h' => ⟨h'.1, iht a' w' h'.2⟩) (wpOp_of_effP hi h.1)
    · refine wpOp_mono (fun a' w' h' => ⟨h'.1, ?_⟩) (wpOp_of_effP hj h.2)
      have := ihu a' w' h'.2
      rwa [← hl] at this
def regT (md : Region.Mode) (l : List Oper) (t : OT) (skip eff rd : List Nat) : Bool :=
  Region.noSelect l.toArray && depB md l.toArray (Region.before l.toArray) && (t.len == l.length) && t.ok l && ordT md l.toArray (Region.before l.toArray) skip eff rd t (Array.replicate l.length false)
theorem wp_region_tree {id : Nat} {a : Act} {w : World} {l : List Oper} (S : World → Prop) (t : OT) (skip eff rd : List Nat) (hm : P.follows .mixedOrders = true) (hB : regT .any l t skip eff rd = true)
    (h : wpT P l (NoP Q) S skip eff rd t a w.drew) : (Code.region id l.toArray true).wp P Q a w := by
  simp only [regT, Bool.and_eq_true, beq_iff_eq] at hB
  obtain ⟨⟨⟨⟨h1, h2⟩, h3⟩, h4⟩, h5⟩ := hB
  refine Code.wp_mono NoP.imp (wp_region_any hm (wpAny_of_G (S := S) (skip := skip) _ _ _ _ ?_))
  have := wpG_of_T (Q := NoP Q) (S := S) (md := .any) h1 (fun c a d v w h => h) h2 t (Array.replicate l.length false) a w.drew h4 h5 h
  rw [h3] at this
  simpa using this

/-- Whatever the order was, R stands behind it; and so goes the rest. -/
theorem wp_region_join {id : Nat} {a : Act} {w : World} {l : List Oper} (S : World → Prop) (t : OT) (skip eff rd : List Nat) (R : Act → Act → World → Prop) (hm : P.follows .mixedOrders = true) (hB : regT .any l t skip eff rd = true)
    (h : wpT P l (NoP (fun e a' w' => e = .normal ∧ R a a' w')) S skip eff rd t a w.drew) (h2 : ∀ a' w', R a a' w' → Q .normal a' w') : (Code.region id l.toArray true).wp P Q a w :=
  Code.wp_mono (fun e a' w' h => by obtain ⟨rfl, h⟩ := h; exact h2 a' w' h) (wp_region_tree S t skip eff rd hm hB h)

/-- The same for a piece of code that ends normally. -/
theorem wp_seq_join {c d : Code} {a : Act} {w : World} (R : Act → Act → World → Prop) (h : c.wp P (fun e a' w' => e = .normal ∧ R a a' w') a w) (h2 : ∀ a' w', R a a' w' → d.wp P Q a' w') : (c.seq d).wp P Q a w := by
  exact wp_seq (Code.wp_mono (Q := fun e a' w' => e = .normal ∧ R a a' w') (fun e a' w' h => by obtain ⟨rfl, h⟩ := h; exact h2 a' w' h) h)

/-! ### Its steps -/
variable {l : List Oper} {i : Nat} {r : OT} {a : Act} {w : World}
theorem wpT_done (h : Q .normal a w) : wpT P l (NoP Q) S skip eff rd .done a w := h
theorem wpT_take (v : Value) (hS : S w) (he : (!eff.contains i && rd.contains i) = true) (hw : Region.wanted (pickN l i) (yielded l.toArray a.tmps) = true) (hy : ∀ w', S w' → (execOp a.eval (pickN l i)).run P w' = .ok (.value v) w')
    (h : wpT P l Q S skip eff rd r (a.put (pickN l i).dst v) w) : wpT P l Q S skip eff rd (.one i r) a w := by
  unfold wpT
  simp only [Bool.and_eq_true, Bool.not_eq_true'] at he
  rw [if_neg (by rw [he.1]; simp)]
  exact ⟨v, .inl ⟨he.2, .inl ⟨hw, hy⟩, hS⟩, h⟩
theorem wpT_free (v : Value) (he : eff.contains i = false) (hw : Region.wanted (pickN l i) (yielded l.toArray a.tmps) = true) (hy : ∀ w', (execOp a.eval (pickN l i)).run P w' = .ok (.value v) w')
    (h : wpT P l Q S skip eff rd r (a.put (pickN l i).dst v) w) : wpT P l Q S skip eff rd (.one i r) a w := by
  unfold wpT
  rw [if_neg (by simpa using he)]
  exact ⟨v, .inr (.inl ⟨hw, fun w' _ => hy w'⟩), h⟩
theorem wpT_pass (hw : Region.wanted (pickN l i) (yielded l.toArray a.tmps) = false) (h : wpT P l Q S skip eff rd r (a.put (pickN l i).dst undef) w) : wpT P l Q S skip eff rd (.one i r) a w := by
  unfold wpT
  split
  · unfold effP
    rw [if_neg (by simp [hw])]
    exact h
  · exact ⟨undef, .inr (.inr ⟨hw, rfl⟩), h⟩
/-- Behind what writes. -/
def EffT (P : Program) (l : List Oper) (Q : Exit → Act → World → Prop) (S : World → Prop) (skip eff rd : List Nat) (r : OT) (i : Nat) (w : World) : Exit → Act → World → Prop
  | .normal, a', w' => (i ∉ skip → S w → S w') ∧ wpT P l (NoP Q) S skip eff rd r a' w'
  | e, a', w' => NoP Q e a' w'
theorem effT_keep {a' : Act} {w' : World} (hS : S w') (h : wpT P l (NoP Q) S skip eff rd r a' w') : wpList P l.toArray (EffT P l Q S skip eff rd r i w) [] a' w' := ⟨fun _ _ => hS, h⟩
theorem effT_skip {a' : Act} {w' : World} (hi : i ∈ skip) (h : wpT P l (NoP Q) S skip eff rd r a' w') : wpList P l.toArray (EffT P l Q S skip eff rd r i w) [] a' w' := ⟨fun hn _ => absurd hi hn, h⟩
theorem effP_of_list {o : Oper} (h : wpList P l.toArray (EffT P l Q S skip eff rd r i w) [o] a w) : effP P l.toArray (NoP Q) S skip i o (wpT P l (NoP Q) S skip eff rd r) a w := by
  unfold effP
  unfold wpList at h
  split
  · rename_i hw
    rw [if_pos hw] at h
    refine h.imp (fun h => ?_) id
    unfold Oper.wp at h ⊢
    generalize (execOp a.eval o).run P w = z at *
    cases z with
    | ok n w' =>
      cases n <;> simp only [Oper.upon] at h ⊢ <;>
        first
          | exact h
          | exact Calls.mono h (fun e w'' he => by cases e <;> exact he)
          | exact Rows.mono h (fun _ _ he => he)
    | halt x w' => cases x <;> simp only [Oper.upon] at h ⊢ <;> exact h
  · rename_i hw
    rw [if_neg hw] at h
    exact h.2
theorem wpT_eff (he : eff.contains i = true) (h : wpList P l.toArray (EffT P l Q S skip eff rd r i w) [pickN l i] a w) : wpT P l (NoP Q) S skip eff rd (.one i r) a w := by
  unfold wpT
  rw [if_pos he]
  exact effP_of_list h
theorem wpT_two {j : Nat} {u : OT} (h1 : wpList P l.toArray (EffT P l Q S skip eff rd r i w) [pickN l i] a w) (h2 : wpList P l.toArray (EffT P l Q S skip eff rd u j w) [pickN l j] a w) : wpT P l (NoP Q) S skip eff rd (.two i r j u) a w := by
  unfold wpT
  exact ⟨effP_of_list h1, effP_of_list h2⟩
end
end Go.Fur
