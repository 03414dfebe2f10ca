/- Regions that draw their order: one walk in a fixed order serves for all, where what only reads is not disturbed by what writes. No program is named here. -/
import Derived.OrdersHeld
import Derived.Tactics
import Derived.WalkKit
namespace Go.Fur
open Go

section
variable {P : Program} {ops : Array Oper} {Q : Exit → Act → World → Prop} {md : Region.Mode} {S : World → Prop} {dep : Array Nat} {skip : List Nat}

/-- Whatever has come up, all that it waits for has come up. -/
def closedB (md : Region.Mode) (ops : Array Oper) (listed : Array Bool) : Bool :=
  (List.range ops.size).all fun j => !listed.getD j false || match ops[j]? with
    | some o => o.after.all fun e => !Region.binds md e || listed.getD e.on false
    | none => true
/-- dep tells, of each operation, some that it waits for, by bits. -/
def depB (md : Region.Mode) (ops : Array Oper) (dep : Array Nat) : Bool :=
  (List.range ops.size).all fun j => (List.range ops.size).all fun i => !(dep.getD j 0).testBit i || match ops[j]? with
    | some o => o.after.any fun e => Region.binds md e && decide (e.on < j) && (e.on == i || (dep.getD e.on 0).testBit i)
    | none => false
def Closed (md : Region.Mode) (ops : Array Oper) (listed : Array Bool) : Prop :=
  ∀ j o, ops[j]? = some o → listed.getD j false = true → ∀ e ∈ o.after, Region.binds md e = true → listed.getD e.on false = true
theorem closed_of {listed : Array Bool} (h : closedB md ops listed = true) : Closed md ops listed := fun j o ho hl e he hb => by
  have h1 := List.all_eq_true.1 h j (List.mem_range.2 (Array.getElem?_eq_some_iff.1 ho).1)
  simp only [hl, Bool.not_true, Bool.false_or, ho] at h1
  have h2 := Array.all_eq_true_iff_forall_mem.1 h1 e he
  simpa [hb] using h2
theorem Closed.add {listed : Array Bool} (h : Closed md ops listed) {i : Nat} (hr : i ∈ Region.ready md ops listed) : Closed md ops (listed.setIfInBounds i true) := fun j o ho hl e he hb => by
  by_cases hij : i = j
  · subst hij
    obtain ⟨_, o', ho', hall⟩ := mem_ready.1 hr
    have : o' = o := Option.some.inj (ho'.symm.trans ho)
    subst this
    exact getD_set_true (hall e he hb)
  · rw [getD_set_ne false hij] at hl
    exact getD_set_true (h j o ho hl e he hb)
theorem dep_listed (hd : depB md ops dep = true) {listed : Array Bool} (hc : Closed md ops listed) : ∀ (j : Nat) (o : Oper), ops[j]? = some o → (∀ e ∈ o.after, Region.binds md e = true → listed.getD e.on false = true) →
    ∀ i, i < ops.size → (dep.getD j 0).testBit i = true → listed.getD i false = true := by
  intro j
  induction j using Nat.strongRecOn with
  | _ j ih =>
    intro o ho hall i hi hb
    have hj := (Array.getElem?_eq_some_iff.1 ho).1
    have h1 := List.all_eq_true.1 (List.all_eq_true.1 hd j (List.mem_range.2 hj)) i (List.mem_range.2 hi)
    simp only [hb, Bool.not_true, Bool.false_or, ho] at h1
    obtain ⟨e, he, h2⟩ := Array.any_eq_true'.1 h1
    simp only [Bool.and_eq_true, decide_eq_true_eq, Bool.or_eq_true, beq_iff_eq] at h2
    obtain ⟨⟨hbe, hlt⟩, h3⟩ := h2
    have hl := hall e he hbe
    rcases h3 with rfl | h3
    · exact hl
    · obtain ⟨oe, hoe⟩ : ∃ oe, ops[e.on]? = some oe := ⟨ops[e.on]'(by omega), Array.getElem?_eq_getElem (by omega)⟩
      exact ih e.on hlt oe hoe (hc e.on oe hoe hl) i hi h3

/-- Whatever order is picked from here on; behind each operation but those of 'skip' S stays. -/
def wpG (P : Program) (md : Region.Mode) (ops : Array Oper) (Q : Exit → Act → World → Prop) (S : World → Prop) (skip : List Nat) : Nat → Array Bool → Act → World → Prop
  | 0, listed, a, w => Region.ready md ops listed = [] ∧ Q .normal a w
  | fuel + 1, listed, a, w =>
    (Region.ready md ops listed = [] → Q .normal a w) ∧
    ∀ i ∈ Region.ready md ops listed, wpOp P ops Q i (fun a' w' => (i ∉ skip → S w → S w') ∧ wpG P md ops Q S skip fuel (listed.setIfInBounds i true) a' w') a w
theorem wpAny_of_G : ∀ (fuel : Nat) (listed : Array Bool) (a : Act) (w : World), wpG P md ops Q S skip fuel listed a w → wpAny P md ops Q fuel listed a w
  | 0, _, _, _, h => h
  | fuel + 1, _, _, _, h => ⟨h.1, fun i hi => wpOp_mono (fun a' w' h' => wpAny_of_G fuel _ a' w' h'.2) (h.2 i hi)⟩

/-- What yields its value in all worlds that meet T, and T is met as long as it has not come up, may be taken first. -/
theorem wpG_first {T : World → Prop} {i : Nat} {oi : Oper} {v : Value} (hi : ops[i]? = some oi) (hsel : ∀ (j : Nat) (o : Oper) cs b, ops[j]? = some o → o.op ≠ .select cs b)
    (hQ : ∀ c a w, Q (.panic c) (a.put oi.dst v) w → Q (.panic c) a w) (hd : depB md ops dep = true)
    (tt : Bool) (hT : (tt = true ∧ T = fun _ => True) ∨ (tt = false ∧ T = S)) :
    ∀ (fuel : Nat) (listed : Array Bool) (a : Act) (w : World), Closed md ops listed → (tt = false → ∀ j ∈ skip, j ≠ i → listed.getD j true = false → (dep.getD j 0).testBit i = true) →
      (∀ j oj, ops[j]? = some oj → j ≠ i → listed.getD j true = false → (∀ e ∈ oj.after, Region.binds md e = true → e.on ≠ i) → oi.apart ops oj = true) →
      i ∈ Region.ready md ops listed → YieldsIf P ops T oi v a → T w →
      wpG P md ops Q S skip fuel (listed.setIfInBounds i true) (a.put oi.dst v) w → wpG P md ops Q S skip (fuel + 1) listed a w := by
  have hilt : i < ops.size := (Array.getElem?_eq_some_iff.1 hi).1
  intro fuel
  induction fuel with
  | zero =>
    intro listed a w _ _ _ hr hy hTw H
    refine ⟨fun h => (by rw [h] at hr; cases hr), fun j hj => ?_⟩
    by_cases hji : j = i
    · subst hji
      exact hy.wpOp hi hTw ⟨fun _ h => h, H⟩
    · have := ready_mono hj hji
      rw [H.1] at this
      cases this
  | succ fuel ih =>
    intro listed a w hcl hsk hfree hr hy hTw H
    refine ⟨fun h => (by rw [h] at hr; cases hr), fun j hj => ?_⟩
    by_cases hji : j = i
    · subst hji
      exact hy.wpOp hi hTw ⟨fun _ h => h, H⟩
    · have h1 := H.2 j (ready_mono hj hji)
      obtain ⟨hjun, oj, hoj, hall⟩ := mem_ready.1 hj
      have hiun := (mem_ready.1 hr).1
      have hiun' : listed.getD i false = true → False := fun h => by
        rcases Nat.lt_or_ge i listed.size with h' | h'
        · simp [h'] at hiun h
          rw [hiun] at h
          cases h
        · simp [Array.getElem?_eq_none h'] at h
      have hnot : ∀ e ∈ oj.after, Region.binds md e = true → e.on ≠ i := fun e he hb heq => by
        have h1 := hall e he hb
        rw [heq] at h1
        exact hiun' h1
      have hns : (T = fun _ => True) ∨ (T = S ∧ j ∉ skip) := hT.imp (·.2) fun h => ⟨h.2, fun hs => hiun' (dep_listed hd hcl j oj hoj hall i hilt (hsk h.1 j hs hji hjun))⟩
      have h2 := wpOp_putIf hoj (hfree j oj hoj hji hjun hnot) (fun cs b => hsel i oi cs b hi) (fun cs b => hsel j oj cs b hoj) hQ hy h1
      have hfree' : ∀ k ok, ops[k]? = some ok → k ≠ i → (listed.setIfInBounds j true).getD k true = false →
          (∀ e ∈ ok.after, Region.binds md e = true → e.on ≠ i) → oi.apart ops ok = true := fun k ok hk hki hun hno => by
        refine hfree k ok hk hki ?_ hno
        by_cases hjk : j = k
        · subst hjk
          exact hjun
        · rw [getD_set_ne true hjk] at hun
          exact hun
      have hsk' : tt = false → ∀ k ∈ skip, k ≠ i → (listed.setIfInBounds j true).getD k true = false → (dep.getD k 0).testBit i = true := fun h k hk hki hun => by
        refine hsk h k hk hki ?_
        by_cases hjk : j = k
        · subst hjk
          exact hjun
        · rw [getD_set_ne true hjk] at hun
          exact hun
      refine wpOp_mono (fun a' w' h3 => ⟨h3.2.1, ih (listed.setIfInBounds j true) a' w' (hcl.add hj) hsk' hfree' (ready_mono hr (Ne.symm hji)) h3.1 ?_ ?_⟩) h2
      · rcases hns with h | ⟨h, hn⟩
        · rw [h]
          trivial
        · rw [h] at hTw ⊢
          exact h3.2.1 hn hTw
      · rw [Array.setIfInBounds_comm _ _ hji]
        exact h3.2.2

/-! ### A fixed order -/
/-- Is the order good? Those of 'eff' come up alone; all others may be taken first; those of 'rd' ahead of what they read is turned. -/
def ordB (md : Region.Mode) (ops : Array Oper) (dep : Array Nat) (skip eff rd : List Nat) : List Nat → Array Bool → Bool
  | [], listed => (Region.ready md ops listed).isEmpty
  | i :: r, listed =>
    (if eff.contains i then Region.ready md ops listed == [i]
     else Region.free md ops listed i && (Region.ready md ops listed).contains i && closedB md ops listed && (!rd.contains i || skip.all (fun j => j == i || listed.getD j true || (dep.getD j 0).testBit i))) &&
    ordB md ops dep skip eff rd r (listed.setIfInBounds i true)
/-- The walk in that order. -/
def wpO (P : Program) (ops : Array Oper) (Q : Exit → Act → World → Prop) (S : World → Prop) (skip eff rd : List Nat) : List (Nat × Oper) → Act → World → Prop
  | [], a, w => Q .normal a w
  | (i, o) :: r, a, w =>
    if eff.contains i then
      (if Region.wanted o (yielded ops a.tmps) then o.wp P a w (fun a' w' => (i ∉ skip → S w → S w') ∧ wpO P ops Q S skip eff rd r a' w') Q ∨ (o.asks P a w ∧ LetsOut Q) else wpO P ops Q S skip eff rd r (a.put o.dst undef) w)
    else ∃ v, ((rd.contains i = true ∧ YieldsIf P ops S o v a ∧ S w) ∨ YieldsIf P ops (fun _ => True) o v a) ∧ wpO P ops Q S skip eff rd r (a.put o.dst v) w
theorem wpG_of_O (hs : Region.noSelect ops = true) (hQ : ∀ c a d v w, Q (.panic c) (Act.put a d v) w → Q (.panic c) a w) (hd : depB md ops dep = true) {eff rd : List Nat} :
    ∀ (l : List (Nat × Oper)) (listed : Array Bool) (a : Act) (w : World), (∀ p ∈ l, ops[p.1]? = some p.2) → ordB md ops dep skip eff rd (l.map (·.1)) listed = true →
      wpO P ops Q S skip eff rd l a w → wpG P md ops Q S skip l.length listed a w
  | [], listed, a, w, _, hB, h => ⟨by simpa [ordB] using hB, h⟩
  | (i, o) :: r, listed, a, w, hl, hB, h => by
    have hi : ops[i]? = some o := hl (i, o) (by simp)
    simp only [List.map_cons, ordB, Bool.and_eq_true] at hB
    obtain ⟨hB1, hB2⟩ := hB
    have ih := fun a' w' h' => wpG_of_O hs hQ hd r (listed.setIfInBounds i true) a' w' (fun p hp => hl p (by simp [hp])) hB2 h'
    unfold wpO at h
    by_cases he : eff.contains i
    · rw [if_pos he] at h hB1
      have hr : Region.ready md ops listed = [i] := by simpa using hB1
      refine ⟨fun h0 => (by rw [hr] at h0; cases h0), fun j hj => ?_⟩
      rw [hr] at hj
      have hji : j = i := by simpa using hj
      subst hji
      unfold wpOp
      simp only [hi]
      by_cases hw : Region.wanted o (yielded ops a.tmps)
      · rw [if_pos hw] at h ⊢
        exact h.imp (Oper.wp_mono fun a' w' h' => ⟨h'.1, ih a' w' h'.2⟩) id
      · rw [if_neg hw] at h ⊢
        exact ⟨fun _ h => h, ih _ _ h⟩
    · rw [if_neg he] at h hB1
      simp only [Bool.and_eq_true] at hB1
      obtain ⟨⟨⟨hf, hr⟩, hc⟩, hsk⟩ := hB1
      obtain ⟨v, hy, h⟩ := h
      have hsk' : rd.contains i = true → ∀ j ∈ skip, j ≠ i → listed.getD j true = false → (dep.getD j 0).testBit i = true := fun hrd j hj hne hun => by
        rw [hrd, Bool.not_true, Bool.false_or] at hsk
        have := List.all_eq_true.1 hsk j hj
        simpa only [beq_iff_eq, hne, hun, Bool.or_false, Bool.false_or, beq_eq_false_iff_ne.2 hne] using this
      rcases hy with ⟨hrd, hy, hS⟩ | hy
      · exact wpG_first hi (Region.noSelect_spec hs) (fun c a w h => hQ c a _ _ w h) hd false (.inr ⟨rfl, rfl⟩) r.length listed a w (closed_of hc) (fun _ => hsk' hrd) (Region.free_spec hi hf) (by simpa using hr) hy hS (ih _ _ h)
      · exact wpG_first (T := fun _ => True) hi (Region.noSelect_spec hs) (fun c a w h => hQ c a _ _ w h) hd true (.inl ⟨rfl, rfl⟩) r.length listed a w (closed_of hc) (fun h => by cases h) (Region.free_spec hi hf) (by simpa using hr) hy trivial (ih _ _ h)

/-- Q, but a panic is never shown. -/
def NoP (Q : Exit → Act → World → Prop) : Exit → Act → World → Prop
  | .panic _, _, _ => False
  | e, a, w => Q e a w
theorem NoP.imp {Q : Exit → Act → World → Prop} : ∀ (e : Exit) (a : Act) (w : World), NoP Q e a w → Q e a w := fun e a w h => by
  cases e <;> first | exact h | exact (h : False).elim
/-- The operations in an order. -/
def pickN : List Oper → Nat → Oper
  | [], _ => default
  | o :: _, 0 => o
  | _ :: r, n + 1 => pickN r n
def pairs (l : List Oper) : List Nat → List (Nat × Oper)
  | [] => []
  | i :: r => (i, pickN l i) :: pairs l r
def regB (md : Region.Mode) (l : List Oper) (ord skip eff rd : List Nat) : Bool :=
  Region.noSelect l.toArray && depB md l.toArray (Region.before l.toArray) && (ord.length == l.length) && ord.all (fun i => decide (i < l.length)) && ordB md l.toArray (Region.before l.toArray) skip eff rd ord (Array.replicate l.length false)
theorem pickN_get : ∀ (l : List Oper) (i : Nat), i < l.length → l[i]? = some (pickN l i)
  | [], _, h => by simp at h
  | _ :: _, 0, _ => rfl
  | _ :: r, i + 1, h => by simpa [pickN] using pickN_get r i (by simpa using h)
theorem pairs_map (l : List Oper) : ∀ ord : List Nat, (pairs l ord).map (·.1) = ord
  | [] => rfl
  | i :: r => by simp [pairs, pairs_map l r]
theorem pairs_mem (l : List Oper) : ∀ (ord : List Nat) (p : Nat × Oper), p ∈ pairs l ord → p.1 ∈ ord ∧ p.2 = pickN l p.1
  | [], p, h => by cases h
  | i :: r, p, h => by
    simp only [pairs, List.mem_cons] at h
    rcases h with rfl | h
    · exact ⟨by simp, rfl⟩
    · obtain ⟨h1, h2⟩ := pairs_mem l r p h
      exact ⟨by simp [h1], h2⟩
theorem wp_region_ord {id : Nat} {a : Act} {w : World} {l : List Oper} (S : World → Prop) (ord skip eff rd : List Nat) (hm : P.follows .mixedOrders = true) (hB : regB .any l ord skip eff rd = true)
    (h : wpO P l.toArray (NoP Q) S skip eff rd (pairs l ord) a w.drew) : (Code.region id l.toArray true).wp P Q a w := by
  simp only [regB, Bool.and_eq_true, beq_iff_eq] at hB
  obtain ⟨⟨⟨⟨h1, h2⟩, h3⟩, h4⟩, h5⟩ := hB
  refine Code.wp_mono NoP.imp (wp_region_any hm (wpAny_of_G (S := S) (skip := skip) _ _ _ _ ?_))
  have hl : ∀ p ∈ pairs l ord, l.toArray[p.1]? = some p.2 := fun p hp => by
    obtain ⟨hp1, hp2⟩ := pairs_mem l ord p hp
    have := of_decide_eq_true (List.all_eq_true.1 h4 p.1 hp1)
    rw [hp2, List.getElem?_toArray]
    exact pickN_get l p.1 this
  have := wpG_of_O (Q := NoP Q) (S := S) (md := .any) h1 (fun c a d v w h => h) h2 (pairs l ord) (Array.replicate l.length false) a w.drew hl (by rw [pairs_map]; exact h5) h
  have e : (pairs l ord).length = l.toArray.size := by
    have := congrArg List.length (pairs_map l ord)
    simp only [List.length_map] at this
    simp [this, h3]
  rw [e] at this
  simpa using this

/-! ### Its steps -/
variable {eff rd : List Nat} {i : Nat} {o : Oper} {r : List (Nat × Oper)} {a : Act} {w : World}
theorem wpO_nil (h : Q .normal a w) : wpO P ops (NoP Q) S skip eff rd [] a w := h
theorem wpO_take (v : Value) (hS : S w) (he : (!eff.contains i && rd.contains i) = true) (hw : Region.wanted o (yielded ops a.tmps) = true) (hy : ∀ w', S w' → (execOp a.eval o).run P w' = .ok (.value v) w')
    (h : wpO P ops Q S skip eff rd r (a.put o.dst v) w) : wpO P ops Q S skip eff rd ((i, o) :: r) a w := by
  unfold wpO
  simp only [Bool.and_eq_true, Bool.not_eq_true'] at he
  rw [if_neg (by rw [he.1]; simp)]
  exact ⟨v, .inl ⟨he.2, .inl ⟨hw, hy⟩, hS⟩, h⟩
theorem wpO_free (v : Value) (he : eff.contains i = false) (hw : Region.wanted o (yielded ops a.tmps) = true) (hy : ∀ w', (execOp a.eval o).run P w' = .ok (.value v) w')
    (h : wpO P ops Q S skip eff rd r (a.put o.dst v) w) : wpO P ops Q S skip eff rd ((i, o) :: r) a w := by
  unfold wpO
  rw [if_neg (by simpa using he)]
  exact ⟨v, .inr (.inl ⟨hw, fun w' _ => hy w'⟩), h⟩
theorem wpO_pass (hw : Region.wanted o (yielded ops a.tmps) = false) (h : wpO P ops Q S skip eff rd r (a.put o.dst undef) w) : wpO P ops Q S skip eff rd ((i, o) :: r) a w := by
  unfold wpO
  split
  · rw [if_neg (by simp [hw])]
    exact h
  · exact ⟨undef, .inr (.inr ⟨hw, rfl⟩), h⟩
theorem wpO_takeY (v : Value) (hS : S w) (he : (!eff.contains i && rd.contains i) = true) (hy : YieldsIf P ops S o v a)
    (h : wpO P ops Q S skip eff rd r (a.put o.dst v) w) : wpO P ops Q S skip eff rd ((i, o) :: r) a w := by
  unfold wpO
  simp only [Bool.and_eq_true, Bool.not_eq_true'] at he
  rw [if_neg (by rw [he.1]; simp)]
  exact ⟨v, .inl ⟨he.2, hy, hS⟩, h⟩
/-- A build that was run ahead. -/
theorem wpO_build (v : Value) (he : eff.contains i = false) (t : TypeId) (ps : List (Nat × Operand)) (ho : o.op = .build t ps.toArray) (hg : o.guard = none) (parts : List (Nat × Value)) (hp : (ps.map fun p => (p.1, a.eval p.2)) = parts)
    (hr : ∀ w, (Instr.build t parts.toArray).run P w = .ok v w) (h : wpO P ops Q S skip eff rd r (a.put o.dst v) w) : wpO P ops Q S skip eff rd ((i, o) :: r) a w :=
  wpO_free v he (by simp [Region.wanted, hg]) (fun w' => by
    unfold execOp
    simp only [ho, List.map_toArray, hp, Sem.run_bind, hr, Result.andThen_ok, Sem.run_pure]) h
/-- Behind what writes. -/
def EffQ (P : Program) (ops : Array Oper) (Q : Exit → Act → World → Prop) (S : World → Prop) (skip eff rd : List Nat) (r : List (Nat × Oper)) (i : Nat) (w : World) : Exit → Act → World → Prop
  | .normal, a', w' => (i ∉ skip → S w → S w') ∧ wpO P ops (NoP Q) S skip eff rd r a' w'
  | e, a', w' => NoP Q e a' w'
theorem effQ_keep {a' : Act} {w' : World} (hS : S w') (h : wpO P ops (NoP Q) S skip eff rd r a' w') : wpList P ops (EffQ P ops Q S skip eff rd r i w) [] a' w' := ⟨fun _ _ => hS, h⟩
theorem effQ_skip {a' : Act} {w' : World} (hi : i ∈ skip) (h : wpO P ops (NoP Q) S skip eff rd r a' w') : wpList P ops (EffQ P ops Q S skip eff rd r i w) [] a' w' := ⟨fun hn _ => absurd hi hn, h⟩
/-- What writes: as an operation of a plain region. -/
theorem wpO_eff (he : eff.contains i = true) (h : wpList P ops (EffQ P ops Q S skip eff rd r i w) [o] a w) : wpO P ops (NoP Q) S skip eff rd ((i, o) :: r) a w := by
  unfold wpO
  rw [if_pos he]
  unfold wpList at h
  split
  · rename_i hw
    rw [if_pos hw] at h
    refine h.imp (fun h => ?_) id
    unfold Oper.wp at h ⊢
    generalize (execOp a.eval o).run P w = z at *
    cases z with
    | ok n w' =>
      cases n <;> simp only [Oper.upon] at h ⊢ <;>
        first
          | exact h
          | exact Calls.mono h (fun e w'' he => by cases e <;> exact he)
          | exact Rows.mono h (fun _ _ he => he)
    | halt x w' => cases x <;> simp only [Oper.upon] at h ⊢ <;> exact h
  · rename_i hw
    rw [if_neg hw] at h
    exact h.2
end
end Go.Fur
