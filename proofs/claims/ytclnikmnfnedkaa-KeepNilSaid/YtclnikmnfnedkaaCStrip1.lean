/- More laws of the walk: variables of a struct, empty slices, loads and results that are rows; what is read and lies apart from some blocks. No program is named here. -/
import Derived.Test.YtclnikmnfnedkaaCArr
import Derived.Laws.Rows
import Derived.Laws.NewBlocks
import Derived.OrdersHeld
import Derived.Tactics
import Derived.WalkKit
import Derived.Test.YtclnikmnfnedkaaChecked
namespace Go.Fur
open Go Go.RowKit
section
variable {P : Program}
theorem wpList_boxB {ops : Array Oper} {rest : List Oper} {o : Oper} {a : Act} {w : World} {Q : Exit → Act → World → Prop} (hgd : o.guard = none) (t : TypeId) (x : Operand) (ho : o.op = .box t x)
    (cs : List Value) (hx : (a.eval x).cells = cs.toArray)
    (h : ∀ w1 : World, Blk w1 w.heap.size t cs → Fr [] w w1 → w1.heap.size = w.heap.size + 1 → wpList P ops Q rest (a.put o.dst (.pointer (some ⟨w.heap.size, 0, none⟩))) w1) : wpList P ops Q (o :: rest) a w :=
  wpList_plain hgd fun K hK => by
    unfold Oper.wp execOp
    simp only [ho, Sem.run_bind, Instr.box, newVar, newRow, run_newObj_alloc, Sem.run_pure, Result.andThen_ok, hx]
    exact hK _ _ (h _ (Blk.new w t cs) ((Fr.refl [] w).alloc _) (by simp))
theorem Own.empty0 (w : World) (e : TypeId) (size : Nat) : Own (w.alloc (.cells #[] e)) w.heap.size e size (.slice (some ⟨w.heap.size, 0, none⟩) 0 0) 0 [] := by
  have := Own.of_blk (base := w.heap.size) (size := size) (n := 0) (cap := 0) (Nat.le_refl _) (Blk.new w e []) (Nat.le_refl _) (Nat.zero_le _) (by simp)
  simpa using this
theorem wpList_build0 {ops : Array Oper} {rest : List Oper} {o : Oper} {a : Act} {w : World} {Q : Exit → Act → World → Prop} (hgd : o.guard = none) (t e : TypeId) (size : Nat) (ho : o.op = .buildSlice t 0 #[])
    (hr : ∀ W : World, (Instr.buildSlice t 0 #[]).run P W = .ok (.slice (some ⟨W.heap.size, 0, none⟩) 0 0) (W.alloc (.cells #[] e)))
    (h : ∀ w1 : World, Own w1 w.heap.size e size (.slice (some ⟨w.heap.size, 0, none⟩) 0 0) 0 [] → Fr [] w w1 → w1.heap.size = w.heap.size + 1 → wpList P ops Q rest (a.put o.dst (.slice (some ⟨w.heap.size, 0, none⟩) 0 0)) w1) : wpList P ops Q (o :: rest) a w :=
  wpList_plain hgd fun K hK => by
    unfold Oper.wp execOp
    simp only [ho, List.map_toArray, List.map_nil, Sem.run_bind, hr, Result.andThen_ok, Sem.run_pure]
    exact hK _ _ (h _ (Own.empty0 w e size) ((Fr.refl [] w).alloc _) (by simp))
theorem wpList_loadB {ops : Array Oper} {rest : List Oper} {o : Oper} {a : Act} {w : World} {Q : Exit → Act → World → Prop} (hgd : o.guard = none) (ty : TypeId) (x : Operand) (ho : o.op = .load ty x)
    (g : Nat) (hx : a.eval x = .pointer (some ⟨g, 0, none⟩)) (t : TypeId) (cs : List Value) (d : TypeDesc) (hg : Blk w g t cs)
    (hu : P.underlying ty = some d) (hd : (match d with | .struct _ | .array _ _ => true | _ => false) = true) (hi : (P.info? ty).map (·.size) = some cs.length)
    (h : wpList P ops Q rest (a.put o.dst (.agg cs.toArray)) w) : wpList P ops Q (o :: rest) a w :=
  wpList_load_row hgd ty x ho g hx t cs.toArray (0, 0) d hg hu hd (by simpa using hi) h
theorem results_cellB {fn : Func} {p : Tmp} {ty : TypeId} (h : fn.results = #[.cell p ty]) (tmps : Array Value) (w : World) (g : Nat) (t : TypeId) (cs : List Value) (d : TypeDesc)
    (hp : tmps.getD p undef = .pointer (some ⟨g, 0, none⟩)) (hg : Blk w g t cs)
    (hu : P.underlying ty = some d) (hd : (match d with | .struct _ | .array _ _ => true | _ => false) = true) (hi : (P.info? ty).map (·.size) = some cs.length) :
    (results fn tmps).run P w = .ok (.agg cs.toArray) w :=
  results_cell_row h tmps w g t cs.toArray (0, 0) d hp hg hu hd (by simpa using hi)
theorem results_cellB_tmp {fn : Func} {p u : Tmp} {ty : TypeId} (h : fn.results = #[.cell p ty, .tmp u]) (tmps : Array Value) (w : World) (g : Nat) (t : TypeId) (cs : List Value) (d : TypeDesc)
    (hp : tmps.getD p undef = .pointer (some ⟨g, 0, none⟩)) (hg : Blk w g t cs)
    (hu : P.underlying ty = some d) (hd : (match d with | .struct _ | .array _ _ => true | _ => false) = true) (hi : (P.info? ty).map (·.size) = some cs.length) :
    (results fn tmps).run P w = .ok (.tuple #[.agg cs.toArray, tmps.getD u undef]) w := by
  have hp' : tmps[p]?.getD undef = .pointer (some ⟨g, 0, none⟩) := by simpa using hp
  simp [results, h, hp', asAddr, run_loadVar_row w g t ty cs.toArray (0, 0) d hg hu hd (by simpa using hi)]
end

theorem Own.cellAt {w : World} {base n : Nat} {e : TypeId} {v : Value} {cs : List Value} (h : Own w base e 1 v n cs) (i : Nat) (hi : i < n) :
    ∃ g cap cur x, v = .slice (some ⟨g, 0, none⟩) n cap ∧ base ≤ g ∧ Blk w g e cur ∧ i < cur.length ∧ cs[i]? = some x ∧ w.cell? ⟨g, i, none⟩ = some x ∧ (∀ (w1 : World) (y : Value), Blk w1 g e (cur.set i y) → Own w1 base e 1 v n (cs.set i y)) := by
  obtain ⟨g, cap, cur, rfl, hg, hb, hn, hm, hs, ht⟩ := h.blk (by omega)
  simp only [Nat.mul_one] at hs ht
  have hl : cs.length = n := by have := h.len; simpa using this
  obtain ⟨x, hx⟩ : ∃ x, cs[i]? = some x := ⟨cs[i]'(by omega), List.getElem?_eq_getElem (by omega)⟩
  have hc : cur[i]? = some x := by
    have h1 := hx
    rwa [← ht, List.getElem?_take, if_pos hi] at h1
  refine ⟨g, cap, cur, _, rfl, hg, hb, by omega, hx, hb.cellAt hc, fun w1 y hb1 => ?_⟩
  have := Own.of_blk (base := base) (size := 1) hg hb1 hn hm (by simpa using hs)
  rw [Nat.mul_one, List.take_set, ht] at this
  exact this
section
variable {P : Program}
/-- A call of a Go function by its contract. -/
theorem wpList_callC {ops : Array Oper} {rest : List Oper} {o : Oper} {a : Act} {w : World} {Q : Exit → Act → World → Prop} (hg : o.guard = none)
    (f : FuncId) (args : Array Value) (hrun : (execOp a.eval o).run P w = .ok (.enter f args) w) (R : Ending → World → Prop) (hc : Calls P f args w R)
    (h : ∀ e w', R e w' → ∃ v, e = .returned v ∧ wpList P ops Q rest (a.put o.dst v) w') : wpList P ops Q (o :: rest) a w := by
  refine wpList_plain hg fun K hK => ?_
  unfold Oper.wp
  rw [hrun, Oper.upon_enter]
  refine hc.mono fun e w'' hh => ?_
  obtain ⟨v, rfl, h1⟩ := h e w'' hh
  exact hK _ _ h1
end
theorem Own.blkOf {w : World} {b : Nat} {e : TypeId} {size n : Nat} {v : Value} {cs : List Value} (h : Own w b e size v n cs) {k : Nat} (hk : k ∈ ob v) : ∃ cur, Blk w k e cur := by
  rcases h.2 with ⟨rfl, _⟩ | ⟨g', cap, cur, rfl, hg, hh, r⟩
  · simp [ob, Value.ownBlock] at hk
  · have : k = g' := by simpa [ob, Value.ownBlock] using hk
    subst this
    exact ⟨cur.toList, by unfold Blk; simpa using hh⟩
/-! ### What is read, and lies apart from the blocks of X -/
def RdA (w : World) (X : Nat → Prop) (a : Option Addr) (cs : List Value) : Prop := cs ≠ [] → ∃ b o, a = some ⟨b, o, none⟩ ∧ ¬ X b ∧ b < w.heap.size ∧ w.rangeAt b o cs
theorem RdA.rd {w : World} {X : Nat → Prop} {a : Option Addr} {cs : List Value} (h : RdA w X a cs) : Rd w a cs := fun hn => by
  obtain ⟨b, o, ha, _, _, hr⟩ := h hn
  exact ⟨b, o, ha, hr⟩
theorem RdA.step {S : List Nat} {w w' : World} {X X' : Nat → Prop} {a : Option Addr} {cs : List Value} (h : RdA w X a cs) (f : Fr S w w') (hS : ∀ k ∈ S, X k ∨ w.heap.size ≤ k) (hX : ∀ k, X' k → X k ∨ w.heap.size ≤ k) : RdA w' X' a cs := fun hn => by
  obtain ⟨b, o, ha, hx, hlt, hr⟩ := h hn
  refine ⟨b, o, ha, fun h' => ?_, Nat.lt_of_lt_of_le hlt f.size, rangeAt_fr hr f (fun hm => ?_)⟩
  · rcases hX b h' with h1 | h1
    · exact hx h1
    · omega
  · rcases hS b hm with h1 | h1
    · exact hx h1
    · omega
theorem RdA.fr0 {w w' : World} {X : Nat → Prop} {a : Option Addr} {cs : List Value} (h : RdA w X a cs) (f : Fr [] w w') : RdA w' X a cs := h.step f (by simp) (fun _ h => .inl h)
theorem RdA.nil (w : World) (X : Nat → Prop) (a : Option Addr) : RdA w X a [] := fun h => absurd rfl h
theorem Own.rdA {w : World} {X : Nat → Prop} {base : Nat} {e : TypeId} {size n : Nat} {v : Value} {cs : List Value} (h : Own w base e size v n cs) (hX : ∀ k ∈ ob v, ¬ X k) : ∃ a c, v = .slice a n c ∧ n ≤ c ∧ c ≤ maxLen ∧ RdA w X a cs := by
  obtain ⟨a, c, hv, h1, h2, h3⟩ := h.form
  refine ⟨a, c, hv, h1, h2, fun hn => ?_⟩
  obtain ⟨b, o, ha, hr⟩ := h3 hn
  obtain ⟨v0, vs, rfl⟩ := List.exists_cons_of_ne_nil hn
  subst ha hv
  exact ⟨b, o, rfl, hX b (by simp), World.block_lt_of_cell? w _ (hr 0 v0 rfl), hr⟩
theorem Own.rdS {w : World} {X : Nat → Prop} {base : Nat} {e : TypeId} {size n c : Nat} {a : Option Addr} {cs : List Value} (h : Own w base e size (.slice a n c) n cs) (hX : ∀ k ∈ ob (.slice a n c), ¬ X k) : RdA w X a cs ∧ n ≤ c ∧ c ≤ maxLen := by
  obtain ⟨a', c', hv, h1, h2, h3⟩ := h.rdA hX
  simp only [Value.slice.injEq] at hv
  obtain ⟨rfl, _, rfl⟩ := hv
  exact ⟨h3, h1, h2⟩
theorem RdA.cellAt {w : World} {X : Nat → Prop} {a : Option Addr} {cs : List Value} (h : RdA w X a cs) {i : Nat} {v : Value} (hv : cs[i]? = some v) : ∃ b o, a = some ⟨b, o, none⟩ ∧ b < w.heap.size ∧ w.rangeAt b o cs ∧ w.cell? ⟨b, o + i, none⟩ = some v := by
  obtain ⟨b, o, ha, _, hlt, hr⟩ := h (fun h0 => by subst h0; simp at hv)
  exact ⟨b, o, ha, hlt, hr, hr i v hv⟩
/-- v is a slice of the bytes l. -/
def Bs (w : World) (X : Nat → Prop) (v : Value) (l : List Int) : Prop := ∃ a c, v = .slice a l.length c ∧ RdA w X a (bv l) ∧ l.length ≤ c ∧ c ≤ maxLen
theorem Bs.step {S : List Nat} {w w' : World} {X X' : Nat → Prop} {v : Value} {l : List Int} (h : Bs w X v l) (f : Fr S w w') (hS : ∀ k ∈ S, X k ∨ w.heap.size ≤ k) (hX : ∀ k, X' k → X k ∨ w.heap.size ≤ k) : Bs w' X' v l := by
  obtain ⟨a, c, hv, hr, h1⟩ := h
  exact ⟨a, c, hv, hr.step f hS hX, h1⟩
theorem Bs.nil (w : World) (X : Nat → Prop) : Bs w X (.slice none 0 0) [] := ⟨none, 0, rfl, RdA.nil _ _ _, Nat.le_refl _, Nat.zero_le _⟩
theorem Own.bs {w : World} {X : Nat → Prop} {base : Nat} {e : TypeId} {size n : Nat} {v : Value} {l : List Int} (h : Own w base e size v n (bv l)) (hn : l.length = n) (hX : ∀ k ∈ ob v, ¬ X k) : Bs w X v l := by
  subst hn
  obtain ⟨a, c, hv, h1, h2, h3⟩ := h.rdA hX
  exact ⟨a, c, hv, h3, h1, h2⟩
theorem Bs.one {w : World} {X : Nat → Prop} {v : Value} {l : List Int} (h : Bs w X v l) : v.oneCell' = true := by
  obtain ⟨a, c, rfl, _⟩ := h
  rfl
/-- The values vs are slices of the bytes ls, one for one. -/
def AllB (w : World) (X : Nat → Prop) (vs : List Value) (ls : List (List Int)) : Prop := vs.length = ls.length ∧ ∀ (i : Nat) v l, vs[i]? = some v → ls[i]? = some l → Bs w X v l
theorem AllB.step {S : List Nat} {w w' : World} {X X' : Nat → Prop} {vs : List Value} {ls : List (List Int)} (h : AllB w X vs ls) (f : Fr S w w') (hS : ∀ k ∈ S, X k ∨ w.heap.size ≤ k) (hX : ∀ k, X' k → X k ∨ w.heap.size ≤ k) : AllB w' X' vs ls :=
  ⟨h.1, fun i v l h1 h2 => (h.2 i v l h1 h2).step f hS hX⟩
theorem AllB.nil (w : World) (X : Nat → Prop) : AllB w X [] [] := ⟨rfl, by simp⟩
theorem AllB.set {w : World} {X : Nat → Prop} {vs : List Value} {ls : List (List Int)} (h : AllB w X vs ls) (i : Nat) {v : Value} {l : List Int} (hv : Bs w X v l) : AllB w X (vs.set i v) (ls.set i l) := by
  refine ⟨by simp [h.1], fun j u m h1 h2 => ?_⟩
  rw [List.getElem?_set] at h1 h2
  by_cases hij : i = j
  · subst hij
    rw [if_pos rfl] at h1 h2
    split at h1
    · split at h2
      · simp only [Option.some.injEq] at h1 h2
        rw [← h1, ← h2]
        exact hv
      · cases h2
    · cases h1
  · rw [if_neg hij] at h1 h2
    exact h.2 j u m h1 h2
theorem AllB.snoc {w : World} {X : Nat → Prop} {vs : List Value} {ls : List (List Int)} (h : AllB w X vs ls) {v : Value} {l : List Int} (hv : Bs w X v l) : AllB w X (vs ++ [v]) (ls ++ [l]) := by
  refine ⟨by simp [h.1], fun j u m h1 h2 => ?_⟩
  have hl := h.1
  rcases Nat.lt_or_ge j vs.length with hj | hj
  · rw [List.getElem?_append_left hj] at h1
    rw [List.getElem?_append_left (by omega)] at h2
    exact h.2 j u m h1 h2
  · rw [List.getElem?_append_right hj] at h1
    rw [List.getElem?_append_right (by omega), ← hl] at h2
    rcases hq : j - vs.length with _ | q
    · rw [hq] at h1 h2
      simp only [List.getElem?_cons_zero, Option.some.injEq] at h1 h2
      rw [← h1, ← h2]
      exact hv
    · rw [hq] at h1
      simp at h1
theorem AllB.get {w : World} {X : Nat → Prop} {vs : List Value} {ls : List (List Int)} (h : AllB w X vs ls) {i : Nat} {l : List Int} (hl : ls[i]? = some l) : ∃ v, vs[i]? = some v ∧ Bs w X v l := by
  have hlt : i < vs.length := by rw [h.1]; exact (List.getElem?_eq_some_iff.1 hl).1
  exact ⟨vs[i], List.getElem?_eq_getElem hlt, h.2 i _ l (List.getElem?_eq_getElem hlt) hl⟩
theorem AllB.one {w : World} {X : Nat → Prop} {vs : List Value} {ls : List (List Int)} (h : AllB w X vs ls) : ∀ v ∈ vs, v.oneCell' = true := fun v hv => by
  obtain ⟨i, hi⟩ := List.getElem?_of_mem hv
  have hlt : i < ls.length := by rw [← h.1]; exact (List.getElem?_eq_some_iff.1 hi).1
  exact (h.2 i v _ hi (List.getElem?_eq_getElem hlt)).one
end Go.Fur
namespace Go.Fur
open Go

section
variable {P : Program} {ops : Array Oper} {Q : Exit → Act → World → Prop} {md : Region.Mode} {S : World → Prop} {dep : Array Nat} {skip : List Nat}

/-- Whatever has come up, all that it waits for has come up. -/
def closedB (md : Region.Mode) (ops : Array Oper) (listed : Array Bool) : Bool :=
  (List.range ops.size).all fun j => !listed.getD j false || match ops[j]? with
    | some o => o.after.all fun e => !Region.binds md e || listed.getD e.on false
    | none => true
/-- dep tells, of each operation, some that it waits for, by bits. -/
def depB (md : Region.Mode) (ops : Array Oper) (dep : Array Nat) : Bool :=
  (List.range ops.size).all fun j => (List.range ops.size).all fun i => !(dep.getD j 0).testBit i || match ops[j]? with
    | some o => o.after.any fun e => Region.binds md e && decide (e.on < j) && (e.on == i || (dep.getD e.on 0).testBit i)
    | none => false
def Closed (md : Region.Mode) (ops : Array Oper) (listed : Array Bool) : Prop :=
  ∀ j o, ops[j]? = some o → listed.getD j false = true → ∀ e ∈ o.after, Region.binds md e = true → listed.getD e.on false = true
theorem closed_of {listed : Array Bool} (h : closedB md ops listed = true) : Closed md ops listed := fun j o ho hl e he hb => by
  have h1 := List.all_eq_true.1 h j (List.mem_range.2 (Array.getElem?_eq_some_iff.1 ho).1)
  simp only [hl, Bool.not_true, Bool.false_or, ho] at h1
  have h2 := Array.all_eq_true_iff_forall_mem.1 h1 e he
  simpa [hb] using h2
theorem Closed.add {listed : Array Bool} (h : Closed md ops listed) {i : Nat} (hr : i ∈ Region.ready md ops listed) : Closed md ops (listed.setIfInBounds i true) := fun j o ho hl e he hb => by
  by_cases hij : i = j
  · subst hij
    obtain ⟨_, o', ho', hall⟩ := mem_ready.1 hr
    have : o' = o := Option.some.inj (ho'.symm.trans ho)
    subst this
    exact getD_set_true (hall e he hb)
  · rw [getD_set_ne false hij] at hl
    exact getD_set_true (h j o ho hl e he hb)
theorem dep_listed (hd : depB md ops dep = true) {listed : Array Bool} (hc : Closed md ops listed) : ∀ (j : Nat) (o : Oper), ops[j]? = some o → (∀ e ∈ o.after, Region.binds md e = true → listed.getD e.on false = true) →
    ∀ i, i < ops.size → (dep.getD j 0).testBit i = true → listed.getD i false = true := by
  intro j
  induction j using Nat.strongRecOn with
  | _ j ih =>
    intro o ho hall i hi hb
    have hj := (Array.getElem?_eq_some_iff.1 ho).1
    have h1 := List.all_eq_true.1 (List.all_eq_true.1 hd j (List.mem_range.2 hj)) i (List.mem_range.2 hi)
    simp only [hb, Bool.not_true, Bool.false_or, ho] at h1
    obtain ⟨e, he, h2⟩ := Array.any_eq_true'.1 h1
    simp only [Bool.and_eq_true, decide_eq_true_eq, Bool.or_eq_true, beq_iff_eq] at h2
    obtain ⟨⟨hbe, hlt⟩, h3⟩ := h2
    have hl := hall e he hbe
    rcases h3 with rfl | h3
    · exact hl
    · obtain ⟨oe, hoe⟩ : ∃ oe, ops[e.on]? = some oe := ⟨ops[e.on]'(by omega), Array.getElem?_eq_getElem (by omega)⟩
      exact ih e.on hlt oe hoe (hc e.on oe hoe hl) i hi h3

/-- Whatever order is picked from here on; behind each operation but those of 'skip' S stays. -/
def wpG (P : Program) (md : Region.Mode) (ops : Array Oper) (Q : Exit → Act → World → Prop) (S : World → Prop) (skip : List Nat) : Nat → Array Bool → Act → World → Prop
  | 0, listed, a, w => Region.ready md ops listed = [] ∧ Q .normal a w
  | fuel + 1, listed, a, w =>
    (Region.ready md ops listed = [] → Q .normal a w) ∧
    ∀ i ∈ Region.ready md ops listed, wpOp P ops Q i (fun a' w' => (i ∉ skip → S w → S w') ∧ wpG P md ops Q S skip fuel (listed.setIfInBounds i true) a' w') a w
theorem wpAny_of_G : ∀ (fuel : Nat) (listed : Array Bool) (a : Act) (w : World), wpG P md ops Q S skip fuel listed a w → wpAny P md ops Q fuel listed a w
  | 0, _, _, _, h => h
  | fuel + 1, _, _, _, h => ⟨h.1, fun i hi => wpOp_mono (fun a' w' h' => wpAny_of_G fuel _ a' w' h'.2) (h.2 i hi)⟩

/-- What yields its value in all worlds that meet T, and T is met as long as it has not come up, may be taken first. -/
theorem wpG_first {T : World → Prop} {i : Nat} {oi : Oper} {v : Value} (hi : ops[i]? = some oi) (hsel : ∀ (j : Nat) (o : Oper) cs b, ops[j]? = some o → o.op ≠ .select cs b)
    (hQ : ∀ c a w, Q (.panic c) (a.put oi.dst v) w → Q (.panic c) a w) (hd : depB md ops dep = true)
    (tt : Bool) (hT : (tt = true ∧ T = fun _ => True) ∨ (tt = false ∧ T = S)) :
    ∀ (fuel : Nat) (listed : Array Bool) (a : Act) (w : World), Closed md ops listed → (tt = false → ∀ j ∈ skip, j ≠ i → listed.getD j true = false → (dep.getD j 0).testBit i = true) →
      (∀ j oj, ops[j]? = some oj → j ≠ i → listed.getD j true = false → (∀ e ∈ oj.after, Region.binds md e = true → e.on ≠ i) → oi.apart ops oj = true) →
      i ∈ Region.ready md ops listed → YieldsIf P ops T oi v a → T w →
      wpG P md ops Q S skip fuel (listed.setIfInBounds i true) (a.put oi.dst v) w → wpG P md ops Q S skip (fuel + 1) listed a w := by
  have hilt : i < ops.size := (Array.getElem?_eq_some_iff.1 hi).1
  intro fuel
  induction fuel with
  | zero =>
    intro listed a w _ _ _ hr hy hTw H
    refine ⟨fun h => (by rw [h] at hr; cases hr), fun j hj => ?_⟩
    by_cases hji : j = i
    · subst hji
      exact hy.wpOp hi hTw ⟨fun _ h => h, H⟩
    · have := ready_mono hj hji
      rw [H.1] at this
      cases this
  | succ fuel ih =>
    intro listed a w hcl hsk hfree hr hy hTw H
    refine ⟨fun h => (by rw [h] at hr; cases hr), fun j hj => ?_⟩
    by_cases hji : j = i
    · subst hji
      exact hy.wpOp hi hTw ⟨fun _ h => h, H⟩
    · have h1 := H.2 j (ready_mono hj hji)
      obtain ⟨hjun, oj, hoj, hall⟩ := mem_ready.1 hj
      have hiun := (mem_ready.1 hr).1
      have hiun' : listed.getD i false = true → False := fun h => by
        rcases Nat.lt_or_ge i listed.size with h' | h'
        · simp [h'] at hiun h
          rw [hiun] at h
          cases h
        · simp [Array.getElem?_eq_none h'] at h
      have hnot : ∀ e ∈ oj.after, Region.binds md e = true → e.on ≠ i := fun e he hb heq => by
        have h1 := hall e he hb
        rw [heq] at h1
        exact hiun' h1
      have hns : (T = fun _ => True) ∨ (T = S ∧ j ∉ skip) := hT.imp (·.2) fun h => ⟨h.2, fun hs => hiun' (dep_listed hd hcl j oj hoj hall i hilt (hsk h.1 j hs hji hjun))⟩
      have h2 := wpOp_putIf hoj (hfree j oj hoj hji hjun hnot) (fun cs b => hsel i oi cs b hi) (fun cs b => hsel j oj cs b hoj) hQ hy h1
      have hfree' : ∀ k ok, ops[k]? = some ok → k ≠ i → (listed.setIfInBounds j true).getD k true = false →
          (∀ e ∈ ok.after, Region.binds md e = true → e.on ≠ i) → oi.apart ops ok = true := fun k ok hk hki hun hno => by
        refine hfree k ok hk hki ?_ hno
        by_cases hjk : j = k
        · subst hjk
          exact hjun
        · rw [getD_set_ne true hjk] at hun
          exact hun
      have hsk' : tt = false → ∀ k ∈ skip, k ≠ i → (listed.setIfInBounds j true).getD k true = false → (dep.getD k 0).testBit i = true := fun h k hk hki hun => by
        refine hsk h k hk hki ?_
        by_cases hjk : j = k
        · subst hjk
          exact hjun
        · rw [getD_set_ne true hjk] at hun
          exact hun
      refine wpOp_mono (fun a' w' h3 => ⟨h3.2.1, ih (listed.setIfInBounds j true) a' w' (hcl.add hj) hsk' hfree' (ready_mono hr (Ne.symm hji)) h3.1 ?_ ?_⟩) h2
      · rcases hns with h | ⟨h, hn⟩
        · rw [h]
          trivial
        · rw [h] at hTw ⊢
          exact h3.2.1 hn hTw
      · rw [Array.setIfInBounds_comm _ _ hji]
        exact h3.2.2

/-! ### A fixed order -/
/-- Is the order good? Those of 'eff' come up alone; all others may be taken first; those of 'rd' ahead of what they read is turned. -/
def ordB (md : Region.Mode) (ops : Array Oper) (dep : Array Nat) (skip eff rd : List Nat) : List Nat → Array Bool → Bool
  | [], listed => (Region.ready md ops listed).isEmpty
  | i :: r, listed =>
    (if eff.contains i then Region.ready md ops listed == [i]
     else Region.free md ops listed i && (Region.ready md ops listed).contains i && closedB md ops listed && (!rd.contains i || skip.all (fun j => j == i || listed.getD j true || (dep.getD j 0).testBit i))) &&
    ordB md ops dep skip eff rd r (listed.setIfInBounds i true)
/-- The walk in that order. -/
def wpO (P : Program) (ops : Array Oper) (Q : Exit → Act → World → Prop) (S : World → Prop) (skip eff rd : List Nat) : List (Nat × Oper) → Act → World → Prop
  | [], a, w => Q .normal a w
  | (i, o) :: r, a, w =>
    if eff.contains i then
      (if Region.wanted o (yielded ops a.tmps) then o.wp P a w (fun a' w' => (i ∉ skip → S w → S w') ∧ wpO P ops Q S skip eff rd r a' w') Q ∨ (o.asks P a w ∧ LetsOut Q) else wpO P ops Q S skip eff rd r (a.put o.dst undef) w)
    else ∃ v, ((rd.contains i = true ∧ YieldsIf P ops S o v a ∧ S w) ∨ YieldsIf P ops (fun _ => True) o v a) ∧ wpO P ops Q S skip eff rd r (a.put o.dst v) w
theorem wpG_of_O (hs : Region.noSelect ops = true) (hQ : ∀ c a d v w, Q (.panic c) (Act.put a d v) w → Q (.panic c) a w) (hd : depB md ops dep = true) {eff rd : List Nat} :
    ∀ (l : List (Nat × Oper)) (listed : Array Bool) (a : Act) (w : World), (∀ p ∈ l, ops[p.1]? = some p.2) → ordB md ops dep skip eff rd (l.map (·.1)) listed = true →
      wpO P ops Q S skip eff rd l a w → wpG P md ops Q S skip l.length listed a w
  | [], listed, a, w, _, hB, h => ⟨by simpa [ordB] using hB, h⟩
  | (i, o) :: r, listed, a, w, hl, hB, h => by
    have hi : ops[i]? = some o := hl (i, o) (by simp)
    simp only [List.map_cons, ordB, Bool.and_eq_true] at hB
    obtain ⟨hB1, hB2⟩ := hB
    have ih := fun a' w' h' => wpG_of_O hs hQ hd r (listed.setIfInBounds i true) a' w' (fun p hp => hl p (by simp [hp])) hB2 h'
    unfold wpO at h
    by_cases he : eff.contains i
    · rw [if_pos he] at h hB1
      have hr : Region.ready md ops listed = [i] := by simpa using hB1
      refine ⟨fun h0 => (by rw [hr] at h0; cases h0), fun j hj => ?_⟩
      rw [hr] at hj
      have hji : j = i := by simpa using hj
      subst hji
      unfold wpOp
      simp only [hi]
      by_cases hw : Region.wanted o (yielded ops a.tmps)
      · rw [if_pos hw] at h ⊢
        exact h.imp (Oper.wp_mono fun a' w' h' => ⟨h'.1, ih a' w' h'.2⟩) id
      · rw [if_neg hw] at h ⊢
        exact ⟨fun _ h => h, ih _ _ h⟩
    · rw [if_neg he] at h hB1
      simp only [Bool.and_eq_true] at hB1
      obtain ⟨⟨⟨hf, hr⟩, hc⟩, hsk⟩ := hB1
      obtain ⟨v, hy, h⟩ := h
      have hsk' : rd.contains i = true → ∀ j ∈ skip, j ≠ i → listed.getD j true = false → (dep.getD j 0).testBit i = true := fun hrd j hj hne hun => by
        rw [hrd, Bool.not_true, Bool.false_or] at hsk
        have := List.all_eq_true.1 hsk j hj
        simpa only [beq_iff_eq, hne, hun, Bool.or_false, Bool.false_or, beq_eq_false_iff_ne.2 hne] using this
      rcases hy with ⟨hrd, hy, hS⟩ | hy
      · exact wpG_first hi (Region.noSelect_spec hs) (fun c a w h => hQ c a _ _ w h) hd false (.inr ⟨rfl, rfl⟩) r.length listed a w (closed_of hc) (fun _ => hsk' hrd) (Region.free_spec hi hf) (by simpa using hr) hy hS (ih _ _ h)
      · exact wpG_first (T := fun _ => True) hi (Region.noSelect_spec hs) (fun c a w h => hQ c a _ _ w h) hd true (.inl ⟨rfl, rfl⟩) r.length listed a w (closed_of hc) (fun h => by cases h) (Region.free_spec hi hf) (by simpa using hr) hy trivial (ih _ _ h)

/-- Q, but a panic is never shown. -/
def NoP (Q : Exit → Act → World → Prop) : Exit → Act → World → Prop
  | .panic _, _, _ => False
  | e, a, w => Q e a w
theorem NoP.imp {Q : Exit → Act → World → Prop} : ∀ (e : Exit) (a : Act) (w : World), NoP Q e a w → Q e a w := fun e a w h => by
  cases e <;> first | exact h | exact (h : False).elim
/-- The operations in an order. -/
def pickN : List Oper → Nat → Oper
  | [], _ => default
  | o :: _, 0 => o
  | _ :: r, n + 1 => pickN r n
def pairs (l : List Oper) : List Nat → List (Nat × Oper)
  | [] => []
  | i :: r => (i, pickN l i) :: pairs l r
def regB (md : Region.Mode) (l : List Oper) (ord skip eff rd : List Nat) : Bool :=
  Region.noSelect l.toArray && depB md l.toArray (Region.before l.toArray) && (ord.length == l.length) && ord.all (fun i => decide (i < l.length)) && ordB md l.toArray (Region.before l.toArray) skip eff rd ord (Array.replicate l.length false)
theorem pickN_get : ∀ (l : List Oper) (i : Nat), i < l.length → l[i]? = some (pickN l i)
  | [], _, h => by simp at h
  | _ :: _, 0, _ => rfl
  | _ :: r, i + 1, h => by simpa [pickN] using pickN_get r i (by simpa using h)
theorem pairs_map (l : List Oper) : ∀ ord : List Nat, (pairs l ord).map (·.1) = ord
  | [] => rfl
  | i :: r => by simp [pairs, pairs_map l r]
theorem pairs_mem (l : List Oper) : ∀ (ord : List Nat) (p : Nat × Oper), p ∈ pairs l ord → p.1 ∈ ord ∧ p.2 = pickN l p.1
  | [], p, h => by cases h
  | i :: r, p, h => by
    simp only [pairs, List.mem_cons] at h
    rcases h with rfl | h
    · exact ⟨by simp, rfl⟩
    · obtain ⟨h1, h2⟩ := pairs_mem l r p h
      exact ⟨by simp [h1], h2⟩
theorem wp_region_ord {id : Nat} {a : Act} {w : World} {l : List Oper} (S : World → Prop) (ord skip eff rd : List Nat) (hm : P.follows .mixedOrders = true) (hB : regB .any l ord skip eff rd = true)
    (h : wpO P l.toArray (NoP Q) S skip eff rd (pairs l ord) a w.drew) : (Code.region id l.toArray true).wp P Q a w := by
  simp only [regB, Bool.and_eq_true, beq_iff_eq] at hB
  obtain ⟨⟨⟨⟨h1, h2⟩, h3⟩, h4⟩, h5⟩ := hB
  refine Code.wp_mono NoP.imp (wp_region_any hm (wpAny_of_G (S := S) (skip := skip) _ _ _ _ ?_))
  have hl : ∀ p ∈ pairs l ord, l.toArray[p.1]? = some p.2 := fun p hp => by
    obtain ⟨hp1, hp2⟩ := pairs_mem l ord p hp
    have := of_decide_eq_true (List.all_eq_true.1 h4 p.1 hp1)
    rw [hp2, List.getElem?_toArray]
    exact pickN_get l p.1 this
  have := wpG_of_O (Q := NoP Q) (S := S) (md := .any) h1 (fun c a d v w h => h) h2 (pairs l ord) (Array.replicate l.length false) a w.drew hl (by rw [pairs_map]; exact h5) h
  have e : (pairs l ord).length = l.toArray.size := by
    have := congrArg List.length (pairs_map l ord)
    simp only [List.length_map] at this
    simp [this, h3]
  rw [e] at this
  simpa using this

/-! ### Its steps -/
variable {eff rd : List Nat} {i : Nat} {o : Oper} {r : List (Nat × Oper)} {a : Act} {w : World}
theorem wpO_nil (h : Q .normal a w) : wpO P ops (NoP Q) S skip eff rd [] a w := h
theorem wpO_take (v : Value) (hS : S w) (he : (!eff.contains i && rd.contains i) = true) (hw : Region.wanted o (yielded ops a.tmps) = true) (hy : ∀ w', S w' → (execOp a.eval o).run P w' = .ok (.value v) w')
    (h : wpO P ops Q S skip eff rd r (a.put o.dst v) w) : wpO P ops Q S skip eff rd ((i, o) :: r) a w := by
  unfold wpO
  simp only [Bool.and_eq_true, Bool.not_eq_true'] at he
  rw [if_neg (by rw [he.1]; simp)]
  exact ⟨v, .inl ⟨he.2, .inl ⟨hw, hy⟩, hS⟩, h⟩
theorem wpO_free (v : Value) (he : eff.contains i = false) (hw : Region.wanted o (yielded ops a.tmps) = true) (hy : ∀ w', (execOp a.eval o).run P w' = .ok (.value v) w')
    (h : wpO P ops Q S skip eff rd r (a.put o.dst v) w) : wpO P ops Q S skip eff rd ((i, o) :: r) a w := by
  unfold wpO
  rw [if_neg (by simpa using he)]
  exact ⟨v, .inr (.inl ⟨hw, fun w' _ => hy w'⟩), h⟩
theorem wpO_pass (hw : Region.wanted o (yielded ops a.tmps) = false) (h : wpO P ops Q S skip eff rd r (a.put o.dst undef) w) : wpO P ops Q S skip eff rd ((i, o) :: r) a w := by
  unfold wpO
  split
  · rw [if_neg (by simp [hw])]
    exact h
  · exact ⟨undef, .inr (.inr ⟨hw, rfl⟩), h⟩
theorem wpO_takeY (v : Value) (hS : S w) (he : (!eff.contains i && rd.contains i) = true) (hy : YieldsIf P ops S o v a)
    (h : wpO P ops Q S skip eff rd r (a.put o.dst v) w) : wpO P ops Q S skip eff rd ((i, o) :: r) a w := by
  unfold wpO
  simp only [Bool.and_eq_true, Bool.not_eq_true'] at he
  rw [if_neg (by rw [he.1]; simp)]
  exact ⟨v, .inl ⟨he.2, hy, hS⟩, h⟩
/-- A build that was run ahead. -/
theorem wpO_build (v : Value) (he : eff.contains i = false) (t : TypeId) (ps : List (Nat × Operand)) (ho : o.op = .build t ps.toArray) (hg : o.guard = none) (parts : List (Nat × Value)) (hp : (ps.map fun p => (p.1, a.eval p.2)) = parts)
    (hr : ∀ w, (Instr.build t parts.toArray).run P w = .ok v w) (h : wpO P ops Q S skip eff rd r (a.put o.dst v) w) : wpO P ops Q S skip eff rd ((i, o) :: r) a w :=
  wpO_free v he (by simp [Region.wanted, hg]) (fun w' => by
    unfold execOp
    simp only [ho, List.map_toArray, hp, Sem.run_bind, hr, Result.andThen_ok, Sem.run_pure]) h
/-- Behind what writes. -/
def EffQ (P : Program) (ops : Array Oper) (Q : Exit → Act → World → Prop) (S : World → Prop) (skip eff rd : List Nat) (r : List (Nat × Oper)) (i : Nat) (w : World) : Exit → Act → World → Prop
  | .normal, a', w' => (i ∉ skip → S w → S w') ∧ wpO P ops (NoP Q) S skip eff rd r a' w'
  | e, a', w' => NoP Q e a' w'
theorem effQ_keep {a' : Act} {w' : World} (hS : S w') (h : wpO P ops (NoP Q) S skip eff rd r a' w') : wpList P ops (EffQ P ops Q S skip eff rd r i w) [] a' w' := ⟨fun _ _ => hS, h⟩
theorem effQ_skip {a' : Act} {w' : World} (hi : i ∈ skip) (h : wpO P ops (NoP Q) S skip eff rd r a' w') : wpList P ops (EffQ P ops Q S skip eff rd r i w) [] a' w' := ⟨fun hn _ => absurd hi hn, h⟩
/-- What writes: as an operation of a plain region. -/
theorem wpO_eff (he : eff.contains i = true) (h : wpList P ops (EffQ P ops Q S skip eff rd r i w) [o] a w) : wpO P ops (NoP Q) S skip eff rd ((i, o) :: r) a w := by
  unfold wpO
  rw [if_pos he]
  unfold wpList at h
  split
  · rename_i hw
    rw [if_pos hw] at h
    refine h.imp (fun h => ?_) id
    unfold Oper.wp at h ⊢
    generalize (execOp a.eval o).run P w = z at *
    cases z with
    | ok n w' =>
      cases n <;> simp only [Oper.upon] at h ⊢ <;>
        first
          | exact h
          | exact Calls.mono h (fun e w'' he => by cases e <;> exact he)
          | exact Rows.mono h (fun _ _ he => he)
    | halt x w' => cases x <;> simp only [Oper.upon] at h ⊢ <;> exact h
  · rename_i hw
    rw [if_neg hw] at h
    exact h.2
end
end Go.Fur
namespace Go.Fur
open Go
section
variable {P : Program} {ops : Array Oper} {Q : Exit → Act → World → Prop} {md : Region.Mode} {S : World → Prop} {dep : Array Nat} {skip eff rd : List Nat}
/-- An order; 'two': either of two that write comes next. -/
inductive OT where
  | done : OT
  | one : Nat → OT → OT
  | two : Nat → OT → Nat → OT → OT
def OT.len : OT → Nat
  | .done => 0
  | .one _ t => t.len + 1
  | .two _ t _ _ => t.len + 1
def OT.ok (l : List Oper) : OT → Bool
  | .done => true
  | .one i t => decide (i < l.length) && t.ok l
  | .two i t j u => decide (i < l.length) && decide (j < l.length) && t.ok l && u.ok l
/-- The tree with a list in front. -/
def seqT (l : List Nat) (t : OT) : OT := l.foldr OT.one t
def ordT (md : Region.Mode) (ops : Array Oper) (dep : Array Nat) (skip eff rd : List Nat) : OT → Array Bool → Bool
  | .done, listed => (Region.ready md ops listed).isEmpty
  | .one i r, listed =>
    (if eff.contains i then Region.ready md ops listed == [i]
     else Region.free md ops listed i && (Region.ready md ops listed).contains i && closedB md ops listed && (!rd.contains i || skip.all (fun j => j == i || listed.getD j true || (dep.getD j 0).testBit i))) &&
    ordT md ops dep skip eff rd r (listed.setIfInBounds i true)
  | .two i t j u, listed =>
    Region.ready md ops listed == [i, j] && t.len == u.len && ordT md ops dep skip eff rd t (listed.setIfInBounds i true) && ordT md ops dep skip eff rd u (listed.setIfInBounds j true)
/-- What an operation that writes does. -/
def effP (P : Program) (ops : Array Oper) (Q : Exit → Act → World → Prop) (S : World → Prop) (skip : List Nat) (i : Nat) (o : Oper) (R : Act → World → Prop) (a : Act) (w : World) : Prop :=
  if Region.wanted o (yielded ops a.tmps) then o.wp P a w (fun a' w' => (i ∉ skip → S w → S w') ∧ R a' w') Q ∨ (o.asks P a w ∧ LetsOut Q) else R (a.put o.dst undef) w
def wpT (P : Program) (l : List Oper) (Q : Exit → Act → World → Prop) (S : World → Prop) (skip eff rd : List Nat) : OT → Act → World → Prop
  | .done, a, w => Q .normal a w
  | .one i r, a, w =>
    if eff.contains i then effP P l.toArray Q S skip i (pickN l i) (wpT P l Q S skip eff rd r) a w
    else ∃ v, ((rd.contains i = true ∧ YieldsIf P l.toArray S (pickN l i) v a ∧ S w) ∨ YieldsIf P l.toArray (fun _ => True) (pickN l i) v a) ∧ wpT P l Q S skip eff rd r (a.put (pickN l i).dst v) w
  | .two i t j u, a, w => effP P l.toArray Q S skip i (pickN l i) (wpT P l Q S skip eff rd t) a w ∧ effP P l.toArray Q S skip j (pickN l j) (wpT P l Q S skip eff rd u) a w
theorem wpOp_of_effP {i : Nat} {o : Oper} (hi : ops[i]? = some o) {R : Act → World → Prop} {a : Act} {w : World} (h : effP P ops Q S skip i o R a w) :
    wpOp P ops Q i (fun a' w' => (i ∉ skip → S w → S w') ∧ R a' w') a w := by
  unfold effP at h
  unfold wpOp
  simp only [hi]
  by_cases hw : Region.wanted o (yielded ops a.tmps)
  · rw [if_pos hw] at h ⊢
    exact h
  · rw [if_neg hw] at h ⊢
    exact ⟨fun _ h => h, h⟩
theorem wpG_of_T {l : List Oper} (hs : Region.noSelect l.toArray = true) (hQ : ∀ c a d v w, Q (.panic c) (Act.put a d v) w → Q (.panic c) a w) (hd : depB md l.toArray dep = true) :
    ∀ (t : OT) (listed : Array Bool) (a : Act) (w : World), t.ok l = true → ordT md l.toArray dep skip eff rd t listed = true →
      wpT P l Q S skip eff rd t a w → wpG P md l.toArray Q S skip t.len listed a w
  | .done, listed, a, w, _, hB, h => ⟨by simpa [ordT] using hB, h⟩
  | .one i r, listed, a, w, hk, hB, h => by
    simp only [OT.ok, Bool.and_eq_true, decide_eq_true_eq] at hk
    have hi : l.toArray[i]? = some (pickN l i) := by rw [List.getElem?_toArray]; exact pickN_get l i hk.1
    simp only [ordT, Bool.and_eq_true] at hB
    obtain ⟨hB1, hB2⟩ := hB
    have ih := fun a' w' h' => wpG_of_T hs hQ hd r (listed.setIfInBounds i true) a' w' hk.2 hB2 h'
    unfold wpT at h
    by_cases he : eff.contains i
    · rw [if_pos he] at h hB1
      have hr : Region.ready md l.toArray listed = [i] := by simpa using hB1
      refine ⟨fun h0 => (by rw [hr] at h0; cases h0), fun j hj => ?_⟩
      rw [hr] at hj
      have hji : j = i := by simpa using hj
      subst hji
      exact wpOp_mono (fun a' w' h' => ⟨h'.1, ih a' w' h'.2⟩) (wpOp_of_effP hi h)
    · rw [if_neg he] at h hB1
      simp only [Bool.and_eq_true] at hB1
      obtain ⟨⟨⟨hf, hr⟩, hc⟩, hsk⟩ := hB1
      obtain ⟨v, hy, h⟩ := h
      have hsk' : rd.contains i = true → ∀ j ∈ skip, j ≠ i → listed.getD j true = false → (dep.getD j 0).testBit i = true := fun hrd j hj hne hun => by
        rw [hrd, Bool.not_true, Bool.false_or] at hsk
        have := List.all_eq_true.1 hsk j hj
        simpa only [beq_iff_eq, hne, hun, Bool.or_false, Bool.false_or, beq_eq_false_iff_ne.2 hne] using this
      rcases hy with ⟨hrd, hy, hS⟩ | hy
      · exact wpG_first hi (Region.noSelect_spec hs) (fun c a w h => hQ c a _ _ w h) hd false (.inr ⟨rfl, rfl⟩) r.len listed a w (closed_of hc) (fun _ => hsk' hrd) (Region.free_spec hi hf) (by simpa using hr) hy hS (ih _ _ h)
      · exact wpG_first (T := fun _ => True) hi (Region.noSelect_spec hs) (fun c a w h => hQ c a _ _ w h) hd true (.inl ⟨rfl, rfl⟩) r.len listed a w (closed_of hc) (fun h => by cases h) (Region.free_spec hi hf) (by simpa using hr) hy trivial (ih _ _ h)
  | .two i t j u, listed, a, w, hk, hB, h => by
    simp only [OT.ok, Bool.and_eq_true, decide_eq_true_eq] at hk
    obtain ⟨⟨⟨hki, hkj⟩, hkt⟩, hku⟩ := hk
    have hi : l.toArray[i]? = some (pickN l i) := by rw [List.getElem?_toArray]; exact pickN_get l i hki
    have hj : l.toArray[j]? = some (pickN l j) := by rw [List.getElem?_toArray]; exact pickN_get l j hkj
    simp only [ordT, Bool.and_eq_true, beq_iff_eq] at hB
    obtain ⟨⟨⟨hr, hl⟩, hBt⟩, hBu⟩ := hB
    have iht := fun a' w' h' => wpG_of_T hs hQ hd t (listed.setIfInBounds i true) a' w' hkt hBt h'
    have ihu := fun a' w' h' => wpG_of_T hs hQ hd u (listed.setIfInBounds j true) a' w' hku hBu h'
    unfold wpT at h
    refine ⟨fun h0 => (by rw [hr] at h0; cases h0), fun k hkk => ?_⟩
    rw [hr] at hkk
    simp only [List.mem_cons, List.not_mem_nil, or_false] at hkk
    rcases hkk with rfl | rfl
    · exact wpOp_mono (fun a' w' h' => ⟨h'.1, iht a' w' h'.2⟩) (wpOp_of_effP hi h.1)
    · refine wpOp_mono (fun a' w' h' => ⟨h'.1, ?_⟩) (wpOp_of_effP hj h.2)
      have := ihu a' w' h'.2
      rwa [← hl] at this
def regT (md : Region.Mode) (l : List Oper) (t : OT) (skip eff rd : List Nat) : Bool :=
  Region.noSelect l.toArray && depB md l.toArray (Region.before l.toArray) && (t.len == l.length) && t.ok l && ordT md l.toArray (Region.before l.toArray) skip eff rd t (Array.replicate l.length false)
theorem wp_region_tree {id : Nat} {a : Act} {w : World} {l : List Oper} (S : World → Prop) (t : OT) (skip eff rd : List Nat) (hm : P.follows .mixedOrders = true) (hB : regT .any l t skip eff rd = true)
    (h : wpT P l (NoP Q) S skip eff rd t a w.drew) : (Code.region id l.toArray true).wp P Q a w := by
  simp only [regT, Bool.and_eq_true, beq_iff_eq] at hB
  obtain ⟨⟨⟨⟨h1, h2⟩, h3⟩, h4⟩, h5⟩ := hB
  refine Code.wp_mono NoP.imp (wp_region_any hm (wpAny_of_G (S := S) (skip := skip) _ _ _ _ ?_))
  have := wpG_of_T (Q := NoP Q) (S := S) (md := .any) h1 (fun c a d v w h => h) h2 t (Array.replicate l.length false) a w.drew h4 h5 h
  rw [h3] at this
  simpa using this

/-- Whatever the order was, R stands behind it; and so goes the rest. -/
theorem wp_region_join {id : Nat} {a : Act} {w : World} {l : List Oper} (S : World → Prop) (t : OT) (skip eff rd : List Nat) (R : Act → Act → World → Prop) (hm : P.follows .mixedOrders = true) (hB : regT .any l t skip eff rd = true)
    (h : wpT P l (NoP (fun e a' w' => e = .normal ∧ R a a' w')) S skip eff rd t a w.drew) (h2 : ∀ a' w', R a a' w' → Q .normal a' w') : (Code.region id l.toArray true).wp P Q a w :=
  Code.wp_mono (fun e a' w' h => by obtain ⟨rfl, h⟩ := h; exact h2 a' w' h) (wp_region_tree S t skip eff rd hm hB h)

/-- The same for a piece of code that ends normally. -/
theorem wp_seq_join {c d : Code} {a : Act} {w : World} (R : Act → Act → World → Prop) (h : c.wp P (fun e a' w' => e = .normal ∧ R a a' w') a w) (h2 : ∀ a' w', R a a' w' → d.wp P Q a' w') : (c.seq d).wp P Q a w := by
  exact wp_seq (Code.wp_mono (Q := fun e a' w' => e = .normal ∧ R a a' w') (fun e a' w' h => by obtain ⟨rfl, h⟩ := h; exact h2 a' w' h) h)

/-! ### Its steps -/
variable {l : List Oper} {i : Nat} {r : OT} {a : Act} {w : World}
theorem wpT_done (h : Q .normal a w) : wpT P l (NoP Q) S skip eff rd .done a w := h
theorem wpT_take (v : Value) (hS : S w) (he : (!eff.contains i && rd.contains i) = true) (hw : Region.wanted (pickN l i) (yielded l.toArray a.tmps) = true) (hy : ∀ w', S w' → (execOp a.eval (pickN l i)).run P w' = .ok (.value v) w')
    (h : wpT P l Q S skip eff rd r (a.put (pickN l i).dst v) w) : wpT P l Q S skip eff rd (.one i r) a w := by
  unfold wpT
  simp only [Bool.and_eq_true, Bool.not_eq_true'] at he
  rw [if_neg (by rw [he.1]; simp)]
  exact ⟨v, .inl ⟨he.2, .inl ⟨hw, hy⟩, hS⟩, h⟩
theorem wpT_free (v : Value) (he : eff.contains i = false) (hw : Region.wanted (pickN l i) (yielded l.toArray a.tmps) = true) (hy : ∀ w', (execOp a.eval (pickN l i)).run P w' = .ok (.value v) w')
    (h : wpT P l Q S skip eff rd r (a.put (pickN l i).dst v) w) : wpT P l Q S skip eff rd (.one i r) a w := by
  unfold wpT
  rw [if_neg (by simpa using he)]
  exact ⟨v, .inr (.inl ⟨hw, fun w' _ => hy w'⟩), h⟩
theorem wpT_pass (hw : Region.wanted (pickN l i) (yielded l.toArray a.tmps) = false) (h : wpT P l Q S skip eff rd r (a.put (pickN l i).dst undef) w) : wpT P l Q S skip eff rd (.one i r) a w := by
  unfold wpT
  split
  · unfold effP
    rw [if_neg (by simp [hw])]
    exact h
  · exact ⟨undef, .inr (.inr ⟨hw, rfl⟩), h⟩
/-- Behind what writes. -/
def EffT (P : Program) (l : List Oper) (Q : Exit → Act → World → Prop) (S : World → Prop) (skip eff rd : List Nat) (r : OT) (i : Nat) (w : World) : Exit → Act → World → Prop
  | .normal, a', w' => (i ∉ skip → S w → S w') ∧ wpT P l (NoP Q) S skip eff rd r a' w'
  | e, a', w' => NoP Q e a' w'
theorem effT_keep {a' : Act} {w' : World} (hS : S w') (h : wpT P l (NoP Q) S skip eff rd r a' w') : wpList P l.toArray (EffT P l Q S skip eff rd r i w) [] a' w' := ⟨fun _ _ => hS, h⟩
theorem effT_skip {a' : Act} {w' : World} (hi : i ∈ skip) (h : wpT P l (NoP Q) S skip eff rd r a' w') : wpList P l.toArray (EffT P l Q S skip eff rd r i w) [] a' w' := ⟨fun hn _ => absurd hi hn, h⟩
theorem effP_of_list {o : Oper} (h : wpList P l.toArray (EffT P l Q S skip eff rd r i w) [o] a w) : effP P l.toArray (NoP Q) S skip i o (wpT P l (NoP Q) S skip eff rd r) a w := by
  unfold effP
  unfold wpList at h
  split
  · rename_i hw
    rw [if_pos hw] at h
    refine h.imp (fun h => ?_) id
    unfold Oper.wp at h ⊢
    generalize (execOp a.eval o).run P w = z at *
    cases z with
    | ok n w' =>
      cases n <;> simp only [Oper.upon] at h ⊢ <;>
        first
          | exact h
          | exact Calls.mono h (fun e w'' he => by cases e <;> exact he)
          | exact Rows.mono h (fun _ _ he => he)
    | halt x w' => cases x <;> simp only [Oper.upon] at h ⊢ <;> exact h
  · rename_i hw
    rw [if_neg hw] at h
    exact h.2
theorem wpT_eff (he : eff.contains i = true) (h : wpList P l.toArray (EffT P l Q S skip eff rd r i w) [pickN l i] a w) : wpT P l (NoP Q) S skip eff rd (.one i r) a w := by
  unfold wpT
  rw [if_pos he]
  exact effP_of_list h
theorem wpT_two {j : Nat} {u : OT} (h1 : wpList P l.toArray (EffT P l Q S skip eff rd r i w) [pickN l i] a w) (h2 : wpList P l.toArray (EffT P l Q S skip eff rd u j w) [pickN l j] a w) : wpT P l (NoP Q) S skip eff rd (.two i r j u) a w := by
  unfold wpT
  exact ⟨effP_of_list h1, effP_of_list h2⟩
end
end Go.Fur
namespace Go.Fur
open Go Go.RowKit Go.Proofs
set_option linter.unusedVariables false
set_option linter.unusedSimpArgs false
/-- Where the shelf m + 1 begins. -/
def sh : Nat → Nat
  | 0 => 192
  | m + 1 => sh m + 256 ^ (m + 1)
def ShelfR (k : Nat) (w : World) (x i : Value) (wr : World) : Prop := ∃ m : Nat, m ≤ k - 1 ∧ x = .int .u64 (sh m) ∧ i = .int .i64 m ∧ w = wr
theorem shelf_calls (w : World) (k : Nat) (h1 : 1 ≤ k) (h8 : k ≤ 8) : Calls Try.prog 60 #[.int .i64 k] w fun e w' => e = .returned (.int .u64 (sh (k - 1))) ∧ w = w' := by
  have hw : IntKind.i64.wrap ((k : Int) - 1) = ((k - 1 : Nat) : Int) := by rw [IntKind.wrap_i64]; omega
  go_enter Try.func60, Try.ntmps60
  go_wp2_with fail
  go_loopw [3, 7] (fun x i wr => ShelfR k w x i wr) (fun _ i _ => k - (intOf i).toNat)
  case atStart => exact ⟨0, Nat.zero_le _, rfl, rfl, rfl⟩
  case round =>
    obtain ⟨m, hm, rfl, rfl, rfl⟩ := hrel
    by_cases hlt : m < k - 1
    · have hb : (m : Int) < ((k - 1 : Nat) : Int) := by omega
      have hm7 : m = 0 ∨ m = 1 ∨ m = 2 ∨ m = 3 ∨ m = 4 ∨ m = 5 ∨ m = 6 := by omega
      rcases hm7 with rfl | rfl | rfl | rfl | rfl | rfl | rfl <;>
        (go_wp2_with fail
         first
           | exact ⟨⟨1, by omega, congrArg _ (by decide), rfl, rfl⟩, by simp [intOf]; omega⟩
           | exact ⟨⟨2, by omega, congrArg _ (by decide), rfl, rfl⟩, by simp [intOf]; omega⟩
           | exact ⟨⟨3, by omega, congrArg _ (by decide), rfl, rfl⟩, by simp [intOf]; omega⟩
           | exact ⟨⟨4, by omega, congrArg _ (by decide), rfl, rfl⟩, by simp [intOf]; omega⟩
           | exact ⟨⟨5, by omega, congrArg _ (by decide), rfl, rfl⟩, by simp [intOf]; omega⟩
           | exact ⟨⟨6, by omega, congrArg _ (by decide), rfl, rfl⟩, by simp [intOf]; omega⟩
           | exact ⟨⟨7, by omega, congrArg _ (by decide), rfl, rfl⟩, by simp [intOf]; omega⟩)
    · have hb : ¬ (m : Int) < ((k - 1 : Nat) : Int) := by omega
      have hmk : m = k - 1 := by omega
      subst hmk
      go_wp2_with fail
      go_ret
      exact ⟨rfl, rfl⟩
/-- How many bytes stand behind the head. -/
def kl (x : Nat) : Nat := if x < sh 0 then 0 else if x < sh 1 then 1 else if x < sh 2 then 2 else if x < sh 3 then 3 else if x < sh 4 then 4 else if x < sh 5 then 5 else if x < sh 6 then 6 else if x < sh 7 then 7 else 8
theorem sh_vals : sh 0 = 192 ∧ sh 1 = 448 ∧ sh 2 = 65984 ∧ sh 3 = 16843200 ∧ sh 4 = 4311810496 ∧ sh 5 = 1103823438272 ∧ sh 6 = 282578800148928 ∧ sh 7 = 72340172838076864 := by decide
theorem sh_mono : ∀ (a b : Nat), a ≤ b → sh a ≤ sh b := fun a b h => by
  induction b with
  | zero =>
    have : a = 0 := by omega
    subst this
    exact Nat.le_refl _
  | succ b ih =>
    rcases Nat.lt_or_ge a (b + 1) with h1 | h1
    · exact Nat.le_trans (ih (by omega)) (Nat.le_add_right _ _)
    · have : a = b + 1 := by omega
      subst this
      exact Nat.le_refl _
theorem kl_le (x : Nat) : kl x ≤ 8 := by
  unfold kl
  repeat' split
  all_goals omega
/-- What tells it. -/
theorem kl_is (x k : Nat) (hk : k ≤ 8) (hlo : 0 < k → sh (k - 1) ≤ x) (hhi : k < 8 → x < sh k) : kl x = k := by
  obtain ⟨h0, h1, h2, h3, h4, h5, h6, h7⟩ := sh_vals
  have hk9 : k = 0 ∨ k = 1 ∨ k = 2 ∨ k = 3 ∨ k = 4 ∨ k = 5 ∨ k = 6 ∨ k = 7 ∨ k = 8 := by omega
  unfold kl
  rcases hk9 with rfl | rfl | rfl | rfl | rfl | rfl | rfl | rfl | rfl <;> simp only [h0, h1, h2, h3, h4, h5, h6, h7] at * <;> (repeat' split) <;> omega
theorem kl_spec (x : Nat) : ∃ k, k ≤ 8 ∧ kl x = k ∧ (0 < k → sh (k - 1) ≤ x) ∧ (k < 8 → x < sh k) := by
  have hx : ∃ k, k ≤ 8 ∧ (0 < k → sh (k - 1) ≤ x) ∧ (k < 8 → x < sh k) := by
    obtain ⟨h0, h1, h2, h3, h4, h5, h6, h7⟩ := sh_vals
    by_cases c0 : x < 192
    · exact ⟨0, by omega, by omega, fun _ => by omega⟩
    by_cases c1 : x < 448
    · exact ⟨1, by omega, fun _ => by simp only [Nat.sub_self]; omega, fun _ => by omega⟩
    by_cases c2 : x < 65984
    · exact ⟨2, by omega, fun _ => by simp only [Nat.reduceSub]; omega, fun _ => by omega⟩
    by_cases c3 : x < 16843200
    · exact ⟨3, by omega, fun _ => by simp only [Nat.reduceSub]; omega, fun _ => by omega⟩
    by_cases c4 : x < 4311810496
    · exact ⟨4, by omega, fun _ => by simp only [Nat.reduceSub]; omega, fun _ => by omega⟩
    by_cases c5 : x < 1103823438272
    · exact ⟨5, by omega, fun _ => by simp only [Nat.reduceSub]; omega, fun _ => by omega⟩
    by_cases c6 : x < 282578800148928
    · exact ⟨6, by omega, fun _ => by simp only [Nat.reduceSub]; omega, fun _ => by omega⟩
    by_cases c7 : x < 72340172838076864
    · exact ⟨7, by omega, fun _ => by simp only [Nat.reduceSub]; omega, fun _ => by omega⟩
    exact ⟨8, by omega, fun _ => by simp only [Nat.reduceSub]; omega, by omega⟩
  obtain ⟨k, h1, h2, h3⟩ := hx
  exact ⟨k, h1, kl_is x k h1 h2 h3, h2, h3⟩
theorem kl_lo (x : Nat) (h : 0 < kl x) : sh (kl x - 1) ≤ x := by
  obtain ⟨k, _, hk, h2, _⟩ := kl_spec x
  rw [hk] at h ⊢
  exact h2 h
theorem kl_hi (x : Nat) (h : kl x < 8) : x < sh (kl x) := by
  obtain ⟨k, _, hk, _, h2⟩ := kl_spec x
  rw [hk] at h ⊢
  exact h2 h
def SizeR (x : Nat) (w : World) (i : Value) (wr : World) : Prop := ∃ k : Nat, 1 ≤ k ∧ k ≤ 8 ∧ sh (k - 1) ≤ x ∧ i = .int .i64 k ∧ w = wr
theorem size_calls (w : World) (x : Nat) : Calls Try.prog 59 #[.int .u64 x] w fun e w' => e = .returned (.int .i64 (1 + kl x : Nat)) ∧ w = w' := by
  by_cases h0 : x < 192
  · have hb : (x : Int) < 192 := by omega
    have e : kl x = 0 := kl_is x 0 (by omega) (by omega) (fun _ => by rw [sh_vals.1]; exact h0)
    rw [e]
    go_enter Try.func59, Try.ntmps59
    go_wp2_with fail
    go_ret
    exact ⟨rfl, rfl⟩
  · have hb : ¬ (x : Int) < 192 := by omega
    go_enter Try.func59, Try.ntmps59
    go_wp2_with fail
    go_loopw [3] (fun i wr => SizeR x w i wr) (fun i _ => 9 - (intOf i).toNat)
    case atStart => exact ⟨1, Nat.le_refl _, by omega, by rw [sh_vals.1]; omega, rfl, rfl⟩
    case round =>
      obtain ⟨k, hk1, hk8, hlo, rfl, rfl⟩ := hrel
      by_cases hlt : k < 8
      · have hkb : (k : Int) < 8 := by omega
        go_wp2_with fail
        have hc := shelf_calls w (k + 1) (by omega) (by omega)
        refine hc.mono ?_
        rintro e w' ⟨rfl, rfl⟩
        simp only [Nat.add_sub_cancel]
        by_cases hx : sh k ≤ x
        · have hxb : (sh k : Int) ≤ (x : Int) := by omega
          go_wp2_with fail
          go_roundw
          case rel => exact ⟨k + 1, by omega, by omega, hx, rfl, rfl⟩
          case measure => simp [intOf]; omega
        · have hxb : ¬ (sh k : Int) ≤ (x : Int) := by omega
          go_wp2_with fail
          go_ret
          refine ⟨?_, rfl⟩
          rw [kl_is x k (by omega) (fun _ => hlo) (fun _ => by omega)]
          simp
      · have hk : k = 8 := by omega
        subst hk
        go_wp2_with fail
        go_ret
        refine ⟨?_, rfl⟩
        rw [kl_is x 8 (by omega) (fun _ => hlo) (by omega)]
        rfl
end Go.Fur
