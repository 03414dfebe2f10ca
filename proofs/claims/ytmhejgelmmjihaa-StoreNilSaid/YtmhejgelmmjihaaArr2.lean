/- More laws of the walk: variables of a struct, empty slices, loads and results that are rows; what is read and lies apart from some blocks. No program is named here. -/
import Derived.Test.YtmhejgelmmjihaaArr
import Derived.Laws.Rows
import Derived.Laws.NewBlocks
namespace Go.Fur
open Go Go.RowKit
section
variable {P : Program}
theorem wpList_boxB {ops : Array Oper} {rest : List Oper} {o : Oper} {a : Act} {w : World} {Q : Exit → Act → World → Prop} (hgd : o.guard = none) (t : TypeId) (x : Operand) (ho : o.op = .box t x)
    (cs : List Value) (hx : (a.eval x).cells = cs.toArray)
    (h : ∀ w1 : World, Blk w1 w.heap.size t cs → Fr [] w w1 → w1.heap.size = w.heap.size + 1 → wpList P ops Q rest (a.put o.dst (.pointer (some ⟨w.heap.size, 0, none⟩))) w1) : wpList P ops Q (o :: rest) a w :=
  wpList_plain hgd fun K hK => by
    unfold Oper.wp execOp
    simp only [ho, Sem.run_bind, Instr.box, newVar, newRow, run_newObj_alloc, Sem.run_pure, Result.andThen_ok, hx]
    exact hK _ _ (h _ (Blk.new w t cs) ((Fr.refl [] w).alloc _) (by simp))
theorem Own.empty0 (w : World) (e : TypeId) (size : Nat) : Own (w.alloc (.cells #[] e)) w.heap.size e size (.slice (some ⟨w.heap.size, 0, none⟩) 0 0) 0 [] := by
  have := Own.of_blk (base := w.heap.size) (size := size) (n := 0) (cap := 0) (Nat.le_refl _) (Blk.new w e []) (Nat.le_refl _) (Nat.zero_le _) (by simp)
  simpa using this
theorem wpList_build0 {ops : Array Oper} {rest : List Oper} {o : Oper} {a : Act} {w : World} {Q : Exit → Act → World → Prop} (hgd : o.guard = none) (t e : TypeId) (size : Nat) (ho : o.op = .buildSlice t 0 #[])
    (hr : ∀ W : World, (Instr.buildSlice t 0 #[]).run P W = .ok (.slice (some ⟨W.heap.size, 0, none⟩) 0 0) (W.alloc (.cells #[] e)))
    (h : ∀ w1 : World, Own w1 w.heap.size e size (.slice (some ⟨w.heap.size, 0, none⟩) 0 0) 0 [] → Fr [] w w1 → w1.heap.size = w.heap.size + 1 → wpList P ops Q rest (a.put o.dst (.slice (some ⟨w.heap.size, 0, none⟩) 0 0)) w1) : wpList P ops Q (o :: rest) a w :=
  wpList_plain hgd fun K hK => by
    unfold Oper.wp execOp
    simp only [ho, List.map_toArray, List.map_nil, Sem.run_bind, hr, Result.andThen_ok, Sem.run_pure]
    exact hK _ _ (h _ (Own.empty0 w e size) ((Fr.refl [] w).alloc _) (by simp))
theorem wpList_loadB {ops : Array Oper} {rest : List Oper} {o : Oper} {a : Act} {w : World} {Q : Exit → Act → World → Prop} (hgd : o.guard = none) (ty : TypeId) (x : Operand) (ho : o.op = .load ty x)
    (g : Nat) (hx : a.eval x = .pointer (some ⟨g, 0, none⟩)) (t : TypeId) (cs : List Value) (d : TypeDesc) (hg : Blk w g t cs)
    (hu : P.underlying ty = some d) (hd : (match d with | .struct _ | .array _ _ => true | _ => false) = true) (hi : (P.info? ty).map (·.size) = some cs.length)
    (h : wpList P ops Q rest (a.put o.dst (.agg cs.toArray)) w) : wpList P ops Q (o :: rest) a w :=
  wpList_load_row hgd ty x ho g hx t cs.toArray (0, 0) d hg hu hd (by simpa using hi) h
theorem results_cellB {fn : Func} {p : Tmp} {ty : TypeId} (h : fn.results = #[.cell p ty]) (tmps : Array Value) (w : World) (g : Nat) (t : TypeId) (cs : List Value) (d : TypeDesc)
    (hp : tmps.getD p undef = .pointer (some ⟨g, 0, none⟩)) (hg : Blk w g t cs)
    (hu : P.underlying ty = some d) (hd : (match d with | .struct _ | .array _ _ => true | _ => false) = true) (hi : (P.info? ty).map (·.size) = some cs.length) :
    (results fn tmps).run P w = .ok (.agg cs.toArray) w :=
  results_cell_row h tmps w g t cs.toArray (0, 0) d hp hg hu hd (by simpa using hi)
theorem results_cellB_tmp {fn : Func} {p u : Tmp} {ty : TypeId} (h : fn.results = #[.cell p ty, .tmp u]) (tmps : Array Value) (w : World) (g : Nat) (t : TypeId) (cs : List Value) (d : TypeDesc)
    (hp : tmps.getD p undef = .pointer (some ⟨g, 0, none⟩)) (hg : Blk w g t cs)
    (hu : P.underlying ty = some d) (hd : (match d with | .struct _ | .array _ _ => true | _ => false) = true) (hi : (P.info? ty).map (·.size) = some cs.length) :
    (results fn tmps).run P w = .ok (.tuple #[.agg cs.toArray, tmps.getD u undef]) w := by
  have hp' : tmps[p]?.getD undef = .pointer (some ⟨g, 0, none⟩) := by simpa using hp
  simp [results, h, hp', asAddr, run_loadVar_row w g t ty cs.toArray (0, 0) d hg hu hd (by simpa using hi)]
end

theorem Own.cellAt {w : World} {base n : Nat} {e : TypeId} {v : Value} {cs : List Value} (h : Own w base e 1 v n cs) (i : Nat) (hi : i < n) :
    ∃ g cap cur x, v = .slice (some ⟨g, 0, none⟩) n cap ∧ base ≤ g ∧ Blk w g e cur ∧ i < cur.length ∧ cs[i]? = some x ∧ w.cell? ⟨g, i, none⟩ = some x ∧ (∀ (w1 : World) (y : Value), Blk w1 g e (cur.set i y) → Own w1 base e 1 v n (cs.set i y)) := by
  obtain ⟨g, cap, cur, rfl, hg, hb, hn, hm, hs, ht⟩ := h.blk (by omega)
  simp only [Nat.mul_one] at hs ht
  have hl : cs.length = n := by have := h.len; simpa using this
  obtain ⟨x, hx⟩ : ∃ x, cs[i]? = some x := ⟨cs[i]'(by omega), List.getElem?_eq_getElem (by omega)⟩
  have hc : cur[i]? = some x := by
    have h1 := hx
    rwa [← ht, List.getElem?_take, if_pos hi] at h1
  refine ⟨g, cap, cur, _, rfl, hg, hb, by omega, hx, hb.cellAt hc, fun w1 y hb1 => ?_⟩
  have := Own.of_blk (base := base) (size := 1) hg hb1 hn hm (by simpa using hs)
  rw [Nat.mul_one, List.take_set, ht] at this
  exact this
section
variable {P : Program}
/-- A call of a Go function by its contract. -/
theorem wpList_callC {ops : Array Oper} {rest : List Oper} {o : Oper} {a : Act} {w : World} {Q : Exit → Act → World → Prop} (hg : o.guard = none)
    (f : FuncId) (args : Array Value) (hrun : (execOp a.eval o).run P w = .ok (.enter f args) w) (R : Ending → World → Prop) (hc : Calls P f args w R)
    (h : ∀ e w', R e w' → ∃ v, e = .returned v ∧ wpList P ops Q rest (a.put o.dst v) w') : wpList P ops Q (o :: rest) a w := by
  refine wpList_plain hg fun K hK => ?_
  unfold Oper.wp
  rw [hrun, Oper.upon_enter]
  refine hc.mono fun e w'' hh => ?_
  obtain ⟨v, rfl, h1⟩ := h e w'' hh
  exact hK _ _ h1
end
/-! ### What is read, and lies apart from the blocks of X -/
def RdA (w : World) (X : Nat → Prop) (a : Option Addr) (cs : List Value) : Prop := cs ≠ [] → ∃ b o, a = some ⟨b, o, none⟩ ∧ ¬ X b ∧ b < w.heap.size ∧ w.rangeAt b o cs
theorem RdA.rd {w : World} {X : Nat → Prop} {a : Option Addr} {cs : List Value} (h : RdA w X a cs) : Rd w a cs := fun hn => by
  obtain ⟨b, o, ha, _, _, hr⟩ := h hn
  exact ⟨b, o, ha, hr⟩
theorem RdA.step {S : List Nat} {w w' : World} {X X' : Nat → Prop} {a : Option Addr} {cs : List Value} (h : RdA w X a cs) (f : Fr S w w') (hS : ∀ k ∈ S, X k ∨ w.heap.size ≤ k) (hX : ∀ k, X' k → X k ∨ w.heap.size ≤ k) : RdA w' X' a cs := fun hn => by
  obtain ⟨b, o, ha, hx, hlt, hr⟩ := h hn
  refine ⟨b, o, ha, fun h' => ?_, Nat.lt_of_lt_of_le hlt f.size, rangeAt_fr hr f (fun hm => ?_)⟩
  · rcases hX b h' with h1 | h1
    · exact hx h1
    · omega
  · rcases hS b hm with h1 | h1
    · exact hx h1
    · omega
theorem RdA.fr0 {w w' : World} {X : Nat → Prop} {a : Option Addr} {cs : List Value} (h : RdA w X a cs) (f : Fr [] w w') : RdA w' X a cs := h.step f (by simp) (fun _ h => .inl h)
theorem RdA.nil (w : World) (X : Nat → Prop) (a : Option Addr) : RdA w X a [] := fun h => absurd rfl h
theorem Own.rdA {w : World} {X : Nat → Prop} {base : Nat} {e : TypeId} {size n : Nat} {v : Value} {cs : List Value} (h : Own w base e size v n cs) (hX : ∀ k ∈ ob v, ¬ X k) : ∃ a c, v = .slice a n c ∧ n ≤ c ∧ c ≤ maxLen ∧ RdA w X a cs := by
  obtain ⟨a, c, hv, h1, h2, h3⟩ := h.form
  refine ⟨a, c, hv, h1, h2, fun hn => ?_⟩
  obtain ⟨b, o, ha, hr⟩ := h3 hn
  obtain ⟨v0, vs, rfl⟩ := List.exists_cons_of_ne_nil hn
  subst ha hv
  exact ⟨b, o, rfl, hX b (by simp), World.block_lt_of_cell? w _ (hr 0 v0 rfl), hr⟩
theorem Own.rdS {w : World} {X : Nat → Prop} {base : Nat} {e : TypeId} {size n c : Nat} {a : Option Addr} {cs : List Value} (h : Own w base e size (.slice a n c) n cs) (hX : ∀ k ∈ ob (.slice a n c), ¬ X k) : RdA w X a cs ∧ n ≤ c ∧ c ≤ maxLen := by
  obtain ⟨a', c', hv, h1, h2, h3⟩ := h.rdA hX
  simp only [Value.slice.injEq] at hv
  obtain ⟨rfl, _, rfl⟩ := hv
  exact ⟨h3, h1, h2⟩
theorem RdA.cellAt {w : World} {X : Nat → Prop} {a : Option Addr} {cs : List Value} (h : RdA w X a cs) {i : Nat} {v : Value} (hv : cs[i]? = some v) : ∃ b o, a = some ⟨b, o, none⟩ ∧ b < w.heap.size ∧ w.rangeAt b o cs ∧ w.cell? ⟨b, o + i, none⟩ = some v := by
  obtain ⟨b, o, ha, _, hlt, hr⟩ := h (fun h0 => by subst h0; simp at hv)
  exact ⟨b, o, ha, hlt, hr, hr i v hv⟩
/-- v is a slice of the bytes l. -/
def Bs (w : World) (X : Nat → Prop) (v : Value) (l : List Int) : Prop := ∃ a c, v = .slice a l.length c ∧ RdA w X a (bv l) ∧ l.length ≤ c ∧ c ≤ maxLen
theorem Bs.step {S : List Nat} {w w' : World} {X X' : Nat → Prop} {v : Value} {l : List Int} (h : Bs w X v l) (f : Fr S w w') (hS : ∀ k ∈ S, X k ∨ w.heap.size ≤ k) (hX : ∀ k, X' k → X k ∨ w.heap.size ≤ k) : Bs w' X' v l := by
  obtain ⟨a, c, hv, hr, h1⟩ := h
  exact ⟨a, c, hv, hr.step f hS hX, h1⟩
theorem Bs.nil (w : World) (X : Nat → Prop) : Bs w X (.slice none 0 0) [] := ⟨none, 0, rfl, RdA.nil _ _ _, Nat.le_refl _, Nat.zero_le _⟩
theorem Own.bs {w : World} {X : Nat → Prop} {base : Nat} {e : TypeId} {size n : Nat} {v : Value} {l : List Int} (h : Own w base e size v n (bv l)) (hn : l.length = n) (hX : ∀ k ∈ ob v, ¬ X k) : Bs w X v l := by
  subst hn
  obtain ⟨a, c, hv, h1, h2, h3⟩ := h.rdA hX
  exact ⟨a, c, hv, h3, h1, h2⟩
theorem Bs.one {w : World} {X : Nat → Prop} {v : Value} {l : List Int} (h : Bs w X v l) : v.oneCell' = true := by
  obtain ⟨a, c, rfl, _⟩ := h
  rfl
/-- The values vs are slices of the bytes ls, one for one. -/
def AllB (w : World) (X : Nat → Prop) (vs : List Value) (ls : List (List Int)) : Prop := vs.length = ls.length ∧ ∀ (i : Nat) v l, vs[i]? = some v → ls[i]? = some l → Bs w X v l
theorem AllB.step {S : List Nat} {w w' : World} {X X' : Nat → Prop} {vs : List Value} {ls : List (List Int)} (h : AllB w X vs ls) (f : Fr S w w') (hS : ∀ k ∈ S, X k ∨ w.heap.size ≤ k) (hX : ∀ k, X' k → X k ∨ w.heap.size ≤ k) : AllB w' X' vs ls :=
  ⟨h.1, fun i v l h1 h2 => (h.2 i v l h1 h2).step f hS hX⟩
theorem AllB.nil (w : World) (X : Nat → Prop) : AllB w X [] [] := ⟨rfl, by simp⟩
theorem AllB.set {w : World} {X : Nat → Prop} {vs : List Value} {ls : List (List Int)} (h : AllB w X vs ls) (i : Nat) {v : Value} {l : List Int} (hv : Bs w X v l) : AllB w X (vs.set i v) (ls.set i l) := by
  refine ⟨by simp [h.1], fun j u m h1 h2 => ?_⟩
  rw [List.getElem?_set] at h1 h2
  by_cases hij : i = j
  · subst hij
    rw [if_pos rfl] at h1 h2
    split at h1
    · split at h2
      · simp only [Option.some.injEq] at h1 h2
        rw [← h1, ← h2]
        exact hv
      · cases h2
    · cases h1
  · rw [if_neg hij] at h1 h2
    exact h.2 j u m h1 h2
theorem AllB.snoc {w : World} {X : Nat → Prop} {vs : List Value} {ls : List (List Int)} (h : AllB w X vs ls) {v : Value} {l : List Int} (hv : Bs w X v l) : AllB w X (vs ++ [v]) (ls ++ [l]) := by
  refine ⟨by simp [h.1], fun j u m h1 h2 => ?_⟩
  have hl := h.1
  rcases Nat.lt_or_ge j vs.length with hj | hj
  · rw [List.getElem?_append_left hj] at h1
    rw [List.getElem?_append_left (by omega)] at h2
    exact h.2 j u m h1 h2
  · rw [List.getElem?_append_right hj] at h1
    rw [List.getElem?_append_right (by omega), ← hl] at h2
    rcases hq : j - vs.length with _ | q
    · rw [hq] at h1 h2
      simp only [List.getElem?_cons_zero, Option.some.injEq] at h1 h2
      rw [← h1, ← h2]
      exact hv
    · rw [hq] at h1
      simp at h1
theorem AllB.get {w : World} {X : Nat → Prop} {vs : List Value} {ls : List (List Int)} (h : AllB w X vs ls) {i : Nat} {l : List Int} (hl : ls[i]? = some l) : ∃ v, vs[i]? = some v ∧ Bs w X v l := by
  have hlt : i < vs.length := by rw [h.1]; exact (List.getElem?_eq_some_iff.1 hl).1
  exact ⟨vs[i], List.getElem?_eq_getElem hlt, h.2 i _ l (List.getElem?_eq_getElem hlt) hl⟩
theorem AllB.one {w : World} {X : Nat → Prop} {vs : List Value} {ls : List (List Int)} (h : AllB w X vs ls) : ∀ v ∈ vs, v.oneCell' = true := fun v hv => by
  obtain ⟨i, hi⟩ := List.getElem?_of_mem hv
  have hlt : i < ls.length := by rw [← h.1]; exact (List.getElem?_eq_some_iff.1 hi).1
  exact (h.2 i v _ hi (List.getElem?_eq_getElem hlt)).one
end Go.Fur
