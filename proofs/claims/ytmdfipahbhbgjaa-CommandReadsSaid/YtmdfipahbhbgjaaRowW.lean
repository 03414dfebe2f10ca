/- Rows of things of one's own: what grows by one thing at a time. No program is named here. -/
import Derived.Test.YtmdfipahbhbgjaaEach
namespace Go.Fur
open Go Go.RowKit
set_option linter.unusedVariables false
/-- v is a row of one's own of the things l, k cells each. -/
def RowW {τ : Type} (EW : World → List Value → τ → Prop) (k : Nat) (e : TypeId) (base : Nat) (w : World) (v : Value) (l : List τ) : Prop :=
  ∃ css : List (List Value), Own w base e k v l.length (flat id css) ∧ css.length = l.length ∧ ∀ (i : Nat) cs t, css[i]? = some cs → l[i]? = some t → cs.length = k ∧ EW w cs t
theorem RowW.nil {τ : Type} {EW : World → List Value → τ → Prop} {k : Nat} {e : TypeId} {base : Nat} (w : World) : RowW EW k e base w (.slice none 0 0) [] := ⟨[], Own.nil _ _ _ _, rfl, by simp⟩
theorem RowW.fr {τ : Type} {EW : World → List Value → τ → Prop} {k : Nat} {e : TypeId} {base : Nat} {w w' : World} {v : Value} {l : List τ} {S : List Nat} (h : RowW EW k e base w v l) (f : Fr S w w') (hb : ∀ g ∈ ob v, g ∉ S) (hE : ∀ cs t, EW w cs t → EW w' cs t) : RowW EW k e base w' v l := by
  obtain ⟨css, h1, h2, h3⟩ := h
  exact ⟨css, h1.fr f hb, h2, fun i cs t hc ht => ⟨(h3 i cs t hc ht).1, hE _ _ (h3 i cs t hc ht).2⟩⟩
theorem RowW.base {τ : Type} {EW : World → List Value → τ → Prop} {k : Nat} {e : TypeId} {base base' : Nat} {w : World} {v : Value} {l : List τ} (h : RowW EW k e base w v l) (hb : base' ≤ base) : RowW EW k e base' w v l := by
  obtain ⟨css, h1, h2, h3⟩ := h
  exact ⟨css, h1.base hb, h2, h3⟩
theorem RowW.map {τ : Type} {EW EW' : World → List Value → τ → Prop} {k : Nat} {e : TypeId} {base : Nat} {w : World} {v : Value} {l : List τ} (h : RowW EW k e base w v l) (hE : ∀ cs t, EW w cs t → EW' w cs t) : RowW EW' k e base w v l := by
  obtain ⟨css, h1, h2, h3⟩ := h
  exact ⟨css, h1, h2, fun i cs t hc ht => ⟨(h3 i cs t hc ht).1, hE _ _ (h3 i cs t hc ht).2⟩⟩
theorem RowW.form {τ : Type} {EW : World → List Value → τ → Prop} {k : Nat} {e : TypeId} {base : Nat} {w : World} {v : Value} {l : List τ} (h : RowW EW k e base w v l) : ∃ a c, v = .slice a l.length c ∧ l.length ≤ c ∧ c ≤ maxLen := by
  obtain ⟨css, h1, h2, h3⟩ := h
  obtain ⟨a, c, hv, h4, h5, _⟩ := h1.form
  exact ⟨a, c, hv, h4, h5⟩
/-- As things that are read. -/
theorem RowW.rowA {τ : Type} {EW : World → List Value → τ → Prop} {EL : World → (Nat → Prop) → List Value → τ → Prop} {k : Nat} {e : TypeId} {base : Nat} {w : World} {a : Option Addr} {n c : Nat} {l : List τ} (h : RowW EW k e base w (.slice a n c) l) (hE : ∀ cs t, EW w cs t → EL w (fun _ => False) cs t) :
    ∃ css, RowA EL k w (fun _ => False) a l css := by
  obtain ⟨css, h1, h2, h3⟩ := h
  obtain ⟨a', c', hv, _, _, hr⟩ := h1.rdA (X := fun _ => False) (fun _ _ h => h)
  simp only [Value.slice.injEq] at hv
  obtain ⟨rfl, _, _⟩ := hv
  exact ⟨css, hr, h2, fun i cs t hc ht => ⟨(h3 i cs t hc ht).1, hE _ _ (h3 i cs t hc ht).2⟩⟩
theorem RowW.lt {τ : Type} {EW : World → List Value → τ → Prop} {k : Nat} {e : TypeId} {base : Nat} {w : World} {v : Value} {l : List τ} (h : RowW EW k e base w v l) {g : Nat} (hg : g ∈ ob v) : base ≤ g ∧ g < w.heap.size := by
  obtain ⟨css, h1, _⟩ := h
  exact h1.lt hg
theorem Own.blkOf {w : World} {b : Nat} {e : TypeId} {size n : Nat} {v : Value} {cs : List Value} (h : Own w b e size v n cs) {k : Nat} (hk : k ∈ ob v) : ∃ cur, Blk w k e cur := by
  rcases h.2 with ⟨rfl, _⟩ | ⟨g', cap, cur, rfl, hg, hh, r⟩
  · simp [ob, Value.ownBlock] at hk
  · have : k = g' := by simpa [ob, Value.ownBlock] using hk
    subst this
    exact ⟨cur.toList, by unfold Blk; simpa using hh⟩
theorem RowW.blkOf {τ : Type} {EW : World → List Value → τ → Prop} {k : Nat} {e : TypeId} {base : Nat} {w : World} {v : Value} {l : List τ} (h : RowW EW k e base w v l) {g : Nat} (hg : g ∈ ob v) : ∃ cur, Blk w g e cur := by
  obtain ⟨css, h1, _⟩ := h
  exact h1.blkOf hg
theorem RowW.ne {τ : Type} {EW : World → List Value → τ → Prop} {k : Nat} {e : TypeId} {base : Nat} {w : World} {v : Value} {l : List τ} (h : RowW EW k e base w v l) {g : Nat} {t : TypeId} {cs : List Value} (hb : Blk w g t cs) (ht : e ≠ t) : g ∉ ob v := fun hm => by
  obtain ⟨cur, hc⟩ := h.blkOf hm
  exact hc.ne hb ht rfl
/-- Own rows of one type stay where rows of another type are written. -/
theorem Own.frT {w w' : World} {b b' : Nat} {e e' : TypeId} {size size' n n' : Nat} {v v' : Value} {cs cs' : List Value} (h : Own w b e size v n cs) (h' : Own w b' e' size' v' n' cs') (f : Fr (ob v') w w') (ht : e ≠ e') : Own w' b e size v n cs :=
  h.fr f (fun g hg hm => by
    obtain ⟨c1, h1⟩ := h.blkOf hg
    obtain ⟨c2, h2⟩ := h'.blkOf hm
    exact h1.ne h2 ht rfl)
section
variable {P : Program}
/-- One thing more. -/
theorem wpList_appW {τ : Type} {EW : World → List Value → τ → Prop} {w : World} {ops : Array Oper} {rest : List Oper} {o : Oper} {a : Act} {Q : Exit → Act → World → Prop} (hgd : o.guard = none) (s y : Operand) (t tx : TypeId)
    (ho : o.op = .call { callee := .builtin .append, args := #[s, y], argTypes := #[t, tx] })
    (base : Nat) (e e' : TypeId) (zc : List Value) (k bytes : Nat) (ht : P.underlying t = some (.slice e)) (htx : P.underlying tx = some (.slice e')) (hi : (P.info? e).map (fun i => (i.zero.map (·.cells), i.size, i.bytes)) = some (some zc.toArray, k, bytes)) (hzc : zc.length = k) (hk0 : 0 < k)
    (v : Value) (l : List τ) (hv : a.eval s = v) (h : RowW EW k e base w v l)
    (g : Nat) (c1 : Nat) (hx : a.eval y = .slice (some ⟨g, 0, none⟩) 1 c1) (e1 : TypeId) (cs : List Value) (hg : Blk w g e1 cs) (hcs : cs.length = k) (hone : ∀ u ∈ cs, u.oneCell' = true) (x : τ) (hel : EW w cs x)
    (h63 : l.length + 1 ≤ maxLen) (hbytes : (l.length + 1) * bytes ≤ 140737488355328) (hbase : base ≤ w.heap.size)
    (hEW : ∀ w' cs t, Fr (ob v) w w' → EW w cs t → EW w' cs t)
    (hK : ∀ v' w', RowW EW k e base w' v' (l ++ [x]) → Fr (ob v) w w' → (ob v' = ob v ∨ ob v' = [w.heap.size]) → wpList P ops Q rest (a.put o.dst v') w') : wpList P ops Q (o :: rest) a w := by
  obtain ⟨css, h1, h2, h3⟩ := h
  cases hinf : P.info? e with
  | none => rw [hinf] at hi; cases hi
  | some i =>
    rw [hinf] at hi
    simp only [Option.map_some, Option.some.injEq, Prod.mk.injEq] at hi
    obtain ⟨hz, hsz, hby⟩ := hi
    cases hzz : i.zero with
    | none => rw [hzz] at hz; cases hz
    | some z =>
      rw [hzz] at hz
      simp only [Option.map_some, Option.some.injEq] at hz
      have hrd : Rd w (some ⟨g, 0, none⟩) cs := by have := hg.rd0 cs.length; rwa [List.take_length] at this
      refine wpList_app hgd s y t tx ho base e i z k bytes ht hinf hzz hsz hby (by rw [hz]; simpa using hzc) hk0 v l.length (flat id css) hv h1 _ 1 cs hx (hrd.src htx (by rw [hcs, Nat.one_mul]) hone) h63 hbytes hbase ?_
      intro v' w' o' f' k' _
      refine hK v' w' ⟨css ++ [cs], ?_, by simp [h2], fun j cs' t hc ht => ?_⟩ f' k'
      · rw [flat_append, List.length_append]
        simpa [flat] using o'
      · rcases Nat.lt_or_ge j css.length with hj | hj
        · rw [List.getElem?_append_left hj] at hc
          rw [List.getElem?_append_left (by omega)] at ht
          exact ⟨(h3 j cs' t hc ht).1, hEW _ _ _ f' (h3 j cs' t hc ht).2⟩
        · rw [List.getElem?_append_right hj] at hc
          rw [List.getElem?_append_right (by omega), ← h2] at ht
          rcases hq : j - css.length with _ | q
          · rw [hq] at hc ht
            simp only [List.getElem?_cons_zero, Option.some.injEq] at hc ht
            subst hc ht
            exact ⟨hcs, hEW _ _ _ f' hel⟩
          · rw [hq] at hc
            simp at hc
end
end Go.Fur
