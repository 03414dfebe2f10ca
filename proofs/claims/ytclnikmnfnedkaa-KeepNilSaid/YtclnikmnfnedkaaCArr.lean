/- Memory: blocks that are known whole, frames, slices that are read, and the laws of the walk over them. No program is named here. -/
import Derived.WalkKit
import Derived.WalkSpells
import Derived.Deep.MidRow
import Derived.Deep.AppendSrc
import Derived.Laws.CopyOwn
import Derived.Maps.AppendAt
import Derived.Lib.Hide
import Derived.Deep.Draws
namespace Go.Fur
open Go Go.RowKit

/-! ### Blocks known whole -/
/-- Block b holds the cells cs, of element type t, none of them frozen. -/
def Blk (w : World) (b : Nat) (t : TypeId) (cs : List Value) : Prop := w.heap[b]? = some (.cells cs.toArray t (0, 0))

theorem Blk.lt {w : World} {b : Nat} {t : TypeId} {cs : List Value} (h : Blk w b t cs) : b < w.heap.size := (Array.getElem?_eq_some_iff.1 h).1
theorem Blk.cell {w : World} {b : Nat} {t : TypeId} {cs : List Value} (h : Blk w b t cs) (i : Nat) : w.cell? ⟨b, i, none⟩ = cs[i]? := by
  have := cell_of_row w b i cs.toArray t (0, 0) h
  simpa using this
theorem Blk.cellAt {w : World} {b : Nat} {t : TypeId} {cs : List Value} (h : Blk w b t cs) {i : Nat} {v : Value} (hv : cs[i]? = some v) : w.cell? ⟨b, i, none⟩ = some v := (h.cell i).trans hv
theorem Blk.frozen {w : World} {b : Nat} {t : TypeId} {cs : List Value} (h : Blk w b t cs) (i : Nat) : w.frozen? ⟨b, i, none⟩ = false := frozen_of_row w b i cs.toArray t h
theorem Blk.set {w : World} {b : Nat} {t : TypeId} {cs : List Value} (h : Blk w b t cs) (i : Nat) (v : Value) : Blk (w.setCell ⟨b, i, none⟩ v) b t (cs.set i v) := by
  have := heap_setCell_same w b i cs.toArray t v h
  unfold Blk
  rw [this]
  simp
theorem Blk.ne {w : World} {b b' : Nat} {t t' : TypeId} {cs cs' : List Value} (h : Blk w b t cs) (h' : Blk w b' t' cs') (ht : t ≠ t') : b ≠ b' := by
  rintro rfl
  unfold Blk at h h'
  rw [h] at h'
  injection h' with h'
  injection h' with _ h2
  exact ht h2
theorem Blk.new (w : World) (t : TypeId) (cs : List Value) : Blk (w.alloc (.cells cs.toArray t)) w.heap.size t cs := heap_alloc_new w _
theorem Blk.newA (w : World) (t : TypeId) (cs : Array Value) : Blk (w.alloc (.cells cs t)) w.heap.size t cs.toList := by
  unfold Blk
  simpa using heap_alloc_new w (.cells cs t)
theorem Blk.range {w : World} {b : Nat} {t : TypeId} {cs : List Value} (h : Blk w b t cs) (o n : Nat) : w.rangeAt b o ((cs.drop o).take n) := fun j v hv => by
  rw [List.getElem?_take] at hv
  split at hv
  · rw [List.getElem?_drop] at hv
    exact h.cellAt hv
  · cases hv
theorem Blk.there {w : World} {b : Nat} {t : TypeId} {cs : List Value} (h : Blk w b t cs) (o n : Nat) (hn : o + n ≤ cs.length) : w.there b o n := fun j hj => by
  refine ⟨?_, h.frozen _⟩
  rw [h.cell, List.getElem?_eq_getElem (by omega)]
  rfl

/-! ### Frames: of the blocks that were there all outside S are as they were -/
structure Fr (S : List Nat) (w w' : World) : Prop where
  os : w'.os = w.os
  tape : w'.tape = w.tape
  output : w'.output = w.output
  size : w.heap.size ≤ w'.heap.size
  block : ∀ k, k < w.heap.size → k ∉ S → w'.heap[k]? = w.heap[k]?

theorem Fr.refl (S : List Nat) (w : World) : Fr S w w := ⟨rfl, rfl, rfl, Nat.le_refl _, fun _ _ _ => rfl⟩
theorem Fr.trans {S S' : List Nat} {a b c : World} (h : Fr S a b) (k : Fr S' b c) (hS : ∀ k ∈ S', k < a.heap.size → k ∈ S) : Fr S a c :=
  ⟨k.os.trans h.os, k.tape.trans h.tape, k.output.trans h.output, Nat.le_trans h.size k.size, fun i hi hn =>
    (k.block i (Nat.lt_of_lt_of_le hi h.size) (fun hm => hn (hS i hm hi))).trans (h.block i hi hn)⟩
theorem Fr.trans0 {S : List Nat} {a b c : World} (h : Fr S a b) (k : Fr [] b c) : Fr S a c := h.trans k (by simp)
theorem Fr.trans1 {S : List Nat} {a b c : World} (h : Fr S a b) (k : Fr S b c) : Fr S a c := h.trans k (fun _ h _ => h)
theorem Fr.mono {S S' : List Nat} {a b : World} (h : Fr S a b) (hS : ∀ k ∈ S, k < a.heap.size → k ∈ S') : Fr S' a b :=
  ⟨h.os, h.tape, h.output, h.size, fun i hi hn => h.block i hi (fun hm => hn (hS i hm hi))⟩
theorem Fr.ext {S : List Nat} {a b : World} (h : Fr [] a b) : Fr S a b := h.mono (by simp)
theorem Fr.drew {S : List Nat} {a b : World} (h : Fr S a b) : Fr S a b.drew := ⟨h.os, h.tape, h.output, h.size, h.block⟩
theorem Fr.drewN {S : List Nat} {a b : World} (h : Fr S a b) (n : Nat) : Fr S a (b.drewN n) := ⟨h.os, h.tape, h.output, h.size, h.block⟩
theorem Fr.alloc {S : List Nat} {a b : World} (h : Fr S a b) (o : Obj) : Fr S a (b.alloc o) :=
  h.trans0 ⟨rfl, rfl, rfl, by simp, fun k hk _ => Below.heap_alloc _ _ _ hk⟩
theorem Fr.setCell {S : List Nat} {a b : World} (h : Fr S a b) {p : Addr} (hp : p.block ∈ S ∨ a.heap.size ≤ p.block) (u : Value) : Fr S a (b.setCell p u) :=
  h.trans (S' := [p.block]) ⟨rfl, rfl, rfl, by simp [World.setCell], fun k _ hn => Below.heap_setCell _ _ _ _ (by simpa using hn)⟩
    (fun k hk hlt => by simp at hk; subst hk; rcases hp with hp | hp; exact hp; omega)
theorem heap_setCells (b : Nat) : ∀ (vs : List Value) (o : Nat) (w : World) (k : Nat), k ≠ b → (w.setCells b o vs).heap[k]? = w.heap[k]?
  | [], _, _, _, _ => rfl
  | v :: vs, o, w, k, hk => (heap_setCells b vs (o + 1) (w.setCell ⟨b, o, none⟩ v) k hk).trans (Below.heap_setCell w ⟨b, o, none⟩ v k hk)
theorem size_setCells (b : Nat) : ∀ (vs : List Value) (o : Nat) (w : World), (w.setCells b o vs).heap.size = w.heap.size
  | [], _, _ => rfl
  | v :: vs, o, w => (size_setCells b vs (o + 1) (w.setCell ⟨b, o, none⟩ v)).trans (by simp [World.setCell])
theorem rest_setCells (b : Nat) : ∀ (vs : List Value) (o : Nat) (w : World), (w.setCells b o vs).os = w.os ∧ (w.setCells b o vs).tape = w.tape ∧ (w.setCells b o vs).output = w.output
  | [], _, _ => ⟨rfl, rfl, rfl⟩
  | v :: vs, o, w => rest_setCells b vs (o + 1) (w.setCell ⟨b, o, none⟩ v)
theorem Fr.setCells {S : List Nat} {a b : World} (h : Fr S a b) {g : Nat} (o : Nat) (hp : g ∈ S ∨ a.heap.size ≤ g) (vs : List Value) : Fr S a (b.setCells g o vs) :=
  h.trans (S' := [g]) ⟨(rest_setCells g vs o b).1, (rest_setCells g vs o b).2.1, (rest_setCells g vs o b).2.2, by rw [size_setCells]; exact Nat.le_refl _, fun k _ hn => heap_setCells g vs o b k (by simpa using hn)⟩
    (fun k hk hlt => by simp at hk; subst hk; rcases hp with hp | hp; exact hp; omega)
theorem Fr.grown {S : List Nat} {a b c : World} {row : Option Nat} (h : Fr S a b) (hg : b.grownBy c row) (hr : ∀ k, row = some k → k ∈ S ∨ a.heap.size ≤ k) : Fr S a c :=
  ⟨hg.os.trans h.os, hg.tape.trans h.tape, hg.output.trans h.output, Nat.le_trans h.size hg.size, fun i hi hn =>
    (hg.block i (Nat.lt_of_lt_of_le hi h.size) (fun e => by rcases hr i e.symm with h1 | h1; exact hn h1; omega)).trans (h.block i hi hn)⟩
theorem Fr.below {S : List Nat} {a b : World} {B : Nat} (h : Fr S a b) (hB : B ≤ a.heap.size) (hS : ∀ k ∈ S, B ≤ k) : Below B a b :=
  ⟨h.os, h.tape, h.output, h.size, fun k hk => h.block k (Nat.lt_of_lt_of_le hk hB) (fun hm => by have := hS k hm; omega)⟩
theorem Fr.of_below {a b : World} (h : Below a.heap.size a b) (S : List Nat) : Fr S a b := ⟨h.os, h.tape, h.output, h.size, fun k hk _ => h.block k hk⟩

theorem Blk.fr {S : List Nat} {w w' : World} {b : Nat} {t : TypeId} {cs : List Value} (h : Blk w b t cs) (k : Fr S w w') (hb : b ∉ S) : Blk w' b t cs := (k.block b h.lt hb).trans h
theorem Blk.drew {w : World} {b : Nat} {t : TypeId} {cs : List Value} (h : Blk w b t cs) : Blk w.drew b t cs := h
theorem Blk.drewN {w : World} {b : Nat} {t : TypeId} {cs : List Value} (h : Blk w b t cs) (n : Nat) : Blk (w.drewN n) b t cs := h
theorem Blk.alloc {w : World} {b : Nat} {t : TypeId} {cs : List Value} (h : Blk w b t cs) (o : Obj) : Blk (w.alloc o) b t cs := h.fr ((Fr.refl [] w).alloc o) (by simp)
theorem Blk.far {w : World} {b : Nat} {t : TypeId} {cs : List Value} (h : Blk w b t cs) {p : Addr} (hp : b ≠ p.block) (v : Value) : Blk (w.setCell p v) b t cs := (Below.heap_setCell w p v b hp).trans h
theorem Blk.farN {w : World} {b : Nat} {t : TypeId} {cs : List Value} (h : Blk w b t cs) {g : Nat} (o : Nat) (hp : b ≠ g) (vs : List Value) : Blk (w.setCells g o vs) b t cs := (heap_setCells g vs o w b hp).trans h

theorem splice_nil {α : Type} (L : List α) (o : Nat) : splice L o [] = L := by simp [splice]
theorem splice_cons {α : Type} (L : List α) (o : Nat) (v : α) (vs : List α) (h : o + vs.length < L.length) : splice (L.set o v) (o + 1) vs = splice L o (v :: vs) := by
  have ho : o < L.length := by omega
  have e : L.set o v = L.take o ++ v :: L.drop (o + 1) := by rw [List.set_eq_take_append_cons_drop, if_pos ho]
  have hl : (L.take o).length = o := by rw [List.length_take]; omega
  unfold splice
  have e1 : (L.set o v).take (o + 1) = L.take o ++ [v] := by
    rw [e, List.take_append, hl, List.take_of_length_le (by omega)]
    simp
  have e2 : (L.set o v).drop (o + 1 + vs.length) = L.drop (o + (v :: vs).length) := by
    rw [List.drop_set_of_lt (by omega)]
    congr 1
    simp
    omega
  rw [e1, e2]
  simp
theorem Blk.setN {b : Nat} {t : TypeId} : ∀ (vs : List Value) (o : Nat) {w : World} {cs : List Value} (_ : Blk w b t cs) (_ : o + vs.length ≤ cs.length), Blk (w.setCells b o vs) b t (splice cs o vs)
  | [], o, w, cs, h, _ => by rw [splice_nil]; exact h
  | v :: vs, o, w, cs, h, hn => by
    rw [← splice_cons cs o v vs (by simp at hn; omega)]
    exact Blk.setN vs (o + 1) (h.set o v) (by simp at hn ⊢; omega)

/-! ### Slices that are read: from address a on lie the cells cs -/
def Rd (w : World) (a : Option Addr) (cs : List Value) : Prop := cs ≠ [] → ∃ b o, a = some ⟨b, o, none⟩ ∧ w.rangeAt b o cs
theorem Rd.nil (w : World) (a : Option Addr) : Rd w a [] := fun h => absurd rfl h
theorem Rd.mk {w : World} {b o : Nat} {cs : List Value} (h : w.rangeAt b o cs) : Rd w (some ⟨b, o, none⟩) cs := fun _ => ⟨b, o, rfl, h⟩
theorem rangeAt_fr {S : List Nat} {w w' : World} {b o : Nat} {cs : List Value} (h : w.rangeAt b o cs) (k : Fr S w w') (hb : b ∉ S) : w'.rangeAt b o cs := fun j v hv => by
  have hc := h j v hv
  have hlt := World.block_lt_of_cell? w _ hc
  rw [World.cell?_of_block (w := w) (w' := w') (k.block b hlt hb)]
  exact hc
theorem Rd.fr {S : List Nat} {w w' : World} {a : Option Addr} {cs : List Value} (h : Rd w a cs) (k : Fr S w w') (hb : ∀ x, a = some x → x.block ∉ S) : Rd w' a cs := fun hn => by
  obtain ⟨b, o, rfl, hr⟩ := h hn
  exact ⟨b, o, rfl, rangeAt_fr hr k (hb _ rfl)⟩
theorem Rd.fr0 {w w' : World} {a : Option Addr} {cs : List Value} (h : Rd w a cs) (k : Fr [] w w') : Rd w' a cs := h.fr k (by simp)
theorem Blk.rd {w : World} {b : Nat} {t : TypeId} {cs : List Value} (h : Blk w b t cs) (o n : Nat) : Rd w (some ⟨b, o, none⟩) ((cs.drop o).take n) := Rd.mk (h.range o n)
theorem Blk.rd0 {w : World} {b : Nat} {t : TypeId} {cs : List Value} (h : Blk w b t cs) (n : Nat) : Rd w (some ⟨b, 0, none⟩) (cs.take n) := by simpa using h.rd 0 n
/-- Where what is read lies: below the heap's end. -/
theorem Rd.lt {w : World} {a : Option Addr} {cs : List Value} (h : Rd w a cs) (hn : cs ≠ []) : ∃ b o, a = some ⟨b, o, none⟩ ∧ b < w.heap.size := by
  obtain ⟨b, o, rfl, hr⟩ := h hn
  refine ⟨b, o, rfl, ?_⟩
  obtain ⟨v, vs, rfl⟩ := List.exists_cons_of_ne_nil hn
  exact World.block_lt_of_cell? w _ (hr 0 v rfl)
/-- Another spelling of the address: one that leads nowhere may be forgotten. -/
theorem Rd.src {P : Program} {w : World} {a : Option Addr} {cs : List Value} (h : Rd w a cs) {size n c : Nat} {tx e' : TypeId} (hk : P.underlying tx = some (.slice e')) (hl : cs.length = n * size) (h1 : ∀ u ∈ cs, u.oneCell' = true) :
    Src P size tx (.slice a n c) n cs w := by
  by_cases hn : cs = []
  · subst hn
    have h0 : n * size = 0 := by simpa using hl.symm
    cases a with
    | none => exact ⟨.inl ⟨e', hk⟩, fun _ => rfl, run_firstCells_none w size n n c, run_firstCells_none w.drew size n n c, hl, h1⟩
    | some a => exact Src.ofSlice w hk a n c [] hl (by simp) h1
  · obtain ⟨b, o, rfl, hr⟩ := h hn
    refine Src.ofSlice w hk ⟨b, o, none⟩ n c cs hl (fun j u hu => ?_) h1
    rw [Addr.add_mid]
    exact hr j u hu

/-! ### Rows of one's own: a block of its own, read from its head on -/
/-- v is nil and cs empty, or v leads to the head of a block g ≥ base of cap elements of type e, of size cells each, the first n of which are cs. -/
def Own (w : World) (base : Nat) (e : TypeId) (size : Nat) (v : Value) (n : Nat) (cs : List Value) : Prop := w.ownsRow base e size v n cs
def ob (v : Value) : List Nat := v.ownBlock.toList
theorem mem_ob {v : Value} {k : Nat} : k ∈ ob v ↔ v.ownBlock = some k := by simp [ob]
@[simp] theorem ob_nil : ob (.slice none 0 0) = [] := rfl
@[simp] theorem ob_some (a : Addr) (n c : Nat) : ob (.slice (some a) n c) = [a.block] := rfl
theorem Own.len {w : World} {base : Nat} {e : TypeId} {size n : Nat} {v : Value} {cs : List Value} (h : Own w base e size v n cs) : cs.length = n * size := h.1
theorem Own.nil (w : World) (base : Nat) (e : TypeId) (size : Nat) : Own w base e size (.slice none 0 0) 0 [] := World.ownsRow_nil w base e size
theorem Own.lt {w : World} {base : Nat} {e : TypeId} {size n : Nat} {v : Value} {cs : List Value} (h : Own w base e size v n cs) {k : Nat} (hk : k ∈ ob v) : base ≤ k ∧ k < w.heap.size := World.ownsRow.lt h k (mem_ob.1 hk)
theorem Own.fr {S : List Nat} {w w' : World} {base : Nat} {e : TypeId} {size n : Nat} {v : Value} {cs : List Value} (h : Own w base e size v n cs) (k : Fr S w w') (hb : ∀ g ∈ ob v, g ∉ S) : Own w' base e size v n cs := by
  obtain ⟨h1, h2⟩ := h
  refine ⟨h1, ?_⟩
  rcases h2 with h2 | ⟨g, cap, cur, hv, hg, hh, r⟩
  · exact Or.inl h2
  · exact Or.inr ⟨g, cap, cur, hv, hg, (k.block g (Array.getElem?_eq_some_iff.1 hh).1 (hb g (by subst hv; simp))).trans hh, r⟩
theorem Own.fr0 {w w' : World} {base : Nat} {e : TypeId} {size n : Nat} {v : Value} {cs : List Value} (h : Own w base e size v n cs) (k : Fr [] w w') : Own w' base e size v n cs := h.fr k (by simp)
theorem Own.base {w : World} {base base' : Nat} {e : TypeId} {size n : Nat} {v : Value} {cs : List Value} (h : Own w base e size v n cs) (hb : base' ≤ base) : Own w base' e size v n cs := by
  obtain ⟨h1, h2⟩ := h
  refine ⟨h1, ?_⟩
  rcases h2 with h2 | ⟨g, cap, cur, hv, hg, r⟩
  · exact Or.inl h2
  · exact Or.inr ⟨g, cap, cur, hv, by omega, r⟩
theorem Own.form {w : World} {base : Nat} {e : TypeId} {size n : Nat} {v : Value} {cs : List Value} (h : Own w base e size v n cs) : ∃ a c, v = .slice a n c ∧ n ≤ c ∧ c ≤ maxLen ∧ Rd w a cs := by
  rcases h.2 with ⟨rfl, rfl⟩ | ⟨g, cap, cur, rfl, _, hg, hn, hm, hs, ht⟩
  · refine ⟨none, 0, rfl, Nat.le_refl _, Nat.zero_le _, ?_⟩
    have : cs = [] := List.eq_nil_of_length_eq_zero (by simpa using h.1)
    subst this
    exact Rd.nil _ _
  · refine ⟨_, cap, rfl, hn, hm, ?_⟩
    have hb : Blk w g e cur.toList := by unfold Blk; simpa using hg
    rw [← ht]
    exact hb.rd0 _
/-- With an element there is a block. -/
theorem Own.blk {w : World} {base : Nat} {e : TypeId} {size n : Nat} {v : Value} {cs : List Value} (h : Own w base e size v n cs) (hn : 0 < n) : ∃ g cap cur, v = .slice (some ⟨g, 0, none⟩) n cap ∧ base ≤ g ∧ Blk w g e cur ∧ n ≤ cap ∧ cap ≤ maxLen ∧ cur.length = cap * size ∧ cur.take (n * size) = cs := by
  rcases h.2 with ⟨rfl, rfl⟩ | ⟨g, cap, cur, rfl, hg, hh, h1, h2, h3, h4⟩
  · omega
  · exact ⟨g, cap, cur.toList, rfl, hg, by unfold Blk; simpa using hh, h1, h2, by simpa using h3, h4⟩
theorem Own.of_blk {w : World} {base g : Nat} {e : TypeId} {size n cap : Nat} {cur : List Value} (hg : base ≤ g) (hb : Blk w g e cur) (hn : n ≤ cap) (hm : cap ≤ maxLen) (hs : cur.length = cap * size) :
    Own w base e size (.slice (some ⟨g, 0, none⟩) n cap) n (cur.take (n * size)) :=
  ⟨by rw [List.length_take, hs]; exact Nat.min_eq_left (Nat.mul_le_mul_right _ hn), .inr ⟨g, cap, cur.toArray, rfl, hg, hb, hn, hm, by simpa using hs, rfl⟩⟩

/-- append(v, x..), v a row of one's own, x whatever is read. -/
theorem run_app {P : Program} (w : World) (base : Nat) (t tx ty e : TypeId) (i : TypeInfo) (z : Value) (size bytes : Nat) (ht : P.underlying t = some (.slice e)) (hi : P.info? e = some i) (hz : i.zero = some z)
    (hsize : i.size = size) (hby : i.bytes = bytes) (hzs : z.cells.size = size) (hsz : 0 < size)
    (v : Value) (n : Nat) (xs : List Value) (hown : Own w base e size v n xs)
    (x : Value) (m : Nat) (news : List Value) (hs : Src P size tx x m news w)
    (h63 : n + m ≤ maxLen) (hbytes : (n + m) * bytes ≤ 140737488355328) (hbase : base ≤ w.heap.size) :
    ∃ v' w', (Builtin.append_ #[t, tx] ty #[v, x]).run P w = .ok v' w' ∧ Own w' base e size v' (n + m) (xs ++ news) ∧ Fr (ob v) w w' ∧ (ob v' = ob v ∨ ob v' = [w.heap.size]) ∧ (v' = .slice none 0 0 ↔ v = .slice none 0 0 ∧ m = 0) := by
  subst hsize; subst hby
  have hnl := hs.newsLen
  rcases hown.2 with ⟨rfl, rfl⟩ | ⟨g, cap, cur, rfl, hg, hh, h1, h2, h3, h4⟩
  · have hx0 : xs = [] := List.eq_nil_of_length_eq_zero (by simpa using hown.1)
    subst hx0
    by_cases hm : m = 0
    · subst hm
      have hn0 : news = [] := List.eq_nil_of_length_eq_zero (by simpa using hnl)
      subst hn0
      refine ⟨.slice none 0 0, w, ?_, hown, Fr.refl _ _, .inl rfl, by simp⟩
      rcases hs.kind with ⟨e', hk⟩ | hk <;> simp [Builtin.append_, run_underlying ht, run_underlying hk, sizeOf, typeInfo, hi, hs.len, hs.cells]
    · have hfit : Builtin.nextslicecap (0 + m) 0 * i.bytes ≤ 281474976710656 := growslice_fits (by omega) hbytes
      refine ⟨_, _, run_append_grow_src w t tx ty e i z ht hi hz none 0 0 [] (run_firstCells_none w.drew i.size 0 0 0) x m news hs (by omega) (by simp only [maxLen] at h63; omega) hfit, ?_, ?_, .inr (by simp), by simp [hm]⟩
      · have hge := grownCap_ge w (0 + m) 0 e
        have hle := grownCap_le_maxLen w (0 + m) 0 e h63
        have hb := Blk.newA w.drew e (([] ++ news).toArray ++ Builtin.zeroCells z.cells (grownCap w (0 + m) 0 e - (0 + m)))
        have hsz : (([] ++ news).toArray ++ Builtin.zeroCells z.cells (grownCap w (0 + m) 0 e - (0 + m))).toList.length = grownCap w (0 + m) 0 e * i.size := by
          generalize grownCap w (0 + m) 0 e = G at hge ⊢
          simp only [Array.length_toList, Array.size_append, List.nil_append, List.size_toArray, size_zeroCells, hnl, hzs, ← Nat.add_mul]
          congr 1
          omega
        have := Own.of_blk (base := base) (size := i.size) (by simpa using hbase) hb hge hle hsz
        rw [Array.toList_append] at this
        simp only [List.nil_append] at this ⊢
        rw [List.take_append_of_le_length (by simp [hnl]), List.take_of_length_le (by simp [hnl])] at this
        exact this
      · exact ((Fr.refl _ w).drew).alloc _
  · have hlx : xs.length = n * i.size := hown.1
    by_cases hroom : n + m ≤ cap
    · have hb : Blk w g e cur.toList := by unfold Blk; simpa using hh
      have hfit : n * i.size + news.length ≤ cur.toList.length := by rw [hnl, Array.length_toList, h3, ← Nat.add_mul]; exact Nat.mul_le_mul_right _ hroom
      refine ⟨_, _, run_append_room_src w t tx ty e i ht hi g 0 n cap x m news hs hroom (fun j hj => ?_) (fun j _ => hb.frozen _), ?_, ?_, .inl (by simp), by simp⟩
      · rw [hb.cell, List.getElem?_eq_getElem (by omega)]; rfl
      · have hb' := hb.setN news (0 + n * i.size) (by simpa using hfit)
        have := Own.of_blk (base := base) (size := i.size) hg hb' hroom h2 (by rw [length_splice _ _ _ (by simpa using hfit)]; simpa using h3)
        have e1 : (splice cur.toList (0 + n * i.size) news).take ((n + m) * i.size) = xs ++ news := by
          unfold splice
          rw [Nat.zero_add, h4, ← List.append_assoc]
          exact List.take_left' (by simp [hlx, hnl, Nat.add_mul])
        rw [e1] at this
        exact this
      · exact (Fr.refl _ w).setCells _ (.inl (by simp)) _
    · have hb : Blk w g e cur.toList := by unfold Blk; simpa using hh
      have hold : (Builtin.firstCells i.size n (.slice (some ⟨g, 0, none⟩) n cap)).run P w.drew = .ok xs.toArray w.drew := by
        refine run_firstCells_some w.drew i.size n ⟨g, 0, none⟩ n cap xs hlx (fun j u hu => ?_)
        rw [Addr.add_mid, Nat.zero_add]
        have : cur.toList[j]? = some u := by
          rw [← h4] at hu
          rw [List.getElem?_take] at hu
          split at hu
          · exact hu
          · cases hu
        exact hb.drew.cellAt this
      have hfit : Builtin.nextslicecap (n + m) cap * i.bytes ≤ 281474976710656 := growslice_fits (by omega) hbytes
      refine ⟨_, _, run_append_grow_src w t tx ty e i z ht hi hz _ n cap xs hold x m news hs (by omega) (by simp only [maxLen] at h63; omega) hfit, ?_, ?_, .inr (by simp), by simp⟩
      · have hge := grownCap_ge w (n + m) cap e
        have hle := grownCap_le_maxLen w (n + m) cap e h63
        have hb := Blk.newA w.drew e ((xs ++ news).toArray ++ Builtin.zeroCells z.cells (grownCap w (n + m) cap e - (n + m)))
        have := Own.of_blk (base := base) (size := i.size) (by simpa using hbase) hb hge hle (by simp [size_zeroCells, hlx, hnl, hzs, ← Nat.add_mul]; congr 1; omega)
        simp only [Array.toList_append] at this
        rw [List.take_append_of_le_length (by simp [hlx, hnl, Nat.add_mul]), List.take_of_length_le (by simp [hlx, hnl, Nat.add_mul])] at this
        exact this
      · exact ((Fr.refl _ w).drew).alloc _

theorem wp_app {P : Program} {w : World} {o : Oper} {a : Act} {K : Act → World → Prop} {Q : Exit → Act → World → Prop} (s y : Operand) (t tx : TypeId)
    (ho : o.op = .call { callee := .builtin .append, args := #[s, y], argTypes := #[t, tx] })
    (base : Nat) (e : TypeId) (i : TypeInfo) (z : Value) (size bytes : Nat) (ht : P.underlying t = some (.slice e)) (hi : P.info? e = some i) (hz : i.zero = some z)
    (hsize : i.size = size) (hby : i.bytes = bytes) (hzs : z.cells.size = size) (hsz : 0 < size)
    (v : Value) (n : Nat) (xs : List Value) (hv : a.eval s = v) (hown : Own w base e size v n xs)
    (x : Value) (m : Nat) (news : List Value) (hx : a.eval y = x) (hs : Src P size tx x m news w)
    (h63 : n + m ≤ maxLen) (hbytes : (n + m) * bytes ≤ 140737488355328) (hbase : base ≤ w.heap.size)
    (h : ∀ v' w', Own w' base e size v' (n + m) (xs ++ news) → Fr (ob v) w w' → (ob v' = ob v ∨ ob v' = [w.heap.size]) → (v' = .slice none 0 0 ↔ v = .slice none 0 0 ∧ m = 0) → K (a.put o.dst v') w') : o.wp P a w K Q := by
  obtain ⟨v', w', hr, h2, h3, h4, h5⟩ := run_app (P := P) w base t tx o.type e i z size bytes ht hi hz hsize hby hzs hsz v n xs hown x m news hs h63 hbytes hbase
  unfold Oper.wp execOp
  simp only [ho, resolve, invoke, builtin, Sem.run_bind, Sem.run_pure, Result.andThen_ok, List.map_toArray, List.map_cons, List.map_nil, hv, hx, hr]
  exact h v' w' h2 h3 h4 h5
theorem wpList_app {P : Program} {w : World} {ops : Array Oper} {rest : List Oper} {o : Oper} {a : Act} {Q : Exit → Act → World → Prop} (hgd : o.guard = none) (s y : Operand) (t tx : TypeId)
    (ho : o.op = .call { callee := .builtin .append, args := #[s, y], argTypes := #[t, tx] })
    (base : Nat) (e : TypeId) (i : TypeInfo) (z : Value) (size bytes : Nat) (ht : P.underlying t = some (.slice e)) (hi : P.info? e = some i) (hz : i.zero = some z)
    (hsize : i.size = size) (hby : i.bytes = bytes) (hzs : z.cells.size = size) (hsz : 0 < size)
    (v : Value) (n : Nat) (xs : List Value) (hv : a.eval s = v) (hown : Own w base e size v n xs)
    (x : Value) (m : Nat) (news : List Value) (hx : a.eval y = x) (hs : Src P size tx x m news w)
    (h63 : n + m ≤ maxLen) (hbytes : (n + m) * bytes ≤ 140737488355328) (hbase : base ≤ w.heap.size)
    (h : ∀ v' w', Own w' base e size v' (n + m) (xs ++ news) → Fr (ob v) w w' → (ob v' = ob v ∨ ob v' = [w.heap.size]) → (v' = .slice none 0 0 ↔ v = .slice none 0 0 ∧ m = 0) → wpList P ops Q rest (a.put o.dst v') w') : wpList P ops Q (o :: rest) a w :=
  wpList_plain hgd fun _ hK => wp_app s y t tx ho base e i z size bytes ht hi hz hsize hby hzs hsz v n xs hv hown x m news hx hs h63 hbytes hbase fun v' w' h2 h3 h4 h5 => hK _ _ (h v' w' h2 h3 h4 h5)
end Go.Fur
namespace Go.Fur
open Go Go.RowKit

/-! ### Flat rows: each element k cells -/
def flat {α : Type} (f : α → List Value) (xs : List α) : List Value := xs.flatMap f
theorem flat_nil {α : Type} (f : α → List Value) : flat f [] = [] := rfl
theorem flat_append {α : Type} (f : α → List Value) (xs ys : List α) : flat f (xs ++ ys) = flat f xs ++ flat f ys := by simp [flat]
theorem flat_cons {α : Type} (f : α → List Value) (x : α) (ys : List α) : flat f (x :: ys) = f x ++ flat f ys := by simp [flat]
theorem flat_length {α : Type} (f : α → List Value) (k : Nat) : ∀ (xs : List α) (_ : ∀ x ∈ xs, (f x).length = k), (flat f xs).length = xs.length * k
  | [], _ => by simp [flat]
  | x :: xs, h => by
    rw [flat_cons, List.length_append, h x (by simp), flat_length f k xs (fun y hy => h y (by simp [hy])), List.length_cons, Nat.succ_mul]
    omega
theorem flat_piece {α : Type} (f : α → List Value) (k : Nat) : ∀ (xs : List α) (_ : ∀ x ∈ xs, (f x).length = k) (i : Nat) (x : α) (_ : xs[i]? = some x), ((flat f xs).drop (i * k)).take k = f x
  | [], _, i, x, hi => by simp at hi
  | y :: xs, h, 0, x, hi => by
    simp at hi
    subst hi
    rw [flat_cons, Nat.zero_mul, List.drop_zero]
    exact List.take_left' (h _ (by simp))
  | y :: xs, h, i + 1, x, hi => by
    have hy := h y (by simp)
    rw [flat_cons, Nat.succ_mul, Nat.add_comm, ← List.drop_drop, List.drop_left' hy]
    exact flat_piece f k xs (fun z hz => h z (by simp [hz])) i x (by simpa using hi)
theorem splice_append_right {α : Type} (A L : List α) (o : Nat) (vs : List α) : splice (A ++ L) (A.length + o) vs = A ++ splice L o vs := by
  unfold splice
  rw [List.take_append, List.take_of_length_le (by omega), Nat.add_sub_cancel_left, Nat.add_assoc, List.drop_append, List.drop_eq_nil_of_le (by omega), Nat.add_sub_cancel_left]
  simp
theorem flat_splice {α : Type} (f : α → List Value) (k : Nat) : ∀ (xs : List α) (_ : ∀ x ∈ xs, (f x).length = k) (i : Nat) (_ : i < xs.length) (x : α) (_ : (f x).length = k), splice (flat f xs) (i * k) (f x) = flat f (xs.set i x)
  | [], _, i, hi, _, _ => by simp at hi
  | y :: xs, h, 0, _, x, hx => by
    rw [flat_cons, List.set_cons_zero, flat_cons, Nat.zero_mul]
    unfold splice
    rw [List.take_zero, List.nil_append, Nat.zero_add, hx, List.drop_left' (h y (by simp))]
  | y :: xs, h, i + 1, hi, x, hx => by
    have hy := h y (by simp)
    rw [flat_cons, List.set_cons_succ, flat_cons, ← flat_splice f k xs (fun z hz => h z (by simp [hz])) i (by simpa using hi) x hx, Nat.succ_mul, Nat.add_comm, ← hy, splice_append_right, hy]
theorem flat_take {α : Type} (f : α → List Value) (k : Nat) : ∀ (xs : List α) (_ : ∀ x ∈ xs, (f x).length = k) (i : Nat), (flat f xs).take (i * k) = flat f (xs.take i)
  | [], _, i => by simp [flat]
  | y :: xs, h, 0 => by simp [flat]
  | y :: xs, h, i + 1 => by
    have hy := h y (by simp)
    rw [flat_cons, List.take_succ_cons, flat_cons, ← flat_take f k xs (fun z hz => h z (by simp [hz])) i, Nat.succ_mul, Nat.add_comm, ← hy, List.take_length_add_append]

/-- Bytes as cells. -/
def bv (l : List Int) : List Value := l.map (Value.int .u8)
@[simp] theorem bv_length (l : List Int) : (bv l).length = l.length := by simp [bv]
theorem bv_one (l : List Int) : ∀ v ∈ bv l, v.oneCell' = true := fun v hv => by
  obtain ⟨_, _, rfl⟩ := List.mem_map.1 hv
  rfl
theorem bv_append (l m : List Int) : bv (l ++ m) = bv l ++ bv m := by simp [bv]
theorem bv_get (l : List Int) (i : Nat) : (bv l)[i]? = (l[i]?).map (Value.int .u8) := by simp [bv]
theorem bv_take (l : List Int) (n : Nat) : bv (l.take n) = (bv l).take n := by simp [bv, List.map_take]
theorem bv_drop (l : List Int) (n : Nat) : bv (l.drop n) = (bv l).drop n := by simp [bv, List.map_drop]
theorem bv_nil : bv [] = [] := rfl
theorem bv_inj {l m : List Int} (h : bv l = bv m) : l = m := by
  have : ∀ a b : Int, Value.int .u8 a = Value.int .u8 b → a = b := fun a b h => by injection h
  exact List.map_inj_right this |>.1 h
/-- All are bytes. -/
def Byt (l : List Int) : Prop := ∀ x ∈ l, 0 ≤ x ∧ x < 256
theorem Byt.nil : Byt [] := fun _ h => by cases h
theorem Byt.take {l : List Int} (h : Byt l) (n : Nat) : Byt (l.take n) := fun x hx => h x (List.mem_of_mem_take hx)
theorem Byt.drop {l : List Int} (h : Byt l) (n : Nat) : Byt (l.drop n) := fun x hx => h x (List.mem_of_mem_drop hx)
theorem Byt.append {l m : List Int} (h : Byt l) (k : Byt m) : Byt (l ++ m) := fun x hx => by
  rcases List.mem_append.1 hx with hx | hx
  · exact h x hx
  · exact k x hx
def zeros (n : Nat) : List Int := List.replicate n 0
theorem Byt.zeros (n : Nat) : Byt (zeros n) := fun x hx => by rw [List.eq_of_mem_replicate hx]; omega
@[simp] theorem zeros_length (n : Nat) : (zeros n).length = n := by simp [zeros]

/-! ### build: the parts one behind the other -/
theorem foldl_place (vs : List Value) : ∀ (off j : Nat) (cs : Array Value) (_ : off + j + vs.length ≤ cs.size),
    ((vs.zipIdx j).foldl (fun (cs : Array Value) (p : Value × Nat) => cs.setIfInBounds (off + p.2) p.1) cs).toList = splice cs.toList (off + j) vs := by
  induction vs with
  | nil => intro off j cs _; simp [splice_nil]
  | cons v vs ih =>
    intro off j cs h
    simp only [List.zipIdx_cons, List.foldl_cons]
    rw [ih off (j + 1) _ (by simp at h ⊢; omega), Array.toList_setIfInBounds, ← Nat.add_assoc, splice_cons _ _ _ _ (by simp at h ⊢; omega)]
def catV (parts : List (Nat × Value)) : List Value := parts.flatMap (fun p => p.2.cells.toList)
def contig (place : Nat → Option (Nat × Nat)) : Nat → List (Nat × Value) → Prop
  | _, [] => True
  | o, (i, v) :: r => place i = some (o, v.cells.size) ∧ contig place (o + v.cells.size) r
theorem splice_splice {α : Type} (L : List α) (o : Nat) (A B : List α) (h : o + A.length + B.length ≤ L.length) : splice (splice L o A) (o + A.length) B = splice L o (A ++ B) := by
  unfold splice
  have hl : (L.take o).length = o := by rw [List.length_take]; omega
  have e1 : (L.take o ++ (A ++ L.drop (o + A.length))).take (o + A.length) = L.take o ++ A := by
    rw [← List.append_assoc]
    exact List.take_left' (by simp; omega)
  have e2 : (L.take o ++ (A ++ L.drop (o + A.length))).drop (o + A.length + B.length) = L.drop (o + (A ++ B).length) := by
    rw [← List.append_assoc, ← List.drop_drop, List.drop_left' (by simp; omega), List.drop_drop]
    congr 1
    simp; omega
  rw [e1, e2]
  simp
theorem fill_contig (place : Nat → Option (Nat × Nat)) : ∀ (parts : List (Nat × Value)) (o : Nat) (cells : Array Value) (_ : contig place o parts) (_ : o + (catV parts).length ≤ cells.size),
    ∃ cells', Instr.fill place cells parts = some cells' ∧ cells'.toList = splice cells.toList o (catV parts)
  | [], o, cells, _, _ => ⟨cells, rfl, by simp [catV, splice_nil]⟩
  | (i, v) :: r, o, cells, hc, hn => by
    obtain ⟨h1, h2⟩ := hc
    have hcat : catV ((i, v) :: r) = v.cells.toList ++ catV r := by simp [catV]
    rw [hcat, List.length_append] at hn
    have hv : v.cells.toList.length = v.cells.size := Array.length_toList
    have hf := foldl_place v.cells.toList o 0 cells (by omega)
    have hsz : (v.cells.zipIdx.foldl (fun cs (c, j) => cs.setIfInBounds (o + j) c) cells).toList = splice cells.toList o v.cells.toList := by
      have e : v.cells.zipIdx.foldl (fun cs (c, j) => cs.setIfInBounds (o + j) c) cells = (v.cells.toList.zipIdx 0).foldl (fun (cs : Array Value) (p : Value × Nat) => cs.setIfInBounds (o + p.2) p.1) cells := by
        rw [← Array.foldl_toList]
        simp
      rw [e]
      simpa using hf
    have hsz2 := congrArg List.length hsz
    have hcl : cells.toList.length = cells.size := Array.length_toList
    rw [length_splice _ _ _ (by omega), hcl] at hsz2
    rw [Array.length_toList] at hsz2
    obtain ⟨cells', h3, h4⟩ := fill_contig place r (o + v.cells.size) (v.cells.zipIdx.foldl (fun cs (c, j) => cs.setIfInBounds (o + j) c) cells) h2 (by omega)
    refine ⟨cells', ?_, ?_⟩
    · simp only [Instr.fill, h1]
      rw [if_neg (by simp; omega)]
      exact h3
    · rw [h4, hsz, hcat, ← hv, splice_splice _ _ _ _ (by omega)]
theorem splice_all {α : Type} (L V : List α) (h : L.length = V.length) : splice L 0 V = V := by
  unfold splice
  rw [List.drop_eq_nil_of_le (by omega)]
  simp

section
variable {P : Program}
theorem run_build_struct (t : TypeId) (fields : Array Field) (places : Array (Nat × Nat)) (z : Value) (parts : Array (Nat × Value)) (hu : P.underlying t = some (.struct fields))
    (hz : ∀ w, (zeroValue t).run P w = .ok z w) (hp : ∀ w, (fields.mapM fun (f : Field) => (do pure (f.offset, ← sizeOf f.type) : Sem (Nat × Nat))).run P w = .ok places w)
    (hc : contig (places[·]?) 0 parts.toList) (hn : (catV parts.toList).length = z.cells.size) (w : World) :
    (Instr.build t parts).run P w = .ok (.agg (catV parts.toList).toArray) w := by
  obtain ⟨cells', h1, h2⟩ := fill_contig (places[·]?) parts.toList 0 z.cells hc (by omega)
  rw [splice_all _ _ (by rw [Array.length_toList]; exact hn.symm)] at h2
  have h3 : cells' = (catV parts.toList).toArray := by rw [← h2]
  subst h3
  unfold Instr.build
  simp only [Sem.run_bind, hz w, Result.andThen_ok, run_underlying hu w]
  rw [hp w]
  simp only [Result.andThen_ok, h1]
  rfl
theorem run_buildSlice_one (t e : TypeId) (i : TypeInfo) (z : Value) (n : Nat) (v : Value) (hu : P.underlying t = some (.slice e)) (hi : P.info? e = some i) (hz : i.zero = some z) (hs : i.size = n) (hzn : z.cells.size = n) (h0 : 0 < n) (hb : n ≤ 16777216) (hv : v.cells.size = n) (w : World) :
    (Instr.buildSlice t 1 #[(0, v)]).run P w = .ok (.slice (some ⟨w.heap.size, 0, none⟩) 1 1) (w.alloc (.cells v.cells e)) := by
  have hc : contig (fun i => some (i * n, n)) 0 [(0, v)] := ⟨by simp [hv], trivial⟩
  have hcat : catV [(0, v)] = v.cells.toList := by simp [catV]
  have hzl : ((Array.range (1 * n)).map (z.cells[· % z.cells.size]!)).size = n := by simp
  obtain ⟨cells', h1, h2⟩ := fill_contig (fun i => some (i * n, n)) [(0, v)] 0 ((Array.range (1 * n)).map (z.cells[· % z.cells.size]!)) hc (by rw [hcat, Array.length_toList, hzl]; omega)
  rw [hcat, splice_all _ _ (by rw [Array.length_toList, Array.length_toList, hzl]; exact hv.symm)] at h2
  have h3 : cells' = v.cells := by rw [← Array.toList_inj]; exact h2
  subst h3
  have hnz : ¬ n = 0 := by omega
  have hng : ¬ 16777216 < n := by omega
  simp only [Nat.one_mul] at h1
  simp [Instr.buildSlice, run_underlying hu, sizeOf, typeInfo, hi, hs, zeroValue, hz, hnz, hng, h1, newRow]

/-! ### The walk's laws; the world behind each is a letter -/
theorem wpList_allocZ {ops : Array Oper} {rest : List Oper} {o : Oper} {a : Act} {w : World} {Q : Exit → Act → World → Prop} (hgd : o.guard = none) (t : TypeId) (ho : o.op = .alloc t)
    (cs : List Value) (hz : ∀ w, (zeroValue t).run P w = .ok (.agg cs.toArray) w)
    (h : ∀ w1 : World, Blk w1 w.heap.size t cs → Fr [] w w1 → w1.heap.size = w.heap.size + 1 → wpList P ops Q rest (a.put o.dst (.pointer (some ⟨w.heap.size, 0, none⟩))) w1) : wpList P ops Q (o :: rest) a w :=
  wpList_plain hgd fun K hK => by
    have hr : (Instr.alloc t true (.tuple #[])).run P w = .ok (.pointer (some ⟨w.heap.size, 0, none⟩)) (w.alloc (.cells cs.toArray t)) := by
      simp [Instr.alloc, hz, newVar, newRow, Value.cells]
    unfold Oper.wp execOp
    simp only [ho, Sem.run_bind, hr, Result.andThen_ok, Sem.run_pure]
    exact hK _ _ (h _ (Blk.new w t cs) ((Fr.refl [] w).alloc _) (by simp))
theorem wpList_storeB {ops : Array Oper} {rest : List Oper} {op : Oper} {a : Act} {w : World} {Q : Exit → Act → World → Prop} (hgd : op.guard = none) (ty : TypeId) (x y : Operand) (ho : op.op = .store ty x y)
    (b o : Nat) (vs : List Value) (hx : a.eval x = .pointer (some ⟨b, o, none⟩)) (hy : a.eval y = .agg vs.toArray)
    (t : TypeId) (cs : List Value) (hb : Blk w b t cs) (hn : o + vs.length ≤ cs.length) (hi : (P.info? ty).map (·.size) = some vs.length) (h1 : ∀ v ∈ vs, v.oneCell' = true)
    (h : ∀ w1 : World, Blk w1 b t (splice cs o vs) → Fr [b] w w1 → w1.heap.size = w.heap.size → wpList P ops Q rest (a.put op.dst undef) w1) : wpList P ops Q (op :: rest) a w :=
  wpList_store_mid hgd ty x y ho b o vs.toArray hx hy (by simpa using hb.there o vs.length hn) (by simpa using hi) (all_oneCell_toArray h1)
    (by simpa using h _ (hb.setN vs o hn) ((Fr.refl [b] w).setCells o (.inl (by simp)) vs) (size_setCells b vs o w))
/-- A slice of an array that lies at the head of a block of its own. -/
theorem wpList_appB {w : World} {ops : Array Oper} {rest : List Oper} {o : Oper} {a : Act} {Q : Exit → Act → World → Prop} (hgd : o.guard = none) (s y : Operand) (t tx : TypeId)
    (ho : o.op = .call { callee := .builtin .append, args := #[s, y], argTypes := #[t, tx] })
    (base : Nat) (e e' : TypeId) (k : IntKind) (bytes : Nat) (ht : P.underlying t = some (.slice e)) (htx : P.underlying tx = some (.slice e')) (hi : (P.info? e).map (fun i => (i.zero, i.size, i.bytes)) = some (some (.int k 0), 1, bytes))
    (v : Value) (n : Nat) (xs : List Value) (hv : a.eval s = v) (hown : Own w base e 1 v n xs)
    (ad : Option Addr) (m c : Nat) (news : List Value) (hx : a.eval y = .slice ad m c) (hs : Rd w ad news) (hm : news.length = m) (h1 : ∀ v ∈ news, v.oneCell' = true)
    (h63 : n + m ≤ maxLen) (hbytes : (n + m) * bytes ≤ 140737488355328) (hbase : base ≤ w.heap.size)
    (h : ∀ v' w', Own w' base e 1 v' (n + m) (xs ++ news) → Fr (ob v) w w' → (ob v' = ob v ∨ ob v' = [w.heap.size]) → (v' = .slice none 0 0 ↔ v = .slice none 0 0 ∧ m = 0) → wpList P ops Q rest (a.put o.dst v') w') : wpList P ops Q (o :: rest) a w := by
  obtain ⟨i0, hi0, hz0, hz1, hz2⟩ := info_parts hi
  exact wpList_app hgd s y t tx ho base e i0 (.int k 0) 1 bytes ht hi0 hz0 hz1 hz2 rfl (by omega) v n xs hv hown _ m news hx (hs.src htx (by rw [hm, Nat.mul_one]) h1) h63 hbytes hbase h

/-! ### make -/
theorem rep_get (zc : List Value) (k : Nat) (hk : 0 < k) (hz : zc.length = k) : ∀ (c i : Nat), i < c * k → (flat id (List.replicate c zc))[i]? = zc[i % k]?
  | 0, i, h => by omega
  | c + 1, i, h => by
    rw [List.replicate_succ, flat_cons]
    simp only [id]
    by_cases hi : i < k
    · rw [List.getElem?_append_left (by omega), Nat.mod_eq_of_lt hi]
    · rw [List.getElem?_append_right (by omega), hz, rep_get zc k hk hz c (i - k) (by rw [Nat.succ_mul] at h; omega), ← Nat.mod_eq_sub_mod (by omega)]
theorem madeCells_rep (zc : List Value) (k : Nat) (hk : 0 < k) (hz : zc.length = k) (c : Nat) : (madeCells zc.toArray (c * k)).toList = flat id (List.replicate c zc) := by
  apply List.ext_getElem?
  intro i
  have hl : (flat id (List.replicate c zc)).length = c * k := by
    rw [flat_length id k _ (fun x hx => by rw [List.eq_of_mem_replicate hx]; exact hz), List.length_replicate]
  by_cases hi : i < c * k
  · rw [rep_get zc k hk hz c i hi]
    have hm : i % k < zc.length := by rw [hz]; exact Nat.mod_lt _ hk
    unfold madeCells
    simp [hi, hz]
    rw [List.getElem?_eq_getElem hm]
    rfl
  · rw [List.getElem?_eq_none (by rw [Array.length_toList, size_madeCells]; omega), List.getElem?_eq_none (by omega)]
theorem wpList_makeZ {ops : Array Oper} {rest : List Oper} {o : Oper} {a : Act} {w : World} {Q : Exit → Act → World → Prop} (hgd : o.guard = none) (t : TypeId) (x y : Operand) (ho : o.op = .makeSlice t x y)
    (e : TypeId) (zc : List Value) (size bytes : Nat) (ht : P.underlying t = some (.slice e)) (hi : (P.info? e).map (fun i => (i.zero.map (·.cells), i.size, i.bytes)) = some (some zc.toArray, size, bytes)) (hsz : 0 < size) (hzl : zc.length = size)
    (n c : Nat) (hx : a.eval x = .int .i64 (n : Int)) (hy : a.eval y = .int .i64 (c : Int)) (hnc : n ≤ c) (hb : bytes * c ≤ 281474976710656) (h63 : c ≤ maxLen)
    (h : ∀ w1 : World, Blk w1 w.heap.size e (flat id (List.replicate c zc)) → Fr [] w w1 → w1.heap.size = w.heap.size + 1 → wpList P ops Q rest (a.put o.dst (.slice (some ⟨w.heap.size, 0, none⟩) n c)) w1) : wpList P ops Q (o :: rest) a w := by
  obtain ⟨i0, hi0, hz0, hz1, hz2⟩ : ∃ i, P.info? e = some i ∧ (∃ z, i.zero = some z ∧ z.cells = zc.toArray) ∧ i.size = size ∧ i.bytes = bytes := by
    cases hq : P.info? e with
    | none => simp [hq] at hi
    | some i =>
      simp [hq] at hi
      exact ⟨i, rfl, hi.1, hi.2.1, hi.2.2⟩
  obtain ⟨z, hz, hzc⟩ := hz0
  subst hz1; subst hz2
  have h63' : (c : Int) ≤ 9223372036854775807 := by simp only [maxLen] at h63; omega
  have hb' : (i0.bytes : Int) * (c : Int) ≤ 281474976710656 := by
    have h : ((i0.bytes * c : Nat) : Int) ≤ 281474976710656 := by omega
    rwa [Int.natCast_mul] at h
  have hr := run_make (P := P) w t e i0 z ht hi0 hz .i64 .i64 n c (by omega) (by omega) hb' h63'
  simp only [Int.toNat_natCast] at hr
  rw [hzc] at hr
  have hB := Blk.newA w e (madeCells zc.toArray (c * i0.size))
  rw [madeCells_rep zc i0.size hsz hzl c] at hB
  exact wpList_plain hgd fun K hK => by
    unfold Oper.wp execOp
    simp only [ho, hx, hy, Sem.run_bind, hr, Result.andThen_ok, Sem.run_pure]
    exact hK _ _ (h _ hB ((Fr.refl [] w).alloc _) (by simp))

/-! ### copy -/
theorem wpList_copyB {w : World} {ops : Array Oper} {rest : List Oper} {o : Oper} {a : Act} {Q : Exit → Act → World → Prop} (hgd : o.guard = none) (d s : Operand) (dT sT : TypeId)
    (ho : o.op = .call { callee := .builtin .copy, args := #[d, s], argTypes := #[dT, sT] }) (elem : TypeId) (hu : P.underlying dT = some (.slice elem)) (hsz : (P.info? elem).map (·.size) = some 1)
    (g off dLen dCap sLen sCap : Nat) (sp : Option Addr) (hd : a.eval d = .slice (some ⟨g, off, none⟩) dLen dCap) (hs : a.eval s = .slice sp sLen sCap)
    (cur : List Value) (t : TypeId) (hg : Blk w g t cur) (cs : List Value) (hn : cs.length = Nat.min sLen dLen) (hr : Rd w sp cs)
    (hfit : off + cs.length ≤ cur.length) (h1 : ∀ v ∈ cs, v.oneCell' = true)
    (h : ∀ w', Blk w' g t (splice cur off cs) → Fr [g] w w' → w'.heap.size = w.heap.size → wpList P ops Q rest (a.put o.dst (goInt cs.length)) w') :
    wpList P ops Q (o :: rest) a w := by
  by_cases h0 : cs = []
  · subst h0
    refine wpList_copy_nothing hgd d s dT sT ho elem hu hsz _ sp dLen dCap sLen sCap hd hs (by simpa using hn.symm) ?_
    exact h w (by rw [splice_nil]; exact hg) (Fr.refl _ _) rfl
  · obtain ⟨b, ob, rfl, hsrc⟩ := hr h0
    refine wpList_copy_own hgd d s dT sT ho elem hu hsz g off dLen dCap _ sLen sCap hd hs cur.toArray t hg cs hn (fun j v hv => by rw [Addr.add_mid]; exact hsrc j v hv) (by simpa using hfit) h1 ?_
    refine h _ (show _ = _ by simpa [splice] using setRow_heap w g _ _ t _ hg) ⟨rfl, rfl, rfl, by simp, fun k _ hk => setRow_other w g k _ (by simpa using hk)⟩ (by simp)

/-- A slice literal of one element. -/
theorem wpList_buildSlice1 {w : World} {ops : Array Oper} {rest : List Oper} {o : Oper} {a : Act} {Q : Exit → Act → World → Prop} (hgd : o.guard = none) (t e : TypeId) (x : Operand) (ho : o.op = .buildSlice t 1 #[(0, x)])
    (zc : List Value) (n bytes : Nat) (hu : P.underlying t = some (.slice e)) (hi : (P.info? e).map (fun i => (i.zero.map (·.cells), i.size, i.bytes)) = some (some zc.toArray, n, bytes)) (hzl : zc.length = n) (h0 : 0 < n) (hb : n ≤ 16777216)
    (v : Value) (cs : List Value) (hx : a.eval x = v) (hv : v.cells = cs.toArray) (hl : cs.length = n)
    (h : ∀ w1 : World, Blk w1 w.heap.size e cs → Fr [] w w1 → w1.heap.size = w.heap.size + 1 → wpList P ops Q rest (a.put o.dst (.slice (some ⟨w.heap.size, 0, none⟩) 1 1)) w1) : wpList P ops Q (o :: rest) a w := by
  obtain ⟨i0, hi0, ⟨z, hz, hzc⟩, hz1, hz2⟩ : ∃ i, P.info? e = some i ∧ (∃ z, i.zero = some z ∧ z.cells = zc.toArray) ∧ i.size = n ∧ i.bytes = bytes := by
    cases hq : P.info? e with
    | none => simp [hq] at hi
    | some i =>
      simp [hq] at hi
      exact ⟨i, rfl, hi.1, hi.2.1, hi.2.2⟩
  have hr := run_buildSlice_one (P := P) t e i0 z n v hu hi0 hz hz1 (by rw [hzc]; simpa using hzl) h0 hb (by rw [hv]; simpa using hl) w
  exact wpList_plain hgd fun K hK => by
    unfold Oper.wp execOp
    simp only [ho, List.map_toArray, List.map_cons, List.map_nil, hx, Sem.run_bind, hr, Result.andThen_ok, Sem.run_pure]
    rw [hv]
    exact hK _ _ (h _ (Blk.new w e cs) ((Fr.refl [] w).alloc _) (by simp))

/-- One cell of a block is written. -/
theorem wpList_store1 {ops : Array Oper} {rest : List Oper} {op : Oper} {a : Act} {w : World} {Q : Exit → Act → World → Prop} (hgd : op.guard = none) (ty : TypeId) (x y : Operand) (ho : op.op = .store ty x y)
    (b o : Nat) (v : Value) (hx : a.eval x = .pointer (some ⟨b, o, none⟩)) (hy : a.eval y = v) (hvc : v.cells = #[v])
    (t : TypeId) (cs : List Value) (hb : Blk w b t cs) (hn : o < cs.length) (hi : (P.info? ty).map (·.size) = some 1) (h1 : v.oneCell' = true)
    (h : ∀ w1 : World, Blk w1 b t (cs.set o v) → Fr [b] w w1 → w1.heap.size = w.heap.size → wpList P ops Q rest (a.put op.dst undef) w1) : wpList P ops Q (op :: rest) a w :=
  wpList_plain hgd fun K hK => by
    have hc : w.cell? ⟨b, o, none⟩ = some cs[o] := hb.cellAt (List.getElem?_eq_getElem hn)
    have hin : ∀ j, j < [v].length → (w.cell? ⟨b, o + 0 + j, none⟩).isSome = true := by
      intro j hj
      have hj0 : j = 0 := by simpa using hj
      subst hj0
      simp [hc]
    have hst := run_storeCells_cells (P := P) b o [v] 0 w hin (fun j _ => hb.frozen _) (by simpa using h1)
    have hs : (storeVar ty ⟨b, o, none⟩ v).run P w = .ok () (w.setCell ⟨b, o, none⟩ v) := by
      cases hq : P.info? ty with
      | none => simp [hq] at hi
      | some i =>
        have hsz : i.size = 1 := by simpa [hq] using hi
        simp only [Nat.add_zero, World.setCells] at hst
        simp [storeVar, sizeOf, typeInfo, hq, hvc, hsz, hst]
    unfold Oper.wp execOp
    simp only [ho, hx, hy, Instr.storeAt, Instr.sureAddr, Sem.run_bind, Sem.run_pure, Result.andThen_ok, hs]
    exact hK _ _ (h _ (hb.set o v) ((Fr.refl [b] w).setCell (.inl (by simp)) v) (by simp))
end

/-! ### Bytes of one's own -/
theorem bv_set (l : List Int) (i : Nat) (y : Int) : (bv l).set i (.int .u8 y) = bv (l.set i y) := by simp [bv, List.map_set]
/-- An element of a row of bytes: where it lies, what it holds; and the row behind a store. -/
theorem Own.byteAt {w : World} {base n : Nat} {e : TypeId} {v : Value} {l : List Int} (h : Own w base e 1 v n (bv l)) (i : Nat) (hi : i < n) :
    ∃ g cap cur x, v = .slice (some ⟨g, 0, none⟩) n cap ∧ base ≤ g ∧ Blk w g e cur ∧ n ≤ cur.length ∧ l[i]? = some x ∧ w.cell? ⟨g, i, none⟩ = some (.int .u8 x) ∧ (∀ (w1 : World) (y : Int), Blk w1 g e (cur.set i (.int .u8 y)) → Own w1 base e 1 v n (bv (l.set i y))) := by
  obtain ⟨g, cap, cur, rfl, hg, hb, hn, hm, hs, ht⟩ := h.blk (by omega)
  simp only [Nat.mul_one] at hs ht
  have hl : l.length = n := by have := h.len; simpa using this
  have hx : l[i]? = some (l[i]'(by omega)) := List.getElem?_eq_getElem (by omega)
  have hc : cur[i]? = some (.int .u8 (l[i]'(by omega))) := by
    have h1 : (bv l)[i]? = some (.int .u8 (l[i]'(by omega))) := by rw [bv_get, hx]; rfl
    rw [← ht, List.getElem?_take, if_pos hi] at h1
    exact h1
  refine ⟨g, cap, cur, _, rfl, hg, hb, by omega, hx, hb.cellAt hc, fun w1 y hb1 => ?_⟩
  have := Own.of_blk (base := base) (size := 1) hg hb1 hn hm (by simpa using hs)
  rw [Nat.mul_one, List.take_set, ht, bv_set] at this
  exact this
end Go.Fur
