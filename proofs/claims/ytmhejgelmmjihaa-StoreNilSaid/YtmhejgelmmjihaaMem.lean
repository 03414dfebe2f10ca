/- Memory: blocks that are known whole, frames, slices that are read, and the laws of the walk over them. No program is named here. -/
import Derived.WalkKit
import Derived.WalkSpells
import Derived.Deep.MidRow
import Derived.Deep.AppendSrc
import Derived.Laws.CopyOwn
import Derived.Maps.AppendAt
import Derived.Lib.Hide
import Derived.Deep.Draws
namespace Go.Fur
open Go Go.RowKit

/-! ### Blocks known whole -/
/-- Block b holds the cells cs, of element type t, none of them frozen. -/
def Blk (w : World) (b : Nat) (t : TypeId) (cs : List Value) : Prop := w.heap[b]? = some (.cells cs.toArray t (0, 0))

theorem Blk.lt {w : World} {b : Nat} {t : TypeId} {cs : List Value} (h : Blk w b t cs) : b < w.heap.size := (Array.getElem?_eq_some_iff.1 h).1
theorem Blk.cell {w : World} {b : Nat} {t : TypeId} {cs : List Value} (h : Blk w b t cs) (i : Nat) : w.cell? ⟨b, i, none⟩ = cs[i]? := by
  have := cell_of_row w b i cs.toArray t (0, 0) h
  simpa using this
theorem Blk.cellAt {w : World} {b : Nat} {t : TypeId} {cs : List Value} (h : Blk w b t cs) {i : Nat} {v : Value} (hv : cs[i]? = some v) : w.cell? ⟨b, i, none⟩ = some v := (h.cell i).trans hv
theorem Blk.frozen {w : World} {b : Nat} {t : TypeId} {cs : List Value} (h : Blk w b t cs) (i : Nat) : w.frozen? ⟨b, i, none⟩ = false := frozen_of_row w b i cs.toArray t h
theorem Blk.set {w : World} {b : Nat} {t : TypeId} {cs : List Value} (h : Blk w b t cs) (i : Nat) (v : Value) : Blk (w.setCell ⟨b, i, none⟩ v) b t (cs.set i v) := by
  have := heap_setCell_same w b i cs.toArray t v h
  unfold Blk
  rw [this]
  simp
theorem Blk.ne {w : World} {b b' : Nat} {t t' : TypeId} {cs cs' : List Value} (h : Blk w b t cs) (h' : Blk w b' t' cs') (ht : t ≠ t') : b ≠ b' := by
  rintro rfl
  unfold Blk at h h'
  rw [h] at h'
  injection h' with h'
  injection h' with _ h2
  exact ht h2
theorem Blk.new (w : World) (t : TypeId) (cs : List Value) : Blk (w.alloc (.cells cs.toArray t)) w.heap.size t cs := heap_alloc_new w _
theorem Blk.newA (w : World) (t : TypeId) (cs : Array Value) : Blk (w.alloc (.cells cs t)) w.heap.size t cs.toList := by
  unfold Blk
  simpa using heap_alloc_new w (.cells cs t)
theorem Blk.range {w : World} {b : Nat} {t : TypeId} {cs : List Value} (h : Blk w b t cs) (o n : Nat) : w.rangeAt b o ((cs.drop o).take n) := fun j v hv => by
  rw [List.getElem?_take] at hv
  split at hv
  · rw [List.getElem?_drop] at hv
    exact h.cellAt hv
  · cases hv
theorem Blk.there {w : World} {b : Nat} {t : TypeId} {cs : List Value} (h : Blk w b t cs) (o n : Nat) (hn : o + n ≤ cs.length) : w.there b o n := fun j hj => by
  refine ⟨?_, h.frozen _⟩
  rw [h.cell, List.getElem?_eq_getElem (by omega)]
  rfl

/-! ### Frames: of the blocks that were there all outside S are as they were -/
structure Fr (S : List Nat) (w w' : World) : Prop where
  os : w'.os = w.os
  tape : w'.tape = w.tape
  output : w'.output = w.output
  size : w.heap.size ≤ w'.heap.size
  block : ∀ k, k < w.heap.size → k ∉ S → w'.heap[k]? = w.heap[k]?

theorem Fr.refl (S : List Nat) (w : World) : Fr S w w := ⟨rfl, rfl, rfl, Nat.le_refl _, fun _ _ _ => rfl⟩
theorem Fr.trans {S S' : List Nat} {a b c : World} (h : Fr S a b) (k : Fr S' b c) (hS : ∀ k ∈ S', k < a.heap.size → k ∈ S) : Fr S a c :=
  ⟨k.os.trans h.os, k.tape.trans h.tape, k.output.trans h.output, Nat.le_trans h.size k.size, fun i hi hn =>
    (k.block i (Nat.lt_of_lt_of_le hi h.size) (fun hm => hn (hS i hm hi))).trans (h.block i hi hn)⟩
theorem Fr.trans0 {S : List Nat} {a b c : World} (h : Fr S a b) (k : Fr [] b c) : Fr S a c := h.trans k (by simp)
theorem Fr.trans1 {S : List Nat} {a b c : World} (h : Fr S a b) (k : Fr S b c) : Fr S a c := h.trans k (fun _ h _ => h)
theorem Fr.mono {S S' : List Nat} {a b : World} (h : Fr S a b) (hS : ∀ k ∈ S, k < a.heap.size → k ∈ S') : Fr S' a b :=
  ⟨h.os, h.tape, h.output, h.size, fun i hi hn => h.block i hi (fun hm => hn (hS i hm hi))⟩
theorem Fr.ext {S : List Nat} {a b : World} (h : Fr [] a b) : Fr S a b := h.mono (by simp)
theorem Fr.drew {S : List Nat} {a b : World} (h : Fr S a b) : Fr S a b.drew := ⟨h.os, h.tape, h.output, h.size, h.block⟩
theorem Fr.drewN {S : List Nat} {a b : World} (h : Fr S a b) (n : Nat) : Fr S a (b.drewN n) := ⟨h.os, h.tape, h.output, h.size, h.block⟩
theorem Fr.alloc {S : List Nat} {a b : World} (h : Fr S a b) (o : Obj) : Fr S a (b.alloc o) :=
  h.trans0 ⟨rfl, rfl, rfl, by simp, fun k hk _ => Below.heap_alloc _ _ _ hk⟩
theorem Fr.setCell {S : List Nat} {a b : World} (h : Fr S a b) {p : Addr} (hp : p.block ∈ S ∨ a.heap.size ≤ p.block) (u : Value) : Fr S a (b.setCell p u) :=
  h.trans (S' := [p.block]) ⟨rfl, rfl, rfl, by simp [World.setCell], fun k _ hn => Below.heap_setCell _ _ _ _ (by simpa using hn)⟩
    (fun k hk hlt => by simp at hk; subst hk; rcases hp with hp | hp; exact hp; omega)
theorem heap_setCells (b : Nat) : ∀ (vs : List Value) (o : Nat) (w : World) (k : Nat), k ≠ b → (w.setCells b o vs).heap[k]? = w.heap[k]?
  | [], _, _, _, _ => rfl
  | v :: vs, o, w, k, hk => (heap_setCells b vs (o + 1) (w.setCell ⟨b, o, none⟩ v) k hk).trans (Below.heap_setCell w ⟨b, o, none⟩ v k hk)
theorem size_setCells (b : Nat) : ∀ (vs : List Value) (o : Nat) (w : World), (w.setCells b o vs).heap.size = w.heap.size
  | [], _, _ => rfl
  | v :: vs, o, w => (size_setCells b vs (o + 1) (w.setCell ⟨b, o, none⟩ v)).trans (by simp [World.setCell])
theorem rest_setCells (b : Nat) : ∀ (vs : List Value) (o : Nat) (w : World), (w.setCells b o vs).os = w.os ∧ (w.setCells b o vs).tape = w.tape ∧ (w.setCells b o vs).output = w.output
  | [], _, _ => ⟨rfl, rfl, rfl⟩
  | v :: vs, o, w => rest_setCells b vs (o + 1) (w.setCell ⟨b, o, none⟩ v)
theorem Fr.setCells {S : List Nat} {a b : World} (h : Fr S a b) {g : Nat} (o : Nat) (hp : g ∈ S ∨ a.heap.size ≤ g) (vs : List Value) : Fr S a (b.setCells g o vs) :=
  h.trans (S' := [g]) ⟨(rest_setCells g vs o b).1, (rest_setCells g vs o b).2.1, (rest_setCells g vs o b).2.2, by rw [size_setCells]; exact Nat.le_refl _, fun k _ hn => heap_setCells g vs o b k (by simpa using hn)⟩
    (fun k hk hlt => by simp at hk; subst hk; rcases hp with hp | hp; exact hp; omega)
theorem Fr.grown {S : List Nat} {a b c : World} {row : Option Nat} (h : Fr S a b) (hg : b.grownBy c row) (hr : ∀ k, row = some k → k ∈ S ∨ a.heap.size ≤ k) : Fr S a c :=
  ⟨hg.os.trans h.os, hg.tape.trans h.tape, hg.output.trans h.output, Nat.le_trans h.size hg.size, fun i hi hn =>
    (hg.block i (Nat.lt_of_lt_of_le hi h.size) (fun e => by rcases hr i e.symm with h1 | h1; exact hn h1; omega)).trans (h.block i hi hn)⟩
theorem Fr.below {S : List Nat} {a b : World} {B : Nat} (h : Fr S a b) (hB : B ≤ a.heap.size) (hS : ∀ k ∈ S, B ≤ k) : Below B a b :=
  ⟨h.os, h.tape, h.output, h.size, fun k hk => h.block k (Nat.lt_of_lt_of_le hk hB) (fun hm => by have := hS k hm; omega)⟩
theorem Fr.of_below {a b : World} (h : Below a.heap.size a b) (S : List Nat) : Fr S a b := ⟨h.os, h.tape, h.output, h.size, fun k hk _ => h.block k hk⟩

theorem Blk.fr {S : List Nat} {w w' : World} {b : Nat} {t : TypeId} {cs : List Value} (h : Blk w b t cs) (k : Fr S w w') (hb : b ∉ S) : Blk w' b t cs := (k.block b h.lt hb).trans h
theorem Blk.drew {w : World} {b : Nat} {t : TypeId} {cs : List Value} (h : Blk w b t cs) : Blk w.drew b t cs := h
theorem Blk.drewN {w : World} {b : Nat} {t : TypeId} {cs : List Value} (h : Blk w b t cs) (n : Nat) : Blk (w.drewN n) b t cs := h
theorem Blk.alloc {w : World} {b : Nat} {t : TypeId} {cs : List Value} (h : Blk w b t cs) (o : Obj) : Blk (w.alloc o) b t cs := h.fr ((Fr.refl [] w).alloc o) (by simp)
theorem Blk.far {w : World} {b : Nat} {t : TypeId} {cs : List Value} (h : Blk w b t cs) {p : Addr} (hp : b ≠ p.block) (v : Value) : Blk (w.setCell p v) b t cs := (Below.heap_setCell w p v b hp).trans h
theorem Blk.farN {w : World} {b : Nat} {t : TypeId} {cs : List Value} (h : Blk w b t cs) {g : Nat} (o : Nat) (hp : b ≠ g) (vs : List Value) : Blk (w.setCells g o vs) b t cs := (heap_setCells g vs o w b hp).trans h

theorem splice_nil {α : Type} (L : List α) (o : Nat) : splice L o [] = L := by simp [splice]
theorem splice_cons {α : Type} (L : List α) (o : Nat) (v : α) (vs : List α) (h : o + vs.length < L.length) : splice (L.set o v) (o + 1) vs = splice L o (v :: vs) := by
  have ho : o < L.length := by omega
  have e : L.set o v = L.take o ++ v :: L.drop (o + 1) := by rw [List.set_eq_take_append_cons_drop, if_pos ho]
  have hl : (L.take o).length = o := by rw [List.length_take]; omega
  unfold splice
  have e1 : (L.set o v).take (o + 1) = L.take o ++ [v] := by
    rw [e, List.take_append, hl, List.take_of_length_le (by omega)]
    simp
  have e2 : (L.set o v).drop (o + 1 + vs.length) = L.drop (o + (v :: vs).length) := by
    rw [List.drop_set_of_lt (by omega)]
    congr 1
    simp
    omega
  rw [e1, e2]
  simp
theorem Blk.setN {b : Nat} {t : TypeId} : ∀ (vs : List Value) (o : Nat) {w : World} {cs : List Value} (_ : Blk w b t cs) (_ : o + vs.length ≤ cs.length), Blk (w.setCells b o vs) b t (splice cs o vs)
  | [], o, w, cs, h, _ => by rw [splice_nil]; exact h
  | v :: vs, o, w, cs, h, hn => by
    rw [← splice_cons cs o v vs (by simp at hn; omega)]
    exact Blk.setN vs (o + 1) (h.set o v) (by simp at hn ⊢; omega)

/-! ### Slices that are read: from address a on lie the cells cs -/
def Rd (w : World) (a : Option Addr) (cs : List Value) : Prop := cs ≠ [] → ∃ b o, a = some ⟨b, o, none⟩ ∧ w.rangeAt b o cs
theorem Rd.nil (w : World) (a : Option Addr) : Rd w a [] := fun h => absurd rfl h
theorem Rd.mk {w : World} {b o : Nat} {cs : List Value} (h : w.rangeAt b o cs) : Rd w (some ⟨b, o, none⟩) cs := fun _ => ⟨b, o, rfl, h⟩
theorem rangeAt_fr {S : List Nat} {w w' : World} {b o : Nat} {cs : List Value} (h : w.rangeAt b o cs) (k : Fr S w w') (hb : b ∉ S) : w'.rangeAt b o cs := fun j v hv => by
  have hc := h j v hv
  have hlt := World.block_lt_of_cell? w _ hc
  rw [World.cell?_of_block (w := w) (w' := w') (k.block b hlt hb)]
  exact hc
theorem Rd.fr {S : List Nat} {w w' : World} {a : Option Addr} {cs : List Value} (h : Rd w a cs) (k : Fr S w w') (hb : ∀ x, a = some x → x.block ∉ S) : Rd w' a cs := fun hn => by
  obtain ⟨b, o, rfl, hr⟩ := h hn
  exact ⟨b, o, rfl, rangeAt_fr hr k (hb _ rfl)⟩
theorem Rd.fr0 {w w' : World} {a : Option Addr} {cs : List Value} (h : Rd w a cs) (k : Fr [] w w') : Rd w' a cs := h.fr k (by simp)
theorem Blk.rd {w : World} {b : Nat} {t : TypeId} {cs : List Value} (h : Blk w b t cs) (o n : Nat) : Rd w (some ⟨b, o, none⟩) ((cs.drop o).take n) := Rd.mk (h.range o n)
theorem Blk.rd0 {w : World} {b : Nat} {t : TypeId} {cs : List Value} (h : Blk w b t cs) (n : Nat) : Rd w (some ⟨b, 0, none⟩) (cs.take n) := by simpa using h.rd 0 n
/-- Where what is read lies: below the heap's end. -/
theorem Rd.lt {w : World} {a : Option Addr} {cs : List Value} (h : Rd w a cs) (hn : cs ≠ []) : ∃ b o, a = some ⟨b, o, none⟩ ∧ b < w.heap.size := by
  obtain ⟨b, o, rfl, hr⟩ := h hn
  refine ⟨b, o, rfl, ?_⟩
  obtain ⟨v, vs, rfl⟩ := List.exists_cons_of_ne_nil hn
  exact World.block_lt_of_cell? w _ (hr 0 v rfl)
/-- Another spelling of the address: one that leads nowhere may be forgotten. -/
theorem Rd.src {P : Program} {w : World} {a : Option Addr} {cs : List Value} (h : Rd w a cs) {size n c : Nat} {tx e' : TypeId} (hk : P.underlying tx = some (.slice e')) (hl : cs.length = n * size) (h1 : ∀ u ∈ cs, u.oneCell' = true) :
    Src P size tx (.slice a n c) n cs w := by
  by_cases hn : cs = []
  · subst hn
    have h0 : n * size = 0 := by simpa using hl.symm
    cases a with
    | none => exact ⟨.inl ⟨e', hk⟩, fun _ => rfl, run_firstCells_none w size n n c, run_firstCells_none w.drew size n n c, hl, h1⟩
    | some a => exact Src.ofSlice w hk a n c [] hl (by simp) h1
  · obtain ⟨b, o, rfl, hr⟩ := h hn
    refine Src.ofSlice w hk ⟨b, o, none⟩ n c cs hl (fun j u hu => ?_) h1
    rw [Addr.add_mid]
    exact hr j u hu

/-! ### Rows of one's own: a block of its own, read from its head on -/
/-- v is nil and cs empty, or v leads to the head of a block g ≥ base of cap elements of type e, of size cells each, the first n of which are cs. -/
def Own (w : World) (base : Nat) (e : TypeId) (size : Nat) (v : Value) (n : Nat) (cs : List Value) : Prop := w.ownsRow base e size v n cs
def ob (v : Value) : List Nat := v.ownBlock.toList
theorem mem_ob {v : Value} {k : Nat} : k ∈ ob v ↔ v.ownBlock = some k := by simp [ob]
@[simp] theorem ob_nil : ob (.slice none 0 0) = [] := rfl
@[simp] theorem ob_some (a : Addr) (n c : Nat) : ob (.slice (some a) n c) = [a.block] := rfl
theorem Own.len {w : World} {base : Nat} {e : TypeId} {size n : Nat} {v : Value} {cs : List Value} (h : Own w base e size v n cs) : cs.length = n * size := h.1
theorem Own.nil (w : World) (base : Nat) (e : TypeId) (size : Nat) : Own w base e size (.slice none 0 0) 0 [] := World.ownsRow_nil w base e size
theorem Own.lt {w : World} {base : Nat} {e : TypeId} {size n : Nat} {v : Value} {cs : List Value} (h : Own w base e size v n cs) {k : Nat} (hk : k ∈ ob v) : base ≤ k ∧ k < w.heap.size := World.ownsRow.lt h k (mem_ob.1 hk)
theorem Own.fr {S : List Nat} {w w' : World} {base : Nat} {e : TypeId} {size n : Nat} {v : Value} {cs : List Value} (h : Own w base e size v n cs) (k : Fr S w w') (hb : ∀ g ∈ ob v, g ∉ S) : Own w' base e size v n cs := by
  obtain ⟨h1, h2⟩ := h
  refine ⟨h1, ?_⟩
  rcases h2 with h2 | ⟨g, cap, cur, hv, hg, hh, r⟩
  · exact Or.inl h2
  · exact Or.inr ⟨g, cap, cur, hv, hg, (k.block g (Array.getElem?_eq_some_iff.1 hh).1 (hb g (by subst hv; simp))).trans hh, r⟩
theorem Own.fr0 {w w' : World} {base : Nat} {e : TypeId} {size n : Nat} {v : Value} {cs : List Value} (h : Own w base e size v n cs) (k : Fr [] w w') : Own w' base e size v n cs := h.fr k (by simp)
theorem Own.base {w : World} {base base' : Nat} {e : TypeId} {size n : Nat} {v : Value} {cs : List Value} (h : Own w base e size v n cs) (hb : base' ≤ base) : Own w base' e size v n cs := by
  obtain ⟨h1, h2⟩ := h
  refine ⟨h1, ?_⟩
  rcases h2 with h2 | ⟨g, cap, cur, hv, hg, r⟩
  · exact Or.inl h2
  · exact Or.inr ⟨g, cap, cur, hv, by omega, r⟩
theorem Own.form {w : World} {base : Nat} {e : TypeId} {size n : Nat} {v : Value} {cs : List Value} (h : Own w base e size v n cs) : ∃ a c, v = .slice a n c ∧ n ≤ c ∧ c ≤ maxLen ∧ Rd w a cs := by
  rcases h.2 with ⟨rfl, rfl⟩ | ⟨g, cap, cur, rfl, _, hg, hn, hm, hs, ht⟩
  · refine ⟨none, 0, rfl, Nat.le_refl _, Nat.zero_le _, ?_⟩
    have : cs = [] := List.eq_nil_of_length_eq_zero (by simpa using h.1)
    subst this
    exact Rd.nil _ _
  · refine ⟨_, cap, rfl, hn, hm, ?_⟩
    have hb : Blk w g e cur.toList := by unfold Blk; simpa using hg
    rw [← ht]
    exact hb.rd0 _
/-- With an element there is a block. -/
theorem Own.blk {w : World} {base : Nat} {e : TypeId} {size n : Nat} {v : Value} {cs : List Value} (h : Own w base e size v n cs) (hn : 0 < n) : ∃ g cap cur, v = .slice (some ⟨g, 0, none⟩) n cap ∧ base ≤ g ∧ Blk w g e cur ∧ n ≤ cap ∧ cap ≤ maxLen ∧ cur.length = cap * size ∧ cur.take (n * size) = cs := by
  rcases h.2 with ⟨rfl, rfl⟩ | ⟨g, cap, cur, rfl, hg, hh, h1, h2, h3, h4⟩
  · omega
  · exact ⟨g, cap, cur.toList, rfl, hg, by unfold Blk; simpa using hh, h1, h2, by simpa using h3, h4⟩
theorem Own.of_blk {w : World} {base g : Nat} {e : TypeId} {size n cap : Nat} {cur : List Value} (hg : base ≤ g) (hb : Blk w g e cur) (hn : n ≤ cap) (hm : cap ≤ maxLen) (hs : cur.length = cap * size) :
    Own w base e size (.slice (some ⟨g, 0, none⟩) n cap) n (cur.take (n * size)) :=
  ⟨by rw [List.length_take, hs]; exact Nat.min_eq_left (Nat.mul_le_mul_right _ hn), .inr ⟨g, cap, cur.toArray, rfl, hg, hb, hn, hm, by simpa using hs, rfl⟩⟩

/-- append(v, x..), v a row of one's own, x whatever is read. -/
theorem run_app {P : Program} (w : World) (base : Nat) (t tx ty e : TypeId) (i : TypeInfo) (z : Value) (size bytes : Nat) (ht : P.underlying t = some (.slice e)) (hi : P.info? e = some i) (hz : i.zero = some z)
    (hsize : i.size = size) (hby : i.bytes = bytes) (hzs : z.cells.size = size) (hsz : 0 < size)
    (v : Value) (n : Nat) (xs : List Value) (hown : Own w base e size v n xs)
    (x : Value) (m : Nat) (news : List Value) (hs : Src P size tx x m news w)
    (h63 : n + m ≤ maxLen) (hbytes : (n + m) * bytes ≤ 140737488355328) (hbase : base ≤ w.heap.size) :
    ∃ v' w', (Builtin.append_ #[t, tx] ty #[v, x]).run P w = .ok v' w' ∧ Own w' base e size v' (n + m) (xs ++ news) ∧ Fr (ob v) w w' ∧ (ob v' = ob v ∨ ob v' = [w.heap.size]) ∧ (v' = .slice none 0 0 ↔ v = .slice none 0 0 ∧ m = 0) := by
  subst hsize; subst hby
  have hnl := hs.newsLen
  rcases hown.2 with ⟨rfl, rfl⟩ | ⟨g, cap, cur, rfl, hg, hh, h1, h2, h3, h4⟩
  · have hx0 : xs = [] := List.eq_nil_of_length_eq_zero (by simpa using hown.1)
    subst hx0
    by_cases hm : m = 0
    · subst hm
      have hn0 : news = [] := List.eq_nil_of_length_eq_zero (by simpa using hnl)
      subst hn0
      refine ⟨.slice none 0 0, w, ?_, hown, Fr.refl _ _, .inl rfl, by simp⟩
      rcases hs.kind with ⟨e', hk⟩ | hk <;> simp [Builtin.append_, run_underlying ht, run_underlying hk, sizeOf, typeInfo, hi, hs.len, hs.cells]
    · have hfit : Builtin.nextslicecap (0 + m) 0 * i.bytes ≤ 281474976710656 := growslice_fits (by omega) hbytes
      refine ⟨_, _, run_append_grow_src w t tx ty e i z ht hi hz none 0 0 [] (run_firstCells_none w.drew i.size 0 0 0) x m news hs (by omega) (by simp only [maxLen] at h63; omega) hfit, ?_, ?_, .inr (by simp), by simp [hm]⟩
      · have hge := grownCap_ge w (0 + m) 0 e
        have hle := grownCap_le_maxLen w (0 + m) 0 e h63
        have hb := Blk.newA w.drew e (([] ++ news).toArray ++ Builtin.zeroCells z.cells (grownCap w (0 + m) 0 e - (0 + m)))
        have hsz : (([] ++ news).toArray ++ Builtin.zeroCells z.cells (grownCap w (0 + m) 0 e - (0 + m))).toList.length = grownCap w (0 + m) 0 e * i.size := by
          generalize grownCap w (0 + m) 0 e = G at hge ⊢
          simp only [Array.length_toList, Array.size_append, List.nil_append, List.size_toArray, size_zeroCells, hnl, hzs, ← Nat.add_mul]
          congr 1
          omega
        have := Own.of_blk (base := base) (size := i.size) (by simpa using hbase) hb hge hle hsz
        rw [Array.toList_append] at this
        simp only [List.nil_append] at this ⊢
        rw [List.take_append_of_le_length (by simp [hnl]), List.take_of_length_le (by simp [hnl])] at this
        exact this
      · exact ((Fr.refl _ w).drew).alloc _
  · have hlx : xs.length = n * i.size := hown.1
    by_cases hroom : n + m ≤ cap
    · have hb : Blk w g e cur.toList := by unfold Blk; simpa using hh
      have hfit : n * i.size + news.length ≤ cur.toList.length := by rw [hnl, Array.length_toList, h3, ← Nat.add_mul]; exact Nat.mul_le_mul_right _ hroom
      refine ⟨_, _, run_append_room_src w t tx ty e i ht hi g 0 n cap x m news hs hroom (fun j hj => ?_) (fun j _ => hb.frozen _), ?_, ?_, .inl (by simp), by simp⟩
      · rw [hb.cell, List.getElem?_eq_getElem (by omega)]; rfl
      · have hb' := hb.setN news (0 + n * i.size) (by simpa using hfit)
        have := Own.of_blk (base := base) (size := i.size) hg hb' hroom h2 (by rw [length_splice _ _ _ (by simpa using hfit)]; simpa using h3)
        have e1 : (splice cur.toList (0 + n * i.size) news).take ((n + m) * i.size) = xs ++ news := by
          unfold splice
          rw [Nat.zero_add, h4, ← List.append_assoc]
          exact List.take_left' (by simp [hlx, hnl, Nat.add_mul])
        rw [e1] at this
        exact this
      · exact (Fr.refl _ w).setCells _ (.inl (by simp)) _
    · have hb : Blk w g e cur.toList := by unfold Blk; simpa using hh
      have hold : (Builtin.firstCells i.size n (.slice (some ⟨g, 0, none⟩) n cap)).run P w.drew = .ok xs.toArray w.drew := by
        refine run_firstCells_some w.drew i.size n ⟨g, 0, none⟩ n cap xs hlx (fun j u hu => ?_)
        rw [Addr.add_mid, Nat.zero_add]
        have : cur.toList[j]? = some u := by
          rw [← h4] at hu
          rw [List.getElem?_take] at hu
          split at hu
          · exact hu
          · cases hu
        exact hb.drew.cellAt this
      have hfit : Builtin.nextslicecap (n + m) cap * i.bytes ≤ 281474976710656 := growslice_fits (by omega) hbytes
      refine ⟨_, _, run_append_grow_src w t tx ty e i z ht hi hz _ n cap xs hold x m news hs (by omega) (by simp only [maxLen] at h63; omega) hfit, ?_, ?_, .inr (by simp), by simp⟩
      · have hge := grownCap_ge w (n + m) cap e
        have hle := grownCap_le_maxLen w (n + m) cap e h63
        have hb := Blk.newA w.drew e ((xs ++ news).toArray ++ Builtin.zeroCells z.cells (grownCap w (n + m) cap e - (n + m)))
        have := Own.of_blk (base := base) (size := i.size) (by simpa using hbase) hb hge hle (by simp [size_zeroCells, hlx, hnl, hzs, ← Nat.add_mul]; congr 1; omega)
        simp only [Array.toList_append] at this
        rw [List.take_append_of_le_length (by simp [hlx, hnl, Nat.add_mul]), List.take_of_length_le (by simp [hlx, hnl, Nat.add_mul])] at this
        exact this
      · exact ((Fr.refl _ w).drew).alloc _

theorem wp_app {P : Program} {w : World} {o : Oper} {a : Act} {K : Act → World → Prop} {Q : Exit → Act → World → Prop} (s y : Operand) (t tx : TypeId)
    (ho : o.op = .call { callee := .builtin .append, args := #[s, y], argTypes := #[t, tx] })
    (base : Nat) (e : TypeId) (i : TypeInfo) (z : Value) (size bytes : Nat) (ht : P.underlying t = some (.slice e)) (hi : P.info? e = some i) (hz : i.zero = some z)
    (hsize : i.size = size) (hby : i.bytes = bytes) (hzs : z.cells.size = size) (hsz : 0 < size)
    (v : Value) (n : Nat) (xs : List Value) (hv : a.eval s = v) (hown : Own w base e size v n xs)
    (x : Value) (m : Nat) (news : List Value) (hx : a.eval y = x) (hs : Src P size tx x m news w)
    (h63 : n + m ≤ maxLen) (hbytes : (n + m) * bytes ≤ 140737488355328) (hbase : base ≤ w.heap.size)
    (h : ∀ v' w', Own w' base e size v' (n + m) (xs ++ news) → Fr (ob v) w w' → (ob v' = ob v ∨ ob v' = [w.heap.size]) → (v' = .slice none 0 0 ↔ v = .slice none 0 0 ∧ m = 0) → K (a.put o.dst v') w') : o.wp P a w K Q := by
  obtain ⟨v', w', hr, h2, h3, h4, h5⟩ := run_app (P := P) w base t tx o.type e i z size bytes ht hi hz hsize hby hzs hsz v n xs hown x m news hs h63 hbytes hbase
  unfold Oper.wp execOp
  simp only [ho, resolve, invoke, builtin, Sem.run_bind, Sem.run_pure, Result.andThen_ok, List.map_toArray, List.map_cons, List.map_nil, hv, hx, hr]
  exact h v' w' h2 h3 h4 h5
theorem wpList_app {P : Program} {w : World} {ops : Array Oper} {rest : List Oper} {o : Oper} {a : Act} {Q : Exit → Act → World → Prop} (hgd : o.guard = none) (s y : Operand) (t tx : TypeId)
    (ho : o.op = .call { callee := .builtin .append, args := #[s, y], argTypes := #[t, tx] })
    (base : Nat) (e : TypeId) (i : TypeInfo) (z : Value) (size bytes : Nat) (ht : P.underlying t = some (.slice e)) (hi : P.info? e = some i) (hz : i.zero = some z)
    (hsize : i.size = size) (hby : i.bytes = bytes) (hzs : z.cells.size = size) (hsz : 0 < size)
    (v : Value) (n : Nat) (xs : List Value) (hv : a.eval s = v) (hown : Own w base e size v n xs)
    (x : Value) (m : Nat) (news : List Value) (hx : a.eval y = x) (hs : Src P size tx x m news w)
    (h63 : n + m ≤ maxLen) (hbytes : (n + m) * bytes ≤ 140737488355328) (hbase : base ≤ w.heap.size)
    (h : ∀ v' w', Own w' base e size v' (n + m) (xs ++ news) → Fr (ob v) w w' → (ob v' = ob v ∨ ob v' = [w.heap.size]) → (v' = .slice none 0 0 ↔ v = .slice none 0 0 ∧ m = 0) → wpList P ops Q rest (a.put o.dst v') w') : wpList P ops Q (o :: rest) a w :=
  wpList_plain hgd fun _ hK => wp_app s y t tx ho base e i z size bytes ht hi hz hsize hby hzs hsz v n xs hv hown x m news hx hs h63 hbytes hbase fun v' w' h2 h3 h4 h5 => hK _ _ (h v' w' h2 h3 h4 h5)
end Go.Fur
