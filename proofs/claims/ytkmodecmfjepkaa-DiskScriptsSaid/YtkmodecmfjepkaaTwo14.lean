/- Two disks side by side. -/
import Derived.Test.YtkmodecmfjepkaaOps14
namespace Go.Fur
open Go Go.RowKit Go.Proofs
set_option linter.unusedVariables false
set_option linter.unusedSimpArgs false
/-- Two disks in one world, apart from each other, that keep all that was there. -/
structure TwoAt (W : World) (pa ba pb bb : Nat) (a b : D) (wr : World) (la lb : Value) : Prop where
  da : DiskAt wr W.heap.size pa ba la a
  db : DiskAt wr W.heap.size pb bb lb b
  far : ∀ k ∈ pa :: ba :: ob la, k ∉ pb :: bb :: ob lb
  fr : Fr [] W wr
  ya : a.byt
  yb : b.byt
def Two (W : World) (pa ba pb bb : Nat) (a b : D) (wr : World) : Prop := ∃ la lb, TwoAt W pa ba pb bb a b wr la lb
theorem TwoAt.calm {W wr w' : World} {pa ba pb bb : Nat} {a b : D} {la lb : Value} (h : TwoAt W pa ba pb bb a b wr la lb) (f : Fr [] wr w') : TwoAt W pa ba pb bb a b w' la lb :=
  ⟨h.da.fr0 f, h.db.fr0 f, h.far, h.fr.trans0 f, h.ya, h.yb⟩
theorem TwoAt.turnA {W wr w' : World} {pa ba pb bb : Nat} {a b a' : D} {la lb la' : Value} (h : TwoAt W pa ba pb bb a b wr la lb) (hd : DiskAt w' W.heap.size pa ba la' a') (S : List Nat) (f : Fr S wr w') (hS : ∀ k ∈ S, k ∈ pa :: ba :: ob la)
    (hk : ∀ k ∈ ob la', k ∈ ob la ∨ wr.heap.size ≤ k) (hy : a'.byt) : TwoAt W pa ba pb bb a' b w' la' lb := by
  refine ⟨hd, h.db.fr f (fun hm => h.far _ (hS _ hm) (by simp)) (fun hm => h.far _ (hS _ hm) (by simp)) (fun k hk hm => h.far _ (hS _ hm) (by simp [hk])), fun k hk' hm => ?_, h.fr.trans f (fun k hm hlt => ?_), hy, h.yb⟩
  · simp only [List.mem_cons] at hk'
    rcases hk' with rfl | rfl | hk'
    · exact h.far k (by simp) hm
    · exact h.far k (by simp) hm
    · rcases hk k hk' with h1 | h1
      · exact h.far k (by simp [h1]) hm
      · have := h.db.lt k hm
        omega
  · have := h.da.ge k (hS k hm)
    omega
theorem TwoAt.turnB {W wr w' : World} {pa ba pb bb : Nat} {a b b' : D} {la lb lb' : Value} (h : TwoAt W pa ba pb bb a b wr la lb) (hd : DiskAt w' W.heap.size pb bb lb' b') (S : List Nat) (f : Fr S wr w') (hS : ∀ k ∈ S, k ∈ pb :: bb :: ob lb)
    (hk : ∀ k ∈ ob lb', k ∈ ob lb ∨ wr.heap.size ≤ k) (hy : b'.byt) : TwoAt W pa ba pb bb a b' w' la lb' := by
  refine ⟨h.da.fr f (fun hm => h.far _ (by simp) (hS _ hm)) (fun hm => h.far _ (by simp) (hS _ hm)) (fun k hk hm => h.far _ (by simp [hk]) (hS _ hm)), hd, fun k hk' hm => ?_, h.fr.trans f (fun k hm hlt => ?_), h.ya, hy⟩
  · simp only [List.mem_cons] at hm
    rcases hm with rfl | rfl | hm
    · exact h.far k hk' (by simp)
    · exact h.far k hk' (by simp)
    · rcases hk k hm with h1 | h1
      · exact h.far k hk' (by simp [h1])
      · have := h.da.lt k hk'
        omega
  · have := h.db.ge k (hS k hm)
    omega

/-! ### The plain law: what is taken back is as if it had not been made -/
theorem undo_snoc_in (d : D) (n : Nat) (b x : List Int) (keep : Nat) (hk : keep ≤ d.loose.length) (hn : d.now[n]? = some b) :
    undo ⟨d.now.set n x, d.loose ++ [(n, b, x)]⟩ keep = undo d keep := by
  unfold undo
  simp only
  rw [List.drop_append_of_le_length hk, List.foldr_append]
  simp only [List.foldr_cons, List.foldr_nil, List.set_set]
  obtain ⟨hlt, hb⟩ := List.getElem?_eq_some_iff.1 hn
  rw [← hb, List.set_getElem_self]
theorem write_ok {d : D} {n : Int} {l : List Int} (h : (d.write n l).1 = 0) : ∃ j b, n = (j : Nat) ∧ d.now[j]? = some b ∧ (d.write n l).2 = ⟨d.now.set j (pad l), d.loose ++ [(j, b, pad l)]⟩ := by
  unfold D.write at h ⊢
  split
  · rename_i h1
    rw [if_pos h1] at h
    simp at h
  · rename_i h1
    rw [if_neg h1] at h
    split
    · rename_i h2
      rw [if_pos h2] at h
      simp at h
    · have hlt : n.toNat < d.now.length := by omega
      exact ⟨n.toNat, d.now.getD n.toNat [], by omega, by rw [List.getD_eq_getElem?_getD, List.getElem?_eq_getElem hlt]; rfl, rfl⟩
theorem write_no {d : D} {n : Int} {l : List Int} (h : (d.write n l).1 ≠ 0) : (d.write n l).2 = d := by
  unfold D.write at h ⊢
  split
  · rfl
  · split
    · rfl
    · rename_i h1 h2
      rw [if_neg h1, if_neg h2] at h
      exact absurd rfl h
/-- What holds while loose writes are made to both: b is what a would be behind a crash. -/
structure Mirror (keep : Int) (count : Nat) (a b : D) : Prop where
  cnt : a.loose.length = count
  now : undo a keep.toNat = b.now
  la : a.now.length = 40
  lb : b.now.length = 40
  few : b.loose.length ≤ count
theorem Mirror.both {keep : Int} {count : Nat} {a b : D} (h : Mirror keep count a b) (hlt : (count : Int) < keep) {n : Int} {l : List Int} (ho : (a.write n l).1 = 0) : Mirror keep (count + 1) (a.write n l).2 (b.write n l).2 := by
  obtain ⟨j, x, rfl, hx, he⟩ := write_ok ho
  have hab : a.now = b.now := by
    rw [← h.now, undo_all a _ (by rw [h.cnt]; omega)]
  have hbo : (b.write (j : Nat) l).1 = 0 := by
    unfold D.write at ho ⊢
    rw [← hab]
    split at ho
    · simp at ho
    · rename_i h1
      rw [if_neg h1]
      split at ho
      · simp at ho
      · rename_i h2
        rw [if_neg h2]
  obtain ⟨j', y, hj', hy, he'⟩ := write_ok hbo
  have hjj : j = j' := by omega
  subst hjj
  refine ⟨by rw [he]; simp [h.cnt], ?_, by rw [write_length]; exact h.la, by rw [write_length]; exact h.lb, ?_⟩
  · rw [he, he', undo_all _ _ (by simp [h.cnt]; omega), hab]
  · have := write_loose b (j : Nat) l
    have := h.few
    omega
theorem Mirror.one {keep : Int} {count : Nat} {a b : D} (h : Mirror keep count a b) (hk : 0 ≤ keep) (hlt : keep ≤ (count : Int)) {n : Int} {l : List Int} (ho : (a.write n l).1 = 0) : Mirror keep (count + 1) (a.write n l).2 b := by
  obtain ⟨j, x, rfl, hx, he⟩ := write_ok ho
  refine ⟨by rw [he]; simp [h.cnt], ?_, by rw [write_length]; exact h.la, h.lb, by have := h.few; omega⟩
  rw [he, undo_snoc_in a j x _ keep.toNat (by rw [h.cnt]; omega) hx]
  exact h.now
theorem read_now {a b : D} (h : a.now = b.now) (n : Int) : a.read n = b.read n := by
  unfold D.read
  rw [h]
theorem read_in (d : D) (n : Nat) (h : n < d.now.length) : (d.read n).2 = 0 := by
  unfold D.read
  rw [if_neg (by omega)]
end Go.Fur
