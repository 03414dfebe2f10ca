/- What holds between the rounds of DiskScripts. -/
import Derived.Test.YtkmodecmfjepkaaSim14
import Derived.Test.YtkmodecmfjepkaaReg2
namespace Go.Fur
open Go Go.RowKit Go.Proofs
def Off (rb pa ba : Nat) (lv : Value) (G : List Nat) (k : Nat) : Prop := k ∈ G ∨ k = rb ∨ k ∈ pa :: ba :: ob lv
/-- A disk and the document's one, in one world, apart from each other and from the blocks of G. -/
structure ScrAt (W : World) (pa ba rb : Nat) (G : List Nat) (d : D) (r : Rf) (lv : Value) (cs : List Value) (wr : World) : Prop where
  da : DiskAt wr W.heap.size pa ba lv d
  yd : d.byt
  hb : Blk wr rb 31 cs
  ra : RefAt wr (Off rb pa ba lv G) cs r
  apart : rb ∉ pa :: ba :: ob lv
  ge : W.heap.size ≤ rb
  far : ∀ g ∈ G, g ≠ rb ∧ g ∉ pa :: ba :: ob lv ∧ W.heap.size ≤ g ∧ g < wr.heap.size
  fr : Fr [] W wr
theorem ScrAt.lt {W wr : World} {pa ba rb : Nat} {G : List Nat} {d : D} {r : Rf} {lv : Value} {cs : List Value} (h : ScrAt W pa ba rb G d r lv cs wr) : ∀ k, Off rb pa ba lv G k → k < wr.heap.size := fun k hk => by
  rcases hk with hk | rfl | hk
  · exact (h.far k hk).2.2.2
  · exact h.hb.lt
  · exact h.da.lt k hk
theorem ScrAt.calm {W wr w' : World} {pa ba rb : Nat} {G : List Nat} {d : D} {r : Rf} {lv : Value} {cs : List Value} (h : ScrAt W pa ba rb G d r lv cs wr) (f : Fr [] wr w') : ScrAt W pa ba rb G d r lv cs w' :=
  ⟨h.da.fr0 f, h.yd, h.hb.fr f (by simp), h.ra.step f (by simp) (fun _ h => .inl h), h.apart, h.ge, fun g hg => ⟨(h.far g hg).1, (h.far g hg).2.1, (h.far g hg).2.2.1, Nat.lt_of_lt_of_le (h.far g hg).2.2.2 f.size⟩, h.fr.trans0 f⟩
/-- The disk is turned. -/
theorem ScrAt.disk {W wr w' : World} {pa ba rb : Nat} {G : List Nat} {d d' : D} {r : Rf} {lv lv' : Value} {cs : List Value} (h : ScrAt W pa ba rb G d r lv cs wr) (hd : DiskAt w' W.heap.size pa ba lv' d') (S : List Nat) (f : Fr S wr w') (hS : ∀ k ∈ S, k ∈ pa :: ba :: ob lv)
    (hk : ∀ k ∈ ob lv', k ∈ ob lv ∨ wr.heap.size ≤ k) (hy : d'.byt) : ScrAt W pa ba rb G d' r lv' cs w' := by
  have hnew : ∀ k, k ∈ pa :: ba :: ob lv' → k ∈ pa :: ba :: ob lv ∨ wr.heap.size ≤ k := fun k hm => by
    simp only [List.mem_cons] at hm ⊢
    rcases hm with h1 | h1 | h1
    · exact .inl (.inl h1)
    · exact .inl (.inr (.inl h1))
    · rcases hk k h1 with h2 | h2
      · exact .inl (.inr (.inr h2))
      · exact .inr h2
  refine ⟨hd, hy, h.hb.fr f (fun hm => h.apart (hS _ hm)), h.ra.step f (fun k hm => .inl (.inr (.inr (hS k hm)))) (fun k hm => ?_), fun hm => ?_, h.ge, fun g hg => ?_, h.fr.trans f (fun k hm hlt => ?_)⟩
  · rcases hm with hm | hm | hm
    · exact .inl (.inl hm)
    · exact .inl (.inr (.inl hm))
    · exact (hnew k hm).imp (fun h => .inr (.inr h)) id
  · rcases hnew _ hm with h1 | h1
    · exact h.apart h1
    · have := h.hb.lt
      omega
  · obtain ⟨h1, h2, h3, h4⟩ := h.far g hg
    refine ⟨h1, fun hm => ?_, h3, Nat.lt_of_lt_of_le h4 f.size⟩
    rcases hnew _ hm with h5 | h5
    · exact h2 h5
    · omega
  · have := h.da.ge k (hS k hm)
    omega
/-- The document's disk is turned, and stored. -/
theorem ScrAt.ref {W wr w1 w2 : World} {pa ba rb : Nat} {G : List Nat} {d : D} {r r' : Rf} {lv : Value} {cs cs' : List Value} (h : ScrAt W pa ba rb G d r lv cs wr) (hr : RefAt w1 (Off rb pa ba lv G) cs' r') (f : Fr [] wr w1)
    (hb : Blk w2 rb 31 cs') (f2 : Fr [rb] w1 w2) : ScrAt W pa ba rb G d r' lv cs' w2 := by
  have h1 := h.calm f
  refine ⟨h1.da.fr f2 (fun hm => ?_) (fun hm => ?_) (fun k hk hm => ?_), h.yd, hb, hr.step f2 (fun k hm => ?_) (fun _ h => .inl h), h.apart, h.ge, fun g hg => ?_, h1.fr.trans f2 (fun k hm hlt => ?_)⟩
  · exact h.apart (by simp at hm; simp [hm])
  · exact h.apart (by simp at hm; simp [hm])
  · exact h.apart (by simp at hm; subst hm; simp [hk])
  · simp at hm
    exact .inl (.inr (.inl hm))
  · obtain ⟨h1, h2, h3, h4⟩ := h1.far g hg
    exact ⟨h1, h2, h3, Nat.lt_of_lt_of_le h4 f2.size⟩
  · simp at hm
    have := h.ge
    omega
/-- Blocks of G are written. -/
theorem ScrAt.own {W wr w' : World} {pa ba rb : Nat} {G : List Nat} {d : D} {r : Rf} {lv : Value} {cs : List Value} (h : ScrAt W pa ba rb G d r lv cs wr) (S : List Nat) (f : Fr S wr w') (hS : ∀ k ∈ S, k ∈ G) : ScrAt W pa ba rb G d r lv cs w' := by
  refine ⟨h.da.fr f (fun hm => ?_) (fun hm => ?_) (fun k hk hm => ?_), h.yd, h.hb.fr f (fun hm => ?_), h.ra.step f (fun k hm => .inl (.inl (hS k hm))) (fun _ h => .inl h), h.apart, h.ge, fun g hg => ?_, h.fr.trans f (fun k hm hlt => ?_)⟩
  · exact (h.far _ (hS _ hm)).2.1 (by simp)
  · exact (h.far _ (hS _ hm)).2.1 (by simp)
  · exact (h.far _ (hS _ hm)).2.1 (by simp [hk])
  · exact (h.far _ (hS _ hm)).1 rfl
  · obtain ⟨h1, h2, h3, h4⟩ := h.far g hg
    exact ⟨h1, h2, h3, Nat.lt_of_lt_of_le h4 f.size⟩
  · have := (h.far _ (hS _ hm)).2.2.1
    omega
/-- New blocks come into G. -/
theorem ScrAt.more {W wr w' : World} {pa ba rb : Nat} {G : List Nat} {d : D} {r : Rf} {lv : Value} {cs : List Value} (h : ScrAt W pa ba rb G d r lv cs wr) (f : Fr [] wr w') (G' : List Nat) (hG : ∀ k ∈ G', k ∈ G ∨ (wr.heap.size ≤ k ∧ k < w'.heap.size)) : ScrAt W pa ba rb G' d r lv cs w' := by
  have h1 := h.calm f
  refine ⟨h1.da, h.yd, h1.hb, h.ra.step f (by simp) (fun k hm => ?_), h.apart, h.ge, fun g hg => ?_, h1.fr⟩
  · rcases hm with hm | hm | hm
    · exact (hG k hm).imp .inl (·.1)
    · exact .inl (.inr (.inl hm))
    · exact .inl (.inr (.inr hm))
  · rcases hG g hg with h2 | ⟨h2, h3⟩
    · exact h1.far g h2
    · refine ⟨fun e => ?_, fun hm => ?_, ?_, h3⟩
      · have := h.hb.lt
        omega
      · have := h.da.lt _ hm
        omega
      · have := h.fr.size
        omega
/-- A call of a Go function by its contract, its guard let be. -/
theorem wpList_callG {P : Program} {ops : Array Oper} {rest : List Oper} {o : Oper} {a : Act} {w : World} {Q : Exit → Act → World → Prop} (hw : Region.wanted o (yielded ops a.tmps) = true)
    (f : FuncId) (args : Array Value) (hrun : (execOp a.eval o).run P w = .ok (.enter f args) w) (R : Ending → World → Prop) (hc : Calls P f args w R)
    (h : ∀ e w', R e w' → ∃ v, e = .returned v ∧ wpList P ops Q rest (a.put o.dst v) w') : wpList P ops Q (o :: rest) a w := by
  unfold wpList
  rw [if_pos hw]
  left
  unfold Oper.wp
  rw [hrun, Oper.upon_enter]
  refine hc.mono fun e w'' hh => ?_
  obtain ⟨v, rfl, h1⟩ := h e w'' hh
  exact h1
theorem Rd.left {w : World} {a : Option Addr} {xs ys : List Value} (h : Rd w a (xs ++ ys)) : Rd w a xs := fun hn => by
  obtain ⟨b, o, ha, hr⟩ := h (by simp [hn])
  exact ⟨b, o, ha, fun j v hv => hr j v (by rw [List.getElem?_append_left (List.getElem?_eq_some_iff.1 hv).1]; exact hv)⟩
theorem Own.rdP {w : World} {base n : Nat} {e : TypeId} {a : Option Addr} {c : Nat} {l m : List Int} (h : Own w base e 1 (.slice a n c) n (bv (l ++ m))) : Rd w a (bv l) := by
  have := (h.rdS (X := fun _ => False) (by simp)).1.rd
  rw [bv_append] at this
  exact this.left
theorem ScrAt.len3 {W wr : World} {pa ba rb : Nat} {G : List Nat} {d : D} {r : Rf} {lv : Value} {cs : List Value} (h : ScrAt W pa ba rb G d r lv cs wr) : cs.length = 3 := by
  obtain ⟨na, sa, la, nc, sc, lc, m, hcs, _⟩ := h.ra.cells
  rw [hcs]
  rfl
theorem RefAt.len3 {w : World} {X : Nat → Prop} {cs : List Value} {r : Rf} (h : RefAt w X cs r) : cs.length = 3 := by
  obtain ⟨na, sa, la, nc, sc, lc, m, hcs, _⟩ := h.cells
  rw [hcs]
  rfl
theorem RefAt.one {w : World} {X : Nat → Prop} {cs : List Value} {r : Rf} (h : RefAt w X cs r) : ∀ v ∈ cs, v.oneCell' = true := by
  obtain ⟨na, sa, la, nc, sc, lc, m, hcs, _⟩ := h.cells
  rw [hcs]
  simp [Value.oneCell']
/-- What the inner loop leaves of p. -/
def Xr (w9 : World) (base g len cap : Nat) (i : Value) (wr : World) : Prop := ∃ (j : Nat) (l : List Int), j ≤ len ∧ i = .int .i64 j ∧ l.length = len ∧ Own wr base 5 1 (.slice (some ⟨g, 0, none⟩) (len + 1) cap) (len + 1) (bv (l ++ [71])) ∧ Fr [g] w9 wr
end Go.Fur
