/- A disk and the document's one: what they share; furlongref14's contracts for all inputs. -/
import Derived.Test.YtkmodecmfjepkaaRef14b
import Derived.Test.YtkmodecmfjepkaaTwo14
namespace Go.Fur
open Go Go.RowKit Go.Proofs
structure Sim (d : D) (r : Rf) : Prop where
  now : d.now = r.now.map pad
  len : d.loose.length = r.loose.length
  back : ∀ k, undo d k = (r.replay k).map pad
  same : r.safe.length = r.now.length
theorem Sim.size {d : D} {r : Rf} (h : Sim d r) : d.now.length = r.now.length := by rw [h.now]; simp
theorem Sim.new (n : Nat) : Sim (D.new n) (Rf.new n) := by
  have e : pad [] = zeros 64 := by simp [pad]
  refine ⟨by simp [D.new, Rf.new, e], rfl, fun k => ?_, rfl⟩
  rw [undo_all _ _ (by simp [D.new])]
  simp [D.new, Rf.new, Rf.replay, e]
theorem Sim.errWrite {d : D} {r : Rf} (h : Sim d r) (n : Int) (l : List Int) : (d.write n l).1 = (r.put n l).1 := by
  unfold D.write Rf.put
  rw [h.size]
  split
  · rfl
  · split <;> rfl
theorem Sim.write {d : D} {r : Rf} (h : Sim d r) (n : Int) (l : List Int) : Sim (d.write n l).2 (r.put n l).2 := by
  unfold Rf.put
  rw [← h.size]
  by_cases h1 : n < 0 ∨ d.now.length ≤ n
  · have e : (d.write n l).2 = d := by unfold D.write; rw [if_pos h1]
    rw [e, if_pos h1]
    exact h
  · rw [if_neg h1]
    by_cases h2 : 64 < l.length
    · have e : (d.write n l).2 = d := by unfold D.write; rw [if_neg h1, if_pos h2]
      rw [e, if_pos h2]
      exact h
    · rw [if_neg h2]
      have e0 : (d.write n l).1 = 0 := by unfold D.write; rw [if_neg h1, if_neg h2]
      obtain ⟨j, b, rfl, hb, he⟩ := write_ok e0
      rw [he]
      simp only [Int.toNat_natCast]
      have hr : ∀ k, k ≤ r.loose.length → Rf.replay ⟨r.now.set j l, r.safe, r.loose ++ [(j, l)]⟩ k = r.replay k := fun k hk => by
        unfold Rf.replay
        simp only
        rw [List.take_append_of_le_length hk]
      refine ⟨by simp only; rw [h.now, List.map_set], by simp [h.len], fun k => ?_, by simpa using h.same⟩
      rcases Nat.lt_or_ge k (r.loose.length + 1) with hk | hk
      · rw [undo_snoc_in d j b _ k (by have := h.len; omega) hb, hr k (by omega)]
        exact h.back k
      · rw [undo_all _ _ (by simp; have := h.len; omega), Rf.replay_all _ k (by simpa using hk)]
        simp only [List.length_append, List.length_cons, List.length_nil, Nat.zero_add]
        rw [Rf.replay_step _ r.loose.length (j, l) (by simp), hr _ (Nat.le_refl _)]
        simp only [List.map_set]
        rw [← h.back, undo_all d _ (by have := h.len; omega)]
theorem Sim.calm {d : D} {r : Rf} (h : Sim d r) : Sim d.calm r.calm := by
  refine ⟨h.now, rfl, fun k => ?_, rfl⟩
  rw [undo_all _ _ (by simp [D.calm])]
  simpa [D.calm, Rf.calm, Rf.replay] using h.now
theorem Sim.errCrash {d : D} {r : Rf} (k : Int) : (d.crash k).1 = (r.crash k).1 := by
  unfold D.crash Rf.crash
  split <;> rfl
theorem Sim.crash {d : D} {r : Rf} (h : Sim d r) (k : Int) : Sim (d.crash k).2 (r.crash k).2 := by
  unfold D.crash Rf.crash
  by_cases h1 : k < 0
  · rw [if_pos h1, if_pos h1]
    exact h
  · rw [if_neg h1, if_neg h1]
    refine ⟨h.back _, rfl, fun j => ?_, rfl⟩
    rw [undo_all _ _ (by simp)]
    simpa [Rf.replay] using h.back k.toNat
theorem Sim.read {d : D} {r : Rf} (h : Sim d r) (n : Int) : d.read n = r.read n := by
  unfold D.read Rf.read
  rw [h.size]
  split
  · rfl
  · rename_i h1
    have hlt : n.toNat < r.now.length := by omega
    rw [h.now, List.getD_eq_getElem?_getD, List.getD_eq_getElem?_getD, List.getElem?_map, List.getElem?_eq_getElem hlt]
    rfl
theorem refPut_all {w : World} {X : Nat → Prop} {cs : List Value} {r : Rf} (h : RefAt w X cs r) (hX : ∀ k, X k → k < w.heap.size) (n : Int) (a : Option Addr) (m c : Nat) (l : List Int) (hl : l.length = m) (hr : Rd w a (bv l)) (hf : r.loose.length < 1000000) :
    Calls Try.prog 11 #[.agg cs.toArray, .int .i64 n, .slice a m c] w fun e w' => ∃ cs', e = .returned (.tuple #[.agg cs'.toArray, .int .i64 (r.put n l).1]) ∧ RefAt w' X cs' (r.put n l).2 ∧ Fr [] w w' := by
  by_cases h1 : n < 0 ∨ r.now.length ≤ n
  · have e : (r.put n l).2 = r := by unfold Rf.put; rw [if_pos h1]
    rw [e]
    exact (refPut_no h n a m c l hl (.inl h1)).mono fun e w' ⟨he, hf⟩ => ⟨cs, he, h.step hf (by simp) (fun _ h => .inl h), hf⟩
  · by_cases h2 : 64 < l.length
    · have e : (r.put n l).2 = r := by unfold Rf.put; rw [if_neg h1, if_pos h2]
      rw [e]
      exact (refPut_no h n a m c l hl (.inr h2)).mono fun e w' ⟨he, hf⟩ => ⟨cs, he, h.step hf (by simp) (fun _ h => .inl h), hf⟩
    · obtain ⟨j, rfl⟩ := Int.eq_ofNat_of_zero_le (show 0 ≤ n by omega)
      have e : r.put j l = (0, ⟨r.now.set j l, r.safe, r.loose ++ [(j, l)]⟩) := by unfold Rf.put; rw [if_neg h1, if_neg h2]; rfl
      rw [e]
      exact refPut_calls h hX j (by omega) a m c l hl (by omega) hr hf
theorem refCrash_all {w : World} {X : Nat → Prop} {cs : List Value} {r : Rf} (h : RefAt w X cs r) (hX : ∀ k, X k → k < w.heap.size) (keep : Int) :
    Calls Try.prog 15 #[.agg cs.toArray, .int .i64 keep] w fun e w' => ∃ cs', e = .returned (.tuple #[.agg cs'.toArray, .int .i64 (r.crash keep).1]) ∧ RefAt w' X cs' (r.crash keep).2 ∧ Fr [] w w' := by
  by_cases h1 : keep < 0
  · have e : r.crash keep = (1, r) := by unfold Rf.crash; rw [if_pos h1]
    rw [e]
    exact (refCrash_arg h keep h1).mono fun e w' ⟨he, hf⟩ => ⟨cs, he, h.step hf (by simp) (fun _ h => .inl h), hf⟩
  · have e : r.crash keep = (0, ⟨r.replay keep.toNat, r.replay keep.toNat, []⟩) := by unfold Rf.crash; rw [if_neg h1]
    rw [e]
    exact refCrash_calls h hX keep (by omega)
theorem RefAt.cells {w : World} {X : Nat → Prop} {cs : List Value} {r : Rf} (h : RefAt w X cs r) : ∃ na sa la nc sc lc m, cs = [.slice na r.now.length nc, .slice sa m sc, .slice la r.loose.length lc] ∧ r.loose.length ≤ 1000000 ∧ r.now.length ≤ 65536 := by
  obtain ⟨na, sa, la, nc, sc, lc, nv, sv, lv, he, h⟩ := h
  have h1 := h.bn.1
  have h2 := h.bl.1
  simp only [List.length_map] at h2
  exact ⟨na, sa, la, nc, sc, lc, sv.length, by rw [he, refCells, h1, h2], h.wf.few, h.wf.max⟩
end Go.Fur
