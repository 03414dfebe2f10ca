/- A store, plain: what a block tells that was written; reading a chain of blocks. -/
import Derived.Test.YtmhejgelmmjihaaSto11
import Derived.Test.YtmhejgelmmjihaaSto7
namespace Go.Fur
open Go Go.RowKit
set_option linter.unusedVariables false
set_option linter.unusedSimpArgs false
theorem le4_length (x : Nat) : (le4 x).length = 4 := rfl
theorem four4_le4 (x : Nat) (hx : x < 4294967296) (r : List Int) : four4 (le4 x ++ r) 0 = x := by
  simp only [four4, le4, List.drop_zero, List.cons_append, List.nil_append]
  omega
theorem four4_drop (b : List Int) (i : Nat) : four4 b i = four4 (b.drop i) 0 := by
  unfold four4
  rw [List.drop_zero]
theorem four4_append (a b : List Int) (i : Nat) (h : i + 4 ≤ a.length) : four4 (a ++ b) i = four4 a i := by
  unfold four4
  rw [List.drop_append_of_le_length (by omega)]
  have hl : (a.drop i).length = a.length - i := List.length_drop
  match hd : a.drop i with
  | x0 :: x1 :: x2 :: x3 :: l => rfl
  | [] => rw [hd] at hl; simp at hl; omega
  | [_] => rw [hd] at hl; simp at hl; omega
  | [_, _] => rw [hd] at hl; simp at hl; omega
  | [_, _, _] => rw [hd] at hl; simp at hl; omega
/-- The block as it stands on the disk. -/
def blkP (gen life : Nat) (u : List Int) : List Int := pad (blkL gen life u)
theorem blkL_length (gen life : Nat) (u : List Int) : (blkL gen life u).length = 9 + u.length := by
  unfold blkL
  simp [le4]
  omega
theorem blkP_gen {gen life : Nat} (hg : gen < 4294967296) (u : List Int) : four4 (blkP gen life u) 0 = gen := by
  unfold blkP pad blkL
  rw [List.append_assoc, List.append_assoc]
  exact four4_le4 gen hg _
theorem blkP_life {gen life : Nat} (hl : life < 4294967296) (u : List Int) : four4 (blkP gen life u) 4 = life := by
  unfold blkP pad blkL
  rw [List.append_assoc, List.append_assoc, four4_drop, List.drop_append_of_le_length (by simp [le4])]
  rw [show (le4 gen).drop 4 = [] from rfl, List.nil_append, List.append_assoc]
  exact four4_le4 life hl _
theorem blkP_used (gen life : Nat) (u : List Int) : usedB (blkP gen life u) = u.length := by
  unfold usedB blkP pad blkL
  simp [le4]
theorem blkP_bytes (gen life : Nat) (u : List Int) : ((blkP gen life u).drop 9).take u.length = u := by
  unfold blkP pad blkL
  have e : (le4 gen ++ le4 life ++ (u.length : Int) :: u ++ zeros (64 - (le4 gen ++ le4 life ++ (u.length : Int) :: u).length)).drop 9 = u ++ zeros (64 - (le4 gen ++ le4 life ++ (u.length : Int) :: u).length) := by
    simp [le4]
  rw [e]
  simp
/-! ### Chains of blocks -/
/-- The blocks f 0, .., f (a - 1) are full, and hold the first bytes of B; their lives don't fall, and are at most L. -/
structure Chain (f : Nat → List Int) (gen L a : Nat) (B : List Int) : Prop where
  full : ∀ i, i < a → four4 (f i) 0 = gen ∧ usedB (f i) = 55 ∧ ((f i).drop 9).take 55 = (B.drop (i * 55)).take 55 ∧ four4 (f i) 4 ≤ L
  mono : ∀ i, i + 1 < a → four4 (f i) 4 ≤ four4 (f (i + 1)) 4
def lastL (f : Nat → List Int) (a : Nat) : Nat := if a = 0 then 0 else four4 (f (a - 1)) 4
theorem Chain.last {f : Nat → List Int} {gen L a : Nat} {B : List Int} (h : Chain f gen L a B) : lastL f a ≤ L := by
  unfold lastL
  split
  · omega
  · exact (h.full (a - 1) (by omega)).2.2.2
theorem Chain.pre {f : Nat → List Int} {gen L a : Nat} {B : List Int} (h : Chain f gen L (a + 1) B) : Chain f gen L a B := ⟨fun i hi => h.full i (by omega), fun i hi => h.mono i (by omega)⟩
theorem chain_go {f : Nat → List Int} {gen L : Nat} {B : List Int} : ∀ (a n : Nat), Chain f gen L a B → (goB f gen (a + n) 0 0).flatten = B.take (a * 55) ++ (goB f gen n a (lastL f a)).flatten
  | 0, n, _ => by simp [lastL]
  | a + 1, n, h => by
    rw [show a + 1 + n = a + (n + 1) by omega, chain_go a (n + 1) h.pre]
    obtain ⟨h1, h2, h3, _⟩ := h.full a (by omega)
    have h4 : lastL f a ≤ four4 (f a) 4 := by
      unfold lastL
      split
      · omega
      · have := h.mono (a - 1) (by omega)
        rwa [show a - 1 + 1 = a by omega] at this
    rw [goB, if_neg (by omega), h2, if_neg (by omega), h3, List.flatten_cons, show (a + 1) * 55 = a * 55 + 55 by omega, List.take_add, List.append_assoc]
    have e : lastL f (a + 1) = four4 (f a) 4 := by unfold lastL; simp
    rw [e]
/-- Nothing is read from a block of another generation, or of an elder life. -/
theorem go_stop {f : Nat → List Int} {gen n i last : Nat} (h : n = 0 ∨ four4 (f i) 0 ≠ gen ∨ four4 (f i) 4 < last) : goB f gen n i last = [] := by
  rcases n with _ | n
  · rfl
  · rw [goB, if_pos (by omega)]
theorem go_part {f : Nat → List Int} {gen n i last : Nat} {u : List Int} (h1 : four4 (f i) 0 = gen) (h2 : last ≤ four4 (f i) 4) (h3 : usedB (f i) = u.length) (h4 : u.length < 55) (h5 : ((f i).drop 9).take u.length = u) : goB f gen (n + 1) i last = [u] := by
  rw [goB, if_neg (by omega), h3, if_pos h4, h5]
/-- What is read stands in a chain. -/
theorem go_inv (f : Nat → List Int) (gen : Nat) : ∀ (n i last : Nat) (j : Nat) (x : List Int), (goB f gen n i last)[j]? = some x →
    j < n ∧ four4 (f (i + j)) 0 = gen ∧ usedB (f (i + j)) ≤ 55 ∧ x = ((f (i + j)).drop 9).take (usedB (f (i + j))) ∧ last ≤ four4 (f (i + j)) 4 ∧ (∀ k, k < j → usedB (f (i + k)) = 55 ∧ four4 (f (i + k)) 4 ≤ four4 (f (i + k + 1)) 4)
  | 0, i, last, j, x, h => by simp [goB] at h
  | n + 1, i, last, j, x, h => by
    rw [goB] at h
    split at h
    · simp at h
    · rename_i hc
      rcases j with _ | j
      · simp only [List.getElem?_cons_zero, Option.some.injEq] at h
        exact ⟨by omega, by simp only [Nat.add_zero]; omega, by simp only [Nat.add_zero]; omega, h.symm, by simp only [Nat.add_zero]; omega, fun k hk => absurd hk (by omega)⟩
      · rw [List.getElem?_cons_succ] at h
        split at h
        · simp at h
        · rename_i hu
          have h0 : ∀ q, (goB f gen n (i + 1) (four4 (f i) 4))[0]? = some q → four4 (f i) 4 ≤ four4 (f (i + 1)) 4 := fun q hq => (go_inv f gen n (i + 1) _ 0 q hq).2.2.2.2.1
          obtain ⟨g1, g2, g3, g4, g5, g6⟩ := go_inv f gen n (i + 1) (four4 (f i) 4) j x h
          have hne : ∃ q, (goB f gen n (i + 1) (four4 (f i) 4))[0]? = some q := by
            have hl := (List.getElem?_eq_some_iff.1 h).1
            exact ⟨_, List.getElem?_eq_getElem (by omega)⟩
          obtain ⟨q, hq⟩ := hne
          have e : i + 1 + j = i + (j + 1) := by omega
          rw [e] at g2 g3 g4 g5
          refine ⟨by omega, g2, g3, g4, by omega, fun k hk => ?_⟩
          rcases k with _ | k
          · simp only [Nat.add_zero]
            exact ⟨by omega, h0 q hq⟩
          · have := g6 k (by omega)
            rwa [show i + 1 + k = i + (k + 1) by omega] at this
end Go.Fur
