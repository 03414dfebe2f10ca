/- A store, plain: what a block tells that was written; reading a chain of blocks. -/
import Derived.Test.YtclnikmnfnedkaaCKp2
namespace Go.Fur
open Go Go.RowKit
set_option linter.unusedVariables false
set_option linter.unusedSimpArgs false
theorem le4_length (x : Nat) : (le4 x).length = 4 := rfl
theorem four4_le4 (x : Nat) (hx : x < 4294967296) (r : List Int) : four4 (le4 x ++ r) 0 = x := by
  simp only [four4, le4, List.drop_zero, List.cons_append, List.nil_append]
  omega
theorem four4_drop (b : List Int) (i : Nat) : four4 b i = four4 (b.drop i) 0 := by
  unfold four4
  rw [List.drop_zero]
theorem four4_append (a b : List Int) (i : Nat) (h : i + 4 ≤ a.length) : four4 (a ++ b) i = four4 a i := by
  unfold four4
  rw [List.drop_append_of_le_length (by omega)]
  have hl : (a.drop i).length = a.length - i := List.length_drop
  match hd : a.drop i with
  | x0 :: x1 :: x2 :: x3 :: l => rfl
  | [] => rw [hd] at hl; simp at hl; omega
  | [_] => rw [hd] at hl; simp at hl; omega
  | [_, _] => rw [hd] at hl; simp at hl; omega
  | [_, _, _] => rw [hd] at hl; simp at hl; omega
/-- The block as it stands on the disk. -/
def blkP (gen life : Nat) (u : List Int) : List Int := pad (blkL gen life u)
theorem blkL_length (gen life : Nat) (u : List Int) : (blkL gen life u).length = 9 + u.length := by
  unfold blkL
  simp [le4]
  omega
theorem blkP_gen {gen life : Nat} (hg : gen < 4294967296) (u : List Int) : four4 (blkP gen life u) 0 = gen := by
  unfold blkP pad blkL
  rw [List.append_assoc, List.append_assoc]
  exact four4_le4 gen hg _
theorem blkP_life {gen life : Nat} (hl : life < 4294967296) (u : List Int) : four4 (blkP gen life u) 4 = life := by
  unfold blkP pad blkL
  rw [List.append_assoc, List.append_assoc, four4_drop, List.drop_append_of_le_length (by simp [le4])]
  rw [show (le4 gen).drop 4 = [] from rfl, List.nil_append, List.append_assoc]
  exact four4_le4 life hl _
theorem blkP_used (gen life : Nat) (u : List Int) : usedB (blkP gen life u) = u.length := by
  unfold usedB blkP pad blkL
  simp [le4]
theorem blkP_bytes (gen life : Nat) (u : List Int) : ((blkP gen life u).drop 9).take u.length = u := by
  unfold blkP pad blkL
  have e : (le4 gen ++ le4 life ++ (u.length : Int) :: u ++ zeros (64 - (le4 gen ++ le4 life ++ (u.length : Int) :: u).length)).drop 9 = u ++ zeros (64 - (le4 gen ++ le4 life ++ (u.length : Int) :: u).length) := by
    simp [le4]
  rw [e]
  simp
/-! ### Chains of blocks -/
/-- The blocks f 0, .., f (a - 1) are full, and hold the first bytes of B; their lives don't fall, and are at most L. -/
structure Chain (f : Nat → List Int) (gen L a : Nat) (B : List Int) : Prop where
  full : ∀ i, i < a → four4 (f i) 0 = gen ∧ usedB (f i) = 55 ∧ ((f i).drop 9).take 55 = (B.drop (i * 55)).take 55 ∧ four4 (f i) 4 ≤ L
  mono : ∀ i, i + 1 < a → four4 (f i) 4 ≤ four4 (f (i + 1)) 4
def lastL (f : Nat → List Int) (a : Nat) : Nat := if a = 0 then 0 else four4 (f (a - 1)) 4
theorem Chain.last {f : Nat → List Int} {gen L a : Nat} {B : List Int} (h : Chain f gen L a B) : lastL f a ≤ L := by
  unfold lastL
  split
  · omega
  · exact (h.full (a - 1) (by omega)).2.2.2
theorem Chain.pre {f : Nat → List Int} {gen L a : Nat} {B : List Int} (h : Chain f gen L (a + 1) B) : Chain f gen L a B := ⟨fun i hi => h.full i (by omega), fun i hi => h.mono i (by omega)⟩
theorem chain_go {f : Nat → List Int} {gen L : Nat} {B : List Int} : ∀ (a n : Nat), Chain f gen L a B → (goB f gen (a + n) 0 0).flatten = B.take (a * 55) ++ (goB f gen n a (lastL f a)).flatten
  | 0, n, _ => by simp [lastL]
  | a + 1, n, h => by
    rw [show a + 1 + n = a + (n + 1) by omega, chain_go a (n + 1) h.pre]
    obtain ⟨h1, h2, h3, _⟩ := h.full a (by omega)
    have h4 : lastL f a ≤ four4 (f a) 4 := by
      unfold lastL
      split
      · omega
      · have := h.mono (a - 1) (by omega)
        rwa [show a - 1 + 1 = a by omega] at this
    rw [goB, if_neg (by omega), h2, if_neg (by omega), h3, List.flatten_cons, show (a + 1) * 55 = a * 55 + 55 by omega, List.take_add, List.append_assoc]
    have e : lastL f (a + 1) = four4 (f a) 4 := by unfold lastL; simp
    rw [e]
/-- Nothing is read from a block of another generation, or of an elder life. -/
theorem go_stop {f : Nat → List Int} {gen n i last : Nat} (h : n = 0 ∨ four4 (f i) 0 ≠ gen ∨ four4 (f i) 4 < last) : goB f gen n i last = [] := by
  rcases n with _ | n
  · rfl
  · rw [goB, if_pos (by omega)]
theorem go_part {f : Nat → List Int} {gen n i last : Nat} {u : List Int} (h1 : four4 (f i) 0 = gen) (h2 : last ≤ four4 (f i) 4) (h3 : usedB (f i) = u.length) (h4 : u.length < 55) (h5 : ((f i).drop 9).take u.length = u) : goB f gen (n + 1) i last = [u] := by
  rw [goB, if_neg (by omega), h3, if_pos h4, h5]
/-- What is read stands in a chain. -/
theorem go_inv (f : Nat → List Int) (gen : Nat) : ∀ (n i last : Nat) (j : Nat) (x : List Int), (goB f gen n i last)[j]? = some x →
    j < n ∧ four4 (f (i + j)) 0 = gen ∧ usedB (f (i + j)) ≤ 55 ∧ x = ((f (i + j)).drop 9).take (usedB (f (i + j))) ∧ last ≤ four4 (f (i + j)) 4 ∧ (∀ k, k < j → usedB (f (i + k)) = 55 ∧ four4 (f (i + k)) 4 ≤ four4 (f (i + k + 1)) 4)
  | 0, i, last, j, x, h => by simp [goB] at h
  | n + 1, i, last, j, x, h => by
    rw [goB] at h
    split at h
    · simp at h
    · rename_i hc
      rcases j with _ | j
      · simp only [List.getElem?_cons_zero, Option.some.injEq] at h
        exact ⟨by omega, by simp only [Nat.add_zero]; omega, by simp only [Nat.add_zero]; omega, h.symm, by simp only [Nat.add_zero]; omega, fun k hk => absurd hk (by omega)⟩
      · rw [List.getElem?_cons_succ] at h
        split at h
        · simp at h
        · rename_i hu
          have h0 : ∀ q, (goB f gen n (i + 1) (four4 (f i) 4))[0]? = some q → four4 (f i) 4 ≤ four4 (f (i + 1)) 4 := fun q hq => (go_inv f gen n (i + 1) _ 0 q hq).2.2.2.2.1
          obtain ⟨g1, g2, g3, g4, g5, g6⟩ := go_inv f gen n (i + 1) (four4 (f i) 4) j x h
          have hne : ∃ q, (goB f gen n (i + 1) (four4 (f i) 4))[0]? = some q := by
            have hl := (List.getElem?_eq_some_iff.1 h).1
            exact ⟨_, List.getElem?_eq_getElem (by omega)⟩
          obtain ⟨q, hq⟩ := hne
          have e : i + 1 + j = i + (j + 1) := by omega
          rw [e] at g2 g3 g4 g5
          refine ⟨by omega, g2, g3, g4, by omega, fun k hk => ?_⟩
          rcases k with _ | k
          · simp only [Nat.add_zero]
            exact ⟨by omega, h0 q hq⟩
          · have := g6 k (by omega)
            rwa [show i + 1 + k = i + (k + 1) by omega] at this
end Go.Fur
namespace Go.Fur
open Go Go.RowKit
set_option linter.unusedVariables false
set_option linter.unusedSimpArgs false
theorem undo_snoc15 (d : D) (n : Nat) (b x : List Int) (keep : Nat) (hk : keep ≤ d.loose.length) (hn : d.now[n]? = some b) :
    undo ⟨d.now.set n x, d.loose ++ [(n, b, x)]⟩ keep = undo d keep := by
  unfold undo
  simp only
  rw [List.drop_append_of_le_length hk, List.foldr_append]
  simp only [List.foldr_cons, List.foldr_nil, List.set_set]
  obtain ⟨hlt, hb⟩ := List.getElem?_eq_some_iff.1 hn
  rw [← hb, List.set_getElem_self]
theorem putB_eq {d : D} {gen life i : Nat} {u : List Int} (h : i < halfP d) (hu : u.length ≤ 55) :
    d.putB gen life i u = ⟨d.now.set (placeP d gen i) (blkP gen life u), d.loose ++ [(placeP d gen i, d.now.getD (placeP d gen i) [], blkP gen life u)]⟩ := by
  have hp := placeP_lt d gen i h
  have hb := blkL_length gen life u
  unfold D.putB D.write
  rw [if_neg (by omega), if_neg (by omega)]
  rfl
theorem halfB_set {d : D} {gen i j : Nat} {b : List Int} {l : List (Nat × List Int × List Int)} (hi : i < halfP d) : halfB ⟨d.now.set (placeP d gen i) b, l⟩ gen j = if j = i then b else halfB d gen j := by
  have hp := placeP_lt d gen i hi
  have e : ∀ j, placeP ⟨d.now.set (placeP d gen i) b, l⟩ gen j = placeP d gen j := fun j => by
    unfold placeP halfP
    simp
  unfold halfB
  rw [e]
  simp only [List.getD_eq_getElem?_getD, List.getElem?_set]
  by_cases h : j = i
  · subst h
    simp [hp]
  · rw [if_neg h, if_neg (fun hh => h (by unfold placeP at hh; omega))]
theorem halfP_set (d : D) (n : Nat) (b : List Int) (l : List (Nat × List Int × List Int)) : halfP ⟨d.now.set n b, l⟩ = halfP d := by
  unfold halfP
  simp
/-- Where the store stands, behind the bytes B; T is what the blocks from i on are to hold. -/
structure PosT (d : D) (gen L : Nat) (B : List Int) (i : Nat) (T : List Int) : Prop where
  le : i ≤ halfP d
  len : B.length = i * 55 + T.length
  tl : T = B.drop (i * 55)
  ch : Chain (halfB d gen) gen L i B
  free : ∀ j, i < j → j < halfP d → four4 (halfB d gen j) 0 = gen → four4 (halfB d gen j) 4 < L
/-- b is a, but for blocks of that generation and life. -/
structure Near (gen L : Nat) (a b : List (List Int)) : Prop where
  len : b.length = a.length
  root : ∀ n, n < 2 → b[n]? = a[n]?
  blk : ∀ n x, 2 ≤ n → b[n]? = some x → a[n]? = some x ∨ (four4 x 0 = gen ∧ four4 x 4 = L)
theorem Near.refl (gen L : Nat) (a : List (List Int)) : Near gen L a a := ⟨rfl, fun _ _ => rfl, fun _ _ _ h => .inl h⟩
theorem Near.trans {gen L : Nat} {a b c : List (List Int)} (h : Near gen L a b) (k : Near gen L b c) : Near gen L a c :=
  ⟨k.len.trans h.len, fun n hn => (k.root n hn).trans (h.root n hn), fun n x hn hx => (k.blk n x hn hx).elim (fun h1 => h.blk n x hn h1) .inr⟩
theorem near_putB {d : D} {gen L i : Nat} {u : List Int} (hg : gen < 4294967296) (hl : L < 4294967296) (h : i < halfP d) (hu : u.length ≤ 55) : Near gen L d.now (d.putB gen L i u).now := by
  rw [putB_eq h hu]
  refine ⟨by simp, fun n hn => ?_, fun n x hn hx => ?_⟩
  · simp only [List.getElem?_set]
    rw [if_neg (by unfold placeP; omega)]
  · simp only [List.getElem?_set] at hx
    split at hx
    · split at hx
      · simp only [Option.some.injEq] at hx
        subst hx
        exact .inr ⟨blkP_gen hg u, blkP_life hl u⟩
      · cases hx
    · exact .inl hx
/-- One block is written: what is read, and where the store stands. -/
theorem putB_full {d : D} {gen L i : Nat} {B T : List Int} (hg : gen < 4294967296) (hl : L < 4294967296) (h : PosT d gen L B i T) (hi : i < halfP d) (hT : 55 ≤ T.length) : PosT (d.putB gen L i (T.take 55)) gen L B (i + 1) (T.drop 55) ∧ (readB (d.putB gen L i (T.take 55)) gen).flatten = B.take ((i + 1) * 55) := by
  have hu : (T.take 55).length = 55 := by rw [List.length_take]; omega
  rw [putB_eq hi (by omega)]
  generalize hbd : d.loose ++ [(placeP d gen i, d.now.getD (placeP d gen i) [], blkP gen L (T.take 55))] = l
  have hh : ∀ j, halfB ⟨d.now.set (placeP d gen i) (blkP gen L (T.take 55)), l⟩ gen j = if j = i then blkP gen L (T.take 55) else halfB d gen j := fun j => halfB_set hi
  have hb : ((blkP gen L (T.take 55)).drop 9).take 55 = T.take 55 := by
    have := blkP_bytes gen L (T.take 55)
    rwa [hu] at this
  have hT2 : (B.drop (i * 55)).take 55 = T.take 55 := by rw [← h.tl]
  have hc : Chain (halfB ⟨d.now.set (placeP d gen i) (blkP gen L (T.take 55)), l⟩ gen) gen L (i + 1) B := by
    refine ⟨fun j hj => ?_, fun j hj => ?_⟩
    · rw [hh]
      by_cases e : j = i
      · rw [if_pos e, e]
        exact ⟨blkP_gen hg _, by rw [blkP_used, hu], by rw [hb, hT2], by rw [blkP_life hl]; omega⟩
      · rw [if_neg e]
        exact h.ch.full j (by omega)
    · rw [hh, hh]
      by_cases e : j + 1 = i
      · rw [if_neg (by omega), if_pos e, blkP_life hl]
        exact (h.ch.full j (by omega)).2.2.2
      · rw [if_neg (by omega), if_neg e]
        exact h.ch.mono j (by omega)
  have hfree : ∀ j, i < j → j < halfP d → four4 (halfB ⟨d.now.set (placeP d gen i) (blkP gen L (T.take 55)), l⟩ gen j) 0 = gen → four4 (halfB ⟨d.now.set (placeP d gen i) (blkP gen L (T.take 55)), l⟩ gen j) 4 < L := fun j h1 h2 => by
    rw [hh, if_neg (by omega)]
    exact h.free j h1 h2
  refine ⟨⟨by rw [halfP_set]; omega, by rw [h.len, List.length_drop]; omega, by rw [h.tl, List.drop_drop]; congr 1; omega, hc, fun j h1 h2 => hfree j (by omega) (by rw [halfP_set] at h2; exact h2)⟩, ?_⟩
  unfold readB
  rw [halfP_set, show halfP d = (i + 1) + (halfP d - (i + 1)) by omega, chain_go (i + 1) _ hc]
  have hlast : lastL (halfB ⟨d.now.set (placeP d gen i) (blkP gen L (T.take 55)), l⟩ gen) (i + 1) = L := by
    unfold lastL
    rw [if_neg (by omega), hh]
    simp [blkP_life hl]
  rw [hlast, go_stop]
  · simp
  · by_cases e : halfP d - (i + 1) = 0
    · exact .inl e
    · by_cases e2 : four4 (halfB ⟨d.now.set (placeP d gen i) (blkP gen L (T.take 55)), l⟩ gen (i + 1)) 0 = gen
      · exact .inr (.inr (hfree (i + 1) (by omega) (by omega) e2))
      · exact .inr (.inl e2)
theorem putB_part {d : D} {gen L i : Nat} {B T : List Int} (hg : gen < 4294967296) (hl : L < 4294967296) (h : PosT d gen L B i T) (hi : i < halfP d) (hT : T.length < 55) : PosT (d.putB gen L i T) gen L B i T ∧ (readB (d.putB gen L i T) gen).flatten = B := by
  rw [putB_eq hi (by omega)]
  generalize hbd : d.loose ++ [(placeP d gen i, d.now.getD (placeP d gen i) [], blkP gen L T)] = l
  have hh : ∀ j, halfB ⟨d.now.set (placeP d gen i) (blkP gen L T), l⟩ gen j = if j = i then blkP gen L T else halfB d gen j := fun j => halfB_set hi
  have hc : Chain (halfB ⟨d.now.set (placeP d gen i) (blkP gen L T), l⟩ gen) gen L i B := by
    refine ⟨fun j hj => ?_, fun j hj => ?_⟩
    · rw [hh, if_neg (by omega)]
      exact h.ch.full j hj
    · rw [hh, hh, if_neg (by omega), if_neg (by omega)]
      exact h.ch.mono j hj
  refine ⟨⟨by rw [halfP_set]; exact h.le, h.len, h.tl, hc, fun j h1 h2 => by rw [hh, if_neg (by omega)]; exact h.free j h1 (by rw [halfP_set] at h2; exact h2)⟩, ?_⟩
  unfold readB
  rw [halfP_set, show halfP d = i + ((halfP d - i - 1) + 1) by omega, chain_go i _ hc]
  have h1 : halfB ⟨d.now.set (placeP d gen i) (blkP gen L T), l⟩ gen i = blkP gen L T := by rw [hh, if_pos rfl]
  rw [go_part (u := T) (by rw [h1]; exact blkP_gen hg T) (by rw [h1, blkP_life hl]; exact hc.last) (by rw [h1, blkP_used]) hT (by rw [h1]; exact blkP_bytes gen L T)]
  rw [List.flatten_cons, List.flatten_nil, List.append_nil]
  have e := List.take_append_drop (i * 55) B
  rwa [← h.tl] at e
theorem putB_loose {d : D} {gen L i : Nat} {u : List Int} (h : i < halfP d) (hu : u.length ≤ 55) : (d.putB gen L i u).loose.length = d.loose.length + 1 ∧ (∀ k, k ≤ d.loose.length → undo (d.putB gen L i u) k = undo d k) ∧ halfP (d.putB gen L i u) = halfP d ∧ (d.putB gen L i u).now.length = d.now.length := by
  rw [putB_eq h hu]
  have hp := placeP_lt d gen i h
  refine ⟨by simp, fun k hk => undo_snoc15 d _ _ _ k hk (by rw [List.getD_eq_getElem?_getD, List.getElem?_eq_getElem hp]; rfl), halfP_set _ _ _ _, by simp⟩
theorem readB_now (d : D) (gen : Nat) (l : List (Nat × List Int × List Int)) : readB ⟨d.now, l⟩ gen = readB d gen := rfl
/-- All that is written, behind however many of the writes. -/
theorem put_plain {gen L : Nat} (hg : gen < 4294967296) (hl : L < 4294967296) {B : List Int} : ∀ (f : Nat) (d : D) (T : List Int) (i : Nat), PosT d gen L B i T → i < halfP d → B.length ≤ halfP d * 55 → T.length < 55 * f →
    ∃ m, (putP gen L f d T i).1.loose.length = d.loose.length + m ∧ 1 ≤ m ∧ Near gen L d.now (putP gen L f d T i).1.now ∧ (∀ k, k ≤ d.loose.length → undo (putP gen L f d T i).1 k = undo d k) ∧ PosT (putP gen L f d T i).1 gen L B (putP gen L f d T i).2.2 (putP gen L f d T i).2.1 ∧ (putP gen L f d T i).2.1.length < 55 ∧
      (readB (putP gen L f d T i).1 gen).flatten = B ∧ halfP (putP gen L f d T i).1 = halfP d ∧
      ∀ j, 1 ≤ j → j < m → Near gen L d.now (undo (putP gen L f d T i).1 (d.loose.length + j)) ∧ (readB ⟨undo (putP gen L f d T i).1 (d.loose.length + j), []⟩ gen).flatten = B.take ((i + j) * 55) ∧ (i + j) * 55 < B.length
  | 0, d, T, i, _, _, _, h => by omega
  | f + 1, d, T, i, h, hi, hB, hT => by
    rw [putP]
    by_cases h1 : T.length < 55
    · rw [if_pos h1]
      obtain ⟨p1, p2⟩ := putB_part hg hl h hi h1
      obtain ⟨l1, l2, l3, l4⟩ := putB_loose (gen := gen) (L := L) (u := T) hi (by omega)
      exact ⟨1, l1, Nat.le_refl _, near_putB hg hl hi (by omega), l2, p1, h1, p2, l3, fun j h2 h3 => absurd h3 (by omega)⟩
    · rw [if_neg h1]
      have hu : (T.take 55).length = 55 := by rw [List.length_take]; omega
      obtain ⟨p1, p2⟩ := putB_full hg hl h hi (by omega)
      obtain ⟨l1, l2, l3, l4⟩ := putB_loose (gen := gen) (L := L) (u := T.take 55) hi (by omega)
      have nr := near_putB (u := T.take 55) hg hl hi (by omega)
      by_cases h2 : T.length = 55
      · rw [if_pos h2]
        have e1 : T.take 55 = T := List.take_of_length_le (by omega)
        have e2 : T.drop 55 = [] := List.drop_eq_nil_of_le (by omega)
        rw [e1] at p1 p2 l1 l2 l3 nr
        rw [e2] at p1
        rw [List.take_of_length_le (by rw [h.len]; omega)] at p2
        exact ⟨1, l1, Nat.le_refl _, nr, l2, p1, by simp, p2, l3, fun j h2 h3 => absurd h3 (by omega)⟩
      · rw [if_neg h2]
        have hlen := h.len
        obtain ⟨m, g1, g2, g3, g4, g5, g6, g7, g8, g9⟩ := put_plain hg hl f (d.putB gen L i (T.take 55)) (T.drop 55) (i + 1) p1 (by rw [l3]; omega) (by rw [l3]; exact hB) (by rw [List.length_drop]; omega)
        refine ⟨m + 1, by rw [g1, l1]; omega, by omega, nr.trans g3, fun k hk => by rw [g4 k (by omega), l2 k hk], g5, g6, g7, by rw [g8, l3], fun j hj1 hj2 => ?_⟩
        by_cases ej : j = 1
        · subst ej
          have e3 : undo (putP gen L f (d.putB gen L i (T.take 55)) (T.drop 55) (i + 1)).1 (d.loose.length + 1) = (d.putB gen L i (T.take 55)).now := by
            rw [g4 _ (by omega), undo_all _ _ (by omega)]
          rw [e3]
          exact ⟨nr, p2, by omega⟩
        · obtain ⟨q1, q2, q3⟩ := g9 (j - 1) (by omega) (by omega)
          rw [l1, show d.loose.length + 1 + (j - 1) = d.loose.length + j by omega] at q1 q2
          rw [show i + 1 + (j - 1) = i + j by omega] at q2 q3
          exact ⟨nr.trans q1, q2, q3⟩
end Go.Fur
namespace Go.Fur
open Go Go.RowKit
set_option linter.unusedVariables false
set_option linter.unusedSimpArgs false
/-- The bytes of records. -/
def encs (l : List (List Int)) : List Int := (l.map fun p => le4 p.length ++ p).flatten
theorem encs_append (l m : List (List Int)) : encs (l ++ m) = encs l ++ encs m := by simp [encs]
theorem encs_cons (p : List Int) (l : List (List Int)) : encs (p :: l) = le4 p.length ++ (p ++ encs l) := by simp [encs]
theorem encs_one (p : List Int) : encs [p] = le4 p.length ++ p := by simp [encs]
/-- No whole record begins here. -/
def Stops (G : List Int) : Prop := G.length < 4 ∨ 65536 < four4 G 0 ∨ G.length < 4 + four4 G 0
theorem stops_nil : Stops [] := .inl (by simp)
theorem recs_enc {G : List Int} (hG : Stops G) : ∀ (lst : List (List Int)) (X : List Int) (f : Nat), (∀ p ∈ lst, p.length ≤ 65536) → lst.length < f → recsP (X ++ encs lst ++ G) f X.length = (lst, (X ++ encs lst).length)
  | [], X, 0, _, h => by simp at h
  | [], X, f + 1, _, _ => by
    have e : four4 (X ++ encs [] ++ G) X.length = four4 G 0 := by rw [four4_drop]; simp [encs]
    have hl : (X ++ encs [] ++ G).length = X.length + G.length := by simp [encs]
    rw [recsP, e, hl]
    split
    · simp [encs]
    · rename_i h1
      rw [if_pos (by rcases hG with h | h | h <;> omega)]
      simp [encs]
  | p :: lst, X, 0, _, h => by simp at h
  | p :: lst, X, f + 1, hp, hf => by
    have hp0 := hp p (by simp)
    have e0 : X ++ encs (p :: lst) ++ G = X ++ (le4 p.length ++ (p ++ encs lst ++ G)) := by rw [encs_cons]; simp
    have e : four4 (X ++ encs (p :: lst) ++ G) X.length = p.length := by
      rw [e0, four4_drop, List.drop_left]
      exact four4_le4 _ (by omega) _
    have hl : (X ++ encs (p :: lst) ++ G).length = X.length + 4 + p.length + (encs lst).length + G.length := by rw [e0]; simp [le4]; omega
    have e1 : X ++ encs (p :: lst) ++ G = (X ++ le4 p.length ++ p) ++ encs lst ++ G := by rw [encs_cons]; simp
    have hx : (X ++ le4 p.length ++ p).length = X.length + 4 + p.length := by simp [le4]; omega
    have ih := recs_enc hG lst (X ++ le4 p.length ++ p) f (fun q hq => hp q (by simp [hq])) (by simpa using hf)
    have ed : ((X ++ encs (p :: lst) ++ G).drop (X.length + 4)).take p.length = p := by
      rw [e0, ← List.drop_drop, List.drop_left, List.drop_append_of_le_length (by simp [le4]), show (le4 p.length).drop 4 = [] from rfl, List.nil_append, List.append_assoc, List.take_left]
    rw [recsP, e, hl, if_neg (by omega), if_neg (by omega), ed]
    rw [← hx, e1, ih]
    simp only [Prod.mk.injEq, true_and]
    rw [encs_cons]
    simp
/-- What a disk holds that may be opened: a generation, lives up to L, a snapshot, records. -/
structure Good (d : D) (gen L : Nat) (whole : Bool) (snap : List Int) (lst : List (List Int)) : Prop where
  root : rootP d.now = (gen, snap.length, whole)
  rle : ∀ n b, n < 2 → d.now[n]? = some b → b.take 8 = magicL → four4 b 8 ≤ gen
  live : ∀ n b, 2 ≤ n → d.now[n]? = some b → four4 b 0 ≤ gen ∧ (four4 b 0 = 0 → four4 b 4 = 0) ∧ four4 b 4 ≤ L
  rd : ∃ G, (readB d gen).flatten = snap ++ encs lst ++ G ∧ Stops G
  few : ∀ p ∈ lst, p.length ≤ 65536
  gp : 1 ≤ gen
theorem eld_mono : ∀ (l : List (List Int)) (m : Nat), m ≤ l.foldl eldG m
  | [], m => Nat.le_refl _
  | b :: l, m => Nat.le_trans (by unfold eldG; split; exact Nat.le_max_left _ _; exact Nat.le_refl _) (eld_mono l (eldG m b))
theorem eld_ge : ∀ (l : List (List Int)) (m : Nat) (b : List Int), b ∈ l → 0 < four4 b 0 → four4 b 4 ≤ l.foldl eldG m
  | c :: l, m, b, h, hb => by
    rcases List.mem_cons.1 h with rfl | h
    · refine Nat.le_trans ?_ (eld_mono l (eldG m b))
      unfold eldG
      rw [if_pos hb]
      exact Nat.le_max_right _ _
    · exact eld_ge l _ b h hb
theorem eld_le {L : Nat} : ∀ (l : List (List Int)) (m : Nat), m ≤ L → (∀ b ∈ l, four4 b 4 ≤ L) → l.foldl eldG m ≤ L
  | [], m, h, _ => h
  | b :: l, m, h, hb => eld_le l _ (by unfold eldG; split; exact Nat.max_le.2 ⟨h, hb b (by simp)⟩; exact h) (fun c hc => hb c (by simp [hc]))
theorem eldL_all (d : D) : eldL d (d.now.length - 2) = (d.now.drop 2).foldl eldG 0 := by
  unfold eldL
  rw [List.take_of_length_le (by simp)]
theorem mem_drop2 {now : List (List Int)} {b : List Int} (h : b ∈ now.drop 2) : ∃ n, 2 ≤ n ∧ now[n]? = some b := by
  obtain ⟨i, hi⟩ := List.getElem?_of_mem h
  rw [List.getElem?_drop] at hi
  exact ⟨2 + i, by omega, hi⟩
theorem drop2_mem {now : List (List Int)} {n : Nat} {b : List Int} (hn : 2 ≤ n) (h : now[n]? = some b) : b ∈ now.drop 2 := by
  refine List.mem_of_getElem? (i := n - 2) ?_
  rw [List.getElem?_drop, show 2 + (n - 2) = n by omega]
  exact h
/-- Pieces of 55, the last one perhaps shorter. -/
theorem pieces (P : List (List Int)) : (∀ x ∈ P, x.length ≤ 55) → (∀ j x, j + 1 < P.length → P[j]? = some x → x.length = 55) → ∀ i, (i + 1) * 55 ≤ P.flatten.length → ∃ x, P[i]? = some x ∧ x.length = 55 ∧ x = (P.flatten.drop (i * 55)).take 55 := by
  induction P with
  | nil =>
    intro _ _ i h
    rw [List.flatten_nil, List.length_nil] at h
    omega
  | cons x r ih =>
    intro h1 h2 i h
    have hx := h1 x List.mem_cons_self
    rw [List.flatten_cons, List.length_append] at h
    have hl : x.length = 55 := by
      cases r with
      | nil =>
        rw [List.flatten_nil, List.length_nil] at h
        omega
      | cons y r => exact h2 0 x (by rw [List.length_cons, List.length_cons]; omega) (by rw [List.getElem?_cons_zero])
    cases i with
    | zero =>
      refine ⟨x, by rw [List.getElem?_cons_zero], hl, ?_⟩
      rw [List.flatten_cons, Nat.zero_mul, List.drop_zero, ← hl, List.take_left]
    | succ i =>
      have a1 : ∀ z ∈ r, z.length ≤ 55 := fun z hz => h1 z (List.mem_cons_of_mem _ hz)
      have a2 : ∀ j z, j + 1 < r.length → r[j]? = some z → z.length = 55 := fun j z hj hz => by
        have hj2 : j + 1 + 1 < (x :: r).length := by rw [List.length_cons]; omega
        have hz2 : (x :: r)[j + 1]? = some z := by rw [List.getElem?_cons_succ]; exact hz
        exact h2 (j + 1) z hj2 hz2
      have e3 : (i + 1 + 1) * 55 = 55 + (i + 1) * 55 := by rw [Nat.add_mul (i + 1) 1 55, Nat.one_mul, Nat.add_comm]
      have a3 : (i + 1) * 55 ≤ r.flatten.length := by
        rw [e3, hl] at h
        exact Nat.le_of_add_le_add_left h
      obtain ⟨y, g1, g2, g3⟩ := ih a1 a2 i a3
      refine ⟨y, by rw [List.getElem?_cons_succ]; exact g1, g2, ?_⟩
      rw [List.flatten_cons, show (i + 1) * 55 = x.length + i * 55 by rw [hl, Nat.add_mul, Nat.one_mul, Nat.add_comm], ← List.drop_drop, List.drop_left]
      exact g3
theorem halfB_some {d : D} {gen i : Nat} (h : i < halfP d) : ∃ b, d.now[placeP d gen i]? = some b ∧ halfB d gen i = b := by
  have hp := placeP_lt d gen i h
  refine ⟨_, List.getElem?_eq_getElem hp, ?_⟩
  unfold halfB
  rw [List.getD_eq_getElem?_getD, List.getElem?_eq_getElem hp]
  rfl
theorem open_good {d : D} {gen L : Nat} {whole : Bool} {snap : List Int} {lst : List (List Int)} (h : Good d gen L whole snap lst) (h64 : ∀ b ∈ d.now, b.length = 64) (hL : L < 4294967295) :
    ∃ L', L' ≤ L + 1 ∧ openP d = ⟨gen, L', whole, snap, lst, (snap ++ encs lst).length / 55, (snap ++ encs lst).drop ((snap ++ encs lst).length / 55 * 55)⟩ ∧
      PosT d gen L' (snap ++ encs lst) ((snap ++ encs lst).length / 55) ((snap ++ encs lst).drop ((snap ++ encs lst).length / 55 * 55)) ∧ Good d gen L' whole snap lst := by
  obtain ⟨G, hrd, hG⟩ := h.rd
  have hall : allP d = snap ++ encs lst ++ G := by unfold allP; rw [h.root]; exact hrd
  have hel : eldL d (d.now.length - 2) ≤ L := by
    rw [eldL_all]
    refine eld_le _ _ (Nat.zero_le _) (fun b hb => ?_)
    obtain ⟨n, hn, hb⟩ := mem_drop2 hb
    exact (h.live n b hn hb).2.2
  have hlf : lifeP d = eldL d (d.now.length - 2) + 1 := by unfold lifeP; omega
  have hge : ∀ n b, 2 ≤ n → d.now[n]? = some b → 0 < four4 b 0 → four4 b 4 < lifeP d := fun n b hn hb h0 => by
    have := eld_ge (d.now.drop 2) 0 b (drop2_mem hn hb) h0
    rw [hlf, eldL_all]
    omega
  obtain ⟨B, hB⟩ : ∃ B, snap ++ encs lst = B := ⟨_, rfl⟩
  have hop : openP d = ⟨gen, lifeP d, whole, snap, lst, B.length / 55, B.drop (B.length / 55 * 55)⟩ := by
    have hlen : lst.length < (allP d).length + 1 := by
      have : lst.length ≤ (encs lst).length := by
        clear hrd hall hB h
        induction lst with
        | nil => simp
        | cons p l ih => rw [encs_cons]; simp [le4]; omega
      rw [hall]
      simp
      omega
    have hrec := recs_enc hG lst snap ((allP d).length + 1) h.few hlen
    unfold openP
    rw [h.root]
    dsimp only
    rw [if_neg (by rw [hall, List.append_assoc, List.length_append]; omega)]
    unfold openA
    rw [hall] at hrec ⊢
    rw [hrec, hB]
    dsimp only
    rw [List.take_left]
    congr 1
    rw [← hB, List.append_assoc, List.take_left]
  have hpiece : ∀ x ∈ readB d gen, x.length ≤ 55 := fun x hx => by
    obtain ⟨j, hj⟩ := List.getElem?_of_mem hx
    obtain ⟨_, _, g3, g4, _⟩ := go_inv _ _ _ _ _ _ _ hj
    rw [g4, List.length_take]
    omega
  have hfull : ∀ j x, (readB d gen)[j]? = some x → j < halfP d ∧ four4 (halfB d gen j) 0 = gen ∧ usedB (halfB d gen j) = x.length ∧ x = ((halfB d gen j).drop 9).take x.length ∧ ∀ k, k < j → usedB (halfB d gen k) = 55 ∧ four4 (halfB d gen k) 4 ≤ four4 (halfB d gen (k + 1)) 4 := fun j x hx => by
    obtain ⟨g1, g2, g3, g4, g5, g6⟩ := go_inv _ _ _ _ _ _ _ hx
    rw [Nat.zero_add] at g2 g3 g4
    obtain ⟨b, hb1, hb2⟩ := halfB_some (gen := gen) g1
    have hl : (halfB d gen j).length = 64 := by rw [hb2]; exact h64 b (List.mem_of_getElem? hb1)
    have hxl : x.length = usedB (halfB d gen j) := by rw [g4, List.length_take, List.length_drop, hl]; omega
    exact ⟨g1, g2, hxl.symm, by rw [hxl]; exact g4, fun k hk => by simpa using g6 k hk⟩
  have hp55 : ∀ j x, j + 1 < (readB d gen).length → (readB d gen)[j]? = some x → x.length = 55 := fun j x hj hx => by
    obtain ⟨y, hy⟩ : ∃ y, (readB d gen)[j + 1]? = some y := ⟨_, List.getElem?_eq_getElem hj⟩
    have h1 := (hfull (j + 1) y hy).2.2.2.2 j (by omega)
    have h2 := (hfull j x hx).2.2.1
    omega
  have hBf : (readB d gen).flatten = B ++ G := by rw [hrd, hB]
  have hget : ∀ i, i < B.length / 55 → ∃ x, (readB d gen)[i]? = some x ∧ x.length = 55 ∧ x = (B.drop (i * 55)).take 55 := fun i hi => by
    have hle : (i + 1) * 55 ≤ B.length := by omega
    obtain ⟨x, g1, g2, g3⟩ := pieces (readB d gen) hpiece hp55 i (by rw [hBf, List.length_append]; omega)
    refine ⟨x, g1, g2, ?_⟩
    rw [g3, hBf, List.drop_append_of_le_length (by omega), List.take_append_of_le_length (by rw [List.length_drop]; omega)]
  refine ⟨lifeP d, by omega, by rw [hB]; exact hop, ?_, ?_⟩
  · rw [hB]
    refine ⟨?_, by rw [List.length_drop]; omega, rfl, ⟨fun i hi => ?_, fun i hi => ?_⟩, fun j h1 h2 h3 => ?_⟩
    · by_cases h0 : B.length / 55 = 0
      · omega
      · obtain ⟨x, g1, _, _⟩ := hget (B.length / 55 - 1) (by omega)
        have := (hfull _ x g1).1
        omega
    · obtain ⟨x, g1, g2, g3⟩ := hget i hi
      obtain ⟨f1, f2, f3, f4, _⟩ := hfull i x g1
      obtain ⟨b, hb1, hb2⟩ := halfB_some (gen := gen) f1
      refine ⟨f2, by omega, ?_, ?_⟩
      · rw [g2] at f4
        rw [← f4, ← g3]
      · rw [hb2] at f2 ⊢
        exact Nat.le_of_lt (hge _ b (by unfold placeP; omega) hb1 (by have := h.gp; omega))
    · obtain ⟨x, g1, _, _⟩ := hget (i + 1) hi
      exact ((hfull _ x g1).2.2.2.2 i (by omega)).2
    · obtain ⟨b, hb1, hb2⟩ := halfB_some (gen := gen) h2
      rw [hb2] at h3 ⊢
      exact hge _ b (by unfold placeP; omega) hb1 (by have := h.gp; omega)
  · refine ⟨h.root, h.rle, fun n b hn hb => ?_, h.rd, h.few, h.gp⟩
    obtain ⟨l1, l2, l3⟩ := h.live n b hn hb
    refine ⟨l1, l2, ?_⟩
    by_cases h0 : four4 b 0 = 0
    · rw [l2 h0]
      exact Nat.zero_le _
    · exact Nat.le_of_lt (hge n b hn hb (by omega))
end Go.Fur
namespace Go.Fur
open Go Go.RowKit
set_option linter.unusedVariables false
set_option linter.unusedSimpArgs false
structure Desk (d : D) (s : St) (whole : Bool) (snap : List Int) (lst : List (List Int)) : Prop where
  pos : PosT d s.gen s.life (snap ++ encs lst) s.at_ s.tail
  short : s.tail.length < 55
  cnt : s.count = lst.length
  sf : s.safe ≤ lst.length
  crash : ∀ k, k ≤ d.loose.length → ∃ n, s.safe ≤ n ∧ n ≤ lst.length ∧ (k = 0 → n = s.safe) ∧ (k = d.loose.length → n = lst.length) ∧ Good ⟨undo d k, []⟩ s.gen s.life whole snap (lst.take n)
  fit : (snap ++ encs lst).length ≤ halfP d * 55
theorem Desk.now {d : D} {s : St} {whole : Bool} {snap : List Int} {lst : List (List Int)} (h : Desk d s whole snap lst) : Good ⟨d.now, []⟩ s.gen s.life whole snap lst := by
  obtain ⟨n, _, _, _, h4, h5⟩ := h.crash d.loose.length (Nat.le_refl _)
  rw [h4 rfl, undo_all _ _ (Nat.le_refl _), List.take_length] at h5
  exact h5
theorem PosT.of {d : D} {gen L i : Nat} {B T : List Int} (h : PosT d gen L B i T) (l : List (Nat × List Int × List Int)) : PosT ⟨d.now, l⟩ gen L B i T := ⟨h.le, h.len, h.tl, h.ch, h.free⟩
theorem Good.of {now : List (List Int)} {l l' : List (Nat × List Int × List Int)} {gen L : Nat} {whole : Bool} {snap : List Int} {lst : List (List Int)} (h : Good ⟨now, l⟩ gen L whole snap lst) : Good ⟨now, l'⟩ gen L whole snap lst := ⟨h.root, h.rle, h.live, h.rd, h.few, h.gp⟩
/-- All is safe. -/
theorem Desk.calm {d : D} {s : St} {whole : Bool} {snap : List Int} {lst : List (List Int)} (h : Desk d s whole snap lst) : Desk d.calm { s with safe := s.count } whole snap lst := by
  have hg := h.now
  refine ⟨h.pos.of [], h.short, h.cnt, by dsimp only; rw [h.cnt]; exact Nat.le_refl _, fun k hk => ⟨lst.length, by dsimp only; rw [h.cnt]; exact Nat.le_refl _, Nat.le_refl _, fun _ => h.cnt.symm, fun _ => rfl, ?_⟩, h.fit⟩
  have e : undo d.calm k = d.now := undo_all d.calm k (by simp [D.calm])
  rw [e, List.take_length]
  exact hg
theorem chain_more {f : Nat → List Int} {gen L i : Nat} {B : List Int} (P : List Int) (h : Chain f gen L i B) (hl : i * 55 ≤ B.length) : Chain f gen L i (B ++ P) := by
  refine ⟨fun j hj => ?_, h.mono⟩
  obtain ⟨h1, h2, h3, h4⟩ := h.full j hj
  refine ⟨h1, h2, ?_, h4⟩
  rw [h3, List.drop_append_of_le_length (by omega), List.take_append_of_le_length (by rw [List.length_drop]; omega)]
theorem stops_part {p : List Int} (hp : p.length ≤ 65536) {k : Nat} (hk : k < 4 + p.length) : Stops ((le4 p.length ++ p).take k) := by
  have hl : ((le4 p.length ++ p).take k).length = k := by rw [List.length_take]; simp [le4]; omega
  by_cases h4 : k < 4
  · exact .inl (by omega)
  · refine .inr (.inr ?_)
    have e : (le4 p.length ++ p).take k = le4 p.length ++ p.take (k - 4) := by
      rw [List.take_append, le4_length, List.take_of_length_le (by rw [le4_length]; omega)]
    rw [hl, e, four4_le4 _ (by omega)]
    exact hk
/-- What is lost behind the first writes of a record is no whole record. -/
theorem good_near {now now' : List (List Int)} {gen L : Nat} {whole : Bool} {snap : List Int} {lst lst' : List (List Int)} (h : Good ⟨now, []⟩ gen L whole snap lst) (hn : Near gen L now now') (hf : ∀ p ∈ lst', p.length ≤ 65536) (hr : ∃ G, (readB ⟨now', []⟩ gen).flatten = snap ++ encs lst' ++ G ∧ Stops G) : Good ⟨now', []⟩ gen L whole snap lst' := by
  refine ⟨?_, fun n b hn2 hb => ?_, fun n b hn2 hb => ?_, hr, hf, h.gp⟩
  · have := h.root
    unfold rootP rootK rootK rootK rootN at this ⊢
    dsimp only at this ⊢
    rw [hn.root 0 (by omega), hn.root 1 (by omega)]
    exact this
  · rw [hn.root n hn2] at hb
    exact h.rle n b hn2 hb
  · rcases hn.blk n b hn2 hb with h1 | ⟨h1, h2⟩
    · exact h.live n b hn2 h1
    · exact ⟨by omega, fun h0 => by have := h.gp; omega, by omega⟩
theorem appS_ok {d : D} {s : St} {p : List Int} (hp : p.length ≤ 65536) (hfit : fitsB d s (p.length + 4) = true) : appS d s p = (0, (putS d s (le4 p.length ++ p)).1, { (putS d s (le4 p.length ++ p)).2 with count := s.count + 1 }) := by
  unfold appS
  rw [if_neg (by omega), if_neg (by rw [hfit]; simp)]
theorem Desk.append {d : D} {s : St} {whole : Bool} {snap : List Int} {lst : List (List Int)} (h : Desk d s whole snap lst) (hg : s.gen < 4294967296) (hl : s.life < 4294967296) {p : List Int} (hp : p.length ≤ 65536) (hfit : fitsB d s (p.length + 4) = true) :
    (appS d s p).1 = 0 ∧ Desk (appS d s p).2.1 (appS d s p).2.2 whole snap (lst ++ [p]) ∧ (appS d s p).2.2.gen = s.gen ∧ (appS d s p).2.2.life = s.life ∧ halfP (appS d s p).2.1 = halfP d ∧ (appS d s p).2.1.loose.length ≤ d.loose.length + halfP d + 1 ∧ (appS d s p).2.1.now.length = d.now.length ∧ (appS d s p).2.2.safe = s.safe := by
  rw [appS_ok hp hfit]
  have hlen := h.pos.len
  have hP : (le4 p.length ++ p).length = 4 + p.length := by simp [le4]; omega
  have hfit2 : p.length + 4 + s.tail.length + s.at_ * 55 ≤ halfP d * 55 := by unfold fitsB at hfit; simpa using hfit
  have hB : snap ++ encs (lst ++ [p]) = (snap ++ encs lst) ++ (le4 p.length ++ p) := by rw [encs_append, encs_one, List.append_assoc]
  have hpos : PosT d s.gen s.life (snap ++ encs (lst ++ [p])) s.at_ (s.tail ++ (le4 p.length ++ p)) := by
    rw [hB]
    refine ⟨h.pos.le, by rw [List.length_append, hlen]; have h9 : (s.tail ++ (le4 p.length ++ p)).length = s.tail.length + (le4 p.length ++ p).length := List.length_append; omega, ?_, chain_more _ h.pos.ch (by omega), h.pos.free⟩
    rw [List.drop_append_of_le_length (by omega), ← h.pos.tl]
  have hBl : (snap ++ encs (lst ++ [p])).length = s.at_ * 55 + s.tail.length + (4 + p.length) := by rw [hB, List.length_append, hlen, hP]
  have hTl : (s.tail ++ (le4 p.length ++ p)).length = s.tail.length + (4 + p.length) := by rw [List.length_append, hP]
  have hsh := h.short
  obtain ⟨m, g1, g2, g3, g4, g5, g6, g7, g8, g9⟩ := put_plain hg hl ((s.tail ++ (le4 p.length ++ p)).length / 55 + 1) d _ s.at_ hpos (by omega) (by omega) (by omega)
  unfold putS
  generalize putP s.gen s.life ((s.tail ++ (le4 p.length ++ p)).length / 55 + 1) d (s.tail ++ (le4 p.length ++ p)) s.at_ = r at *
  dsimp only
  have hnow := h.now
  have hfew : ∀ q ∈ lst ++ [p], q.length ≤ 65536 := fun q hq => by
    rcases List.mem_append.1 hq with hq | hq
    · exact hnow.few q hq
    · rw [List.mem_singleton.1 hq]; exact hp
  refine ⟨rfl, ⟨g5, g6, by rw [List.length_append, h.cnt]; rfl, by rw [List.length_append]; exact Nat.le_trans h.sf (Nat.le_add_right _ _), fun k hk => ?_, by rw [g8]; omega⟩, by first | rfl | trivial, by first | rfl | trivial, g8, ?_, g3.len, by first | rfl | trivial⟩
  rotate_left
  · rw [g1]
    by_cases hm : m = 1
    · omega
    · have := (g9 (m - 1) (by omega) (by omega)).2.2
      have := g5.le
      omega
  have hsf := h.sf
  rw [g1] at hk ⊢
  by_cases hk1 : k ≤ d.loose.length
  · obtain ⟨n, n1, n2, n3, n4, n5⟩ := h.crash k hk1
    refine ⟨n, n1, by rw [List.length_append]; omega, n3, fun e => by omega, ?_⟩
    rw [g4 k hk1, List.take_append_of_le_length n2]
    exact n5
  · obtain ⟨j, rfl⟩ : ∃ j, k = d.loose.length + j := ⟨k - d.loose.length, by omega⟩
    by_cases hj : j = m
    · subst hj
      refine ⟨(lst ++ [p]).length, by rw [List.length_append]; exact Nat.le_trans h.sf (Nat.le_add_right _ _), Nat.le_refl _, fun e => by omega, fun _ => rfl, ?_⟩
      rw [undo_all _ _ (by omega), List.take_length]
      refine good_near hnow g3 hfew ⟨[], ?_, stops_nil⟩
      rw [List.append_nil]
      exact g7
    · obtain ⟨q1, q2, q3⟩ := g9 j (by omega) (by omega)
      refine ⟨lst.length, hsf, by rw [List.length_append]; omega, fun e => by omega, fun e => by omega, ?_⟩
      rw [List.take_left]
      refine good_near hnow q1 hnow.few ⟨(le4 p.length ++ p).take ((s.at_ + j) * 55 - (snap ++ encs lst).length), ?_, stops_part hp (by omega)⟩
      rw [q2, hB, List.take_append, List.take_of_length_le (by omega)]
end Go.Fur
namespace Go.Fur
open Go Go.RowKit
set_option linter.unusedVariables false
set_option linter.unusedSimpArgs false
theorem encs_take (l : List (List Int)) (n : Nat) : (encs (l.take n)).length ≤ (encs l).length := by
  have : encs l = encs (l.take n) ++ encs (l.drop n) := by rw [← encs_append, List.take_append_drop]
  rw [this, List.length_append]
  omega
theorem desk_open {d : D} {gen L : Nat} {whole : Bool} {snap : List Int} {lst : List (List Int)} (h : Good d gen L whole snap lst) (h64 : ∀ b ∈ d.now, b.length = 64) (hL : L < 4294967295) (hfit : (snap ++ encs lst).length ≤ halfP d * 55) :
    ∃ L' i tail, L' ≤ L + 1 ∧ openP d = ⟨gen, L', whole, snap, lst, i, tail⟩ ∧ Desk d.calm ⟨gen, L', tail, i, lst.length, lst.length⟩ whole snap lst := by
  obtain ⟨L', h1, h2, h3, h4⟩ := open_good h h64 hL
  have h5 := h3.len
  refine ⟨L', _, _, h1, h2, ⟨h3.of [], by dsimp only; omega, rfl, Nat.le_refl _, fun k hk => ⟨lst.length, Nat.le_refl _, Nat.le_refl _, fun _ => rfl, fun _ => rfl, ?_⟩, hfit⟩⟩
  have e : undo d.calm k = d.now := undo_all d.calm k (by simp [D.calm])
  rw [e, List.take_length]
  exact Good.of (l := d.loose) h4
/-- A crash, and the store is opened anew. -/
theorem Desk.lost {d : D} {s : St} {whole : Bool} {snap : List Int} {lst : List (List Int)} (h : Desk d s whole snap lst) (hw : d.wf) (hL : s.life < 4294967295) (keep : Nat) :
    ∃ n, s.safe ≤ n ∧ n ≤ lst.length ∧ (keep = 0 → n = s.safe) ∧ (d.loose.length ≤ keep → n = lst.length) ∧
      ∃ L' i tail, L' ≤ s.life + 1 ∧ openP ⟨undo d keep, []⟩ = ⟨s.gen, L', whole, snap, lst.take n, i, tail⟩ ∧ Desk (D.calm ⟨undo d keep, []⟩) ⟨s.gen, L', tail, i, n, n⟩ whole snap (lst.take n) := by
  have e : undo d keep = undo d (min keep d.loose.length) := by
    by_cases hk : keep ≤ d.loose.length
    · rw [Nat.min_eq_left hk]
    · rw [undo_all d keep (by omega), undo_all d _ (by omega)]
  obtain ⟨n, n1, n2, n3, n4, n5⟩ := h.crash (min keep d.loose.length) (Nat.min_le_right _ _)
  rw [← e] at n5
  have h64 : ∀ b ∈ (⟨undo d keep, []⟩ : D).now, b.length = 64 := undo_wf hw keep
  have hh : halfP (⟨undo d keep, []⟩ : D) = halfP d := by unfold halfP; rw [undo_length]
  have hfit : (snap ++ encs (lst.take n)).length ≤ halfP (⟨undo d keep, []⟩ : D) * 55 := by
    have h1 := h.fit
    have h2 := encs_take lst n
    rw [List.length_append] at h1 ⊢
    rw [hh]
    omega
  obtain ⟨L', i, tail, o1, o2, o3⟩ := desk_open n5 h64 hL hfit
  rw [List.length_take, Nat.min_eq_left n2] at o3
  exact ⟨n, n1, n2, fun hk => n3 (by omega), fun hk => n4 (by omega), L', i, tail, o1, o2, o3⟩
/-- The store is opened anew, without a crash. -/
theorem Desk.again {d : D} {s : St} {whole : Bool} {snap : List Int} {lst : List (List Int)} (h : Desk d s whole snap lst) (hw : d.wf) (hL : s.life < 4294967295) :
    ∃ L' i tail, L' ≤ s.life + 1 ∧ openP d = ⟨s.gen, L', whole, snap, lst, i, tail⟩ ∧ Desk d.calm ⟨s.gen, L', tail, i, lst.length, lst.length⟩ whole snap lst := by
  exact desk_open (d := d) (Good.of (l' := d.loose) h.now) hw.now hL h.fit
theorem magic_pad (r : List Int) : (pad (magicL ++ r)).take 8 = magicL := by
  unfold pad
  rw [List.append_assoc, List.take_append_of_le_length (by simp [magicL])]
  rfl
theorem root_gen {g n : Nat} (hg : g < 4294967296) : four4 (pad (magicL ++ le4 g ++ le4 n)) 8 = g := by
  unfold pad
  rw [List.append_assoc, List.append_assoc, four4_drop, List.drop_append_of_le_length (by simp [magicL]), show magicL.drop 8 = [] from rfl, List.nil_append, List.append_assoc]
  exact four4_le4 g hg _
theorem root_len {g n : Nat} (hn : n < 4294967296) : four4 (pad (magicL ++ le4 g ++ le4 n)) 12 = n := by
  unfold pad
  rw [List.append_assoc, four4_drop, List.drop_append_of_le_length (by simp [magicL, le4]), show (magicL ++ le4 g).drop 12 = [] from rfl, List.nil_append, List.append_assoc]
  exact four4_le4 n hn _
theorem halfB_root (d : D) (n gen j : Nat) (b : List Int) (l : List (Nat × List Int × List Int)) (hn : n < 2) : halfB ⟨d.now.set n b, l⟩ gen j = halfB d gen j := by
  have e : placeP ⟨d.now.set n b, l⟩ gen j = placeP d gen j := by unfold placeP; rw [halfP_set]
  unfold halfB
  rw [e]
  simp only [List.getD_eq_getElem?_getD, List.getElem?_set]
  rw [if_neg (by unfold placeP; omega)]
theorem root_set {now : List (List Int)} {gen g1 n : Nat} (hg1 : g1 = gen + 1) (hg : g1 < 4294967296) (hn : n < 4294967296) (hgp : 1 ≤ gen) (hl : 2 ≤ now.length) (hr : ∀ n b, n < 2 → now[n]? = some b → b.take 8 = magicL → four4 b 8 ≤ gen) :
    rootP (now.set (g1 % 2) (pad (magicL ++ le4 g1 ++ le4 n))) = (g1, n, true) := by
  have hm : (pad (magicL ++ le4 g1 ++ le4 n)).take 8 = magicL := by rw [List.append_assoc]; exact magic_pad _
  obtain ⟨b0, hb0⟩ : ∃ b0, now[0]? = some b0 := ⟨_, List.getElem?_eq_getElem (by omega)⟩
  obtain ⟨b1, hb1⟩ : ∃ b1, now[1]? = some b1 := ⟨_, List.getElem?_eq_getElem (by omega)⟩
  unfold rootP rootK rootK rootK
  rcases Nat.mod_two_eq_zero_or_one g1 with h | h
  · rw [h]
    have e0 : (now.set 0 (pad (magicL ++ le4 g1 ++ le4 n)))[0]? = some (pad (magicL ++ le4 g1 ++ le4 n)) := by rw [List.getElem?_set, if_pos rfl, if_pos (by omega)]
    have e1 : (now.set 0 (pad (magicL ++ le4 g1 ++ le4 n)))[1]? = some b1 := by rw [List.getElem?_set, if_neg (by omega)]; exact hb1
    have r0 : rootN (now.set 0 (pad (magicL ++ le4 g1 ++ le4 n))) (1, 0, false) 0 = (g1, n, true) := by
      unfold rootN
      rw [e0]
      dsimp only
      unfold rootG
      rw [root_gen hg, root_len hn, if_pos ⟨hm, by dsimp only; omega, h⟩]
    rw [r0]
    unfold rootN
    rw [e1]
    dsimp only
    unfold rootG
    rw [if_neg]
    rintro ⟨hh1, hh2, _⟩
    have := hr 1 b1 (by omega) hb1 hh1
    dsimp only at hh2
    omega
  · rw [h]
    have e0 : (now.set 1 (pad (magicL ++ le4 g1 ++ le4 n)))[0]? = some b0 := by rw [List.getElem?_set, if_neg (by omega)]; exact hb0
    have e1 : (now.set 1 (pad (magicL ++ le4 g1 ++ le4 n)))[1]? = some (pad (magicL ++ le4 g1 ++ le4 n)) := by rw [List.getElem?_set, if_pos rfl, if_pos (by omega)]
    have r0 : (rootN (now.set 1 (pad (magicL ++ le4 g1 ++ le4 n))) (1, 0, false) 0).1 ≤ gen := by
      unfold rootN
      rw [e0]
      dsimp only
      unfold rootG
      split
      · rename_i hh
        exact hr 0 b0 (by omega) hb0 hh.1
      · exact hgp
    generalize rootN (now.set 1 (pad (magicL ++ le4 g1 ++ le4 n))) (1, 0, false) 0 = r at *
    unfold rootN
    rw [e1]
    dsimp only
    unfold rootG
    rw [root_gen hg, root_len hn, if_pos ⟨hm, by omega, h⟩]
theorem Desk.check {d : D} {s : St} {whole : Bool} {snap : List Int} {lst : List (List Int)} (h : Desk d s whole snap lst) (hg : s.gen + 1 < 4294967296) (hl : s.life < 4294967296) (hh : 0 < halfP d) {p : List Int} (hp : p.length ≤ 524288) (hfit : p.length ≤ halfP d * 55) :
    (ckS d s p).1 = 0 ∧ Desk (ckS d s p).2.1 (ckS d s p).2.2 true p [] ∧ (ckS d s p).2.2.gen = s.gen + 1 ∧ (ckS d s p).2.2.life = s.life ∧ (ckS d s p).2.2.safe = 0 ∧ halfP (ckS d s p).2.1 = halfP d ∧ (ckS d s p).2.1.loose = [] ∧ (ckS d s p).2.1.now.length = d.now.length := by
  have hnow := h.now
  have hlen2 : 4 ≤ d.now.length := by unfold halfP at hh; omega
  unfold ckS
  rw [if_neg (by omega), if_neg (by omega), show (s.gen + 1) % 4294967296 = s.gen + 1 from Nat.mod_eq_of_lt hg]
  unfold ckD
  rw [show (s.gen + 1) % 4294967296 = s.gen + 1 from Nat.mod_eq_of_lt hg]
  have hpos : PosT d.calm (s.gen + 1) s.life p 0 p := by
    refine ⟨Nat.zero_le _, by omega, by simp, ⟨fun i hi => absurd hi (by omega), fun i hi => absurd hi (by omega)⟩, fun j h1 h2 h3 => ?_⟩
    obtain ⟨b, hb1, hb2⟩ := halfB_some (gen := s.gen + 1) h2
    rw [hb2] at h3
    have := (hnow.live _ b (by unfold placeP; omega) hb1).1
    omega
  unfold putS
  dsimp only
  rw [List.nil_append]
  obtain ⟨m, g1, g2, g3, g4, g5, g6, g7, g8, g9⟩ := put_plain hg hl (p.length / 55 + 1) d.calm p 0 hpos hh hfit (by omega)
  generalize putP (s.gen + 1) s.life (p.length / 55 + 1) d.calm p 0 = r at *
  have hrl : r.1.now.length = d.now.length := g3.len
  have hw : (r.1.calm.write ((s.gen + 1) % 2 : Nat) (magicL ++ le4 (s.gen + 1) ++ le4 p.length)).2 = ⟨r.1.now.set ((s.gen + 1) % 2) (pad (magicL ++ le4 (s.gen + 1) ++ le4 p.length)), [] ++ [((s.gen + 1) % 2, r.1.now.getD ((s.gen + 1) % 2) [], pad (magicL ++ le4 (s.gen + 1) ++ le4 p.length))]⟩ := by
    unfold D.write D.calm
    dsimp only
    rw [if_neg (by omega), if_neg (by simp [magicL, le4])]
    rfl
  rw [hw]
  have hgood : Good ⟨r.1.now.set ((s.gen + 1) % 2) (pad (magicL ++ le4 (s.gen + 1) ++ le4 p.length)), []⟩ (s.gen + 1) s.life true p [] := by
    have hgp := hnow.gp
    refine ⟨?_, fun n b hn hb hm => ?_, fun n b hn hb => ?_, ⟨[], ?_, stops_nil⟩, by simp, by omega⟩
    · refine root_set rfl hg (by omega) hgp (by omega) (fun n b hn hb hm => ?_)
      rw [g3.root n hn] at hb
      exact hnow.rle n b hn hb hm
    · simp only [List.getElem?_set] at hb
      split at hb
      · split at hb
        · simp only [Option.some.injEq] at hb
          subst hb
          rw [root_gen hg]
          exact Nat.le_refl _
        · cases hb
      · rw [g3.root n hn] at hb
        have := hnow.rle n b hn hb hm
        omega
    · simp only [List.getElem?_set] at hb
      rw [if_neg (by omega)] at hb
      rcases g3.blk n b hn hb with h1 | ⟨h1, h2⟩
      · obtain ⟨l1, l2, l3⟩ := hnow.live n b hn h1
        exact ⟨by omega, l2, l3⟩
      · exact ⟨by omega, fun h0 => by omega, by omega⟩
    · have e : readB ⟨r.1.now.set ((s.gen + 1) % 2) (pad (magicL ++ le4 (s.gen + 1) ++ le4 p.length)), []⟩ (s.gen + 1) = readB r.1 (s.gen + 1) := by
        unfold readB
        rw [halfP_set]
        congr 1
        funext j
        exact halfB_root _ _ _ _ _ _ (by omega)
      rw [e, g7]
      simp [encs]
  have hhalf : halfP (⟨r.1.now.set ((s.gen + 1) % 2) (pad (magicL ++ le4 (s.gen + 1) ++ le4 p.length)), []⟩ : D) = halfP d := by rw [halfP_set, g8]; rfl
  refine ⟨rfl, ⟨?_, g6, rfl, Nat.le_refl _, fun k hk => ⟨0, Nat.le_refl _, Nat.le_refl _, fun _ => rfl, fun _ => rfl, ?_⟩, ?_⟩, rfl, rfl, rfl, hhalf, rfl, ?_⟩
  · have e : halfB (D.calm ⟨r.1.now.set ((s.gen + 1) % 2) (pad (magicL ++ le4 (s.gen + 1) ++ le4 p.length)), [] ++ [((s.gen + 1) % 2, r.1.now.getD ((s.gen + 1) % 2) [], pad (magicL ++ le4 (s.gen + 1) ++ le4 p.length))]⟩) (s.gen + 1) = halfB r.1 (s.gen + 1) := by
      funext j
      exact halfB_root _ _ _ _ _ _ (by omega)
    have h0 : p ++ encs [] = p := by simp [encs]
    dsimp only
    rw [h0]
    refine ⟨?_, g5.len, g5.tl, by rw [e]; exact g5.ch, fun j h1 h2 => ?_⟩
    · show r.2.2 ≤ halfP (⟨r.1.now.set ((s.gen + 1) % 2) (pad (magicL ++ le4 (s.gen + 1) ++ le4 p.length)), []⟩ : D)
      rw [hhalf]
      have := g5.le
      rw [g8] at this
      exact this
    · rw [e]
      refine g5.free j h1 ?_
      rw [g8]
      have h3 : halfP (D.calm ⟨r.1.now.set ((s.gen + 1) % 2) (pad (magicL ++ le4 (s.gen + 1) ++ le4 p.length)), [] ++ [((s.gen + 1) % 2, r.1.now.getD ((s.gen + 1) % 2) [], pad (magicL ++ le4 (s.gen + 1) ++ le4 p.length))]⟩) = halfP d := hhalf
      rw [h3] at h2
      exact h2
  · rw [undo_all _ _ (by simp [D.calm])]
    exact hgood
  · have h0 : p ++ encs [] = p := by simp [encs]
    rw [h0]
    show p.length ≤ halfP (⟨r.1.now.set ((s.gen + 1) % 2) (pad (magicL ++ le4 (s.gen + 1) ++ le4 p.length)), []⟩ : D) * 55
    rw [hhalf]
    exact hfit
  · show (r.1.now.set ((s.gen + 1) % 2) (pad (magicL ++ le4 (s.gen + 1) ++ le4 p.length))).length = d.now.length
    rw [List.length_set]
    exact hrl
theorem good_new (n : Nat) : Good (D.new n) 1 0 false [] [] := by
  have hz : ∀ k b, (D.new n).now[k]? = some b → b = zeros 64 := fun k b hb => List.eq_of_mem_replicate (List.mem_of_getElem? hb)
  have hz8 : (zeros 64).take 8 ≠ magicL := by decide
  have hz4 : four4 (zeros 64) 0 = 0 ∧ four4 (zeros 64) 4 = 0 := by decide
  refine ⟨?_, fun k b _ hb hm => ?_, fun k b _ hb => ?_, ⟨[], ?_, stops_nil⟩, by simp, Nat.le_refl _⟩
  · have hs : ∀ k, rootN (D.new n).now (1, 0, false) k = (1, 0, false) := fun k => by
      unfold rootN
      split
      · rename_i b hb
        unfold rootG
        rw [hz k b hb, if_neg (fun hh => hz8 hh.1)]
      · rfl
    unfold rootP rootK rootK rootK
    rw [hs, hs]
    rfl
  · rw [hz k b hb] at hm
    exact absurd hm hz8
  · rw [hz k b hb, hz4.1, hz4.2]
    omega
  · have : readB (D.new n) 1 = [] := by
      unfold readB
      by_cases h0 : 0 < halfP (D.new n)
      · obtain ⟨b, hb1, hb2⟩ := halfB_some (gen := 1) h0
        refine go_stop (.inr (.inl ?_))
        rw [hb2, hz _ b hb1, hz4.1]
        omega
      · exact go_stop (.inl (by omega))
    rw [this]
    simp [encs]
end Go.Fur
