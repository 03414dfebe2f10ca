/- A store, plain: what is written behind all others; whatever of it is lost. -/
import Derived.Test.YtmhejgelmmjihaaStoP1
namespace Go.Fur
open Go Go.RowKit
set_option linter.unusedVariables false
set_option linter.unusedSimpArgs false
theorem undo_snoc15 (d : D) (n : Nat) (b x : List Int) (keep : Nat) (hk : keep ≤ d.loose.length) (hn : d.now[n]? = some b) :
    undo ⟨d.now.set n x, d.loose ++ [(n, b, x)]⟩ keep = undo d keep := by
  unfold undo
  simp only
  rw [List.drop_append_of_le_length hk, List.foldr_append]
  simp only [List.foldr_cons, List.foldr_nil, List.set_set]
  obtain ⟨hlt, hb⟩ := List.getElem?_eq_some_iff.1 hn
  rw [← hb, List.set_getElem_self]
theorem putB_eq {d : D} {gen life i : Nat} {u : List Int} (h : i < halfP d) (hu : u.length ≤ 55) :
    d.putB gen life i u = ⟨d.now.set (placeP d gen i) (blkP gen life u), d.loose ++ [(placeP d gen i, d.now.getD (placeP d gen i) [], blkP gen life u)]⟩ := by
  have hp := placeP_lt d gen i h
  have hb := blkL_length gen life u
  unfold D.putB D.write
  rw [if_neg (by omega), if_neg (by omega)]
  rfl
theorem halfB_set {d : D} {gen i j : Nat} {b : List Int} {l : List (Nat × List Int × List Int)} (hi : i < halfP d) : halfB ⟨d.now.set (placeP d gen i) b, l⟩ gen j = if j = i then b else halfB d gen j := by
  have hp := placeP_lt d gen i hi
  have e : ∀ j, placeP ⟨d.now.set (placeP d gen i) b, l⟩ gen j = placeP d gen j := fun j => by
    unfold placeP halfP
    simp
  unfold halfB
  rw [e]
  simp only [List.getD_eq_getElem?_getD, List.getElem?_set]
  by_cases h : j = i
  · subst h
    simp [hp]
  · rw [if_neg h, if_neg (fun hh => h (by unfold placeP at hh; omega))]
theorem halfP_set (d : D) (n : Nat) (b : List Int) (l : List (Nat × List Int × List Int)) : halfP ⟨d.now.set n b, l⟩ = halfP d := by
  unfold halfP
  simp
/-- Where the store stands, behind the bytes B; T is what the blocks from i on are to hold. -/
structure PosT (d : D) (gen L : Nat) (B : List Int) (i : Nat) (T : List Int) : Prop where
  le : i ≤ halfP d
  len : B.length = i * 55 + T.length
  tl : T = B.drop (i * 55)
  ch : Chain (halfB d gen) gen L i B
  free : ∀ j, i < j → j < halfP d → four4 (halfB d gen j) 0 = gen → four4 (halfB d gen j) 4 < L
/-- b is a, but for blocks of that generation and life. -/
structure Near (gen L : Nat) (a b : List (List Int)) : Prop where
  len : b.length = a.length
  root : ∀ n, n < 2 → b[n]? = a[n]?
  blk : ∀ n x, 2 ≤ n → b[n]? = some x → a[n]? = some x ∨ (four4 x 0 = gen ∧ four4 x 4 = L)
theorem Near.refl (gen L : Nat) (a : List (List Int)) : Near gen L a a := ⟨rfl, fun _ _ => rfl, fun _ _ _ h => .inl h⟩
theorem Near.trans {gen L : Nat} {a b c : List (List Int)} (h : Near gen L a b) (k : Near gen L b c) : Near gen L a c :=
  ⟨k.len.trans h.len, fun n hn => (k.root n hn).trans (h.root n hn), fun n x hn hx => (k.blk n x hn hx).elim (fun h1 => h.blk n x hn h1) .inr⟩
theorem near_putB {d : D} {gen L i : Nat} {u : List Int} (hg : gen < 4294967296) (hl : L < 4294967296) (h : i < halfP d) (hu : u.length ≤ 55) : Near gen L d.now (d.putB gen L i u).now := by
  rw [putB_eq h hu]
  refine ⟨by simp, fun n hn => ?_, fun n x hn hx => ?_⟩
  · simp only [List.getElem?_set]
    rw [if_neg (by unfold placeP; omega)]
  · simp only [List.getElem?_set] at hx
    split at hx
    · split at hx
      · simp only [Option.some.injEq] at hx
        subst hx
        exact .inr ⟨blkP_gen hg u, blkP_life hl u⟩
      · cases hx
    · exact .inl hx
/-- One block is written: what is read, and where the store stands. -/
theorem putB_full {d : D} {gen L i : Nat} {B T : List Int} (hg : gen < 4294967296) (hl : L < 4294967296) (h : PosT d gen L B i T) (hi : i < halfP d) (hT : 55 ≤ T.length) : PosT (d.putB gen L i (T.take 55)) gen L B (i + 1) (T.drop 55) ∧ (readB (d.putB gen L i (T.take 55)) gen).flatten = B.take ((i + 1) * 55) := by
  have hu : (T.take 55).length = 55 := by rw [List.length_take]; omega
  rw [putB_eq hi (by omega)]
  generalize hbd : d.loose ++ [(placeP d gen i, d.now.getD (placeP d gen i) [], blkP gen L (T.take 55))] = l
  have hh : ∀ j, halfB ⟨d.now.set (placeP d gen i) (blkP gen L (T.take 55)), l⟩ gen j = if j = i then blkP gen L (T.take 55) else halfB d gen j := fun j => halfB_set hi
  have hb : ((blkP gen L (T.take 55)).drop 9).take 55 = T.take 55 := by
    have := blkP_bytes gen L (T.take 55)
    rwa [hu] at this
  have hT2 : (B.drop (i * 55)).take 55 = T.take 55 := by rw [← h.tl]
  have hc : Chain (halfB ⟨d.now.set (placeP d gen i) (blkP gen L (T.take 55)), l⟩ gen) gen L (i + 1) B := by
    refine ⟨fun j hj => ?_, fun j hj => ?_⟩
    · rw [hh]
      by_cases e : j = i
      · rw [if_pos e, e]
        exact ⟨blkP_gen hg _, by rw [blkP_used, hu], by rw [hb, hT2], by rw [blkP_life hl]; omega⟩
      · rw [if_neg e]
        exact h.ch.full j (by omega)
    · rw [hh, hh]
      by_cases e : j + 1 = i
      · rw [if_neg (by omega), if_pos e, blkP_life hl]
        exact (h.ch.full j (by omega)).2.2.2
      · rw [if_neg (by omega), if_neg e]
        exact h.ch.mono j (by omega)
  have hfree : ∀ j, i < j → j < halfP d → four4 (halfB ⟨d.now.set (placeP d gen i) (blkP gen L (T.take 55)), l⟩ gen j) 0 = gen → four4 (halfB ⟨d.now.set (placeP d gen i) (blkP gen L (T.take 55)), l⟩ gen j) 4 < L := fun j h1 h2 => by
    rw [hh, if_neg (by omega)]
    exact h.free j h1 h2
  refine ⟨⟨by rw [halfP_set]; omega, by rw [h.len, List.length_drop]; omega, by rw [h.tl, List.drop_drop]; congr 1; omega, hc, fun j h1 h2 => hfree j (by omega) (by rw [halfP_set] at h2; exact h2)⟩, ?_⟩
  unfold readB
  rw [halfP_set, show halfP d = (i + 1) + (halfP d - (i + 1)) by omega, chain_go (i + 1) _ hc]
  have hlast : lastL (halfB ⟨d.now.set (placeP d gen i) (blkP gen L (T.take 55)), l⟩ gen) (i + 1) = L := by
    unfold lastL
    rw [if_neg (by omega), hh]
    simp [blkP_life hl]
  rw [hlast, go_stop]
  · simp
  · by_cases e : halfP d - (i + 1) = 0
    · exact .inl e
    · by_cases e2 : four4 (halfB ⟨d.now.set (placeP d gen i) (blkP gen L (T.take 55)), l⟩ gen (i + 1)) 0 = gen
      · exact .inr (.inr (hfree (i + 1) (by omega) (by omega) e2))
      · exact .inr (.inl e2)
theorem putB_part {d : D} {gen L i : Nat} {B T : List Int} (hg : gen < 4294967296) (hl : L < 4294967296) (h : PosT d gen L B i T) (hi : i < halfP d) (hT : T.length < 55) : PosT (d.putB gen L i T) gen L B i T ∧ (readB (d.putB gen L i T) gen).flatten = B := by
  rw [putB_eq hi (by omega)]
  generalize hbd : d.loose ++ [(placeP d gen i, d.now.getD (placeP d gen i) [], blkP gen L T)] = l
  have hh : ∀ j, halfB ⟨d.now.set (placeP d gen i) (blkP gen L T), l⟩ gen j = if j = i then blkP gen L T else halfB d gen j := fun j => halfB_set hi
  have hc : Chain (halfB ⟨d.now.set (placeP d gen i) (blkP gen L T), l⟩ gen) gen L i B := by
    refine ⟨fun j hj => ?_, fun j hj => ?_⟩
    · rw [hh, if_neg (by omega)]
      exact h.ch.full j hj
    · rw [hh, hh, if_neg (by omega), if_neg (by omega)]
      exact h.ch.mono j hj
  refine ⟨⟨by rw [halfP_set]; exact h.le, h.len, h.tl, hc, fun j h1 h2 => by rw [hh, if_neg (by omega)]; exact h.free j h1 (by rw [halfP_set] at h2; exact h2)⟩, ?_⟩
  unfold readB
  rw [halfP_set, show halfP d = i + ((halfP d - i - 1) + 1) by omega, chain_go i _ hc]
  have h1 : halfB ⟨d.now.set (placeP d gen i) (blkP gen L T), l⟩ gen i = blkP gen L T := by rw [hh, if_pos rfl]
  rw [go_part (u := T) (by rw [h1]; exact blkP_gen hg T) (by rw [h1, blkP_life hl]; exact hc.last) (by rw [h1, blkP_used]) hT (by rw [h1]; exact blkP_bytes gen L T)]
  rw [List.flatten_cons, List.flatten_nil, List.append_nil]
  have e := List.take_append_drop (i * 55) B
  rwa [← h.tl] at e
theorem putB_loose {d : D} {gen L i : Nat} {u : List Int} (h : i < halfP d) (hu : u.length ≤ 55) : (d.putB gen L i u).loose.length = d.loose.length + 1 ∧ (∀ k, k ≤ d.loose.length → undo (d.putB gen L i u) k = undo d k) ∧ halfP (d.putB gen L i u) = halfP d ∧ (d.putB gen L i u).now.length = d.now.length := by
  rw [putB_eq h hu]
  have hp := placeP_lt d gen i h
  refine ⟨by simp, fun k hk => undo_snoc15 d _ _ _ k hk (by rw [List.getD_eq_getElem?_getD, List.getElem?_eq_getElem hp]; rfl), halfP_set _ _ _ _, by simp⟩
theorem readB_now (d : D) (gen : Nat) (l : List (Nat × List Int × List Int)) : readB ⟨d.now, l⟩ gen = readB d gen := rfl
/-- All that is written, behind however many of the writes. -/
theorem put_plain {gen L : Nat} (hg : gen < 4294967296) (hl : L < 4294967296) {B : List Int} : ∀ (f : Nat) (d : D) (T : List Int) (i : Nat), PosT d gen L B i T → i < halfP d → B.length ≤ halfP d * 55 → T.length < 55 * f →
    ∃ m, (putP gen L f d T i).1.loose.length = d.loose.length + m ∧ 1 ≤ m ∧ Near gen L d.now (putP gen L f d T i).1.now ∧ (∀ k, k ≤ d.loose.length → undo (putP gen L f d T i).1 k = undo d k) ∧ PosT (putP gen L f d T i).1 gen L B (putP gen L f d T i).2.2 (putP gen L f d T i).2.1 ∧ (putP gen L f d T i).2.1.length < 55 ∧
      (readB (putP gen L f d T i).1 gen).flatten = B ∧ halfP (putP gen L f d T i).1 = halfP d ∧
      ∀ j, 1 ≤ j → j < m → Near gen L d.now (undo (putP gen L f d T i).1 (d.loose.length + j)) ∧ (readB ⟨undo (putP gen L f d T i).1 (d.loose.length + j), []⟩ gen).flatten = B.take ((i + j) * 55) ∧ (i + j) * 55 < B.length
  | 0, d, T, i, _, _, _, h => by omega
  | f + 1, d, T, i, h, hi, hB, hT => by
    rw [putP]
    by_cases h1 : T.length < 55
    · rw [if_pos h1]
      obtain ⟨p1, p2⟩ := putB_part hg hl h hi h1
      obtain ⟨l1, l2, l3, l4⟩ := putB_loose (gen := gen) (L := L) (u := T) hi (by omega)
      exact ⟨1, l1, Nat.le_refl _, near_putB hg hl hi (by omega), l2, p1, h1, p2, l3, fun j h2 h3 => absurd h3 (by omega)⟩
    · rw [if_neg h1]
      have hu : (T.take 55).length = 55 := by rw [List.length_take]; omega
      obtain ⟨p1, p2⟩ := putB_full hg hl h hi (by omega)
      obtain ⟨l1, l2, l3, l4⟩ := putB_loose (gen := gen) (L := L) (u := T.take 55) hi (by omega)
      have nr := near_putB (u := T.take 55) hg hl hi (by omega)
      by_cases h2 : T.length = 55
      · rw [if_pos h2]
        have e1 : T.take 55 = T := List.take_of_length_le (by omega)
        have e2 : T.drop 55 = [] := List.drop_eq_nil_of_le (by omega)
        rw [e1] at p1 p2 l1 l2 l3 nr
        rw [e2] at p1
        rw [List.take_of_length_le (by rw [h.len]; omega)] at p2
        exact ⟨1, l1, Nat.le_refl _, nr, l2, p1, by simp, p2, l3, fun j h2 h3 => absurd h3 (by omega)⟩
      · rw [if_neg h2]
        have hlen := h.len
        obtain ⟨m, g1, g2, g3, g4, g5, g6, g7, g8, g9⟩ := put_plain hg hl f (d.putB gen L i (T.take 55)) (T.drop 55) (i + 1) p1 (by rw [l3]; omega) (by rw [l3]; exact hB) (by rw [List.length_drop]; omega)
        refine ⟨m + 1, by rw [g1, l1]; omega, by omega, nr.trans g3, fun k hk => by rw [g4 k (by omega), l2 k hk], g5, g6, g7, by rw [g8, l3], fun j hj1 hj2 => ?_⟩
        by_cases ej : j = 1
        · subst ej
          have e3 : undo (putP gen L f (d.putB gen L i (T.take 55)) (T.drop 55) (i + 1)).1 (d.loose.length + 1) = (d.putB gen L i (T.take 55)).now := by
            rw [g4 _ (by omega), undo_all _ _ (by omega)]
          rw [e3]
          exact ⟨nr, p2, by omega⟩
        · obtain ⟨q1, q2, q3⟩ := g9 (j - 1) (by omega) (by omega)
          rw [l1, show d.loose.length + 1 + (j - 1) = d.loose.length + j by omega] at q1 q2
          rw [show i + 1 + (j - 1) = i + j by omega] at q2 q3
          exact ⟨nr.trans q1, q2, q3⟩
end Go.Fur
