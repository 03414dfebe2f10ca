/- A store, plain: what it holds, whatever is appended, made safe, put into snapshots, and lost. -/
import Derived.Test.YtmhejgelmmjihaaStoP3
namespace Go.Fur
open Go Go.RowKit
set_option linter.unusedVariables false
set_option linter.unusedSimpArgs false
structure Desk (d : D) (s : St) (whole : Bool) (snap : List Int) (lst : List (List Int)) : Prop where
  pos : PosT d s.gen s.life (snap ++ encs lst) s.at_ s.tail
  short : s.tail.length < 55
  cnt : s.count = lst.length
  sf : s.safe ≤ lst.length
  crash : ∀ k, k ≤ d.loose.length → ∃ n, s.safe ≤ n ∧ n ≤ lst.length ∧ (k = 0 → n = s.safe) ∧ (k = d.loose.length → n = lst.length) ∧ Good ⟨undo d k, []⟩ s.gen s.life whole snap (lst.take n)
  fit : (snap ++ encs lst).length ≤ halfP d * 55
theorem Desk.now {d : D} {s : St} {whole : Bool} {snap : List Int} {lst : List (List Int)} (h : Desk d s whole snap lst) : Good ⟨d.now, []⟩ s.gen s.life whole snap lst := by
  obtain ⟨n, _, _, _, h4, h5⟩ := h.crash d.loose.length (Nat.le_refl _)
  rw [h4 rfl, undo_all _ _ (Nat.le_refl _), List.take_length] at h5
  exact h5
theorem PosT.of {d : D} {gen L i : Nat} {B T : List Int} (h : PosT d gen L B i T) (l : List (Nat × List Int × List Int)) : PosT ⟨d.now, l⟩ gen L B i T := ⟨h.le, h.len, h.tl, h.ch, h.free⟩
theorem Good.of {now : List (List Int)} {l l' : List (Nat × List Int × List Int)} {gen L : Nat} {whole : Bool} {snap : List Int} {lst : List (List Int)} (h : Good ⟨now, l⟩ gen L whole snap lst) : Good ⟨now, l'⟩ gen L whole snap lst := ⟨h.root, h.rle, h.live, h.rd, h.few, h.gp⟩
/-- All is safe. -/
theorem Desk.calm {d : D} {s : St} {whole : Bool} {snap : List Int} {lst : List (List Int)} (h : Desk d s whole snap lst) : Desk d.calm { s with safe := s.count } whole snap lst := by
  have hg := h.now
  refine ⟨h.pos.of [], h.short, h.cnt, by dsimp only; rw [h.cnt]; exact Nat.le_refl _, fun k hk => ⟨lst.length, by dsimp only; rw [h.cnt]; exact Nat.le_refl _, Nat.le_refl _, fun _ => h.cnt.symm, fun _ => rfl, ?_⟩, h.fit⟩
  have e : undo d.calm k = d.now := undo_all d.calm k (by simp [D.calm])
  rw [e, List.take_length]
  exact hg
theorem chain_more {f : Nat → List Int} {gen L i : Nat} {B : List Int} (P : List Int) (h : Chain f gen L i B) (hl : i * 55 ≤ B.length) : Chain f gen L i (B ++ P) := by
  refine ⟨fun j hj => ?_, h.mono⟩
  obtain ⟨h1, h2, h3, h4⟩ := h.full j hj
  refine ⟨h1, h2, ?_, h4⟩
  rw [h3, List.drop_append_of_le_length (by omega), List.take_append_of_le_length (by rw [List.length_drop]; omega)]
theorem stops_part {p : List Int} (hp : p.length ≤ 65536) {k : Nat} (hk : k < 4 + p.length) : Stops ((le4 p.length ++ p).take k) := by
  have hl : ((le4 p.length ++ p).take k).length = k := by rw [List.length_take]; simp [le4]; omega
  by_cases h4 : k < 4
  · exact .inl (by omega)
  · refine .inr (.inr ?_)
    have e : (le4 p.length ++ p).take k = le4 p.length ++ p.take (k - 4) := by
      rw [List.take_append, le4_length, List.take_of_length_le (by rw [le4_length]; omega)]
    rw [hl, e, four4_le4 _ (by omega)]
    exact hk
/-- What is lost behind the first writes of a record is no whole record. -/
theorem good_near {now now' : List (List Int)} {gen L : Nat} {whole : Bool} {snap : List Int} {lst lst' : List (List Int)} (h : Good ⟨now, []⟩ gen L whole snap lst) (hn : Near gen L now now') (hf : ∀ p ∈ lst', p.length ≤ 65536) (hr : ∃ G, (readB ⟨now', []⟩ gen).flatten = snap ++ encs lst' ++ G ∧ Stops G) : Good ⟨now', []⟩ gen L whole snap lst' := by
  refine ⟨?_, fun n b hn2 hb => ?_, fun n b hn2 hb => ?_, hr, hf, h.gp⟩
  · have := h.root
    unfold rootP rootK rootK rootK rootN at this ⊢
    dsimp only at this ⊢
    rw [hn.root 0 (by omega), hn.root 1 (by omega)]
    exact this
  · rw [hn.root n hn2] at hb
    exact h.rle n b hn2 hb
  · rcases hn.blk n b hn2 hb with h1 | ⟨h1, h2⟩
    · exact h.live n b hn2 h1
    · exact ⟨by omega, fun h0 => by have := h.gp; omega, by omega⟩
theorem appS_ok {d : D} {s : St} {p : List Int} (hp : p.length ≤ 65536) (hfit : fitsB d s (p.length + 4) = true) : appS d s p = (0, (putS d s (le4 p.length ++ p)).1, { (putS d s (le4 p.length ++ p)).2 with count := s.count + 1 }) := by
  unfold appS
  rw [if_neg (by omega), if_neg (by rw [hfit]; simp)]
theorem Desk.append {d : D} {s : St} {whole : Bool} {snap : List Int} {lst : List (List Int)} (h : Desk d s whole snap lst) (hg : s.gen < 4294967296) (hl : s.life < 4294967296) {p : List Int} (hp : p.length ≤ 65536) (hfit : fitsB d s (p.length + 4) = true) :
    (appS d s p).1 = 0 ∧ Desk (appS d s p).2.1 (appS d s p).2.2 whole snap (lst ++ [p]) ∧ (appS d s p).2.2.gen = s.gen ∧ (appS d s p).2.2.life = s.life ∧ halfP (appS d s p).2.1 = halfP d ∧ (appS d s p).2.1.loose.length ≤ d.loose.length + halfP d + 1 ∧ (appS d s p).2.1.now.length = d.now.length ∧ (appS d s p).2.2.safe = s.safe := by
  rw [appS_ok hp hfit]
  have hlen := h.pos.len
  have hP : (le4 p.length ++ p).length = 4 + p.length := by simp [le4]; omega
  have hfit2 : p.length + 4 + s.tail.length + s.at_ * 55 ≤ halfP d * 55 := by unfold fitsB at hfit; simpa using hfit
  have hB : snap ++ encs (lst ++ [p]) = (snap ++ encs lst) ++ (le4 p.length ++ p) := by rw [encs_append, encs_one, List.append_assoc]
  have hpos : PosT d s.gen s.life (snap ++ encs (lst ++ [p])) s.at_ (s.tail ++ (le4 p.length ++ p)) := by
    rw [hB]
    refine ⟨h.pos.le, by rw [List.length_append, hlen]; have h9 : (s.tail ++ (le4 p.length ++ p)).length = s.tail.length + (le4 p.length ++ p).length := List.length_append; omega, ?_, chain_more _ h.pos.ch (by omega), h.pos.free⟩
    rw [List.drop_append_of_le_length (by omega), ← h.pos.tl]
  have hBl : (snap ++ encs (lst ++ [p])).length = s.at_ * 55 + s.tail.length + (4 + p.length) := by rw [hB, List.length_append, hlen, hP]
  have hTl : (s.tail ++ (le4 p.length ++ p)).length = s.tail.length + (4 + p.length) := by rw [List.length_append, hP]
  have hsh := h.short
  obtain ⟨m, g1, g2, g3, g4, g5, g6, g7, g8, g9⟩ := put_plain hg hl ((s.tail ++ (le4 p.length ++ p)).length / 55 + 1) d _ s.at_ hpos (by omega) (by omega) (by omega)
  unfold putS
  generalize putP s.gen s.life ((s.tail ++ (le4 p.length ++ p)).length / 55 + 1) d (s.tail ++ (le4 p.length ++ p)) s.at_ = r at *
  dsimp only
  have hnow := h.now
  have hfew : ∀ q ∈ lst ++ [p], q.length ≤ 65536 := fun q hq => by
    rcases List.mem_append.1 hq with hq | hq
    · exact hnow.few q hq
    · rw [List.mem_singleton.1 hq]; exact hp
  refine ⟨rfl, ⟨g5, g6, by rw [List.length_append, h.cnt]; rfl, by rw [List.length_append]; exact Nat.le_trans h.sf (Nat.le_add_right _ _), fun k hk => ?_, by rw [g8]; omega⟩, by first | rfl | trivial, by first | rfl | trivial, g8, ?_, g3.len, by first | rfl | trivial⟩
  rotate_left
  · rw [g1]
    by_cases hm : m = 1
    · omega
    · have := (g9 (m - 1) (by omega) (by omega)).2.2
      have := g5.le
      omega
  have hsf := h.sf
  rw [g1] at hk ⊢
  by_cases hk1 : k ≤ d.loose.length
  · obtain ⟨n, n1, n2, n3, n4, n5⟩ := h.crash k hk1
    refine ⟨n, n1, by rw [List.length_append]; omega, n3, fun e => by omega, ?_⟩
    rw [g4 k hk1, List.take_append_of_le_length n2]
    exact n5
  · obtain ⟨j, rfl⟩ : ∃ j, k = d.loose.length + j := ⟨k - d.loose.length, by omega⟩
    by_cases hj : j = m
    · subst hj
      refine ⟨(lst ++ [p]).length, by rw [List.length_append]; exact Nat.le_trans h.sf (Nat.le_add_right _ _), Nat.le_refl _, fun e => by omega, fun _ => rfl, ?_⟩
      rw [undo_all _ _ (by omega), List.take_length]
      refine good_near hnow g3 hfew ⟨[], ?_, stops_nil⟩
      rw [List.append_nil]
      exact g7
    · obtain ⟨q1, q2, q3⟩ := g9 j (by omega) (by omega)
      refine ⟨lst.length, hsf, by rw [List.length_append]; omega, fun e => by omega, fun e => by omega, ?_⟩
      rw [List.take_left]
      refine good_near hnow q1 hnow.few ⟨(le4 p.length ++ p).take ((s.at_ + j) * 55 - (snap ++ encs lst).length), ?_, stops_part hp (by omega)⟩
      rw [q2, hB, List.take_append, List.take_of_length_le (by omega)]
end Go.Fur
