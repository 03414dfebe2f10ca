/- A store, plain: snapshots, crashes, a new disk. -/
import Derived.Test.YtmhejgelmmjihaaStoP4
namespace Go.Fur
open Go Go.RowKit
set_option linter.unusedVariables false
set_option linter.unusedSimpArgs false
theorem encs_take (l : List (List Int)) (n : Nat) : (encs (l.take n)).length ≤ (encs l).length := by
  have : encs l = encs (l.take n) ++ encs (l.drop n) := by rw [← encs_append, List.take_append_drop]
  rw [this, List.length_append]
  omega
theorem desk_open {d : D} {gen L : Nat} {whole : Bool} {snap : List Int} {lst : List (List Int)} (h : Good d gen L whole snap lst) (h64 : ∀ b ∈ d.now, b.length = 64) (hL : L < 4294967295) (hfit : (snap ++ encs lst).length ≤ halfP d * 55) :
    ∃ L' i tail, L' ≤ L + 1 ∧ openP d = ⟨gen, L', whole, snap, lst, i, tail⟩ ∧ Desk d.calm ⟨gen, L', tail, i, lst.length, lst.length⟩ whole snap lst := by
  obtain ⟨L', h1, h2, h3, h4⟩ := open_good h h64 hL
  have h5 := h3.len
  refine ⟨L', _, _, h1, h2, ⟨h3.of [], by dsimp only; omega, rfl, Nat.le_refl _, fun k hk => ⟨lst.length, Nat.le_refl _, Nat.le_refl _, fun _ => rfl, fun _ => rfl, ?_⟩, hfit⟩⟩
  have e : undo d.calm k = d.now := undo_all d.calm k (by simp [D.calm])
  rw [e, List.take_length]
  exact Good.of (l := d.loose) h4
/-- A crash, and the store is opened anew. -/
theorem Desk.lost {d : D} {s : St} {whole : Bool} {snap : List Int} {lst : List (List Int)} (h : Desk d s whole snap lst) (hw : d.wf) (hL : s.life < 4294967295) (keep : Nat) :
    ∃ n, s.safe ≤ n ∧ n ≤ lst.length ∧ (keep = 0 → n = s.safe) ∧ (d.loose.length ≤ keep → n = lst.length) ∧
      ∃ L' i tail, L' ≤ s.life + 1 ∧ openP ⟨undo d keep, []⟩ = ⟨s.gen, L', whole, snap, lst.take n, i, tail⟩ ∧ Desk (D.calm ⟨undo d keep, []⟩) ⟨s.gen, L', tail, i, n, n⟩ whole snap (lst.take n) := by
  have e : undo d keep = undo d (min keep d.loose.length) := by
    by_cases hk : keep ≤ d.loose.length
    · rw [Nat.min_eq_left hk]
    · rw [undo_all d keep (by omega), undo_all d _ (by omega)]
  obtain ⟨n, n1, n2, n3, n4, n5⟩ := h.crash (min keep d.loose.length) (Nat.min_le_right _ _)
  rw [← e] at n5
  have h64 : ∀ b ∈ (⟨undo d keep, []⟩ : D).now, b.length = 64 := undo_wf hw keep
  have hh : halfP (⟨undo d keep, []⟩ : D) = halfP d := by unfold halfP; rw [undo_length]
  have hfit : (snap ++ encs (lst.take n)).length ≤ halfP (⟨undo d keep, []⟩ : D) * 55 := by
    have h1 := h.fit
    have h2 := encs_take lst n
    rw [List.length_append] at h1 ⊢
    rw [hh]
    omega
  obtain ⟨L', i, tail, o1, o2, o3⟩ := desk_open n5 h64 hL hfit
  rw [List.length_take, Nat.min_eq_left n2] at o3
  exact ⟨n, n1, n2, fun hk => n3 (by omega), fun hk => n4 (by omega), L', i, tail, o1, o2, o3⟩
/-- The store is opened anew, without a crash. -/
theorem Desk.again {d : D} {s : St} {whole : Bool} {snap : List Int} {lst : List (List Int)} (h : Desk d s whole snap lst) (hw : d.wf) (hL : s.life < 4294967295) :
    ∃ L' i tail, L' ≤ s.life + 1 ∧ openP d = ⟨s.gen, L', whole, snap, lst, i, tail⟩ ∧ Desk d.calm ⟨s.gen, L', tail, i, lst.length, lst.length⟩ whole snap lst := by
  exact desk_open (d := d) (Good.of (l' := d.loose) h.now) hw.now hL h.fit
theorem magic_pad (r : List Int) : (pad (magicL ++ r)).take 8 = magicL := by
  unfold pad
  rw [List.append_assoc, List.take_append_of_le_length (by simp [magicL])]
  rfl
theorem root_gen {g n : Nat} (hg : g < 4294967296) : four4 (pad (magicL ++ le4 g ++ le4 n)) 8 = g := by
  unfold pad
  rw [List.append_assoc, List.append_assoc, four4_drop, List.drop_append_of_le_length (by simp [magicL]), show magicL.drop 8 = [] from rfl, List.nil_append, List.append_assoc]
  exact four4_le4 g hg _
theorem root_len {g n : Nat} (hn : n < 4294967296) : four4 (pad (magicL ++ le4 g ++ le4 n)) 12 = n := by
  unfold pad
  rw [List.append_assoc, four4_drop, List.drop_append_of_le_length (by simp [magicL, le4]), show (magicL ++ le4 g).drop 12 = [] from rfl, List.nil_append, List.append_assoc]
  exact four4_le4 n hn _
theorem halfB_root (d : D) (n gen j : Nat) (b : List Int) (l : List (Nat × List Int × List Int)) (hn : n < 2) : halfB ⟨d.now.set n b, l⟩ gen j = halfB d gen j := by
  have e : placeP ⟨d.now.set n b, l⟩ gen j = placeP d gen j := by unfold placeP; rw [halfP_set]
  unfold halfB
  rw [e]
  simp only [List.getD_eq_getElem?_getD, List.getElem?_set]
  rw [if_neg (by unfold placeP; omega)]
theorem root_set {now : List (List Int)} {gen g1 n : Nat} (hg1 : g1 = gen + 1) (hg : g1 < 4294967296) (hn : n < 4294967296) (hgp : 1 ≤ gen) (hl : 2 ≤ now.length) (hr : ∀ n b, n < 2 → now[n]? = some b → b.take 8 = magicL → four4 b 8 ≤ gen) :
    rootP (now.set (g1 % 2) (pad (magicL ++ le4 g1 ++ le4 n))) = (g1, n, true) := by
  have hm : (pad (magicL ++ le4 g1 ++ le4 n)).take 8 = magicL := by rw [List.append_assoc]; exact magic_pad _
  obtain ⟨b0, hb0⟩ : ∃ b0, now[0]? = some b0 := ⟨_, List.getElem?_eq_getElem (by omega)⟩
  obtain ⟨b1, hb1⟩ : ∃ b1, now[1]? = some b1 := ⟨_, List.getElem?_eq_getElem (by omega)⟩
  unfold rootP rootK rootK rootK
  rcases Nat.mod_two_eq_zero_or_one g1 with h | h
  · rw [h]
    have e0 : (now.set 0 (pad (magicL ++ le4 g1 ++ le4 n)))[0]? = some (pad (magicL ++ le4 g1 ++ le4 n)) := by rw [List.getElem?_set, if_pos rfl, if_pos (by omega)]
    have e1 : (now.set 0 (pad (magicL ++ le4 g1 ++ le4 n)))[1]? = some b1 := by rw [List.getElem?_set, if_neg (by omega)]; exact hb1
    have r0 : rootN (now.set 0 (pad (magicL ++ le4 g1 ++ le4 n))) (1, 0, false) 0 = (g1, n, true) := by
      unfold rootN
      rw [e0]
      dsimp only
      unfold rootG
      rw [root_gen hg, root_len hn, if_pos ⟨hm, by dsimp only; omega, h⟩]
    rw [r0]
    unfold rootN
    rw [e1]
    dsimp only
    unfold rootG
    rw [if_neg]
    rintro ⟨hh1, hh2, _⟩
    have := hr 1 b1 (by omega) hb1 hh1
    dsimp only at hh2
    omega
  · rw [h]
    have e0 : (now.set 1 (pad (magicL ++ le4 g1 ++ le4 n)))[0]? = some b0 := by rw [List.getElem?_set, if_neg (by omega)]; exact hb0
    have e1 : (now.set 1 (pad (magicL ++ le4 g1 ++ le4 n)))[1]? = some (pad (magicL ++ le4 g1 ++ le4 n)) := by rw [List.getElem?_set, if_pos rfl, if_pos (by omega)]
    have r0 : (rootN (now.set 1 (pad (magicL ++ le4 g1 ++ le4 n))) (1, 0, false) 0).1 ≤ gen := by
      unfold rootN
      rw [e0]
      dsimp only
      unfold rootG
      split
      · rename_i hh
        exact hr 0 b0 (by omega) hb0 hh.1
      · exact hgp
    generalize rootN (now.set 1 (pad (magicL ++ le4 g1 ++ le4 n))) (1, 0, false) 0 = r at *
    unfold rootN
    rw [e1]
    dsimp only
    unfold rootG
    rw [root_gen hg, root_len hn, if_pos ⟨hm, by omega, h⟩]
theorem Desk.check {d : D} {s : St} {whole : Bool} {snap : List Int} {lst : List (List Int)} (h : Desk d s whole snap lst) (hg : s.gen + 1 < 4294967296) (hl : s.life < 4294967296) (hh : 0 < halfP d) {p : List Int} (hp : p.length ≤ 524288) (hfit : p.length ≤ halfP d * 55) :
    (ckS d s p).1 = 0 ∧ Desk (ckS d s p).2.1 (ckS d s p).2.2 true p [] ∧ (ckS d s p).2.2.gen = s.gen + 1 ∧ (ckS d s p).2.2.life = s.life ∧ (ckS d s p).2.2.safe = 0 ∧ halfP (ckS d s p).2.1 = halfP d ∧ (ckS d s p).2.1.loose = [] ∧ (ckS d s p).2.1.now.length = d.now.length := by
  have hnow := h.now
  have hlen2 : 4 ≤ d.now.length := by unfold halfP at hh; omega
  unfold ckS
  rw [if_neg (by omega), if_neg (by omega), show (s.gen + 1) % 4294967296 = s.gen + 1 from Nat.mod_eq_of_lt hg]
  unfold ckD
  rw [show (s.gen + 1) % 4294967296 = s.gen + 1 from Nat.mod_eq_of_lt hg]
  have hpos : PosT d.calm (s.gen + 1) s.life p 0 p := by
    refine ⟨Nat.zero_le _, by omega, by simp, ⟨fun i hi => absurd hi (by omega), fun i hi => absurd hi (by omega)⟩, fun j h1 h2 h3 => ?_⟩
    obtain ⟨b, hb1, hb2⟩ := halfB_some (gen := s.gen + 1) h2
    rw [hb2] at h3
    have := (hnow.live _ b (by unfold placeP; omega) hb1).1
    omega
  unfold putS
  dsimp only
  rw [List.nil_append]
  obtain ⟨m, g1, g2, g3, g4, g5, g6, g7, g8, g9⟩ := put_plain hg hl (p.length / 55 + 1) d.calm p 0 hpos hh hfit (by omega)
  generalize putP (s.gen + 1) s.life (p.length / 55 + 1) d.calm p 0 = r at *
  have hrl : r.1.now.length = d.now.length := g3.len
  have hw : (r.1.calm.write ((s.gen + 1) % 2 : Nat) (magicL ++ le4 (s.gen + 1) ++ le4 p.length)).2 = ⟨r.1.now.set ((s.gen + 1) % 2) (pad (magicL ++ le4 (s.gen + 1) ++ le4 p.length)), [] ++ [((s.gen + 1) % 2, r.1.now.getD ((s.gen + 1) % 2) [], pad (magicL ++ le4 (s.gen + 1) ++ le4 p.length))]⟩ := by
    unfold D.write D.calm
    dsimp only
    rw [if_neg (by omega), if_neg (by simp [magicL, le4])]
    rfl
  rw [hw]
  have hgood : Good ⟨r.1.now.set ((s.gen + 1) % 2) (pad (magicL ++ le4 (s.gen + 1) ++ le4 p.length)), []⟩ (s.gen + 1) s.life true p [] := by
    have hgp := hnow.gp
    refine ⟨?_, fun n b hn hb hm => ?_, fun n b hn hb => ?_, ⟨[], ?_, stops_nil⟩, by simp, by omega⟩
    · refine root_set rfl hg (by omega) hgp (by omega) (fun n b hn hb hm => ?_)
      rw [g3.root n hn] at hb
      exact hnow.rle n b hn hb hm
    · simp only [List.getElem?_set] at hb
      split at hb
      · split at hb
        · simp only [Option.some.injEq] at hb
          subst hb
          rw [root_gen hg]
          exact Nat.le_refl _
        · cases hb
      · rw [g3.root n hn] at hb
        have := hnow.rle n b hn hb hm
        omega
    · simp only [List.getElem?_set] at hb
      rw [if_neg (by omega)] at hb
      rcases g3.blk n b hn hb with h1 | ⟨h1, h2⟩
      · obtain ⟨l1, l2, l3⟩ := hnow.live n b hn h1
        exact ⟨by omega, l2, l3⟩
      · exact ⟨by omega, fun h0 => by omega, by omega⟩
    · have e : readB ⟨r.1.now.set ((s.gen + 1) % 2) (pad (magicL ++ le4 (s.gen + 1) ++ le4 p.length)), []⟩ (s.gen + 1) = readB r.1 (s.gen + 1) := by
        unfold readB
        rw [halfP_set]
        congr 1
        funext j
        exact halfB_root _ _ _ _ _ _ (by omega)
      rw [e, g7]
      simp [encs]
  have hhalf : halfP (⟨r.1.now.set ((s.gen + 1) % 2) (pad (magicL ++ le4 (s.gen + 1) ++ le4 p.length)), []⟩ : D) = halfP d := by rw [halfP_set, g8]; rfl
  refine ⟨rfl, ⟨?_, g6, rfl, Nat.le_refl _, fun k hk => ⟨0, Nat.le_refl _, Nat.le_refl _, fun _ => rfl, fun _ => rfl, ?_⟩, ?_⟩, rfl, rfl, rfl, hhalf, rfl, ?_⟩
  · have e : halfB (D.calm ⟨r.1.now.set ((s.gen + 1) % 2) (pad (magicL ++ le4 (s.gen + 1) ++ le4 p.length)), [] ++ [((s.gen + 1) % 2, r.1.now.getD ((s.gen + 1) % 2) [], pad (magicL ++ le4 (s.gen + 1) ++ le4 p.length))]⟩) (s.gen + 1) = halfB r.1 (s.gen + 1) := by
      funext j
      exact halfB_root _ _ _ _ _ _ (by omega)
    have h0 : p ++ encs [] = p := by simp [encs]
    dsimp only
    rw [h0]
    refine ⟨?_, g5.len, g5.tl, by rw [e]; exact g5.ch, fun j h1 h2 => ?_⟩
    · show r.2.2 ≤ halfP (⟨r.1.now.set ((s.gen + 1) % 2) (pad (magicL ++ le4 (s.gen + 1) ++ le4 p.length)), []⟩ : D)
      rw [hhalf]
      have := g5.le
      rw [g8] at this
      exact this
    · rw [e]
      refine g5.free j h1 ?_
      rw [g8]
      have h3 : halfP (D.calm ⟨r.1.now.set ((s.gen + 1) % 2) (pad (magicL ++ le4 (s.gen + 1) ++ le4 p.length)), [] ++ [((s.gen + 1) % 2, r.1.now.getD ((s.gen + 1) % 2) [], pad (magicL ++ le4 (s.gen + 1) ++ le4 p.length))]⟩) = halfP d := hhalf
      rw [h3] at h2
      exact h2
  · rw [undo_all _ _ (by simp [D.calm])]
    exact hgood
  · have h0 : p ++ encs [] = p := by simp [encs]
    rw [h0]
    show p.length ≤ halfP (⟨r.1.now.set ((s.gen + 1) % 2) (pad (magicL ++ le4 (s.gen + 1) ++ le4 p.length)), []⟩ : D) * 55
    rw [hhalf]
    exact hfit
  · show (r.1.now.set ((s.gen + 1) % 2) (pad (magicL ++ le4 (s.gen + 1) ++ le4 p.length))).length = d.now.length
    rw [List.length_set]
    exact hrl
theorem good_new (n : Nat) : Good (D.new n) 1 0 false [] [] := by
  have hz : ∀ k b, (D.new n).now[k]? = some b → b = zeros 64 := fun k b hb => List.eq_of_mem_replicate (List.mem_of_getElem? hb)
  have hz8 : (zeros 64).take 8 ≠ magicL := by decide
  have hz4 : four4 (zeros 64) 0 = 0 ∧ four4 (zeros 64) 4 = 0 := by decide
  refine ⟨?_, fun k b _ hb hm => ?_, fun k b _ hb => ?_, ⟨[], ?_, stops_nil⟩, by simp, Nat.le_refl _⟩
  · have hs : ∀ k, rootN (D.new n).now (1, 0, false) k = (1, 0, false) := fun k => by
      unfold rootN
      split
      · rename_i b hb
        unfold rootG
        rw [hz k b hb, if_neg (fun hh => hz8 hh.1)]
      · rfl
    unfold rootP rootK rootK rootK
    rw [hs, hs]
    rfl
  · rw [hz k b hb] at hm
    exact absurd hm hz8
  · rw [hz k b hb, hz4.1, hz4.2]
    omega
  · have : readB (D.new n) 1 = [] := by
      unfold readB
      by_cases h0 : 0 < halfP (D.new n)
      · obtain ⟨b, hb1, hb2⟩ := halfB_some (gen := 1) h0
        refine go_stop (.inr (.inl ?_))
        rw [hb2, hz _ b hb1, hz4.1]
        omega
      · exact go_stop (.inl (by omega))
    rw [this]
    simp [encs]
end Go.Fur
