/- A store on a disk on which anything stands, plain: how far it goes. -/
import Derived.Test.YtmhejgelmmjihaaSto13
import Derived.Test.YtmhejgelmmjihaaSto14
namespace Go.Fur
open Go Go.RowKit
set_option linter.unusedVariables false
set_option linter.unusedSimpArgs false
theorem recsP_bnd (A : List Int) : ∀ (f e : Nat), e ≤ A.length → (recsP A f e).1.length ≤ f ∧ e ≤ (recsP A f e).2 ∧ (recsP A f e).2 ≤ A.length
  | 0, e, he => by simp [recsP, he]
  | f + 1, e, he => by
    rw [recsP]
    split
    · exact ⟨by simp, Nat.le_refl _, he⟩
    · split
      · exact ⟨by simp, Nat.le_refl _, he⟩
      · rename_i h1 h2
        obtain ⟨i1, i2, i3⟩ := recsP_bnd A f (e + 4 + four4 A e) (by omega)
        exact ⟨by simp only [List.length_cons]; omega, by simp only; omega, i3⟩
theorem goB_le (f : Nat → List Int) (gen : Nat) : ∀ (n i l : Nat), ∀ x ∈ goB f gen n i l, x.length ≤ 55
  | 0, i, l, x, hx => by simp [goB] at hx
  | n + 1, i, l, x, hx => by
    unfold goB at hx
    split at hx
    · cases hx
    · rename_i h
      rcases List.mem_cons.1 hx with rfl | hx
      · rw [List.length_take]
        omega
      · split at hx
        · cases hx
        · exact goB_le f gen n _ _ x hx
theorem flat55 : ∀ (l : List (List Int)), (∀ x ∈ l, x.length ≤ 55) → l.flatten.length ≤ 55 * l.length
  | [], _ => by simp
  | x :: l, h => by
    have h1 := flat55 l (fun y hy => h y (List.mem_cons_of_mem _ hy))
    have h2 := h x (by simp)
    simp only [List.flatten_cons, List.length_append, List.length_cons]
    omega
theorem allP_len (d : D) : (allP d).length ≤ halfP d * 55 := by
  have h1 := flat55 (readB d (rootP d.now).1) (goB_le _ _ _ _ _)
  have h2 := readB_len d (rootP d.now).1
  unfold allP
  omega
/-- What a store may be. -/
structure Any (d : D) (s : St) (C : Nat) : Prop where
  tl : s.tail.length < 55
  at_ : s.at_ * 55 + s.tail.length ≤ halfP d * 55
  cn : s.count ≤ C
  sf : s.safe ≤ C
theorem any_openA {gen life n : Nat} {wh : Bool} {A : List Int} (hn : n ≤ A.length) : (openA gen life wh n A).tail.length < 55 ∧ (openA gen life wh n A).at_ * 55 + (openA gen life wh n A).tail.length ≤ A.length ∧ (openA gen life wh n A).recs.length ≤ A.length + 1 := by
  obtain ⟨h1, h2, h3⟩ := recsP_bnd A (A.length + 1) n hn
  unfold openA
  simp only [List.length_drop, List.length_take]
  omega
theorem any_open (d : D) : Any d.calm ⟨(openP d).gen, (openP d).life, (openP d).tail, (openP d).at_, (openP d).recs.length, (openP d).recs.length⟩ (halfP d * 55 + 1) := by
  have hl := allP_len d
  have hh : halfP d.calm = halfP d := rfl
  unfold openP
  split
  · obtain ⟨h1, h2, h3⟩ := any_openA (gen := (rootP d.now).1) (life := lifeP d) (wh := false) (n := 0) (A := []) (Nat.le_refl _)
    simp only [List.length_nil] at h2 h3
    exact ⟨h1, by rw [hh]; simp only; omega, by simp only; omega, by simp only; omega⟩
  · rename_i h
    obtain ⟨h1, h2, h3⟩ := any_openA (gen := (rootP d.now).1) (life := lifeP d) (wh := (rootP d.now).2.2) (n := (rootP d.now).2.1) (A := allP d) (by omega)
    exact ⟨h1, by rw [hh]; simp only; omega, by simp only; omega, by simp only; omega⟩
theorem open_gen (d : D) : (openP d).gen = (rootP d.now).1 ∧ (openP d).life = lifeP d := by
  unfold openP
  split <;> exact ⟨rfl, rfl⟩
theorem open_tail {d : D} (h : d.byt) : Byt (openP d).tail := by
  have hA := allP_byt h.now
  unfold openP
  split
  · exact ((Byt.nil).take _).drop _
  · exact (hA.take _).drop _
theorem lifeP_lt (d : D) : lifeP d < 4294967296 := by unfold lifeP; omega
theorem putB_any (d : D) (gen life i : Nat) (u : List Int) : halfP (d.putB gen life i u) = halfP d ∧ (d.putB gen life i u).now.length = d.now.length ∧ (d.putB gen life i u).loose.length ≤ d.loose.length + 1 := by
  have h := write_length d (placeP d gen i) (blkL gen life u)
  refine ⟨?_, h, write_loose _ _ _⟩
  unfold halfP D.putB
  rw [h]
theorem putP_any {gen life : Nat} : ∀ (f : Nat) (d : D) (T : List Int) (i : Nat), T.length < 55 * f →
    (putP gen life f d T i).2.1.length < 55 ∧ (putP gen life f d T i).2.2 * 55 + (putP gen life f d T i).2.1.length = i * 55 + T.length ∧ halfP (putP gen life f d T i).1 = halfP d ∧ (putP gen life f d T i).1.now.length = d.now.length ∧ (putP gen life f d T i).1.loose.length ≤ d.loose.length + f
  | 0, d, T, i, h => by omega
  | f + 1, d, T, i, h => by
    rw [putP]
    split
    · obtain ⟨h1, h2, h3⟩ := putB_any d gen life i T
      exact ⟨by assumption, rfl, h1, h2, by simp only; omega⟩
    · split
      · obtain ⟨h1, h2, h3⟩ := putB_any d gen life i T
        exact ⟨by simp, by simp only [List.length_nil]; omega, h1, h2, by simp only; omega⟩
      · obtain ⟨h1, h2, h3⟩ := putB_any d gen life i (T.take 55)
        obtain ⟨i1, i2, i3, i4, i5⟩ := putP_any f (d.putB gen life i (T.take 55)) (T.drop 55) (i + 1) (by rw [List.length_drop]; omega)
        rw [List.length_drop] at i2
        exact ⟨i1, by omega, by omega, by omega, by omega⟩
theorem putS_any {d : D} {s : St} {l : List Int} {C : Nat} (hc : s.count ≤ C) (hs : s.safe ≤ C) (h : s.at_ * 55 + s.tail.length + l.length ≤ halfP d * 55) : Any (putS d s l).1 (putS d s l).2 C ∧ (putS d s l).1.now.length = d.now.length ∧ (putS d s l).1.loose.length ≤ d.loose.length + ((s.tail ++ l).length / 55 + 1) := by
  obtain ⟨i1, i2, i3, i4, i5⟩ := putP_any (gen := s.gen) (life := s.life) ((s.tail ++ l).length / 55 + 1) d (s.tail ++ l) s.at_ (by omega)
  have hl2 : (s.tail ++ l).length = s.tail.length + l.length := List.length_append
  unfold putS
  exact ⟨⟨i1, by simp only; omega, hc, hs⟩, i4, i5⟩
theorem appS_any {d : D} {s : St} {C : Nat} (h : Any d s C) (l : List Int) : Any (appS d s l).2.1 (appS d s l).2.2 (C + 1) ∧ (appS d s l).2.1.now.length = d.now.length ∧ (appS d s l).2.1.loose.length ≤ d.loose.length + 1300 := by
  have hcn := h.cn
  have hsf := h.sf
  unfold appS
  split
  · exact ⟨⟨h.tl, h.at_, Nat.le_succ_of_le hcn, Nat.le_succ_of_le hsf⟩, rfl, by simp only; omega⟩
  · split
    · exact ⟨⟨h.tl, h.at_, Nat.le_succ_of_le hcn, Nat.le_succ_of_le hsf⟩, rfl, by simp only; omega⟩
    · rename_i h1 h2
      have hf : l.length + 4 + s.tail.length + s.at_ * 55 ≤ halfP d * 55 := by
        have : fitsB d s (l.length + 4) = true := by simpa using h2
        exact of_decide_eq_true this
      have hl : (le4 l.length ++ l).length = l.length + 4 := by rw [List.length_append]; simp [le4]; omega
      obtain ⟨a1, a2, a3⟩ := putS_any (d := d) (s := s) (l := le4 l.length ++ l) (C := C) hcn hsf (by rw [hl]; omega)
      have ht := h.tl
      rw [List.length_append, hl] at a3
      refine ⟨⟨a1.tl, a1.at_, by simp only; omega, ?_⟩, a2, by simp only; omega⟩
      have := a1.sf
      simp only at this ⊢
      omega
theorem ckS_any {d : D} {s : St} {C : Nat} (h : Any d s C) (l : List Int) : Any (ckS d s l).2.1 (ckS d s l).2.2 C ∧ (ckS d s l).2.1.now.length = d.now.length ∧ (ckS d s l).2.1.loose.length ≤ d.loose.length + 1300 := by
  unfold ckS
  split
  · exact ⟨h, rfl, by simp only; omega⟩
  · split
    · exact ⟨h, rfl, by simp only; omega⟩
    · rename_i h1 h2
      obtain ⟨a1, a2, a3⟩ := putS_any (d := d.calm) (s := ⟨(s.gen + 1) % 4294967296, s.life, [], 0, 0, 0⟩) (l := l) (C := C) (Nat.zero_le _) (Nat.zero_le _) (by simp only [List.length_nil]; have : halfP d.calm = halfP d := rfl; omega)
      have hw := write_length (ckD d s l).1.calm ((s.gen + 1) % 4294967296 % 2 : Nat) (magicL ++ le4 ((s.gen + 1) % 4294967296) ++ le4 l.length)
      have hn : ((ckD d s l).1.calm.write ((s.gen + 1) % 4294967296 % 2 : Nat) (magicL ++ le4 ((s.gen + 1) % 4294967296) ++ le4 l.length)).2.calm.now.length = (ckD d s l).1.now.length := hw
      have hh : halfP ((ckD d s l).1.calm.write ((s.gen + 1) % 4294967296 % 2 : Nat) (magicL ++ le4 ((s.gen + 1) % 4294967296) ++ le4 l.length)).2.calm = halfP (ckD d s l).1 := by unfold halfP; rw [hn]
      refine ⟨⟨a1.tl, ?_, a1.cn, a1.sf⟩, hn.trans a2, by simp [D.calm]⟩
      have := a1.at_
      simp only
      rw [hh]
      exact this
end Go.Fur
