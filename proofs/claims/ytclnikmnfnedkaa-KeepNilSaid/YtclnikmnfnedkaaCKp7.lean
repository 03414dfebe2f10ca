/- A store on a disk on which anything stands, plain: how far it goes. -/
import Derived.Test.YtclnikmnfnedkaaCKp2
import Derived.Test.YtclnikmnfnedkaaCStoP5
import Derived.Test.YtclnikmnfnedkaaCSto8
import Derived.Test.YtclnikmnfnedkaaCKp5
namespace Go.Fur
open Go Go.RowKit
set_option linter.unusedVariables false
set_option linter.unusedSimpArgs false
theorem recsP_bnd (A : List Int) : ∀ (f e : Nat), e ≤ A.length → (recsP A f e).1.length ≤ f ∧ e ≤ (recsP A f e).2 ∧ (recsP A f e).2 ≤ A.length
  | 0, e, he => by simp [recsP, he]
  | f + 1, e, he => by
    rw [recsP]
    split
    · exact ⟨by simp, Nat.le_refl _, he⟩
    · split
      · exact ⟨by simp, Nat.le_refl _, he⟩
      · rename_i h1 h2
        obtain ⟨i1, i2, i3⟩ := recsP_bnd A f (e + 4 + four4 A e) (by omega)
        exact ⟨by simp only [List.length_cons]; omega, by simp only; omega, i3⟩
theorem goB_le (f : Nat → List Int) (gen : Nat) : ∀ (n i l : Nat), ∀ x ∈ goB f gen n i l, x.length ≤ 55
  | 0, i, l, x, hx => by simp [goB] at hx
  | n + 1, i, l, x, hx => by
    unfold goB at hx
    split at hx
    · cases hx
    · rename_i h
      rcases List.mem_cons.1 hx with rfl | hx
      · rw [List.length_take]
        omega
      · split at hx
        · cases hx
        · exact goB_le f gen n _ _ x hx
theorem flat55 : ∀ (l : List (List Int)), (∀ x ∈ l, x.length ≤ 55) → l.flatten.length ≤ 55 * l.length
  | [], _ => by simp
  | x :: l, h => by
    have h1 := flat55 l (fun y hy => h y (List.mem_cons_of_mem _ hy))
    have h2 := h x (by simp)
    simp only [List.flatten_cons, List.length_append, List.length_cons]
    omega
theorem allP_len (d : D) : (allP d).length ≤ halfP d * 55 := by
  have h1 := flat55 (readB d (rootP d.now).1) (goB_le _ _ _ _ _)
  have h2 := readB_len d (rootP d.now).1
  unfold allP
  omega
/-- What a store may be. -/
structure Any (d : D) (s : St) (C : Nat) : Prop where
  tl : s.tail.length < 55
  at_ : s.at_ * 55 + s.tail.length ≤ halfP d * 55
  cn : s.count ≤ C
  sf : s.safe ≤ C
theorem any_openA {gen life n : Nat} {wh : Bool} {A : List Int} (hn : n ≤ A.length) : (openA gen life wh n A).tail.length < 55 ∧ (openA gen life wh n A).at_ * 55 + (openA gen life wh n A).tail.length ≤ A.length ∧ (openA gen life wh n A).recs.length ≤ A.length + 1 := by
  obtain ⟨h1, h2, h3⟩ := recsP_bnd A (A.length + 1) n hn
  unfold openA
  simp only [List.length_drop, List.length_take]
  omega
theorem any_open (d : D) : Any d.calm ⟨(openP d).gen, (openP d).life, (openP d).tail, (openP d).at_, (openP d).recs.length, (openP d).recs.length⟩ (halfP d * 55 + 1) := by
  have hl := allP_len d
  have hh : halfP d.calm = halfP d := rfl
  unfold openP
  split
  · obtain ⟨h1, h2, h3⟩ := any_openA (gen := (rootP d.now).1) (life := lifeP d) (wh := false) (n := 0) (A := []) (Nat.le_refl _)
    simp only [List.length_nil] at h2 h3
    exact ⟨h1, by rw [hh]; simp only; omega, by simp only; omega, by simp only; omega⟩
  · rename_i h
    obtain ⟨h1, h2, h3⟩ := any_openA (gen := (rootP d.now).1) (life := lifeP d) (wh := (rootP d.now).2.2) (n := (rootP d.now).2.1) (A := allP d) (by omega)
    exact ⟨h1, by rw [hh]; simp only; omega, by simp only; omega, by simp only; omega⟩
theorem open_gen (d : D) : (openP d).gen = (rootP d.now).1 ∧ (openP d).life = lifeP d := by
  unfold openP
  split <;> exact ⟨rfl, rfl⟩
theorem open_tail {d : D} (h : d.byt) : Byt (openP d).tail := by
  have hA := allP_byt h.now
  unfold openP
  split
  · exact ((Byt.nil).take _).drop _
  · exact (hA.take _).drop _
theorem lifeP_lt (d : D) : lifeP d < 4294967296 := by unfold lifeP; omega
theorem putB_any (d : D) (gen life i : Nat) (u : List Int) : halfP (d.putB gen life i u) = halfP d ∧ (d.putB gen life i u).now.length = d.now.length ∧ (d.putB gen life i u).loose.length ≤ d.loose.length + 1 := by
  have h := write_length d (placeP d gen i) (blkL gen life u)
  refine ⟨?_, h, write_loose _ _ _⟩
  unfold halfP D.putB
  rw [h]
theorem putP_any {gen life : Nat} : ∀ (f : Nat) (d : D) (T : List Int) (i : Nat), T.length < 55 * f →
    (putP gen life f d T i).2.1.length < 55 ∧ (putP gen life f d T i).2.2 * 55 + (putP gen life f d T i).2.1.length = i * 55 + T.length ∧ halfP (putP gen life f d T i).1 = halfP d ∧ (putP gen life f d T i).1.now.length = d.now.length ∧ (putP gen life f d T i).1.loose.length ≤ d.loose.length + f
  | 0, d, T, i, h => by omega
  | f + 1, d, T, i, h => by
    rw [putP]
    split
    · obtain ⟨h1, h2, h3⟩ := putB_any d gen life i T
      exact ⟨by assumption, rfl, h1, h2, by simp only; omega⟩
    · split
      · obtain ⟨h1, h2, h3⟩ := putB_any d gen life i T
        exact ⟨by simp, by simp only [List.length_nil]; omega, h1, h2, by simp only; omega⟩
      · obtain ⟨h1, h2, h3⟩ := putB_any d gen life i (T.take 55)
        obtain ⟨i1, i2, i3, i4, i5⟩ := putP_any f (d.putB gen life i (T.take 55)) (T.drop 55) (i + 1) (by rw [List.length_drop]; omega)
        rw [List.length_drop] at i2
        exact ⟨i1, by omega, by omega, by omega, by omega⟩
theorem putS_any {d : D} {s : St} {l : List Int} {C : Nat} (hc : s.count ≤ C) (hs : s.safe ≤ C) (h : s.at_ * 55 + s.tail.length + l.length ≤ halfP d * 55) : Any (putS d s l).1 (putS d s l).2 C ∧ (putS d s l).1.now.length = d.now.length ∧ (putS d s l).1.loose.length ≤ d.loose.length + ((s.tail ++ l).length / 55 + 1) := by
  obtain ⟨i1, i2, i3, i4, i5⟩ := putP_any (gen := s.gen) (life := s.life) ((s.tail ++ l).length / 55 + 1) d (s.tail ++ l) s.at_ (by omega)
  have hl2 : (s.tail ++ l).length = s.tail.length + l.length := List.length_append
  unfold putS
  exact ⟨⟨i1, by simp only; omega, hc, hs⟩, i4, i5⟩
theorem appS_any {d : D} {s : St} {C : Nat} (h : Any d s C) (l : List Int) : Any (appS d s l).2.1 (appS d s l).2.2 (C + 1) ∧ (appS d s l).2.1.now.length = d.now.length ∧ (appS d s l).2.1.loose.length ≤ d.loose.length + 1300 := by
  have hcn := h.cn
  have hsf := h.sf
  unfold appS
  split
  · exact ⟨⟨h.tl, h.at_, Nat.le_succ_of_le hcn, Nat.le_succ_of_le hsf⟩, rfl, by simp only; omega⟩
  · split
    · exact ⟨⟨h.tl, h.at_, Nat.le_succ_of_le hcn, Nat.le_succ_of_le hsf⟩, rfl, by simp only; omega⟩
    · rename_i h1 h2
      have hf : l.length + 4 + s.tail.length + s.at_ * 55 ≤ halfP d * 55 := by
        have : fitsB d s (l.length + 4) = true := by simpa using h2
        exact of_decide_eq_true this
      have hl : (le4 l.length ++ l).length = l.length + 4 := by rw [List.length_append]; simp [le4]; omega
      obtain ⟨a1, a2, a3⟩ := putS_any (d := d) (s := s) (l := le4 l.length ++ l) (C := C) hcn hsf (by rw [hl]; omega)
      have ht := h.tl
      rw [List.length_append, hl] at a3
      refine ⟨⟨a1.tl, a1.at_, by simp only; omega, ?_⟩, a2, by simp only; omega⟩
      have := a1.sf
      simp only at this ⊢
      omega
theorem ckS_any {d : D} {s : St} {C : Nat} (h : Any d s C) (l : List Int) : Any (ckS d s l).2.1 (ckS d s l).2.2 C ∧ (ckS d s l).2.1.now.length = d.now.length ∧ (ckS d s l).2.1.loose.length ≤ d.loose.length + 1300 := by
  unfold ckS
  split
  · exact ⟨h, rfl, by simp only; omega⟩
  · split
    · exact ⟨h, rfl, by simp only; omega⟩
    · rename_i h1 h2
      obtain ⟨a1, a2, a3⟩ := putS_any (d := d.calm) (s := ⟨(s.gen + 1) % 4294967296, s.life, [], 0, 0, 0⟩) (l := l) (C := C) (Nat.zero_le _) (Nat.zero_le _) (by simp only [List.length_nil]; have : halfP d.calm = halfP d := rfl; omega)
      have hw := write_length (ckD d s l).1.calm ((s.gen + 1) % 4294967296 % 2 : Nat) (magicL ++ le4 ((s.gen + 1) % 4294967296) ++ le4 l.length)
      have hn : ((ckD d s l).1.calm.write ((s.gen + 1) % 4294967296 % 2 : Nat) (magicL ++ le4 ((s.gen + 1) % 4294967296) ++ le4 l.length)).2.calm.now.length = (ckD d s l).1.now.length := hw
      have hh : halfP ((ckD d s l).1.calm.write ((s.gen + 1) % 4294967296 % 2 : Nat) (magicL ++ le4 ((s.gen + 1) % 4294967296) ++ le4 l.length)).2.calm = halfP (ckD d s l).1 := by unfold halfP; rw [hn]
      refine ⟨⟨a1.tl, ?_, a1.cn, a1.sf⟩, hn.trans a2, by simp [D.calm]⟩
      have := a1.at_
      simp only
      rw [hh]
      exact this
end Go.Fur
namespace Go.Fur
open Go Go.RowKit Go.Proofs
set_option linter.unusedVariables false
set_option linter.unusedSimpArgs false
def kX (K p bb q : Nat) (lv tl : Value) (b : Nat) : Prop := b = K ∨ stoX p bb q lv tl b
/-- A keep at K on the disk p; all that it uses lies in F. -/
structure KpAt (w : World) (F : Nat → Prop) (base K p bb q : Nat) (lv tl vs ve : Value) (d : D) (s : St) (k : KP) : Prop where
  sto : StoAt w base p bb q lv tl d s
  rd : KpRd w (fun b => ¬ F b ∨ kX K p bb q lv tl b) K q vs ve k
  fX : ∀ b, kX K p bb q lv tl b → F b
  fl : ∀ b, F b → base ≤ b ∧ b < w.heap.size
theorem stoX_typed {w : World} {base p bb q : Nat} {lv tl : Value} {d : D} {s : St} (h : StoAt w base p bb q lv tl d s) {b : Nat} (hb : stoX p bb q lv tl b) : ∃ t cur, Blk w b t cur ∧ t ≠ 70 := by
  rcases hb with rfl | hb | hb
  · exact ⟨_, _, h.hq, by decide⟩
  · simp only [List.mem_cons] at hb
    rcases hb with rfl | rfl | hb
    · exact ⟨_, _, h.da.hp, by decide⟩
    · exact ⟨_, _, h.da.hb, by decide⟩
    · obtain ⟨cur, hc⟩ := h.da.hl.blkOf hb
      exact ⟨_, _, hc, by decide⟩
  · obtain ⟨cur, hc⟩ := h.ht.blkOf hb
    exact ⟨_, _, hc, by decide⟩
theorem StoAt.kn {w : World} {base p bb q K : Nat} {lv tl : Value} {d : D} {s : St} {cs : List Value} (h : StoAt w base p bb q lv tl d s) (hk : Blk w K 70 cs) : ¬ stoX p bb q lv tl K := fun hb => by
  obtain ⟨t, cur, hc, hn⟩ := stoX_typed h hb
  exact hc.ne hk hn rfl
/-- Writes elsewhere. -/
theorem KpAt.fr {S : List Nat} {w w' : World} {F : Nat → Prop} {base K p bb q : Nat} {lv tl vs ve : Value} {d : D} {s : St} {k : KP} (h : KpAt w F base K p bb q lv tl vs ve d s k) (f : Fr S w w') (hS : ∀ b ∈ S, ¬ F b) : KpAt w' F base K p bb q lv tl vs ve d s k := by
  have hx : ∀ b, kX K p bb q lv tl b → b ∉ S := fun b hb hm => hS b hm (h.fX b hb)
  have hs := h.sto
  have hY : ∀ b ∈ S, (¬ F b ∨ kX K p bb q lv tl b) ∨ w.heap.size ≤ b := fun b hb => .inl (.inl (hS b hb))
  refine ⟨⟨hs.da.fr f (hx p (.inr (.inr (.inl (by simp))))) (hx bb (.inr (.inr (.inl (by simp))))) (fun b hb => hx b (.inr (.inr (.inl (by simp [hb]))))), hs.yd, hs.hq.fr f (hx q (.inr (.inl rfl))), hs.ht.fr f (fun b hb => hx b (.inr (.inr (.inr hb)))), hs.yt, hs.bq, hs.g32, hs.l32⟩,
    ⟨h.rd.hk.fr f (hx K (.inl rfl)), h.rd.sn.step f hY (fun b hb => .inl hb), h.rd.en.step f hY (fun b hb => .inl hb), h.rd.wf⟩, h.fX, fun b hb => ⟨(h.fl b hb).1, Nat.lt_of_lt_of_le (h.fl b hb).2 f.size⟩⟩
theorem KpAt.fr0 {w w' : World} {F : Nat → Prop} {base K p bb q : Nat} {lv tl vs ve : Value} {d : D} {s : St} {k : KP} (h : KpAt w F base K p bb q lv tl vs ve d s k) (f : Fr [] w w') : KpAt w' F base K p bb q lv tl vs ve d s k := h.fr f (by simp)
/-- The keep's own cells are turned. -/
theorem KpAt.cells {w w' : World} {F : Nat → Prop} {base K p bb q : Nat} {lv tl vs ve vs' ve' : Value} {d : D} {s : St} {k k' : KP} (h : KpAt w F base K p bb q lv tl vs ve d s k) (f : Fr [K] w w') (hk : Blk w' K 70 (kpC q k' vs' ve'))
    (hs : Bs w (fun b => ¬ F b ∨ kX K p bb q lv tl b) vs' k'.snap) (he : Ents w (fun b => ¬ F b ∨ kX K p bb q lv tl b) ve' k'.es) (hw : k'.wf) : KpAt w' F base K p bb q lv tl vs' ve' d s k' := by
  have hx : ∀ b, stoX p bb q lv tl b → b ∉ [K] := fun b hb hm => h.sto.kn h.rd.hk ((List.mem_singleton.1 hm) ▸ hb)
  have s1 := h.sto
  have hY : ∀ b ∈ [K], (¬ F b ∨ kX K p bb q lv tl b) ∨ w.heap.size ≤ b := fun b hb => .inl (.inr (.inl (List.mem_singleton.1 hb)))
  exact ⟨⟨s1.da.fr f (hx p (.inr (.inl (by simp)))) (hx bb (.inr (.inl (by simp)))) (fun b hb => hx b (.inr (.inl (by simp [hb])))), s1.yd, s1.hq.fr f (hx q (.inl rfl)), s1.ht.fr f (fun b hb => hx b (.inr (.inr hb))), s1.yt, s1.bq, s1.g32, s1.l32⟩,
    ⟨hk, hs.step f hY (fun b hb => .inl hb), he.step f hY (fun b hb => .inl hb), hw⟩, h.fX, fun b hb => ⟨(h.fl b hb).1, Nat.lt_of_lt_of_le (h.fl b hb).2 f.size⟩⟩
/-- All that is new is taken in. -/
def grow (F : Nat → Prop) (w w' : World) (b : Nat) : Prop := F b ∨ (w.heap.size ≤ b ∧ b < w'.heap.size)
/-- The store is turned. -/
theorem KpAt.turn {w w' : World} {F : Nat → Prop} {base K p bb q : Nat} {lv tl lv' tl' vs ve : Value} {d d' : D} {s s' : St} {k : KP} (h : KpAt w F base K p bb q lv tl vs ve d s k) (hbase : base ≤ w.heap.size) (hs : StoAt w' base p bb q lv' tl' d' s') (st : Stp (stoX p bb q lv tl) w w') (hX : ∀ b, stoX p bb q lv' tl' b → stoX p bb q lv tl b ∨ w.heap.size ≤ b) :
    KpAt w' (grow F w w') base K p bb q lv' tl' vs ve d' s' k := by
  have hsz := st.size
  have hkn := h.sto.kn h.rd.hk
  have hK' := h.rd.hk.stp st hkn
  obtain ⟨T, f, hT⟩ := st
  have hY : ∀ b ∈ T, (¬ F b ∨ kX K p bb q lv tl b) ∨ w.heap.size ≤ b := fun b hb => (hT b hb).imp (fun hx => .inr (.inr hx)) id
  have hY' : ∀ b, (¬ grow F w w' b ∨ kX K p bb q lv' tl' b) → (¬ F b ∨ kX K p bb q lv tl b) ∨ w.heap.size ≤ b := fun b hb => by
    rcases hb with hb | hb | hb
    · exact .inl (.inl (fun hF => hb (.inl hF)))
    · exact .inl (.inr (.inl hb))
    · exact (hX b hb).imp (fun hx => .inr (.inr hx)) id
  refine ⟨hs, ⟨hK', h.rd.sn.step f hY hY', h.rd.en.step f hY hY', h.rd.wf⟩, fun b hb => ?_, fun b hb => ?_⟩
  · rcases hb with rfl | hb
    · exact .inl (h.fX _ (.inl rfl))
    · rcases hX b hb with h1 | h1
      · exact .inl (h.fX b (.inr h1))
      · exact .inr ⟨h1, (stoX_ge hs hb).2⟩
  · rcases hb with hb | hb
    · have := h.fl b hb
      exact ⟨this.1, by omega⟩
    · exact ⟨by omega, hb.2⟩
/-- append: the errno, the disk and the store behind it. -/
def appK (d : D) (s : St) (k : KP) (l : List Int) : Int × D × St :=
  if (appS d s l).1 ≠ 10 then appS d s l
  else if (ckS d s k.pack).1 ≠ 0 then (10, d, s)
  else appS (ckS d s k.pack).2.1 (ckS d s k.pack).2.2 l
theorem appS_full {d : D} {s : St} {l : List Int} (h : (appS d s l).1 = 10) : appS d s l = (10, d, s) := by
  unfold appS at h ⊢
  split at h
  · simp at h
  · rename_i h1
    rw [if_neg h1]
    split at h
    · rename_i h2
      rw [if_pos h2]
    · simp at h
theorem ckS_no {d : D} {s : St} {l : List Int} (h : (ckS d s l).1 ≠ 0) : (ckS d s l).2 = (d, s) := by
  unfold ckS at h ⊢
  split
  · rfl
  · rename_i h1
    rw [if_neg h1] at h
    split
    · rfl
    · rename_i h2
      rw [if_neg h2] at h
      simp at h
def budC (N : Nat) : Nat := N + 2000000
theorem budC_eq (N : Nat) : budC N = N + 2000000 := rfl
theorem Any.le {d : D} {s : St} {C C' : Nat} (h : Any d s C) (hc : C ≤ C') : Any d s C' := ⟨h.tl, h.at_, Nat.le_trans h.cn hc, Nat.le_trans h.sf hc⟩
/-- What bears another call. -/
structure Bud (d : D) (s : St) (N : Nat) : Prop where
  any : Any d s (budC N)
  lo : d.loose.length ≤ N * 3000
theorem Bud.app {d : D} {s : St} {N : Nat} (h : Bud d s N) (l : List Int) : Bud (appS d s l).2.1 (appS d s l).2.2 (N + 1) := by
  have ha := appS_any h.any l
  generalize appS d s l = r at ha ⊢
  obtain ⟨a1, a2, a3⟩ := ha
  have := h.lo
  exact ⟨a1.le (by rw [budC_eq, budC_eq]; omega), by omega⟩
theorem Bud.of {d d' : D} {s s' : St} {N : Nat} (h : Bud d s N) (a1 : Any d' s' (budC N)) (a3 : d'.loose.length ≤ d.loose.length + 1300) : Bud d' s' (N + 1) :=
  ⟨a1.le (by rw [budC_eq, budC_eq]; omega), by have := h.lo; omega⟩
theorem Bud.ck {d : D} {s : St} {N : Nat} (h : Bud d s N) (l : List Int) : Bud (ckS d s l).2.1 (ckS d s l).2.2 (N + 1) :=
  h.of (ckS_any h.any l).1 (ckS_any h.any l).2.2
theorem Bud.more {d : D} {s : St} {N M : Nat} (h : Bud d s N) (hm : N ≤ M) : Bud d s M := by
  have h1 : budC N ≤ budC M := by unfold budC; omega
  exact ⟨h.any.le h1, Nat.le_trans h.lo (Nat.mul_le_mul_right _ hm)⟩
theorem Bud.appK {d : D} {s : St} {N : Nat} (h : Bud d s N) (k : KP) (l : List Int) : Bud (appK d s k l).2.1 (appK d s k l).2.2 (N + 2) := by
  unfold Fur.appK
  split
  · exact (h.app l).more (by omega)
  · split
    · exact h.more (by omega)
    · exact (h.ck k.pack).app l
set_option maxRecDepth 100000 in
set_option maxHeartbeats 4000000 in
theorem kapp_calls {w : World} {F : Nat → Prop} {base K p bb q : Nat} {lv tl vs ve : Value} {d : D} {s : St} {k : KP} (h : KpAt w F base K p bb q lv tl vs ve d s k) (hbase : base ≤ w.heap.size) {N : Nat} (hB : Bud d s N) (hN : N ≤ 100000) (hp : k.pack.length ≤ 1000000000) (hpb : Byt k.pack)
    (a : Option Addr) (m c : Nat) (l : List Int) (hm : l.length = m) (hr : RdA w (stoX p bb q lv tl) a (bv l)) (hl : Byt l) (hmc : m ≤ maxLen) :
    Calls Try.prog 28 #[.pointer (some ⟨K, 0, none⟩), .slice a m c] w fun e w' => ∃ lv' tl', e = .returned (.int .i64 (appK d s k l).1) ∧ StoAt w' base p bb q lv' tl' (appK d s k l).2.1 (appK d s k l).2.2 ∧ Stp (stoX p bb q lv tl) w w' ∧ ∀ b, stoX p bb q lv' tl' b → stoX p bb q lv tl b ∨ w.heap.size ≤ b := by
  have hat := h.sto.da.wf.max
  have hh := halfP_le h.sto.da.wf
  have hA := hB.any
  have hA2 := hA.at_
  have hA3 := hA.tl
  have hA4 := hA.cn
  rw [budC_eq] at hA4
  have hlo := hB.lo
  have HC := Lib.hid (append_calls h.sto hbase a m c l hm hr.rd hl hmc hA3 (by omega) (by omega) (by omega))
  have c0 : w.cell? ⟨K, 0, none⟩ = some (.pointer (some ⟨q, 0, none⟩)) := h.rd.hk.cellAt rfl
  obtain ⟨r, hr1⟩ : ∃ r, appK d s k l = r := ⟨_, rfl⟩
  rw [hr1]
  unfold appK at hr1
  have HR1 := Lib.hid hr1
  have HH := Lib.hid h
  have HRD := Lib.hid hr
  have HL := Lib.hid hl
  have HBU := Lib.hid hB
  clear hr1 h hr hl hB hA hA2 hA3 hA4 hlo
  obtain ⟨er, he⟩ : ∃ er, (appS d s l).1 = er := ⟨_, rfl⟩
  by_cases h10 : er = 10
  · subst h10
    have hfull := appS_full he
    rw [hfull] at HC
    have hr1 := HR1.out
    rw [if_neg (by rw [hfull]; simp)] at hr1
    have HR2 := Lib.hid hr1
    clear hr1 HR1 he hfull
    go_enter Try.func28, Try.ntmps28
    go_wp2_with fail
    refine HC.out.mono ?_
    rintro e w1 ⟨lv1, tl1, rfl, S1, st1, X1⟩
    have K1 := HH.out.turn hbase S1 st1 X1
    have HK1 := Lib.hid K1
    have HS1 := Lib.hid st1
    have HX1 := Lib.hid X1
    have hz1 := st1.size
    have c1 : ∀ W, Fr [] w1 W → W.cell? ⟨K, 0, none⟩ = some (.pointer (some ⟨q, 0, none⟩)) := fun W f => (HK1.out.rd.hk.fr f (by simp)).cellAt rfl
    clear S1 st1 X1 K1 c0
    dsimp only
    go_wp2_with fail
    refine wp_region_ord (Fr [] w1) [0,1,2,3,4,5,6,7] [6] [5, 6] [3] mixed (by kernel_rfl) ?_
    have hS : Fr [] w1 w1.drew := (Fr.refl _ _).drew
    simp only [pairs, pickN]
    repeat (first | (refine wpO_free ?_ (by rfl) (by rfl) (fun w' => ?_) ?_; rotate_left; (go_simp; rfl); simp only [Act.put, List.setIfInBounds_toArray, List.set_cons_zero, List.set_cons_succ]) | (refine wpO_take ?_ hS (by rfl) (by rfl) (fun w' hw' => ?_) ?_; rotate_left; (go_simp; rfl); simp only [Act.put, List.setIfInBounds_toArray, List.set_cons_zero, List.set_cons_succ]) | (refine wpO_pass (by rfl) ?_; simp only [Act.put, List.setIfInBounds_toArray, List.set_cons_zero, List.set_cons_succ]))
    refine wpO_eff (by rfl) ?_
    refine wpList_callC rfl 41 #[.pointer (some ⟨K, 0, none⟩)] (by first | (go_simp; done) | (go_simp; rfl)) _ (pack_calls (HK1.out.rd.fr0 hS) hp) ?_
    rintro e w2 ⟨v2, rfl, O2, F2⟩
    obtain ⟨a2, c2, rfl, g1, g2, g3⟩ := O2.form
    have hS2 : Fr [] w1 w2 := hS.trans0 F2
    refine ⟨_, rfl, effQ_keep hS2 ?_⟩
    simp only [Act.put, List.setIfInBounds_toArray, List.set_cons_zero, List.set_cons_succ]
    have S2 := HK1.out.sto.fr0 hS2
    have hrd2 : RdA w2 (stoX p bb q lv1 tl1) a2 (bv k.pack) := (O2.rdS (fun b hb hx => by have := (O2.lt hb).1; have := (stoX_ge HK1.out.sto hx).2; have : w1.drew.heap.size = w1.heap.size := rfl; omega)).1
    refine wpO_eff (by rfl) ?_
    refine wpList_callC rfl 40 #[.pointer (some ⟨q, 0, none⟩), .slice a2 k.pack.length c2] (by first | (go_simp; done) | (go_simp; rfl)) _ (check_calls S2 (by have := hS2.size; omega) a2 k.pack.length c2 k.pack rfl hrd2 hpb (by simp only [maxLen]; omega)) ?_
    rintro e w3 ⟨lv3, tl3, rfl, S3, st3, X3⟩
    refine ⟨_, rfl, effQ_skip (by decide) ?_⟩
    simp only [Act.put, List.setIfInBounds_toArray, List.set_cons_zero, List.set_cons_succ]
    repeat (first | (refine wpO_free ?_ (by rfl) (by rfl) (fun w' => ?_) ?_; rotate_left; (go_simp; rfl); simp only [Act.put, List.setIfInBounds_toArray, List.set_cons_zero, List.set_cons_succ]) | (refine wpO_pass (by rfl) ?_; simp only [Act.put, List.setIfInBounds_toArray, List.set_cons_zero, List.set_cons_succ]))
    refine wpO_nil ?_
    have hX13 : ∀ b, stoX p bb q lv3 tl3 b → stoX p bb q lv tl b ∨ w.heap.size ≤ b := fun b hb => by
      rcases X3 b hb with h1 | h1
      · exact HX1.out b h1
      · exact .inr (by have := hS2.size; omega)
    have st12 : Stp (stoX p bb q lv tl) w w2 := HS1.out.trans (Stp.of (X := stoX p bb q lv tl) hS2 (by simp)) (fun b hb => .inl hb)
    have st13 : Stp (stoX p bb q lv tl) w w3 := st12.trans st3 (fun b hb => HX1.out b hb)
    obtain ⟨ck, hck⟩ : ∃ ck, ckS d s k.pack = ck := ⟨_, rfl⟩
    have hBc := HBU.out.ck k.pack
    have hr1 := HR2.out
    rw [hck] at S3 hr1 hBc ⊢
    have HKX := Lib.hid (And.intro hX13 st13)
    have hz13 := st13.size
    by_cases hz : ck.1 = 0
    · rw [if_neg (by rw [hz]; simp)] at hr1
      have hat3 := S3.da.wf.max
      have hh3 := halfP_le S3.da.wf
      have hA := hBc.any
      have hA2 := hA.at_
      have hA3 := hA.tl
      have hA4 := hA.cn
      rw [budC_eq] at hA4
      have hlo := hBc.lo
      have hrd3 : RdA w3 (stoX p bb q lv tl) a (bv l) := by
        obtain ⟨T, f, hT⟩ := st13
        exact HRD.out.step f hT (fun b hb => .inl hb)
      have HC3 := Lib.hid (append_calls S3 (by omega) a m c l hm hrd3.rd HL.out hmc hA3 (by omega) (by omega) (by omega))
      rw [hr1] at HC3
      have HK3 := Lib.hid (((HK1.out.rd.hk.fr hS2 (by simp)).stp st3 (HK1.out.sto.kn HK1.out.rd.hk)))
      have c3 : w3.cell? ⟨K, 0, none⟩ = some (.pointer (some ⟨q, 0, none⟩)) := HK3.out.cellAt rfl
      rw [hz]
      clear hS hS2 O2 F2 g1 g2 g3 S2 hrd2 S3 st3 X3 hX13 st12 st13 hck hBc hr1 hA hA2 hA3 hA4 hlo hrd3 c1 HK3
      go_wp2_with fail
      refine HC3.out.mono ?_
      rintro e w4 ⟨lv4, tl4, rfl, S4, st4, X4⟩
      have HE := Lib.hid (show StoAt w4 base p bb q lv4 tl4 r.2.1 r.2.2 ∧ Stp (stoX p bb q lv tl) w w4 ∧ ∀ b, stoX p bb q lv4 tl4 b → stoX p bb q lv tl b ∨ w.heap.size ≤ b from
        ⟨S4, HKX.out.2.trans st4 (fun b hb => HKX.out.1 b hb), fun b hb => by
          rcases X4 b hb with h1 | h1
          · exact HKX.out.1 b h1
          · exact .inr (by omega)⟩)
      clear S4 st4 X4
      dsimp only
      go_wp2_with fail
      go_ret
      exact ⟨lv4, tl4, rfl, HE.out⟩
    · rw [if_pos hz] at hr1
      have hno := ckS_no (by rw [hck]; exact hz)
      rw [hck] at hno
      rw [hno] at S3
      have hne : (ck.1 != 0) = true := by simpa using hz
      have HE := Lib.hid (show StoAt w3 base p bb q lv3 tl3 d s from S3)
      subst hr1
      clear hS hS2 O2 F2 g1 g2 g3 S2 hrd2 S3 st3 X3 hX13 st12 st13 hck hBc c1 hno
      go_wp2_with fail
      go_ret
      exact ⟨rfl, lv3, tl3, HE.out, HKX.out.2, HKX.out.1⟩
  · have hr1 := HR1.out
    rw [if_pos (by rw [he]; exact h10)] at hr1
    rw [hr1] at HC
    rw [hr1] at he
    have hne : (er != 10) = true := by simpa using h10
    clear HR1 hr1
    rw [he] at HC ⊢
    go_enter Try.func28, Try.ntmps28
    go_wp2_with fail
    refine HC.out.mono ?_
    rintro e w1 ⟨lv1, tl1, rfl, S1, st1, X1⟩
    have HS1 := Lib.hid (And.intro S1 (And.intro st1 X1))
    clear S1 st1 X1 c0
    dsimp only
    go_wp2_with fail
    go_ret
    exact ⟨lv1, tl1, rfl, HS1.out⟩
/-- The records. -/
def recV (t v : Int) : List Int := [1, t, v].flatMap layI
def recP (i t : Int) (l : List Int) : List Int := [2, i, t].flatMap layI ++ layB l
theorem byt_layN (x : Nat) : Byt (layN x) := by
  unfold layN
  split
  · rename_i h
    intro y hy
    rw [List.mem_singleton.1 hy]
    have := kl_hi x (by omega)
    rw [h, sh_vals.1] at this
    omega
  · intro y hy
    rcases List.mem_cons.1 hy with rfl | hy
    · have := kl_le x
      omega
    · unfold dg at hy
      obtain ⟨i, _, rfl⟩ := List.mem_map.1 hy
      have : (x - sh (kl x - 1)) / 256 ^ (kl x - 1 - i) % 256 < 256 := Nat.mod_lt _ (by decide)
      omega
theorem byt_layI (x : Int) : Byt (layI x) := byt_layN _
theorem byt_flatI : ∀ l : List Int, Byt (l.flatMap layI)
  | [] => Byt.nil
  | x :: l => by rw [List.flatMap_cons]; exact (byt_layI x).append (byt_flatI l)
theorem byt_layB {l : List Int} (h : Byt l) : Byt (layB l) := (byt_layN _).append h
theorem byt_flatE : ∀ {l : List (Int × List Int)}, (∀ e ∈ l, Byt e.2) → Byt (l.flatMap eB)
  | [], _ => Byt.nil
  | x :: l, h => by
    rw [List.flatMap_cons]
    exact ((byt_layI _).append (byt_layB (h x (by simp)))).append (byt_flatE (fun e he => h e (by simp [he])))
theorem KP.wf.byt {k : KP} (h : k.wf) : Byt k.pack := by
  unfold KP.pack
  exact ((((((byt_layI _).append (byt_layI _)).append (byt_layI _)).append (byt_layI _)).append (byt_layB h.snap)).append (byt_layI _)).append (byt_flatE (fun e he => (h.es e he).2.1))
theorem recV_length (t v : Int) : (recV t v).length ≤ 27 := flatI_length _
theorem recP_length (i t : Int) (l : List Int) : (recP i t l).length ≤ 36 + l.length := by
  unfold recP
  rw [List.length_append]
  have := flatI_length [2, i, t]
  have := layB_length l
  simp only [List.length_cons, List.length_nil] at *
  omega
def voteK (d : D) (s : St) (k : KP) (t v : Int) : Int × D × St × KP :=
  if t < 0 ∨ t < k.term ∨ v < -1 then (1, d, s, k)
  else if (appK d s k (recV t v)).1 ≠ 0 then ((appK d s k (recV t v)).1, (appK d s k (recV t v)).2.1, (appK d s k (recV t v)).2.2, k)
  else (0, (appK d s k (recV t v)).2.1, (appK d s k (recV t v)).2.2, { k with term := t, vote := v })
/-- A keep that was turned. -/
def KpTo (w : World) (F : Nat → Prop) (base K p bb q : Nat) (lv tl : Value) (d : D) (s : St) (k : KP) (w' : World) : Prop :=
  ∃ F' lv' tl' vs' ve', KpAt w' F' base K p bb q lv' tl' vs' ve' d s k ∧ Stp F w w' ∧ ∀ b, F' b → F b ∨ w.heap.size ≤ b
set_option maxRecDepth 100000 in
set_option maxHeartbeats 4000000 in
theorem kvote_calls {w : World} {F : Nat → Prop} {base K p bb q : Nat} {lv tl vs ve : Value} {d : D} {s : St} {k : KP} (h : KpAt w F base K p bb q lv tl vs ve d s k) (hbase : base ≤ w.heap.size) {N : Nat} (hB : Bud d s N) (hN : N ≤ 100000) (hp : k.pack.length ≤ 1000000000) (t v : Int) (ht : I64 t) (hv : I64 v) :
    Calls Try.prog 9 #[.pointer (some ⟨K, 0, none⟩), .int .i64 t, .int .i64 v] w fun e w' => e = .returned (.int .i64 (voteK d s k t v).1) ∧ KpTo w F base K p bb q lv tl (voteK d s k t v).2.1 (voteK d s k t v).2.2.1 (voteK d s k t v).2.2.2 w' := by
  have c1 : w.cell? ⟨K, 1, none⟩ = some (.int .i64 k.term) := h.rd.hk.cellAt rfl
  have HH := Lib.hid h
  have HB := Lib.hid hB
  have hI : ∀ x ∈ [(1 : Int), t, v], I64 x := fun x hx => by
    simp only [List.mem_cons, List.not_mem_nil, or_false] at hx
    rcases hx with rfl | rfl | rfl
    · exact ⟨by omega, by omega⟩
    · exact ht
    · exact hv
  unfold I64 at ht hv
  clear h hB
  by_cases hbad : t < 0 ∨ t < k.term ∨ v < -1
  · have e : voteK d s k t v = (1, d, s, k) := by unfold voteK; rw [if_pos hbad]
    rw [e]
    have HE := Lib.hid (show KpTo w F base K p bb q lv tl d s k w from ⟨F, lv, tl, vs, ve, HH.out, Stp.refl _ _, fun b hb => .inl hb⟩)
    clear e HB hI
    by_cases h1 : t < 0
    · go_enter Try.func9, Try.ntmps9
      go_wp2_with fail
      go_ret
      exact ⟨rfl, HE.out⟩
    · by_cases h2 : t < k.term
      · go_enter Try.func9, Try.ntmps9
        go_wp2_with fail
        go_ret
        exact ⟨rfl, HE.out⟩
      · have h3 : v < -1 := by omega
        go_enter Try.func9, Try.ntmps9
        go_wp2_with fail
        go_ret
        exact ⟨rfl, HE.out⟩
  · obtain ⟨r, hr⟩ : ∃ r, appK d s k (recV t v) = r := ⟨_, rfl⟩
    have e : voteK d s k t v = if r.1 ≠ 0 then (r.1, r.2.1, r.2.2, k) else (0, r.2.1, r.2.2, { k with term := t, vote := v }) := by unfold voteK; rw [if_neg hbad, hr]
    obtain ⟨vr, hvr⟩ : ∃ vr, voteK d s k t v = vr := ⟨_, rfl⟩
    rw [hvr] at e ⊢
    have HE := Lib.hid e
    have HR := Lib.hid hr
    have h1 : ¬ t < 0 := by omega
    have h2 : ¬ t < k.term := by omega
    have h3 : ¬ v < -1 := by omega
    obtain ⟨L, hL⟩ : ∃ L, recV t v = L := ⟨_, rfl⟩
    have HLL := Lib.hid hL
    have hLl := recV_length t v
    rw [hL] at hLl
    clear e hr hvr hbad hL
    go_enter Try.func9, Try.ntmps9
    go_wp2_with (refine wpList_buildN rfl 23 3 3 [(0, .const (.int .i64 1)), (1, .tmp 27), (2, .tmp 28)] rfl [(0, .int .i64 1), (1, .int .i64 t), (2, .int .i64 v)] (by rfl) (ivs [1, t, v]) (ints_build3 _ _ _) ?_; intro w2 B2 F2 S2; have HB2 := Lib.hid B2; have HF2 := Lib.hid F2; clear B2 F2 S2)
    refine (ints_calls w2 none 0 0 [] rfl (Rd.nil _ _) w.heap.size 3 3 [1, t, v] HB2.out rfl (by omega) hI (by omega) (by omega)).mono ?_
    rintro e w3 ⟨v3, rfl, O3, F3⟩
    rw [List.nil_append, show [1, t, v].flatMap layI = L from HLL.out] at O3
    obtain ⟨a3, c3, rfl, g1, g2, g3⟩ := O3.form
    have HF3 := Lib.hid (HF2.out.trans0 F3)
    have hK3 := Lib.hid (HH.out.fr0 HF3.out)
    have hz2 := HF2.out.size
    have hrd : RdA w3 (stoX p bb q lv tl) a3 (bv L) := (O3.rdS (fun b hb hx => by have := (O3.lt hb).1; have := (stoX_ge HH.out.sto hx).2; omega)).1
    have HRD := Lib.hid hrd
    have hbL : Byt L := HLL.out ▸ byt_flatI _
    clear O3 F3 g1 g2 g3 hrd
    dsimp only
    go_wp2_with fail
    refine (kapp_calls hK3.out (by have := HF3.out.size; omega) HB.out hN hp HH.out.rd.wf.byt a3 L.length c3 L rfl HRD.out hbL (by simp only [maxLen]; omega)).mono ?_
    rintro e w4 ⟨lv4, tl4, rfl, S4, st4, X4⟩
    have hR := HR.out
    rw [HLL.out] at hR
    rw [hR] at S4 ⊢
    have K4 := hK3.out.turn (by have := HF3.out.size; omega) S4 st4 X4
    have HK4 := Lib.hid K4
    have hst : Stp F w w4 := (Stp.of HF3.out (by simp)).trans (st4.more (fun b hb => HH.out.fX b (.inr hb))) (fun b hb => .inl hb)
    have hgr : ∀ b, grow F w3 w4 b → F b ∨ w.heap.size ≤ b := fun b hb => hb.imp id (fun h => by have := HF3.out.size; omega)
    have HST := Lib.hid (And.intro hst hgr)
    clear S4 st4 X4 K4 hst hgr hR c1
    dsimp only
    by_cases hz : r.1 = 0
    · have hE := HE.out
      rw [if_neg (by rw [hz]; simp)] at hE
      subst hE
      rw [hz]
      go_wp2_with (first
        | (have z := HK5.out; clear z; refine wpList_store1 rfl 3 _ _ rfl K 2 (.int .i64 v) (by rfl) (by rfl) rfl 70 _ HK5.out (by simp [kpC]) (by kernel_rfl) rfl ?_; intro w6 B6 F6 S6; have HK6 := Lib.hid (show Blk w6 K 70 (kpC q { k with term := t, vote := v } vs ve) from B6); have HF6 := Lib.hid (HF5.out.trans1 F6); clear B6 F6 S6)
        | (refine wpList_store1 rfl 3 _ _ rfl K 1 (.int .i64 t) (by rfl) (by rfl) rfl 70 _ HK4.out.rd.hk (by simp [kpC]) (by kernel_rfl) rfl ?_; intro w5 B5 F5 S5; have HK5 := Lib.hid (show Blk w5 K 70 (kpC q { k with term := t } vs ve) from B5); have HF5 := Lib.hid F5; clear B5 F5 S5))
      go_ret
      refine ⟨rfl, _, lv4, tl4, vs, ve, HK4.out.cells HF6.out HK6.out HK4.out.rd.sn HK4.out.rd.en ?_, ?_, ?_⟩
      · have hw := HK4.out.rd.wf
        have h1 : I64 t := ht
        have h2 : I64 v := hv
        exact ⟨h1, h2, hw.base, hw.bt, hw.snap, hw.sl, hw.es, hw.el⟩
      · exact HST.out.1.trans (Stp.of (X := F) HF6.out (fun b hb => .inl (by rw [List.mem_singleton.1 hb]; exact HH.out.fX K (.inl rfl)))) (fun b hb => .inl hb)
      · exact HST.out.2
    · have hE := HE.out
      rw [if_pos hz] at hE
      subst hE
      have hne : (r.1 != 0) = true := by simpa using hz
      go_wp2_with fail
      go_ret
      exact ⟨rfl, _, lv4, tl4, vs, ve, HK4.out, HST.out⟩
theorem ksync_calls {w : World} {F : Nat → Prop} {base K p bb q : Nat} {lv tl vs ve : Value} {d : D} {s : St} {k : KP} (h : KpAt w F base K p bb q lv tl vs ve d s k) :
    Calls Try.prog 12 #[.pointer (some ⟨K, 0, none⟩)] w fun e w' => e = .returned (.int .i64 0) ∧ KpTo w F base K p bb q lv tl d.calm { s with safe := s.count } k w' := by
  have c0 : w.cell? ⟨K, 0, none⟩ = some (.pointer (some ⟨q, 0, none⟩)) := h.rd.hk.cellAt rfl
  have HC := Lib.hid (ssync_calls h.sto)
  have HH := Lib.hid h
  clear h
  go_enter Try.func12, Try.ntmps12
  go_wp2_with fail
  refine HC.out.mono ?_
  rintro e w1 ⟨rfl, S1, F1⟩
  have hpq : ∀ b ∈ [p, q], stoX p bb q lv tl b := fun b hb => by
    simp only [List.mem_cons, List.not_mem_nil, or_false] at hb
    rcases hb with rfl | rfl
    · exact .inr (.inl (by simp))
    · exact .inl rfl
  have hY : ∀ b ∈ [p, q], (¬ F b ∨ kX K p bb q lv tl b) ∨ w.heap.size ≤ b := fun b hb => .inl (.inr (.inr (hpq b hb)))
  have hX : ∀ b, kX K p bb q (.slice none 0 0) tl b → kX K p bb q lv tl b := fun b hb => hb.imp id stoX_calm
  have hY2 : ∀ b, (¬ F b ∨ kX K p bb q (.slice none 0 0) tl b) → (¬ F b ∨ kX K p bb q lv tl b) ∨ w.heap.size ≤ b := fun b hb => .inl (hb.imp id (hX b))
  have HE := Lib.hid (show KpTo w F base K p bb q lv tl d.calm { s with safe := s.count } k w1 from ⟨F, .slice none 0 0, tl, vs, ve,
    ⟨S1, ⟨HH.out.rd.hk.fr F1 (fun hm => HH.out.sto.kn HH.out.rd.hk (hpq K hm)), HH.out.rd.sn.step F1 hY hY2, HH.out.rd.en.step F1 hY hY2, HH.out.rd.wf⟩, fun b hb => HH.out.fX b (hX b hb), fun b hb => ⟨(HH.out.fl b hb).1, Nat.lt_of_lt_of_le (HH.out.fl b hb).2 F1.size⟩⟩,
    Stp.of F1 (fun b hb => .inl (HH.out.fX b (.inr (hpq b hb)))), fun b hb => .inl hb⟩)
  clear S1 F1 hpq hY hX hY2
  dsimp only
  go_wp2_with fail
  go_ret
  exact ⟨rfl, HE.out⟩
end Go.Fur
namespace Go.Fur
open Go Go.RowKit Go.Proofs
set_option linter.unusedVariables false
set_option linter.unusedSimpArgs false
def putE (k : KP) (i t : Int) (l : List Int) : KP := { k with es := k.es.take (i - k.base - 1).toNat ++ [(t, l)] }
def putK (d : D) (s : St) (k : KP) (i t : Int) (l : List Int) : Int × D × St × KP :=
  if i ≤ k.base ∨ k.last + 1 < i ∨ t < 0 ∨ 60000 < l.length then (1, d, s, k)
  else if (appK d s k (recP i t l)).1 ≠ 0 then ((appK d s k (recP i t l)).1, (appK d s k (recP i t l)).2.1, (appK d s k (recP i t l)).2.2, k)
  else (0, (appK d s k (recP i t l)).2.1, (appK d s k (recP i t l)).2.2, putE k i t l)
theorem KpAt.widen {w : World} {F F2 : Nat → Prop} {base K p bb q : Nat} {lv tl vs ve : Value} {d : D} {s : St} {k : KP} (h : KpAt w F base K p bb q lv tl vs ve d s k) (hF : ∀ b, F b → F2 b) (hl : ∀ b, F2 b → base ≤ b ∧ b < w.heap.size) : KpAt w F2 base K p bb q lv tl vs ve d s k := by
  have hY : ∀ b, (¬ F2 b ∨ kX K p bb q lv tl b) → (¬ F b ∨ kX K p bb q lv tl b) ∨ w.heap.size ≤ b := fun b hb => .inl (hb.imp (fun h1 h2 => h1 (hF b h2)) id)
  exact ⟨h.sto, ⟨h.rd.hk, h.rd.sn.step (Fr.refl [] w) (by simp) hY, h.rd.en.step (Fr.refl [] w) (by simp) hY, h.rd.wf⟩, fun b hb => hF b (h.fX b hb), hl⟩
/-- A row of entries with one more, all new. -/
theorem Ents.snoc {w : World} {Y : Nat → Prop} {e : TypeId} {base : Nat} {v : Value} {l : List (Int × List Int)} {css : List (List Value)} {a : Option Addr} {x : Int × List Int} {cs : List Value} (h : RowA EntL 2 w Y a l css) (hx : EntL w Y cs x) (ho : Own w base e 2 v (l.length + 1) (flat id css ++ cs)) (hb : ∀ b ∈ ob v, ¬ Y b) : Ents w Y v (l ++ [x]) := by
  obtain ⟨a', c', hv, h1, h2, h3⟩ := ho.rdA hb
  refine ⟨a', c', css ++ [cs], by rw [hv, List.length_append]; rfl, ⟨?_, by simp [h.len], fun i cs' t hc ht => ?_⟩, by rw [List.length_append]; exact h1, h2⟩
  · rw [flat_append]
    simpa [flat] using h3
  · rcases Nat.lt_or_ge i css.length with hi | hi
    · rw [List.getElem?_append_left hi] at hc
      rw [List.getElem?_append_left (by rw [← h.len]; exact hi)] at ht
      exact h.each i cs' t hc ht
    · rw [List.getElem?_append_right hi] at hc
      rw [List.getElem?_append_right (by rw [← h.len]; exact hi), ← h.len] at ht
      rcases hq : i - css.length with _ | q
      · rw [hq] at hc ht
        simp only [List.getElem?_cons_zero, Option.some.injEq] at hc ht
        subst hc ht
        obtain ⟨u, hu, _⟩ := hx
        exact ⟨by rw [hu]; rfl, ⟨u, hu, by assumption⟩⟩
      · rw [hq] at hc
        simp at hc
theorem putE_wf {k : KP} {i t : Int} {l : List Int} (h : k.wf) (ht : I64 t) (hl : Byt l) (hll : l.length ≤ 1048576) (hel : k.es.length + 1 ≤ 1000000) : (putE k i t l).wf := by
  refine ⟨h.term, h.vote, h.base, h.bt, h.snap, h.sl, fun e he => ?_, ?_⟩
  · rcases List.mem_append.1 he with he | he
    · exact h.es e (List.mem_of_mem_take he)
    · rw [List.mem_singleton.1 he]
      exact ⟨ht, hl, hll⟩
  · show (k.es.take (i - k.base - 1).toNat ++ [(t, l)]).length ≤ 1000000
    rw [List.length_append, List.length_take, List.length_singleton]
    omega
set_option maxRecDepth 100000 in
set_option maxHeartbeats 4000000 in
theorem kput_calls {w : World} {F : Nat → Prop} {base K p bb q : Nat} {lv tl vs ve : Value} {d : D} {s : St} {k : KP} (h : KpAt w F base K p bb q lv tl vs ve d s k) (hbase : base ≤ w.heap.size) {N : Nat} (hB : Bud d s N) (hN : N ≤ 100000) (hp : k.pack.length ≤ 1000000000) (hel : k.es.length + 1 ≤ 1000000) (i t : Int) (hi : I64 i) (ht : I64 t)
    (a : Option Addr) (m c : Nat) (l : List Int) (hm : l.length = m) (hmc : m ≤ maxLen) (hr : RdA w F a (bv l)) (hl : Byt l) :
    Calls Try.prog 10 #[.pointer (some ⟨K, 0, none⟩), .int .i64 i, .int .i64 t, .slice a m c] w fun e w' => e = .returned (.int .i64 (putK d s k i t l).1) ∧ KpTo w F base K p bb q lv tl (putK d s k i t l).2.1 (putK d s k i t l).2.2.1 (putK d s k i t l).2.2.2 w' := by
  subst hm
  have c3 : w.cell? ⟨K, 3, none⟩ = some (.int .i64 k.base) := h.rd.hk.cellAt rfl
  have hm63 : l.length ≤ 9223372036854775807 := by unfold maxLen at hmc; exact hmc
  have hb := h.rd.wf.base
  have hll := h.rd.wf.lastI
  have HL := Lib.hid (klast_calls h.rd)
  have HH := Lib.hid h
  have HB := Lib.hid hB
  have HR := Lib.hid hr
  unfold I64 at hi ht
  clear h hB hr
  by_cases hbad : i ≤ k.base ∨ k.last + 1 < i ∨ t < 0 ∨ 60000 < l.length
  · have e : putK d s k i t l = (1, d, s, k) := by unfold putK; rw [if_pos hbad]
    rw [e]
    have HE0 := Lib.hid (fun m => show KpTo w F base K p bb q lv tl d s k (w.drewN m) from ⟨F, lv, tl, vs, ve, HH.out.fr0 ((Fr.refl _ _).drewN m), Stp.of ((Fr.refl [] w).drewN m) (by simp), fun b hb => .inl hb⟩)
    have HE1 := Lib.hid (show KpTo w F base K p bb q lv tl d s k w from ⟨F, lv, tl, vs, ve, HH.out, Stp.refl _ _, fun b hb => .inl hb⟩)
    clear e HB
    by_cases h1 : i ≤ k.base
    · have HE := HE1
      go_enter Try.func10, Try.ntmps10
      go_wp2_with fail
      go_ret
      exact ⟨rfl, HE.out⟩
    · have HE := HE0
      by_cases h2 : k.last + 1 < i
      · go_enter Try.func10, Try.ntmps10
        go_wp2_with fail
        refine HL.out.mono ?_
        rintro e w1 ⟨rfl, m, rfl⟩
        dsimp only
        go_wp2_with fail
        go_ret
        exact ⟨rfl, HE.out m⟩
      · by_cases h3 : t < 0
        · go_enter Try.func10, Try.ntmps10
          go_wp2_with fail
          refine HL.out.mono ?_
          rintro e w1 ⟨rfl, m, rfl⟩
          dsimp only
          go_wp2_with fail
          go_ret
          exact ⟨rfl, HE.out m⟩
        · have h4 : (60000 : Int) < (l.length : Int) := by omega
          go_enter Try.func10, Try.ntmps10
          go_wp2_with fail
          refine HL.out.mono ?_
          rintro e w1 ⟨rfl, m, rfl⟩
          dsimp only
          go_wp2_with fail
          go_ret
          exact ⟨rfl, HE.out m⟩
  · obtain ⟨r, hr⟩ : ∃ r, appK d s k (recP i t l) = r := ⟨_, rfl⟩
    have e : putK d s k i t l = if r.1 ≠ 0 then (r.1, r.2.1, r.2.2, k) else (0, r.2.1, r.2.2, putE k i t l) := by unfold putK; rw [if_neg hbad, hr]
    obtain ⟨vr, hvr⟩ : ∃ vr, putK d s k i t l = vr := ⟨_, rfl⟩
    rw [hvr] at e ⊢
    have HE := Lib.hid e
    have HRR := Lib.hid hr
    have h1 : ¬ i ≤ k.base := by omega
    have h2 : ¬ k.last + 1 < i := by omega
    have h3 : ¬ t < 0 := by omega
    have h4 : ¬ (60000 : Int) < (l.length : Int) := by omega
    have hI : ∀ x ∈ [(2 : Int), i, t], I64 x := fun x hx => by
      simp only [List.mem_cons, List.not_mem_nil, or_false] at hx
      rcases hx with rfl | rfl | rfl
      · exact ⟨by omega, by omega⟩
      · exact hi
      · exact ht
    obtain ⟨L0, hL0⟩ : ∃ L0, [2, i, t].flatMap layI = L0 := ⟨_, rfl⟩
    obtain ⟨L, hL⟩ : ∃ L, L0 ++ layB l = L := ⟨_, rfl⟩
    have hrec : recP i t l = L := by unfold recP; rw [hL0, hL]
    have hLl := recP_length i t l
    rw [hrec] at hLl
    have hL0l := flatI_length [2, i, t]
    rw [hL0] at hL0l
    simp only [List.length_cons, List.length_nil] at hL0l
    have HLL := Lib.hid (And.intro hL0 (And.intro hL hrec))
    clear e hr hvr hbad hL hL0 hrec
    go_enter Try.func10, Try.ntmps10
    go_wp2_with fail
    refine HL.out.mono ?_
    rintro e w1 ⟨rfl, nm, rfl⟩
    dsimp only
    have hF1 : Fr [] w (w.drewN nm) := (Fr.refl _ _).drewN nm
    go_wp2_with (refine wpList_buildN rfl 23 3 3 [(0, .const (.int .i64 2)), (1, .tmp 38), (2, .tmp 39)] rfl [(0, .int .i64 2), (1, .int .i64 i), (2, .int .i64 t)] (by rfl) (ivs [2, i, t]) (ints_build3 _ _ _) ?_; intro w2 B2 F2 S2; have HB2 := Lib.hid B2; have HF2 := Lib.hid (hF1.trans0 F2); clear B2 F2 S2)
    refine (ints_calls w2 none 0 0 [] rfl (Rd.nil _ _) w.heap.size 3 3 [2, i, t] HB2.out rfl (by omega) hI (by omega) (by omega)).mono ?_
    rintro e w3 ⟨v3, rfl, O3, F3⟩
    rw [List.nil_append, show [2, i, t].flatMap layI = L0 from HLL.out.1] at O3
    obtain ⟨a3, c3', rfl, g1, g2, g3⟩ := O3.form
    have HF3 := Lib.hid (HF2.out.trans0 F3)
    have HG3 := Lib.hid g3
    clear O3 F3 g1 g2 g3 hF1
    dsimp only
    go_wp2_with fail
    refine (layBytes_calls w3 a3 a L0.length c3' l.length c L0 l rfl rfl (by omega) HG3.out (HR.out.rd.fr0 HF3.out)).mono ?_
    rintro e w4 ⟨v4, rfl, O4, F4⟩
    rw [HLL.out.2.1] at O4
    obtain ⟨a4, c4, rfl, g1, g2, g3⟩ := O4.form
    have HF4 := Lib.hid (HF3.out.trans0 F4)
    have hK4 := Lib.hid (HH.out.fr0 HF4.out)
    have hz3 := HF3.out.size
    have hrd : RdA w4 (stoX p bb q lv tl) a4 (bv L) := (O4.rdS (fun b hb hx => by have := (O4.lt hb).1; have := (stoX_ge HH.out.sto hx).2; omega)).1
    have HRD := Lib.hid hrd
    clear O4 F4 g1 g2 g3 hrd HG3 HF3
    dsimp only
    go_wp2_with fail
    refine (kapp_calls hK4.out (by have := HF4.out.size; omega) HB.out hN hp HH.out.rd.wf.byt a4 L.length c4 L rfl HRD.out (by rw [← HLL.out.2.1, ← HLL.out.1]; exact (byt_flatI _).append (byt_layB hl)) (by simp only [maxLen]; omega)).mono ?_
    rintro e w5 ⟨lv5, tl5, rfl, S5, st5, X5⟩
    have hR := HRR.out
    rw [HLL.out.2.2] at hR
    rw [hR] at S5 ⊢
    have K5 := hK4.out.turn (by have := HF4.out.size; omega) S5 st5 X5
    have HK5 := Lib.hid K5
    have hst : Stp F w w5 := (Stp.of HF4.out (by simp)).trans (st5.more (fun b hb => HH.out.fX b (.inr hb))) (fun b hb => .inl hb)
    have hgr : ∀ b, grow F w4 w5 b → F b ∨ w.heap.size ≤ b := fun b hb => hb.imp id (fun h => by have := HF4.out.size; omega)
    have HST := Lib.hid (And.intro hst hgr)
    have hz45 := st5.size
    have hrd5 : RdA w5 F a (bv l) := by
      obtain ⟨T, f, hT⟩ := hst
      exact HR.out.step f hT (fun b hb => .inl hb)
    have HR5 := Lib.hid hrd5
    clear S5 st5 X5 K5 hst hgr hR hrd5 HRD
    dsimp only
    by_cases hz : r.1 = 0
    · have hE := HE.out
      rw [if_neg (by rw [hz]; simp)] at hE
      subst hE
      rw [hz]
      have c5 : w5.cell? ⟨K, 3, none⟩ = some (.int .i64 k.base) := HK5.out.rd.hk.cellAt rfl
      obtain ⟨n, hn⟩ : ∃ n : Nat, i - k.base - 1 = n := ⟨(i - k.base - 1).toNat, by omega⟩
      have hlast : k.last = k.base + k.es.length := rfl
      have hnl : n ≤ k.es.length := by omega
      obtain ⟨ae, ce, css, hve, he1, he2, he3⟩ := HK5.out.rd.en
      subst hve
      obtain ⟨aR, hRR, hsl⟩ := slice_hm (P := Try.prog) Try.underlying68 entry_size ae k.es.length ce n (n : Int) (n : Int) rfl rfl (by omega)
      have HE1 := Lib.hid (And.intro he1 (And.intro hRR hnl))
      have d6 : ∀ W, Fr [] w5 W → W.cell? ⟨K, 6, none⟩ = some (.slice ae k.es.length ce) := fun W f => (HK5.out.rd.hk.fr f (by simp)).cellAt rfl
      have heb := entry_build t
      clear he1 hRR c3 he3
      go_wp2_with fail
      refine wp_region_ord (Fr [] w5) [0,1,2,3,4,5,6,7,8,9,10,11,12,13,14,15,16] [16] [10, 12, 13, 16] [4] mixed (by kernel_rfl) ?_
      have hS : Fr [] w5 w5.drew := (Fr.refl _ _).drew
      simp only [pairs, pickN]
      repeat (first | (refine wpO_free ?_ (by rfl) (by rfl) (fun w' => ?_) ?_; rotate_left; (go_simp; rfl); simp only [Act.put, List.setIfInBounds_toArray, List.set_cons_zero, List.set_cons_succ]) | (refine wpO_take ?_ hS (by rfl) (by rfl) (fun w' hw' => ?_) ?_; rotate_left; (go_simp; rfl); simp only [Act.put, List.setIfInBounds_toArray, List.set_cons_zero, List.set_cons_succ]) | (refine wpO_pass (by rfl) ?_; simp only [Act.put, List.setIfInBounds_toArray, List.set_cons_zero, List.set_cons_succ]))
      refine wpO_eff (by rfl) ?_
      refine wpList_appB rfl _ _ 33 33 rfl w5.heap.size 5 5 .u8 1 Try.underlying33 Try.underlying33 info_byte (.slice none 0 0) 0 [] (by rfl) (Own.nil _ _ _ _) a l.length c (bv l) (by rfl) (HR5.out.rd.fr0 hS) (by rw [bv_length]) (bv_one _) (by simp only [maxLen]; omega) (by omega) (by have := hS.size; omega) ?_
      intro v6 w6 O6 F6 K6 _
      have hS6 : Fr [] w5 w6 := hS.trans0 F6
      obtain ⟨a6, c6, hv6, _, _, _⟩ := O6.form
      rw [Nat.zero_add] at hv6
      subst hv6
      refine effQ_keep hS6 ?_
      simp only [Act.put, List.setIfInBounds_toArray, List.set_cons_zero, List.set_cons_succ]
      have hb6 := heb a6 l.length c6
      repeat (first | (refine wpO_free ?_ (by rfl) (by rfl) (fun w' => ?_) ?_; rotate_left; (go_simp; rfl); simp only [Act.put, List.setIfInBounds_toArray, List.set_cons_zero, List.set_cons_succ]) | (refine wpO_pass (by rfl) ?_; simp only [Act.put, List.setIfInBounds_toArray, List.set_cons_zero, List.set_cons_succ]))
      refine wpO_eff (by rfl) ?_
      refine wpList_buildSlice1 rfl 68 75 _ rfl [.int .i64 0, .slice none 0 0] 2 32 Try.underlying68 info_entry (by simp) (by omega) (by omega) _ [.int .i64 t, .slice a6 l.length c6] (by rfl) (by rfl) (by simp) ?_
      intro w7 B7 F7 S7
      have hS7 : Fr [] w5 w7 := hS6.trans0 F7
      refine effQ_keep hS7 ?_
      simp only [Act.put, List.setIfInBounds_toArray, List.set_cons_zero, List.set_cons_succ]
      refine wpO_eff (by rfl) ?_
      have hRow := (HE1.out.1.step hS7 (by simp) (X' := fun b => ¬ grow F w4 w5 b ∨ kX K p bb q lv5 tl5 b) (fun b hb => .inl hb) (fun cs t h => h.step hS7 (by simp) (fun b hb => .inl hb))).takeN n
      have hxl : (flat id (css.take n)).length = n * 2 := by
        rw [flat_length id 2 _ hRow.all, List.length_take, HE1.out.1.len, Nat.min_eq_left HE1.out.2.2]
      have hRx : Rd w7 aR (flat id (css.take n)) := by
        rw [← flat_take id 2 css HE1.out.1.all]
        exact (HE1.out.2.1 w7 _ _ (HE1.out.1.rd.fr0 hS7)).rd
      refine wpList_appG rfl _ _ 68 68 rfl 75 75 [.int .i64 0, .slice none 0 0] 2 32 Try.underlying68 Try.underlying68 info_entry rfl (by decide) aR n (flat id (css.take n)) (by rfl) hRx hxl (some ⟨w6.heap.size, 0, none⟩) 1 1 [.int .i64 t, .slice a6 l.length c6] (by rfl) (by simpa using B7.rd0 2) (by simp) (by decide) (by simp [Value.oneCell']) (by simp only [maxLen]; omega) (by omega) ?_
      intro v8 w8 O8 F8
      have hS8 : Fr [] w5 w8 := hS7.trans0 F8
      obtain ⟨a8, c8, hv8, _, _, _⟩ := O8.form
      subst hv8
      refine effQ_keep hS8 ?_
      simp only [Act.put, List.setIfInBounds_toArray, List.set_cons_zero, List.set_cons_succ]
      repeat (first | (refine wpO_free ?_ (by rfl) (by rfl) (fun w' => ?_) ?_; rotate_left; (go_simp; rfl); simp only [Act.put, List.setIfInBounds_toArray, List.set_cons_zero, List.set_cons_succ]) | (refine wpO_pass (by rfl) ?_; simp only [Act.put, List.setIfInBounds_toArray, List.set_cons_zero, List.set_cons_succ]))
      refine wpO_eff (by rfl) ?_
      have hz8 := hS8.size
      have hz4 : w.heap.size ≤ w4.heap.size := HF4.out.size
      have hfl5 : ∀ b, grow F w w8 b → base ≤ b ∧ b < w8.heap.size := fun b hb => by
        rcases hb with hb | hb
        · have := HH.out.fl b hb
          exact ⟨this.1, by omega⟩
        · exact ⟨by omega, hb.2⟩
      have K8 := (HK5.out.fr0 hS8).widen (F2 := grow F w w8) (fun b hb => by
        rcases hb with hb | hb
        · exact .inl hb
        · exact .inr (by omega)) hfl5
      have hnX : ∀ b, w5.heap.size ≤ b → b < w8.heap.size → ¬ (¬ grow F w w8 b ∨ kX K p bb q lv5 tl5 b) := fun b h5 h8 hb => by
        rcases hb with hb | hb | hb
        · exact hb (.inr (by omega))
        · have := HK5.out.rd.hk.lt; omega
        · have := (stoX_ge HK5.out.sto hb).2; omega
      have hz67 : w5.heap.size ≤ w6.heap.size := hS6.size
      have hz7 := hS7.size
      have O6' : Own w8 w5.heap.size 5 1 (.slice a6 l.length c6) l.length (bv l) := ((show Own w6 w5.heap.size 5 1 (.slice a6 l.length c6) l.length (bv l) by simpa using O6).fr0 F7).fr0 F8
      have hRow8 := ((HK5.out.fr0 hS8).widen (F2 := grow F w w8) (fun b hb => by
        rcases hb with hb | hb
        · exact .inl hb
        · exact .inr (by omega)) hfl5).rd.en
      have hEn : Ents w8 (fun b => ¬ grow F w w8 b ∨ kX K p bb q lv5 tl5 b) (.slice a8 (n + 1) c8) (k.es.take n ++ [(t, l)]) := by
        have hr8 := (HE1.out.1.step hS8 (by simp) (X' := fun b => ¬ grow F w w8 b ∨ kX K p bb q lv5 tl5 b) (fun b hb => .inl (hb.imp (fun h1 h2 => h1 (by rcases h2 with h2 | h2; exact .inl h2; exact .inr (by omega))) id)) (fun cs t h => h.step hS8 (by simp) (fun b hb => .inl (hb.imp (fun h1 h2 => h1 (by rcases h2 with h2 | h2; exact .inl h2; exact .inr (by omega))) id)))).takeN n
        have hln : (k.es.take n).length = n := by rw [List.length_take, Nat.min_eq_left HE1.out.2.2]
        refine Ents.snoc (e := 75) (base := w7.heap.size) hr8 ⟨_, rfl, O6'.bs rfl (fun b hb => hnX b (O6'.lt hb).1 (O6'.lt hb).2)⟩ (by rw [hln]; exact O8) (fun b hb => hnX b (by have := (O8.lt hb).1; omega) (O8.lt hb).2)
      refine wpList_store1 rfl 68 _ _ rfl K 6 (.slice a8 (n + 1) c8) (by rfl) (by rfl) rfl 70 _ K8.rd.hk (by simp [kpC]) (by kernel_rfl) rfl ?_
      intro w9 B9 F9 S9
      refine effQ_skip (by decide) (wpO_nil ?_)
      simp only [Act.put, List.setIfInBounds_toArray, List.set_cons_zero, List.set_cons_succ]
      have hput : (putE k i t l).es = k.es.take n ++ [(t, l)] := by unfold putE; rw [hn, Int.toNat_natCast]
      have K9 := K8.cells F9 (k' := putE k i t l) (vs' := vs) (ve' := .slice a8 (n + 1) c8) B9 K8.rd.sn (by rw [hput]; exact hEn) (putE_wf K8.rd.wf ht hl (by omega) hel)
      have HK9 := Lib.hid K9
      have hst9 : Stp F w w9 := (HST.out.1.trans (Stp.of (X := F) hS8 (by simp)) (fun b hb => .inl hb)).trans (Stp.of (X := F) F9 (fun b hb => .inl (by rw [List.mem_singleton.1 hb]; exact HH.out.fX K (.inl rfl)))) (fun b hb => .inl hb)
      have HS9 := Lib.hid hst9
      clear K9 hst9 hput hEn hRow8 O6' hnX K8 hfl5 hS8 F9 B9 S9 O8 F8 hRow hRx hxl hS7 B7 F7 S7 hS6 O6 F6 K6 hS hb6 d6 c5
      go_wp2_with fail
      go_ret
      exact ⟨rfl, _, lv5, tl5, vs, _, HK9.out, HS9.out, fun b hb => hb.imp id (fun h => h.1)⟩
    · have hE := HE.out
      rw [if_pos hz] at hE
      subst hE
      have hne : (r.1 != 0) = true := by simpa using hz
      go_wp2_with fail
      go_ret
      exact ⟨rfl, _, lv5, tl5, vs, ve, HK5.out, HST.out⟩
end Go.Fur
