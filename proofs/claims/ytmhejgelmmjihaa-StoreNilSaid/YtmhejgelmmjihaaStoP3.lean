/- A store, plain: what is found when it is opened. -/
import Derived.Test.YtmhejgelmmjihaaStoP2
namespace Go.Fur
open Go Go.RowKit
set_option linter.unusedVariables false
set_option linter.unusedSimpArgs false
/-- The bytes of records. -/
def encs (l : List (List Int)) : List Int := (l.map fun p => le4 p.length ++ p).flatten
theorem encs_append (l m : List (List Int)) : encs (l ++ m) = encs l ++ encs m := by simp [encs]
theorem encs_cons (p : List Int) (l : List (List Int)) : encs (p :: l) = le4 p.length ++ (p ++ encs l) := by simp [encs]
theorem encs_one (p : List Int) : encs [p] = le4 p.length ++ p := by simp [encs]
/-- No whole record begins here. -/
def Stops (G : List Int) : Prop := G.length < 4 ∨ 65536 < four4 G 0 ∨ G.length < 4 + four4 G 0
theorem stops_nil : Stops [] := .inl (by simp)
theorem recs_enc {G : List Int} (hG : Stops G) : ∀ (lst : List (List Int)) (X : List Int) (f : Nat), (∀ p ∈ lst, p.length ≤ 65536) → lst.length < f → recsP (X ++ encs lst ++ G) f X.length = (lst, (X ++ encs lst).length)
  | [], X, 0, _, h => by simp at h
  | [], X, f + 1, _, _ => by
    have e : four4 (X ++ encs [] ++ G) X.length = four4 G 0 := by rw [four4_drop]; simp [encs]
    have hl : (X ++ encs [] ++ G).length = X.length + G.length := by simp [encs]
    rw [recsP, e, hl]
    split
    · simp [encs]
    · rename_i h1
      rw [if_pos (by rcases hG with h | h | h <;> omega)]
      simp [encs]
  | p :: lst, X, 0, _, h => by simp at h
  | p :: lst, X, f + 1, hp, hf => by
    have hp0 := hp p (by simp)
    have e0 : X ++ encs (p :: lst) ++ G = X ++ (le4 p.length ++ (p ++ encs lst ++ G)) := by rw [encs_cons]; simp
    have e : four4 (X ++ encs (p :: lst) ++ G) X.length = p.length := by
      rw [e0, four4_drop, List.drop_left]
      exact four4_le4 _ (by omega) _
    have hl : (X ++ encs (p :: lst) ++ G).length = X.length + 4 + p.length + (encs lst).length + G.length := by rw [e0]; simp [le4]; omega
    have e1 : X ++ encs (p :: lst) ++ G = (X ++ le4 p.length ++ p) ++ encs lst ++ G := by rw [encs_cons]; simp
    have hx : (X ++ le4 p.length ++ p).length = X.length + 4 + p.length := by simp [le4]; omega
    have ih := recs_enc hG lst (X ++ le4 p.length ++ p) f (fun q hq => hp q (by simp [hq])) (by simpa using hf)
    have ed : ((X ++ encs (p :: lst) ++ G).drop (X.length + 4)).take p.length = p := by
      rw [e0, ← List.drop_drop, List.drop_left, List.drop_append_of_le_length (by simp [le4]), show (le4 p.length).drop 4 = [] from rfl, List.nil_append, List.append_assoc, List.take_left]
    rw [recsP, e, hl, if_neg (by omega), if_neg (by omega), ed]
    rw [← hx, e1, ih]
    simp only [Prod.mk.injEq, true_and]
    rw [encs_cons]
    simp
/-- What a disk holds that may be opened: a generation, lives up to L, a snapshot, records. -/
structure Good (d : D) (gen L : Nat) (whole : Bool) (snap : List Int) (lst : List (List Int)) : Prop where
  root : rootP d.now = (gen, snap.length, whole)
  rle : ∀ n b, n < 2 → d.now[n]? = some b → b.take 8 = magicL → four4 b 8 ≤ gen
  live : ∀ n b, 2 ≤ n → d.now[n]? = some b → four4 b 0 ≤ gen ∧ (four4 b 0 = 0 → four4 b 4 = 0) ∧ four4 b 4 ≤ L
  rd : ∃ G, (readB d gen).flatten = snap ++ encs lst ++ G ∧ Stops G
  few : ∀ p ∈ lst, p.length ≤ 65536
  gp : 1 ≤ gen
theorem eld_mono : ∀ (l : List (List Int)) (m : Nat), m ≤ l.foldl eldG m
  | [], m => Nat.le_refl _
  | b :: l, m => Nat.le_trans (by unfold eldG; split; exact Nat.le_max_left _ _; exact Nat.le_refl _) (eld_mono l (eldG m b))
theorem eld_ge : ∀ (l : List (List Int)) (m : Nat) (b : List Int), b ∈ l → 0 < four4 b 0 → four4 b 4 ≤ l.foldl eldG m
  | c :: l, m, b, h, hb => by
    rcases List.mem_cons.1 h with rfl | h
    · refine Nat.le_trans ?_ (eld_mono l (eldG m b))
      unfold eldG
      rw [if_pos hb]
      exact Nat.le_max_right _ _
    · exact eld_ge l _ b h hb
theorem eld_le {L : Nat} : ∀ (l : List (List Int)) (m : Nat), m ≤ L → (∀ b ∈ l, four4 b 4 ≤ L) → l.foldl eldG m ≤ L
  | [], m, h, _ => h
  | b :: l, m, h, hb => eld_le l _ (by unfold eldG; split; exact Nat.max_le.2 ⟨h, hb b (by simp)⟩; exact h) (fun c hc => hb c (by simp [hc]))
theorem eldL_all (d : D) : eldL d (d.now.length - 2) = (d.now.drop 2).foldl eldG 0 := by
  unfold eldL
  rw [List.take_of_length_le (by simp)]
theorem mem_drop2 {now : List (List Int)} {b : List Int} (h : b ∈ now.drop 2) : ∃ n, 2 ≤ n ∧ now[n]? = some b := by
  obtain ⟨i, hi⟩ := List.getElem?_of_mem h
  rw [List.getElem?_drop] at hi
  exact ⟨2 + i, by omega, hi⟩
theorem drop2_mem {now : List (List Int)} {n : Nat} {b : List Int} (hn : 2 ≤ n) (h : now[n]? = some b) : b ∈ now.drop 2 := by
  refine List.mem_of_getElem? (i := n - 2) ?_
  rw [List.getElem?_drop, show 2 + (n - 2) = n by omega]
  exact h
/-- Pieces of 55, the last one perhaps shorter. -/
theorem pieces (P : List (List Int)) : (∀ x ∈ P, x.length ≤ 55) → (∀ j x, j + 1 < P.length → P[j]? = some x → x.length = 55) → ∀ i, (i + 1) * 55 ≤ P.flatten.length → ∃ x, P[i]? = some x ∧ x.length = 55 ∧ x = (P.flatten.drop (i * 55)).take 55 := by
  induction P with
  | nil =>
    intro _ _ i h
    rw [List.flatten_nil, List.length_nil] at h
    omega
  | cons x r ih =>
    intro h1 h2 i h
    have hx := h1 x List.mem_cons_self
    rw [List.flatten_cons, List.length_append] at h
    have hl : x.length = 55 := by
      cases r with
      | nil =>
        rw [List.flatten_nil, List.length_nil] at h
        omega
      | cons y r => exact h2 0 x (by rw [List.length_cons, List.length_cons]; omega) (by rw [List.getElem?_cons_zero])
    cases i with
    | zero =>
      refine ⟨x, by rw [List.getElem?_cons_zero], hl, ?_⟩
      rw [List.flatten_cons, Nat.zero_mul, List.drop_zero, ← hl, List.take_left]
    | succ i =>
      have a1 : ∀ z ∈ r, z.length ≤ 55 := fun z hz => h1 z (List.mem_cons_of_mem _ hz)
      have a2 : ∀ j z, j + 1 < r.length → r[j]? = some z → z.length = 55 := fun j z hj hz => by
        have hj2 : j + 1 + 1 < (x :: r).length := by rw [List.length_cons]; omega
        have hz2 : (x :: r)[j + 1]? = some z := by rw [List.getElem?_cons_succ]; exact hz
        exact h2 (j + 1) z hj2 hz2
      have e3 : (i + 1 + 1) * 55 = 55 + (i + 1) * 55 := by rw [Nat.add_mul (i + 1) 1 55, Nat.one_mul, Nat.add_comm]
      have a3 : (i + 1) * 55 ≤ r.flatten.length := by
        rw [e3, hl] at h
        exact Nat.le_of_add_le_add_left h
      obtain ⟨y, g1, g2, g3⟩ := ih a1 a2 i a3
      refine ⟨y, by rw [List.getElem?_cons_succ]; exact g1, g2, ?_⟩
      rw [List.flatten_cons, show (i + 1) * 55 = x.length + i * 55 by rw [hl, Nat.add_mul, Nat.one_mul, Nat.add_comm], ← List.drop_drop, List.drop_left]
      exact g3
theorem halfB_some {d : D} {gen i : Nat} (h : i < halfP d) : ∃ b, d.now[placeP d gen i]? = some b ∧ halfB d gen i = b := by
  have hp := placeP_lt d gen i h
  refine ⟨_, List.getElem?_eq_getElem hp, ?_⟩
  unfold halfB
  rw [List.getD_eq_getElem?_getD, List.getElem?_eq_getElem hp]
  rfl
theorem open_good {d : D} {gen L : Nat} {whole : Bool} {snap : List Int} {lst : List (List Int)} (h : Good d gen L whole snap lst) (h64 : ∀ b ∈ d.now, b.length = 64) (hL : L < 4294967295) :
    ∃ L', L' ≤ L + 1 ∧ openP d = ⟨gen, L', whole, snap, lst, (snap ++ encs lst).length / 55, (snap ++ encs lst).drop ((snap ++ encs lst).length / 55 * 55)⟩ ∧
      PosT d gen L' (snap ++ encs lst) ((snap ++ encs lst).length / 55) ((snap ++ encs lst).drop ((snap ++ encs lst).length / 55 * 55)) ∧ Good d gen L' whole snap lst := by
  obtain ⟨G, hrd, hG⟩ := h.rd
  have hall : allP d = snap ++ encs lst ++ G := by unfold allP; rw [h.root]; exact hrd
  have hel : eldL d (d.now.length - 2) ≤ L := by
    rw [eldL_all]
    refine eld_le _ _ (Nat.zero_le _) (fun b hb => ?_)
    obtain ⟨n, hn, hb⟩ := mem_drop2 hb
    exact (h.live n b hn hb).2.2
  have hlf : lifeP d = eldL d (d.now.length - 2) + 1 := by unfold lifeP; omega
  have hge : ∀ n b, 2 ≤ n → d.now[n]? = some b → 0 < four4 b 0 → four4 b 4 < lifeP d := fun n b hn hb h0 => by
    have := eld_ge (d.now.drop 2) 0 b (drop2_mem hn hb) h0
    rw [hlf, eldL_all]
    omega
  obtain ⟨B, hB⟩ : ∃ B, snap ++ encs lst = B := ⟨_, rfl⟩
  have hop : openP d = ⟨gen, lifeP d, whole, snap, lst, B.length / 55, B.drop (B.length / 55 * 55)⟩ := by
    have hlen : lst.length < (allP d).length + 1 := by
      have : lst.length ≤ (encs lst).length := by
        clear hrd hall hB h
        induction lst with
        | nil => simp
        | cons p l ih => rw [encs_cons]; simp [le4]; omega
      rw [hall]
      simp
      omega
    have hrec := recs_enc hG lst snap ((allP d).length + 1) h.few hlen
    unfold openP
    rw [h.root]
    dsimp only
    rw [if_neg (by rw [hall, List.append_assoc, List.length_append]; omega)]
    unfold openA
    rw [hall] at hrec ⊢
    rw [hrec, hB]
    dsimp only
    rw [List.take_left]
    congr 1
    rw [← hB, List.append_assoc, List.take_left]
  have hpiece : ∀ x ∈ readB d gen, x.length ≤ 55 := fun x hx => by
    obtain ⟨j, hj⟩ := List.getElem?_of_mem hx
    obtain ⟨_, _, g3, g4, _⟩ := go_inv _ _ _ _ _ _ _ hj
    rw [g4, List.length_take]
    omega
  have hfull : ∀ j x, (readB d gen)[j]? = some x → j < halfP d ∧ four4 (halfB d gen j) 0 = gen ∧ usedB (halfB d gen j) = x.length ∧ x = ((halfB d gen j).drop 9).take x.length ∧ ∀ k, k < j → usedB (halfB d gen k) = 55 ∧ four4 (halfB d gen k) 4 ≤ four4 (halfB d gen (k + 1)) 4 := fun j x hx => by
    obtain ⟨g1, g2, g3, g4, g5, g6⟩ := go_inv _ _ _ _ _ _ _ hx
    rw [Nat.zero_add] at g2 g3 g4
    obtain ⟨b, hb1, hb2⟩ := halfB_some (gen := gen) g1
    have hl : (halfB d gen j).length = 64 := by rw [hb2]; exact h64 b (List.mem_of_getElem? hb1)
    have hxl : x.length = usedB (halfB d gen j) := by rw [g4, List.length_take, List.length_drop, hl]; omega
    exact ⟨g1, g2, hxl.symm, by rw [hxl]; exact g4, fun k hk => by simpa using g6 k hk⟩
  have hp55 : ∀ j x, j + 1 < (readB d gen).length → (readB d gen)[j]? = some x → x.length = 55 := fun j x hj hx => by
    obtain ⟨y, hy⟩ : ∃ y, (readB d gen)[j + 1]? = some y := ⟨_, List.getElem?_eq_getElem hj⟩
    have h1 := (hfull (j + 1) y hy).2.2.2.2 j (by omega)
    have h2 := (hfull j x hx).2.2.1
    omega
  have hBf : (readB d gen).flatten = B ++ G := by rw [hrd, hB]
  have hget : ∀ i, i < B.length / 55 → ∃ x, (readB d gen)[i]? = some x ∧ x.length = 55 ∧ x = (B.drop (i * 55)).take 55 := fun i hi => by
    have hle : (i + 1) * 55 ≤ B.length := by omega
    obtain ⟨x, g1, g2, g3⟩ := pieces (readB d gen) hpiece hp55 i (by rw [hBf, List.length_append]; omega)
    refine ⟨x, g1, g2, ?_⟩
    rw [g3, hBf, List.drop_append_of_le_length (by omega), List.take_append_of_le_length (by rw [List.length_drop]; omega)]
  refine ⟨lifeP d, by omega, by rw [hB]; exact hop, ?_, ?_⟩
  · rw [hB]
    refine ⟨?_, by rw [List.length_drop]; omega, rfl, ⟨fun i hi => ?_, fun i hi => ?_⟩, fun j h1 h2 h3 => ?_⟩
    · by_cases h0 : B.length / 55 = 0
      · omega
      · obtain ⟨x, g1, _, _⟩ := hget (B.length / 55 - 1) (by omega)
        have := (hfull _ x g1).1
        omega
    · obtain ⟨x, g1, g2, g3⟩ := hget i hi
      obtain ⟨f1, f2, f3, f4, _⟩ := hfull i x g1
      obtain ⟨b, hb1, hb2⟩ := halfB_some (gen := gen) f1
      refine ⟨f2, by omega, ?_, ?_⟩
      · rw [g2] at f4
        rw [← f4, ← g3]
      · rw [hb2] at f2 ⊢
        exact Nat.le_of_lt (hge _ b (by unfold placeP; omega) hb1 (by have := h.gp; omega))
    · obtain ⟨x, g1, _, _⟩ := hget (i + 1) hi
      exact ((hfull _ x g1).2.2.2.2 i (by omega)).2
    · obtain ⟨b, hb1, hb2⟩ := halfB_some (gen := gen) h2
      rw [hb2] at h3 ⊢
      exact hge _ b (by unfold placeP; omega) hb1 (by have := h.gp; omega)
  · refine ⟨h.root, h.rle, fun n b hn hb => ?_, h.rd, h.few, h.gp⟩
    obtain ⟨l1, l2, l3⟩ := h.live n b hn hb
    refine ⟨l1, l2, ?_⟩
    by_cases h0 : four4 b 0 = 0
    · rw [l2 h0]
      exact Nat.zero_le _
    · exact Nat.le_of_lt (hge n b hn hb (by omega))
end Go.Fur
