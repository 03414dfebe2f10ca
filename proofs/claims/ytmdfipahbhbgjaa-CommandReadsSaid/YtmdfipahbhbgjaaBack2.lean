/- What is read was laid so; answers and states that were laid are read. Made by genback2.py. -/
import Derived.Test.YtmdfipahbhbgjaaBack10
import Derived.Test.YtmdfipahbhbgjaaDecW
import Derived.Test.YtmdfipahbhbgjaaRefS
namespace Go.Fur
open Go Go.RowKit Go.Proofs
set_option linter.unusedVariables false
set_option linter.unusedSimpArgs false
theorem rI_keep0 (l : List Int) (s : Int × Int) (h : (rI l s).2.2 = 0) : s.2 = 0 := by
  unfold rI at h
  by_cases he : s.2 = 0
  · exact he
  · rw [if_neg he] at h; exact h
theorem rU_keep0 (l : List Int) (most bad : Int) (s : Int × Int) (h : (rU l most bad s).2.2 = 0) : s.2 = 0 := by
  unfold rU at h
  by_cases he : s.2 = 0
  · exact he
  · rw [if_neg he] at h; exact h
theorem dg_up (y k : Nat) : ∀ m, m ≤ k → dg y (k + 1) m = dg (y / 256) k m
  | 0, _ => rfl
  | m + 1, h => by
    rw [dg_succ, dg_succ, dg_up y k m (by omega), show k + 1 - 1 - m = (k - 1 - m) + 1 by omega, Nat.div_div_eq_div_mul, Nat.pow_succ, Nat.mul_comm (256 ^ (k - 1 - m)) 256]
theorem dg_n256 : ∀ (k : Nat) (t : List Int), t.length = k → Byt t → dg (n256 t) k k = t
  | 0, t, h, _ => by
    obtain rfl := List.length_eq_zero_iff.1 h
    rfl
  | k + 1, t, h, hb => by
    obtain ⟨u, c, rfl⟩ : ∃ u c, t = u ++ [c] := ⟨t.dropLast, t.getLast (by intro e; subst e; cases h), (List.dropLast_concat_getLast _).symm⟩
    have hu : u.length = k := by simpa using h
    have hc := hb c (by simp)
    have ih := dg_n256 k u hu (fun x hx => hb x (by simp [hx]))
    rw [n256_snoc, dg_succ, dg_up _ k k (Nat.le_refl _), show k + 1 - 1 - k = 0 by omega, Nat.pow_zero, Nat.div_one, show (256 * n256 u + c.toNat) / 256 = n256 u by omega, ih]
    congr 2
    omega
theorem readN_inv {l : List Int} (hb : Byt l) (k : Nat) (hk : k ≤ l.length) (h : (readN l (k : Int)).2.2 = 0) :
    ∃ (x : Nat) (t : List Int), x < 18446744073709551616 ∧ readN l (k : Int) = ((x : Int), ((k + (layN x).length : Nat) : Int), 0) ∧ l.drop k = layN x ++ t := by
  have hbd := hb.drop k
  unfold readN at h ⊢
  rw [if_neg (by omega)] at h ⊢
  rw [Int.toNat_natCast] at h ⊢
  cases hd : l.drop k with
  | nil => rw [hd] at h; simp at h
  | cons c t =>
    rw [hd] at h hbd
    dsimp only at h ⊢
    have hc := hbd c List.mem_cons_self
    have ht : Byt t := fun x hx => hbd x (List.mem_cons_of_mem _ hx)
    by_cases h1 : c < 192
    · rw [if_pos h1]
      have hkl : kl c.toNat = 0 := kl_is _ 0 (by omega) (by omega) (fun _ => by rw [sh_vals.1]; omega)
      have hcn : ((c.toNat : Nat) : Int) = c := by omega
      have hl : layN c.toNat = [c] := by unfold layN; rw [if_pos hkl, hcn]
      exact ⟨c.toNat, t, by omega, by rw [hl, hcn]; simp, by rw [hl]; rfl⟩
    rw [if_neg h1] at h ⊢
    by_cases h2 : 199 < c
    · rw [if_pos h2] at h; simp at h
    rw [if_neg h2] at h ⊢
    generalize hm : (c - 191).toNat = m at h ⊢
    by_cases h3 : t.length < m
    · rw [if_pos h3] at h; simp at h
    rw [if_neg h3] at h ⊢
    by_cases h4 : 18446744073709551616 ≤ n256 (t.take m) + sh (m - 1)
    · rw [if_pos h4] at h; simp at h
    rw [if_neg h4]
    have hlen : (t.take m).length = m := by rw [List.length_take]; omega
    have hn := n256_lt (t.take m) (ht.take m)
    rw [hlen] at hn
    have hkl : kl (n256 (t.take m) + sh (m - 1)) = m := kl_is _ m (by omega) (fun _ => by omega) (fun h8 => by
      have := (sh_step m (by omega) h8).1
      omega)
    have hl : layN (n256 (t.take m) + sh (m - 1)) = c :: t.take m := by
      unfold layN
      rw [hkl, if_neg (by omega), Nat.add_sub_cancel, dg_n256 m _ hlen (ht.take m)]
      congr 1
      omega
    refine ⟨n256 (t.take m) + sh (m - 1), t.drop m, by omega, ?_, by rw [hl, List.cons_append, List.take_append_drop]⟩
    rw [hl, List.length_cons, hlen]
    congr 2
    omega
theorem zig_unz (x : Nat) (hx : x < 18446744073709551616) : zig (unz (x : Int)) = x := by
  unfold zig unz
  split <;> split <;> omega
/-- From a to b stands e; a place of l; what a step that is well told. -/
def Vd (l : List Int) (a : Int) : Prop := ∃ k : Nat, a = k ∧ k ≤ l.length
def Seg (l : List Int) (a b : Int) (e : List Int) : Prop := ∃ k : Nat, a = k ∧ k ≤ l.length ∧ (∃ t, l.drop k = e ++ t) ∧ b = ((k + e.length : Nat) : Int)
theorem Seg.vd {l : List Int} {a b : Int} {e : List Int} (h : Seg l a b e) : Vd l b := by
  obtain ⟨k, _, h1, ⟨t, h2⟩, h3⟩ := h
  have h4 := congrArg List.length h2
  rw [List.length_drop, List.length_append] at h4
  exact ⟨_, h3, by omega⟩
theorem Seg.trans {l : List Int} {a b c : Int} {e f : List Int} (h : Seg l a b e) (g : Seg l b c f) : Seg l a c (e ++ f) := by
  obtain ⟨k, rfl, h1, ⟨t, h2⟩, rfl⟩ := h
  obtain ⟨k', h3, h4, ⟨t', h5⟩, rfl⟩ := g
  have hk : k' = k + e.length := by omega
  subst hk
  rw [← List.drop_drop, h2, List.drop_left' rfl] at h5
  exact ⟨k, rfl, h1, ⟨t', by rw [h2, h5, List.append_assoc]⟩, by rw [List.length_append, Nat.add_assoc]⟩
def Got {τ : Type} (l : List Int) (enc : τ → List Int) (ok : τ → Prop) (s : Int × Int) (r : τ × Int × Int) : Prop := r.2.2 = 0 → s.2 = 0 ∧ (Vd l s.1 → Seg l s.1 r.2.1 (enc r.1) ∧ ok r.1)
theorem rI_got {l : List Int} (hb : Byt l) (s : Int × Int) : Got l layI I64 s (rI l s) := by
  intro h
  have hs := rI_keep0 l s h
  refine ⟨hs, ?_⟩
  rintro ⟨k, e, hk⟩
  unfold rI readI at h ⊢
  rw [if_pos hs, e] at h ⊢
  obtain ⟨x, t, hx, h1, h2⟩ := readN_inv hb k hk h
  rw [h1]
  have hz : layI (unz (x : Int)) = layN x := by unfold layI; rw [zig_unz x hx]
  exact ⟨⟨k, rfl, hk, ⟨t, by rw [hz]; exact h2⟩, by rw [hz]⟩, unz_I64 _ (by omega) (by omega)⟩
theorem rU_got {l : List Int} (hb : Byt l) (most bad : Int) (hbad : bad ≠ 0) (s : Int × Int) : Got l (fun x : Int => layN x.toNat) (fun x => 0 ≤ x ∧ x ≤ most ∧ x < 18446744073709551616) s (rU l most bad s) := by
  intro h
  have hs := rU_keep0 l most bad s h
  refine ⟨hs, ?_⟩
  rintro ⟨k, e, hk⟩
  unfold rU at h ⊢
  rw [if_pos hs, e] at h ⊢
  by_cases hc : (readN l (k : Int)).2.2 = 0 ∧ most < (readN l (k : Int)).1
  · rw [if_pos hc] at h; exact absurd h hbad
  rw [if_neg hc] at h ⊢
  obtain ⟨x, t, hx, h1, h2⟩ := readN_inv hb k hk h
  rw [h1] at hc ⊢
  dsimp only at hc ⊢
  rw [Int.toNat_natCast]
  exact ⟨⟨k, rfl, hk, ⟨t, h2⟩, rfl⟩, by omega, by omega, by omega⟩
theorem manyR_got {τ : Type} {l : List Int} {enc : τ → List Int} {ok : τ → Prop} {one : Int × Int → τ × Int × Int} (h1 : ∀ s, Got l enc ok s (one s)) : ∀ (n : Nat) (s : Int × Int), Got l (fun xs : List τ => xs.flatMap enc) (fun xs => xs.length = n ∧ ∀ x ∈ xs, ok x) s (manyR one n s)
  | 0, s => by
    intro h
    exact ⟨h, fun ⟨k, e, hk⟩ => ⟨⟨k, e, hk, ⟨l.drop k, rfl⟩, by rw [show (manyR one 0 s).2.1 = s.1 from rfl, e]; rfl⟩, rfl, fun x hx => by cases hx⟩⟩
  | n + 1, s => by
    have ih := manyR_got h1 n (one s).2
    have g := h1 s
    intro h
    rw [manyR] at h ⊢
    by_cases he : (one s).2.2 = 0
    · rw [if_pos he] at h ⊢
      obtain ⟨h2, g⟩ := g he
      obtain ⟨_, ih⟩ := ih h
      refine ⟨h2, fun v => ?_⟩
      obtain ⟨p1, o1⟩ := g v
      obtain ⟨p2, o2, o3⟩ := ih p1.vd
      refine ⟨by simpa using p1.trans p2, by simpa using o2, fun x hx => ?_⟩
      rcases List.mem_cons.1 hx with rfl | hx
      · exact o1
      · exact o3 x hx
    · rw [if_neg he] at h
      exact absurd h he
theorem allR_got {τ : Type} {l : List Int} (hb : Byt l) {enc : τ → List Int} {ok : τ → Prop} {one : Int × Int → τ × Int × Int} (h1 : ∀ s, Got l enc ok s (one s)) (s : Int × Int) : Got l (eachE enc) (fun xs => xs.length ≤ 1024 ∧ ∀ x ∈ xs, ok x) s (allR l one s) := by
  unfold allR
  have g1 := rU_got hb 1024 3 (by decide) s
  generalize rU l 1024 3 s = r at g1 ⊢
  have g2 := manyR_got h1 r.1.toNat r.2
  intro h
  obtain ⟨h2, g2⟩ := g2 h
  obtain ⟨h3, g1⟩ := g1 h2
  refine ⟨h3, fun v => ?_⟩
  obtain ⟨p1, o1⟩ := g1 v
  obtain ⟨p2, o2, o3⟩ := g2 p1.vd
  refine ⟨?_, by omega, o3⟩
  unfold eachE
  rw [o2]
  exact p1.trans p2
theorem rV_got {l : List Int} (hb : Byt l) (s : Int × Int) : Got l (fun p : Int × Int => layI p.1 ++ layI p.2) (fun p => I64 p.1 ∧ I64 p.2) s (rV l s) := by
  unfold rV
  dsimp only
  have g1 := rI_got hb s
  generalize rI l s = r1 at g1 ⊢
  obtain ⟨x1, s1⟩ := r1
  dsimp only at g1 ⊢
  have g2 := rI_got hb s1
  generalize rI l s1 = r2 at g2 ⊢
  obtain ⟨x2, s2⟩ := r2
  dsimp only at g2 ⊢
  intro h
  obtain ⟨h2, g2⟩ := g2 h
  obtain ⟨h1, g1⟩ := g1 h2
  refine ⟨h1, fun v => ?_⟩
  obtain ⟨p1, o1⟩ := g1 v
  obtain ⟨p2, o2⟩ := g2 p1.vd
  have P := p1.trans (p2)
  dsimp only at P o1 o2 ⊢
  refine ⟨by simpa using P, ?_⟩
  exact ⟨o1, o2⟩
theorem rQ_got {l : List Int} (hb : Byt l) (s : Int × Int) : Got l qEnc Que.ok s (rQ l s) := by
  unfold rQ
  dsimp only
  have g1 := rI_got hb s
  generalize rI l s = r1 at g1 ⊢
  obtain ⟨x1, s1⟩ := r1
  dsimp only at g1 ⊢
  have g2 := rI_got hb s1
  generalize rI l s1 = r2 at g2 ⊢
  obtain ⟨x2, s2⟩ := r2
  dsimp only at g2 ⊢
  have g3 := rI_got hb s2
  generalize rI l s2 = r3 at g3 ⊢
  obtain ⟨x3, s3⟩ := r3
  dsimp only at g3 ⊢
  have g4 := rV_got hb s3
  generalize rV l s3 = r4 at g4 ⊢
  obtain ⟨x4, s4⟩ := r4
  dsimp only at g4 ⊢
  have g5 := rV_got hb s4
  generalize rV l s4 = r5 at g5 ⊢
  obtain ⟨x5, s5⟩ := r5
  dsimp only at g5 ⊢
  intro h
  obtain ⟨h5, g5⟩ := g5 h
  obtain ⟨h4, g4⟩ := g4 h5
  obtain ⟨h3, g3⟩ := g3 h4
  obtain ⟨h2, g2⟩ := g2 h3
  obtain ⟨h1, g1⟩ := g1 h2
  refine ⟨h1, fun v => ?_⟩
  obtain ⟨p1, o1⟩ := g1 v
  obtain ⟨p2, o2⟩ := g2 p1.vd
  obtain ⟨p3, o3⟩ := g3 p2.vd
  obtain ⟨p4, o4⟩ := g4 p3.vd
  obtain ⟨p5, o5⟩ := g5 p4.vd
  have P := p1.trans (p2.trans (p3.trans (p4.trans (p5))))
  dsimp only at P o1 o2 o3 o4 o5 ⊢
  refine ⟨by simpa only [qEnc, Que.ints, intsE_cons, intsE_nil, List.append_assoc, List.nil_append, List.append_nil] using P, ?_⟩
  simp only [Que.ok, Que.ints, List.mem_cons, List.not_mem_nil, or_false, forall_eq_or_imp, forall_eq]
  exact ⟨o1, o2, o3, o4.1, o4.2, o5.1, o5.2⟩
theorem rN_got {l : List Int} (hb : Byt l) (s : Int × Int) : Got l nEnc Nod.ok s (rN l s) := by
  unfold rN
  dsimp only
  have g1 := rI_got hb s
  generalize rI l s = r1 at g1 ⊢
  obtain ⟨x1, s1⟩ := r1
  dsimp only at g1 ⊢
  have g2 := rI_got hb s1
  generalize rI l s1 = r2 at g2 ⊢
  obtain ⟨x2, s2⟩ := r2
  dsimp only at g2 ⊢
  have g3 := rI_got hb s2
  generalize rI l s2 = r3 at g3 ⊢
  obtain ⟨x3, s3⟩ := r3
  dsimp only at g3 ⊢
  have g4 := rI_got hb s3
  generalize rI l s3 = r4 at g4 ⊢
  obtain ⟨x4, s4⟩ := r4
  dsimp only at g4 ⊢
  have g5 := rI_got hb s4
  generalize rI l s4 = r5 at g5 ⊢
  obtain ⟨x5, s5⟩ := r5
  dsimp only at g5 ⊢
  intro h
  obtain ⟨h5, g5⟩ := g5 h
  obtain ⟨h4, g4⟩ := g4 h5
  obtain ⟨h3, g3⟩ := g3 h4
  obtain ⟨h2, g2⟩ := g2 h3
  obtain ⟨h1, g1⟩ := g1 h2
  refine ⟨h1, fun v => ?_⟩
  obtain ⟨p1, o1⟩ := g1 v
  obtain ⟨p2, o2⟩ := g2 p1.vd
  obtain ⟨p3, o3⟩ := g3 p2.vd
  obtain ⟨p4, o4⟩ := g4 p3.vd
  obtain ⟨p5, o5⟩ := g5 p4.vd
  have P := p1.trans (p2.trans (p3.trans (p4.trans (p5))))
  dsimp only at P o1 o2 o3 o4 o5 ⊢
  refine ⟨by simpa only [nEnc, Nod.ints, intsE_cons, intsE_nil, List.append_assoc, List.nil_append, List.append_nil] using P, ?_⟩
  simp only [Nod.ok, Nod.ints, List.mem_cons, List.not_mem_nil, or_false, forall_eq_or_imp, forall_eq]
  exact ⟨o1, o2, o3, o4, o5⟩
theorem rH_got {l : List Int} (hb : Byt l) (s : Int × Int) : Got l (fun p => hEnc (hunP p)) (fun p => (hunP p).ok) s (rH l s) := by
  unfold rH
  dsimp only
  have g1 := rI_got hb s
  generalize rI l s = r1 at g1 ⊢
  obtain ⟨x1, s1⟩ := r1
  dsimp only at g1 ⊢
  have g2 := rI_got hb s1
  generalize rI l s1 = r2 at g2 ⊢
  obtain ⟨x2, s2⟩ := r2
  dsimp only at g2 ⊢
  intro h
  obtain ⟨h2, g2⟩ := g2 h
  obtain ⟨h1, g1⟩ := g1 h2
  refine ⟨h1, fun v => ?_⟩
  obtain ⟨p1, o1⟩ := g1 v
  obtain ⟨p2, o2⟩ := g2 p1.vd
  have P := p1.trans (p2)
  dsimp only at P o1 o2 ⊢
  refine ⟨by simpa only [hEnc, hunP, Hun.ints, intsE_cons, intsE_nil, List.append_assoc, List.nil_append, List.append_nil] using P, ?_⟩
  simp only [Hun.ok, hunP, Hun.ints, List.mem_cons, List.not_mem_nil, or_false, forall_eq_or_imp, forall_eq]
  exact ⟨o1, o2⟩
theorem each_list (xs : List Int) : eachE layI xs = listE xs := rfl
theorem rT_got {l : List Int} (hb : Byt l) (s : Int × Int) : Got l Tas.enc (fun t => t.ok ∧ t.tickets.length ≤ 1024) s (rT l s) := by
  unfold rT
  dsimp only
  have g1 := rI_got hb s
  generalize rI l s = r1 at g1 ⊢
  obtain ⟨x1, s1⟩ := r1
  dsimp only at g1 ⊢
  have g2 := rI_got hb s1
  generalize rI l s1 = r2 at g2 ⊢
  obtain ⟨x2, s2⟩ := r2
  dsimp only at g2 ⊢
  have g3 := rV_got hb s2
  generalize rV l s2 = r3 at g3 ⊢
  obtain ⟨x3, s3⟩ := r3
  dsimp only at g3 ⊢
  have g4 := rI_got hb s3
  generalize rI l s3 = r4 at g4 ⊢
  obtain ⟨x4, s4⟩ := r4
  dsimp only at g4 ⊢
  have g5 := allR_got hb (fun s => rI_got hb s) s4
  generalize allR l (rI l) s4 = r5 at g5 ⊢
  obtain ⟨x5, s5⟩ := r5
  dsimp only at g5 ⊢
  have g6 := rI_got hb s5
  generalize rI l s5 = r6 at g6 ⊢
  obtain ⟨x6, s6⟩ := r6
  dsimp only at g6 ⊢
  intro h
  obtain ⟨h6, g6⟩ := g6 h
  obtain ⟨h5, g5⟩ := g5 h6
  obtain ⟨h4, g4⟩ := g4 h5
  obtain ⟨h3, g3⟩ := g3 h4
  obtain ⟨h2, g2⟩ := g2 h3
  obtain ⟨h1, g1⟩ := g1 h2
  refine ⟨h1, fun v => ?_⟩
  obtain ⟨p1, o1⟩ := g1 v
  obtain ⟨p2, o2⟩ := g2 p1.vd
  obtain ⟨p3, o3⟩ := g3 p2.vd
  obtain ⟨p4, o4⟩ := g4 p3.vd
  obtain ⟨p5, o5⟩ := g5 p4.vd
  obtain ⟨p6, o6⟩ := g6 p5.vd
  have P := p1.trans (p2.trans (p3.trans (p4.trans (p5.trans (p6)))))
  dsimp only at P o1 o2 o3 o4 o5 o6 ⊢
  refine ⟨by simpa only [Tas.enc, each_list, intsE_cons, intsE_nil, List.append_assoc, List.nil_append, List.append_nil] using P, ?_⟩
  simp only [Tas.ok, List.mem_cons, List.not_mem_nil, or_false, forall_eq_or_imp, forall_eq]
  exact ⟨⟨⟨o1, o2, o3.1, o3.2, o4, o6⟩, o5.2⟩, o5.1⟩
theorem rL_got {l : List Int} (hb : Byt l) (s : Int × Int) : Got l Lea.enc (fun t => t.ok ∧ t.cores.length ≤ 1024) s (rL l s) := by
  unfold rL
  dsimp only
  have g1 := rI_got hb s
  generalize rI l s = r1 at g1 ⊢
  obtain ⟨x1, s1⟩ := r1
  dsimp only at g1 ⊢
  have g2 := rI_got hb s1
  generalize rI l s1 = r2 at g2 ⊢
  obtain ⟨x2, s2⟩ := r2
  dsimp only at g2 ⊢
  have g3 := rI_got hb s2
  generalize rI l s2 = r3 at g3 ⊢
  obtain ⟨x3, s3⟩ := r3
  dsimp only at g3 ⊢
  have g4 := allR_got hb (fun s => rI_got hb s) s3
  generalize allR l (rI l) s3 = r4 at g4 ⊢
  obtain ⟨x4, s4⟩ := r4
  dsimp only at g4 ⊢
  have g5 := rI_got hb s4
  generalize rI l s4 = r5 at g5 ⊢
  obtain ⟨x5, s5⟩ := r5
  dsimp only at g5 ⊢
  have g6 := rI_got hb s5
  generalize rI l s5 = r6 at g6 ⊢
  obtain ⟨x6, s6⟩ := r6
  dsimp only at g6 ⊢
  have g7 := rI_got hb s6
  generalize rI l s6 = r7 at g7 ⊢
  obtain ⟨x7, s7⟩ := r7
  dsimp only at g7 ⊢
  have g8 := rU_got hb 1 4 (by decide) s7
  generalize rU l 1 4 s7 = r8 at g8 ⊢
  obtain ⟨x8, s8⟩ := r8
  dsimp only at g8 ⊢
  intro h
  obtain ⟨h8, g8⟩ := g8 h
  obtain ⟨h7, g7⟩ := g7 h8
  obtain ⟨h6, g6⟩ := g6 h7
  obtain ⟨h5, g5⟩ := g5 h6
  obtain ⟨h4, g4⟩ := g4 h5
  obtain ⟨h3, g3⟩ := g3 h4
  obtain ⟨h2, g2⟩ := g2 h3
  obtain ⟨h1, g1⟩ := g1 h2
  refine ⟨h1, fun v => ?_⟩
  obtain ⟨p1, o1⟩ := g1 v
  obtain ⟨p2, o2⟩ := g2 p1.vd
  obtain ⟨p3, o3⟩ := g3 p2.vd
  obtain ⟨p4, o4⟩ := g4 p3.vd
  obtain ⟨p5, o5⟩ := g5 p4.vd
  obtain ⟨p6, o6⟩ := g6 p5.vd
  obtain ⟨p7, o7⟩ := g7 p6.vd
  obtain ⟨p8, o8⟩ := g8 p7.vd
  have P := p1.trans (p2.trans (p3.trans (p4.trans (p5.trans (p6.trans (p7.trans (p8)))))))
  dsimp only at P o1 o2 o3 o4 o5 o6 o7 o8 ⊢
  refine ⟨by have e8 : x8.toNat = (if (x8 == 1) = true then 1 else 0) := (by obtain ⟨z0, z1, _⟩ := o8; by_cases hx : x8 = 1 <;> simp [hx] <;> omega); rw [e8] at P; simpa only [Lea.enc, each_list, intsE_cons, intsE_nil, List.append_assoc, List.nil_append, List.append_nil] using P, ?_⟩
  simp only [Lea.ok, List.mem_cons, List.not_mem_nil, or_false, forall_eq_or_imp, forall_eq]
  exact ⟨⟨⟨o1, o2, o3, o5, o6, o7⟩, o4.2⟩, o4.1⟩
theorem rC_got {l : List Int} (hb : Byt l) (s : Int × Int) : Got l Cmd.enc (fun t => t.ok ∧ 0 ≤ t.kind ∧ t.task.tickets.length ≤ 1024) s (rC l s) := by
  unfold rC
  dsimp only
  have g1 := rU_got hb 9223372036854775807 4 (by decide) s
  generalize rU l 9223372036854775807 4 s = r1 at g1 ⊢
  obtain ⟨x1, s1⟩ := r1
  dsimp only at g1 ⊢
  have g2 := rI_got hb s1
  generalize rI l s1 = r2 at g2 ⊢
  obtain ⟨x2, s2⟩ := r2
  dsimp only at g2 ⊢
  have g3 := rI_got hb s2
  generalize rI l s2 = r3 at g3 ⊢
  obtain ⟨x3, s3⟩ := r3
  dsimp only at g3 ⊢
  have g4 := rI_got hb s3
  generalize rI l s3 = r4 at g4 ⊢
  obtain ⟨x4, s4⟩ := r4
  dsimp only at g4 ⊢
  have g5 := rI_got hb s4
  generalize rI l s4 = r5 at g5 ⊢
  obtain ⟨x5, s5⟩ := r5
  dsimp only at g5 ⊢
  have g6 := rQ_got hb s5
  generalize rQ l s5 = r6 at g6 ⊢
  obtain ⟨x6, s6⟩ := r6
  dsimp only at g6 ⊢
  have g7 := rN_got hb s6
  generalize rN l s6 = r7 at g7 ⊢
  obtain ⟨x7, s7⟩ := r7
  dsimp only at g7 ⊢
  have g8 := rT_got hb s7
  generalize rT l s7 = r8 at g8 ⊢
  obtain ⟨x8, s8⟩ := r8
  dsimp only at g8 ⊢
  intro h
  obtain ⟨h8, g8⟩ := g8 h
  obtain ⟨h7, g7⟩ := g7 h8
  obtain ⟨h6, g6⟩ := g6 h7
  obtain ⟨h5, g5⟩ := g5 h6
  obtain ⟨h4, g4⟩ := g4 h5
  obtain ⟨h3, g3⟩ := g3 h4
  obtain ⟨h2, g2⟩ := g2 h3
  obtain ⟨h1, g1⟩ := g1 h2
  refine ⟨h1, fun v => ?_⟩
  obtain ⟨p1, o1⟩ := g1 v
  obtain ⟨p2, o2⟩ := g2 p1.vd
  obtain ⟨p3, o3⟩ := g3 p2.vd
  obtain ⟨p4, o4⟩ := g4 p3.vd
  obtain ⟨p5, o5⟩ := g5 p4.vd
  obtain ⟨p6, o6⟩ := g6 p5.vd
  obtain ⟨p7, o7⟩ := g7 p6.vd
  obtain ⟨p8, o8⟩ := g8 p7.vd
  have P := p1.trans (p2.trans (p3.trans (p4.trans (p5.trans (p6.trans (p7.trans (p8)))))))
  dsimp only at P o1 o2 o3 o4 o5 o6 o7 o8 ⊢
  refine ⟨by have e1 : u64 x1 = x1.toNat := (by obtain ⟨z0, z1, _⟩ := o1; unfold u64; omega); simpa only [Cmd.enc, e1, qEnc, nEnc, intsE_cons, intsE_nil, List.append_assoc, List.nil_append, List.append_nil] using P, ?_⟩
  simp only [Cmd.ok, List.mem_cons, List.not_mem_nil, or_false, forall_eq_or_imp, forall_eq]
  obtain ⟨z0, z1, _⟩ := o1
  exact ⟨⟨⟨⟨by omega, by omega⟩, o2, o3, o4, o5⟩, o6, o7, o8.1⟩, z0, o8.2⟩
theorem rE_got {l : List Int} (hb : Byt l) (s : Int × Int) : Got l Ent.enc (fun t => t.ok ∧ t.err = 0) s (rE l s) := by
  unfold rE
  dsimp only
  have g1 := rI_got hb s
  generalize rI l s = r1 at g1 ⊢
  obtain ⟨x1, s1⟩ := r1
  dsimp only at g1 ⊢
  have g2 := rI_got hb s1
  generalize rI l s1 = r2 at g2 ⊢
  obtain ⟨x2, s2⟩ := r2
  dsimp only at g2 ⊢
  have g3 := rI_got hb s2
  generalize rI l s2 = r3 at g3 ⊢
  obtain ⟨x3, s3⟩ := r3
  dsimp only at g3 ⊢
  have g4 := rC_got hb s3
  generalize rC l s3 = r4 at g4 ⊢
  obtain ⟨x4, s4⟩ := r4
  dsimp only at g4 ⊢
  intro h
  obtain ⟨h4, g4⟩ := g4 h
  obtain ⟨h3, g3⟩ := g3 h4
  obtain ⟨h2, g2⟩ := g2 h3
  obtain ⟨h1, g1⟩ := g1 h2
  refine ⟨h1, fun v => ?_⟩
  obtain ⟨p1, o1⟩ := g1 v
  obtain ⟨p2, o2⟩ := g2 p1.vd
  obtain ⟨p3, o3⟩ := g3 p2.vd
  obtain ⟨p4, o4⟩ := g4 p3.vd
  have P := p1.trans (p2.trans (p3.trans (p4)))
  dsimp only at P o1 o2 o3 o4 ⊢
  refine ⟨by simpa only [Ent.enc, intsE_cons, intsE_nil, List.append_assoc, List.nil_append, List.append_nil] using P, ?_⟩
  simp only [Ent.ok, List.mem_cons, List.not_mem_nil, or_false, forall_eq_or_imp, forall_eq]
  exact ⟨⟨⟨o1, o2, o3⟩, o4.1⟩, by unfold Ent.err; rw [if_neg (by have := o4.2.2; dsimp only; omega), if_neg (by have := o4.2.1; dsimp only; omega)]⟩
theorem rA_got {l : List Int} (hb : Byt l) (s : Int × Int) : Got l Ans.enc (fun t => t.ok ∧ t.er = 0) s (rA l s) := by
  unfold rA
  dsimp only
  have g1 := rI_got hb s
  generalize rI l s = r1 at g1 ⊢
  obtain ⟨x1, s1⟩ := r1
  dsimp only at g1 ⊢
  have g2 := rI_got hb s1
  generalize rI l s1 = r2 at g2 ⊢
  obtain ⟨x2, s2⟩ := r2
  dsimp only at g2 ⊢
  have g3 := rI_got hb s2
  generalize rI l s2 = r3 at g3 ⊢
  obtain ⟨x3, s3⟩ := r3
  dsimp only at g3 ⊢
  have g4 := allR_got hb (fun s => rI_got hb s) s3
  generalize allR l (rI l) s3 = r4 at g4 ⊢
  obtain ⟨x4, s4⟩ := r4
  dsimp only at g4 ⊢
  have g5 := allR_got hb (fun s => rL_got hb s) s4
  generalize allR l (rL l) s4 = r5 at g5 ⊢
  obtain ⟨x5, s5⟩ := r5
  dsimp only at g5 ⊢
  intro h
  obtain ⟨h5, g5⟩ := g5 h
  obtain ⟨h4, g4⟩ := g4 h5
  obtain ⟨h3, g3⟩ := g3 h4
  obtain ⟨h2, g2⟩ := g2 h3
  obtain ⟨h1, g1⟩ := g1 h2
  refine ⟨h1, fun v => ?_⟩
  obtain ⟨p1, o1⟩ := g1 v
  obtain ⟨p2, o2⟩ := g2 p1.vd
  obtain ⟨p3, o3⟩ := g3 p2.vd
  obtain ⟨p4, o4⟩ := g4 p3.vd
  obtain ⟨p5, o5⟩ := g5 p4.vd
  have P := p1.trans (p2.trans (p3.trans (p4.trans (p5))))
  dsimp only at P o1 o2 o3 o4 o5 ⊢
  refine ⟨by simpa only [Ans.enc, each_list, intsE_cons, intsE_nil, List.append_assoc, List.nil_append, List.append_nil] using P, ?_⟩
  simp only [Ans.ok, List.mem_cons, List.not_mem_nil, or_false, forall_eq_or_imp, forall_eq]
  have hsh : shortL x5 = true := decide_eq_true ⟨fun t ht => (o5.2 t ht).2, o5.1⟩
  exact ⟨⟨⟨o1, o2, o3⟩, o4.2, fun t ht => (o5.2 t ht).1⟩, by rw [Ans.er_is, if_neg (fun h => h.elim (fun h => by have := o4.1; dsimp only at h; omega) (fun h => by dsimp only at h; rw [hsh] at h; cases h))]⟩
theorem eachE_map {τ σ : Type} (enc : τ → List Int) (f : σ → τ) (l : List σ) : eachE (fun x => enc (f x)) l = eachE enc (l.map f) := by
  unfold eachE
  rw [List.length_map, List.flatMap_map]
theorem Sta.er_0 {x : Sta} (h1 : x.queues.length ≤ 1024) (h2 : x.nodes.length ≤ 1024) (h3 : x.tasks.length ≤ 1024) (h4 : x.hungry.length ≤ 1024) (h5 : x.leases.length ≤ 1024) (h6 : ∀ t ∈ x.leases, t.cores.length ≤ 1024) (h7 : ∀ t ∈ x.tasks, t.tickets.length ≤ 1024) : x.er = 0 := by
  have hs : shortL x.leases = true := decide_eq_true ⟨h6, h5⟩
  have ht : x.tasks.any tasLong = false := by
    rw [List.any_eq_false]
    intro t ht
    have := h7 t ht
    unfold tasLong
    simp
    omega
  rw [Sta.er_is]
  unfold Sta.lg Sta.lg0
  rw [hs, ht, decide_eq_false (by omega), decide_eq_false (by omega), decide_eq_false (by omega), decide_eq_false (by omega)]
  rfl
theorem Sta.of_er {x : Sta} (h : x.er = 0) : x.queues.length ≤ 1024 ∧ x.nodes.length ≤ 1024 ∧ x.tasks.length ≤ 1024 ∧ x.hungry.length ≤ 1024 ∧ x.leases.length ≤ 1024 ∧ (∀ t ∈ x.leases, t.cores.length ≤ 1024) ∧ ∀ t ∈ x.tasks, t.tickets.length ≤ 1024 := by
  rw [Sta.er_is] at h
  cases hl : x.lg with
  | true => rw [hl] at h; simp at h
  | false =>
    unfold Sta.lg Sta.lg0 at hl
    simp only [Bool.or_eq_false_iff, decide_eq_false_iff_not, Bool.not_eq_false', List.any_eq_false] at hl
    have hs : shortL x.leases = true := by simp_all
    have hs2 := of_decide_eq_true hs
    refine ⟨by simp_all, by simp_all, by simp_all, by simp_all, hs2.2, hs2.1, ?_⟩
    intro t ht
    have : ¬ tasLong t = true := by simp_all
    unfold tasLong at this
    simp at this
    omega
theorem rS_got {l : List Int} (hb : Byt l) (s : Int × Int) : Got l Sta.enc (fun t => t.ok ∧ t.er = 0) s (rS l s) := by
  unfold rS
  dsimp only
  have g1 := rI_got hb s
  generalize rI l s = r1 at g1 ⊢
  obtain ⟨x1, s1⟩ := r1
  dsimp only at g1 ⊢
  have g2 := rI_got hb s1
  generalize rI l s1 = r2 at g2 ⊢
  obtain ⟨x2, s2⟩ := r2
  dsimp only at g2 ⊢
  have g3 := rI_got hb s2
  generalize rI l s2 = r3 at g3 ⊢
  obtain ⟨x3, s3⟩ := r3
  dsimp only at g3 ⊢
  have g4 := allR_got hb (fun s => rQ_got hb s) s3
  generalize allR l (rQ l) s3 = r4 at g4 ⊢
  obtain ⟨x4, s4⟩ := r4
  dsimp only at g4 ⊢
  have g5 := allR_got hb (fun s => rN_got hb s) s4
  generalize allR l (rN l) s4 = r5 at g5 ⊢
  obtain ⟨x5, s5⟩ := r5
  dsimp only at g5 ⊢
  have g6 := allR_got hb (fun s => rT_got hb s) s5
  generalize allR l (rT l) s5 = r6 at g6 ⊢
  obtain ⟨x6, s6⟩ := r6
  dsimp only at g6 ⊢
  have g7 := allR_got hb (fun s => rL_got hb s) s6
  generalize allR l (rL l) s6 = r7 at g7 ⊢
  obtain ⟨x7, s7⟩ := r7
  dsimp only at g7 ⊢
  have g8 := allR_got hb (fun s => rH_got hb s) s7
  generalize allR l (rH l) s7 = r8 at g8 ⊢
  obtain ⟨x8, s8⟩ := r8
  dsimp only at g8 ⊢
  intro h
  obtain ⟨h8, g8⟩ := g8 h
  obtain ⟨h7, g7⟩ := g7 h8
  obtain ⟨h6, g6⟩ := g6 h7
  obtain ⟨h5, g5⟩ := g5 h6
  obtain ⟨h4, g4⟩ := g4 h5
  obtain ⟨h3, g3⟩ := g3 h4
  obtain ⟨h2, g2⟩ := g2 h3
  obtain ⟨h1, g1⟩ := g1 h2
  refine ⟨h1, fun v => ?_⟩
  obtain ⟨p1, o1⟩ := g1 v
  obtain ⟨p2, o2⟩ := g2 p1.vd
  obtain ⟨p3, o3⟩ := g3 p2.vd
  obtain ⟨p4, o4⟩ := g4 p3.vd
  obtain ⟨p5, o5⟩ := g5 p4.vd
  obtain ⟨p6, o6⟩ := g6 p5.vd
  obtain ⟨p7, o7⟩ := g7 p6.vd
  obtain ⟨p8, o8⟩ := g8 p7.vd
  have P := p1.trans (p2.trans (p3.trans (p4.trans (p5.trans (p6.trans (p7.trans (p8)))))))
  dsimp only at P o1 o2 o3 o4 o5 o6 o7 o8 ⊢
  refine ⟨by simpa only [Sta.enc, eachE_map, intsE_cons, intsE_nil, List.append_assoc, List.nil_append, List.append_nil] using P, ?_⟩
  simp only [Sta.ok, List.mem_cons, List.not_mem_nil, or_false, forall_eq_or_imp, forall_eq]
  refine ⟨⟨⟨o1, o2, o3⟩, o4.2, o5.2, fun t ht => (o6.2 t ht).1, fun t ht => (o7.2 t ht).1, fun t ht => ?_⟩, Sta.er_0 o4.1 o5.1 o6.1 (by dsimp only; rw [List.length_map]; exact o8.1) o7.1 (fun t ht => (o7.2 t ht).2) (fun t ht => (o6.2 t ht).2)⟩
  obtain ⟨p, hp, rfl⟩ := List.mem_map.1 ht
  exact o8.2 p hp
/-- What is read is written as it was. -/
theorem got_back {τ : Type} {l : List Int} {enc : τ → List Int} {ok : τ → Prop} {r : τ × Int × Int} {zero : τ} (g : Got l enc ok (0, 0) r) (h : (decR l zero r).2.2 = 0) : (decR l zero r).1 = r.1 ∧ enc r.1 = l ∧ ok r.1 := by
  have he : (endR l r.2).2 = 0 := by
    unfold decR at h
    split at h
    · assumption
    · exact h
  unfold decR
  rw [if_pos he]
  refine ⟨rfl, ?_⟩
  unfold endR at he
  split at he
  · rename_i h0
    split at he
    · simp at he
    · rename_i h1
      obtain ⟨_, g⟩ := g h0
      obtain ⟨⟨k, hk, _, ⟨t, h2⟩, h3⟩, ok⟩ := g ⟨0, rfl, Nat.zero_le _⟩
      have hk0 : k = 0 := by dsimp only at hk; omega
      subst hk0
      rw [List.drop_zero] at h2
      have h4 := congrArg List.length h2
      rw [List.length_append] at h4
      have ht : t = [] := List.length_eq_zero_iff.1 (by omega)
      subst ht
      rw [List.append_nil] at h2
      exact ⟨h2.symm, ok⟩
  · rename_i h0
    exact absurd he h0
theorem enc_decE {l : List Int} (hb : Byt l) (h : (decR l ent0 (rE l (0, 0))).2.2 = 0) : encE (decR l ent0 (rE l (0, 0))).1 = (l, 0) ∧ (decR l ent0 (rE l (0, 0))).1.ok := by
  obtain ⟨h1, h2, h3, h4⟩ := got_back (rE_got hb (0, 0)) h
  rw [h1]
  unfold encE
  rw [if_pos h4, h2]
  exact ⟨rfl, h3⟩
theorem enc_decA {l : List Int} (hb : Byt l) (h : (decR l ans0 (rA l (0, 0))).2.2 = 0) : encA (decR l ans0 (rA l (0, 0))).1 = (l, 0) ∧ (decR l ans0 (rA l (0, 0))).1.ok := by
  obtain ⟨h1, h2, h3, h4⟩ := got_back (rA_got hb (0, 0)) h
  rw [h1]
  unfold encA
  rw [if_pos h4, h2]
  exact ⟨rfl, h3⟩
theorem enc_decS {l : List Int} (hb : Byt l) (h : (decR l sta0 (rS l (0, 0))).2.2 = 0) : encS (decR l sta0 (rS l (0, 0))).1 = (l, 0) ∧ (decR l sta0 (rS l (0, 0))).1.ok := by
  obtain ⟨h1, h2, h3, h4⟩ := got_back (rS_got hb (0, 0)) h
  rw [h1]
  unfold encS
  rw [if_pos h4, h2]
  exact ⟨rfl, h3⟩
/-- A thing takes no less bytes than it has numbers. -/
theorem layN_pos (x : Nat) : 1 ≤ (layN x).length := by rw [layN_length]; omega
theorem intsE_ge : ∀ l : List Int, l.length ≤ (intsE l).length
  | [] => Nat.zero_le _
  | x :: l => by
    have := intsE_ge l
    have h := layN_pos (zig x)
    rw [intsE_cons, List.length_append, List.length_cons]
    unfold layI
    omega
theorem flat_ge {τ : Type} (enc : τ → List Int) (me : τ → Nat) : ∀ l : List τ, (∀ t ∈ l, me t ≤ (enc t).length) → (l.map me).sum ≤ (l.flatMap enc).length
  | [], _ => Nat.zero_le _
  | t :: l, h => by
    have h1 := h t List.mem_cons_self
    have h2 := flat_ge enc me l (fun x hx => h x (List.mem_cons_of_mem _ hx))
    simp only [List.map_cons, List.sum_cons, List.flatMap_cons, List.length_append]
    omega
theorem Lea.enc_ge (t : Lea) : t.cores.length + 1 ≤ t.enc.length := by
  have h1 := intsE_ge t.cores
  have h2 := layN_pos t.cores.length
  unfold Lea.enc listE
  simp only [List.length_append]
  omega
theorem Tas.enc_ge (t : Tas) : t.tickets.length + 1 ≤ t.enc.length := by
  have h1 := intsE_ge t.tickets
  have h2 := layN_pos t.tickets.length
  unfold Tas.enc listE
  simp only [List.length_append]
  omega
theorem sum_1 {τ : Type} : ∀ l : List τ, (l.map fun _ => 1).sum = l.length
  | [] => rfl
  | t :: l => by simp only [List.map_cons, List.sum_cons, List.length_cons, sum_1 l]; omega
theorem Ent.enc_ge (t : Ent) : t.cmd.task.tickets.length ≤ t.enc.length := by
  have := t.cmd.task.enc_ge
  unfold Ent.enc Cmd.enc
  simp only [List.length_append]
  omega
theorem Ans.enc_ge (t : Ans) : t.bulk ≤ t.enc.length := by
  have h1 := intsE_ge t.cores
  have h2 := flat_ge Lea.enc (fun t => t.cores.length + 1) t.leases (fun t _ => t.enc_ge)
  unfold Ans.bulk Ans.enc listE eachE
  simp only [List.length_append]
  omega
theorem Sta.enc_ge (t : Sta) : t.bulk ≤ t.enc.length := by
  have h1 := flat_ge qEnc (fun _ => 1) t.queues (fun t _ => by have := intsE_ge t.ints; have h : t.ints.length = 7 := rfl; unfold qEnc; omega)
  have h2 := flat_ge nEnc (fun _ => 1) t.nodes (fun t _ => by have := intsE_ge t.ints; have h : t.ints.length = 5 := rfl; unfold nEnc; omega)
  have h3 := flat_ge Tas.enc (fun t => t.tickets.length + 1) t.tasks (fun t _ => t.enc_ge)
  have h4 := flat_ge Lea.enc (fun t => t.cores.length + 1) t.leases (fun t _ => t.enc_ge)
  have h5 := flat_ge hEnc (fun _ => 1) t.hungry (fun t _ => by have := intsE_ge t.ints; have h : t.ints.length = 2 := rfl; unfold hEnc; omega)
  rw [sum_1] at h1 h2 h5
  unfold Sta.bulk Sta.enc eachE
  simp only [List.length_append]
  omega
theorem decE_small {l : List Int} (hb : Byt l) (h : (decR l ent0 (rE l (0, 0))).2.2 = 0) : (decR l ent0 (rE l (0, 0))).1.cmd.task.tickets.length ≤ l.length := by
  obtain ⟨h1, h2, _⟩ := got_back (rE_got hb (0, 0)) h
  have := (rE l (0, 0)).1.enc_ge
  rw [h1]
  rw [h2] at this
  exact this
theorem decA_small {l : List Int} (hb : Byt l) (h : (decR l ans0 (rA l (0, 0))).2.2 = 0) : (decR l ans0 (rA l (0, 0))).1.bulk ≤ l.length := by
  obtain ⟨h1, h2, _⟩ := got_back (rA_got hb (0, 0)) h
  have := (rA l (0, 0)).1.enc_ge
  rw [h1]
  rw [h2] at this
  exact this
theorem decS_small {l : List Int} (hb : Byt l) (h : (decR l sta0 (rS l (0, 0))).2.2 = 0) : (decR l sta0 (rS l (0, 0))).1.bulk ≤ l.length := by
  obtain ⟨h1, h2, _⟩ := got_back (rS_got hb (0, 0)) h
  have := (rS l (0, 0)).1.enc_ge
  rw [h1]
  rw [h2] at this
  exact this
/-- Lists that were laid are read. -/
theorem many_at {τ : Type} {l : List Int} {one : Int × Int → τ × Int × Int} {enc : τ → List Int} : ∀ (xs : List τ) (k : Nat) (t : List Int), (∀ x ∈ xs, ∀ (k : Nat) t, Sx l k (enc x ++ t) → one ((k : Int), 0) = (x, ((k + (enc x).length : Nat) : Int), 0)) → Sx l k (xs.flatMap enc ++ t) → manyR one xs.length ((k : Int), 0) = (xs, ((k + (xs.flatMap enc).length : Nat) : Int), 0)
  | [], k, t, _, _ => by simp [manyR]
  | x :: xs, k, t, hx, h => by
    rw [List.flatMap_cons, List.append_assoc] at h
    have ih := many_at xs (k + (enc x).length) t (fun y hy => hx y (List.mem_cons_of_mem _ hy)) h.step
    rw [List.length_cons, manyR, hx x List.mem_cons_self k _ h]
    dsimp only
    rw [if_pos rfl, ih]
    dsimp only
    rw [List.flatMap_cons, List.length_append, Nat.add_assoc]
theorem all_at {τ : Type} {l : List Int} {one : Int × Int → τ × Int × Int} {enc : τ → List Int} {xs : List τ} {k : Nat} {t : List Int} (hx : ∀ x ∈ xs, ∀ (k : Nat) t, Sx l k (enc x ++ t) → one ((k : Int), 0) = (x, ((k + (enc x).length : Nat) : Int), 0)) (hn : xs.length ≤ 1024) (h : Sx l k (eachE enc xs ++ t)) : allR l one ((k : Int), 0) = (xs, ((k + (eachE enc xs).length : Nat) : Int), 0) := by
  unfold eachE at h ⊢
  rw [List.append_assoc] at h
  unfold allR
  rw [rU_at (by omega) (by omega) h]
  dsimp only
  rw [Int.toNat_natCast, many_at xs _ t hx h.step, List.length_append, Nat.add_assoc]
theorem rL_at {l : List Int} {k : Nat} {t : List Int} {q : Lea} (hq : q.ok) (hn : q.cores.length ≤ 1024) (h : Sx l k (q.enc ++ t)) : rL l ((k : Int), 0) = (q, ((k + q.enc.length : Nat) : Int), 0) := by
  unfold Lea.ok at hq
  obtain ⟨a1, a2, a3, a4, a5, a6, a7, a8⟩ := q
  simp only [List.mem_cons, List.not_mem_nil, or_false, forall_eq_or_imp, forall_eq] at hq
  obtain ⟨⟨h1, h2, h3, h5, h6, h7⟩, h4⟩ := hq
  simp only [Lea.enc, intsE_cons, intsE_nil, List.append_assoc, List.nil_append, List.append_nil] at h ⊢
  unfold rL
  dsimp only
  rw [rI_at h1 h]
  dsimp only
  rw [rI_at h2 h.step]
  dsimp only
  rw [rI_at h3 h.step.step]
  dsimp only
  rw [allI_at h4 hn h.step.step.step]
  dsimp only
  rw [rI_at h5 h.step.step.step.step]
  dsimp only
  rw [rI_at h6 h.step.step.step.step.step]
  dsimp only
  rw [rI_at h7 h.step.step.step.step.step.step]
  dsimp only
  rw [rU_at (by split <;> omega) (by split <;> omega) h.step.step.step.step.step.step.step]
  dsimp only
  have e8 : ((((if a8 = true then 1 else 0 : Nat)) : Int) == 1) = a8 := by cases a8 <;> rfl
  rw [e8]
  congr 3
  simp only [List.length_append]
  omega
theorem rH_at {l : List Int} {k : Nat} {t : List Int} {p : Int × Int} (hq : (hunP p).ok) (h : Sx l k (hEnc (hunP p) ++ t)) : rH l ((k : Int), 0) = (p, ((k + (hEnc (hunP p)).length : Nat) : Int), 0) := by
  obtain ⟨a1, a2⟩ := p
  simp only [Hun.ok, hunP, Hun.ints, List.mem_cons, List.not_mem_nil, or_false, forall_eq_or_imp, forall_eq] at hq
  obtain ⟨h1, h2⟩ := hq
  simp only [hEnc, hunP, Hun.ints, intsE_cons, intsE_nil, List.append_assoc, List.nil_append, List.append_nil] at h ⊢
  unfold rH
  dsimp only
  rw [rI_at h1 h]
  dsimp only
  rw [rI_at h2 h.step]
  dsimp only
  congr 3
  simp only [List.length_append]
  omega
theorem rA_at {l : List Int} {k : Nat} {t : List Int} {q : Ans} (hq : q.ok) (he : q.er = 0) (h : Sx l k (q.enc ++ t)) : rA l ((k : Int), 0) = (q, ((k + q.enc.length : Nat) : Int), 0) := by
  rw [Ans.er_is] at he
  have hn : q.cores.length ≤ 1024 ∧ shortL q.leases = true := by
    constructor
    · by_cases hc : 1024 < q.cores.length
      · rw [if_pos (.inl hc)] at he; simp at he
      · omega
    · cases hs : shortL q.leases with
      | true => rfl
      | false => rw [if_pos (.inr hs)] at he; simp at he
  obtain ⟨n4, hs⟩ := hn
  have hs2 := of_decide_eq_true hs
  unfold Ans.ok at hq
  obtain ⟨a1, a2, a3, a4, a5⟩ := q
  simp only [List.mem_cons, List.not_mem_nil, or_false, forall_eq_or_imp, forall_eq] at hq
  obtain ⟨⟨h1, h2, h3⟩, h4, h5⟩ := hq
  simp only [Ans.enc, intsE_cons, intsE_nil, List.append_assoc, List.nil_append, List.append_nil] at h ⊢
  unfold rA
  dsimp only
  rw [rI_at h1 h]
  dsimp only
  rw [rI_at h2 h.step]
  dsimp only
  rw [rI_at h3 h.step.step]
  dsimp only
  rw [allI_at h4 n4 h.step.step.step]
  dsimp only
  rw [all_at (enc := Lea.enc) (t := t) (fun x hx k t hh => rL_at (h5 x hx) (hs2.1 x hx) hh) hs2.2 h.step.step.step.step]
  dsimp only
  congr 3
  simp only [List.length_append]
  omega
theorem rS_at {l : List Int} {k : Nat} {t : List Int} {q : Sta} (hq : q.ok) (he : q.er = 0) (h : Sx l k (q.enc ++ t)) : rS l ((k : Int), 0) = (q, ((k + q.enc.length : Nat) : Int), 0) := by
  obtain ⟨n1, n2, n3, n4, n5, n6, n7⟩ := Sta.of_er he
  unfold Sta.ok at hq
  obtain ⟨a1, a2, a3, a4, a5, a6, a7, a8⟩ := q
  simp only [List.mem_cons, List.not_mem_nil, or_false, forall_eq_or_imp, forall_eq] at hq
  obtain ⟨⟨h1, h2, h3⟩, h4, h5, h6, h7, h8⟩ := hq
  dsimp only at n1 n2 n3 n4 n5 n6 n7
  obtain ⟨ps, rfl⟩ : ∃ ps : List (Int × Int), a8 = ps.map hunP := ⟨a8.map (fun t => (t.queue, t.since)), by rw [List.map_map]; simp [Function.comp_def, hunP]⟩
  rw [List.length_map] at n4
  have h8' : ∀ p ∈ ps, (hunP p).ok := fun p hp => h8 _ (List.mem_map.2 ⟨p, hp, rfl⟩)
  simp only [Sta.enc, ← eachE_map, intsE_cons, intsE_nil, List.append_assoc, List.nil_append, List.append_nil] at h ⊢
  unfold rS
  dsimp only
  rw [rI_at h1 h]
  dsimp only
  rw [rI_at h2 h.step]
  dsimp only
  rw [rI_at h3 h.step.step]
  dsimp only
  have g := h.step.step.step
  rw [all_at (enc := qEnc) (fun x hx k t hh => rQ_at (h4 x hx) hh) n1 g]
  dsimp only
  rw [all_at (enc := nEnc) (fun x hx k t hh => rN_at (h5 x hx) hh) n2 g.step]
  dsimp only
  rw [all_at (enc := Tas.enc) (fun x hx k t hh => rT_at (h6 x hx) (n7 x hx) hh) n3 g.step.step]
  dsimp only
  rw [all_at (enc := Lea.enc) (fun x hx k t hh => rL_at (h7 x hx) (n6 x hx) hh) n5 g.step.step.step]
  dsimp only
  rw [all_at (enc := fun p => hEnc (hunP p)) (fun x hx k t hh => rH_at (h8' x hx) hh) n4 g.step.step.step.step]
  dsimp only
  congr 3
  simp only [List.length_append]
  omega
theorem dec_encA {t : Ans} (hq : t.ok) (he : t.er = 0) : decR t.enc ans0 (rA t.enc (0, 0)) = (t, 0, 0) := by
  have h := rA_at (l := t.enc) (k := 0) (t := []) hq he ⟨Nat.zero_le _, by simp⟩
  rw [show (((0 : Nat) : Int), (0 : Int)) = (0, 0) from rfl] at h
  rw [h]
  have e : endR t.enc (((0 + t.enc.length : Nat) : Int), 0) = (0, 0) := by
    unfold endR
    dsimp only
    rw [if_pos rfl, if_neg (by omega)]
  unfold decR
  dsimp only
  rw [e]
  rfl
theorem dec_encS {t : Sta} (hq : t.ok) (he : t.er = 0) : decR t.enc sta0 (rS t.enc (0, 0)) = (t, 0, 0) := by
  have h := rS_at (l := t.enc) (k := 0) (t := []) hq he ⟨Nat.zero_le _, by simp⟩
  rw [show (((0 : Nat) : Int), (0 : Int)) = (0, 0) from rfl] at h
  rw [h]
  have e : endR t.enc (((0 + t.enc.length : Nat) : Int), 0) = (0, 0) := by
    unfold endR
    dsimp only
    rw [if_pos rfl, if_neg (by omega)]
  unfold decR
  dsimp only
  rw [e]
  rfl
end Go.Fur
