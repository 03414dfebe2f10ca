/- What was cut short is not read: plain law. -/
import Derived.Test.YtmdfipahbhbgjaaBack10
namespace Go.Fur
open Go Go.RowKit Go.Proofs
set_option linter.unusedVariables false
set_option linter.unusedSimpArgs false
/-- A reader's state behind a step over the bytes e: whole, cut short, behind an error. -/
structure Cut (F : List Int → Int × Int → Int × Int) (e : List Int) : Prop where
  keep : ∀ l s, s.2 ≠ 0 → F l s = s
  full : ∀ l (k : Nat) t, Sx l k (e ++ t) → F l ((k : Int), 0) = (((k + e.length : Nat) : Int), 0)
  short : ∀ l (k : Nat) u, k ≤ l.length → l.drop k ++ u = e → u ≠ [] → F l ((k : Int), 0) = ((l.length : Int), 5)
theorem Cut.seq {F G : List Int → Int × Int → Int × Int} {e1 e2 : List Int} (hF : Cut F e1) (hG : Cut G e2) : Cut (fun l s => G l (F l s)) (e1 ++ e2) := by
  refine ⟨fun l s h => ?_, fun l k t h => ?_, fun l k u hk h hu => ?_⟩
  · rw [hF.keep l s h, hG.keep l s h]
  · rw [List.append_assoc] at h
    rw [hF.full l k _ h, hG.full l _ _ h.step, List.length_append, Nat.add_assoc]
  · by_cases hc : e1.length ≤ (l.drop k).length
    · have h1 : (l.drop k).take e1.length = e1 := by
        have := congrArg (List.take e1.length) h
        rwa [List.take_append_of_le_length hc, List.take_left' rfl] at this
      have h2 : (l.drop k).drop e1.length ++ u = e2 := by
        have := congrArg (List.drop e1.length) h
        rwa [List.drop_append_of_le_length hc, List.drop_left' rfl] at this
      have hs : Sx l k (e1 ++ (l.drop k).drop e1.length) := ⟨hk, by
        have := List.take_append_drop e1.length (l.drop k)
        rw [h1] at this
        exact this.symm⟩
      rw [List.length_drop] at hc
      rw [hF.full l k _ hs, hG.short l (k + e1.length) u (by omega) (by rw [← List.drop_drop]; exact h2) hu]
    · have hlt : (l.drop k).length < e1.length := by omega
      have h1 : l.drop k ++ e1.drop (l.drop k).length = e1 := by
        have h3 := congrArg (List.take (l.drop k).length) h
        rw [List.take_left' rfl, List.take_append_of_le_length (by omega)] at h3
        have h4 := List.take_append_drop (l.drop k).length e1
        rw [← h3] at h4
        exact h4
      have hne : e1.drop (l.drop k).length ≠ [] := fun h0 => by
        have := congrArg List.length h0
        rw [List.length_drop, List.length_nil] at this
        omega
      rw [hF.short l k _ hk h1 hne, hG.keep l _ (by dsimp only; omega)]
theorem Cut.nil : Cut (fun _ s => s) [] := ⟨fun _ _ _ => rfl, fun l k t h => rfl, fun l k u hk h hu => by
  have := congrArg List.length h
  rw [List.length_append] at this
  cases u with
  | nil => exact absurd rfl hu
  | cons a b => simp at this⟩
/-- A number cut short. -/
theorem readN_short (l : List Int) (k : Nat) (u : List Int) (x : Nat) (hk : k ≤ l.length) (h : l.drop k ++ u = layN x) (hu : u ≠ []) : readN l (k : Int) = (0, (l.length : Int), 5) := by
  have hl := congrArg List.length h
  rw [List.length_append, List.length_drop, layN_length] at hl
  have hul : 0 < u.length := List.length_pos_iff.2 hu
  have hk8 := kl_le x
  unfold readN
  rw [if_neg (by omega), Int.toNat_natCast]
  cases hd : l.drop k with
  | nil =>
    have : k = l.length := by
      have := congrArg List.length hd
      rw [List.length_drop, List.length_nil] at this
      omega
    subst this
    rfl
  | cons a b =>
    have hb : b.length = l.length - k - 1 := by
      have := congrArg List.length hd
      rw [List.length_drop, List.length_cons] at this
      omega
    rw [hd] at h
    unfold layN at h
    by_cases h0 : kl x = 0
    · have h1 := congrArg List.length hd
      rw [List.length_drop, List.length_cons] at h1
      omega
    · rw [if_neg h0, List.cons_append] at h
      injection h with ha hb'
      dsimp only
      rw [if_neg (by omega), if_neg (by omega)]
      have e : (a - 191).toNat = kl x := by omega
      rw [e, if_pos (by omega)]
theorem cutN (x : Nat) (hx : x < 18446744073709551616) (most bad : Int) (hm : (x : Int) ≤ most) : Cut (fun l s => (rU l most bad s).2) (layN x) := by
  refine ⟨fun l s h => by unfold rU; rw [if_neg h], fun l k t h => by rw [rU_at hm hx h], fun l k u hk h hu => ?_⟩
  unfold rU
  rw [if_pos rfl, readN_short l k u x hk h hu]
  dsimp only
  rw [if_neg (by omega)]
theorem cutI (y : Int) (hy : I64 y) : Cut (fun l s => (rI l s).2) (layI y) := by
  refine ⟨fun l s h => by unfold rI; rw [if_neg h], fun l k t h => by rw [rI_at hy h], fun l k u hk h hu => ?_⟩
  unfold rI readI
  rw [if_pos rfl, readN_short l k u (zig y) hk h hu]
theorem cutMany : ∀ (xs : List Int) (_ : ∀ x ∈ xs, I64 x), Cut (fun l s => (manyR (rI l) xs.length s).2) (intsE xs)
  | [], _ => Cut.nil
  | x :: xs, hx => by
    have h1 := cutI x (hx x List.mem_cons_self)
    have h2 := cutMany xs (fun y hy => hx y (List.mem_cons_of_mem _ hy))
    have h3 := h1.seq h2
    rw [← intsE_cons] at h3
    have e : ∀ l s, (manyR (rI l) (x :: xs).length s).2 = (manyR (rI l) xs.length (rI l s).2).2 := fun l s => by
      rw [List.length_cons, manyR]
      split
      · rfl
      · rename_i hne
        exact (h2.keep l _ hne).symm
    refine ⟨fun l s h => (e l s).trans (h3.keep l s h), fun l k t h => (e l _).trans (h3.full l k t h), fun l k u hk h hu => (e l _).trans (h3.short l k u hk h hu)⟩
theorem cutAll (xs : List Int) (hx : ∀ x ∈ xs, I64 x) (hn : xs.length ≤ 1024) : Cut (fun l s => (allR l (rI l) s).2) (listE xs) := by
  have hc := cutN xs.length (by omega) 1024 3 (by omega)
  have hm := cutMany xs hx
  have hs := hc.seq hm
  refine ⟨fun l s h => ?_, fun l k t h => by rw [allI_at hx hn h], fun l k u hk h hu => ?_⟩
  · unfold allR
    have : rU l 1024 3 s = (0, s) := by unfold rU; rw [if_neg h]
    rw [this]
    rfl
  · unfold listE at h
    have h1 := hs.short l k u hk h hu
    unfold allR
    by_cases hcut : (layN xs.length).length ≤ (l.drop k).length
    · have hh : (l.drop k).take (layN xs.length).length = layN xs.length := by
        have := congrArg (List.take (layN xs.length).length) h
        rwa [List.take_append_of_le_length hcut, List.take_left' rfl] at this
      have hsx : Sx l k (layN xs.length ++ (l.drop k).drop (layN xs.length).length) := ⟨hk, by
        have := List.take_append_drop (layN xs.length).length (l.drop k)
        rw [hh] at this
        exact this.symm⟩
      have hv := rU_at (most := 1024) (bad := 3) (by omega) (by omega) hsx
      rw [hv] at h1 ⊢
      dsimp only at h1 ⊢
      rw [Int.toNat_natCast]
      exact h1
    · have h4 : l.drop k ++ (layN xs.length).drop (l.drop k).length = layN xs.length := by
        have h3 := congrArg (List.take (l.drop k).length) h
        rw [List.take_left' rfl, List.take_append_of_le_length (by omega)] at h3
        have h4 := List.take_append_drop (l.drop k).length (layN xs.length)
        rw [← h3] at h4
        exact h4
      have hne : (layN xs.length).drop (l.drop k).length ≠ [] := fun h0 => by
        have := congrArg List.length h0
        rw [List.length_drop, List.length_nil] at this
        omega
      have hr := readN_short l k _ xs.length hk h4 hne
      have hv : rU l 1024 3 ((k : Int), 0) = (0, (l.length : Int), 5) := by
        unfold rU
        rw [if_pos rfl, hr]
        dsimp only
        rw [if_neg (by omega)]
      rw [hv]
      rfl
theorem cutV (x y : Int) (hx : I64 x) (hy : I64 y) : Cut (fun l s => (rV l s).2) (layI x ++ layI y) := (cutI x hx).seq (cutI y hy)
theorem cutQ (q : Que) (hq : q.ok) : Cut (fun l s => (rQ l s).2) (intsE q.ints) := by
  unfold Que.ok at hq
  obtain ⟨a1, a2, a3, a4, a5, a6, a7⟩ := q
  simp only [Que.ints, List.mem_cons, List.not_mem_nil, or_false, forall_eq_or_imp, forall_eq] at hq
  obtain ⟨h1, h2, h3, h4, h5, h6, h7⟩ := hq
  have := (cutI a1 h1).seq ((cutI a2 h2).seq ((cutI a3 h3).seq ((cutV a4 a5 h4 h5).seq (cutV a6 a7 h6 h7))))
  have e : intsE (Que.ints ⟨a1, a2, a3, a4, a5, a6, a7⟩) = layI a1 ++ (layI a2 ++ (layI a3 ++ ((layI a4 ++ layI a5) ++ (layI a6 ++ layI a7)))) := by
    simp only [Que.ints, intsE_cons, intsE_nil, List.append_assoc, List.append_nil]
  rw [e]
  exact this
theorem cutNod (q : Nod) (hq : q.ok) : Cut (fun l s => (rN l s).2) (intsE q.ints) := by
  unfold Nod.ok at hq
  obtain ⟨a1, a2, a3, a4, a5⟩ := q
  simp only [Nod.ints, List.mem_cons, List.not_mem_nil, or_false, forall_eq_or_imp, forall_eq] at hq
  obtain ⟨h1, h2, h3, h4, h5⟩ := hq
  have := (cutI a1 h1).seq ((cutI a2 h2).seq ((cutI a3 h3).seq ((cutI a4 h4).seq (cutI a5 h5))))
  have e : intsE (Nod.ints ⟨a1, a2, a3, a4, a5⟩) = layI a1 ++ (layI a2 ++ (layI a3 ++ (layI a4 ++ layI a5))) := by
    simp only [Nod.ints, intsE_cons, intsE_nil, List.append_assoc, List.append_nil]
  rw [e]
  exact this
theorem cutT (q : Tas) (hq : q.ok) (hn : q.tickets.length ≤ 1024) : Cut (fun l s => (rT l s).2) q.enc := by
  unfold Tas.ok at hq
  obtain ⟨a1, a2, a3, a4, a5, a6, a7⟩ := q
  simp only [List.mem_cons, List.not_mem_nil, or_false, forall_eq_or_imp, forall_eq] at hq
  obtain ⟨⟨h1, h2, h3, h4, h5, h7⟩, h6⟩ := hq
  have := (cutI a1 h1).seq ((cutI a2 h2).seq ((cutV a3 a4 h3 h4).seq ((cutI a5 h5).seq ((cutAll a6 h6 hn).seq (cutI a7 h7)))))
  have e : Tas.enc ⟨a1, a2, a3, a4, a5, a6, a7⟩ = layI a1 ++ (layI a2 ++ ((layI a3 ++ layI a4) ++ (layI a5 ++ (listE a6 ++ layI a7)))) := by
    simp only [Tas.enc, intsE_cons, intsE_nil, List.append_assoc, List.append_nil]
  rw [e]
  exact this
theorem cutC (q : Cmd) (hq : q.ok) (hk : 0 ≤ q.kind) (hn : q.task.tickets.length ≤ 1024) : Cut (fun l s => (rC l s).2) q.enc := by
  unfold Cmd.ok at hq
  obtain ⟨a1, a2, a3, a4, a5, a6, a7, a8⟩ := q
  simp only [List.mem_cons, List.not_mem_nil, or_false, forall_eq_or_imp, forall_eq] at hq
  obtain ⟨⟨h1, h2, h3, h4, h5⟩, h6, h7, h8⟩ := hq
  dsimp only at hk hn
  have hu : ((u64 a1 : Nat) : Int) = a1 := by unfold u64; obtain ⟨x0, x1⟩ := h1; omega
  have := (cutN (u64 a1) (u64_lt _) 9223372036854775807 4 (by rw [hu]; obtain ⟨x0, x1⟩ := h1; omega)).seq ((cutI a2 h2).seq ((cutI a3 h3).seq ((cutI a4 h4).seq ((cutI a5 h5).seq ((cutQ a6 h6).seq ((cutNod a7 h7).seq (cutT a8 h8 hn)))))))
  have e : Cmd.enc ⟨a1, a2, a3, a4, a5, a6, a7, a8⟩ = layN (u64 a1) ++ (layI a2 ++ (layI a3 ++ (layI a4 ++ (layI a5 ++ (intsE a6.ints ++ (intsE a7.ints ++ a8.enc)))))) := by
    simp only [Cmd.enc, intsE_cons, intsE_nil, List.append_assoc, List.append_nil]
  rw [e]
  exact this
theorem cutE (q : Ent) (hq : q.ok) (hk : 0 ≤ q.cmd.kind) (hn : q.cmd.task.tickets.length ≤ 1024) : Cut (fun l s => (rE l s).2) q.enc := by
  unfold Ent.ok at hq
  obtain ⟨a1, a2, a3, a4⟩ := q
  simp only [List.mem_cons, List.not_mem_nil, or_false, forall_eq_or_imp, forall_eq] at hq
  obtain ⟨⟨h1, h2, h3⟩, h4⟩ := hq
  have := (cutI a1 h1).seq ((cutI a2 h2).seq ((cutI a3 h3).seq (cutC a4 h4 hk hn)))
  have e : Ent.enc ⟨a1, a2, a3, a4⟩ = layI a1 ++ (layI a2 ++ (layI a3 ++ a4.enc)) := by
    simp only [Ent.enc, intsE_cons, intsE_nil, List.append_assoc, List.append_nil]
  rw [e]
  exact this
/-- The bytes of an entry, cut short. -/
theorem dec_cut {t : Ent} (hq : t.ok) (he : t.err = 0) (c : Nat) (hc : c < t.enc.length) : decR (t.enc.take c) ent0 (rE (t.enc.take c) (0, 0)) = (ent0, (c : Int), 5) := by
  obtain ⟨h1, h2⟩ := err_ok he
  have hl : (t.enc.take c).length = c := by rw [List.length_take]; omega
  have h := (cutE t hq h2 h1).short (t.enc.take c) 0 (t.enc.drop c) (Nat.zero_le _) (by rw [List.drop_zero, List.take_append_drop]) (fun h0 => by
    have := congrArg List.length h0
    rw [List.length_drop, List.length_nil] at this
    omega)
  rw [hl] at h
  have h' : (rE (t.enc.take c) (0, 0)).2 = ((c : Int), 5) := h
  have e : endR (t.enc.take c) ((c : Int), 5) = ((c : Int), 5) := by unfold endR; rw [if_neg (by dsimp only; omega)]
  unfold decR
  rw [h', e, if_neg (by dsimp only; omega)]
/-- With a byte more. -/
theorem dec_more {t : Ent} (hq : t.ok) (he : t.err = 0) (m : Int) : decR (t.enc ++ [m]) ent0 (rE (t.enc ++ [m]) (0, 0)) = (ent0, (t.enc.length : Int), 7) := by
  obtain ⟨h1, h2⟩ := err_ok he
  have h := rE_at (l := t.enc ++ [m]) (k := 0) (t := [m]) hq h2 h1 ⟨Nat.zero_le _, by simp⟩
  rw [show (((0 : Nat) : Int), (0 : Int)) = (0, 0) from rfl, Nat.zero_add] at h
  rw [h]
  have e : endR (t.enc ++ [m]) ((t.enc.length : Int), 0) = ((t.enc.length : Int), 7) := by
    unfold endR
    dsimp only
    rw [if_pos rfl, if_pos (by rw [List.length_append, List.length_singleton]; omega)]
  unfold decR
  dsimp only
  rw [e, if_neg (by dsimp only; omega)]
end Go.Fur
