/- What was laid is read: numbers, lists, things, entries. -/
import Derived.Test.YtmdfipahbhbgjaaCmdE
namespace Go.Fur
open Go Go.RowKit Go.Proofs
set_option linter.unusedVariables false
set_option linter.unusedSimpArgs false
theorem kl_top (x : Nat) (hx : x < 18446744073709551616) (h : 0 < kl x) : x - sh (kl x - 1) < 256 ^ kl x := by
  have hlo := kl_lo x h
  by_cases h8 : kl x < 8
  · have hhi := kl_hi x h8
    obtain ⟨j, hj⟩ : ∃ j, kl x = j + 1 := ⟨kl x - 1, by omega⟩
    rw [hj] at hhi hlo ⊢
    have : sh (j + 1) = sh j + 256 ^ (j + 1) := rfl
    rw [Nat.add_sub_cancel] at hlo ⊢
    omega
  · have : kl x = 8 := by have := kl_le x; omega
    rw [this]
    have : (256 : Nat) ^ 8 = 18446744073709551616 := by decide
    omega
theorem n256_dg (y k : Nat) : ∀ m, m ≤ k → n256 (dg y k m) = y / 256 ^ (k - m) % 256 ^ m
  | 0, _ => by simp [dg, n256, Nat.mod_one]
  | m + 1, h => by
    have ih := n256_dg y k m (by omega)
    rw [dg_succ, n256_snoc, ih, Int.toNat_natCast]
    have e1 : y / 256 ^ (k - m) = y / 256 ^ (k - 1 - m) / 256 := by
      rw [Nat.div_div_eq_div_mul, ← Nat.pow_succ, show (k - 1 - m).succ = k - m by omega]
    rw [e1, show k - (m + 1) = k - 1 - m by omega]
    generalize y / 256 ^ (k - 1 - m) = a
    have e2 := Nat.mod_mul (x := a) (a := 256) (b := 256 ^ m)
    rw [Nat.pow_succ, Nat.mul_comm (256 ^ m) 256, e2]
    omega
theorem readN_lay (pre rest : List Int) (x : Nat) (hx : x < 18446744073709551616) : readN (pre ++ (layN x ++ rest)) (pre.length : Int) = ((x : Int), ((pre.length + (layN x).length : Nat) : Int), 0) := by
  have hk8 := kl_le x
  have htop := kl_top x hx
  have hlo := kl_lo x
  have hhi := kl_hi x
  have hll := layN_length x
  unfold readN
  rw [if_neg (by simp; omega), Int.toNat_natCast, List.drop_left' rfl]
  unfold layN at hll ⊢
  generalize kl x = k at *
  by_cases h0 : k = 0
  · subst h0
    have h1 := hhi (by omega)
    rw [sh_vals.1] at h1
    rw [if_pos rfl]
    rw [List.singleton_append]
    dsimp only
    rw [if_pos (by omega)]
    congr 2
  · rw [if_neg h0, List.cons_append]
    dsimp only
    have htop := htop (by omega)
    have hlo := hlo (by omega)
    rw [if_neg (by omega), if_neg (by omega)]
    have hk : (((191 + k : Nat) : Int) - 191).toNat = k := by omega
    rw [hk, if_neg (by rw [List.length_append, dg_length]; omega), List.take_left' (dg_length _ _ _), n256_dg _ _ k (Nat.le_refl _), Nat.sub_self, Nat.pow_zero, Nat.div_one, Nat.mod_eq_of_lt htop, Nat.sub_add_cancel hlo, if_neg (by omega)]
    simp only [List.length_cons, dg_length]
    congr 2
    omega
/-- At the place k of l stands t, to the end. -/
def Sx (l : List Int) (k : Nat) (t : List Int) : Prop := k ≤ l.length ∧ l.drop k = t
theorem Sx.step {l : List Int} {k : Nat} {e t : List Int} (h : Sx l k (e ++ t)) : Sx l (k + e.length) t := by
  obtain ⟨h1, h2⟩ := h
  have h3 := congrArg List.length h2
  rw [List.length_drop, List.length_append] at h3
  refine ⟨by omega, ?_⟩
  rw [← List.drop_drop, h2, List.drop_left' rfl]
theorem Sx.split {l : List Int} {k : Nat} {t : List Int} (h : Sx l k t) : ∃ pre, l = pre ++ t ∧ pre.length = k := by
  obtain ⟨h1, h2⟩ := h
  exact ⟨l.take k, by rw [← h2, List.take_append_drop], by rw [List.length_take]; omega⟩
theorem readN_at {l : List Int} {k : Nat} {t : List Int} (x : Nat) (hx : x < 18446744073709551616) (h : Sx l k (layN x ++ t)) : readN l (k : Int) = ((x : Int), ((k + (layN x).length : Nat) : Int), 0) := by
  obtain ⟨pre, rfl, rfl⟩ := h.split
  exact readN_lay pre t x hx
theorem unz_zig (y : Int) (hy : I64 y) : unz (zig y : Int) = y := by
  have hz := zig_lt y hy
  obtain ⟨h0, h1⟩ := hy
  unfold unz
  unfold zig at hz ⊢
  split <;> split <;> omega
theorem rI_at {l : List Int} {k : Nat} {t : List Int} {y : Int} (hy : I64 y) (h : Sx l k (layI y ++ t)) : rI l ((k : Int), 0) = (y, ((k + (layI y).length : Nat) : Int), 0) := by
  have := readN_at (zig y) (zig_lt y hy) h
  unfold rI readI
  rw [if_pos rfl]
  unfold layI
  rw [this]
  dsimp only
  rw [unz_zig y hy]
theorem rU_at {l : List Int} {k : Nat} {t : List Int} {x : Nat} {most bad : Int} (hm : (x : Int) ≤ most) (hx : x < 18446744073709551616) (h : Sx l k (layN x ++ t)) : rU l most bad ((k : Int), 0) = ((x : Int), ((k + (layN x).length : Nat) : Int), 0) := by
  have := readN_at x hx h
  unfold rU
  rw [if_pos rfl, this]
  dsimp only
  rw [if_neg (by omega)]
theorem rV_at {l : List Int} {k : Nat} {t : List Int} {x y : Int} (hx : I64 x) (hy : I64 y) (h : Sx l k (layI x ++ (layI y ++ t))) : rV l ((k : Int), 0) = ((x, y), ((k + (layI x).length + (layI y).length : Nat) : Int), 0) := by
  unfold rV
  dsimp only
  rw [rI_at hx h]
  dsimp only
  rw [rI_at hy h.step]
theorem intsE_cons (x : Int) (l : List Int) : intsE (x :: l) = layI x ++ intsE l := by simp [intsE]
theorem intsE_nil : intsE [] = [] := rfl
theorem rQ_at {l : List Int} {k : Nat} {t : List Int} {q : Que} (hq : q.ok) (h : Sx l k (intsE q.ints ++ t)) : rQ l ((k : Int), 0) = (q, ((k + (intsE q.ints).length : Nat) : Int), 0) := by
  unfold Que.ok at hq
  obtain ⟨a1, a2, a3, a4, a5, a6, a7⟩ := q
  simp only [Que.ints, List.mem_cons, List.not_mem_nil, or_false, forall_eq_or_imp, forall_eq] at hq
  obtain ⟨h1, h2, h3, h4, h5, h6, h7⟩ := hq
  simp only [Que.ints, intsE_cons, intsE_nil, List.append_assoc, List.nil_append, List.append_nil] at h ⊢
  unfold rQ
  dsimp only
  rw [rI_at h1 h]
  dsimp only
  rw [rI_at h2 h.step]
  dsimp only
  rw [rI_at h3 h.step.step]
  dsimp only
  rw [rV_at h4 h5 h.step.step.step]
  dsimp only
  rw [rV_at h6 h7 h.step.step.step.step.step]
  dsimp only
  congr 3
  simp only [List.length_append]
  omega
theorem rN_at {l : List Int} {k : Nat} {t : List Int} {q : Nod} (hq : q.ok) (h : Sx l k (intsE q.ints ++ t)) : rN l ((k : Int), 0) = (q, ((k + (intsE q.ints).length : Nat) : Int), 0) := by
  unfold Nod.ok at hq
  obtain ⟨a1, a2, a3, a4, a5⟩ := q
  simp only [Nod.ints, List.mem_cons, List.not_mem_nil, or_false, forall_eq_or_imp, forall_eq] at hq
  obtain ⟨h1, h2, h3, h4, h5⟩ := hq
  simp only [Nod.ints, intsE_cons, intsE_nil, List.append_assoc, List.nil_append, List.append_nil] at h ⊢
  unfold rN
  dsimp only
  rw [rI_at h1 h]
  dsimp only
  rw [rI_at h2 h.step]
  dsimp only
  rw [rI_at h3 h.step.step]
  dsimp only
  rw [rI_at h4 h.step.step.step]
  dsimp only
  rw [rI_at h5 h.step.step.step.step]
  dsimp only
  congr 3
  simp only [List.length_append]
  omega
theorem manyI_at : ∀ (xs : List Int) {l : List Int} {k : Nat} {t : List Int} (_ : ∀ x ∈ xs, I64 x) (_ : Sx l k (intsE xs ++ t)), manyR (rI l) xs.length ((k : Int), 0) = (xs, ((k + (intsE xs).length : Nat) : Int), 0)
  | [], l, k, t, _, _ => by simp [manyR, intsE]
  | x :: xs, l, k, t, hx, h => by
    rw [intsE_cons, List.append_assoc] at h
    have ih := manyI_at xs (fun y hy => hx y (List.mem_cons_of_mem _ hy)) h.step
    rw [List.length_cons, manyR, rI_at (hx x List.mem_cons_self) h]
    dsimp only
    rw [if_pos rfl, ih]
    dsimp only
    rw [intsE_cons, List.length_append, Nat.add_assoc]
theorem allI_at {xs : List Int} {l : List Int} {k : Nat} {t : List Int} (hx : ∀ x ∈ xs, I64 x) (hn : xs.length ≤ 1024) (h : Sx l k (listE xs ++ t)) : allR l (rI l) ((k : Int), 0) = (xs, ((k + (listE xs).length : Nat) : Int), 0) := by
  unfold listE at h ⊢
  rw [List.append_assoc] at h
  unfold allR
  rw [rU_at (by omega) (by omega) h]
  dsimp only
  rw [Int.toNat_natCast, manyI_at xs hx h.step, List.length_append, Nat.add_assoc]
theorem rT_at {l : List Int} {k : Nat} {t : List Int} {q : Tas} (hq : q.ok) (hn : q.tickets.length ≤ 1024) (h : Sx l k (q.enc ++ t)) : rT l ((k : Int), 0) = (q, ((k + q.enc.length : Nat) : Int), 0) := by
  unfold Tas.ok at hq
  obtain ⟨a1, a2, a3, a4, a5, a6, a7⟩ := q
  simp only [List.mem_cons, List.not_mem_nil, or_false, forall_eq_or_imp, forall_eq] at hq
  obtain ⟨⟨h1, h2, h3, h4, h5, h7⟩, h6⟩ := hq
  simp only [Tas.enc, intsE_cons, intsE_nil, List.append_assoc, List.nil_append, List.append_nil] at h ⊢
  unfold rT
  dsimp only
  rw [rI_at h1 h]
  dsimp only
  rw [rI_at h2 h.step]
  dsimp only
  rw [rV_at h3 h4 h.step.step]
  dsimp only
  rw [rI_at h5 h.step.step.step.step]
  dsimp only
  rw [allI_at h6 hn h.step.step.step.step.step]
  dsimp only
  rw [rI_at h7 h.step.step.step.step.step.step]
  dsimp only
  congr 3
  simp only [List.length_append]
  omega
theorem rC_at {l : List Int} {k : Nat} {t : List Int} {q : Cmd} (hq : q.ok) (hk : 0 ≤ q.kind) (hn : q.task.tickets.length ≤ 1024) (h : Sx l k (q.enc ++ t)) : rC l ((k : Int), 0) = (q, ((k + q.enc.length : Nat) : Int), 0) := by
  unfold Cmd.ok at hq
  obtain ⟨a1, a2, a3, a4, a5, a6, a7, a8⟩ := q
  simp only [List.mem_cons, List.not_mem_nil, or_false, forall_eq_or_imp, forall_eq] at hq
  obtain ⟨⟨h1, h2, h3, h4, h5⟩, h6, h7, h8⟩ := hq
  dsimp only at hk hn
  have hu : ((u64 a1 : Nat) : Int) = a1 := by unfold u64; obtain ⟨x0, x1⟩ := h1; omega
  simp only [Cmd.enc, intsE_cons, intsE_nil, List.append_assoc, List.nil_append, List.append_nil] at h ⊢
  unfold rC
  dsimp only
  rw [rU_at (x := u64 a1) (by rw [hu]; obtain ⟨x0, x1⟩ := h1; omega) (u64_lt _) h]
  dsimp only
  rw [rI_at h2 h.step]
  dsimp only
  rw [rI_at h3 h.step.step]
  dsimp only
  rw [rI_at h4 h.step.step.step]
  dsimp only
  rw [rI_at h5 h.step.step.step.step]
  dsimp only
  rw [rQ_at h6 h.step.step.step.step.step]
  dsimp only
  rw [rN_at h7 h.step.step.step.step.step.step]
  dsimp only
  rw [rT_at h8 hn h.step.step.step.step.step.step.step]
  dsimp only
  rw [hu]
  congr 3
  simp only [List.length_append]
  omega
theorem rE_at {l : List Int} {k : Nat} {t : List Int} {q : Ent} (hq : q.ok) (hk : 0 ≤ q.cmd.kind) (hn : q.cmd.task.tickets.length ≤ 1024) (h : Sx l k (q.enc ++ t)) : rE l ((k : Int), 0) = (q, ((k + q.enc.length : Nat) : Int), 0) := by
  unfold Ent.ok at hq
  obtain ⟨a1, a2, a3, a4⟩ := q
  simp only [List.mem_cons, List.not_mem_nil, or_false, forall_eq_or_imp, forall_eq] at hq
  obtain ⟨⟨h1, h2, h3⟩, h4⟩ := hq
  dsimp only at hk hn
  simp only [Ent.enc, intsE_cons, intsE_nil, List.append_assoc, List.nil_append, List.append_nil] at h ⊢
  unfold rE
  dsimp only
  rw [rI_at h1 h]
  dsimp only
  rw [rI_at h2 h.step]
  dsimp only
  rw [rI_at h3 h.step.step]
  dsimp only
  rw [rC_at h4 hk hn h.step.step.step]
  dsimp only
  congr 3
  simp only [List.length_append]
  omega
theorem err_ok {t : Ent} (h : t.err = 0) : t.cmd.task.tickets.length ≤ 1024 ∧ 0 ≤ t.cmd.kind := by
  unfold Ent.err at h
  split at h
  · cases h
  · split at h
    · cases h
    · constructor <;> omega
/-- What was written is read as it was. -/
theorem dec_enc {t : Ent} (hq : t.ok) (he : t.err = 0) : decR t.enc ent0 (rE t.enc (0, 0)) = (t, 0, 0) := by
  obtain ⟨h1, h2⟩ := err_ok he
  have h := rE_at (l := t.enc) (k := 0) (t := []) hq h2 h1 ⟨Nat.zero_le _, by simp⟩
  rw [show (((0 : Nat) : Int), (0 : Int)) = (0, 0) from rfl] at h
  rw [h]
  have e : endR t.enc (((0 + t.enc.length : Nat) : Int), 0) = (0, 0) := by
    unfold endR
    dsimp only
    rw [if_pos rfl, if_neg (by omega)]
  unfold decR
  dsimp only
  rw [e]
  rfl
theorem enc_inj {a b : Ent} (ha : a.ok) (hb : b.ok) (ea : a.err = 0) (eb : b.err = 0) (h : a.enc = b.enc) : a = b := by
  have h1 := dec_enc ha ea
  have h2 := dec_enc hb eb
  rw [h, h2] at h1
  exact (congrArg Prod.fst h1).symm
end Go.Fur
