/- The reader of keep: what was laid is read: contracts. -/
import Derived.Test.YtclnikmnfnedkaaCKp2
import Derived.Test.YtclnikmnfnedkaaCDiskAll
import Derived.Test.YtclnikmnfnedkaaCSto6
import Derived.IntWalk
namespace Go.Fur
open Go Go.RowKit Go.Proofs
set_option linter.unusedVariables false
set_option linter.unusedSimpArgs false
theorem kl_top (x : Nat) (hx : x < 18446744073709551616) (h : 0 < kl x) : x - sh (kl x - 1) < 256 ^ kl x := by
  have hlo := kl_lo x h
  by_cases h8 : kl x < 8
  · have hhi := kl_hi x h8
    obtain ⟨j, hj⟩ : ∃ j, kl x = j + 1 := ⟨kl x - 1, by omega⟩
    rw [hj] at hhi hlo ⊢
    have : sh (j + 1) = sh j + 256 ^ (j + 1) := rfl
    rw [Nat.add_sub_cancel] at hlo ⊢
    omega
  · have : kl x = 8 := by have := kl_le x; omega
    rw [this]
    have : (256 : Nat) ^ 8 = 18446744073709551616 := by decide
    omega
theorem n256_dg (y k : Nat) : ∀ m, m ≤ k → n256 (dg y k m) = y / 256 ^ (k - m) % 256 ^ m
  | 0, _ => by simp [dg, n256, Nat.mod_one]
  | m + 1, h => by
    have ih := n256_dg y k m (by omega)
    rw [dg_succ, n256_snoc, ih, Int.toNat_natCast]
    have e1 : y / 256 ^ (k - m) = y / 256 ^ (k - 1 - m) / 256 := by
      rw [Nat.div_div_eq_div_mul, ← Nat.pow_succ, show (k - 1 - m).succ = k - m by omega]
    rw [e1, show k - (m + 1) = k - 1 - m by omega]
    generalize y / 256 ^ (k - 1 - m) = a
    have e2 := Nat.mod_mul (x := a) (a := 256) (b := 256 ^ m)
    rw [Nat.pow_succ, Nat.mul_comm (256 ^ m) 256, e2]
    omega
theorem readN_lay (pre rest : List Int) (x : Nat) (hx : x < 18446744073709551616) : readN (pre ++ (layN x ++ rest)) (pre.length : Int) = ((x : Int), ((pre.length + (layN x).length : Nat) : Int), 0) := by
  have hk8 := kl_le x
  have htop := kl_top x hx
  have hlo := kl_lo x
  have hhi := kl_hi x
  have hll := layN_length x
  unfold readN
  rw [if_neg (by simp; omega), Int.toNat_natCast, List.drop_left' rfl]
  unfold layN at hll ⊢
  generalize kl x = k at *
  by_cases h0 : k = 0
  · subst h0
    have h1 := hhi (by omega)
    rw [sh_vals.1] at h1
    rw [if_pos rfl]
    rw [List.singleton_append]
    dsimp only
    rw [if_pos (by omega)]
    congr 2
  · rw [if_neg h0, List.cons_append]
    dsimp only
    have htop := htop (by omega)
    have hlo := hlo (by omega)
    rw [if_neg (by omega), if_neg (by omega)]
    have hk : (((191 + k : Nat) : Int) - 191).toNat = k := by omega
    rw [hk, if_neg (by rw [List.length_append, dg_length]; omega), List.take_left' (dg_length _ _ _), n256_dg _ _ k (Nat.le_refl _), Nat.sub_self, Nat.pow_zero, Nat.div_one, Nat.mod_eq_of_lt htop, Nat.sub_add_cancel hlo, if_neg (by omega)]
    simp only [List.length_cons, dg_length]
    congr 2
    omega
/-- At the place k of l stands t, to the end. -/
def Sx (l : List Int) (k : Nat) (t : List Int) : Prop := k ≤ l.length ∧ l.drop k = t
theorem Sx.step {l : List Int} {k : Nat} {e t : List Int} (h : Sx l k (e ++ t)) : Sx l (k + e.length) t := by
  obtain ⟨h1, h2⟩ := h
  have h3 := congrArg List.length h2
  rw [List.length_drop, List.length_append] at h3
  refine ⟨by omega, ?_⟩
  rw [← List.drop_drop, h2, List.drop_left' rfl]
theorem Sx.split {l : List Int} {k : Nat} {t : List Int} (h : Sx l k t) : ∃ pre, l = pre ++ t ∧ pre.length = k := by
  obtain ⟨h1, h2⟩ := h
  exact ⟨l.take k, by rw [← h2, List.take_append_drop], by rw [List.length_take]; omega⟩
theorem readN_at {l : List Int} {k : Nat} {t : List Int} (x : Nat) (hx : x < 18446744073709551616) (h : Sx l k (layN x ++ t)) : readN l (k : Int) = ((x : Int), ((k + (layN x).length : Nat) : Int), 0) := by
  obtain ⟨pre, rfl, rfl⟩ := h.split
  exact readN_lay pre t x hx
theorem unz_zig (y : Int) (hy : I64 y) : unz (zig y : Int) = y := by
  have hz := zig_lt y hy
  obtain ⟨h0, h1⟩ := hy
  unfold unz
  unfold zig at hz ⊢
  split <;> split <;> omega
theorem readI_at {l : List Int} {k : Nat} {t : List Int} {y : Int} (hy : I64 y) (h : Sx l k (layI y ++ t)) : readI l (k : Int) = (y, ((k + (layI y).length : Nat) : Int), 0) := by
  have := readN_at (zig y) (zig_lt y hy) h
  unfold readI
  unfold layI
  rw [this]
  dsimp only
  rw [unz_zig y hy]
theorem readBy_at {l : List Int} {k : Nat} {t p : List Int} (hp : p.length ≤ 1048576) (h : Sx l k (layB p ++ t)) : readBy l (k : Int) = (p, ((k + (layB p).length : Nat) : Int), 0) := by
  obtain ⟨pre, rfl, rfl⟩ := h.split
  unfold layB
  rw [List.append_assoc]
  unfold readBy
  rw [readN_lay pre (p ++ t) p.length (by omega)]
  dsimp only
  rw [if_neg (by simp), if_neg (by omega), if_neg (by simp; omega), Int.toNat_natCast, Int.toNat_natCast, ← List.append_assoc, List.drop_left' (by simp), List.take_left' rfl]
  congr 2
  simp
  omega
/-- A reader at the place k. -/
structure KrAt (w : World) (r : Nat) (a : Option Addr) (c : Nat) (l : List Int) (k : Nat) : Prop where
  hr : Blk w r 113 [.slice a l.length c, .int .i64 k, .bool false]
  rd : RdA w (fun b => b = r) a (bv l)
  byt : Byt l
  cap : l.length ≤ c
  small : l.length ≤ 140737488355328
theorem KrAt.fr {w w' : World} {S : List Nat} {r : Nat} {a : Option Addr} {c : Nat} {l : List Int} {k : Nat} (h : KrAt w r a c l k) (f : Fr S w w') (hr : r ∉ S) (hl : RdA w' (fun b => b = r) a (bv l)) : KrAt w' r a c l k :=
  ⟨h.hr.fr f hr, hl, h.byt, h.cap, h.small⟩
theorem KrAt.fr0 {w w' : World} {r : Nat} {a : Option Addr} {c : Nat} {l : List Int} {k : Nat} (h : KrAt w r a c l k) (f : Fr [] w w') : KrAt w' r a c l k :=
  h.fr f (by simp) (h.rd.fr0 f)
theorem reader_size : (Try.prog.info? 113).map (·.size) = some 3 := by kernel_rfl
set_option maxRecDepth 100000 in
set_option maxHeartbeats 1000000 in
theorem rint_calls {w : World} {r : Nat} {a : Option Addr} {c : Nat} {l : List Int} {k : Nat} (h : KrAt w r a c l k) {y : Int} {t : List Int} (hy : I64 y) (hx : Sx l k (layI y ++ t)) :
    Calls Try.prog 50 #[.pointer (some ⟨r, 0, none⟩)] w fun e w' => e = .returned (.int .i64 y) ∧ KrAt w' r a c l (k + (layI y).length) ∧ Fr [r] w w' := by
  have d0 : ∀ W, Fr [] w W → W.cell? ⟨r, 0, none⟩ = some (.slice a l.length c) := fun W f => (h.hr.fr f (by simp)).cellAt rfl
  have d1 : ∀ W, Fr [] w W → W.cell? ⟨r, 1, none⟩ = some (.int .i64 k) := fun W f => (h.hr.fr f (by simp)).cellAt rfl
  have hri := readI_at hy hx
  have HC := Lib.hid (fun (W : World) (f : Fr [] w W) => hri ▸ readInt_calls W a l.length c l rfl h.cap h.small h.byt (h.rd.rd.fr0 f) (k : Int))
  generalize k + (layI y).length = k2 at *
  have HH := Lib.hid h
  have hk2 : ((k2 : Nat) : Int) = (k2 : Int) := rfl
  clear h hx hri
  go_enter Try.func50, Try.ntmps50
  go_wp2_with fail
  refine wp_region_ord (Fr [] w) [0,1,2,3,4,5,6,7,8,9,10,11,12,13,14,15] [] [8] [3, 7] mixed (by kernel_rfl) ?_
  have hS : Fr [] w w.drew := (Fr.refl _ _).drew
  simp only [pairs, pickN]
  repeat (first | (refine wpO_free ?_ (by rfl) (by rfl) (fun w' => ?_) ?_; rotate_left; (go_simp; rfl); simp only [Act.put, List.setIfInBounds_toArray, List.set_cons_zero, List.set_cons_succ]) | (refine wpO_take ?_ hS (by rfl) (by rfl) (fun w' hw' => ?_) ?_; rotate_left; (go_simp; rfl); simp only [Act.put, List.setIfInBounds_toArray, List.set_cons_zero, List.set_cons_succ]) | (refine wpO_pass (by rfl) ?_; simp only [Act.put, List.setIfInBounds_toArray, List.set_cons_zero, List.set_cons_succ]))
  refine wpO_eff (by rfl) ?_
  refine wpList_callC rfl 65 #[.slice a l.length c, .int .i64 k] (by first | (go_simp; done) | (go_simp; rfl)) _ (HC.out w.drew hS) ?_
  rintro e w' ⟨rfl, rfl⟩
  refine ⟨_, rfl, effQ_keep hS ?_⟩
  simp only [Act.put, List.setIfInBounds_toArray, List.set_cons_zero, List.set_cons_succ]
  repeat (first | (refine wpO_free ?_ (by rfl) (by rfl) (fun w' => ?_) ?_; rotate_left; (go_simp; rfl); simp only [Act.put, List.setIfInBounds_toArray, List.set_cons_zero, List.set_cons_succ]) | (refine wpO_pass (by rfl) ?_; simp only [Act.put, List.setIfInBounds_toArray, List.set_cons_zero, List.set_cons_succ]))
  refine wpO_nil ?_
  have HB := Lib.hid (HH.out.hr.fr hS (by simp))
  go_wp2_with (refine wpList_store1 rfl 3 _ _ rfl r 1 (.int .i64 k2) (by rfl) (by rfl) rfl 113 _ HB.out (by simp) (by kernel_rfl) rfl ?_; intro w2 B2 F2 S2; have HB2 := Lib.hid (show Blk w2 r 113 [.slice a l.length c, .int .i64 k2, .bool false] from B2); have HF2 := Lib.hid ((hS.ext (S := [r])).trans1 F2); clear B2 F2 S2)
  go_ret
  exact ⟨rfl, ⟨HB2.out, HH.out.rd.step HF2.out (fun k hk => .inl (List.mem_singleton.1 hk)) (fun k hk => .inl hk), HH.out.byt, HH.out.cap, HH.out.small⟩, HF2.out⟩
set_option maxRecDepth 100000 in
set_option maxHeartbeats 1000000 in
theorem rbytes_calls {w : World} {r : Nat} {a : Option Addr} {c : Nat} {l : List Int} {k : Nat} (h : KrAt w r a c l k) {p t : List Int} (hp : p.length ≤ 1048576) (hx : Sx l k (layB p ++ t)) :
    Calls Try.prog 51 #[.pointer (some ⟨r, 0, none⟩)] w fun e w' => ∃ v, e = .returned v ∧ Own w' w.heap.size 5 1 v p.length (bv p) ∧ KrAt w' r a c l (k + (layB p).length) ∧ Fr [r] w w' := by
  have d0 : ∀ W, Fr [] w W → W.cell? ⟨r, 0, none⟩ = some (.slice a l.length c) := fun W f => (h.hr.fr f (by simp)).cellAt rfl
  have d1 : ∀ W, Fr [] w W → W.cell? ⟨r, 1, none⟩ = some (.int .i64 k) := fun W f => (h.hr.fr f (by simp)).cellAt rfl
  have hri := readBy_at hp hx
  have HC := Lib.hid (fun (W : World) (f : Fr [] w W) => hri ▸ readBytes_calls W a l.length c l rfl h.cap h.small h.byt (h.rd.rd.fr0 f) (k : Int))
  generalize k + (layB p).length = k2 at *
  have HH := Lib.hid h
  clear h hx hri
  go_enter Try.func51, Try.ntmps51
  go_wp2_with fail
  refine wp_region_ord (Fr [] w) [0,1,2,3,4,5,6,7,8,9,10,11,12,13,14,15] [] [8] [3, 7] mixed (by kernel_rfl) ?_
  have hS : Fr [] w w.drew := (Fr.refl _ _).drew
  simp only [pairs, pickN]
  repeat (first | (refine wpO_free ?_ (by rfl) (by rfl) (fun w' => ?_) ?_; rotate_left; (go_simp; rfl); simp only [Act.put, List.setIfInBounds_toArray, List.set_cons_zero, List.set_cons_succ]) | (refine wpO_take ?_ hS (by rfl) (by rfl) (fun w' hw' => ?_) ?_; rotate_left; (go_simp; rfl); simp only [Act.put, List.setIfInBounds_toArray, List.set_cons_zero, List.set_cons_succ]) | (refine wpO_pass (by rfl) ?_; simp only [Act.put, List.setIfInBounds_toArray, List.set_cons_zero, List.set_cons_succ]))
  refine wpO_eff (by rfl) ?_
  refine wpList_callC rfl 66 #[.slice a l.length c, .int .i64 k] (by first | (go_simp; done) | (go_simp; rfl)) _ (HC.out w.drew hS) ?_
  rintro e w1 ⟨v, rfl, O1, F1⟩
  have hS1 : Fr [] w w1 := hS.trans0 F1
  refine ⟨_, rfl, effQ_keep hS1 ?_⟩
  simp only [Act.put, List.setIfInBounds_toArray, List.set_cons_zero, List.set_cons_succ]
  repeat (first | (refine wpO_free ?_ (by rfl) (by rfl) (fun w' => ?_) ?_; rotate_left; (go_simp; rfl); simp only [Act.put, List.setIfInBounds_toArray, List.set_cons_zero, List.set_cons_succ]) | (refine wpO_pass (by rfl) ?_; simp only [Act.put, List.setIfInBounds_toArray, List.set_cons_zero, List.set_cons_succ]))
  refine wpO_nil ?_
  have HO := Lib.hid (show Own w1 w.heap.size 5 1 v p.length (bv p) from O1)
  have HS1 := Lib.hid hS1
  clear O1 F1 hS1
  have HB := Lib.hid (HH.out.hr.fr HS1.out (by simp))
  go_wp2_with (refine wpList_store1 rfl 3 _ _ rfl r 1 (.int .i64 k2) (by rfl) (by rfl) rfl 113 _ HB.out (by simp) (by kernel_rfl) rfl ?_; intro w2 B2 F2 S2; have HB2 := Lib.hid (show Blk w2 r 113 [.slice a l.length c, .int .i64 k2, .bool false] from B2); have HF12 := Lib.hid F2; have HF2 := Lib.hid ((HS1.out.ext (S := [r])).trans1 F2); clear B2 F2 S2)
  go_ret
  have hlt := HH.out.hr.lt
  exact ⟨v, rfl, HO.out.fr HF12.out (fun g hg hm => by have := (HO.out.lt hg).1; rw [List.mem_singleton.1 hm] at this; omega), ⟨HB2.out, HH.out.rd.step HF2.out (fun k hk => .inl (List.mem_singleton.1 hk)) (fun k hk => .inl hk), HH.out.byt, HH.out.cap, HH.out.small⟩, HF2.out⟩
end Go.Fur
namespace Go.Fur
open Go Go.RowKit
set_option linter.unusedVariables false
/-- v is a row of one's own of the things l, k cells each. -/
def RowW {τ : Type} (EW : World → List Value → τ → Prop) (k : Nat) (e : TypeId) (base : Nat) (w : World) (v : Value) (l : List τ) : Prop :=
  ∃ css : List (List Value), Own w base e k v l.length (flat id css) ∧ css.length = l.length ∧ ∀ (i : Nat) cs t, css[i]? = some cs → l[i]? = some t → cs.length = k ∧ EW w cs t
theorem RowW.nil {τ : Type} {EW : World → List Value → τ → Prop} {k : Nat} {e : TypeId} {base : Nat} (w : World) : RowW EW k e base w (.slice none 0 0) [] := ⟨[], Own.nil _ _ _ _, rfl, by simp⟩
theorem RowW.fr {τ : Type} {EW : World → List Value → τ → Prop} {k : Nat} {e : TypeId} {base : Nat} {w w' : World} {v : Value} {l : List τ} {S : List Nat} (h : RowW EW k e base w v l) (f : Fr S w w') (hb : ∀ g ∈ ob v, g ∉ S) (hE : ∀ cs t, EW w cs t → EW w' cs t) : RowW EW k e base w' v l := by
  obtain ⟨css, h1, h2, h3⟩ := h
  exact ⟨css, h1.fr f hb, h2, fun i cs t hc ht => ⟨(h3 i cs t hc ht).1, hE _ _ (h3 i cs t hc ht).2⟩⟩
theorem RowW.base {τ : Type} {EW : World → List Value → τ → Prop} {k : Nat} {e : TypeId} {base base' : Nat} {w : World} {v : Value} {l : List τ} (h : RowW EW k e base w v l) (hb : base' ≤ base) : RowW EW k e base' w v l := by
  obtain ⟨css, h1, h2, h3⟩ := h
  exact ⟨css, h1.base hb, h2, h3⟩
theorem RowW.map {τ : Type} {EW EW' : World → List Value → τ → Prop} {k : Nat} {e : TypeId} {base : Nat} {w : World} {v : Value} {l : List τ} (h : RowW EW k e base w v l) (hE : ∀ cs t, EW w cs t → EW' w cs t) : RowW EW' k e base w v l := by
  obtain ⟨css, h1, h2, h3⟩ := h
  exact ⟨css, h1, h2, fun i cs t hc ht => ⟨(h3 i cs t hc ht).1, hE _ _ (h3 i cs t hc ht).2⟩⟩
theorem RowW.form {τ : Type} {EW : World → List Value → τ → Prop} {k : Nat} {e : TypeId} {base : Nat} {w : World} {v : Value} {l : List τ} (h : RowW EW k e base w v l) : ∃ a c, v = .slice a l.length c ∧ l.length ≤ c ∧ c ≤ maxLen := by
  obtain ⟨css, h1, h2, h3⟩ := h
  obtain ⟨a, c, hv, h4, h5, _⟩ := h1.form
  exact ⟨a, c, hv, h4, h5⟩
/-- As things that are read. -/
theorem RowW.rowA {τ : Type} {EW : World → List Value → τ → Prop} {EL : World → (Nat → Prop) → List Value → τ → Prop} {k : Nat} {e : TypeId} {base : Nat} {w : World} {a : Option Addr} {n c : Nat} {l : List τ} (h : RowW EW k e base w (.slice a n c) l) (hE : ∀ cs t, EW w cs t → EL w (fun _ => False) cs t) :
    ∃ css, RowA EL k w (fun _ => False) a l css := by
  obtain ⟨css, h1, h2, h3⟩ := h
  obtain ⟨a', c', hv, _, _, hr⟩ := h1.rdA (X := fun _ => False) (fun _ _ h => h)
  simp only [Value.slice.injEq] at hv
  obtain ⟨rfl, _, _⟩ := hv
  exact ⟨css, hr, h2, fun i cs t hc ht => ⟨(h3 i cs t hc ht).1, hE _ _ (h3 i cs t hc ht).2⟩⟩
theorem RowW.lt {τ : Type} {EW : World → List Value → τ → Prop} {k : Nat} {e : TypeId} {base : Nat} {w : World} {v : Value} {l : List τ} (h : RowW EW k e base w v l) {g : Nat} (hg : g ∈ ob v) : base ≤ g ∧ g < w.heap.size := by
  obtain ⟨css, h1, _⟩ := h
  exact h1.lt hg
theorem RowW.blkOf {τ : Type} {EW : World → List Value → τ → Prop} {k : Nat} {e : TypeId} {base : Nat} {w : World} {v : Value} {l : List τ} (h : RowW EW k e base w v l) {g : Nat} (hg : g ∈ ob v) : ∃ cur, Blk w g e cur := by
  obtain ⟨css, h1, _⟩ := h
  exact h1.blkOf hg
theorem RowW.ne {τ : Type} {EW : World → List Value → τ → Prop} {k : Nat} {e : TypeId} {base : Nat} {w : World} {v : Value} {l : List τ} (h : RowW EW k e base w v l) {g : Nat} {t : TypeId} {cs : List Value} (hb : Blk w g t cs) (ht : e ≠ t) : g ∉ ob v := fun hm => by
  obtain ⟨cur, hc⟩ := h.blkOf hm
  exact hc.ne hb ht rfl
/-- Own rows of one type stay where rows of another type are written. -/
theorem Own.frT {w w' : World} {b b' : Nat} {e e' : TypeId} {size size' n n' : Nat} {v v' : Value} {cs cs' : List Value} (h : Own w b e size v n cs) (h' : Own w b' e' size' v' n' cs') (f : Fr (ob v') w w') (ht : e ≠ e') : Own w' b e size v n cs :=
  h.fr f (fun g hg hm => by
    obtain ⟨c1, h1⟩ := h.blkOf hg
    obtain ⟨c2, h2⟩ := h'.blkOf hm
    exact h1.ne h2 ht rfl)
section
variable {P : Program}
/-- One thing more. -/
theorem wpList_appW {τ : Type} {EW : World → List Value → τ → Prop} {w : World} {ops : Array Oper} {rest : List Oper} {o : Oper} {a : Act} {Q : Exit → Act → World → Prop} (hgd : o.guard = none) (s y : Operand) (t tx : TypeId)
    (ho : o.op = .call { callee := .builtin .append, args := #[s, y], argTypes := #[t, tx] })
    (base : Nat) (e e' : TypeId) (zc : List Value) (k bytes : Nat) (ht : P.underlying t = some (.slice e)) (htx : P.underlying tx = some (.slice e')) (hi : (P.info? e).map (fun i => (i.zero.map (·.cells), i.size, i.bytes)) = some (some zc.toArray, k, bytes)) (hzc : zc.length = k) (hk0 : 0 < k)
    (v : Value) (l : List τ) (hv : a.eval s = v) (h : RowW EW k e base w v l)
    (g : Nat) (c1 : Nat) (hx : a.eval y = .slice (some ⟨g, 0, none⟩) 1 c1) (e1 : TypeId) (cs : List Value) (hg : Blk w g e1 cs) (hcs : cs.length = k) (hone : ∀ u ∈ cs, u.oneCell' = true) (x : τ) (hel : EW w cs x)
    (h63 : l.length + 1 ≤ maxLen) (hbytes : (l.length + 1) * bytes ≤ 140737488355328) (hbase : base ≤ w.heap.size)
    (hEW : ∀ w' cs t, Fr (ob v) w w' → EW w cs t → EW w' cs t)
    (hK : ∀ v' w', RowW EW k e base w' v' (l ++ [x]) → Fr (ob v) w w' → (ob v' = ob v ∨ ob v' = [w.heap.size]) → wpList P ops Q rest (a.put o.dst v') w') : wpList P ops Q (o :: rest) a w := by
  obtain ⟨css, h1, h2, h3⟩ := h
  cases hinf : P.info? e with
  | none => rw [hinf] at hi; cases hi
  | some i =>
    rw [hinf] at hi
    simp only [Option.map_some, Option.some.injEq, Prod.mk.injEq] at hi
    obtain ⟨hz, hsz, hby⟩ := hi
    cases hzz : i.zero with
    | none => rw [hzz] at hz; cases hz
    | some z =>
      rw [hzz] at hz
      simp only [Option.map_some, Option.some.injEq] at hz
      have hrd : Rd w (some ⟨g, 0, none⟩) cs := by have := hg.rd0 cs.length; rwa [List.take_length] at this
      refine wpList_app hgd s y t tx ho base e i z k bytes ht hinf hzz hsz hby (by rw [hz]; simpa using hzc) hk0 v l.length (flat id css) hv h1 _ 1 cs hx (hrd.src htx (by rw [hcs, Nat.one_mul]) hone) h63 hbytes hbase ?_
      intro v' w' o' f' k' _
      refine hK v' w' ⟨css ++ [cs], ?_, by simp [h2], fun j cs' t hc ht => ?_⟩ f' k'
      · rw [flat_append, List.length_append]
        simpa [flat] using o'
      · rcases Nat.lt_or_ge j css.length with hj | hj
        · rw [List.getElem?_append_left hj] at hc
          rw [List.getElem?_append_left (by omega)] at ht
          exact ⟨(h3 j cs' t hc ht).1, hEW _ _ _ f' (h3 j cs' t hc ht).2⟩
        · rw [List.getElem?_append_right hj] at hc
          rw [List.getElem?_append_right (by omega), ← h2] at ht
          rcases hq : j - css.length with _ | q
          · rw [hq] at hc ht
            simp only [List.getElem?_cons_zero, Option.some.injEq] at hc ht
            subst hc ht
            exact ⟨hcs, hEW _ _ _ f' hel⟩
          · rw [hq] at hc
            simp at hc
end
end Go.Fur
namespace Go.Fur
open Go Go.RowKit
set_option linter.unusedVariables false
set_option linter.unusedSimpArgs false
section
variable {P : Program}
theorem slice_hm {t e : TypeId} {k : Nat} (hu : P.underlying t = some (.slice e)) (hs : (P.info? e).map (·.size) = some k) (a : Option Addr) (n c hi : Nat) (h m : Int) (hh : h = (hi : Nat)) (hm : m = (hi : Nat)) (h2 : hi ≤ c) :
    ∃ a', (∀ (W : World) (X : Nat → Prop) (cs : List Value), RdA W X a cs → RdA W X a' (cs.take (hi * k))) ∧ ∀ W : World, (Instr.slice t (.slice a n c) none (some (.int .i64 h)) (some (.int .i64 m))).run P W = .ok (.slice a' hi hi) W := by
  have he : P.elem t = e := by simp [Program.elem, hu]
  have hsz : ∀ W, (sizeOf e).run P W = .ok k W := fun W => by
    cases hq : P.info? e with
    | none => simp [hq] at hs
    | some i =>
      have hsz : i.size = k := by simpa [hq] using hs
      simp [sizeOf, typeInfo, hq, hsz]
  subst hh hm
  refine ⟨if hi = 0 then a else a.map (·.add (0 * k)), fun W X cs hr => ?_, fun W => ?_⟩
  · by_cases hc : hi = 0
    · rw [if_pos hc, hc, Nat.zero_mul, List.take_zero]
      exact RdA.nil _ _ _
    · rw [if_neg hc]
      intro hn
      obtain ⟨b, o, rfl, hx, hlt, hr'⟩ := hr (fun h0 => hn (by rw [h0]; simp))
      refine ⟨b, o, by simp [Addr.add], hx, hlt, fun j v hv => ?_⟩
      rw [List.getElem?_take] at hv
      split at hv
      · exact hr' j v hv
      · cases hv
  · rw [run_slice_hm W t a n c (by rw [hu, he]) .i64 .i64 _ _ (by omega) (by omega) (by omega), he, hsz]
    simp only [Result.andThen, sliced]
    simp
/-- append(v, x..), v full and read: the row is new. -/
theorem wpList_appG {w : World} {ops : Array Oper} {rest : List Oper} {o : Oper} {a : Act} {Q : Exit → Act → World → Prop} (hgd : o.guard = none) (s y : Operand) (t tx : TypeId)
    (ho : o.op = .call { callee := .builtin .append, args := #[s, y], argTypes := #[t, tx] })
    (e e' : TypeId) (zc : List Value) (size bytes : Nat) (ht : P.underlying t = some (.slice e)) (htx : P.underlying tx = some (.slice e')) (hi : (P.info? e).map (fun i => (i.zero.map (·.cells), i.size, i.bytes)) = some (some zc.toArray, size, bytes)) (hzc : zc.length = size) (hk0 : 0 < size)
    (ad0 : Option Addr) (n : Nat) (xs : List Value) (hv : a.eval s = .slice ad0 n n) (hxs : Rd w ad0 xs) (hxl : xs.length = n * size)
    (ad : Option Addr) (m c : Nat) (news : List Value) (hx : a.eval y = .slice ad m c) (hs : Rd w ad news) (hm : news.length = m * size) (hm0 : 0 < m) (h1 : ∀ v ∈ news, v.oneCell' = true)
    (h63 : n + m ≤ maxLen) (hbytes : (n + m) * bytes ≤ 140737488355328)
    (h : ∀ v' w', Own w' w.heap.size e size v' (n + m) (xs ++ news) → Fr [] w w' → wpList P ops Q rest (a.put o.dst v') w') : wpList P ops Q (o :: rest) a w := by
  cases hinf : P.info? e with
  | none => rw [hinf] at hi; cases hi
  | some i =>
    rw [hinf] at hi
    simp only [Option.map_some, Option.some.injEq, Prod.mk.injEq] at hi
    obtain ⟨hz, hsz, hby⟩ := hi
    cases hzz : i.zero with
    | none => rw [hzz] at hz; cases hz
    | some z =>
      rw [hzz] at hz
      simp only [Option.map_some, Option.some.injEq] at hz
      refine wpList_plain hgd fun K hK => ?_
      have hold : (Builtin.firstCells i.size n (.slice ad0 n n)).run P w.drew = .ok xs.toArray w.drew := by
        by_cases h0 : xs = []
        · subst h0
          have hn0 : n = 0 := by
            rcases Nat.eq_zero_or_pos n with h | h
            · exact h
            · have := Nat.mul_pos h hk0
              simp at hxl
              omega
          subst hn0
          cases ad0 with
          | none => exact run_firstCells_none _ _ _ _ _
          | some a0 => exact run_firstCells_some w.drew i.size 0 a0 0 0 [] (by simp) (fun j u hu => by simp at hu)
        · obtain ⟨b, ob, rfl, hr⟩ := hxs h0
          refine run_firstCells_some w.drew i.size n ⟨b, ob, none⟩ n n xs (by rw [hsz]; exact hxl) (fun j u hu => ?_)
          rw [Addr.add_mid]
          exact hr j u hu
      have hsrc := hs.src (P := P) (size := i.size) (n := m) (c := c) htx (by rw [hm, hsz]) h1
      have hfit : Builtin.nextslicecap (n + m) n * i.bytes ≤ 281474976710656 := growslice_fits (by omega) (by rw [hby]; exact hbytes)
      have hr := run_append_grow_src w t tx o.type e i z ht hinf hzz ad0 n n xs hold _ m news hsrc (by omega) (by simp only [maxLen] at h63; omega) hfit
      unfold Oper.wp execOp
      simp only [ho, resolve, invoke, builtin, Sem.run_bind, Sem.run_pure, Result.andThen_ok, List.map_toArray, List.map_cons, List.map_nil, hv, hx, hr]
      refine hK _ _ (h _ _ ?_ (((Fr.refl _ w).drew).alloc _))
      have hge := grownCap_ge w (n + m) n e
      have hle := grownCap_le_maxLen w (n + m) n e h63
      have hb := Blk.newA w.drew e ((xs ++ news).toArray ++ Builtin.zeroCells z.cells (grownCap w (n + m) n e - (n + m)))
      have hzl : z.cells.size = size := by rw [hz]; simpa using hzc
      have hszz : ((xs ++ news).toArray ++ Builtin.zeroCells z.cells (grownCap w (n + m) n e - (n + m))).toList.length = grownCap w (n + m) n e * size := by
        generalize grownCap w (n + m) n e = G at hge ⊢
        simp only [Array.length_toList, Array.size_append, List.size_toArray, List.length_append, size_zeroCells, hxl, hm, hzl, ← Nat.add_mul]
        congr 1
        omega
      have := Own.of_blk (base := w.heap.size) (size := size) (Nat.le_refl _) hb hge hle hszz
      simp only [Array.toList_append] at this
      rw [List.take_append_of_le_length (by simp [hxl, hm, Nat.add_mul]), List.take_of_length_le (by simp [hxl, hm, Nat.add_mul])] at this
      exact this
/-- A variable of one cell. -/
theorem wpList_allocV {ops : Array Oper} {rest : List Oper} {o : Oper} {a : Act} {w : World} {Q : Exit → Act → World → Prop} (hgd : o.guard = none) (t : TypeId) (ho : o.op = .alloc t)
    (v : Value) (hz : ∀ w, (zeroValue t).run P w = .ok v w) (hv : v.cells = #[v])
    (h : ∀ w1 : World, Blk w1 w.heap.size t [v] → Fr [] w w1 → w1.heap.size = w.heap.size + 1 → wpList P ops Q rest (a.put o.dst (.pointer (some ⟨w.heap.size, 0, none⟩))) w1) : wpList P ops Q (o :: rest) a w :=
  wpList_plain hgd fun K hK => by
    have hr : (Instr.alloc t true (.tuple #[])).run P w = .ok (.pointer (some ⟨w.heap.size, 0, none⟩)) (w.alloc (.cells #[v] t)) := by
      simp [Instr.alloc, hz, newVar, newRow, hv]
    unfold Oper.wp execOp
    simp only [ho, Sem.run_bind, hr, Result.andThen_ok, Sem.run_pure]
    exact hK _ _ (h _ (Blk.new w t [v]) ((Fr.refl [] w).alloc _) (by simp))
end
end Go.Fur
namespace Go.Fur
open Go Go.RowKit Go.Proofs
set_option linter.unusedVariables false
set_option linter.unusedSimpArgs false
/-- An entry's cells, its bytes a row of its own. -/
def EntO (base : Nat) (w : World) (cs : List Value) (t : Int × List Int) : Prop := ∃ v, cs = [.int .i64 t.1, v] ∧ Own w base 5 1 v t.2.length (bv t.2)
theorem EntO.fr {base : Nat} {S : List Nat} {w w' : World} {cs : List Value} {t : Int × List Int} (h : EntO base w cs t) (f : Fr S w w') (hS : ∀ g ∈ S, ∃ ty cur, Blk w g ty cur ∧ ty ≠ 5) : EntO base w' cs t := by
  obtain ⟨v, h1, h2⟩ := h
  refine ⟨v, h1, h2.fr f (fun g hg hm => ?_)⟩
  obtain ⟨cur, hc⟩ := h2.blkOf hg
  obtain ⟨ty, cur2, hc2, hne⟩ := hS g hm
  exact hc2.ne hc hne rfl
theorem eB_step {l : List Int} {k : Nat} {e : Int × List Int} {t : List (Int × List Int)} (h : Sx l k ((e :: t).flatMap eB)) : Sx l k (layI e.1 ++ (layB e.2 ++ t.flatMap eB)) := by
  rw [List.flatMap_cons] at h
  simpa [eB] using h
theorem reader_build (a : Option Addr) (n c : Nat) : ∀ W, (Instr.build 113 #[(0, .slice a n c)]).run Try.prog W = .ok (.agg #[.slice a n c, .int .i64 0, .bool false]) W := fun W => by kernel_rfl
theorem entry_build (x : Int) (a : Option Addr) (n c : Nat) : ∀ W, (Instr.build 75 #[(0, .int .i64 x), (1, .slice a n c)]).run Try.prog W = .ok (.agg #[.int .i64 x, .slice a n c]) W := fun W => by kernel_rfl
theorem keep_size : (Try.prog.info? 70).map (·.size) = some 7 := by kernel_rfl
theorem info_entry : (Try.prog.info? 75).map (fun i => (i.zero.map (·.cells), i.size, i.bytes)) = some (some ([Value.int .i64 0, .slice none 0 0] : List Value).toArray, 2, 32) := by kernel_rfl
/-- Between the rounds: j entries are read. -/
def UnpR (w : World) (K q r : Nat) (a : Option Addr) (c : Nat) (l : List Int) (k : KP) (vs : Value) (i : Value) (wr : World) : Prop :=
  ∃ (j at_ : Nat) (ve : Value), j ≤ k.es.length ∧ i = .int .i64 (k.es.length - j : Nat) ∧ KrAt wr r a c l at_ ∧ Sx l at_ ((k.es.drop j).flatMap eB) ∧ Blk wr K 70 (kpC q k vs ve) ∧ RowW (EntO w.heap.size) 2 75 w.heap.size wr ve (k.es.take j) ∧ Own wr w.heap.size 5 1 vs k.snap.length (bv k.snap) ∧ Fr [K] w wr
set_option maxRecDepth 100000 in
set_option maxHeartbeats 4000000 in
theorem unpack_calls {w : World} {K q : Nat} {a : Option Addr} {n c : Nat} {k : KP} {x1 x2 x3 x4 : Int} {vs0 : Value} (hK : Blk w K 70 [.pointer (some ⟨q, 0, none⟩), .int .i64 x1, .int .i64 x2, .int .i64 x3, .int .i64 x4, vs0, .slice none 0 0])
    (hr : RdA w (fun b => b = K) a (bv k.pack)) (hn : k.pack.length = n) (hc : n ≤ c) (hs : n ≤ 1000000000) (hw : k.wf) (hb : Byt k.pack) :
    Calls Try.prog 33 #[.pointer (some ⟨K, 0, none⟩), .slice a n c] w fun e w' => e = .returned (.bool true) ∧ ∃ vs ve, Blk w' K 70 (kpC q k vs ve) ∧ RowW (EntO w.heap.size) 2 75 w.heap.size w' ve k.es ∧ Own w' w.heap.size 5 1 vs k.snap.length (bv k.snap) ∧ Fr [K] w w' := by
  obtain ⟨l, hl⟩ : ∃ l, k.pack = l := ⟨_, rfl⟩
  have hx : Sx l 0 (layI k.term ++ (layI k.vote ++ (layI k.base ++ (layI k.bt ++ (layB k.snap ++ (layI k.es.length ++ k.es.flatMap eB)))))) := by
    rw [← hl]
    exact ⟨Nat.zero_le _, by simp [KP.pack]⟩
  rw [hl] at hr hn hb
  subst hn
  have HX := Lib.hid hx
  have HW := Lib.hid hw
  have HK := Lib.hid hK
  have HR := Lib.hid hr
  have HY := Lib.hid hb
  clear hx hw hK hr hb hl
  have hbr := reader_build a l.length c
  go_enter Try.func33, Try.ntmps33
  go_wp2_with fail
  have F1 := (Fr.refl [] w).alloc (.cells #[.slice a l.length c, .int .i64 0, .bool false] 113)
  have B1 : Blk (w.alloc (.cells #[.slice a l.length c, .int .i64 0, .bool false] 113)) w.heap.size 113 [.slice a l.length c, .int .i64 0, .bool false] := Blk.new w 113 _
  generalize w.alloc (.cells #[.slice a l.length c, .int .i64 0, .bool false] 113) = w1 at *
  have hz1 := F1.size
  obtain ⟨r, hrw⟩ : ∃ r, w.heap.size = r := ⟨_, rfl⟩
  rw [hrw] at B1 ⊢
  have hKlt := HK.out.lt
  have R1 : KrAt w1 r a c l 0 := ⟨B1, (HR.out.step F1 (by simp) (X' := fun b => b = r) (fun b hb => .inr (by omega))), HY.out, hc, by omega⟩
  have HK1 := Lib.hid (HK.out.fr F1 (by simp))
  have HF01 := Lib.hid F1
  have HR1 := Lib.hid R1
  have HX1 := HX
  have HF1 := Lib.hid (Fr.refl [r] w1)
  clear R1 B1 F1
  refine (rint_calls HR1.out HW.out.term HX1.out).mono ?_
  rintro e w2 ⟨rfl, R2, F2⟩
  have HR2 := Lib.hid R2
  have HX2 := Lib.hid HX1.out.step
  have HF2 := Lib.hid (HF1.out.trans1 F2)
  clear R2 F2 HR1 HX1 HF1
  dsimp only
  go_wp2_with fail
  refine (rint_calls HR2.out HW.out.vote HX2.out).mono ?_
  rintro e w3 ⟨rfl, R3, F3⟩
  have HR3 := Lib.hid R3
  have HX3 := Lib.hid HX2.out.step
  have HF3 := Lib.hid (HF2.out.trans1 F3)
  clear R3 F3 HR2 HX2 HF2
  dsimp only
  go_wp2_with fail
  refine (rint_calls HR3.out HW.out.baseI HX3.out).mono ?_
  rintro e w4 ⟨rfl, R4, F4⟩
  have HR4 := Lib.hid R4
  have HX4 := Lib.hid HX3.out.step
  have HF4 := Lib.hid (HF3.out.trans1 F4)
  clear R4 F4 HR3 HX3 HF3
  dsimp only
  go_wp2_with fail
  refine (rint_calls HR4.out HW.out.bt HX4.out).mono ?_
  rintro e w5 ⟨rfl, R5, F5⟩
  have HR5 := Lib.hid R5
  have HX5 := Lib.hid HX4.out.step
  have HF5 := Lib.hid (HF4.out.trans1 F5)
  clear R5 F5 HR4 HX4 HF4
  dsimp only
  have hKr : K ≠ r := by omega
  have HK5 := Lib.hid (HK1.out.fr HF5.out (by simpa using hKr))
  go_wp2_with (first
    | (have z := HK5.out; clear z; refine wpList_store1 rfl 3 _ _ rfl K 1 (.int .i64 k.term) (by rfl) (by rfl) rfl 70 _ HK5.out (by simp) (by kernel_rfl) rfl ?_; intro w6 B6 F6 S6; have HK6 := Lib.hid (show Blk w6 K 70 [.pointer (some ⟨q, 0, none⟩), .int .i64 k.term, .int .i64 x2, .int .i64 x3, .int .i64 x4, vs0, .slice none 0 0] from B6); have HF6 := Lib.hid F6; clear B6 F6 S6 HK5)
    | (have z := HK6.out; clear z; refine wpList_store1 rfl 3 _ _ rfl K 2 (.int .i64 k.vote) (by rfl) (by rfl) rfl 70 _ HK6.out (by simp) (by kernel_rfl) rfl ?_; intro w7 B7 F7 S7; have HK7 := Lib.hid (show Blk w7 K 70 [.pointer (some ⟨q, 0, none⟩), .int .i64 k.term, .int .i64 k.vote, .int .i64 x3, .int .i64 x4, vs0, .slice none 0 0] from B7); have HF7 := Lib.hid (HF6.out.trans1 F7); clear B7 F7 S7 HK6 HF6)
    | (have z := HK7.out; clear z; refine wpList_store1 rfl 3 _ _ rfl K 3 (.int .i64 k.base) (by rfl) (by rfl) rfl 70 _ HK7.out (by simp) (by kernel_rfl) rfl ?_; intro w8 B8 F8 S8; have HK8 := Lib.hid (show Blk w8 K 70 [.pointer (some ⟨q, 0, none⟩), .int .i64 k.term, .int .i64 k.vote, .int .i64 k.base, .int .i64 x4, vs0, .slice none 0 0] from B8); have HF8 := Lib.hid (HF7.out.trans1 F8); clear B8 F8 S8 HK7 HF7)
    | (have z := HK8.out; clear z; refine wpList_store1 rfl 3 _ _ rfl K 4 (.int .i64 k.bt) (by rfl) (by rfl) rfl 70 _ HK8.out (by simp) (by kernel_rfl) rfl ?_; intro w9 B9 F9 S9; have HK9 := Lib.hid (show Blk w9 K 70 [.pointer (some ⟨q, 0, none⟩), .int .i64 k.term, .int .i64 k.vote, .int .i64 k.base, .int .i64 k.bt, vs0, .slice none 0 0] from B9); have HF9 := Lib.hid (HF8.out.trans1 F9); clear B9 F9 S9 HK8 HF8))
  have FW9 : Fr [K] w w9 := ((HF01.out.ext (S := [K])).trans HF5.out (fun k hk hlt => by rw [List.mem_singleton.1 hk] at hlt; omega)).trans1 HF9.out
  have hRD : ∀ W', Fr [K] w W' → RdA W' (fun b => b = r) a (bv l) := fun W' f => HR.out.step f (fun k hk => .inl (List.mem_singleton.1 hk)) (fun k hk => .inr (by omega))
  have HRD := Lib.hid hRD
  have HR9 := Lib.hid (HR5.out.fr HF9.out (by simpa using hKr.symm) (HRD.out _ FW9))
  have HW9 := Lib.hid FW9
  clear FW9 hRD HR5 HF01 HF5 HF9
  refine (rbytes_calls HR9.out HW.out.sl HX5.out).mono ?_
  rintro e w10 ⟨vs, rfl, O10, R10, F10⟩
  have HX10 := Lib.hid HX5.out.step
  have HR10 := Lib.hid R10
  have hzw : w.heap.size ≤ w9.heap.size := HW9.out.size
  have HO10 := Lib.hid (O10.base hzw)
  have HW10 := Lib.hid (HW9.out.trans F10 (fun k hk hlt => by rw [List.mem_singleton.1 hk] at hlt; omega))
  have HK10 := Lib.hid (HK9.out.fr F10 (by simpa using hKr))
  obtain ⟨as1, cs1, rfl, _, _, _⟩ := O10.form
  clear R10 F10 O10 HX5 HR9 HW9 HK9 hzw
  dsimp only
  go_wp2_with (refine wpList_store1 rfl 33 _ _ rfl K 5 (.slice as1 k.snap.length cs1) (by rfl) (by rfl) rfl 70 _ HK10.out (by simp) (by kernel_rfl) rfl ?_; intro w11 B11 F11 S11; have HK11 := Lib.hid (show Blk w11 K 70 (kpC q k (.slice as1 k.snap.length cs1) (.slice none 0 0)) from B11); have HF11 := Lib.hid F11; clear B11 F11 S11)
  have HW11 := Lib.hid (HW10.out.trans1 HF11.out)
  have HR11 := Lib.hid (HR10.out.fr HF11.out (by simpa using hKr.symm) (HRD.out _ HW11.out))
  have HO11 := Lib.hid (HO10.out.fr HF11.out (fun g hg hm => by have := (HO10.out.lt hg).1; rw [List.mem_singleton.1 hm] at this; omega))
  clear HW10 HR10 HO10 HK10 HF11
  have hIl : I64 (k.es.length : Int) := by have := HW.out.el; unfold I64; omega
  refine (rint_calls HR11.out hIl HX10.out).mono ?_
  rintro e w12 ⟨rfl, R12, F12⟩
  have HU12 := Lib.hid (show UnpR w K q r a c l k (.slice as1 k.snap.length cs1) (.int .i64 (k.es.length : Int)) w12 from
    ⟨0, _, .slice none 0 0, Nat.zero_le _, by simp, R12, by simpa using HX10.out.step, HK11.out.fr F12 (by simpa using hKr), by simpa using RowW.nil w12, HO11.out.fr F12 (fun g hg hm => by rw [List.mem_singleton] at hm; have hbb := HO11.out.blkOf hg; obtain ⟨cur, hc⟩ := hbb; rw [hm] at hc; exact hc.ne HR11.out.hr (by decide) rfl), HW11.out.trans F12 (fun k hk hlt => by rw [List.mem_singleton.1 hk] at hlt; omega)⟩)
  have hel := HW.out.el
  clear R12 F12 HW11 HR11 HO11 HK11 HX10 hIl HK1
  dsimp only
  go_wp2_with fail
  go_loopw [6] (fun i wr => UnpR w K q r a c l k (.slice as1 k.snap.length cs1) i wr) (fun i _ => (intOf i).toNat)
  case atStart => exact HU12.out
  case round =>
    obtain ⟨j, at_, ve, hj, rfl, hR, hX, hB, hE, hO, hF⟩ := hrel
    have HR2 := Lib.hid hR
    have HX2 := Lib.hid hX
    have HB := Lib.hid hB
    have HE := Lib.hid hE
    have HO := Lib.hid hO
    have HF := Lib.hid hF
    have c2 : wr.cell? ⟨r, 2, none⟩ = some (.bool false) := hR.hr.cellAt rfl
    by_cases hlt : j < k.es.length
    · obtain ⟨y, hy⟩ : ∃ y, k.es[j]? = some y := ⟨k.es[j], List.getElem?_eq_getElem hlt⟩
      have hsn : k.es.take (j + 1) = k.es.take j ++ [y] := by rw [List.take_add_one, hy]; rfl
      have hdr : k.es.drop j = y :: k.es.drop (j + 1) := by
        rw [List.drop_eq_getElem_cons hlt]
        congr 1
        have := (List.getElem?_eq_some_iff.1 hy).2
        exact this
      have nb : (0 : Int) < ((k.es.length - j : Nat) : Int) := by omega
      clear hR hX hB hE hO hF
      go_upto_region 7 with fail
      obtain ⟨a3, c3, hve, hv1, hv2⟩ := HE.out.form
      subst hve
      have htl : (k.es.take j).length = j := by rw [List.length_take]; omega
      rw [htl] at HB HE hv1
      have HY2 := Lib.hid (HW.out.es y (List.mem_of_getElem? hy))
      have HX3 := Lib.hid (eB_step (hdr ▸ HX2.out))
      have HN := Lib.hid hsn
      have hrw2 : w.heap.size ≤ wr.heap.size := HF.out.size
      have c6 : ∀ W, Fr [r] wr W → W.cell? ⟨K, 6, none⟩ = some (.slice a3 j c3) := fun W f => (HB.out.fr f (by simpa using hKr)).cellAt rfl
      clear hdr hsn hy HX2 c2
      have heb := entry_build y.1
      refine wp_region_ord (Fr [r] wr) [0,1,2,3,4,5,7,6,8,9,10,11,12,13,14] [11, 14] [6, 8, 10, 11, 14] [4] mixed (by kernel_rfl) ?_
      have hS : Fr [r] wr wr.drew := (Fr.refl _ _).drew
      simp only [pairs, pickN]
      repeat (first | (refine wpO_free ?_ (by rfl) (by rfl) (fun w' => ?_) ?_; rotate_left; (go_simp; rfl); simp only [Act.put, List.setIfInBounds_toArray, List.set_cons_zero, List.set_cons_succ]) | (refine wpO_take ?_ hS (by rfl) (by rfl) (fun w' hw' => ?_) ?_; rotate_left; (go_simp; rfl); simp only [Act.put, List.setIfInBounds_toArray, List.set_cons_zero, List.set_cons_succ]) | (refine wpO_pass (by rfl) ?_; simp only [Act.put, List.setIfInBounds_toArray, List.set_cons_zero, List.set_cons_succ]))
      refine wpO_eff (by rfl) ?_
      refine wpList_callC rfl 50 #[.pointer (some ⟨r, 0, none⟩)] (by first | (go_simp; done) | (go_simp; rfl)) _ (rint_calls (HR2.out.fr0 ((Fr.refl [] wr).drew)) HY2.out.1 HX3.out) ?_
      rintro e w13 ⟨rfl, R13, F13⟩
      have hS13 : Fr [r] wr w13 := hS.trans1 F13
      refine ⟨_, rfl, effQ_keep hS13 ?_⟩
      simp only [Act.put, List.setIfInBounds_toArray, List.set_cons_zero, List.set_cons_succ]
      refine wpO_eff (by rfl) ?_
      refine wpList_callC rfl 51 #[.pointer (some ⟨r, 0, none⟩)] (by first | (go_simp; done) | (go_simp; rfl)) _ (rbytes_calls R13 HY2.out.2.2 HX3.out.step) ?_
      rintro e w14 ⟨v14, rfl, O14, R14, F14⟩
      obtain ⟨a14, c14, rfl, g1, g2, g3⟩ := O14.form
      have hS14 : Fr [r] wr w14 := hS13.trans1 F14
      refine ⟨_, rfl, effQ_keep hS14 ?_⟩
      simp only [Act.put, List.setIfInBounds_toArray, List.set_cons_zero, List.set_cons_succ]
      have hb14 := heb a14 y.2.length c14
      repeat (first | (refine wpO_free ?_ (by rfl) (by rfl) (fun w' => ?_) ?_; rotate_left; (go_simp; rfl); simp only [Act.put, List.setIfInBounds_toArray, List.set_cons_zero, List.set_cons_succ]) | (refine wpO_pass (by rfl) ?_; simp only [Act.put, List.setIfInBounds_toArray, List.set_cons_zero, List.set_cons_succ]))
      refine wpO_eff (by rfl) ?_
      refine wpList_buildSlice1 rfl 68 75 _ rfl [.int .i64 0, .slice none 0 0] 2 32 Try.underlying68 info_entry (by simp) (by omega) (by omega) _ [.int .i64 y.1, .slice a14 y.2.length c14] (by rfl) (by rfl) (by simp) ?_
      intro w15 B15 F15 S15
      have hS15 : Fr [r] wr w15 := hS14.trans0 F15
      refine effQ_keep hS15 ?_
      simp only [Act.put, List.setIfInBounds_toArray, List.set_cons_zero, List.set_cons_succ]
      have hrr : ∀ g ∈ [r], ∃ ty cur, Blk wr g ty cur ∧ ty ≠ 5 := fun g hg => ⟨_, _, (List.mem_singleton.1 hg) ▸ HR2.out.hr, by decide⟩
      have hE15 : RowW (EntO w.heap.size) 2 75 w.heap.size w15 (.slice a3 j c3) (k.es.take j) := HE.out.fr hS15 (fun g hg hm => by
        obtain ⟨cur, hc⟩ := HE.out.blkOf hg
        rw [List.mem_singleton.1 hm] at hc
        exact hc.ne HR2.out.hr (by decide) rfl) (fun cs t h => h.fr hS15 hrr)
      refine wpO_eff (by rfl) ?_
      refine wpList_appW rfl _ _ 68 68 rfl w.heap.size 75 75 [.int .i64 0, .slice none 0 0] 2 32 Try.underlying68 Try.underlying68 info_entry rfl (by decide) _ (k.es.take j) (by rfl) hE15 _ 1 (by rfl) 75 [.int .i64 y.1, .slice a14 y.2.length c14] B15 rfl (by simp [Value.oneCell']) y ⟨_, rfl, ((O14.fr0 F15).base (by have := hS13.size; omega))⟩ (by simp only [maxLen]; omega) (by omega) (by have := hS15.size; omega) (fun w' cs t f h => h.fr f (fun g hg => by obtain ⟨cur, hc⟩ := hE15.blkOf hg; exact ⟨_, cur, hc, by decide⟩)) ?_
      intro v16 w16 E16 F16 K16
      refine effQ_skip (by decide) ?_
      simp only [Act.put, List.setIfInBounds_toArray, List.set_cons_zero, List.set_cons_succ]
      repeat (first | (refine wpO_free ?_ (by rfl) (by rfl) (fun w' => ?_) ?_; rotate_left; (go_simp; rfl); simp only [Act.put, List.setIfInBounds_toArray, List.set_cons_zero, List.set_cons_succ]) | (refine wpO_pass (by rfl) ?_; simp only [Act.put, List.setIfInBounds_toArray, List.set_cons_zero, List.set_cons_succ]))
      refine wpO_eff (by rfl) ?_
      have B16 := (HB.out.fr hS15 (by simpa using hKr)).fr F16 (fun hm => by obtain ⟨cur, hc⟩ := hE15.blkOf hm; exact hc.ne (HB.out.fr hS15 (by simpa using hKr)) (by decide) rfl)
      obtain ⟨a16, c16, hv16, g4, g5⟩ := E16.form
      rw [show (k.es.take j ++ [y]).length = j + 1 by rw [List.length_append, htl]; rfl] at hv16
      subst hv16
      refine wpList_store1 rfl 68 _ _ rfl K 6 (.slice a16 (j + 1) c16) (by rfl) (by rfl) rfl 70 _ B16 (by simp [kpC]) (by kernel_rfl) rfl ?_
      intro w17 B17 F17 S17
      refine effQ_skip (by decide) (wpO_nil ?_)
      simp only [Act.put, List.setIfInBounds_toArray, List.set_cons_zero, List.set_cons_succ]
      have hF16 : Fr [K] w w16 := (HF.out.trans hS15 (fun k hk hlt => by rw [List.mem_singleton.1 hk] at hlt; omega)).trans F16 (fun k hk hlt => by have := (hE15.lt hk).1; omega)
      have hF17 : Fr [K] w w17 := hF16.trans1 F17
      have hrE : r ∉ ob (.slice a3 j c3) := fun hm => by obtain ⟨cur, hc⟩ := HE.out.blkOf hm; exact hc.ne HR2.out.hr (by decide) rfl
      have hKE : K ∉ ob (.slice a16 (j + 1) c16) := fun hm => by obtain ⟨cur, hc⟩ := E16.blkOf hm; exact hc.ne B16 (by decide) rfl
      have hR17 := ((R14.fr0 F15).fr F16 hrE (HRD.out _ hF16)).fr F17 (by simpa using hKr.symm) (HRD.out _ hF17)
      have hO17 : Own w17 w.heap.size 5 1 (.slice as1 k.snap.length cs1) k.snap.length (bv k.snap) := by
        have hne : ∀ {S : List Nat} {W W' : World}, Own W w.heap.size 5 1 (.slice as1 k.snap.length cs1) k.snap.length (bv k.snap) → Fr S W W' → (∀ g ∈ S, ∃ ty cur, Blk W g ty cur ∧ ty ≠ 5) → Own W' w.heap.size 5 1 (.slice as1 k.snap.length cs1) k.snap.length (bv k.snap) := fun ho f hS => ho.fr f (fun g hg hm => by
          obtain ⟨cur, hc⟩ := ho.blkOf hg
          obtain ⟨ty, cur2, hc2, hn⟩ := hS g hm
          exact hc2.ne hc hn rfl)
        refine hne (hne (hne HO.out hS15 hrr) F16 (fun g hg => ?_)) F17 (fun g hg => ⟨_, _, (List.mem_singleton.1 hg) ▸ B16, by decide⟩)
        obtain ⟨cur, hc⟩ := hE15.blkOf hg
        exact ⟨_, cur, hc, by decide⟩
      have hE17 := E16.fr F17 (fun g hg hm => hKE ((List.mem_singleton.1 hm) ▸ hg)) (fun cs t h => h.fr F17 (fun g hg => ⟨_, _, (List.mem_singleton.1 hg) ▸ B16, by decide⟩))
      rw [← HN.out] at hE17
      have HR6 := Lib.hid (show UnpR w K q r a c l k (.slice as1 k.snap.length cs1) (.int .i64 (k.es.length - (j + 1) : Nat)) w17 from
        ⟨j + 1, _, _, by omega, rfl, hR17, HX3.out.step.step, B17, hE17, hO17, hF17⟩)
      clear hS hS13 hS14 hS15 R13 F13 R14 F14 O14 g1 g2 g3 B15 F15 S15 hE15 E16 F16 K16 B16 B17 F17 S17 hF17 hrE hKE hR17 hO17 hE17
      go_wp2_with fail
      go_roundw
      case rel =>
        rw [show (((k.es.length - j : Nat) : Int) - 1) = ((k.es.length - (j + 1) : Nat) : Int) by omega]
        exact HR6.out
      case measure => simp [intOf]; omega
    · have hjl : j = k.es.length := by omega
      subst hjl
      have nb : ¬ (0 : Int) < ((k.es.length - k.es.length : Nat) : Int) := by omega
      have hat : at_ = l.length := by
        have h2 := congrArg List.length hX.2
        rw [List.drop_length, List.flatMap_nil, List.length_nil, List.length_drop] at h2
        have := hX.1
        omega
      subst hat
      have c1 : wr.cell? ⟨r, 1, none⟩ = some (.int .i64 l.length) := hR.hr.cellAt rfl
      rw [List.take_length] at HE
      clear hR hX hB hE hO hF
      go_wp2_with fail
      go_ret
      rw [← hrw]
      exact ⟨rfl, _, _, HB.out, HE.out, HO.out, HF.out⟩
end Go.Fur
namespace Go.Fur
open Go Go.RowKit Go.Proofs
set_option linter.unusedVariables false
set_option linter.unusedSimpArgs false
theorem kterm_nil (w : World) : Calls Try.prog 23 #[.pointer none] w fun e w' => e = .returned (.int .i64 0) ∧ w = w' := by
  go_enter Try.func23, Try.ntmps23
  go_wp2_with fail
  go_ret
  exact ⟨rfl, rfl⟩
theorem kvoted_nil (w : World) : Calls Try.prog 24 #[.pointer none] w fun e w' => e = .returned (.int .i64 0) ∧ w = w' := by
  go_enter Try.func24, Try.ntmps24
  go_wp2_with fail
  go_ret
  exact ⟨rfl, rfl⟩
theorem klast_nil (w : World) : Calls Try.prog 18 #[.pointer none] w fun e w' => e = .returned (.int .i64 0) ∧ w = w' := by
  go_enter Try.func18, Try.ntmps18
  go_wp2_with fail
  go_ret
  exact ⟨rfl, rfl⟩
theorem ksync_nil (w : World) : Calls Try.prog 12 #[.pointer none] w fun e w' => e = .returned (.int .i64 17) ∧ w = w' := by
  go_enter Try.func12, Try.ntmps12
  go_wp2_with fail
  go_ret
  exact ⟨rfl, rfl⟩
theorem kvote_nil (w : World) (x y : Value) : Calls Try.prog 9 #[.pointer none, x, y] w fun e w' => e = .returned (.int .i64 17) ∧ w = w' := by
  go_enter Try.func9, Try.ntmps9
  go_wp2_with fail
  go_ret
  exact ⟨rfl, rfl⟩
theorem kput_nil (w : World) (x y z : Value) : Calls Try.prog 10 #[.pointer none, x, y, z] w fun e w' => e = .returned (.int .i64 17) ∧ w = w' := by
  go_enter Try.func10, Try.ntmps10
  go_wp2_with fail
  go_ret
  exact ⟨rfl, rfl⟩
theorem kreset_nil (w : World) (x y z : Value) : Calls Try.prog 19 #[.pointer none, x, y, z] w fun e w' => e = .returned (.int .i64 17) ∧ w = w' := by
  go_enter Try.func19, Try.ntmps19
  go_wp2_with fail
  go_ret
  exact ⟨rfl, rfl⟩
theorem kbase_nil (w : World) : Calls Try.prog 21 #[.pointer none] w fun e w' => e = .returned (.tuple #[.int .i64 0, .int .i64 0, .slice none 0 0]) ∧ w = w' := by
  go_enter Try.func21, Try.ntmps21
  go_wp2_with fail
  go_ret3
  exact ⟨rfl, rfl⟩
theorem kentry_nil (w : World) (x : Value) : Calls Try.prog 22 #[.pointer none, x] w fun e w' => e = .returned (.tuple #[.int .i64 0, .slice none 0 0, .int .i64 17]) ∧ w = w' := by
  go_enter Try.func22, Try.ntmps22
  go_wp2_with fail
  go_ret3
  exact ⟨rfl, rfl⟩
theorem kterm_calls {w : World} {Y : Nat → Prop} {K q : Nat} {vs ve : Value} {k : KP} (h : KpRd w Y K q vs ve k) :
    Calls Try.prog 23 #[.pointer (some ⟨K, 0, none⟩)] w fun e w' => e = .returned (.int .i64 k.term) ∧ w = w' := by
  have c1 : w.cell? ⟨K, 1, none⟩ = some (.int .i64 k.term) := h.hk.cellAt rfl
  clear h
  go_enter Try.func23, Try.ntmps23
  go_wp2_with fail
  go_ret
  exact ⟨rfl, rfl⟩
theorem kvoted_calls {w : World} {Y : Nat → Prop} {K q : Nat} {vs ve : Value} {k : KP} (h : KpRd w Y K q vs ve k) :
    Calls Try.prog 24 #[.pointer (some ⟨K, 0, none⟩)] w fun e w' => e = .returned (.int .i64 k.vote) ∧ w = w' := by
  have c1 : w.cell? ⟨K, 2, none⟩ = some (.int .i64 k.vote) := h.hk.cellAt rfl
  clear h
  go_enter Try.func24, Try.ntmps24
  go_wp2_with fail
  go_ret
  exact ⟨rfl, rfl⟩
set_option maxRecDepth 100000 in
theorem klast_calls {w : World} {Y : Nat → Prop} {K q : Nat} {vs ve : Value} {k : KP} (h : KpRd w Y K q vs ve k) :
    Calls Try.prog 18 #[.pointer (some ⟨K, 0, none⟩)] w fun e w' => e = .returned (.int .i64 k.last) ∧ ∃ m, w' = w.drewN m := by
  obtain ⟨ae, ce, css, rfl, he1, he2, he3⟩ := h.en
  have c3 : w.cell? ⟨K, 3, none⟩ = some (.int .i64 k.base) := h.hk.cellAt rfl
  have c6 : w.cell? ⟨K, 6, none⟩ = some (.slice ae k.es.length ce) := h.hk.cellAt rfl
  have hl := h.wf.lastI
  unfold KP.last at hl ⊢
  clear h he1 he2 he3
  go_enter Try.func18, Try.ntmps18
  go_wp2_with fail
  go_quiet (fail)
  go_wp2_with fail
  go_ret
  exact ⟨rfl, nq, rfl⟩
set_option maxRecDepth 100000 in
set_option maxHeartbeats 1000000 in
theorem kbase_calls {w : World} {Y : Nat → Prop} {K q : Nat} {vs ve : Value} {k : KP} (h : KpRd w Y K q vs ve k) :
    Calls Try.prog 21 #[.pointer (some ⟨K, 0, none⟩)] w fun e w' => ∃ v, e = .returned (.tuple #[.int .i64 k.base, .int .i64 k.bt, v]) ∧ Own w' w.heap.size 5 1 v k.snap.length (bv k.snap) ∧ Fr [] w w' := by
  obtain ⟨as1, cs1, rfl, hs1, hs2, hs3⟩ := h.sn
  have d3 : ∀ W, Fr [] w W → W.cell? ⟨K, 3, none⟩ = some (.int .i64 k.base) := fun W f => (h.hk.fr f (by simp)).cellAt rfl
  have d4 : ∀ W, Fr [] w W → W.cell? ⟨K, 4, none⟩ = some (.int .i64 k.bt) := fun W f => (h.hk.fr f (by simp)).cellAt rfl
  have d5 : ∀ W, Fr [] w W → W.cell? ⟨K, 5, none⟩ = some (.slice as1 k.snap.length cs1) := fun W f => (h.hk.fr f (by simp)).cellAt rfl
  have hsl := h.wf.sl
  have HS := Lib.hid hs1
  clear h hs1
  go_enter Try.func21, Try.ntmps21
  go_wp2_with fail
  refine wp_region_ord (Fr [] w) [0,1,2,3,4,5,6,7,8,9,10,11,12,13,14,15] [] [12] [3, 7, 11] mixed (by kernel_rfl) ?_
  have hS : Fr [] w w.drew := (Fr.refl _ _).drew
  simp only [pairs, pickN]
  repeat (first | (refine wpO_free ?_ (by rfl) (by rfl) (fun w' => ?_) ?_; rotate_left; (go_simp; rfl); simp only [Act.put, List.setIfInBounds_toArray, List.set_cons_zero, List.set_cons_succ]) | (refine wpO_take ?_ hS (by rfl) (by rfl) (fun w' hw' => ?_) ?_; rotate_left; (go_simp; rfl); simp only [Act.put, List.setIfInBounds_toArray, List.set_cons_zero, List.set_cons_succ]) | (refine wpO_pass (by rfl) ?_; simp only [Act.put, List.setIfInBounds_toArray, List.set_cons_zero, List.set_cons_succ]))
  refine wpO_eff (by rfl) ?_
  refine wpList_appB rfl _ _ 33 33 rfl w.heap.size 5 5 .u8 1 Try.underlying33 Try.underlying33 info_byte (.slice none 0 0) 0 [] (by rfl) (Own.nil _ _ _ _) as1 k.snap.length cs1 (bv k.snap) (by rfl) (HS.out.rd.fr0 hS) (by rw [bv_length]) (bv_one _) (by simp only [maxLen]; omega) (by omega) (by have := hS.size; omega) ?_
  intro v2 w2 O2 F2 K2 _
  have hS2 : Fr [] w w2 := hS.trans0 F2
  refine effQ_keep hS2 ?_
  simp only [Act.put, List.setIfInBounds_toArray, List.set_cons_zero, List.set_cons_succ]
  repeat (first | (refine wpO_free ?_ (by rfl) (by rfl) (fun w' => ?_) ?_; rotate_left; (go_simp; rfl); simp only [Act.put, List.setIfInBounds_toArray, List.set_cons_zero, List.set_cons_succ]) | (refine wpO_pass (by rfl) ?_; simp only [Act.put, List.setIfInBounds_toArray, List.set_cons_zero, List.set_cons_succ]))
  refine wpO_nil ?_
  have HO := Lib.hid (show Own w2 w.heap.size 5 1 v2 k.snap.length (bv k.snap) by simpa using O2)
  have HF := Lib.hid hS2
  clear O2 F2 K2 hS2 hS
  go_wp2_with fail
  go_ret3
  exact ⟨v2, rfl, HO.out, HF.out⟩
/-- An entry, or what is wrong. -/
def KP.entry (k : KP) (i : Int) : Int × List Int × Int := if i ≤ k.base ∨ k.last < i then (0, [], 8) else ((k.es.getD (i - k.base - 1).toNat (0, [])).1, (k.es.getD (i - k.base - 1).toNat (0, [])).2, 0)
set_option maxRecDepth 100000 in
set_option maxHeartbeats 2000000 in
theorem kentry_calls {w : World} {Y : Nat → Prop} {K q : Nat} {vs ve : Value} {k : KP} (h : KpRd w Y K q vs ve k) (i : Int) (hi : I64 i) :
    Calls Try.prog 22 #[.pointer (some ⟨K, 0, none⟩), .int .i64 i] w fun e w' => ∃ v, e = .returned (.tuple #[.int .i64 (k.entry i).1, v, .int .i64 (k.entry i).2.2]) ∧ Own w' w.heap.size 5 1 v (k.entry i).2.1.length (bv (k.entry i).2.1) ∧ Fr [] w w' := by
  obtain ⟨ae, ce, css, rfl, he1, he2, he3⟩ := h.en
  have d3 : ∀ W, Fr [] w W → W.cell? ⟨K, 3, none⟩ = some (.int .i64 k.base) := fun W f => (h.hk.fr f (by simp)).cellAt rfl
  have d6 : ∀ W, Fr [] w W → W.cell? ⟨K, 6, none⟩ = some (.slice ae k.es.length ce) := fun W f => (h.hk.fr f (by simp)).cellAt rfl
  have c3 := d3 w (Fr.refl _ _)
  have HL := Lib.hid (klast_calls h)
  have hb := h.wf.base
  have hll := h.wf.lastI
  have hel := h.wf.el
  unfold I64 at hi
  by_cases hlo : i ≤ k.base
  · have e : k.entry i = (0, [], 8) := by unfold KP.entry; rw [if_pos (.inl hlo)]
    rw [e]
    clear e h he1
    go_enter Try.func22, Try.ntmps22
    go_wp2_with fail
    go_ret3
    exact ⟨_, rfl, Own.nil _ _ _ _, Fr.refl _ _⟩
  · by_cases hhi : k.last < i
    · have e : k.entry i = (0, [], 8) := by unfold KP.entry; rw [if_pos (.inr hhi)]
      rw [e]
      clear e h he1
      go_enter Try.func22, Try.ntmps22
      go_wp2_with fail
      refine HL.out.mono ?_
      rintro e w1 ⟨rfl, m, rfl⟩
      dsimp only
      go_wp2_with fail
      go_ret3
      exact ⟨_, rfl, Own.nil _ _ _ _, (Fr.refl _ _).drewN m⟩
    · have hlast : k.last = k.base + k.es.length := rfl
      obtain ⟨n, hn⟩ : ∃ n : Nat, i - k.base - 1 = n := ⟨(i - k.base - 1).toNat, by omega⟩
      have hnl : n < k.es.length := by omega
      obtain ⟨y, hy⟩ : ∃ y, k.es[n]? = some y := ⟨k.es[n], List.getElem?_eq_getElem hnl⟩
      have e : k.entry i = (y.1, y.2, 0) := by
        unfold KP.entry
        rw [if_neg (by omega), hn, Int.toNat_natCast, List.getD_eq_getElem?_getD, hy]
        rfl
      rw [e]
      obtain ⟨b, off, cs, hae, hblt, _, hcl, ⟨vd, hcs, hbd⟩, hrg⟩ := he1.get (by decide) hy
      obtain ⟨hyI, hyB, hyL⟩ := h.wf.es y (List.mem_of_getElem? hy)
      subst hcs hae
      obtain ⟨ad, cd, rfl, hd1, hd2, hd3⟩ := hbd
      have i0 : (0 : Int) ≤ (n : Int) := by omega
      have i1 : (n : Int) < (k.es.length : Int) := by omega
      have HRG := Lib.hid (fun W (f : Fr [] w W) => rangeAt_fr hrg f (by simp))
      have HD := Lib.hid hd1
      have j1 : IntKind.i64.wrap (i - k.base) = i - k.base := IntWalk.i64_in _ (by omega)
      have j2 : IntKind.i64.wrap (n : Int) = (n : Int) := IntWalk.i64_in _ (by omega)
      clear e h he1 hrg hd1 hy hyI hyB c3
      go_enter Try.func22, Try.ntmps22
      have c3 := d3 w (Fr.refl _ _)
      go_wp2_with fail
      refine HL.out.mono ?_
      rintro e w1 ⟨rfl, m, rfl⟩
      dsimp only
      go_wp2_with fail
      have hS : Fr [] w (w.drewN m).drew := ((Fr.refl _ _).drewN m).drew
      refine wp_region_ord (Fr [] w) [0,1,2,3,4,5,6,7,8,9,10,11,12,13,14] [] [13, 14] [3, 8, 12] mixed (by kernel_rfl) ?_
      simp only [pairs, pickN]
      repeat (first | (refine wpO_free ?_ (by rfl) (by rfl) (fun w' => ?_) ?_; rotate_left; (go_simp; rfl); simp only [Act.put, List.setIfInBounds_toArray, List.set_cons_zero, List.set_cons_succ]) | (refine wpO_take ?_ hS (by rfl) (by rfl) (fun w' hw' => ?_) ?_; rotate_left; (go_simp; rfl); simp only [Act.put, List.setIfInBounds_toArray, List.set_cons_zero, List.set_cons_succ]) | (refine wpO_pass (by rfl) ?_; simp only [Act.put, List.setIfInBounds_toArray, List.set_cons_zero, List.set_cons_succ]))
      refine wpO_takeY _ hS (by rfl) (yieldsIf_load_mid (by rfl) 75 _ rfl b (off + n * 2) rfl [.int .i64 y.1, .slice ad y.2.length cd] _ HRG.out Try.underlying75 rfl (by exact entry_size)) ?_
      simp only [Act.put, List.setIfInBounds_toArray, List.set_cons_zero, List.set_cons_succ]
      refine wpO_eff (by rfl) ?_
      refine wpList_allocZ rfl 75 rfl _ entry_zero ?_
      intro w7 B7 F7 S7
      have hS7 : Fr [] w w7 := hS.trans0 F7
      refine effQ_keep hS7 ?_
      simp only [Act.put, List.setIfInBounds_toArray, List.set_cons_zero, List.set_cons_succ]
      refine wpO_eff (by rfl) ?_
      refine wpList_storeB rfl 75 _ _ rfl w.heap.size 0 [.int .i64 y.1, .slice ad y.2.length cd] (by rfl) (by rfl) 75 _ B7 (by simp) (by exact entry_size) (by simp [Value.oneCell']) ?_
      intro w8 B8 F8 S8
      rw [splice_all _ _ (by rfl)] at B8
      have hS8 : Fr [] w w8 := hS7.trans F8 (fun x hx hlt => by rw [List.mem_singleton.1 hx] at hlt; exact absurd hlt (Nat.lt_irrefl _))
      refine effQ_keep hS8 (wpO_nil ?_)
      simp only [Act.put, List.setIfInBounds_toArray, List.set_cons_zero, List.set_cons_succ]
      have HB8 := Lib.hid (show Blk w8 w.heap.size 75 [.int .i64 y.1, .slice ad y.2.length cd] from B8)
      have HF8 := Lib.hid hS8
      clear hS hS7 B7 F7 S7 B8 F8 S8 hS8 j1 j2 d3 d6 c3
      have e0 : ∀ W, Fr [] w8 W → W.cell? ⟨w.heap.size, 0, none⟩ = some (.int .i64 y.1) := fun W f => (HB8.out.fr f (by simp)).cellAt rfl
      have e1 : ∀ W, Fr [] w8 W → W.cell? ⟨w.heap.size, 1, none⟩ = some (.slice ad y.2.length cd) := fun W f => (HB8.out.fr f (by simp)).cellAt rfl
      go_wp2_with fail
      refine wp_region_ord (Fr [] w8) [0,1,2,3,4,5,6,7] [] [4] [1, 3] mixed (by kernel_rfl) ?_
      have hS : Fr [] w8 w8.drew := (Fr.refl _ _).drew
      simp only [pairs, pickN]
      repeat (first | (refine wpO_free ?_ (by rfl) (by rfl) (fun w' => ?_) ?_; rotate_left; (go_simp; rfl); simp only [Act.put, List.setIfInBounds_toArray, List.set_cons_zero, List.set_cons_succ]) | (refine wpO_take ?_ hS (by rfl) (by rfl) (fun w' hw' => ?_) ?_; rotate_left; (go_simp; rfl); simp only [Act.put, List.setIfInBounds_toArray, List.set_cons_zero, List.set_cons_succ]) | (refine wpO_pass (by rfl) ?_; simp only [Act.put, List.setIfInBounds_toArray, List.set_cons_zero, List.set_cons_succ]))
      refine wpO_eff (by rfl) ?_
      refine wpList_appB rfl _ _ 33 33 rfl w.heap.size 5 5 .u8 1 Try.underlying33 Try.underlying33 info_byte (.slice none 0 0) 0 [] (by rfl) (Own.nil _ _ _ _) ad y.2.length cd (bv y.2) (by rfl) (HD.out.rd.fr0 (HF8.out.trans0 hS)) (by rw [bv_length]) (bv_one _) (by simp only [maxLen]; omega) (by omega) (by have := (HF8.out.trans0 hS).size; omega) ?_
      intro v9 w9 O9 F9 K9 _
      have hS9 : Fr [] w8 w9 := hS.trans0 F9
      refine effQ_keep hS9 ?_
      simp only [Act.put, List.setIfInBounds_toArray, List.set_cons_zero, List.set_cons_succ]
      repeat (first | (refine wpO_free ?_ (by rfl) (by rfl) (fun w' => ?_) ?_; rotate_left; (go_simp; rfl); simp only [Act.put, List.setIfInBounds_toArray, List.set_cons_zero, List.set_cons_succ]) | (refine wpO_pass (by rfl) ?_; simp only [Act.put, List.setIfInBounds_toArray, List.set_cons_zero, List.set_cons_succ]))
      refine wpO_nil ?_
      have HO := Lib.hid (show Own w9 w.heap.size 5 1 v9 y.2.length (bv y.2) by simpa using O9)
      have HF := Lib.hid (HF8.out.trans0 hS9)
      clear O9 F9 K9 hS9 hS
      go_wp2_with fail
      go_ret3
      exact ⟨v9, rfl, HO.out, HF.out⟩
end Go.Fur
