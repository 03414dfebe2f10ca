/- The writer of command: what it holds; int, uint, count: contracts. -/
import Derived.Test.YtmdfipahbhbgjaaStripLay
import Derived.Test.YtmdfipahbhbgjaaReg
import Derived.Test.YtmdfipahbhbgjaaReg2
import Derived.Lib.Zigzag
import Derived.Outline
namespace Go.Fur
open Go Go.RowKit Go.Proofs
set_option linter.unusedVariables false
set_option linter.unusedSimpArgs false
section
variable {P : Program}
/-- A slice literal of n elements, its run told ahead. -/
theorem wpList_buildN {w : World} {ops : Array Oper} {rest : List Oper} {o : Oper} {a : Act} {Q : Exit → Act → World → Prop} (hgd : o.guard = none) (t e : TypeId) (n : Nat) (ps : List (Nat × Operand)) (ho : o.op = .buildSlice t n ps.toArray)
    (parts : List (Nat × Value)) (hp : (ps.map fun p => (p.1, a.eval p.2)) = parts) (cs : List Value)
    (hr : ∀ W : World, (Instr.buildSlice t n parts.toArray).run P W = .ok (.slice (some ⟨W.heap.size, 0, none⟩) n n) (W.alloc (.cells cs.toArray e)))
    (h : ∀ w1 : World, Blk w1 w.heap.size e cs → Fr [] w w1 → w1.heap.size = w.heap.size + 1 → wpList P ops Q rest (a.put o.dst (.slice (some ⟨w.heap.size, 0, none⟩) n n)) w1) : wpList P ops Q (o :: rest) a w :=
  wpList_plain hgd fun K hK => by
    unfold Oper.wp execOp
    simp only [ho, List.map_toArray, hp, Sem.run_bind, hr, Result.andThen_ok, Sem.run_pure]
    exact hK _ _ (h _ (Blk.new w e cs) ((Fr.refl [] w).alloc _) (by simp))
end
theorem mixed : Try.prog.follows .mixedOrders = true := by kernel_rfl
/-- '^a'. -/
theorem i64_compl (a : Int) (h0 : -9223372036854775808 ≤ a) (h1 : a < 9223372036854775808) : bits .xor .i64 (-1) a = -1 - a := by
  show IntKind.i64.wrap ((BitVec.ofInt 64 (-1) ^^^ BitVec.ofInt 64 a).toNat : Int) = _
  have e1 : (BitVec.ofInt 64 (-1)).toNat = 2 ^ 64 - 1 := by decide
  have e2 : (BitVec.ofInt 64 a).toNat = (a % 18446744073709551616).toNat := by rw [BitVec.toNat_ofInt]; rfl
  rw [BitVec.toNat_xor, e1, e2, Lib.xor_ones64 _ (by omega), IntKind.wrap_i64]
  omega
/-- A whole number as a number; its bytes. -/
def zig (y : Int) : Nat := if y < 0 then (2 * (-y - 1) + 1).toNat else (2 * y).toNat
def layI (y : Int) : List Int := layN (zig y)
/-- Is it an int64? -/
def I64 (y : Int) : Prop := -9223372036854775808 ≤ y ∧ y < 9223372036854775808
theorem zig_lt (y : Int) (h : I64 y) : zig y < 18446744073709551616 := by
  obtain ⟨h0, h1⟩ := h
  unfold zig
  split <;> omega
theorem layI_length (y : Int) : (layI y).length ≤ 9 := by
  unfold layI
  rw [layN_length]
  have := kl_le (zig y)
  omega
theorem layInt_calls (w : World) (y : Int) (hy : I64 y) :
    Calls Try.prog 74 #[.slice none 0 0, .int .i64 y] w fun e w' => ∃ v, e = .returned v ∧ Own w' w.heap.size 5 1 v (layI y).length (bv (layI y)) ∧ Fr [] w w' := by
  have hz := zig_lt y hy
  have hll := layN_length (zig y)
  have hk8 := kl_le (zig y)
  have hc := lay_calls w none 0 0 [] rfl (by omega) (Rd.nil _ _) (zig y) hz
  rw [List.nil_append, Nat.zero_add] at hc
  have HC := Lib.hid hc
  obtain ⟨h0, h1⟩ := hy
  unfold layI
  by_cases hn : y < 0
  · have e : IntKind.u64.wrap (IntKind.u64.wrap (2 * IntKind.u64.wrap (bits .xor .i64 (-1) y)) + 1) = (zig y : Int) := by
      rw [i64_compl y h0 h1]
      simp only [IntKind.wrap_u64]
      unfold zig
      rw [if_pos hn]
      omega
    clear hc h0 h1 hz
    generalize zig y = z at *
    have HE := Lib.hid e
    clear e
    have hsg : IntKind.i64.signed = true := rfl
    go_enter Try.func74, Try.ntmps74
    go_wp2_with fail
    rw [HE.out]
    refine HC.out.mono ?_
    rintro e w' ⟨v, rfl, hO, hF⟩
    have HO := Lib.hid hO
    have HF := Lib.hid hF
    clear hO hF
    go_wp2_with fail
    go_ret
    exact ⟨v, rfl, HO.out, HF.out⟩
  · have e : IntKind.u64.wrap (2 * IntKind.u64.wrap y) = (zig y : Int) := by
      simp only [IntKind.wrap_u64]
      unfold zig
      rw [if_neg hn]
      omega
    have hn0 : 0 ≤ y := by omega
    clear hc h0 h1 hz hn0
    generalize zig y = z at *
    have HE := Lib.hid e
    clear e
    go_enter Try.func74, Try.ntmps74
    go_wp2_with fail
    rw [HE.out]
    refine HC.out.mono ?_
    rintro e w' ⟨v, rfl, hO, hF⟩
    have HO := Lib.hid hO
    have HF := Lib.hid hF
    clear hO hF
    go_wp2_with fail
    go_ret
    exact ⟨v, rfl, HO.out, HF.out⟩
/-! ### The writer -/
theorem info_w : (Try.prog.info? 72).map (·.size) = some 2 := by kernel_rfl
/-- The writer at the block p: the bytes bs (in v), the error e. -/
structure Wr (w : World) (base p : Nat) (v : Value) (bs : List Int) (e : Int) : Prop where
  hp : Blk w p 72 [v, .int .i64 e]
  ge : base ≤ p
  own : Own w base 5 1 v bs.length (bv bs)
theorem Blk.ne_own {w : World} {g base n : Nat} {t e : TypeId} {cs xs : List Value} {size : Nat} {v : Value} (h : Blk w g t cs) (ho : Own w base e size v n xs) (ht : e ≠ t) : v.ownBlock ≠ some g := by
  rcases ho.2 with ⟨rfl, _⟩ | ⟨g', cap, cur, rfl, hg, hh, r⟩
  · simp [Value.ownBlock]
  · intro hm
    have hgg : g' = g := by simpa [Value.ownBlock] using hm
    subst hgg
    unfold Blk at h
    rw [h] at hh
    injection hh with hh
    injection hh with _ h2
    exact ht h2.symm
/-- What a writer's step leaves as it was. -/
structure WS (p : Nat) (v : Value) (w w' : World) (v' : Value) : Prop where
  fr : Fr (p :: ob v) w w'
  sub : ∀ k ∈ ob v', k ∈ ob v ∨ w.heap.size ≤ k
theorem WS.refl (p : Nat) (v : Value) (w : World) : WS p v w w v := ⟨Fr.refl _ _, fun _ h => .inl h⟩
theorem WS.trans {p : Nat} {v v1 v2 : Value} {a b c : World} (h : WS p v a b v1) (k : WS p v1 b c v2) : WS p v a c v2 := by
  refine ⟨h.fr.trans k.fr (fun x hx hlt => ?_), fun x hx => ?_⟩
  · rcases List.mem_cons.1 hx with rfl | hx
    · exact List.mem_cons_self
    · rcases h.sub x hx with h1 | h1
      · exact List.mem_cons_of_mem _ h1
      · omega
  · rcases k.sub x hx with h1 | h1
    · exact h.sub x h1
    · have := h.fr.size
      exact .inr (by omega)
theorem Wr.fr0 {w w' : World} {base p : Nat} {v : Value} {bs : List Int} {e : Int} (h : Wr w base p v bs e) (f : Fr [] w w') : Wr w' base p v bs e := ⟨h.hp.fr f (by simp), h.ge, h.own.fr0 f⟩
theorem WS.pre {p : Nat} {v v1 : Value} {a b c : World} (f : Fr [] a b) (k : WS p v b c v1) : WS p v a c v1 := by
  refine ⟨(Fr.ext f).trans1 k.fr, fun x hx => ?_⟩
  rcases k.sub x hx with h1 | h1
  · exact .inl h1
  · have := f.size
    exact .inr (by omega)
theorem WS.post {p : Nat} {v v1 : Value} {a b c : World} (h : WS p v a b v1) (f : Fr [] b c) : WS p v a c v1 := ⟨h.fr.trans0 f, h.sub⟩
/-- A block of an elder world that is neither the writer's nor its bytes'. -/
theorem WS.blk {p : Nat} {v v1 : Value} {a b : World} (h : WS p v a b v1) {g : Nat} {t : TypeId} {cs : List Value} (hb : Blk a g t cs) (hp : g ≠ p) (ho : g ∉ ob v) : Blk b g t cs := hb.fr h.fr (by simp [hp, ho])
def WrE (base p : Nat) (v : Value) (bs : List Int) (er : Int) (w : World) (e : Ending) (w' : World) : Prop := e = .returned (.tuple #[]) ∧ ∃ v', Wr w' base p v' bs er ∧ WS p v w w' v'
set_option maxRecDepth 100000 in
set_option maxHeartbeats 1000000 in
theorem uint_calls {w : World} {base p : Nat} {v : Value} {bs : List Int} {er : Int} (h : Wr w base p v bs er) (x : Nat) (hx : x < 18446744073709551616) (hr : bs.length + 9 ≤ 70368744177664) :
    Calls Try.prog 32 #[.pointer (some ⟨p, 0, none⟩), .int .u64 x] w (WrE base p v (bs ++ layN x) er w) := by
  have hl : (layN x).length ≤ 9 := by rw [layN_length]; have := kl_le x; omega
  have hc := fun W => lay_calls W none 0 0 [] rfl (by omega) (Rd.nil _ _) x hx
  have HC := Lib.hid hc
  have HH := Lib.hid h
  have hpl := h.hp.lt
  have hge := h.ge
  clear h hx hc
  go_enter Try.func32, Try.ntmps32
  go_wp2_with fail
  refine wp_region_ord (Fr [] w) [0, 1, 2, 3, 4, 5, 6, 7, 8, 9, 10] [7, 10] [6, 7, 10] [2, 4] mixed (by kernel_rfl) ?_
  have hS : Fr [] w w.drew := (Fr.refl _ _).drew
  have c0 : ∀ W, Fr [] w W → W.cell? ⟨p, 0, none⟩ = some v := fun W f => (HH.out.hp.fr f (by simp)).cellAt rfl
  simp only [pairs, pickN]
  repeat (first | (refine wpO_free ?_ (by rfl) (by rfl) (fun w' => ?_) ?_; rotate_left; (go_simp; rfl); simp only [Act.put, List.setIfInBounds_toArray, List.set_cons_zero, List.set_cons_succ]) | (refine wpO_take ?_ hS (by rfl) (by rfl) (fun w' hw' => ?_) ?_; rotate_left; (go_simp; rfl); simp only [Act.put, List.setIfInBounds_toArray, List.set_cons_zero, List.set_cons_succ]) | (refine wpO_pass (by rfl) ?_; simp only [Act.put, List.setIfInBounds_toArray, List.set_cons_zero, List.set_cons_succ]))
  refine wpO_eff (by rfl) ?_
  refine wpList_callC rfl 75 #[.slice none 0 0, .int .u64 x] (by first | (go_simp; done) | (go_simp; rfl)) _ (HC.out _) ?_
  rintro e' w1 ⟨u, rfl, O1, F1⟩
  obtain ⟨a1, c1, hu, g1, g2, g3⟩ := O1.form
  subst hu
  refine ⟨_, rfl, ?_⟩
  have F01 : Fr [] w w1 := hS.trans0 F1
  refine effQ_keep F01 ?_
  simp only [Act.put, List.setIfInBounds_toArray, List.set_cons_zero, List.set_cons_succ]
  simp only [Nat.zero_add, List.nil_append] at O1 g1 g3
  have o1 := HH.out.own.fr0 F01
  refine wpO_eff (by rfl) ?_
  refine wpList_appB rfl _ _ 37 37 rfl base 5 5 .u8 1 Try.underlying37 Try.underlying37 info_byte v bs.length (bv bs) (by rfl) o1 a1 (0 + (layN x).length) c1 (bv (layN x)) (by rfl) g3 (by simp) (bv_one _) (by simp only [maxLen]; omega) (by omega) (by have := F01.size; omega) ?_
  intro v2 w2 O2 F2 K2 _
  rw [Nat.zero_add] at O2
  refine effQ_skip (by decide) ?_
  simp only [Act.put, List.setIfInBounds_toArray, List.set_cons_zero, List.set_cons_succ]
  have hpv : p ∉ ob v := fun hm => by
    rcases mem_ob.1 hm with hm
    exact (Blk.ne_own HH.out.hp HH.out.own (by decide)) hm
  have B2 := (HH.out.hp.fr F01 (by simp)).fr F2 hpv
  repeat (first | (refine wpO_free ?_ (by rfl) (by rfl) (fun w' => ?_) ?_; rotate_left; (go_simp; rfl); simp only [Act.put, List.setIfInBounds_toArray, List.set_cons_zero, List.set_cons_succ]) | (refine wpO_pass (by rfl) ?_; simp only [Act.put, List.setIfInBounds_toArray, List.set_cons_zero, List.set_cons_succ]))
  refine wpO_eff (by rfl) ?_
  refine wpList_store1 rfl 37 _ _ rfl p 0 v2 (by rfl) (by rfl) (by obtain ⟨_, _, e, _⟩ := O2.form; rw [e]; rfl) 72 _ B2 (by simp) (by kernel_rfl) (by obtain ⟨_, _, e, _⟩ := O2.form; rw [e]; rfl) ?_
  intro w3 B3 F3 S3
  refine effQ_skip (by decide) (wpO_nil ?_)
  simp only [Act.put, List.setIfInBounds_toArray, List.set_cons_zero, List.set_cons_succ]
  have hpv2 : ∀ k ∈ ob v2, k ∉ [p] := fun k hk hm => by
    rw [List.mem_singleton.1 hm] at hk
    rcases K2 with h | h <;> rw [h] at hk
    · exact hpv hk
    · have := List.mem_singleton.1 hk
      have := F01.size
      omega
  have R3 : Wr w3 base p v2 (bs ++ layN x) er := ⟨B3, hge, by
    have := O2.fr F3 hpv2
    rwa [List.length_append, bv_append]⟩
  have W3 : WS p v w w3 v2 := by
    refine ⟨((Fr.ext F01).trans (S' := ob v) F2 (fun k hk _ => List.mem_cons_of_mem _ hk)).trans F3 (fun k hk _ => by rw [List.mem_singleton.1 hk]; exact List.mem_cons_self), fun k hk => ?_⟩
    rcases K2 with h | h <;> rw [h] at hk
    · exact .inl hk
    · have := List.mem_singleton.1 hk
      have := F01.size
      exact .inr (by omega)
  have HR := Lib.hid (And.intro R3 W3)
  clear R3 W3 B3 F3 S3 O2 F2 K2 B2 o1 O1 F1 F01 hS c0 hpv hpv2
  go_wp2_with fail
  go_end0
  exact ⟨rfl, v2, HR.out.1, HR.out.2⟩
def intsE (l : List Int) : List Int := l.flatMap layI
theorem intsE_snoc (l : List Int) (x : Int) : intsE (l ++ [x]) = intsE l ++ layI x := by simp [intsE]
theorem intsE_length : ∀ l : List Int, (intsE l).length ≤ 9 * l.length
  | [] => by simp [intsE]
  | x :: l => by
    have h1 := layI_length x
    have h2 := intsE_length l
    have : intsE (x :: l) = layI x ++ intsE l := by simp [intsE]
    rw [this, List.length_append, List.length_cons]
    omega
def iv (l : List Int) : List Value := l.map (Value.int .i64)
def IntW (w : World) (base p : Nat) (v : Value) (bs : List Int) (er : Int) (l : List Int) (i : Value) (wr : World) : Prop :=
  ∃ k : Nat, k ≤ l.length ∧ i = .int .i64 k ∧ ∃ v', Wr wr base p v' (bs ++ intsE (l.take k)) er ∧ WS p v w wr v'
set_option maxRecDepth 100000 in
set_option maxHeartbeats 1000000 in
/-- Whole numbers are written; they lie in a row of their own. -/
theorem int_calls {w : World} {base p : Nat} {v : Value} {bs : List Int} {er : Int} (h : Wr w base p v bs er) (hbw : base ≤ w.heap.size) (g c : Nat) (l : List Int) (hg : Blk w g 2 (iv l)) (hgp : g ≠ p) (hgv : g ∉ ob v) (n : Nat) (hn : l.length = n) (hI : ∀ x ∈ l, I64 x) (hr : bs.length + 9 * (n + 1) ≤ 70368744177664) :
    Calls Try.prog 31 #[.pointer (some ⟨p, 0, none⟩), .slice (some ⟨g, 0, none⟩) n c] w (WrE base p v (bs ++ intsE l) er w) := by
  subst hn
  have HH := Lib.hid h
  have HG := Lib.hid hg
  have HI := Lib.hid hI
  have hgl := hg.lt
  clear h hg hI
  go_enter Try.func31, Try.ntmps31
  go_wp2_with fail
  go_loopw [8] (fun i wr => IntW w base p v bs er l i wr) (fun i _ => l.length - (intOf i).toNat)
  case atStart => exact ⟨0, Nat.zero_le _, rfl, v, by simpa [intsE] using HH.out, WS.refl _ _ _⟩
  case round =>
    obtain ⟨k, hk, rfl, v1, hW, hS1⟩ := hrel
    by_cases hlt : k < l.length
    · obtain ⟨y, hy⟩ : ∃ y, l[k]? = some y := ⟨l[k], List.getElem?_eq_getElem hlt⟩
      have hyI := HI.out y (List.mem_of_getElem? hy)
      have kb : (k : Int) < (l.length : Int) := by omega
      have hgr := hS1.blk HG.out hgp hgv
      have cy : wr.cell? ⟨g, k, none⟩ = some (.int .i64 y) := hgr.cellAt (by unfold iv; rw [List.getElem?_map, hy]; rfl)
      have hsn : l.take (k + 1) = l.take k ++ [y] := by rw [List.take_add_one, hy]; rfl
      have hle := intsE_length (l.take k)
      have hlk : (l.take k).length = k := by rw [List.length_take]; omega
      have hYl := layI_length y
      have HC := Lib.hid (fun W => layInt_calls W y hyI)
      have HW := Lib.hid hW
      have HS := Lib.hid hS1
      have HN := Lib.hid hsn
      have hpl := hW.hp.lt
      have hge := hW.ge
      have hbl : bs.length + (intsE (l.take k)).length + 9 ≤ 70368744177664 := by omega
      clear hW hS1 hsn hy hgr hyI hle
      generalize hB : bs ++ intsE (l.take k) = B at *
      have hBl : B.length + 9 ≤ 70368744177664 := by rw [← hB, List.length_append]; exact hbl
      have HB := Lib.hid hB
      clear hB hbl
      go_wp2_with fail
      refine wp_region_ord (Fr [] wr) [0, 1, 2, 3, 4, 5, 6, 7, 8, 9, 10] [7, 10] [6, 7, 10] [2, 4] mixed (by kernel_rfl) ?_
      have hS : Fr [] wr wr.drew := (Fr.refl _ _).drew
      have c0 : ∀ W, Fr [] wr W → W.cell? ⟨p, 0, none⟩ = some v1 := fun W f => (HW.out.hp.fr f (by simp)).cellAt rfl
      simp only [pairs, pickN]
      repeat (first | (refine wpO_free ?_ (by rfl) (by rfl) (fun w' => ?_) ?_; rotate_left; (go_simp; rfl); simp only [Act.put, List.setIfInBounds_toArray, List.set_cons_zero, List.set_cons_succ]) | (refine wpO_take ?_ hS (by rfl) (by rfl) (fun w' hw' => ?_) ?_; rotate_left; (go_simp; rfl); simp only [Act.put, List.setIfInBounds_toArray, List.set_cons_zero, List.set_cons_succ]) | (refine wpO_pass (by rfl) ?_; simp only [Act.put, List.setIfInBounds_toArray, List.set_cons_zero, List.set_cons_succ]))
      refine wpO_eff (by rfl) ?_
      refine wpList_callC rfl 74 #[.slice none 0 0, .int .i64 y] (by first | (go_simp; done) | (go_simp; rfl)) _ (HC.out _) ?_
      rintro e' w1 ⟨u, rfl, O1, F1⟩
      obtain ⟨a1, c1, hu, g1, g2, g3⟩ := O1.form
      subst hu
      refine ⟨_, rfl, ?_⟩
      have F01 : Fr [] wr w1 := hS.trans0 F1
      refine effQ_keep F01 ?_
      simp only [Act.put, List.setIfInBounds_toArray, List.set_cons_zero, List.set_cons_succ]
      have o1 := HW.out.own.fr0 F01
      refine wpO_eff (by rfl) ?_
      refine wpList_appB rfl _ _ 37 37 rfl base 5 5 .u8 1 Try.underlying37 Try.underlying37 info_byte v1 B.length (bv B) (by rfl) o1 a1 (layI y).length c1 (bv (layI y)) (by rfl) g3 (by simp) (bv_one _) (by simp only [maxLen]; omega) (by omega) (by have := F01.size; have := HS.out.fr.size; omega) ?_
      intro v2 w2 O2 F2 K2 _
      refine effQ_skip (by decide) ?_
      simp only [Act.put, List.setIfInBounds_toArray, List.set_cons_zero, List.set_cons_succ]
      have hpv : p ∉ ob v1 := fun hm => (Blk.ne_own HW.out.hp HW.out.own (by decide)) (mem_ob.1 hm)
      have B2 := (HW.out.hp.fr F01 (by simp)).fr F2 hpv
      repeat (first | (refine wpO_free ?_ (by rfl) (by rfl) (fun w' => ?_) ?_; rotate_left; (go_simp; rfl); simp only [Act.put, List.setIfInBounds_toArray, List.set_cons_zero, List.set_cons_succ]) | (refine wpO_pass (by rfl) ?_; simp only [Act.put, List.setIfInBounds_toArray, List.set_cons_zero, List.set_cons_succ]))
      refine wpO_eff (by rfl) ?_
      refine wpList_store1 rfl 37 _ _ rfl p 0 v2 (by rfl) (by rfl) (by obtain ⟨_, _, e, _⟩ := O2.form; rw [e]; rfl) 72 _ B2 (by simp) (by kernel_rfl) (by obtain ⟨_, _, e, _⟩ := O2.form; rw [e]; rfl) ?_
      intro w3 B3 F3 S3
      refine effQ_skip (by decide) (wpO_nil ?_)
      simp only [Act.put, List.setIfInBounds_toArray, List.set_cons_zero, List.set_cons_succ]
      have hpv2 : ∀ k ∈ ob v2, k ∉ [p] := fun k hk hm => by
        rw [List.mem_singleton.1 hm] at hk
        rcases K2 with h | h <;> rw [h] at hk
        · exact hpv hk
        · have := List.mem_singleton.1 hk
          have := F01.size
          omega
      have R3 : Wr w3 base p v2 (B ++ layI y) er := ⟨B3, hge, by
        have := O2.fr F3 hpv2
        rwa [List.length_append, bv_append]⟩
      have W3 : WS p v1 wr w3 v2 := by
        refine ⟨((Fr.ext F01).trans (S' := ob v1) F2 (fun k hk _ => List.mem_cons_of_mem _ hk)).trans F3 (fun k hk _ => by rw [List.mem_singleton.1 hk]; exact List.mem_cons_self), fun k hk => ?_⟩
        rcases K2 with h | h <;> rw [h] at hk
        · exact .inl hk
        · have := List.mem_singleton.1 hk
          have := F01.size
          exact .inr (by omega)
      have HR := Lib.hid (show IntW w base p v bs er l (.int .i64 ((k + 1 : Nat) : Int)) w3 from ⟨k + 1, by omega, rfl, v2, by rw [HN.out, intsE_snoc, ← List.append_assoc, HB.out]; exact R3, HS.out.trans W3⟩)
      clear R3 W3 B3 F3 S3 O2 F2 K2 B2 o1 O1 F1 F01 hS c0 hpv hpv2 cy
      go_wp2_with fail
      go_roundw
      case rel => exact HR.out
      case measure => simp [intOf]; omega
    · have hkl : k = l.length := by omega
      subst hkl
      rw [List.take_length] at hW
      have HR := Lib.hid (And.intro hW hS1)
      clear hW hS1
      go_wp2_with fail
      go_end0
      exact ⟨rfl, v1, HR.out.1, HR.out.2⟩
end Go.Fur
