/- The document's keep, its functions: contracts. -/
import Derived.Test.YtclnikmnfnedkaaCKp11
import Derived.Test.YtclnikmnfnedkaaCKp5
namespace Go.Fur
open Go Go.RowKit Go.Proofs
set_option linter.unusedVariables false
set_option linter.unusedSimpArgs false
/-- The cells of a keep of the document. -/
def refC (k : KP) (vs ve : Value) : List Value := [.int .i64 k.term, .int .i64 k.vote, .int .i64 k.base, .int .i64 k.bt, vs, ve]
/-- A keep of the document that is only read. -/
def RefL (w : World) (Y : Nat → Prop) (cs : List Value) (k : KP) : Prop := ∃ vs ve, cs = refC k vs ve ∧ Bs w Y vs k.snap ∧ Ents w Y ve k.es
theorem RefL.step {S : List Nat} {w w' : World} {X X' : Nat → Prop} {cs : List Value} {k : KP} (h : RefL w X cs k) (f : Fr S w w') (hS : ∀ k ∈ S, X k ∨ w.heap.size ≤ k) (hX : ∀ k, X' k → X k ∨ w.heap.size ≤ k) : RefL w' X' cs k := by
  obtain ⟨vs, ve, h1, h2, h3⟩ := h
  exact ⟨vs, ve, h1, h2.step f hS hX, h3.step f hS hX⟩
theorem RefL.fr0 {w w' : World} {X : Nat → Prop} {cs : List Value} {k : KP} (h : RefL w X cs k) (f : Fr [] w w') : RefL w' X cs k := h.step f (by simp) (fun _ h => .inl h)
theorem RefL.nil (w : World) (X : Nat → Prop) : RefL w X (refC KP.new (.slice none 0 0) (.slice none 0 0)) KP.new := ⟨_, _, rfl, Bs.nil w X, Ents.nil w X⟩
theorem refC_one {k : KP} {vs ve : Value} (h1 : vs.oneCell' = true) (h2 : ve.oneCell' = true) : ∀ v ∈ refC k vs ve, v.oneCell' = true := by
  intro v hv
  simp only [refC, List.mem_cons, List.not_mem_nil, or_false] at hv
  rcases hv with rfl | rfl | rfl | rfl | rfl | rfl <;> first | rfl | assumption
theorem Ents.one {w : World} {Y : Nat → Prop} {v : Value} {l : List (Int × List Int)} (h : Ents w Y v l) : v.oneCell' = true := by
  obtain ⟨a, c, css, rfl, _⟩ := h
  rfl
theorem RefL.one {w : World} {X : Nat → Prop} {cs : List Value} {k : KP} (h : RefL w X cs k) : ∀ v ∈ cs, v.oneCell' = true := by
  obtain ⟨vs, ve, rfl, h2, h3⟩ := h
  exact refC_one h2.one h3.one
theorem rkeep_size : (Try.prog.info? 39).map (·.size) = some 6 := by kernel_rfl
theorem rkeep_zero : ∀ w, (zeroValue 39).run Try.prog w = .ok (.agg (([.int .i64 0, .int .i64 0, .int .i64 0, .int .i64 0, .slice none 0 0, .slice none 0 0] : List Value)).toArray) w := fun w => by kernel_rfl
theorem rkeep_build : ∀ w, (Instr.build 39 #[(1, .int .i64 (-1))]).run Try.prog w = .ok (.agg ((refC KP.new (.slice none 0 0) (.slice none 0 0))).toArray) w := fun w => by kernel_rfl
def zR : List Value := [.int .i64 0, .int .i64 0, .int .i64 0, .int .i64 0, .slice none 0 0, .slice none 0 0]
set_option maxRecDepth 100000 in
set_option maxHeartbeats 1000000 in
theorem rnew_calls (w : World) : Calls Try.prog 27 #[] w fun e w' => e = .returned (.agg (refC KP.new (.slice none 0 0) (.slice none 0 0)).toArray) ∧ Fr [] w w' := by
  have hb := rkeep_build
  go_enter Try.func27, Try.ntmps27
  go_wp2_with (first
    | (refine wpList_allocZ rfl 39 rfl zR rkeep_zero ?_; intro wA BA FA SA; have HA := Lib.hid BA; have HF := Lib.hid FA; clear BA FA SA)
    | (refine wpList_storeB rfl 39 _ _ rfl w.heap.size 0 (refC KP.new (.slice none 0 0) (.slice none 0 0)) (by rfl) (by rfl) 39 _ HA.out (by simp [refC, zR]) (by exact rkeep_size) (refC_one rfl rfl) ?_; intro w4 B4 F4 S4; rw [splice_all _ _ (by rfl)] at B4; have HB4 := Lib.hid B4; have HF4 := Lib.hid F4; clear B4 F4 S4))
  refine bodyPost_ret (results_cellB rfl _ _ w.heap.size 39 _ _ (by rfl) HB4.out Try.underlying39 rfl rkeep_size) rfl ⟨rfl, ?_⟩
  exact HF.out.trans HF4.out (fun k hk hlt => by rw [List.mem_singleton.1 hk] at hlt; omega)
set_option maxRecDepth 100000 in
set_option maxHeartbeats 1000000 in
theorem rlast_calls (w : World) (k : KP) (vs : Value) (a : Option Addr) (c : Nat) (hw : k.wf) : Calls Try.prog 52 #[.agg (refC k vs (.slice a k.es.length c)).toArray] w fun e w' => e = .returned (.int .i64 k.last) ∧ Fr [] w w' := by
  have hl := hw.lastI
  have hle := hw.el
  have hb := hw.base
  have j1 : IntKind.i64.wrap (k.base + k.es.length) = k.base + k.es.length := IntWalk.i64_in _ (by omega)
  go_enter Try.func52, Try.ntmps52
  go_wp2_with (refine wpList_boxB rfl 39 _ rfl (refC k vs (.slice a k.es.length c)) (by rfl) ?_; intro w1 B1 F1 S1; have c2 : w1.cell? ⟨w.heap.size, 2, none⟩ = some (.int .i64 k.base) := B1.cellAt rfl; have c5 : w1.cell? ⟨w.heap.size, 5, none⟩ = some (.slice a k.es.length c) := B1.cellAt rfl; have HF := Lib.hid F1; clear B1 F1 S1)
  go_ret
  exact ⟨rfl, HF.out⟩
def voteE (k : KP) (t v : Int) : Int × KP := if t < 0 ∨ t < k.term ∨ v < -1 then (1, k) else (0, { k with term := t, vote := v })
set_option maxRecDepth 100000 in
set_option maxHeartbeats 1000000 in
theorem rvote_calls (w : World) (k : KP) (vs ve : Value) (h1 : vs.oneCell' = true) (h2 : ve.oneCell' = true) (t v : Int) (ht : I64 t) (hv : I64 v) : Calls Try.prog 35 #[.agg (refC k vs ve).toArray, .int .i64 t, .int .i64 v] w fun e w' => e = .returned (.tuple #[.agg (refC (voteE k t v).2 vs ve).toArray, .int .i64 (voteE k t v).1]) ∧ Fr [] w w' := by
  by_cases b1 : t < 0
  · have e : voteE k t v = (1, k) := by unfold voteE; rw [if_pos (.inl b1)]
    rw [e]
    go_enter Try.func35, Try.ntmps35
    go_wp2_with (first
      | (refine wpList_boxB rfl 39 _ rfl (refC k vs ve) (by rfl) ?_; intro w1 B1 F1 S1; have HB1 := Lib.hid B1; have HF1 := Lib.hid F1; clear B1 F1 S1)
      | (refine wpList_allocZ rfl 39 rfl zR rkeep_zero ?_; intro wA BA FA SA; have HA := Lib.hid BA; have HF2 := Lib.hid (HF1.out.trans FA (by simp)); have HB2 := Lib.hid (HB1.out.fr FA (by simp)); have hA := FA.size; have hA1 := HB1.out.lt; have hA0 := HF1.out.size; have c0 := HB2.out.cellAt (i := 0) rfl; clear BA FA SA)
      | fail
      | (refine wpList_loadB rfl 39 _ rfl w.heap.size (by rfl) 39 _ _ HB2.out Try.underlying39 rfl (by exact rkeep_size) ?_)
      | (refine wpList_storeB rfl 39 _ _ rfl w1.heap.size 0 (refC k vs ve) (by rfl) (by rfl) 39 _ HA.out (by simp [refC, zR]) (by exact rkeep_size) (refC_one h1 h2) ?_; intro w8 B8 F8 S8; rw [splice_all _ _ (by rfl)] at B8; have HB8 := Lib.hid B8; have HF8 := Lib.hid F8; clear B8 F8 S8))
    refine bodyPost_ret (results_cellB_tmp rfl _ _ w1.heap.size 39 _ _ (by rfl) HB8.out Try.underlying39 rfl (by exact rkeep_size)) rfl ⟨by rfl, ?_⟩
    exact HF2.out.trans HF8.out (fun k hk hlt => by rw [List.mem_singleton.1 hk] at hlt; omega)
  · by_cases b2 : t < k.term
    · have e : voteE k t v = (1, k) := by unfold voteE; rw [if_pos (.inr (.inl b2))]
      rw [e]
      go_enter Try.func35, Try.ntmps35
      go_wp2_with (first
        | (refine wpList_boxB rfl 39 _ rfl (refC k vs ve) (by rfl) ?_; intro w1 B1 F1 S1; have HB1 := Lib.hid B1; have HF1 := Lib.hid F1; clear B1 F1 S1)
        | (refine wpList_allocZ rfl 39 rfl zR rkeep_zero ?_; intro wA BA FA SA; have HA := Lib.hid BA; have HF2 := Lib.hid (HF1.out.trans FA (by simp)); have HB2 := Lib.hid (HB1.out.fr FA (by simp)); have hA := FA.size; have hA1 := HB1.out.lt; have hA0 := HF1.out.size; have c0 := HB2.out.cellAt (i := 0) rfl; clear BA FA SA)
        | fail
        | (refine wpList_loadB rfl 39 _ rfl w.heap.size (by rfl) 39 _ _ HB2.out Try.underlying39 rfl (by exact rkeep_size) ?_)
        | (refine wpList_storeB rfl 39 _ _ rfl w1.heap.size 0 (refC k vs ve) (by rfl) (by rfl) 39 _ HA.out (by simp [refC, zR]) (by exact rkeep_size) (refC_one h1 h2) ?_; intro w8 B8 F8 S8; rw [splice_all _ _ (by rfl)] at B8; have HB8 := Lib.hid B8; have HF8 := Lib.hid F8; clear B8 F8 S8))
      refine bodyPost_ret (results_cellB_tmp rfl _ _ w1.heap.size 39 _ _ (by rfl) HB8.out Try.underlying39 rfl (by exact rkeep_size)) rfl ⟨by rfl, ?_⟩
      exact HF2.out.trans HF8.out (fun k hk hlt => by rw [List.mem_singleton.1 hk] at hlt; omega)
    · by_cases b3 : v < -1
      · have e : voteE k t v = (1, k) := by unfold voteE; rw [if_pos (.inr (.inr b3))]
        rw [e]
        go_enter Try.func35, Try.ntmps35
        go_wp2_with (first
          | (refine wpList_boxB rfl 39 _ rfl (refC k vs ve) (by rfl) ?_; intro w1 B1 F1 S1; have HB1 := Lib.hid B1; have HF1 := Lib.hid F1; clear B1 F1 S1)
          | (refine wpList_allocZ rfl 39 rfl zR rkeep_zero ?_; intro wA BA FA SA; have HA := Lib.hid BA; have HF2 := Lib.hid (HF1.out.trans FA (by simp)); have HB2 := Lib.hid (HB1.out.fr FA (by simp)); have hA := FA.size; have hA1 := HB1.out.lt; have hA0 := HF1.out.size; have c0 := HB2.out.cellAt (i := 0) rfl; clear BA FA SA)
          | fail
          | (refine wpList_loadB rfl 39 _ rfl w.heap.size (by rfl) 39 _ _ HB2.out Try.underlying39 rfl (by exact rkeep_size) ?_)
          | (refine wpList_storeB rfl 39 _ _ rfl w1.heap.size 0 (refC k vs ve) (by rfl) (by rfl) 39 _ HA.out (by simp [refC, zR]) (by exact rkeep_size) (refC_one h1 h2) ?_; intro w8 B8 F8 S8; rw [splice_all _ _ (by rfl)] at B8; have HB8 := Lib.hid B8; have HF8 := Lib.hid F8; clear B8 F8 S8))
        refine bodyPost_ret (results_cellB_tmp rfl _ _ w1.heap.size 39 _ _ (by rfl) HB8.out Try.underlying39 rfl (by exact rkeep_size)) rfl ⟨by rfl, ?_⟩
        exact HF2.out.trans HF8.out (fun k hk hlt => by rw [List.mem_singleton.1 hk] at hlt; omega)
      · have e : voteE k t v = (0, { k with term := t, vote := v }) := by unfold voteE; rw [if_neg (by omega)]
        rw [e]
        go_enter Try.func35, Try.ntmps35
        go_wp2_with (first
          | (refine wpList_boxB rfl 39 _ rfl (refC k vs ve) (by rfl) ?_; intro w1 B1 F1 S1; have HB1 := Lib.hid B1; have HF1 := Lib.hid F1; clear B1 F1 S1)
          | (refine wpList_allocZ rfl 39 rfl zR rkeep_zero ?_; intro wA BA FA SA; have HA := Lib.hid BA; have HF2 := Lib.hid (HF1.out.trans FA (by simp)); have HB2 := Lib.hid (HB1.out.fr FA (by simp)); have hA := FA.size; have hA1 := HB1.out.lt; have hA0 := HF1.out.size; have c0 := HB2.out.cellAt (i := 0) rfl; clear BA FA SA)
          | (refine wpList_store1 rfl 3 _ _ rfl w.heap.size 0 (.int .i64 t) (by rfl) (by rfl) rfl 39 _ HB2.out (by simp [refC]) (by kernel_rfl) rfl ?_; intro w5 B5 F5 S5; have HB5 := Lib.hid B5; have HF5 := Lib.hid F5; have HA5 := Lib.hid (HA.out.fr F5 (by simp; omega)); clear B5 F5 S5 c0) | (refine wpList_store1 rfl 3 _ _ rfl w.heap.size 1 (.int .i64 v) (by rfl) (by rfl) rfl 39 _ HB5.out (by simp [refC]) (by kernel_rfl) rfl ?_; intro w6 B6 F6 S6; have HB6 := Lib.hid B6; have HF6 := Lib.hid F6; have HA6 := Lib.hid (HA5.out.fr F6 (by simp; omega)); clear B6 F6 S6)
          | (refine wpList_loadB rfl 39 _ rfl w.heap.size (by rfl) 39 _ _ HB6.out Try.underlying39 rfl (by exact rkeep_size) ?_)
          | (refine wpList_storeB rfl 39 _ _ rfl w1.heap.size 0 (refC { k with term := t, vote := v } vs ve) (by rfl) (by rfl) 39 _ HA6.out (by simp [refC, zR]) (by exact rkeep_size) (refC_one h1 h2) ?_; intro w8 B8 F8 S8; rw [splice_all _ _ (by rfl)] at B8; have HB8 := Lib.hid B8; have HF8 := Lib.hid F8; clear B8 F8 S8))
        refine bodyPost_ret (results_cellB_tmp rfl _ _ w1.heap.size 39 _ _ (by rfl) HB8.out Try.underlying39 rfl (by exact rkeep_size)) rfl ⟨by rfl, ?_⟩
        exact ((HF2.out.trans HF5.out (fun k hk hlt => by rw [List.mem_singleton.1 hk] at hlt; omega)).trans HF6.out (fun k hk hlt => by rw [List.mem_singleton.1 hk] at hlt; omega)).trans HF8.out (fun k hk hlt => by rw [List.mem_singleton.1 hk] at hlt; omega)
end Go.Fur
namespace Go.Fur
open Go Go.RowKit
set_option linter.unusedVariables false
set_option linter.unusedSimpArgs false
theorem RdA.take {w : World} {X : Nat → Prop} {a : Option Addr} {cs : List Value} (h : RdA w X a cs) (n : Nat) : RdA w X a (cs.take n) := by
  intro hn
  obtain ⟨b, o, ha, hx, hlt, hr'⟩ := h (fun h0 => hn (by rw [h0]; simp))
  refine ⟨b, o, ha, hx, hlt, fun j v hv => ?_⟩
  rw [List.getElem?_take] at hv
  split at hv
  · exact hr' j v hv
  · cases hv
theorem RowA.dropN {τ : Type} {EL : World → (Nat → Prop) → List Value → τ → Prop} {k : Nat} {w : World} {X : Nat → Prop} {a a' : Option Addr} {l : List τ} {css : List (List Value)} (h : RowA EL k w X a l css) (n : Nat) (hr : RdA w X a' ((flat id css).drop (n * k))) : RowA EL k w X a' (l.drop n) (css.drop n) := by
  refine ⟨by rw [flat_dropA id k css h.all]; exact hr, by simp [h.len], fun i cs t h1 h2 => ?_⟩
  rw [List.getElem?_drop] at h1 h2
  exact h.each _ cs t h1 h2
theorem RowA.at {τ : Type} {EL : World → (Nat → Prop) → List Value → τ → Prop} {k : Nat} {w : World} {X : Nat → Prop} {a a' : Option Addr} {l : List τ} {css : List (List Value)} (h : RowA EL k w X a l css) (hr : RdA w X a' (flat id css)) : RowA EL k w X a' l css := ⟨hr, h.len, h.each⟩
section
variable {P : Program}
theorem slice_hK {t e : TypeId} {k : Nat} (hu : P.underlying t = some (.slice e)) (hs : (P.info? e).map (·.size) = some k) (a : Option Addr) (n c hi : Nat) (h : Int) (hh : h = (hi : Nat)) (h2 : hi ≤ c) :
    ∃ a', (∀ (W : World) (X : Nat → Prop) (cs : List Value), RdA W X a cs → RdA W X a' (cs.take (hi * k))) ∧ ∀ W : World, (Instr.slice t (.slice a n c) none (some (.int .i64 h)) none).run P W = .ok (.slice a' hi c) W := by
  have he : P.elem t = e := by simp [Program.elem, hu]
  have hsz : ∀ W, (sizeOf e).run P W = .ok k W := fun W => by
    cases hq : P.info? e with
    | none => simp [hq] at hs
    | some i =>
      have hsz : i.size = k := by simpa [hq] using hs
      simp [sizeOf, typeInfo, hq, hsz]
  subst hh
  refine ⟨if c = 0 then a else a.map (·.add (0 * k)), fun W X cs hr => ?_, fun W => ?_⟩
  · by_cases hc : c = 0
    · rw [if_pos hc, show hi = 0 by omega, Nat.zero_mul, List.take_zero]
      exact RdA.nil _ _ _
    · rw [if_neg hc]
      have : RdA W X (a.map (·.add (0 * k))) cs := by
        intro hn
        obtain ⟨b, o, rfl, hx, hlt, hr'⟩ := hr hn
        exact ⟨b, o, by simp [Addr.add], hx, hlt, hr'⟩
      exact this.take _
  · rw [run_slice_h W t a n c (by rw [hu, he]) .i64 _ (by omega) (by omega), he, hsz]
    simp only [Result.andThen, sliced]
    simp
theorem slice_lK {t e : TypeId} {k : Nat} (hu : P.underlying t = some (.slice e)) (hs : (P.info? e).map (·.size) = some k) (a : Option Addr) (n c lo : Nat) (l : Int) (hl : l = (lo : Nat)) (h1 : lo ≤ n) (h2 : n ≤ c) :
    ∃ a', (∀ (W : World) (X : Nat → Prop) (cs : List Value), RdA W X a cs → cs.length = n * k → RdA W X a' (cs.drop (lo * k))) ∧ ∀ W : World, (Instr.slice t (.slice a n c) (some (.int .i64 l)) none none).run P W = .ok (.slice a' (n - lo) (c - lo)) W := by
  have he : P.elem t = e := by simp [Program.elem, hu]
  have hsz : ∀ W, (sizeOf e).run P W = .ok k W := fun W => by
    cases hq : P.info? e with
    | none => simp [hq] at hs
    | some i =>
      have hsz : i.size = k := by simpa [hq] using hs
      simp [sizeOf, typeInfo, hq, hsz]
  subst hl
  refine ⟨if c = lo then a else a.map (·.add (lo * k)), fun W X cs hr hn => ?_, fun W => ?_⟩
  · by_cases hc : c = lo
    · rw [if_pos hc, List.drop_eq_nil_of_le (by rw [hn]; exact Nat.mul_le_mul_right _ (by omega))]
      exact RdA.nil _ _ _
    · rw [if_neg hc]
      intro hn
      obtain ⟨b, o, rfl, hx, hlt, hr'⟩ := hr (fun h0 => hn (by rw [h0]; simp))
      refine ⟨b, o + lo * k, by rw [Option.map_some, Addr.add_mid], hx, hlt, fun j v hv => ?_⟩
      rw [List.getElem?_drop] at hv
      have := hr' (lo * k + j) v hv
      rwa [← Nat.add_assoc] at this
  · rw [run_slice_l W t a n c (by rw [hu, he]) .i64 _ (by omega) (by omega), he, hsz]
    simp only [Result.andThen, sliced]
    simp
/-- append(v, x..), v one's own. -/
theorem wpList_appN {w : World} {ops : Array Oper} {rest : List Oper} {o : Oper} {a : Act} {Q : Exit → Act → World → Prop} (hgd : o.guard = none) (s y : Operand) (t tx : TypeId)
    (ho : o.op = .call { callee := .builtin .append, args := #[s, y], argTypes := #[t, tx] })
    (base : Nat) (e e' : TypeId) (zc : List Value) (size bytes : Nat) (ht : P.underlying t = some (.slice e)) (htx : P.underlying tx = some (.slice e')) (hi : (P.info? e).map (fun i => (i.zero.map (·.cells), i.size, i.bytes)) = some (some zc.toArray, size, bytes)) (hzc : zc.length = size) (hk0 : 0 < size)
    (v : Value) (n : Nat) (xs : List Value) (hv : a.eval s = v) (hown : Own w base e size v n xs)
    (ad : Option Addr) (m c : Nat) (news : List Value) (hx : a.eval y = .slice ad m c) (hs : Rd w ad news) (hm : news.length = m * size) (h1 : ∀ v ∈ news, v.oneCell' = true)
    (h63 : n + m ≤ maxLen) (hbytes : (n + m) * bytes ≤ 140737488355328) (hbase : base ≤ w.heap.size)
    (h : ∀ v' w', Own w' base e size v' (n + m) (xs ++ news) → Fr (ob v) w w' → (ob v' = ob v ∨ ob v' = [w.heap.size]) → wpList P ops Q rest (a.put o.dst v') w') : wpList P ops Q (o :: rest) a w := by
  cases hinf : P.info? e with
  | none => rw [hinf] at hi; cases hi
  | some i =>
    rw [hinf] at hi
    simp only [Option.map_some, Option.some.injEq, Prod.mk.injEq] at hi
    obtain ⟨hz, hsz, hby⟩ := hi
    cases hzz : i.zero with
    | none => rw [hzz] at hz; cases hz
    | some z =>
      rw [hzz] at hz
      simp only [Option.map_some, Option.some.injEq] at hz
      exact wpList_app hgd s y t tx ho base e i z size bytes ht hinf hzz hsz hby (by rw [hz]; simpa using hzc) hk0 v n xs hv hown _ m news hx (hs.src htx hm h1) h63 hbytes hbase fun v' w' g1 g2 g3 _ => h v' w' g1 g2 g3
end
end Go.Fur
namespace Go.Fur
open Go Go.RowKit Go.Proofs
set_option linter.unusedVariables false
set_option linter.unusedSimpArgs false
theorem rentry_size : (Try.prog.info? 55).map (·.size) = some 2 := by kernel_rfl
theorem info_rentry : (Try.prog.info? 55).map (fun i => (i.zero.map (·.cells), i.size, i.bytes)) = some (some ([.int .i64 0, .slice none 0 0] : List Value).toArray, 2, 32) := by kernel_rfl
theorem rents_build0 : ∀ W : World, (Instr.buildSlice 37 0 #[]).run Try.prog W = .ok (.slice (some ⟨W.heap.size, 0, none⟩) 0 0) (W.alloc (.cells #[] 55)) := fun W => by kernel_rfl
theorem rentry_build (t : Int) (a : Option Addr) (n c : Nat) : ∀ W, (Instr.build 55 #[(0, .int .i64 t), (1, .slice a n c)]).run Try.prog W = .ok (.agg #[.int .i64 t, .slice a n c]) W := fun W => by kernel_rfl
def putR (k : KP) (i t : Int) (l : List Int) : Int × KP := if i ≤ k.base ∨ k.last + 1 < i ∨ t < 0 ∨ 60000 < l.length then (1, k) else (0, putE k i t l)
theorem EntL.ones {w : World} {Y : Nat → Prop} {a : Option Addr} {l : List (Int × List Int)} {css : List (List Value)} (h : RowA EntL 2 w Y a l css) (n : Nat) : ∀ v ∈ flat id (css.take n), v.oneCell' = true := by
  intro v hv
  have h := h.takeN n
  obtain ⟨cs, hcs, hv⟩ := List.mem_flatMap.1 hv
  obtain ⟨i, hi⟩ := List.getElem?_of_mem hcs
  have hlt := (List.getElem?_eq_some_iff.1 hi).1
  obtain ⟨_, x, hx, hb⟩ := h.each i cs _ hi (List.getElem?_eq_getElem (by rw [← h.len]; exact hlt))
  rw [hx] at hv
  simp only [id, List.mem_cons, List.not_mem_nil, or_false] at hv
  rcases hv with rfl | rfl
  · rfl
  · exact hb.one
set_option maxRecDepth 100000 in
set_option maxHeartbeats 1000000 in
theorem rput_calls {w : World} {Y : Nat → Prop} {cs : List Value} {k : KP} (h : RefL w Y cs k) (hw : k.wf) (i t : Int) (hi : I64 i) (ht : I64 t) (a : Option Addr) (m c : Nat) (l : List Int) (hm : l.length = m) (hmc : m ≤ maxLen) (hr : Rd w a (bv l)) (hY : ∀ b, Y b → b < w.heap.size) :
    Calls Try.prog 37 #[.agg cs.toArray, .int .i64 i, .int .i64 t, .slice a m c] w fun e w' => ∃ cs', e = .returned (.tuple #[.agg cs'.toArray, .int .i64 (putR k i t l).1]) ∧ RefL w' Y cs' (putR k i t l).2 ∧ Fr [] w w' := by
  subst hm
  have HH := Lib.hid h
  obtain ⟨vs, ve, rfl, hs, ae, ce, css, rfl, he1, he2, he3⟩ := h
  have h1 := hs.one
  have hb := hw.base
  have hll := hw.lastI
  have hm63 : l.length ≤ 9223372036854775807 := by unfold maxLen at hmc; exact hmc
  have hlast : k.last = k.base + k.es.length := rfl
  have j1 : IntKind.i64.wrap (k.last + 1) = k.last + 1 := IntWalk.i64_in _ (by omega)
  have HL := Lib.hid (fun W => rlast_calls W k vs ae ce hw)
  have HR := Lib.hid hr
  have HE := Lib.hid (And.intro hs (And.intro he1 (And.intro he2 he3)))
  unfold I64 at hi ht
  clear hr hs he1 he2 he3
  by_cases hbad : i ≤ k.base ∨ k.last + 1 < i ∨ t < 0 ∨ 60000 < l.length
  · have e : putR k i t l = (1, k) := by unfold putR; rw [if_pos hbad]
    rw [e]
    clear e
    by_cases b1 : i ≤ k.base
    · go_enter Try.func37, Try.ntmps37
      go_wp2_with (first
        | (refine wpList_boxB rfl 39 _ rfl (refC k vs (.slice ae k.es.length ce)) (by rfl) ?_; intro w1 B1 F1 S1; have HB1 := Lib.hid B1; have HF1 := Lib.hid F1; clear B1 F1 S1)
        | (refine wpList_allocZ rfl 39 rfl zR rkeep_zero ?_; intro wA BA FA SA; have HA := Lib.hid BA; have HF2 := Lib.hid (HF1.out.trans FA (by simp)); have HB2 := Lib.hid (HB1.out.fr FA (by simp)); have hA := FA.size; have hA1 := HB1.out.lt; have hA0 := HF1.out.size; have c0 := HB2.out.cellAt (i := 0) rfl; have c1 := HB2.out.cellAt (i := 1) rfl; have c2 := HB2.out.cellAt (i := 2) rfl; have c3 := HB2.out.cellAt (i := 3) rfl; have c4 := HB2.out.cellAt (i := 4) rfl; have c5 := HB2.out.cellAt (i := 5) rfl; clear BA FA SA)
        | (refine wpList_storeB rfl 39 _ _ rfl w1.heap.size 0 (refC k vs (.slice ae k.es.length ce)) (by rfl) (by rfl) 39 _ HA.out (by simp [refC, zR]) (by exact rkeep_size) (refC_one h1 rfl) ?_; intro w8 B8 F8 S8; rw [splice_all _ _ (by rfl)] at B8; have HB8 := Lib.hid B8; have HF8 := Lib.hid (HF2.out.trans F8 (fun k hk hlt => by rw [List.mem_singleton.1 hk] at hlt; omega)); clear B8 F8 S8))
      exact bodyPost_ret (results_cellB_tmp rfl _ _ w1.heap.size 39 _ _ (by rfl) HB8.out Try.underlying39 rfl (by exact rkeep_size)) rfl ⟨_, by rfl, HH.out.fr0 HF8.out, HF8.out⟩
    · by_cases b2 : k.last + 1 < i
      · go_enter Try.func37, Try.ntmps37
        go_wp2_with (first
          | (refine wpList_boxB rfl 39 _ rfl (refC k vs (.slice ae k.es.length ce)) (by rfl) ?_; intro w1 B1 F1 S1; have HB1 := Lib.hid B1; have HF1 := Lib.hid F1; clear B1 F1 S1)
          | (refine wpList_allocZ rfl 39 rfl zR rkeep_zero ?_; intro wA BA FA SA; have HA := Lib.hid BA; have HF2 := Lib.hid (HF1.out.trans FA (by simp)); have HB2 := Lib.hid (HB1.out.fr FA (by simp)); have hA := FA.size; have hA1 := HB1.out.lt; have hA0 := HF1.out.size; have c0 := HB2.out.cellAt (i := 0) rfl; have c1 := HB2.out.cellAt (i := 1) rfl; have c2 := HB2.out.cellAt (i := 2) rfl; have c3 := HB2.out.cellAt (i := 3) rfl; have c4 := HB2.out.cellAt (i := 4) rfl; have c5 := HB2.out.cellAt (i := 5) rfl; clear BA FA SA)
          | fail)
        refine (HL.out _).mono ?_
        rintro e w2 ⟨rfl, F3⟩
        have hA2 := F3.size
        have HA3 := Lib.hid (HA.out.fr F3 (by simp))
        have HB3 := Lib.hid (HB2.out.fr F3 (by simp))
        have hA9 := HA3.out.lt
        have HF3 := Lib.hid (HF2.out.trans0 F3)
        have c0 := HB3.out.cellAt (i := 0) rfl
        have c1 := HB3.out.cellAt (i := 1) rfl
        have c2 := HB3.out.cellAt (i := 2) rfl
        have c3 := HB3.out.cellAt (i := 3) rfl
        have c4 := HB3.out.cellAt (i := 4) rfl
        have c5 := HB3.out.cellAt (i := 5) rfl
        clear F3
        dsimp only
        go_wp2_with (refine wpList_storeB rfl 39 _ _ rfl w1.heap.size 0 (refC k vs (.slice ae k.es.length ce)) (by rfl) (by rfl) 39 _ HA3.out (by simp [refC, zR]) (by exact rkeep_size) (refC_one h1 rfl) ?_; intro w8 B8 F8 S8; rw [splice_all _ _ (by rfl)] at B8; have HB8 := Lib.hid B8; have HF8 := Lib.hid (HF3.out.trans F8 (fun k hk hlt => by rw [List.mem_singleton.1 hk] at hlt; omega)); clear B8 F8 S8)
        exact bodyPost_ret (results_cellB_tmp rfl _ _ w1.heap.size 39 _ _ (by rfl) HB8.out Try.underlying39 rfl (by exact rkeep_size)) rfl ⟨_, by rfl, HH.out.fr0 HF8.out, HF8.out⟩
      · by_cases b3 : t < 0
        · go_enter Try.func37, Try.ntmps37
          go_wp2_with (first
            | (refine wpList_boxB rfl 39 _ rfl (refC k vs (.slice ae k.es.length ce)) (by rfl) ?_; intro w1 B1 F1 S1; have HB1 := Lib.hid B1; have HF1 := Lib.hid F1; clear B1 F1 S1)
            | (refine wpList_allocZ rfl 39 rfl zR rkeep_zero ?_; intro wA BA FA SA; have HA := Lib.hid BA; have HF2 := Lib.hid (HF1.out.trans FA (by simp)); have HB2 := Lib.hid (HB1.out.fr FA (by simp)); have hA := FA.size; have hA1 := HB1.out.lt; have hA0 := HF1.out.size; have c0 := HB2.out.cellAt (i := 0) rfl; have c1 := HB2.out.cellAt (i := 1) rfl; have c2 := HB2.out.cellAt (i := 2) rfl; have c3 := HB2.out.cellAt (i := 3) rfl; have c4 := HB2.out.cellAt (i := 4) rfl; have c5 := HB2.out.cellAt (i := 5) rfl; clear BA FA SA)
            | fail)
          refine (HL.out _).mono ?_
          rintro e w2 ⟨rfl, F3⟩
          have hA2 := F3.size
          have HA3 := Lib.hid (HA.out.fr F3 (by simp))
          have HB3 := Lib.hid (HB2.out.fr F3 (by simp))
          have hA9 := HA3.out.lt
          have HF3 := Lib.hid (HF2.out.trans0 F3)
          have c0 := HB3.out.cellAt (i := 0) rfl
          have c1 := HB3.out.cellAt (i := 1) rfl
          have c2 := HB3.out.cellAt (i := 2) rfl
          have c3 := HB3.out.cellAt (i := 3) rfl
          have c4 := HB3.out.cellAt (i := 4) rfl
          have c5 := HB3.out.cellAt (i := 5) rfl
          clear F3
          dsimp only
          go_wp2_with (refine wpList_storeB rfl 39 _ _ rfl w1.heap.size 0 (refC k vs (.slice ae k.es.length ce)) (by rfl) (by rfl) 39 _ HA3.out (by simp [refC, zR]) (by exact rkeep_size) (refC_one h1 rfl) ?_; intro w8 B8 F8 S8; rw [splice_all _ _ (by rfl)] at B8; have HB8 := Lib.hid B8; have HF8 := Lib.hid (HF3.out.trans F8 (fun k hk hlt => by rw [List.mem_singleton.1 hk] at hlt; omega)); clear B8 F8 S8)
          exact bodyPost_ret (results_cellB_tmp rfl _ _ w1.heap.size 39 _ _ (by rfl) HB8.out Try.underlying39 rfl (by exact rkeep_size)) rfl ⟨_, by rfl, HH.out.fr0 HF8.out, HF8.out⟩
        · have b4 : (60000 : Int) < (l.length : Int) := by omega
          go_enter Try.func37, Try.ntmps37
          go_wp2_with (first
            | (refine wpList_boxB rfl 39 _ rfl (refC k vs (.slice ae k.es.length ce)) (by rfl) ?_; intro w1 B1 F1 S1; have HB1 := Lib.hid B1; have HF1 := Lib.hid F1; clear B1 F1 S1)
            | (refine wpList_allocZ rfl 39 rfl zR rkeep_zero ?_; intro wA BA FA SA; have HA := Lib.hid BA; have HF2 := Lib.hid (HF1.out.trans FA (by simp)); have HB2 := Lib.hid (HB1.out.fr FA (by simp)); have hA := FA.size; have hA1 := HB1.out.lt; have hA0 := HF1.out.size; have c0 := HB2.out.cellAt (i := 0) rfl; have c1 := HB2.out.cellAt (i := 1) rfl; have c2 := HB2.out.cellAt (i := 2) rfl; have c3 := HB2.out.cellAt (i := 3) rfl; have c4 := HB2.out.cellAt (i := 4) rfl; have c5 := HB2.out.cellAt (i := 5) rfl; clear BA FA SA)
            | fail)
          refine (HL.out _).mono ?_
          rintro e w2 ⟨rfl, F3⟩
          have hA2 := F3.size
          have HA3 := Lib.hid (HA.out.fr F3 (by simp))
          have HB3 := Lib.hid (HB2.out.fr F3 (by simp))
          have hA9 := HA3.out.lt
          have HF3 := Lib.hid (HF2.out.trans0 F3)
          have c0 := HB3.out.cellAt (i := 0) rfl
          have c1 := HB3.out.cellAt (i := 1) rfl
          have c2 := HB3.out.cellAt (i := 2) rfl
          have c3 := HB3.out.cellAt (i := 3) rfl
          have c4 := HB3.out.cellAt (i := 4) rfl
          have c5 := HB3.out.cellAt (i := 5) rfl
          clear F3
          dsimp only
          go_wp2_with (refine wpList_storeB rfl 39 _ _ rfl w1.heap.size 0 (refC k vs (.slice ae k.es.length ce)) (by rfl) (by rfl) 39 _ HA3.out (by simp [refC, zR]) (by exact rkeep_size) (refC_one h1 rfl) ?_; intro w8 B8 F8 S8; rw [splice_all _ _ (by rfl)] at B8; have HB8 := Lib.hid B8; have HF8 := Lib.hid (HF3.out.trans F8 (fun k hk hlt => by rw [List.mem_singleton.1 hk] at hlt; omega)); clear B8 F8 S8)
          exact bodyPost_ret (results_cellB_tmp rfl _ _ w1.heap.size 39 _ _ (by rfl) HB8.out Try.underlying39 rfl (by exact rkeep_size)) rfl ⟨_, by rfl, HH.out.fr0 HF8.out, HF8.out⟩
  · have e : putR k i t l = (0, putE k i t l) := by unfold putR; rw [if_neg hbad]
    rw [e]
    have b1 : ¬ i ≤ k.base := by omega
    have b2 : ¬ k.last + 1 < i := by omega
    have b3 : ¬ t < 0 := by omega
    have b4 : ¬ (60000 : Int) < (l.length : Int) := by omega
    obtain ⟨n, hn⟩ : ∃ n : Nat, i - k.base - 1 = n := ⟨(i - k.base - 1).toNat, by omega⟩
    have hnl : n ≤ k.es.length := by omega
    have j2 : IntKind.i64.wrap (i - k.base) = i - k.base := IntWalk.i64_in _ (by omega)
    have j3 : IntKind.i64.wrap (i - k.base - 1) = n := by rw [← hn]; exact IntWalk.i64_in _ (by omega)
    obtain ⟨aR, hRR, hsl⟩ := slice_hK (P := Try.prog) Try.underlying37 rentry_size ae k.es.length ce n (n : Int) rfl (by have := HE.out.2.2.1; omega)
    have HRR := Lib.hid hRR
    have heb := rentry_build t
    have HN := Lib.hid (And.intro hn (And.intro hnl hlast))
    clear e hbad hRR hn hnl hlast
    go_enter Try.func37, Try.ntmps37
    go_wp2_with (first
      | (refine wpList_boxB rfl 39 _ rfl (refC k vs (.slice ae k.es.length ce)) (by rfl) ?_; intro w1 B1 F1 S1; have HB1 := Lib.hid B1; have HF1 := Lib.hid F1; clear B1 F1 S1)
      | (refine wpList_allocZ rfl 39 rfl zR rkeep_zero ?_; intro wA BA FA SA; have HA := Lib.hid BA; have HF2 := Lib.hid (HF1.out.trans FA (by simp)); have HB2 := Lib.hid (HB1.out.fr FA (by simp)); have hA := FA.size; have hA1 := HB1.out.lt; have hA0 := HF1.out.size; have c0 := HB2.out.cellAt (i := 0) rfl; have c1 := HB2.out.cellAt (i := 1) rfl; have c2 := HB2.out.cellAt (i := 2) rfl; have c3 := HB2.out.cellAt (i := 3) rfl; have c4 := HB2.out.cellAt (i := 4) rfl; have c5 := HB2.out.cellAt (i := 5) rfl; clear BA FA SA)
      | fail)
    refine (HL.out _).mono ?_
    rintro e w2 ⟨rfl, F3⟩
    have hA2 := F3.size
    have HA3 := Lib.hid (HA.out.fr F3 (by simp))
    have HB3 := Lib.hid (HB2.out.fr F3 (by simp))
    have hA9 := HA3.out.lt
    have HF3 := Lib.hid (HF2.out.trans0 F3)
    have c0 := HB3.out.cellAt (i := 0) rfl
    have c1 := HB3.out.cellAt (i := 1) rfl
    have c2 := HB3.out.cellAt (i := 2) rfl
    have c3 := HB3.out.cellAt (i := 3) rfl
    have c4 := HB3.out.cellAt (i := 4) rfl
    have c5 := HB3.out.cellAt (i := 5) rfl
    clear F3
    dsimp only
    have hlen : (flat id (css.take n)).length = n * 2 := by
      have hq := HE.out.2.1.len
      have hq2 := HN.out.2.1
      rw [flat_length id 2 _ (HE.out.2.1.takeN n).all, List.length_take, hq, Nat.min_eq_left hq2]
    have hone := EntL.ones HE.out.2.1 n
    have hsz1 : 0 + n ≤ maxLen := by have := HN.out.2.1; have := hw.el; simp only [maxLen]; omega
    have hsz2 : (0 + n) * 32 ≤ 140737488355328 := by have := HN.out.2.1; have := hw.el; omega
    go_wp2_with (first
      | (refine wpList_build0 rfl 37 55 2 rfl rents_build0 ?_; intro w3 O3 F3 S3; have HO3 := Lib.hid O3; have HF4 := Lib.hid (HF3.out.trans0 F3); have HA4 := Lib.hid (HA3.out.fr F3 (by simp)); have HB4 := Lib.hid (HB3.out.fr F3 (by simp)); have c2 := HB4.out.cellAt (i := 2) rfl; have c5 := HB4.out.cellAt (i := 5) rfl; have hz3 := F3.size; have HR3 := Lib.hid (show Rd w3 aR (flat id (css.take n)) from by rw [← flat_take id 2 css HE.out.2.1.all]; exact (HRR.out w3 _ _ (HE.out.2.1.rd.fr0 HF4.out)).rd); clear O3 F3)
      | (refine wpList_appN rfl _ _ 37 37 rfl w2.heap.size 55 55 [.int .i64 0, .slice none 0 0] 2 32 Try.underlying37 Try.underlying37 info_rentry rfl (by decide) _ 0 [] (by rfl) HO3.out aR n ce (flat id (css.take n)) (by rfl) HR3.out hlen hone hsz1 hsz2 hz3 ?_; intro v5 w5 O5 F5 K5)
      | fail)
    have hob5 : ∀ x ∈ ob (.slice (some ⟨w2.heap.size, 0, none⟩) 0 0), w2.heap.size ≤ x := fun x hx => (HO3.out.lt hx).1
    have HF5 := Lib.hid (HF4.out.trans F5 (fun x hx hlt => by have := hob5 x hx; omega))
    have HA5 := Lib.hid (HA4.out.fr F5 (fun hm => by have := hob5 _ hm; omega))
    have HB5 := Lib.hid (HB4.out.fr F5 (fun hm => by have := hob5 _ hm; omega))
    rw [Nat.zero_add, List.nil_append] at O5
    have HO5 := Lib.hid O5
    have hz5 := F5.size
    clear O5 F5 K5 c2 c5
    refine (twin_calls w5 a c l.length l rfl (by omega) (HR.out.fr0 HF5.out)).mono ?_
    rintro e w6 ⟨v6, rfl, O6, F6⟩
    obtain ⟨a6, c6, rfl, _, _, _⟩ := O6.form
    have HO6 := Lib.hid O6
    have HF6 := Lib.hid (HF5.out.trans0 F6)
    have HA6 := Lib.hid (HA5.out.fr F6 (by simp))
    have HB6 := Lib.hid (HB5.out.fr F6 (by simp))
    have HP6 := Lib.hid (HO5.out.fr0 F6)
    have hb6 := heb a6 l.length c6
    have hz6 := F6.size
    clear O6 F6
    dsimp only
    have hsz3 : n + 1 ≤ maxLen := by have := HN.out.2.1; have := hw.el; simp only [maxLen]; omega
    have hsz4 : (n + 1) * 32 ≤ 140737488355328 := by have := HN.out.2.1; have := hw.el; omega
    go_wp2_with (first
      | (refine wpList_buildSlice1 rfl 37 55 _ rfl [.int .i64 0, .slice none 0 0] 2 32 Try.underlying37 info_rentry (by simp) (by omega) (by omega) _ [.int .i64 t, .slice a6 l.length c6] (by rfl) (by rfl) (by simp) ?_; intro w7 B7 F7 S7; have HB7 := Lib.hid B7; have HF7 := Lib.hid F7; have hz7 : w2.heap.size ≤ w7.heap.size := (by have := F7.size; omega); have HP7 := Lib.hid (HP6.out.fr0 F7); clear B7 F7)
      | (refine wpList_appN rfl _ _ 37 37 rfl w2.heap.size 55 55 [.int .i64 0, .slice none 0 0] 2 32 Try.underlying37 Try.underlying37 info_rentry rfl (by decide) _ n _ (by rfl) HP7.out (some ⟨w6.heap.size, 0, none⟩) 1 1 [.int .i64 t, .slice a6 l.length c6] (by rfl) (by simpa using HB7.out.rd0 2) (by simp) (by simp [Value.oneCell']) hsz3 hsz4 hz7 ?_; intro v8 w8 O8 F8 K8; obtain ⟨a8, c8, hv8, _, _, _⟩ := O8.form; subst hv8; have HO8 := Lib.hid O8; have HF8 := Lib.hid F8; have HX8 := Lib.hid (HB6.out.fr (HF7.out.ext.trans1 F8) (fun hm => by have := (HP7.out.lt hm).1; omega)); have HA8 := Lib.hid (HA6.out.fr (HF7.out.ext.trans1 F8) (fun hm => by have := (HP7.out.lt hm).1; omega)); clear O8 F8 K8)
      | (refine wpList_store1 rfl 37 _ _ rfl w.heap.size 5 (.slice a8 (n + 1) c8) (by rfl) (by rfl) rfl 39 _ HX8.out (by simp [refC]) (by kernel_rfl) rfl ?_; intro w9 B9 F9 S9; have HB9 := Lib.hid B9; have HF9 := Lib.hid F9; have HA9 := Lib.hid (HA8.out.fr F9 (by simp; omega)); clear B9 F9 S9; have c0 := HB9.out.cellAt (i := 0) rfl; have c1 := HB9.out.cellAt (i := 1) rfl; have c2 := HB9.out.cellAt (i := 2) rfl; have c3 := HB9.out.cellAt (i := 3) rfl; have c4 := HB9.out.cellAt (i := 4) rfl; have c5 := HB9.out.cellAt (i := 5) rfl)
      | (refine wpList_storeB rfl 39 _ _ rfl w1.heap.size 0 (refC (putE k i t l) vs (.slice a8 (n + 1) c8)) (by rfl) (by rfl) 39 _ HA9.out (by simp [refC, zR]) (by exact rkeep_size) (refC_one h1 rfl) ?_; intro wB BB FB SB; rw [splice_all _ _ (by rfl)] at BB; have HBB := Lib.hid BB; have HFB := Lib.hid FB; clear BB FB SB)
      | fail)
    have hP7 : ∀ x ∈ ob v5, w2.heap.size ≤ x ∧ x < w5.heap.size := fun x hx => ⟨(HO5.out.lt hx).1, (HO5.out.lt hx).2⟩
    have hw2 : w.heap.size < w2.heap.size := by omega
    have f8 : Fr [] w w8 := ((HF6.out.trans0 HF7.out)).trans HF8.out (fun x hx hlt => by have := hP7 x hx; omega)
    have f9 : Fr [] w w9 := f8.trans HF9.out (fun x hx hlt => by rw [List.mem_singleton.1 hx] at hlt; omega)
    have fB : Fr [] w wB := f9.trans HFB.out (fun x hx hlt => by rw [List.mem_singleton.1 hx] at hlt; omega)
    have o6 := (((HO6.out.fr0 HF7.out).fr HF8.out (fun g hg hm => by have := hP7 g hm; have := (HO6.out.lt hg).1; omega)).fr HF9.out (fun g hg hm => by rw [List.mem_singleton.1 hm] at hg; have := (HO6.out.lt hg).1; omega)).fr HFB.out (fun g hg hm => by rw [List.mem_singleton.1 hm] at hg; have := (HO6.out.lt hg).1; omega)
    have o8 := (HO8.out.fr HF9.out (fun g hg hm => by rw [List.mem_singleton.1 hm] at hg; have := (HO8.out.lt hg).1; omega)).fr HFB.out (fun g hg hm => by rw [List.mem_singleton.1 hm] at hg; have := (HO8.out.lt hg).1; omega)
    have hrow := (HE.out.2.1.step fB (by simp) (X' := Y) (fun b hb => .inl hb) (fun cs t h => h.step fB (by simp) (fun b hb => .inl hb))).takeN n
    have htl : (k.es.take n).length = n := by rw [List.length_take]; exact Nat.min_eq_left HN.out.2.1
    refine bodyPost_ret (results_cellB_tmp rfl _ _ w1.heap.size 39 _ _ (by rfl) HBB.out Try.underlying39 rfl (by exact rkeep_size)) rfl ⟨_, by rfl, ⟨vs, _, rfl, HE.out.1.step fB (by simp) (fun b hb => .inl hb), ?_⟩, fB⟩
    have hes : (putE k i t l).es = k.es.take n ++ [(t, l)] := by
      show k.es.take (i - k.base - 1).toNat ++ [(t, l)] = _
      rw [HN.out.1]
      rfl
    rw [hes]
    refine Ents.snoc (x := (t, l)) (cs := [.int .i64 t, .slice a6 l.length c6]) hrow ⟨_, rfl, o6.bs rfl (fun b hb hy => ?_)⟩ (by rw [htl]; exact o8) (fun b hb hy => ?_)
    · have := (o6.lt hb).1
      have := hY b hy
      omega
    · have := (o8.lt hb).1
      have := hY b hy
      omega
end Go.Fur
