/- The entries behind an index: the iterator. -/
import Derived.Test.YtclnikmnfnedkaaCRegIn
import Derived.Test.YtclnikmnfnedkaaCSto6
import Derived.RangeFuncBound
import Derived.RangeFuncLeaves
import Derived.Shelf.Abstract
import Derived.OwnWalkIn
import Derived.TacticsInMore
import Derived.LoopNIn
import Derived.LoopIn
namespace Go.Fur
open Go Go.RowKit Go.Proofs
attribute [local go_sem] Oper.semAt_some
set_option linter.unusedVariables false
set_option linter.unusedSimpArgs false
theorem behind_calls (w : World) (K : Nat) (i : Int) :
    Calls Try.prog 39 #[.pointer (some ⟨K, 0, none⟩), .int .i64 i] w fun e w' => e = .returned (.func (.func 53) #[] #[.pointer (some ⟨w.heap.size, 0, none⟩), .pointer (some ⟨w.heap.size + 1, 0, none⟩)]) ∧
      Blk w' w.heap.size 27 [.pointer (some ⟨K, 0, none⟩)] ∧ Blk w' (w.heap.size + 1) 3 [.int .i64 i] ∧ Fr [] w w' ∧ w'.heap.size = w.heap.size + 2 := by
  go_enter Try.func39, Try.ntmps39
  go_wp2_with fail
  go_ret
  refine ⟨rfl, (Blk.new w 27 [.pointer (some ⟨K, 0, none⟩)]).alloc _, ?_, ((Fr.refl [] w).alloc _).alloc _, by simp⟩
  have := Blk.new (w.alloc (.cells #[.pointer (some ⟨K, 0, none⟩)] 27)) 3 [.int .i64 i]
  rwa [World.size_alloc] at this
abbrev EV := (Int × List Int) × Value
/-- An entry that is told. -/
def SEnt (Y : Nat → Prop) (x : EV) (W : World) : Prop := ∃ v, x.2 = .agg #[.int .i64 x.1.1, v] ∧ Bs W Y v x.1.2
structure BehR (w : World) (X : Nat → Prop) (Y : Nat → Prop) (J : List EV → World → Prop) (K q B1 B2 : Nat) (idx : Int) (vs ve : Value) (k : KP) (m j : Nat) (pre : List EV) (wr : World) : Prop where
  le : j ≤ k.es.length
  jj : J pre wr
  rd : KpRd wr Y K q vs ve k
  b1 : Blk wr B1 27 [.pointer (some ⟨K, 0, none⟩)]
  b2 : Blk wr B2 3 [.int .i64 idx]
  pre : pre.map Prod.fst = (k.es.take j).drop m
set_option maxRecDepth 100000 in
set_option maxHeartbeats 4000000 in
theorem behind1_seq {w : World} {X Y : Nat → Prop} {K q B1 B2 : Nat} {vs ve : Value} {k : KP} {idx : Int} (h : KpRd w Y K q vs ve k) (h1 : Blk w B1 27 [.pointer (some ⟨K, 0, none⟩)]) (h2 : Blk w B2 3 [.int .i64 idx]) (hX : ∀ b, X b → Y b ∧ b ≠ K ∧ b ≠ B1 ∧ b ≠ B2) (hi : k.base < idx) (hi2 : idx ≤ 1152921504606846976) :
    SeqFr Try.prog 53 #[.pointer (some ⟨B1, 0, none⟩), .pointer (some ⟨B2, 0, none⟩)] (fun x : EV => x.2) (SEnt Y) [] X 1000000 (fun xs W => xs.map Prod.fst = k.es.drop (idx - k.base).toNat) w := by
  intro y J W hW hJ hY h0
  obtain ⟨m, hm⟩ : ∃ m : Nat, idx - k.base = m := ⟨(idx - k.base).toNat, by omega⟩
  have hel := h.wf.el
  have hb := h.wf.base
  have R0 : BehR w X Y J K q B1 B2 idx vs ve k m 0 [] W := ⟨Nat.zero_le _, h0, h.fr0 hW, h1.fr hW (by simp), h2.fr hW (by simp), by simp⟩
  obtain ⟨ae, ce, css, hve, he1, he2, he3⟩ := h.en
  subst hve
  have c1 : W.cell? ⟨B1, 0, none⟩ = some (.pointer (some ⟨K, 0, none⟩)) := R0.b1.cellAt rfl
  have c6 : W.cell? ⟨K, 6, none⟩ = some (.slice ae k.es.length ce) := R0.rd.hk.cellAt rfl
  have HR0 := Lib.hid R0
  have HE := Lib.hid (And.intro hJ hY)
  have HW := Lib.hid hW
  have HXX := Lib.hid hX
  clear R0 hJ hY hW h0 h h1 h2 hX he1 he3
  refine callsIn_of_wp Try.func53 rfl trivial ?_ rfl
  simp only [Try.ntmps53, List.size_toArray, List.length_cons, List.length_nil, Nat.reduceAdd, Nat.reduceSub, Array.replicate_succ, Array.replicate_zero, List.push_toArray, List.append_toArray, List.nil_append, List.cons_append]
  gi_wp2
  gi_loopw [11] (fun i wr => ∃ j pre, i = .int .i64 (j : Nat) ∧ BehR w X Y J K q B1 B2 idx vs (.slice ae k.es.length ce) k m j pre wr) (fun i _ => k.es.length - (intOf i).toNat)
  case atStart => exact ⟨0, [], rfl, HR0.out⟩
  case round =>
    obtain ⟨j, pre, rfl, hT⟩ := hrel
    have hjm := hT.le
    by_cases hlt : j < k.es.length
    · have jb : (j : Int) < (k.es.length : Int) := by omega
      obtain ⟨z, hz⟩ : ∃ z, k.es[j]? = some z := ⟨k.es[j], List.getElem?_eq_getElem hlt⟩
      obtain ⟨ae', ce', css', hve', he1', he2', he3'⟩ := hT.rd.en
      simp only [Value.slice.injEq] at hve'
      obtain ⟨rfl, _, rfl⟩ := hve'
      obtain ⟨b, off, cs, hae, hblt, _, hcl, ⟨vd, hcs, hbd⟩, hrg⟩ := he1'.get (by decide) hz
      subst hcs
      have jb0 : (0 : Int) ≤ (j : Int) := by omega
      have HAE := Lib.hid hae
      have HT := Lib.hid hT
      have HRG := Lib.hid hrg
      have HBD := Lib.hid hbd
      have r0 : wr.cell? ⟨b, off + j * 2, none⟩ = some (.int .i64 z.1) := hrg 0 _ rfl
      have r1 : wr.cell? ⟨b, off + j * 2 + 1, none⟩ = some vd := hrg 1 _ rfl
      obtain ⟨ad, cd, rfl, hd1, hd2, hd3⟩ := hbd
      clear hT he1' hrg hae hd1
      rw [HAE.out]
      gi_wp2
      have F2 := (Fr.refl [] wr).alloc (.cells #[.int .i64 z.1, .slice ad z.2.length cd] 75)
      have G2 : Blk (wr.alloc (.cells #[.int .i64 z.1, .slice ad z.2.length cd] 75)) wr.heap.size 75 [.int .i64 z.1, .slice ad z.2.length cd] := Blk.new wr 75 _
      generalize wr.alloc (.cells #[.int .i64 z.1, .slice ad z.2.length cd] 75) = w2 at *
      generalize wr.heap.size = g at *
      have HF2 := Lib.hid F2
      have HG2 := Lib.hid G2
      have i1 : IntKind.i64.wrap (k.base + 1) = k.base + 1 := IntWalk.i64_in _ (by omega)
      have i2 : IntKind.i64.wrap (k.base + 1 + (j : Int)) = k.base + 1 + (j : Int) := IntWalk.i64_in _ (by omega)
      have e1 : ∀ W', Fr [] w2 W' → W'.cell? ⟨B1, 0, none⟩ = some (.pointer (some ⟨K, 0, none⟩)) := fun W' f => (HT.out.b1.fr (HF2.out.trans0 f) (by simp)).cellAt rfl
      have e2 : ∀ W', Fr [] w2 W' → W'.cell? ⟨B2, 0, none⟩ = some (.int .i64 idx) := fun W' f => (HT.out.b2.fr (HF2.out.trans0 f) (by simp)).cellAt rfl
      have e3 : ∀ W', Fr [] w2 W' → W'.cell? ⟨K, 3, none⟩ = some (.int .i64 k.base) := fun W' f => (HT.out.rd.hk.fr (HF2.out.trans0 f) (by simp)).cellAt rfl
      have e4 : ∀ W', Fr [] w2 W' → W'.cell? ⟨g, 0, none⟩ = some (.int .i64 z.1) := fun W' f => (HG2.out.fr f (by simp)).cellAt rfl
      have e5 : ∀ W', Fr [] w2 W' → W'.cell? ⟨g, 1, none⟩ = some (.slice ad z.2.length cd) := fun W' f => (HG2.out.fr f (by simp)).cellAt rfl
      have htk : k.es.take (j + 1) = k.es.take j ++ [z] := by rw [List.take_add_one, hz]; rfl
      have HTK := Lib.hid htk
      clear F2 G2 r0 r1 htk hz
      have hS : Fr [] w2 w2.drew := (Fr.refl _ _).drew
      by_cases hc : idx < k.base + 1 + (j : Int)
      · refine wpIn_region_ord (Fr [] w2) [0,1,2,3,4,5,6,7,8,9,10,11,12,13,14] [12] [12] [0, 3, 7, 11] mixed15 (by kernel_rfl) ?_
        simp only [pairs, pickN]
        repeat (first | (refine wpOIn_free ?_ (by rfl) (by rfl) (fun w' => ?_) ?_; rotate_left; (go_simp; rfl); simp only [Act.put, List.setIfInBounds_toArray, List.set_cons_zero, List.set_cons_succ]) | (refine wpOIn_take ?_ hS (by rfl) (by rfl) (fun w' hw' => ?_) ?_; rotate_left; (go_simp; rfl); simp only [Act.put, List.setIfInBounds_toArray, List.set_cons_zero, List.set_cons_succ]) | (refine wpOIn_pass (by rfl) ?_; simp only [Act.put, List.setIfInBounds_toArray, List.set_cons_zero, List.set_cons_succ]))
        obtain ⟨fn, tmps, assign, body, hy, hR⟩ := HE.out.2 pre (z, .agg #[.int .i64 z.1, .slice ad z.2.length cd]) w2.drew (HE.out.1 _ _ _ HT.out.jj (HF2.out.trans0 hS)) ⟨_, rfl, HBD.out.step (HF2.out.trans0 hS) (by simp) (fun _ h => .inl h)⟩ (by have h := congrArg List.length HT.out.pre; simp only [List.length_map, List.length_drop, List.length_take] at h; omega)
        dsimp only at hy
        refine wpOIn_eff (by rfl) (by rfl) (fun KK hKK => ?_)
        refine ⟨fun _ _ => trivial, ?_⟩
        rw [show Fence.wide.round = none from rfl, Oper.semAt_none]
        go_simp
        refine RoundIn.mono hR ?_
        rintro e w3 ⟨rfl, hJ3, hk3⟩
        dsimp only
        refine hKK _ _ ⟨fun h => absurd (by decide) h, ?_⟩
        repeat (first | (refine wpOIn_free ?_ (by rfl) (by rfl) (fun w' => ?_) ?_; rotate_left; (go_simp; rfl); simp only [Act.put, List.setIfInBounds_toArray, List.set_cons_zero, List.set_cons_succ]) | (refine wpOIn_take ?_ hS (by rfl) (by rfl) (fun w' hw' => ?_) ?_; rotate_left; (go_simp; rfl); simp only [Act.put, List.setIfInBounds_toArray, List.set_cons_zero, List.set_cons_succ]) | (refine wpOIn_pass (by rfl) ?_; simp only [Act.put, List.setIfInBounds_toArray, List.set_cons_zero, List.set_cons_succ]))
        refine wpOIn_nil ?_
        obtain ⟨T, fT, hT⟩ := hk3
        have hXp := HXX.out
        have hKT : ∀ b, (b = K ∨ b = B1 ∨ b = B2) → b ∉ T := fun b hb hm => by
          have := hXp b (hT b hm)
          rcases hb with rfl | rfl | rfl
          · exact this.2.1 rfl
          · exact this.2.2.1 rfl
          · exact this.2.2.2 rfl
        have hYT : ∀ b ∈ T, Y b ∨ w2.drew.heap.size ≤ b := fun b hb => .inl (hXp b (hT b hb)).1
        have R2 := HT.out.rd.fr0 (HF2.out.trans0 hS)
        have HR := Lib.hid (show BehR w X Y J K q B1 B2 idx vs (.slice ae k.es.length ce) k m (j + 1) (pre ++ [(z, .agg #[.int .i64 z.1, .slice ad z.2.length cd])]) w3 from
          ⟨hlt, hJ3, ⟨R2.hk.fr fT (hKT K (.inl rfl)), R2.sn.step fT hYT (fun _ h => .inl h), R2.en.step fT hYT (fun _ h => .inl h), R2.wf⟩, (HT.out.b1.fr (HF2.out.trans0 hS) (by simp)).fr fT (hKT B1 (.inr (.inl rfl))), (HT.out.b2.fr (HF2.out.trans0 hS) (by simp)).fr fT (hKT B2 (.inr (.inr rfl))), by
            rw [List.map_append, HT.out.pre, HTK.out, List.drop_append_of_le_length (by rw [List.length_take]; omega)]
            rfl⟩)
        clear e1 e2 e3 e4 e5 hS hJ3 fT hT hXp hKT hYT R2 hy hR hKK
        gi_wp2
        exact ⟨⟨j + 1, _, rfl, HAE.out ▸ HR.out⟩, by simp [intOf]; omega⟩
      · refine wpIn_region_ord (Fr [] w2) [0,1,2,3,4,5,6,7,8,9,10,11,12,13,14] [12] [12] [0, 3, 7, 11] mixed15 (by kernel_rfl) ?_
        simp only [pairs, pickN]
        repeat (first | (refine wpOIn_free ?_ (by rfl) (by rfl) (fun w' => ?_) ?_; rotate_left; (go_simp; rfl); simp only [Act.put, List.setIfInBounds_toArray, List.set_cons_zero, List.set_cons_succ]) | (refine wpOIn_take ?_ hS (by rfl) (by rfl) (fun w' hw' => ?_) ?_; rotate_left; (go_simp; rfl); simp only [Act.put, List.setIfInBounds_toArray, List.set_cons_zero, List.set_cons_succ]) | (refine wpOIn_pass (by rfl) ?_; simp only [Act.put, List.setIfInBounds_toArray, List.set_cons_zero, List.set_cons_succ]))
        refine wpOIn_nil ?_
        have HR := Lib.hid (show BehR w X Y J K q B1 B2 idx vs (.slice ae k.es.length ce) k m (j + 1) pre w2.drew from
          ⟨hlt, HE.out.1 _ _ _ HT.out.jj (HF2.out.trans0 hS), HT.out.rd.fr0 (HF2.out.trans0 hS), HT.out.b1.fr (HF2.out.trans0 hS) (by simp), HT.out.b2.fr (HF2.out.trans0 hS) (by simp), by
            rw [HT.out.pre, HTK.out, List.drop_of_length_le (by rw [List.length_take]; omega), List.drop_of_length_le (by rw [List.length_append, List.length_take, List.length_singleton]; omega)]⟩)
        clear e1 e2 e3 e4 e5 hS
        gi_wp2
        exact ⟨⟨j + 1, _, rfl, HAE.out ▸ HR.out⟩, by simp [intOf]; omega⟩
    · obtain rfl : j = k.es.length := by omega
      have HT := Lib.hid hT
      clear hT
      gi_wp2
      go_end0
      refine ⟨⟨_, rfl⟩, pre, HT.out.jj, ?_⟩
      rw [HT.out.pre, List.take_length, hm, Int.toNat_natCast]
end Go.Fur
namespace Go.Fur
open Go Go.RowKit
section
variable {P : Program}
/-- As wpIn_rangeFr; what the assignment makes may tell of the rounds before. -/
theorem wpIn_rangeFrP {α : Type} {g : Operand} {p1 : Tmp} {assign body : Code} {Q : Exit → Act → World → Prop} {a : Act} {w : World}
    {gf : Nat} {lb : Array Value} (hg : a.eval g = .func (.func gf) #[] lb) (eg : ∀ args w, (callFunc gf args).run P w = .ok (.enter gf args) w)
    {enc : α → Value} {El : α → World → Prop} {S : List Nat} {X : Nat → Prop} {N : Nat} {End : List α → World → Prop} (hS : ∀ k ∈ S, k < w.heap.size) (hX : ∀ k, w.heap.size ≤ k → X k) (hseq : SeqFr P gf lb enc El S X N End w)
    (I : List α → World → Prop) (hI : Abi w.heap.size S I) (hEl : Abi w.heap.size S El) (hEnd : Abi w.heap.size [] End) (Ax : List α → α → Act → World → Prop) (hAx : ∀ pre a', Abi w.heap.size [] (fun x W => Ax pre x a' W)) (h0 : I [] w)
    (hassign : ∀ (l : Nat) (pre : List α) (x : α) (W : World), I pre W → El x W →
      assign.wpIn (Fence.wide.inRound l) 1 P (Exit.then (fun a₁ W₁ => Fr [] W W₁ ∧ Ax pre x a₁ W₁) (fun _ _ _ => False)) { tmps := a.tmps.setIfInBounds p1 (enc x), defers := [] } W)
    (hbody : ∀ (l : Nat) (pre : List α) (x : α) (a₁ : Act) (W : World), I pre W → El x W → Ax pre x a₁ W → pre.length < N → body.wpIn (Fence.wide.inRound l) 1 P (RoundE X (I (pre ++ [x])) W) a₁ W)
    (hdone : ∀ (D : Nat) (xs : List α) (W : World), w.heap.size ≤ D → End xs W → I xs W → W.heap[D]? = some (.deferred (some [])) → Q .normal { a with defers := { target := .collected D, args := #[] } :: a.defers } W) :
    (Code.rangeFunc g #[p1] assign body).wpIn Fence.wide 3 P Q a w := by
  refine wpIn_rangeFunc ?_
  intro fn hfn
  obtain ⟨rec, hrec⟩ : ∃ rec : LoopState → Loop, rec = fun st => { state := st, pending := none, fn, tmps := a.tmps, params := #[p1], assign, body, defers := w.heap.size } := ⟨_, rfl⟩
  obtain ⟨W1, hW1⟩ : ∃ W1, (w.alloc (.deferred (some []))).alloc (.loop (rec .ready)) = W1 := ⟨_, rfl⟩
  have F1 : Fr [] w W1 := by rw [← hW1]; exact ((Fr.refl [] w).alloc _).alloc _
  have hL1 : W1.heap[w.heap.size + 1]? = some (.loop (rec .ready)) := by
    have := World.alloc_heap_new (w.alloc (.deferred (some []))) (.loop (rec .ready))
    rwa [World.size_alloc, hW1] at this
  have hK1 : W1.heap[w.heap.size]? = some (.deferred (some [])) := by
    rw [← hW1]
    exact (Below.heap_alloc _ _ _ (by simp)).trans (World.alloc_heap_new w _)
  have hI1 : I [] W1 := hI [] [] w W1 h0 F1 (by simp)
  refine ⟨w.heap.size + 1, [{ target := .collected w.heap.size, args := #[] }], W1, { target := .fn (.func gf) lb, args := #[.func (.yield (w.heap.size + 1)) #[] #[]] }, W1, gf,
    #[.func (.yield (w.heap.size + 1)) #[] #[]] ++ lb, W1, ?_, ?_, ?_, ?_, fun _ => by decide, ?_⟩
  · rw [← hW1, hrec]
    exact run_enterLoop_outer _ _ _ _ _
  · simp only [resolve, hg]
    simp [go_sem]
  · intro f' hf'
    trivial
  · simp [invoke, go_sem, eg]
  have hbk : ∀ {A : World} {o : Obj}, A.heap[w.heap.size + 1]? = some o → o.isCells = false → ∀ k ∈ [w.heap.size + 1], k ∈ S ∨ Bk w.heap.size A k := fun h ho k hk => by
    rw [List.mem_singleton.1 hk]
    exact .inr ⟨by omega, _, h, ho⟩
  have hbk0 : ∀ {A : World} {o : Obj}, A.heap[w.heap.size + 1]? = some o → o.isCells = false → ∀ k ∈ [w.heap.size + 1], k ∈ ([] : List Nat) ∨ Bk w.heap.size A k := fun h ho k hk => by
    rw [List.mem_singleton.1 hk]
    exact .inr ⟨by omega, _, h, ho⟩
  have hput : ∀ (A : World) (o : Obj), Fr [w.heap.size + 1] A (A.putObj (w.heap.size + 1) o) := fun A o => (Fr.refl _ A).putObj _ o (.inl (by simp))
  refine (hseq (w.heap.size + 1) (fun pre W => I pre W ∧ W.heap[w.heap.size + 1]? = some (.loop (rec .ready)) ∧ W.heap[w.heap.size]? = some (.deferred (some []))) W1 F1 ?_ ?_ ⟨hI1, hL1, hK1⟩).mono ?_
  · rintro pre A C ⟨hi, hl, hk⟩ hf
    refine ⟨hI pre S A C hi hf (fun k hk => .inl hk), ?_, ?_⟩
    · exact (hf.block _ (Array.getElem?_eq_some_iff.1 hl).1 (fun hm => by have := hS _ hm; omega)).trans hl
    · exact (hf.block _ (Array.getElem?_eq_some_iff.1 hk).1 (fun hm => by have := hS _ hm; omega)).trans hk
  · rintro pre x W ⟨hi, hl, hk⟩ hx hlen
    have hy := run_yield (P := P) (args := #[enc x]) hl (by rw [hrec]; rfl)
    rw [hrec] at hy
    have hfold : ∀ t : Array Value, ((#[p1] : Array Tmp).zip #[enc x]).foldl (fun t (p, v) => t.setIfInBounds p v) t = t.setIfInBounds p1 (enc x) := fun t => by simp
    have hA := hassign (w.heap.size + 1) pre x W hi hx
    rw [← hfold a.tmps] at hA
    refine ⟨fn, _, assign, body, hy, roundIn_of_wpIn hfn (wpIn_mono hA ?_)⟩
    clear hy
    intro e a₁ Wa hq
    cases e with
    | normal =>
      obtain ⟨hfa, hax⟩ := hq
      have hla : Wa.heap[w.heap.size + 1]? = some (.loop (rec .ready)) := (hfa.block _ (Array.getElem?_eq_some_iff.1 hl).1 (by simp)).trans hl
      have hka : Wa.heap[w.heap.size]? = some (.deferred (some [])) := (hfa.block _ (Array.getElem?_eq_some_iff.1 hk).1 (by simp)).trans hk
      have hlt : w.heap.size + 1 < Wa.heap.size := (Array.getElem?_eq_some_iff.1 hla).1
      refine ⟨_, run_beginRound hla (by rw [hrec]), ?_⟩
      have hob : ({ rec .ready with state := .busy } : Loop) = rec .busy := by rw [hrec]
      rw [hob]
      have hf2 := hput Wa (.loop (rec .busy))
      have hl2 : (Wa.putObj (w.heap.size + 1) (.loop (rec .busy))).heap[w.heap.size + 1]? = some (.loop (rec .busy)) := World.putObj_heap_same hlt
      have hk2 : (Wa.putObj (w.heap.size + 1) (.loop (rec .busy))).heap[w.heap.size]? = some (.deferred (some [])) := (World.putObj_heap_other (by omega)).trans hka
      generalize Wa.putObj (w.heap.size + 1) (.loop (rec .busy)) = Wb at *
      have hib := hI pre _ _ _ (hI pre [] W Wa hi hfa (by simp)) hf2 (hbk hla rfl)
      have hxb := hEl x _ _ _ (hEl x [] W Wa hx hfa (by simp)) hf2 (hbk hla rfl)
      have hab := hAx pre a₁ x _ _ _ hax hf2 (hbk0 hla rfl)
      refine wpIn_mono (hbody (w.heap.size + 1) pre x a₁ Wb hib hxb hab hlen) ?_
      intro e a3 W3 hp
      cases e with
      | normal =>
        obtain ⟨⟨T, hT, hTc⟩, hj⟩ := hp
        have hnot : ∀ k (o : Obj), Wb.heap[k]? = some o → o.isCells = false → k ∉ T := fun k o ho hc hm => by
          obtain ⟨_, t, cs, hb⟩ := hTc k hm
          unfold Blk at hb
          rw [ho] at hb
          cases hb
          cases hc
        have hl3 : W3.heap[w.heap.size + 1]? = some (.loop (rec .busy)) := (hT.block _ (Array.getElem?_eq_some_iff.1 hl2).1 (hnot _ _ hl2 rfl)).trans hl2
        have hk3 : W3.heap[w.heap.size]? = some (.deferred (some [])) := (hT.block _ (Array.getElem?_eq_some_iff.1 hk2).1 (hnot _ _ hk2 rfl)).trans hk2
        have hr := run_endRound (P := P) none hl3
        have hob2 : ({ rec .busy with state := if (none : Option Code).isNone then .ready else .done, pending := none } : Loop) = rec .ready := by rw [hrec]; rfl
        rw [hob2] at hr
        refine ⟨_, _, hr, rfl, ⟨hI _ _ _ _ hj (hput W3 _) (hbk hl3 rfl), World.putObj_heap_same (Array.getElem?_eq_some_iff.1 hl3).1, (World.putObj_heap_other (by omega)).trans hk3⟩, ?_⟩
        have b4 := hput W3 (.loop (rec .ready))
        have hx1 : ∀ k ∈ [w.heap.size + 1], X k := fun k hk => hX k (by rw [List.mem_singleton.1 hk]; omega)
        exact (((hfa.x (by simp)).trans (hf2.x hx1)).trans (hT.x (fun k hk => (hTc k hk).1))).trans (b4.x hx1)
      | ret => exact hp.elim
      | exit id => exact hp.elim
      | goto t => exact hp.elim
      | panic ch => exact hp.elim
      | outgrown => exact hp.elim
    | ret => exact hq.elim
    | exit id => exact hq.elim
    | goto t => exact hq.elim
    | panic ch => exact hq.elim
    | outgrown => exact hq.elim
  · rintro e W2 ⟨⟨v, rfl⟩, xs, ⟨hi, hl, hk⟩, hend⟩
    have hr := run_endLoop (P := P) hl (by rw [hrec]; simp)
    have hp : (rec .ready).pending = none := by rw [hrec]
    rw [hp] at hr
    exact ⟨none, _, hr, hdone _ xs _ (Nat.le_refl _) (hEnd xs _ _ _ hend (hput W2 _) (hbk0 hl rfl)) (hI xs _ _ _ hi (hput W2 _) (hbk hl rfl)) ((World.putObj_heap_other (by omega)).trans hk)⟩
theorem wpIn_rangeFrV {α : Type} {g : Operand} {p1 : Tmp} {assign body : Code} {Q : Exit → Act → World → Prop} {a : Act} {w : World}
    {gf : Nat} {lb : Array Value} (p2 : Tmp) (hg : a.eval g = .func (.func gf) #[] lb) (eg : ∀ args w, (callFunc gf args).run P w = .ok (.enter gf args) w)
    {enc : α → Value} {El : α → World → Prop} {S : List Nat} {X : Nat → Prop} {N : Nat} {End : List α → World → Prop} (hS : ∀ k ∈ S, k < w.heap.size) (hX : ∀ k, w.heap.size ≤ k → X k) (hseq : SeqFr P gf lb enc El S X N End w)
    (I : List α → World → Prop) (hI : Abi w.heap.size S I) (hEl : Abi w.heap.size S El) (hEnd : Abi w.heap.size [] End) (AxP : Nat → List α → α → World → Prop) (hAx : ∀ g pre, Abi w.heap.size [] (AxP g pre)) (h0 : I [] w)
    (hassign : ∀ (l : Nat) (pre : List α) (x : α) (W : World), I pre W → El x W →
      assign.wpIn (Fence.wide.inRound l) 1 P (Exit.then (fun a₁ W₁ => Fr [] W W₁ ∧ ∃ g, AxP g pre x W₁ ∧ a₁ = { tmps := (a.tmps.setIfInBounds p1 (enc x)).setIfInBounds p2 (.pointer (some ⟨g, 0, none⟩)), defers := [] }) (fun _ _ _ => False)) { tmps := a.tmps.setIfInBounds p1 (enc x), defers := [] } W)
    (hbody : ∀ (l : Nat) (pre : List α) (x : α) (g : Nat) (W : World), I pre W → El x W → AxP g pre x W → pre.length < N → body.wpIn (Fence.wide.inRound l) 1 P (RoundE X (I (pre ++ [x])) W) { tmps := (a.tmps.setIfInBounds p1 (enc x)).setIfInBounds p2 (.pointer (some ⟨g, 0, none⟩)), defers := [] } W)
    (hdone : ∀ (D : Nat) (xs : List α) (W : World), w.heap.size ≤ D → End xs W → I xs W → W.heap[D]? = some (.deferred (some [])) → Q .normal { a with defers := { target := .collected D, args := #[] } :: a.defers } W) :
    (Code.rangeFunc g #[p1] assign body).wpIn Fence.wide 3 P Q a w := by
  refine wpIn_rangeFrP hg eg hS hX hseq I hI hEl hEnd (fun pre x a' W => ∃ g, AxP g pre x W ∧ a' = { tmps := (a.tmps.setIfInBounds p1 (enc x)).setIfInBounds p2 (.pointer (some ⟨g, 0, none⟩)), defers := [] }) ?_ h0 hassign ?_ hdone
  · rintro pre a' x T A C ⟨g, h1, h2⟩ f hT
    exact ⟨g, hAx g pre x T A C h1 f hT, h2⟩
  · rintro l pre x a₁ W hi he ⟨g, h1, rfl⟩ hn
    exact hbody l pre x g W hi he h1 hn
end
end Go.Fur
