/- A range over an iterator of several values that writes blocks of its own caller, or none. No program is named here. -/
import Derived.Test.YtmhejgelmmjihaaSeq
namespace Go.Fur
open Go Go.RowKit
section
variable {P : Program}
/-- An iterator under the wide fence: it writes S and new blocks. -/
def SeqFrN {α : Type} (P : Program) (gf : Nat) (lb : Array Value) (enc : α → Array Value) (El : α → World → Prop) (S : List Nat) (X : Nat → Prop) (N : Nat) (End : List α → World → Prop) (w : World) : Prop :=
  ∀ (l : Nat) (J : List α → World → Prop) (W : World), Fr [] w W → (∀ pre (A C : World), J pre A → Fr S A C → J pre C) →
    (∀ pre x (W1 : World), J pre W1 → El x W1 → pre.length < N → YieldAt Fence.wide 1 P l (enc x) W1 fun e W' => e = .returned (.bool true) ∧ J (pre ++ [x]) W' ∧ FrX X W1 W') →
    J [] W →
    CallsIn Fence.wide 2 P gf (#[.func (.yield l) #[] #[]] ++ lb) W fun e W' => (∃ v, e = .returned v) ∧ ∃ xs, J xs W' ∧ End xs W'
theorem wpIn_rangeFrN {α : Type} {g : Operand} {ps : Array Tmp} {assign body : Code} {Q : Exit → Act → World → Prop} {a : Act} {w : World}
    {gf : Nat} {lb : Array Value} (hg : a.eval g = .func (.func gf) #[] lb) (eg : ∀ args w, (callFunc gf args).run P w = .ok (.enter gf args) w)
    {enc : α → Array Value} {El : α → World → Prop} {S : List Nat} {X : Nat → Prop} {N : Nat} {End : List α → World → Prop} (hps : ∀ x, (enc x).size = ps.size) (hS : ∀ k ∈ S, k < w.heap.size) (hX : ∀ k, w.heap.size ≤ k → X k) (hseq : SeqFrN P gf lb enc El S X N End w)
    (I : List α → World → Prop) (hI : Abi w.heap.size S I) (hEl : Abi w.heap.size S El) (hEnd : Abi w.heap.size [] End) (Ax : α → Act → World → Prop) (hAx : ∀ a', Abi w.heap.size [] (fun x W => Ax x a' W)) (h0 : I [] w)
    (hassign : ∀ (l : Nat) (x : α) (W : World), El x W →
      assign.wpIn (Fence.wide.inRound l) 1 P (Exit.then (fun a₁ W₁ => Fr [] W W₁ ∧ Ax x a₁ W₁) (fun _ _ _ => False)) { tmps := (ps.zip (enc x)).foldl (fun t (p, v) => t.setIfInBounds p v) a.tmps, defers := [] } W)
    (hbody : ∀ (l : Nat) (pre : List α) (x : α) (a₁ : Act) (W : World), I pre W → El x W → Ax x a₁ W → pre.length < N → body.wpIn (Fence.wide.inRound l) 1 P (RoundE X (I (pre ++ [x])) W) a₁ W)
    (hdone : ∀ (D : Nat) (xs : List α) (W : World), w.heap.size ≤ D → End xs W → I xs W → W.heap[D]? = some (.deferred (some [])) → Q .normal { a with defers := { target := .collected D, args := #[] } :: a.defers } W) :
    (Code.rangeFunc g ps assign body).wpIn Fence.wide 3 P Q a w := by
  refine wpIn_rangeFunc ?_
  intro fn hfn
  obtain ⟨rec, hrec⟩ : ∃ rec : LoopState → Loop, rec = fun st => { state := st, pending := none, fn, tmps := a.tmps, params := ps, assign, body, defers := w.heap.size } := ⟨_, rfl⟩
  obtain ⟨W1, hW1⟩ : ∃ W1, (w.alloc (.deferred (some []))).alloc (.loop (rec .ready)) = W1 := ⟨_, rfl⟩
  have F1 : Fr [] w W1 := by rw [← hW1]; exact ((Fr.refl [] w).alloc _).alloc _
  have hL1 : W1.heap[w.heap.size + 1]? = some (.loop (rec .ready)) := by
    have := World.alloc_heap_new (w.alloc (.deferred (some []))) (.loop (rec .ready))
    rwa [World.size_alloc, hW1] at this
  have hK1 : W1.heap[w.heap.size]? = some (.deferred (some [])) := by
    rw [← hW1]
    exact (Below.heap_alloc _ _ _ (by simp)).trans (World.alloc_heap_new w _)
  have hI1 : I [] W1 := hI [] [] w W1 h0 F1 (by simp)
  refine ⟨w.heap.size + 1, [{ target := .collected w.heap.size, args := #[] }], W1, { target := .fn (.func gf) lb, args := #[.func (.yield (w.heap.size + 1)) #[] #[]] }, W1, gf,
    #[.func (.yield (w.heap.size + 1)) #[] #[]] ++ lb, W1, ?_, ?_, ?_, ?_, fun _ => by decide, ?_⟩
  · rw [← hW1, hrec]
    exact run_enterLoop_outer _ _ _ _ _
  · simp only [resolve, hg]
    simp [go_sem]
  · intro f' hf'
    trivial
  · simp [invoke, go_sem, eg]
  have hbk : ∀ {A : World} {o : Obj}, A.heap[w.heap.size + 1]? = some o → o.isCells = false → ∀ k ∈ [w.heap.size + 1], k ∈ S ∨ Bk w.heap.size A k := fun h ho k hk => by
    rw [List.mem_singleton.1 hk]
    exact .inr ⟨by omega, _, h, ho⟩
  have hbk0 : ∀ {A : World} {o : Obj}, A.heap[w.heap.size + 1]? = some o → o.isCells = false → ∀ k ∈ [w.heap.size + 1], k ∈ ([] : List Nat) ∨ Bk w.heap.size A k := fun h ho k hk => by
    rw [List.mem_singleton.1 hk]
    exact .inr ⟨by omega, _, h, ho⟩
  have hput : ∀ (A : World) (o : Obj), Fr [w.heap.size + 1] A (A.putObj (w.heap.size + 1) o) := fun A o => (Fr.refl _ A).putObj _ o (.inl (by simp))
  refine (hseq (w.heap.size + 1) (fun pre W => I pre W ∧ W.heap[w.heap.size + 1]? = some (.loop (rec .ready)) ∧ W.heap[w.heap.size]? = some (.deferred (some []))) W1 F1 ?_ ?_ ⟨hI1, hL1, hK1⟩).mono ?_
  · rintro pre A C ⟨hi, hl, hk⟩ hf
    refine ⟨hI pre S A C hi hf (fun k hk => .inl hk), ?_, ?_⟩
    · exact (hf.block _ (Array.getElem?_eq_some_iff.1 hl).1 (fun hm => by have := hS _ hm; omega)).trans hl
    · exact (hf.block _ (Array.getElem?_eq_some_iff.1 hk).1 (fun hm => by have := hS _ hm; omega)).trans hk
  · rintro pre x W ⟨hi, hl, hk⟩ hx hlen
    have hy := run_yield (P := P) (args := (enc x)) hl (by rw [hrec]; exact hps x)
    rw [hrec] at hy
    have hA := hassign (w.heap.size + 1) x W hx
    refine ⟨fn, _, assign, body, hy, roundIn_of_wpIn hfn (wpIn_mono hA ?_)⟩
    clear hy
    intro e a₁ Wa hq
    cases e with
    | normal =>
      obtain ⟨hfa, hax⟩ := hq
      have hla : Wa.heap[w.heap.size + 1]? = some (.loop (rec .ready)) := (hfa.block _ (Array.getElem?_eq_some_iff.1 hl).1 (by simp)).trans hl
      have hka : Wa.heap[w.heap.size]? = some (.deferred (some [])) := (hfa.block _ (Array.getElem?_eq_some_iff.1 hk).1 (by simp)).trans hk
      have hlt : w.heap.size + 1 < Wa.heap.size := (Array.getElem?_eq_some_iff.1 hla).1
      refine ⟨_, run_beginRound hla (by rw [hrec]), ?_⟩
      have hob : ({ rec .ready with state := .busy } : Loop) = rec .busy := by rw [hrec]
      rw [hob]
      have hf2 := hput Wa (.loop (rec .busy))
      have hl2 : (Wa.putObj (w.heap.size + 1) (.loop (rec .busy))).heap[w.heap.size + 1]? = some (.loop (rec .busy)) := World.putObj_heap_same hlt
      have hk2 : (Wa.putObj (w.heap.size + 1) (.loop (rec .busy))).heap[w.heap.size]? = some (.deferred (some [])) := (World.putObj_heap_other (by omega)).trans hka
      generalize Wa.putObj (w.heap.size + 1) (.loop (rec .busy)) = Wb at *
      have hib := hI pre _ _ _ (hI pre [] W Wa hi hfa (by simp)) hf2 (hbk hla rfl)
      have hxb := hEl x _ _ _ (hEl x [] W Wa hx hfa (by simp)) hf2 (hbk hla rfl)
      have hab := hAx a₁ x _ _ _ hax hf2 (hbk0 hla rfl)
      refine wpIn_mono (hbody (w.heap.size + 1) pre x a₁ Wb hib hxb hab hlen) ?_
      intro e a3 W3 hp
      cases e with
      | normal =>
        obtain ⟨⟨T, hT, hTc⟩, hj⟩ := hp
        have hnot : ∀ k (o : Obj), Wb.heap[k]? = some o → o.isCells = false → k ∉ T := fun k o ho hc hm => by
          obtain ⟨_, t, cs, hb⟩ := hTc k hm
          unfold Blk at hb
          rw [ho] at hb
          cases hb
          cases hc
        have hl3 : W3.heap[w.heap.size + 1]? = some (.loop (rec .busy)) := (hT.block _ (Array.getElem?_eq_some_iff.1 hl2).1 (hnot _ _ hl2 rfl)).trans hl2
        have hk3 : W3.heap[w.heap.size]? = some (.deferred (some [])) := (hT.block _ (Array.getElem?_eq_some_iff.1 hk2).1 (hnot _ _ hk2 rfl)).trans hk2
        have hr := run_endRound (P := P) none hl3
        have hob2 : ({ rec .busy with state := if (none : Option Code).isNone then .ready else .done, pending := none } : Loop) = rec .ready := by rw [hrec]; rfl
        rw [hob2] at hr
        refine ⟨_, _, hr, rfl, ⟨hI _ _ _ _ hj (hput W3 _) (hbk hl3 rfl), World.putObj_heap_same (Array.getElem?_eq_some_iff.1 hl3).1, (World.putObj_heap_other (by omega)).trans hk3⟩, ?_⟩
        have b4 := hput W3 (.loop (rec .ready))
        have hx1 : ∀ k ∈ [w.heap.size + 1], X k := fun k hk => hX k (by rw [List.mem_singleton.1 hk]; omega)
        exact (((hfa.x (by simp)).trans (hf2.x hx1)).trans (hT.x (fun k hk => (hTc k hk).1))).trans (b4.x hx1)
      | ret => exact hp.elim
      | exit id => exact hp.elim
      | goto t => exact hp.elim
      | panic ch => exact hp.elim
      | outgrown => exact hp.elim
    | ret => exact hq.elim
    | exit id => exact hq.elim
    | goto t => exact hq.elim
    | panic ch => exact hq.elim
    | outgrown => exact hq.elim
  · rintro e W2 ⟨⟨v, rfl⟩, xs, ⟨hi, hl, hk⟩, hend⟩
    have hr := run_endLoop (P := P) hl (by rw [hrec]; simp)
    have hp : (rec .ready).pending = none := by rw [hrec]
    rw [hp] at hr
    exact ⟨none, _, hr, hdone _ xs _ (Nat.le_refl _) (hEnd xs _ _ _ hend (hput W2 _) (hbk0 hl rfl)) (hI xs _ _ _ hi (hput W2 _) (hbk hl rfl)) ((World.putObj_heap_other (by omega)).trans hk)⟩
end
end Go.Fur
