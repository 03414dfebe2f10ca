/- CommandReads answers true for all bytes, and leaves them as they were; no condition. -/
import Derived.Test.YtmdfipahbhbgjaaReadsB
import Derived.Test.YtmdfipahbhbgjaaEntArg
import Derived.ProofKit
namespace Go.Proofs.Ytmdfipahbhbgjaa.lawCommandReads
open Go Go.RowKit Go.ChangeShapes Go.WideShapes Go.ChangeAt Go.Fur
set_option linter.unusedVariables false
theorem own : ownKnob Try.prog.godebug = none := by kernel_rfl
theorem laidOut : laidOutB Try.prog = true := by kernel_rfl
theorem wf_u8 {x : Int} (h : (Lit.int .u8 x).wf = true) : 0 ≤ x ∧ x < 256 := by
  have h2 := h
  simp [Lit.wf] at h2
  have e : IntKind.u8.min = 0 := rfl
  have e2 : IntKind.u8.max = 255 := rfl
  rw [e, e2] at h2
  omega
theorem flat_bv : ∀ l : List Int, flat (intR .u8).enc l = bv l
  | [] => rfl
  | y :: l => by rw [flat_cons, flat_bv l]; rfl
theorem bytB : SoundB Try.prog 37 (sliceR (intR .u8) 1) (fun s => s.xs.length) := (sliceB (k := 1) Try.underlying37 (by kernel_rfl) (by decide) (by kernel_rfl) (intB Try.underlying5)).mono (fun s => Nat.le_of_eq (sum_ones _).symm)
set_option maxRecDepth 100000 in
theorem lifted (os : Os) (started : os.Started) (H : Type) (enc : TypeId × Value → H) :
    ReturnsInHanded {} Try.checked os 6 .any (Rows.commandReadsSpec.pre6 enc Try.prog Try.f6 Rows.commandReadsRow.domain false) (Rows.commandReadsSpec.post enc Try.prog Try.f6 false true false false) := by
  refine returnsInHanded_of_change_sized (C := Try.checked) own started (by kernel_rfl) Try.func6
    (ChangeSpec.witness6 (enc := enc) (C := Try.checked) false ⟨#[], #[.slice none 0 0], []⟩ 8 (by kernel_rfl) (by kernel_rfl) (by kernel_rfl) (by kernel_rfl)) ?_
  intro W base args ds gs before hval0 hW hcnd hsz0 _
  have hval : ∀ (j : Nat) t v, Try.f6.params[j]? = some t → args[j]? = some v → Value.okWide Try.prog W .any base t v := hval0
  have hW' := hW
  obtain ⟨p, q, hA0, hV, rfl, hfz, hnd⟩ := hW
  have hA : DataW.TrodAll enc Try.prog W 0 (fun _ => true) true Try.f6.params.toList args.toList ds p := hA0
  have hsz : (DataW.weightsEach Try.prog (Try.f6.params.toList ++ []) (ds ++ gs)).all (· ≤ reachBytes) = true := hsz0
  rw [Try.params6] at hA hval hsz
  obtain ⟨v0, vs0, d0, ds0, p0, q0, hargs, rfl, rfl, h0, r0⟩ := trodAll_cons hA
  obtain ⟨rfl, rfl, rfl⟩ := trodAll_nil r0
  obtain rfl : args = #[v0] := by cases args; simp_all
  obtain ⟨rfl, rfl⟩ := trodVars_none hV
  have k0 := h0
  have lt0 : ∀ x ∈ p0, x.block < W.heap.size := by obtain ⟨m, hm⟩ := k0; exact DataW.trod_lt m _ _ _ hm
  obtain ⟨x3, e0, ok3, b0⟩ := read_argB bytB h0 hsz (j := 0) (by rfl) (by rfl)
  obtain ⟨a3, n3, c3, hv3⟩ := okWide_slice Try.underlying37 (hval 0 37 v0 rfl rfl)
  subst hv3
  have f0 := one_of_cells rfl e0
  rw [f0] at k0 ⊢
  clear hA0 hval0
  have hby : Byt x3.xs := fun z hz => wf_u8 (ok3.2.2.2.2.1 z hz)
  have hrd : Rd W x3.a (bv x3.xs) := by have := ok3.2.2.2.1; rwa [flat_bv] at this
  have hsrc : Go.Fur.Src x3.xs x3.a x3.xs.length x3.cap := ⟨rfl, ok3.1, by have := ok3.1; have := ok3.2.2.1; unfold reachBytes at this; omega, hby⟩
  refine (CommandReads_calls hsrc hrd).mono fun e W2 ⟨he, fr⟩ => ?_
  have bel : Below W.heap.size W W2 := fr.below (Nat.le_refl _) (by simp)
  subst he
  rw [f0] at hW'
  exact ⟨_, rfl, _, _, _, [], _, [], hW', trodAll_mk1 (shut_bool Try.underlying4 _), (trodAll_cons_mk (Below.trod laidOut (by kernel_rfl) (of_decide_eq_true (by kernel_rfl)) k0 bel lt0) trodAll_mk0), rfl, bel.frame _, fun h => by cases h⟩
theorem proved : Rows.CommandReadsSaid :=
  OpenClaim.holds_of_wide 6 Try.f6 rfl rfl rfl rfl rfl rfl rfl ⟨rfl, rfl, rfl, rfl, rfl⟩ rfl rfl rfl rfl rfl (by kernel_rfl) Try.func6 (by kernel_rfl)
    (of_decide_eq_true (by kernel_rfl)) (by unfold Func.isWrapper; first | (rw [if_pos (by decide +kernel)]; kernel_rfl) | (rw [if_neg (by decide +kernel)]; exact ⟨rfl, rfl⟩))
    (fun os started H enc _ => lifted os started H enc)
end Go.Proofs.Ytmdfipahbhbgjaa.lawCommandReads
