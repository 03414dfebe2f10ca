/- The row of CommandStates for arguments of bulk at most 1048576. -/
import Derived.Test.YtmdfipahbhbgjaaSta10W
import Derived.Test.YtmdfipahbhbgjaaStaArg
import Derived.Deep.CondSized
import Derived.JoinedCond
import Derived.ProofKit
import Derived.OpenShut
import Derived.ShutString
import Derived.ChangeOld
import Derived.Below
import Derived.SizedLaws
namespace Go.Proofs.Ytmdfipahbhbgjaa.lawCommandStates
open Go Go.RowKit Go.ChangeShapes Go.WideShapes Go.ChangeAt Go.Fur
set_option linter.unusedVariables false
theorem own : ownKnob Try.prog.godebug = none := by kernel_rfl
theorem laidOut : laidOutB Try.prog = true := by kernel_rfl
abbrev zEnt : Value := .agg (sta0.cells staP0).toArray
abbrev zL {H : Type} : DataW H := .lit (.int .i64 0)
abbrev dEnt {H : Type} : DataW H := .agg [zL, zL, zL, .nil, .nil, .nil, .nil, .nil]
set_option maxRecDepth 100000 in
theorem lifted (os : Os) (started : os.Started) (H : Type) (enc : TypeId × Value → H) (F : Stop.Interp) :
    ReturnsInHanded {} Try.checked os 8 .any ((Rows.OpenSpec.upto Rows.commandStatesSpec).pre6 enc Try.prog Try.f8 Rows.commandStatesUptoRow.domain false) (((Rows.OpenSpec.upto Rows.commandStatesSpec).at F).post enc Try.prog Try.f8 false true false false) := by
  refine returnsInHanded_of_cond_sized (C := Try.checked) (s := (Rows.OpenSpec.upto Rows.commandStatesSpec)) (k := Rows.uptoSmall) rfl own started (by kernel_rfl) Try.func8
    (OpenSpec.witness (enc := enc) (C := Try.checked) (s := (Rows.OpenSpec.upto Rows.commandStatesSpec)) (k := Rows.uptoSmall) rfl false ⟨#[], #[zEnt], []⟩ 8 (by kernel_rfl) (by kernel_rfl) (by kernel_rfl) (x := ([dEnt], [], [])) (by kernel_rfl) rfl (by kernel_rfl)) ?_
  intro W base args ds gs before hval0 hW hcnd hk hsz0 _
  have hsz : (DataW.weightsEach Try.prog (Try.f8.params.toList ++ Rows.commandStatesSpec.plain.varTypes Try.prog) (ds ++ gs)).all (· ≤ reachBytes) = true := hsz0
  have hval : ∀ (j : Nat) t v, Try.f8.params[j]? = some t → args[j]? = some v → Value.okWide Try.prog W .any base t v := hval0
  have hW' := hW
  obtain ⟨p, q, hA0, hV, rfl, hfz, hnd⟩ := hW
  have hA : DataW.TrodAll enc Try.prog W 0 (fun _ => true) true Try.f8.params.toList args.toList ds p := hA0
  rw [Try.params8] at hA hval hsz
  obtain ⟨v0, vs0, d0, ds0, p0, q0, hargs, rfl, rfl, h0, r0⟩ := trodAll_cons hA
  obtain ⟨rfl, rfl, rfl⟩ := trodAll_nil r0
  obtain rfl : args = #[v0] := by cases args; simp_all
  obtain ⟨rfl, rfl⟩ := trodVars_none hV
  have k0 := h0
  have lt0 : ∀ x ∈ p0, x.block < W.heap.size := by obtain ⟨m, hm⟩ := k0; exact DataW.trod_lt m _ _ _ hm
  obtain ⟨x0, e0, ok0, b0⟩ := read_argB staB h0 hsz (j := 0) (by rfl) (by rfl)
  obtain ⟨cs0, hv0, _⟩ := okWide_struct Try.underlying58 (hval 0 58 v0 rfl rfl)
  subst hv0
  have f0 := agg_of_cells e0
  rw [f0] at k0 ⊢
  rw [f0] at hW'
  have hbk := of_decide_eq_true hk
  simp only [Rows.uptoBulkAll, List.append_nil] at hbk
  obtain ⟨t0, s0, g0, q0, m0, l0⟩ := sta_arg rfl ok0
  clear hA0 hval0 hsz0 hsz
  rw [g0] at hW' k0 ⊢
  refine (CommandStates_calls t0 s0 m0 q0 (by omega)).mono fun e W2 ⟨he, fr⟩ => ?_
  have bel : Below W.heap.size W W2 := fr.below (Nat.le_refl _) (by simp)
  subst he
  exact ⟨_, rfl, _, _, _, [], _, [], hW', trodAll_mk1 (shut_bool Try.underlying4 _), (trodAll_cons_mk (Below.trod laidOut (by kernel_rfl) (of_decide_eq_true (by kernel_rfl)) k0 bel lt0) trodAll_mk0), rfl, bel.frame _, fun h => by cases h⟩
theorem proved : Rows.CommandStatesUptoSaid :=
  OpenClaim.holds_of_cond 8 Try.f8 rfl rfl rfl rfl rfl rfl rfl ⟨rfl, rfl, rfl, rfl, rfl⟩ rfl rfl rfl rfl rfl (by kernel_rfl) Try.func8 (by kernel_rfl)
    (of_decide_eq_true (by kernel_rfl)) (by unfold Func.isWrapper; first | (rw [if_pos (by decide +kernel)]; kernel_rfl) | (rw [if_neg (by decide +kernel)]; exact ⟨rfl, rfl⟩))
    (fun os started H enc _ F => lifted os started H enc F)
end Go.Proofs.Ytmdfipahbhbgjaa.lawCommandStates
