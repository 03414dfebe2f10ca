/- The row of CommandApart for arguments of bulk at most 1048576. -/
import Derived.Test.YtmdfipahbhbgjaaApart10
import Derived.Test.YtmdfipahbhbgjaaEntArg
import Derived.Deep.CondSized
import Derived.JoinedCond
import Derived.ProofKit
import Derived.OpenShut
import Derived.ShutString
import Derived.ChangeOld
import Derived.Below
import Derived.SizedLaws
namespace Go.Proofs.Ytmdfipahbhbgjaa.lawCommandApart
open Go Go.RowKit Go.ChangeShapes Go.WideShapes Go.ChangeAt Go.Fur
set_option linter.unusedVariables false
theorem own : ownKnob Try.prog.godebug = none := by kernel_rfl
theorem laidOut : laidOutB Try.prog = true := by kernel_rfl
abbrev zEnt : Value := .agg (ent0.cells none 0).toArray
abbrev zL {H : Type} : DataW H := .lit (.int .i64 0)
abbrev dEnt {H : Type} : DataW H := .agg [zL, zL, zL, .agg [zL, zL, zL, zL, zL, .agg [zL, zL, zL, .agg [zL, zL], .agg [zL, zL]], .agg [zL, zL, zL, zL, zL], .agg [zL, zL, .agg [zL, zL], zL, .nil, zL]]]
set_option maxRecDepth 100000 in
theorem lifted (os : Os) (started : os.Started) (H : Type) (enc : TypeId × Value → H) (F : Stop.Interp) :
    ReturnsInHanded {} Try.checked os 5 .any ((Rows.OpenSpec.upto Rows.commandApartSpec).pre6 enc Try.prog Try.f5 Rows.commandApartUptoRow.domain false) (((Rows.OpenSpec.upto Rows.commandApartSpec).at F).post enc Try.prog Try.f5 false true false false) := by
  refine returnsInHanded_of_cond_sized (C := Try.checked) (s := (Rows.OpenSpec.upto Rows.commandApartSpec)) (k := Rows.uptoSmall) rfl own started (by kernel_rfl) Try.func5
    (OpenSpec.witness (enc := enc) (C := Try.checked) (s := (Rows.OpenSpec.upto Rows.commandApartSpec)) (k := Rows.uptoSmall) rfl false ⟨#[], #[zEnt, zEnt], []⟩ 8 (by kernel_rfl) (by kernel_rfl) (by kernel_rfl) (x := ([dEnt, dEnt], [], [])) (by kernel_rfl) rfl (by kernel_rfl)) ?_
  intro W base args ds gs before hval0 hW hcnd hk hsz0 _
  have hsz : (DataW.weightsEach Try.prog (Try.f5.params.toList ++ Rows.commandApartSpec.plain.varTypes Try.prog) (ds ++ gs)).all (· ≤ reachBytes) = true := hsz0
  have hval : ∀ (j : Nat) t v, Try.f5.params[j]? = some t → args[j]? = some v → Value.okWide Try.prog W .any base t v := hval0
  have hW' := hW
  obtain ⟨p, q, hA0, hV, rfl, hfz, hnd⟩ := hW
  have hA : DataW.TrodAll enc Try.prog W 0 (fun _ => true) true Try.f5.params.toList args.toList ds p := hA0
  rw [Try.params5] at hA hval hsz
  obtain ⟨v0, vs0, d0, ds0, p0, q0, hargs, rfl, rfl, h0, r0⟩ := trodAll_cons hA
  obtain ⟨v1, vs1, d1, ds1, p1, q1, rfl, rfl, rfl, h1, r1⟩ := trodAll_cons r0
  obtain ⟨rfl, rfl, rfl⟩ := trodAll_nil r1
  obtain rfl : args = #[v0, v1] := by cases args; simp_all
  obtain ⟨rfl, rfl⟩ := trodVars_none hV
  have k0 := h0
  have lt0 : ∀ x ∈ p0, x.block < W.heap.size := by obtain ⟨m, hm⟩ := k0; exact DataW.trod_lt m _ _ _ hm
  obtain ⟨x0, e0, ok0, b0⟩ := read_argB entB h0 hsz (j := 0) (by rfl) (by rfl)
  obtain ⟨cs0, hv0, _⟩ := okWide_struct Try.underlying34 (hval 0 34 v0 rfl rfl)
  subst hv0
  have f0 := agg_of_cells e0
  rw [f0] at k0 ⊢
  have k1 := h1
  have lt1 : ∀ x ∈ p1, x.block < W.heap.size := by obtain ⟨m, hm⟩ := k1; exact DataW.trod_lt m _ _ _ hm
  obtain ⟨x1, e1, ok1, b1⟩ := read_argB entB h1 hsz (j := 1) (by rfl) (by rfl)
  obtain ⟨cs1, hv1, _⟩ := okWide_struct Try.underlying34 (hval 1 34 v1 rfl rfl)
  subst hv1
  have f1 := agg_of_cells e1
  rw [f1] at k1 ⊢
  rw [f0] at hW'
  rw [f1] at hW'
  have hbk := of_decide_eq_true hk
  simp only [Rows.uptoBulkAll, List.append_nil] at hbk
  obtain ⟨t0, a0, c0, g0, q0, s0, l0⟩ := ent_arg rfl ok0
  obtain ⟨t1, a1, c1, g1, q1, s1, l1⟩ := ent_arg rfl ok1
  clear hA0 hval0 hsz0 hsz
  rw [g0] at hW' k0 ⊢
  rw [g1] at hW' k1 ⊢
  refine (CommandApart_calls t0 t1 a0 a1 c0 c1 s0 s1 q0 q1 (by omega) (by omega)).mono fun e W2 ⟨he, fr⟩ => ?_
  have bel : Below W.heap.size W W2 := fr.below (Nat.le_refl _) (by simp)
  subst he
  exact ⟨_, rfl, _, _, _, [], _, [], hW', trodAll_mk1 (shut_bool Try.underlying4 _), (trodAll_cons_mk (Below.trod laidOut (by kernel_rfl) (of_decide_eq_true (by kernel_rfl)) k0 bel lt0) (trodAll_cons_mk (Below.trod laidOut (by kernel_rfl) (of_decide_eq_true (by kernel_rfl)) k1 bel lt1) trodAll_mk0)), rfl, bel.frame _, fun h => by cases h⟩
theorem proved : Rows.CommandApartUptoSaid :=
  OpenClaim.holds_of_cond 5 Try.f5 rfl rfl rfl rfl rfl rfl rfl ⟨rfl, rfl, rfl, rfl, rfl⟩ rfl rfl rfl rfl rfl (by kernel_rfl) Try.func5 (by kernel_rfl)
    (of_decide_eq_true (by kernel_rfl)) (by unfold Func.isWrapper; first | (rw [if_pos (by decide +kernel)]; kernel_rfl) | (rw [if_neg (by decide +kernel)]; exact ⟨rfl, rfl⟩))
    (fun os started H enc _ F => lifted os started H enc F)
end Go.Proofs.Ytmdfipahbhbgjaa.lawCommandApart
