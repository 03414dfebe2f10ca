/- The row of CommandBack for arguments of bulk at most 1048576. -/
import Derived.Test.YtmdfipahbhbgjaaBack10W
import Derived.Test.YtmdfipahbhbgjaaStaArg
import Derived.Deep.CondSized
import Derived.JoinedCond
import Derived.ProofKit
import Derived.OpenShut
import Derived.ShutString
import Derived.ChangeOld
import Derived.Below
import Derived.SizedLaws
namespace Go.Proofs.Ytmdfipahbhbgjaa.lawCommandBack
open Go Go.RowKit Go.ChangeShapes Go.WideShapes Go.ChangeAt Go.Fur
set_option linter.unusedVariables false
theorem own : ownKnob Try.prog.godebug = none := by kernel_rfl
theorem laidOut : laidOutB Try.prog = true := by kernel_rfl
abbrev zEnt : Value := .agg (ent0.cells none 0).toArray
abbrev zAns : Value := .agg (ans0.cells none 0 none 0).toArray
abbrev zSta : Value := .agg (sta0.cells staP0).toArray
abbrev zL {H : Type} : DataW H := .lit (.int .i64 0)
abbrev dEnt {H : Type} : DataW H := .agg [zL, zL, zL, .agg [zL, zL, zL, zL, zL, .agg [zL, zL, zL, .agg [zL, zL], .agg [zL, zL]], .agg [zL, zL, zL, zL, zL], .agg [zL, zL, .agg [zL, zL], zL, .nil, zL]]]
abbrev dAns {H : Type} : DataW H := .agg [zL, zL, zL, .nil, .nil]
abbrev dSta {H : Type} : DataW H := .agg [zL, zL, zL, .nil, .nil, .nil, .nil, .nil]
theorem wf_u8 {x : Int} (h : (Lit.int .u8 x).wf = true) : 0 ≤ x ∧ x < 256 := by
  have h2 := h
  simp [Lit.wf] at h2
  have e : IntKind.u8.min = 0 := rfl
  have e2 : IntKind.u8.max = 255 := rfl
  rw [e, e2] at h2
  omega
theorem flat_bv : ∀ l : List Int, flat (intR .u8).enc l = bv l
  | [] => rfl
  | y :: l => by rw [flat_cons, flat_bv l]; rfl
theorem bytB : SoundB Try.prog 37 (sliceR (intR .u8) 1) (fun s => s.xs.length) := (sliceB (k := 1) Try.underlying37 (by kernel_rfl) (by decide) (by kernel_rfl) (intB Try.underlying5)).mono (fun s => Nat.le_of_eq (sum_ones _).symm)
set_option maxRecDepth 100000 in
theorem lifted (os : Os) (started : os.Started) (H : Type) (enc : TypeId × Value → H) (F : Stop.Interp) :
    ReturnsInHanded {} Try.checked os 9 .any ((Rows.OpenSpec.upto Rows.commandBackSpec).pre6 enc Try.prog Try.f9 Rows.commandBackUptoRow.domain false) (((Rows.OpenSpec.upto Rows.commandBackSpec).at F).post enc Try.prog Try.f9 false true false false) := by
  refine returnsInHanded_of_cond_sized (C := Try.checked) (s := (Rows.OpenSpec.upto Rows.commandBackSpec)) (k := Rows.uptoSmall) rfl own started (by kernel_rfl) Try.func9
    (OpenSpec.witness (enc := enc) (C := Try.checked) (s := (Rows.OpenSpec.upto Rows.commandBackSpec)) (k := Rows.uptoSmall) rfl false ⟨#[], #[zEnt, zAns, zSta, .slice none 0 0], []⟩ 8 (by kernel_rfl) (by kernel_rfl) (by kernel_rfl) (x := ([dEnt, dAns, dSta, .nil], [], [])) (by kernel_rfl) rfl (by kernel_rfl)) ?_
  intro W base args ds gs before hval0 hW hcnd hk hsz0 _
  have hsz : (DataW.weightsEach Try.prog (Try.f9.params.toList ++ Rows.commandBackSpec.plain.varTypes Try.prog) (ds ++ gs)).all (· ≤ reachBytes) = true := hsz0
  have hval : ∀ (j : Nat) t v, Try.f9.params[j]? = some t → args[j]? = some v → Value.okWide Try.prog W .any base t v := hval0
  have hW' := hW
  obtain ⟨p, q, hA0, hV, rfl, hfz, hnd⟩ := hW
  have hA : DataW.TrodAll enc Try.prog W 0 (fun _ => true) true Try.f9.params.toList args.toList ds p := hA0
  rw [Try.params9] at hA hval hsz
  obtain ⟨v0, vs0, d0, ds0, p0, q0, hargs, rfl, rfl, h0, r0⟩ := trodAll_cons hA
  obtain ⟨v1, vs1, d1, ds1, p1, q1, rfl, rfl, rfl, h1, r1⟩ := trodAll_cons r0
  obtain ⟨v2, vs2, d2, ds2, p2, q2, rfl, rfl, rfl, h2, r2⟩ := trodAll_cons r1
  obtain ⟨v3, vs3, d3, ds3, p3, q3, rfl, rfl, rfl, h3, r3⟩ := trodAll_cons r2
  obtain ⟨rfl, rfl, rfl⟩ := trodAll_nil r3
  obtain rfl : args = #[v0, v1, v2, v3] := by cases args; simp_all
  obtain ⟨rfl, rfl⟩ := trodVars_none hV
  have k0 := h0
  have lt0 : ∀ x ∈ p0, x.block < W.heap.size := by obtain ⟨m, hm⟩ := k0; exact DataW.trod_lt m _ _ _ hm
  obtain ⟨x0, e0, ok0, b0⟩ := read_argB entB h0 hsz (j := 0) (by rfl) (by rfl)
  obtain ⟨cs0, hv0, _⟩ := okWide_struct Try.underlying34 (hval 0 34 v0 rfl rfl)
  subst hv0
  have f0 := agg_of_cells e0
  rw [f0] at k0 ⊢
  have k1 := h1
  have lt1 : ∀ x ∈ p1, x.block < W.heap.size := by obtain ⟨m, hm⟩ := k1; exact DataW.trod_lt m _ _ _ hm
  obtain ⟨x1, e1, ok1, b1⟩ := read_argB ansB h1 hsz (j := 1) (by rfl) (by rfl)
  obtain ⟨cs1, hv1, _⟩ := okWide_struct Try.underlying49 (hval 1 49 v1 rfl rfl)
  subst hv1
  have f1 := agg_of_cells e1
  rw [f1] at k1 ⊢
  have k2 := h2
  have lt2 : ∀ x ∈ p2, x.block < W.heap.size := by obtain ⟨m, hm⟩ := k2; exact DataW.trod_lt m _ _ _ hm
  obtain ⟨x2, e2, ok2, b2⟩ := read_argB staB h2 hsz (j := 2) (by rfl) (by rfl)
  obtain ⟨cs2, hv2, _⟩ := okWide_struct Try.underlying58 (hval 2 58 v2 rfl rfl)
  subst hv2
  have f2 := agg_of_cells e2
  rw [f2] at k2 ⊢
  have k3 := h3
  have lt3 : ∀ x ∈ p3, x.block < W.heap.size := by obtain ⟨m, hm⟩ := k3; exact DataW.trod_lt m _ _ _ hm
  obtain ⟨x3, e3, ok3, b3⟩ := read_argB bytB h3 hsz (j := 3) (by rfl) (by rfl)
  obtain ⟨a3, n3, c3, hv3⟩ := okWide_slice Try.underlying37 (hval 3 37 v3 rfl rfl)
  subst hv3
  have f3 := one_of_cells rfl e3
  rw [f3] at k3 ⊢
  rw [f0] at hW'
  rw [f1] at hW'
  rw [f2] at hW'
  rw [f3] at hW'
  have hbk := of_decide_eq_true hk
  simp only [Rows.uptoBulkAll, List.append_nil] at hbk
  obtain ⟨t0, a0, c0, g0, o0, s0, l0⟩ := ent_arg rfl ok0
  obtain ⟨t1, aa, ca, ab, cb, css, g1, o1, m1, m2, l1⟩ := ans_arg rfl ok1
  obtain ⟨t2, s2, g2, o2, m3, l2⟩ := sta_arg rfl ok2
  have hby : Byt x3.xs := fun z hz => wf_u8 (ok3.2.2.2.2.1 z hz)
  have hrd : Rd W x3.a (bv x3.xs) := by have := ok3.2.2.2.1; rwa [flat_bv] at this
  have hsrc : Go.Fur.Src x3.xs x3.a x3.xs.length x3.cap := ⟨rfl, ok3.1, by have := ok3.1; have := ok3.2.2.1; unfold reachBytes at this; omega, hby⟩
  clear hA0 hval0 hsz0 hsz
  rw [g0] at hW' k0 ⊢
  rw [g1] at hW' k1 ⊢
  rw [g2] at hW' k2 ⊢
  refine (CommandBack_calls t0 a0 c0 s0 o0 (by omega) t1 aa ca ab cb css m1 m2 o1 (by omega) t2 s2 m3 o2 (by omega) hsrc hrd (by omega)).mono fun e W2 ⟨he, fr⟩ => ?_
  have bel : Below W.heap.size W W2 := fr.below (Nat.le_refl _) (by simp)
  subst he
  exact ⟨_, rfl, _, _, _, [], _, [], hW', trodAll_mk1 (shut_bool Try.underlying4 _), (trodAll_cons_mk (Below.trod laidOut (by kernel_rfl) (of_decide_eq_true (by kernel_rfl)) k0 bel lt0) (trodAll_cons_mk (Below.trod laidOut (by kernel_rfl) (of_decide_eq_true (by kernel_rfl)) k1 bel lt1) (trodAll_cons_mk (Below.trod laidOut (by kernel_rfl) (of_decide_eq_true (by kernel_rfl)) k2 bel lt2) (trodAll_cons_mk (Below.trod laidOut (by kernel_rfl) (of_decide_eq_true (by kernel_rfl)) k3 bel lt3) trodAll_mk0)))), rfl, bel.frame _, fun h => by cases h⟩
theorem proved : Rows.CommandBackUptoSaid :=
  OpenClaim.holds_of_cond 9 Try.f9 rfl rfl rfl rfl rfl rfl rfl ⟨rfl, rfl, rfl, rfl, rfl⟩ rfl rfl rfl rfl rfl (by kernel_rfl) Try.func9 (by kernel_rfl)
    (of_decide_eq_true (by kernel_rfl)) (by unfold Func.isWrapper; first | (rw [if_pos (by decide +kernel)]; kernel_rfl) | (rw [if_neg (by decide +kernel)]; exact ⟨rfl, rfl⟩))
    (fun os started H enc _ F => lifted os started H enc F)
end Go.Proofs.Ytmdfipahbhbgjaa.lawCommandBack
