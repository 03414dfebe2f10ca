/- furlonglaw15.Op: what a list of calls reads as. -/
import Derived.Test.YtmhejgelmmjihaaUtil01
import Derived.Test.YtmhejgelmmjihaaDiskAll
import Derived.Test.YtmhejgelmmjihaaOpen
namespace Go.Fur
open Go Go.RowKit Go.Proofs
set_option linter.unusedVariables false
set_option linter.unusedSimpArgs false
abbrev rInt : Rdr Int := intR .i64
abbrev rBytes : Rdr (SlV Int) := sliceR (intR .u8) 1
theorem sInt : Sound Try.prog 3 rInt := intR_sound Try.underlying3
theorem sBytes : Sound Try.prog 24 rBytes := sliceR_sound Try.underlying24 (by kernel_rfl) Nat.one_pos (by kernel_rfl) (intR_sound Try.underlying5)
theorem int_ok {W : World} {x : Int} (h : rInt.ok W x) : -9223372036854775808 ≤ x ∧ x ≤ 9223372036854775807 := by
  simp only [intR, Lit.wf, decide_eq_true_eq] at h
  have h8 : IntKind.i64.min ≤ x ∧ x ≤ IntKind.i64.max := by simpa [IntKind.has] using h
  simp only [show IntKind.i64.min = -9223372036854775808 from rfl, show IntKind.i64.max = 9223372036854775807 from rfl] at h8
  exact h8
abbrev Op15 : Type := Int × Int × SlV Int × Unit
abbrev rOp : Rdr Op15 := consR rInt (consR rInt (consR rBytes nilR))
abbrev rOps : Rdr (SlV Op15) := sliceR rOp 40
theorem sOp : Sound Try.prog 52 rOp := structR Try.underlying52 (by kernel_rfl) (consF (k := 1) rfl (by kernel_rfl) sInt (consF (k := 1) rfl (by kernel_rfl) sInt (consF (k := 1) rfl (by kernel_rfl) sBytes (nilF _))))
theorem sOps : Sound Try.prog 49 rOps := sliceR_sound (k := 3) Try.underlying49 (by kernel_rfl) (by decide) (by kernel_rfl) sOp
theorem op_zero : ∀ w, (zeroValue 52).run Try.prog w = .ok (.agg [.int .i64 0, .int .i64 0, .slice none 0 0].toArray) w := fun w => by kernel_rfl
theorem op_size : (Try.prog.info? 52).map (·.size) = some 3 := by kernel_rfl
/-- The bytes of a row of bytes that came in. -/
theorem bytes_ok {W : World} {p : SlV Int} (h : rBytes.ok W p) : Byt p.xs ∧ Rd W p.a (bv p.xs) ∧ p.xs.length ≤ p.cap ∧ p.cap ≤ 140737488351232 := by
  obtain ⟨h1, h2, h3, h4, h5, _⟩ := h
  refine ⟨fun x hx => ?_, ?_, h1, ?_⟩
  · have := h5 x hx
    simp only [intR, Lit.wf, decide_eq_true_eq] at this
    have h8 : IntKind.u8.min ≤ x ∧ x ≤ IntKind.u8.max := by simpa [IntKind.has] using this
    simp only [show IntKind.u8.min = 0 from rfl, show IntKind.u8.max = 255 from rfl] at h8
    omega
  · have e : flat (intR .u8).enc p.xs = bv p.xs := by
      unfold flat bv intR
      induction p.xs with
      | nil => rfl
      | cons x xs ih => simp only [List.flatMap_cons, List.map_cons, ih]; rfl
    rwa [e] at h4
  · have : reachBytes = 140737488351232 := by decide
    omega
theorem ops_at {W : World} {ops : SlV Op15} (h : rOps.ok W ops) (k : Nat) (o : Op15) (ho : ops.xs[k]? = some o) :
    ∃ b off, ops.a = some ⟨b, off, none⟩ ∧ W.rangeAt b (off + k * 3) [.int .i64 o.1, .int .i64 o.2.1, o.2.2.1.val] ∧ b < W.heap.size ∧ rBytes.ok W o.2.2.1 ∧ rInt.ok W o.1 ∧ rInt.ok W o.2.1 := by
  obtain ⟨h1, h2, h3, h4, h5, h6, h7⟩ := h
  have hlt : k < ops.xs.length := (List.getElem?_eq_some_iff.1 ho).1
  have hlen : ∀ x ∈ ops.xs, (rOp.enc x).length = 3 := fun x _ => rfl
  have hne : flat rOp.enc ops.xs ≠ [] := fun h0 => by
    have := flat_length rOp.enc 3 ops.xs hlen
    rw [h0] at this
    simp at this
    omega
  obtain ⟨b, off, ha, hr⟩ := h4 hne
  refine ⟨b, off, ha, fun j v hv => ?_, ?_, (h5 o (List.mem_of_getElem? ho)).2.2.1, (h5 o (List.mem_of_getElem? ho)).1, (h5 o (List.mem_of_getElem? ho)).2.1⟩
  · have hp := flat_piece rOp.enc 3 ops.xs hlen k o ho
    have hv' : ((flat rOp.enc ops.xs).drop (k * 3))[j]? = some v := by
      have h8 : (((flat rOp.enc ops.xs).drop (k * 3)).take 3)[j]? = some v := by rw [hp]; exact hv
      rw [List.getElem?_take] at h8
      split at h8
      · exact h8
      · cases h8
    rw [List.getElem?_drop] at hv'
    have := hr (k * 3 + j) v hv'
    rwa [show off + k * 3 + j = off + (k * 3 + j) from by omega]
  · exact h7 _ ha (by omega)
end Go.Fur
