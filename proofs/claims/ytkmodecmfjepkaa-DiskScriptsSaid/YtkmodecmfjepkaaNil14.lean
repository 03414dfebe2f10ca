/- The walk of DiskNil. -/
import Derived.Test.YtkmodecmfjepkaaAwake14
import Derived.Test.YtkmodecmfjepkaaOpen
namespace Go.Fur
open Go Go.RowKit Go.Proofs
set_option linter.unusedVariables false
set_option linter.unusedSimpArgs false
abbrev rInt : Rdr Int := intR .i64
abbrev rBytes : Rdr (SlV Int) := sliceR (intR .u8) 1
theorem sInt : Sound Try.prog 3 rInt := intR_sound Try.underlying3
theorem sBytes : Sound Try.prog 34 rBytes := sliceR_sound Try.underlying34 (by kernel_rfl) Nat.one_pos (by kernel_rfl) (intR_sound Try.underlying5)
set_option maxRecDepth 100000 in
set_option maxHeartbeats 1000000 in
theorem DiskNil_walk (W : World) (n : Int) (_ : rInt.ok W n) (p : SlV Int) (_ : rBytes.ok W p) : Calls Try.prog 6 #[.int .i64 n, p.val] W fun e w' => e = .returned (.bool true) ∧ Below W.heap.size W w' := by
  go_enter Try.func6, Try.ntmps6
  go_wp2_with fail
  refine (awake_calls W).mono ?_
  rintro e w1 ⟨rfl, F1⟩
  go_wp2_with fail
  refine (read_nil w1 n).mono ?_
  rintro e w2 ⟨rfl, rfl⟩
  go_wp2_with fail
  refine (new_arg w1 0 (.inl (by omega))).mono ?_
  rintro e w2 ⟨rfl, rfl⟩
  go_wp2_with fail
  refine (new_arg w1 65537 (.inr (by omega))).mono ?_
  rintro e w2 ⟨rfl, rfl⟩
  go_wp2_with fail
  refine (write_nil w1 n _).mono ?_
  rintro e w2 ⟨rfl, rfl⟩
  go_wp2_with fail
  refine (sync_nil w1).mono ?_
  rintro e w2 ⟨rfl, rfl⟩
  go_wp2_with fail
  refine (crash_nil w1 n).mono ?_
  rintro e w2 ⟨rfl, rfl⟩
  go_wp2_with fail
  refine (loose_nil w1).mono ?_
  rintro e w2 ⟨rfl, rfl⟩
  go_wp2_with fail
  refine (blocks_nil w1).mono ?_
  rintro e w2 ⟨rfl, rfl⟩
  go_wp2_with fail
  go_ret
  exact ⟨rfl, F1.below (Nat.le_refl _) (by simp)⟩
end Go.Fur
