/- A store is opened: what it finds, plain; a nil disk. -/
import Derived.Test.YtmhejgelmmjihaaSto6
import Derived.WalkMore
namespace Go.Fur
open Go Go.RowKit Go.Proofs
set_option linter.unusedVariables false
set_option linter.unusedSimpArgs false
/-- The records that stand in the bytes A from e on, and where they end. -/
def recsP (A : List Int) : Nat → Nat → List (List Int) × Nat
  | 0, e => ([], e)
  | f + 1, e =>
    if A.length < e + 4 then ([], e)
    else if 65536 < four4 A e ∨ A.length < e + 4 + four4 A e then ([], e)
    else ((A.drop (e + 4)).take (four4 A e) :: (recsP A f (e + 4 + four4 A e)).1, (recsP A f (e + 4 + four4 A e)).2)
structure Opn where
  gen : Nat
  life : Nat
  whole : Bool
  snap : List Int
  recs : List (List Int)
  at_ : Nat
  tail : List Int
def allP (d : D) : List Int := (readB d (rootP d.now).1).flatten
/-- What is there when the snapshot's length is n and all bytes are A. -/
def openA (gen life : Nat) (whole : Bool) (n : Nat) (A : List Int) : Opn :=
  ⟨gen, life, whole, A.take n, (recsP A (A.length + 1) n).1, (recsP A (A.length + 1) n).2 / 55, (A.take (recsP A (A.length + 1) n).2).drop ((recsP A (A.length + 1) n).2 / 55 * 55)⟩
def lifeP (d : D) : Nat := (eldL d (d.now.length - 2) + 1) % 4294967296
def openP (d : D) : Opn :=
  if (allP d).length < (rootP d.now).2.1 then openA (rootP d.now).1 (lifeP d) false 0 [] else openA (rootP d.now).1 (lifeP d) (rootP d.now).2.2 (rootP d.now).2.1 (allP d)
theorem results_cellMid {P : Program} {fn : Func} {p t u : Tmp} {ty : TypeId} (h : fn.results = #[.tmp t, .cell p ty, .tmp u]) (tmps : Array Value) (w : World) (g : Nat) (ty' : TypeId) (cs : List Value) (dd : TypeDesc)
    (hp : tmps.getD p undef = .pointer (some ⟨g, 0, none⟩)) (hg : Blk w g ty' cs)
    (hu : P.underlying ty = some dd) (hd : (match dd with | .struct _ | .array _ _ => true | _ => false) = true) (hi : (P.info? ty).map (·.size) = some cs.length) :
    (results fn tmps).run P w = .ok (.tuple #[tmps.getD t undef, .agg cs.toArray, tmps.getD u undef]) w := by
  have hp' : tmps[p]?.getD undef = .pointer (some ⟨g, 0, none⟩) := by simpa using hp
  simp [results, h, hp', asAddr, run_loadVar_row w g ty' ty cs.toArray (0, 0) dd hg hu hd (by simpa using hi)]
theorem found_size : (Try.prog.info? 33).map (·.size) = some 3 := by kernel_rfl
theorem found_zero : ∀ w, (zeroValue 33).run Try.prog w = .ok (.agg ([Value.bool false, .slice none 0 0, .slice none 0 0] : List Value).toArray) w := fun w => by kernel_rfl
theorem found_build : ∀ w, (Instr.build 33 #[]).run Try.prog w = .ok (.agg ([Value.bool false, .slice none 0 0, .slice none 0 0] : List Value).toArray) w := fun w => by kernel_rfl
set_option maxRecDepth 100000 in
set_option maxHeartbeats 1000000 in
theorem openN_calls (w : World) : Calls Try.prog 11 #[.pointer none] w fun e w' => e = .returned (.tuple #[.pointer none, .agg #[.bool false, .slice none 0 0, .slice none 0 0], .int .i64 17]) ∧ Fr [] w w' := by
  go_enter Try.func11, Try.ntmps11
  go_wp2_with fail
  go_step3
  go_wp2_with fail
  rw [Exit.noGoto_ret]
  have B1 := Blk.new w 33 [.bool false, .slice none 0 0, .slice none 0 0]
  exact bodyPost_ret (results_cellMid rfl _ _ w.heap.size 33 [.bool false, .slice none 0 0, .slice none 0 0] _ (by rfl) B1 Try.underlying33 (by rfl) found_size) rfl ⟨rfl, (Fr.refl [] w).alloc _⟩
end Go.Fur
