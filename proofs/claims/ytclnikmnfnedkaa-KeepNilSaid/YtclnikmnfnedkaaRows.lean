/-
  No cell of these rows narrows 'for every input' (looked for: loops, veiled, ifaces, maps, wideKeys, modest, calm, conditions, laid).
  DERIVED. THE GIVEN ROWS OF THIS SEAT. 4 by the template 'for every input the law returns true; each argument reads behind the call as it read before'; 0 by the template 'total and deterministic' (their statements: YtclnikmnfnedkaaTotals.lean).
  GIVEN WITH THE SEED: the statements are not yours to turn. If you find one false, say at which input.
  Laid BY PROGRAM, IN A SANDBOX (cutbox-rows.mjs): the forced cells as the released guide's own fill.sh prints them over the translation e277bf23d5ea8344… (all of the seat's roots in one cut). By AI agents, Wed Nov 11 2026. No macro, syntax, notation, axiom, sorry.
-/
import Derived.Test.YtclnikmnfnedkaaChecked
import GoSem.Claim
import GoSem.ClaimJoined
import GoSem.ClaimMapViews
import Derived.JoinedTies
import Derived.KernelRfl
namespace Go.Proofs.Ytclnikmnfnedkaa
/- THE CELL 'sum', in the pinned program and in every row, IS THE sha256 OF THE DUMP (.gsa) THAT YtclnikmnfnedkaaProg.lean LOADS. Nothing in Lean hashes anything: it is a label: what it is worth is what the hold of that sum in a sandbox is worth. -/
noncomputable def Try.pinned : Pinned := { name := "ytclnikmnfnedkaa", sum := "e277bf23d5ea83445a47c486b4f83feacaf43d1932b357e669a56759c2b9a53e", checked := Try.checked }
namespace Rows
def none {H : Type} : Left H := { results := [], args := [] }

/-- 'furlonglaw16.KeepLasts': WHATEVER THE INPUT: true; the input reads as it did. -/
def keepLastsSpec : ChangeSpec := { name := "keepLasts", fn := fun _ => fun
  | [d1, d2, d3, d4] => { results := [.lit (.bool true)], args := [d1, d2, d3, d4] }
  | _ => none }
def keepLastsRow : OpenClaim := { program := "ytclnikmnfnedkaa", sum := "e277bf23d5ea83445a47c486b4f83feacaf43d1932b357e669a56759c2b9a53e", func := "furlong/furlonglaw16.KeepLasts", spec := "keepLasts", unfollowed := true, recurses := true, apart := false }
def KeepLastsSaid : Prop := keepLastsRow.holds Try.pinned (OpenSpec.ofChange keepLastsSpec)

/-- ITS FALSE NEIGHBOUR: 'it returns false'. Refute it at one input. -/
def keepLastsWrong : ChangeSpec := { name := "keepLasts", fn := fun _ => fun
  | [d1, d2, d3, d4] => { results := [.lit (.bool false)], args := [d1, d2, d3, d4] }
  | _ => none }
def KeepLastsWrongFalsely : Prop := keepLastsRow.holds Try.pinned (OpenSpec.ofChange keepLastsWrong)

/-- 'furlonglaw16.KeepHolds': WHATEVER THE INPUT: true; the input reads as it did. -/
def keepHoldsSpec : ChangeSpec := { name := "keepHolds", fn := fun _ => fun
  | [d] => { results := [.lit (.bool true)], args := [d] }
  | _ => none }
def keepHoldsRow : OpenClaim := { program := "ytclnikmnfnedkaa", sum := "e277bf23d5ea83445a47c486b4f83feacaf43d1932b357e669a56759c2b9a53e", func := "furlong/furlonglaw16.KeepHolds", spec := "keepHolds", unfollowed := true, recurses := true, apart := false }
def KeepHoldsSaid : Prop := keepHoldsRow.holds Try.pinned (OpenSpec.ofChange keepHoldsSpec)

/-- ITS FALSE NEIGHBOUR: 'it returns false'. Refute it at one input. -/
def keepHoldsWrong : ChangeSpec := { name := "keepHolds", fn := fun _ => fun
  | [d] => { results := [.lit (.bool false)], args := [d] }
  | _ => none }
def KeepHoldsWrongFalsely : Prop := keepHoldsRow.holds Try.pinned (OpenSpec.ofChange keepHoldsWrong)

/-- 'furlonglaw16.KeepCuts': WHATEVER THE INPUT: true; the input reads as it did. -/
def keepCutsSpec : ChangeSpec := { name := "keepCuts", fn := fun _ => fun
  | [d1, d2, d3, d4] => { results := [.lit (.bool true)], args := [d1, d2, d3, d4] }
  | _ => none }
def keepCutsRow : OpenClaim := { program := "ytclnikmnfnedkaa", sum := "e277bf23d5ea83445a47c486b4f83feacaf43d1932b357e669a56759c2b9a53e", func := "furlong/furlonglaw16.KeepCuts", spec := "keepCuts", unfollowed := true, recurses := true, apart := false }
def KeepCutsSaid : Prop := keepCutsRow.holds Try.pinned (OpenSpec.ofChange keepCutsSpec)

/-- ITS FALSE NEIGHBOUR: 'it returns false'. Refute it at one input. -/
def keepCutsWrong : ChangeSpec := { name := "keepCuts", fn := fun _ => fun
  | [d1, d2, d3, d4] => { results := [.lit (.bool false)], args := [d1, d2, d3, d4] }
  | _ => none }
def KeepCutsWrongFalsely : Prop := keepCutsRow.holds Try.pinned (OpenSpec.ofChange keepCutsWrong)

/-- 'furlonglaw16.KeepNil': WHATEVER THE INPUT: true; the input reads as it did. -/
def keepNilSpec : ChangeSpec := { name := "keepNil", fn := fun _ => fun
  | [d1, d2, d3] => { results := [.lit (.bool true)], args := [d1, d2, d3] }
  | _ => none }
def keepNilRow : OpenClaim := { program := "ytclnikmnfnedkaa", sum := "e277bf23d5ea83445a47c486b4f83feacaf43d1932b357e669a56759c2b9a53e", func := "furlong/furlonglaw16.KeepNil", spec := "keepNil", unfollowed := true, recurses := true, apart := false }
def KeepNilSaid : Prop := keepNilRow.holds Try.pinned (OpenSpec.ofChange keepNilSpec)

/-- ITS FALSE NEIGHBOUR: 'it returns false'. Refute it at one input. -/
def keepNilWrong : ChangeSpec := { name := "keepNil", fn := fun _ => fun
  | [d1, d2, d3] => { results := [.lit (.bool false)], args := [d1, d2, d3] }
  | _ => none }
def KeepNilWrongFalsely : Prop := keepNilRow.holds Try.pinned (OpenSpec.ofChange keepNilWrong)

/- THE SECOND FORM. 'bulk': how many values and letters a reading holds, each counted each time it is reached (what is shared counts as often as it is met; a slice's spare places count too). A statement '..UptoSaid' is the law's where the arguments, and the package variables that the reading takes, are together of bulk at most 1048576: NARROWER than '..Said'. Prove '..Said' where nothing that the law and all that it calls make is longer than what came in: it says more and counts as full. Else prove '..UptoSaid'. A law counts once. -/
mutual
def uptoBulk {H : Type} : DataW H → Nat
  | .lit (.string bytes) => bytes.length + 1
  | .lit _ => 1
  | .nil => 1
  | .ptr d => uptoBulk d + 1
  | .slice elems spare => uptoBulkAll elems + uptoBulkAll spare + 1
  | .agg parts => uptoBulkAll parts + 1
  | .iface _ d => uptoBulk d + 1
  | .map entries => uptoBulkEntries entries + 1
  | .held _ => 1
def uptoBulkAll {H : Type} : List (DataW H) → Nat
  | [] => 0
  | d :: r => uptoBulk d + uptoBulkAll r
def uptoBulkEntries {H : Type} : List (Lit × DataW H) → Nat
  | [] => 0
  | x :: r => uptoBulkEntry x + uptoBulkEntries r
def uptoBulkEntry {H : Type} : Lit × DataW H → Nat
  | (.string bytes, d) => bytes.length + uptoBulk d + 1
  | (_, d) => uptoBulk d + 1
 end
def uptoSmall : (H : Type) → List (DataW H) → Bool := fun _ ds => decide (uptoBulkAll ds ≤ 1048576)
def OpenSpec.upto (s : _root_.Go.ChangeSpec) : _root_.Go.OpenSpec := { _root_.Go.OpenSpec.ofChange s with cond := some uptoSmall }

/-- 'furlonglaw16.KeepLasts', WHERE WHAT IT READS IS OF BULK AT MOST 1048576: true; the input reads as it did. -/
def keepLastsUptoRow : OpenClaim := { program := "ytclnikmnfnedkaa", sum := "e277bf23d5ea83445a47c486b4f83feacaf43d1932b357e669a56759c2b9a53e", func := "furlong/furlonglaw16.KeepLasts", spec := "keepLasts", unfollowed := true, recurses := true, apart := false, narrowed := true }
def KeepLastsUptoSaid : Prop := keepLastsUptoRow.holds Try.pinned (OpenSpec.upto keepLastsSpec)

/-- 'furlonglaw16.KeepHolds', WHERE WHAT IT READS IS OF BULK AT MOST 1048576: true; the input reads as it did. -/
def keepHoldsUptoRow : OpenClaim := { program := "ytclnikmnfnedkaa", sum := "e277bf23d5ea83445a47c486b4f83feacaf43d1932b357e669a56759c2b9a53e", func := "furlong/furlonglaw16.KeepHolds", spec := "keepHolds", unfollowed := true, recurses := true, apart := false, narrowed := true }
def KeepHoldsUptoSaid : Prop := keepHoldsUptoRow.holds Try.pinned (OpenSpec.upto keepHoldsSpec)

/-- 'furlonglaw16.KeepCuts', WHERE WHAT IT READS IS OF BULK AT MOST 1048576: true; the input reads as it did. -/
def keepCutsUptoRow : OpenClaim := { program := "ytclnikmnfnedkaa", sum := "e277bf23d5ea83445a47c486b4f83feacaf43d1932b357e669a56759c2b9a53e", func := "furlong/furlonglaw16.KeepCuts", spec := "keepCuts", unfollowed := true, recurses := true, apart := false, narrowed := true }
def KeepCutsUptoSaid : Prop := keepCutsUptoRow.holds Try.pinned (OpenSpec.upto keepCutsSpec)

/-- 'furlonglaw16.KeepNil', WHERE WHAT IT READS IS OF BULK AT MOST 1048576: true; the input reads as it did. -/
def keepNilUptoRow : OpenClaim := { program := "ytclnikmnfnedkaa", sum := "e277bf23d5ea83445a47c486b4f83feacaf43d1932b357e669a56759c2b9a53e", func := "furlong/furlonglaw16.KeepNil", spec := "keepNil", unfollowed := true, recurses := true, apart := false, narrowed := true }
def KeepNilUptoSaid : Prop := keepNilUptoRow.holds Try.pinned (OpenSpec.upto keepNilSpec)

end Rows
end Go.Proofs.Ytclnikmnfnedkaa
