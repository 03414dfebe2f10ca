/-
  No cell of these rows narrows 'for every input' (looked for: loops, veiled, ifaces, maps, wideKeys, modest, calm, conditions, laid).
  DERIVED. THE GIVEN ROWS OF THIS SEAT. 8 by the template 'for every input the law returns true; each argument reads behind the call as it read before'; 0 by the template 'total and deterministic' (their statements: YtijcjllojhpioaaTotals.lean).
  GIVEN WITH THE SEED: the statements are not yours to turn. If you find one false, say at which input.
  Laid BY PROGRAM, IN A SANDBOX (cutbox-rows.mjs): the forced cells as the released guide's own fill.sh prints them over the translation da24c994db68365d… (all of the seat's roots in one cut). By AI agents, Wed Nov 11 2026. No macro, syntax, notation, axiom, sorry.
-/
import Derived.Test.YtijcjllojhpioaaChecked
import GoSem.Claim
import GoSem.ClaimJoined
import GoSem.ClaimMapViews
import Derived.JoinedTies
import Derived.KernelRfl
namespace Go.Proofs.Ytijcjllojhpioaa
/- THE CELL 'sum', in the pinned program and in every row, IS THE sha256 OF THE DUMP (.gsa) THAT YtijcjllojhpioaaProg.lean LOADS. Nothing in Lean hashes anything: it is a label: what it is worth is what the hold of that sum in a sandbox is worth. -/
noncomputable def Try.pinned : Pinned := { name := "ytijcjllojhpioaa", sum := "da24c994db68365d678ff8bf3077dc458ecce903f05d34654a881891c51582e9", checked := Try.checked }
namespace Rows
def none {H : Type} : Left H := { results := [], args := [] }

/-- 'furlonglaw03.StripGuards': WHATEVER THE INPUT: true; the input reads as it did. -/
def stripGuardsSpec : ChangeSpec := { name := "stripGuards", fn := fun _ => fun
  | [d1, d2] => { results := [.lit (.bool true)], args := [d1, d2] }
  | _ => none }
def stripGuardsRow : OpenClaim := { program := "ytijcjllojhpioaa", sum := "da24c994db68365d678ff8bf3077dc458ecce903f05d34654a881891c51582e9", func := "furlong/furlonglaw03.StripGuards", spec := "stripGuards", apart := false }
def StripGuardsSaid : Prop := stripGuardsRow.holds Try.pinned (OpenSpec.ofChange stripGuardsSpec)

/-- ITS FALSE NEIGHBOUR: 'it returns false'. Refute it at one input. -/
def stripGuardsWrong : ChangeSpec := { name := "stripGuards", fn := fun _ => fun
  | [d1, d2] => { results := [.lit (.bool false)], args := [d1, d2] }
  | _ => none }
def StripGuardsWrongFalsely : Prop := stripGuardsRow.holds Try.pinned (OpenSpec.ofChange stripGuardsWrong)

/-- 'furlonglaw03.StripOrder': WHATEVER THE INPUT: true; the input reads as it did. -/
def stripOrderSpec : ChangeSpec := { name := "stripOrder", fn := fun _ => fun
  | [d1, d2] => { results := [.lit (.bool true)], args := [d1, d2] }
  | _ => none }
def stripOrderRow : OpenClaim := { program := "ytijcjllojhpioaa", sum := "da24c994db68365d678ff8bf3077dc458ecce903f05d34654a881891c51582e9", func := "furlong/furlonglaw03.StripOrder", spec := "stripOrder", apart := false }
def StripOrderSaid : Prop := stripOrderRow.holds Try.pinned (OpenSpec.ofChange stripOrderSpec)

/-- ITS FALSE NEIGHBOUR: 'it returns false'. Refute it at one input. -/
def stripOrderWrong : ChangeSpec := { name := "stripOrder", fn := fun _ => fun
  | [d1, d2] => { results := [.lit (.bool false)], args := [d1, d2] }
  | _ => none }
def StripOrderWrongFalsely : Prop := stripOrderRow.holds Try.pinned (OpenSpec.ofChange stripOrderWrong)

/-- 'furlonglaw03.StripMends': WHATEVER THE INPUT: true; the input reads as it did. -/
def stripMendsSpec : ChangeSpec := { name := "stripMends", fn := fun _ => fun
  | [d1, d2, d3] => { results := [.lit (.bool true)], args := [d1, d2, d3] }
  | _ => none }
def stripMendsRow : OpenClaim := { program := "ytijcjllojhpioaa", sum := "da24c994db68365d678ff8bf3077dc458ecce903f05d34654a881891c51582e9", func := "furlong/furlonglaw03.StripMends", spec := "stripMends", apart := false }
def StripMendsSaid : Prop := stripMendsRow.holds Try.pinned (OpenSpec.ofChange stripMendsSpec)

/-- ITS FALSE NEIGHBOUR: 'it returns false'. Refute it at one input. -/
def stripMendsWrong : ChangeSpec := { name := "stripMends", fn := fun _ => fun
  | [d1, d2, d3] => { results := [.lit (.bool false)], args := [d1, d2, d3] }
  | _ => none }
def StripMendsWrongFalsely : Prop := stripMendsRow.holds Try.pinned (OpenSpec.ofChange stripMendsWrong)

/-- 'furlonglaw03.StripSizes': WHATEVER THE INPUT: true; the input reads as it did. -/
def stripSizesSpec : ChangeSpec := { name := "stripSizes", fn := fun _ => fun
  | [d1, d2, d3] => { results := [.lit (.bool true)], args := [d1, d2, d3] }
  | _ => none }
def stripSizesRow : OpenClaim := { program := "ytijcjllojhpioaa", sum := "da24c994db68365d678ff8bf3077dc458ecce903f05d34654a881891c51582e9", func := "furlong/furlonglaw03.StripSizes", spec := "stripSizes", apart := false }
def StripSizesSaid : Prop := stripSizesRow.holds Try.pinned (OpenSpec.ofChange stripSizesSpec)

/-- ITS FALSE NEIGHBOUR: 'it returns false'. Refute it at one input. -/
def stripSizesWrong : ChangeSpec := { name := "stripSizes", fn := fun _ => fun
  | [d1, d2, d3] => { results := [.lit (.bool false)], args := [d1, d2, d3] }
  | _ => none }
def StripSizesWrongFalsely : Prop := stripSizesRow.holds Try.pinned (OpenSpec.ofChange stripSizesWrong)

/-- 'furlonglaw03.StripNumbers': WHATEVER THE INPUT: true; the input reads as it did. -/
def stripNumbersSpec : ChangeSpec := { name := "stripNumbers", fn := fun _ => fun
  | [d1, d2, d3, d4] => { results := [.lit (.bool true)], args := [d1, d2, d3, d4] }
  | _ => none }
def stripNumbersRow : OpenClaim := { program := "ytijcjllojhpioaa", sum := "da24c994db68365d678ff8bf3077dc458ecce903f05d34654a881891c51582e9", func := "furlong/furlonglaw03.StripNumbers", spec := "stripNumbers", apart := false }
def StripNumbersSaid : Prop := stripNumbersRow.holds Try.pinned (OpenSpec.ofChange stripNumbersSpec)

/-- ITS FALSE NEIGHBOUR: 'it returns false'. Refute it at one input. -/
def stripNumbersWrong : ChangeSpec := { name := "stripNumbers", fn := fun _ => fun
  | [d1, d2, d3, d4] => { results := [.lit (.bool false)], args := [d1, d2, d3, d4] }
  | _ => none }
def StripNumbersWrongFalsely : Prop := stripNumbersRow.holds Try.pinned (OpenSpec.ofChange stripNumbersWrong)

/-- 'furlonglaw03.StripKeeps': WHATEVER THE INPUT: true; the input reads as it did. -/
def stripKeepsSpec : ChangeSpec := { name := "stripKeeps", fn := fun _ => fun
  | [d1, d2, d3] => { results := [.lit (.bool true)], args := [d1, d2, d3] }
  | _ => none }
def stripKeepsRow : OpenClaim := { program := "ytijcjllojhpioaa", sum := "da24c994db68365d678ff8bf3077dc458ecce903f05d34654a881891c51582e9", func := "furlong/furlonglaw03.StripKeeps", spec := "stripKeeps", apart := false }
def StripKeepsSaid : Prop := stripKeepsRow.holds Try.pinned (OpenSpec.ofChange stripKeepsSpec)

/-- ITS FALSE NEIGHBOUR: 'it returns false'. Refute it at one input. -/
def stripKeepsWrong : ChangeSpec := { name := "stripKeeps", fn := fun _ => fun
  | [d1, d2, d3] => { results := [.lit (.bool false)], args := [d1, d2, d3] }
  | _ => none }
def StripKeepsWrongFalsely : Prop := stripKeepsRow.holds Try.pinned (OpenSpec.ofChange stripKeepsWrong)

/-- 'furlonglaw03.StripReads': WHATEVER THE INPUT: true; the input reads as it did. -/
def stripReadsSpec : ChangeSpec := { name := "stripReads", fn := fun _ => fun
  | [d1, d2] => { results := [.lit (.bool true)], args := [d1, d2] }
  | _ => none }
def stripReadsRow : OpenClaim := { program := "ytijcjllojhpioaa", sum := "da24c994db68365d678ff8bf3077dc458ecce903f05d34654a881891c51582e9", func := "furlong/furlonglaw03.StripReads", spec := "stripReads", apart := false }
def StripReadsSaid : Prop := stripReadsRow.holds Try.pinned (OpenSpec.ofChange stripReadsSpec)

/-- ITS FALSE NEIGHBOUR: 'it returns false'. Refute it at one input. -/
def stripReadsWrong : ChangeSpec := { name := "stripReads", fn := fun _ => fun
  | [d1, d2] => { results := [.lit (.bool false)], args := [d1, d2] }
  | _ => none }
def StripReadsWrongFalsely : Prop := stripReadsRow.holds Try.pinned (OpenSpec.ofChange stripReadsWrong)

/-- 'furlonglaw03.StripBack': WHATEVER THE INPUT: true; the input reads as it did. -/
def stripBackSpec : ChangeSpec := { name := "stripBack", fn := fun _ => fun
  | [d1, d2, d3, d4] => { results := [.lit (.bool true)], args := [d1, d2, d3, d4] }
  | _ => none }
def stripBackRow : OpenClaim := { program := "ytijcjllojhpioaa", sum := "da24c994db68365d678ff8bf3077dc458ecce903f05d34654a881891c51582e9", func := "furlong/furlonglaw03.StripBack", spec := "stripBack", apart := false }
def StripBackSaid : Prop := stripBackRow.holds Try.pinned (OpenSpec.ofChange stripBackSpec)

/-- ITS FALSE NEIGHBOUR: 'it returns false'. Refute it at one input. -/
def stripBackWrong : ChangeSpec := { name := "stripBack", fn := fun _ => fun
  | [d1, d2, d3, d4] => { results := [.lit (.bool false)], args := [d1, d2, d3, d4] }
  | _ => none }
def StripBackWrongFalsely : Prop := stripBackRow.holds Try.pinned (OpenSpec.ofChange stripBackWrong)

/- THE SECOND FORM. 'bulk': how many values and letters a reading holds, each counted each time it is reached (what is shared counts as often as it is met; a slice's spare places count too). A statement '..UptoSaid' is the law's where the arguments, and the package variables that the reading takes, are together of bulk at most 1048576: NARROWER than '..Said'. Prove '..Said' where nothing that the law and all that it calls make is longer than what came in: it says more and counts as full. Else prove '..UptoSaid'. A law counts once. -/
mutual
def uptoBulk {H : Type} : DataW H → Nat
  | .lit (.string bytes) => bytes.length + 1
  | .lit _ => 1
  | .nil => 1
  | .ptr d => uptoBulk d + 1
  | .slice elems spare => uptoBulkAll elems + uptoBulkAll spare + 1
  | .agg parts => uptoBulkAll parts + 1
  | .iface _ d => uptoBulk d + 1
  | .map entries => uptoBulkEntries entries + 1
  | .held _ => 1
def uptoBulkAll {H : Type} : List (DataW H) → Nat
  | [] => 0
  | d :: r => uptoBulk d + uptoBulkAll r
def uptoBulkEntries {H : Type} : List (Lit × DataW H) → Nat
  | [] => 0
  | x :: r => uptoBulkEntry x + uptoBulkEntries r
def uptoBulkEntry {H : Type} : Lit × DataW H → Nat
  | (.string bytes, d) => bytes.length + uptoBulk d + 1
  | (_, d) => uptoBulk d + 1
 end
def uptoSmall : (H : Type) → List (DataW H) → Bool := fun _ ds => decide (uptoBulkAll ds ≤ 1048576)
def OpenSpec.upto (s : _root_.Go.ChangeSpec) : _root_.Go.OpenSpec := { _root_.Go.OpenSpec.ofChange s with cond := some uptoSmall }

/-- 'furlonglaw03.StripGuards', WHERE WHAT IT READS IS OF BULK AT MOST 1048576: true; the input reads as it did. -/
def stripGuardsUptoRow : OpenClaim := { program := "ytijcjllojhpioaa", sum := "da24c994db68365d678ff8bf3077dc458ecce903f05d34654a881891c51582e9", func := "furlong/furlonglaw03.StripGuards", spec := "stripGuards", apart := false, narrowed := true }
def StripGuardsUptoSaid : Prop := stripGuardsUptoRow.holds Try.pinned (OpenSpec.upto stripGuardsSpec)

/-- 'furlonglaw03.StripOrder', WHERE WHAT IT READS IS OF BULK AT MOST 1048576: true; the input reads as it did. -/
def stripOrderUptoRow : OpenClaim := { program := "ytijcjllojhpioaa", sum := "da24c994db68365d678ff8bf3077dc458ecce903f05d34654a881891c51582e9", func := "furlong/furlonglaw03.StripOrder", spec := "stripOrder", apart := false, narrowed := true }
def StripOrderUptoSaid : Prop := stripOrderUptoRow.holds Try.pinned (OpenSpec.upto stripOrderSpec)

/-- 'furlonglaw03.StripMends', WHERE WHAT IT READS IS OF BULK AT MOST 1048576: true; the input reads as it did. -/
def stripMendsUptoRow : OpenClaim := { program := "ytijcjllojhpioaa", sum := "da24c994db68365d678ff8bf3077dc458ecce903f05d34654a881891c51582e9", func := "furlong/furlonglaw03.StripMends", spec := "stripMends", apart := false, narrowed := true }
def StripMendsUptoSaid : Prop := stripMendsUptoRow.holds Try.pinned (OpenSpec.upto stripMendsSpec)

/-- 'furlonglaw03.StripSizes', WHERE WHAT IT READS IS OF BULK AT MOST 1048576: true; the input reads as it did. -/
def stripSizesUptoRow : OpenClaim := { program := "ytijcjllojhpioaa", sum := "da24c994db68365d678ff8bf3077dc458ecce903f05d34654a881891c51582e9", func := "furlong/furlonglaw03.StripSizes", spec := "stripSizes", apart := false, narrowed := true }
def StripSizesUptoSaid : Prop := stripSizesUptoRow.holds Try.pinned (OpenSpec.upto stripSizesSpec)

/-- 'furlonglaw03.StripNumbers', WHERE WHAT IT READS IS OF BULK AT MOST 1048576: true; the input reads as it did. -/
def stripNumbersUptoRow : OpenClaim := { program := "ytijcjllojhpioaa", sum := "da24c994db68365d678ff8bf3077dc458ecce903f05d34654a881891c51582e9", func := "furlong/furlonglaw03.StripNumbers", spec := "stripNumbers", apart := false, narrowed := true }
def StripNumbersUptoSaid : Prop := stripNumbersUptoRow.holds Try.pinned (OpenSpec.upto stripNumbersSpec)

/-- 'furlonglaw03.StripKeeps', WHERE WHAT IT READS IS OF BULK AT MOST 1048576: true; the input reads as it did. -/
def stripKeepsUptoRow : OpenClaim := { program := "ytijcjllojhpioaa", sum := "da24c994db68365d678ff8bf3077dc458ecce903f05d34654a881891c51582e9", func := "furlong/furlonglaw03.StripKeeps", spec := "stripKeeps", apart := false, narrowed := true }
def StripKeepsUptoSaid : Prop := stripKeepsUptoRow.holds Try.pinned (OpenSpec.upto stripKeepsSpec)

/-- 'furlonglaw03.StripReads', WHERE WHAT IT READS IS OF BULK AT MOST 1048576: true; the input reads as it did. -/
def stripReadsUptoRow : OpenClaim := { program := "ytijcjllojhpioaa", sum := "da24c994db68365d678ff8bf3077dc458ecce903f05d34654a881891c51582e9", func := "furlong/furlonglaw03.StripReads", spec := "stripReads", apart := false, narrowed := true }
def StripReadsUptoSaid : Prop := stripReadsUptoRow.holds Try.pinned (OpenSpec.upto stripReadsSpec)

/-- 'furlonglaw03.StripBack', WHERE WHAT IT READS IS OF BULK AT MOST 1048576: true; the input reads as it did. -/
def stripBackUptoRow : OpenClaim := { program := "ytijcjllojhpioaa", sum := "da24c994db68365d678ff8bf3077dc458ecce903f05d34654a881891c51582e9", func := "furlong/furlonglaw03.StripBack", spec := "stripBack", apart := false, narrowed := true }
def StripBackUptoSaid : Prop := stripBackUptoRow.holds Try.pinned (OpenSpec.upto stripBackSpec)

end Rows
end Go.Proofs.Ytijcjllojhpioaa
