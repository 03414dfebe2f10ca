/-
  No cell of these rows narrows 'for every input' (looked for: loops, veiled, ifaces, maps, wideKeys, modest, calm, conditions, laid).
  DERIVED. THE GIVEN ROWS OF THIS SEAT. 7 by the template 'for every input the law returns true; each argument reads behind the call as it read before'; 0 by the template 'total and deterministic' (their statements: YtmdfipahbhbgjaaTotals.lean).
  GIVEN WITH THE SEED: the statements are not yours to turn. If you find one false, say at which input.
  Laid BY PROGRAM, IN A SANDBOX (cutbox-rows.mjs): the forced cells as the released guide's own fill.sh prints them over the translation b927ffb850902b18… (all of the seat's roots in one cut). By AI agents, Wed Nov 11 2026. No macro, syntax, notation, axiom, sorry.
-/
import Derived.Test.YtmdfipahbhbgjaaChecked
import GoSem.Claim
import GoSem.ClaimJoined
import GoSem.ClaimMapViews
import Derived.JoinedTies
import Derived.KernelRfl
namespace Go.Proofs.Ytmdfipahbhbgjaa
/- THE CELL 'sum', in the pinned program and in every row, IS THE sha256 OF THE DUMP (.gsa) THAT YtmdfipahbhbgjaaProg.lean LOADS. Nothing in Lean hashes anything: it is a label: what it is worth is what the hold of that sum in a sandbox is worth. -/
noncomputable def Try.pinned : Pinned := { name := "ytmdfipahbhbgjaa", sum := "b927ffb850902b18d7c60c9e945dc2b2344bcb1177f75c7904f4361c388c238e", checked := Try.checked }
namespace Rows
def none {H : Type} : Left H := { results := [], args := [] }

/-- 'furlonglaw10.CommandEntries': WHATEVER THE INPUT: true; the input reads as it did. -/
def commandEntriesSpec : ChangeSpec := { name := "commandEntries", fn := fun _ => fun
  | [d] => { results := [.lit (.bool true)], args := [d] }
  | _ => none }
def commandEntriesRow : OpenClaim := { program := "ytmdfipahbhbgjaa", sum := "b927ffb850902b18d7c60c9e945dc2b2344bcb1177f75c7904f4361c388c238e", func := "furlong/furlonglaw10.CommandEntries", spec := "commandEntries", unfollowed := true, recurses := true, apart := false }
def CommandEntriesSaid : Prop := commandEntriesRow.holds Try.pinned (OpenSpec.ofChange commandEntriesSpec)

/-- ITS FALSE NEIGHBOUR: 'it returns false'. Refute it at one input. -/
def commandEntriesWrong : ChangeSpec := { name := "commandEntries", fn := fun _ => fun
  | [d] => { results := [.lit (.bool false)], args := [d] }
  | _ => none }
def CommandEntriesWrongFalsely : Prop := commandEntriesRow.holds Try.pinned (OpenSpec.ofChange commandEntriesWrong)

/-- 'furlonglaw10.CommandCuts': WHATEVER THE INPUT: true; the input reads as it did. -/
def commandCutsSpec : ChangeSpec := { name := "commandCuts", fn := fun _ => fun
  | [d1, d2, d3] => { results := [.lit (.bool true)], args := [d1, d2, d3] }
  | _ => none }
def commandCutsRow : OpenClaim := { program := "ytmdfipahbhbgjaa", sum := "b927ffb850902b18d7c60c9e945dc2b2344bcb1177f75c7904f4361c388c238e", func := "furlong/furlonglaw10.CommandCuts", spec := "commandCuts", unfollowed := true, recurses := true, apart := false }
def CommandCutsSaid : Prop := commandCutsRow.holds Try.pinned (OpenSpec.ofChange commandCutsSpec)

/-- ITS FALSE NEIGHBOUR: 'it returns false'. Refute it at one input. -/
def commandCutsWrong : ChangeSpec := { name := "commandCuts", fn := fun _ => fun
  | [d1, d2, d3] => { results := [.lit (.bool false)], args := [d1, d2, d3] }
  | _ => none }
def CommandCutsWrongFalsely : Prop := commandCutsRow.holds Try.pinned (OpenSpec.ofChange commandCutsWrong)

/-- 'furlonglaw10.CommandApart': WHATEVER THE INPUT: true; the input reads as it did. -/
def commandApartSpec : ChangeSpec := { name := "commandApart", fn := fun _ => fun
  | [d1, d2] => { results := [.lit (.bool true)], args := [d1, d2] }
  | _ => none }
def commandApartRow : OpenClaim := { program := "ytmdfipahbhbgjaa", sum := "b927ffb850902b18d7c60c9e945dc2b2344bcb1177f75c7904f4361c388c238e", func := "furlong/furlonglaw10.CommandApart", spec := "commandApart", unfollowed := true, recurses := true, apart := false }
def CommandApartSaid : Prop := commandApartRow.holds Try.pinned (OpenSpec.ofChange commandApartSpec)

/-- ITS FALSE NEIGHBOUR: 'it returns false'. Refute it at one input. -/
def commandApartWrong : ChangeSpec := { name := "commandApart", fn := fun _ => fun
  | [d1, d2] => { results := [.lit (.bool false)], args := [d1, d2] }
  | _ => none }
def CommandApartWrongFalsely : Prop := commandApartRow.holds Try.pinned (OpenSpec.ofChange commandApartWrong)

/-- 'furlonglaw10.CommandReads': WHATEVER THE INPUT: true; the input reads as it did. -/
def commandReadsSpec : ChangeSpec := { name := "commandReads", fn := fun _ => fun
  | [d] => { results := [.lit (.bool true)], args := [d] }
  | _ => none }
def commandReadsRow : OpenClaim := { program := "ytmdfipahbhbgjaa", sum := "b927ffb850902b18d7c60c9e945dc2b2344bcb1177f75c7904f4361c388c238e", func := "furlong/furlonglaw10.CommandReads", spec := "commandReads", unfollowed := true, recurses := true, apart := false }
def CommandReadsSaid : Prop := commandReadsRow.holds Try.pinned (OpenSpec.ofChange commandReadsSpec)

/-- ITS FALSE NEIGHBOUR: 'it returns false'. Refute it at one input. -/
def commandReadsWrong : ChangeSpec := { name := "commandReads", fn := fun _ => fun
  | [d] => { results := [.lit (.bool false)], args := [d] }
  | _ => none }
def CommandReadsWrongFalsely : Prop := commandReadsRow.holds Try.pinned (OpenSpec.ofChange commandReadsWrong)

/-- 'furlonglaw10.CommandAnswers': WHATEVER THE INPUT: true; the input reads as it did. -/
def commandAnswersSpec : ChangeSpec := { name := "commandAnswers", fn := fun _ => fun
  | [d] => { results := [.lit (.bool true)], args := [d] }
  | _ => none }
def commandAnswersRow : OpenClaim := { program := "ytmdfipahbhbgjaa", sum := "b927ffb850902b18d7c60c9e945dc2b2344bcb1177f75c7904f4361c388c238e", func := "furlong/furlonglaw10.CommandAnswers", spec := "commandAnswers", unfollowed := true, recurses := true, apart := false }
def CommandAnswersSaid : Prop := commandAnswersRow.holds Try.pinned (OpenSpec.ofChange commandAnswersSpec)

/-- ITS FALSE NEIGHBOUR: 'it returns false'. Refute it at one input. -/
def commandAnswersWrong : ChangeSpec := { name := "commandAnswers", fn := fun _ => fun
  | [d] => { results := [.lit (.bool false)], args := [d] }
  | _ => none }
def CommandAnswersWrongFalsely : Prop := commandAnswersRow.holds Try.pinned (OpenSpec.ofChange commandAnswersWrong)

/-- 'furlonglaw10.CommandStates': WHATEVER THE INPUT: true; the input reads as it did. -/
def commandStatesSpec : ChangeSpec := { name := "commandStates", fn := fun _ => fun
  | [d] => { results := [.lit (.bool true)], args := [d] }
  | _ => none }
def commandStatesRow : OpenClaim := { program := "ytmdfipahbhbgjaa", sum := "b927ffb850902b18d7c60c9e945dc2b2344bcb1177f75c7904f4361c388c238e", func := "furlong/furlonglaw10.CommandStates", spec := "commandStates", unfollowed := true, recurses := true, apart := false }
def CommandStatesSaid : Prop := commandStatesRow.holds Try.pinned (OpenSpec.ofChange commandStatesSpec)

/-- ITS FALSE NEIGHBOUR: 'it returns false'. Refute it at one input. -/
def commandStatesWrong : ChangeSpec := { name := "commandStates", fn := fun _ => fun
  | [d] => { results := [.lit (.bool false)], args := [d] }
  | _ => none }
def CommandStatesWrongFalsely : Prop := commandStatesRow.holds Try.pinned (OpenSpec.ofChange commandStatesWrong)

/-- 'furlonglaw10.CommandBack': WHATEVER THE INPUT: true; the input reads as it did. -/
def commandBackSpec : ChangeSpec := { name := "commandBack", fn := fun _ => fun
  | [d1, d2, d3, d4] => { results := [.lit (.bool true)], args := [d1, d2, d3, d4] }
  | _ => none }
def commandBackRow : OpenClaim := { program := "ytmdfipahbhbgjaa", sum := "b927ffb850902b18d7c60c9e945dc2b2344bcb1177f75c7904f4361c388c238e", func := "furlong/furlonglaw10.CommandBack", spec := "commandBack", unfollowed := true, recurses := true, apart := false }
def CommandBackSaid : Prop := commandBackRow.holds Try.pinned (OpenSpec.ofChange commandBackSpec)

/-- ITS FALSE NEIGHBOUR: 'it returns false'. Refute it at one input. -/
def commandBackWrong : ChangeSpec := { name := "commandBack", fn := fun _ => fun
  | [d1, d2, d3, d4] => { results := [.lit (.bool false)], args := [d1, d2, d3, d4] }
  | _ => none }
def CommandBackWrongFalsely : Prop := commandBackRow.holds Try.pinned (OpenSpec.ofChange commandBackWrong)

/- THE SECOND FORM. 'bulk': how many values and letters a reading holds, each counted each time it is reached (what is shared counts as often as it is met; a slice's spare places count too). A statement '..UptoSaid' is the law's where the arguments, and the package variables that the reading takes, are together of bulk at most 1048576: NARROWER than '..Said'. Prove '..Said' where nothing that the law and all that it calls make is longer than what came in: it says more and counts as full. Else prove '..UptoSaid'. A law counts once. -/
mutual
def uptoBulk {H : Type} : DataW H → Nat
  | .lit (.string bytes) => bytes.length + 1
  | .lit _ => 1
  | .nil => 1
  | .ptr d => uptoBulk d + 1
  | .slice elems spare => uptoBulkAll elems + uptoBulkAll spare + 1
  | .agg parts => uptoBulkAll parts + 1
  | .iface _ d => uptoBulk d + 1
  | .map entries => uptoBulkEntries entries + 1
  | .held _ => 1
def uptoBulkAll {H : Type} : List (DataW H) → Nat
  | [] => 0
  | d :: r => uptoBulk d + uptoBulkAll r
def uptoBulkEntries {H : Type} : List (Lit × DataW H) → Nat
  | [] => 0
  | x :: r => uptoBulkEntry x + uptoBulkEntries r
def uptoBulkEntry {H : Type} : Lit × DataW H → Nat
  | (.string bytes, d) => bytes.length + uptoBulk d + 1
  | (_, d) => uptoBulk d + 1
 end
def uptoSmall : (H : Type) → List (DataW H) → Bool := fun _ ds => decide (uptoBulkAll ds ≤ 1048576)
def OpenSpec.upto (s : _root_.Go.ChangeSpec) : _root_.Go.OpenSpec := { _root_.Go.OpenSpec.ofChange s with cond := some uptoSmall }

/-- 'furlonglaw10.CommandEntries', WHERE WHAT IT READS IS OF BULK AT MOST 1048576: true; the input reads as it did. -/
def commandEntriesUptoRow : OpenClaim := { program := "ytmdfipahbhbgjaa", sum := "b927ffb850902b18d7c60c9e945dc2b2344bcb1177f75c7904f4361c388c238e", func := "furlong/furlonglaw10.CommandEntries", spec := "commandEntries", unfollowed := true, recurses := true, apart := false, narrowed := true }
def CommandEntriesUptoSaid : Prop := commandEntriesUptoRow.holds Try.pinned (OpenSpec.upto commandEntriesSpec)

/-- 'furlonglaw10.CommandCuts', WHERE WHAT IT READS IS OF BULK AT MOST 1048576: true; the input reads as it did. -/
def commandCutsUptoRow : OpenClaim := { program := "ytmdfipahbhbgjaa", sum := "b927ffb850902b18d7c60c9e945dc2b2344bcb1177f75c7904f4361c388c238e", func := "furlong/furlonglaw10.CommandCuts", spec := "commandCuts", unfollowed := true, recurses := true, apart := false, narrowed := true }
def CommandCutsUptoSaid : Prop := commandCutsUptoRow.holds Try.pinned (OpenSpec.upto commandCutsSpec)

/-- 'furlonglaw10.CommandApart', WHERE WHAT IT READS IS OF BULK AT MOST 1048576: true; the input reads as it did. -/
def commandApartUptoRow : OpenClaim := { program := "ytmdfipahbhbgjaa", sum := "b927ffb850902b18d7c60c9e945dc2b2344bcb1177f75c7904f4361c388c238e", func := "furlong/furlonglaw10.CommandApart", spec := "commandApart", unfollowed := true, recurses := true, apart := false, narrowed := true }
def CommandApartUptoSaid : Prop := commandApartUptoRow.holds Try.pinned (OpenSpec.upto commandApartSpec)

/-- 'furlonglaw10.CommandReads', WHERE WHAT IT READS IS OF BULK AT MOST 1048576: true; the input reads as it did. -/
def commandReadsUptoRow : OpenClaim := { program := "ytmdfipahbhbgjaa", sum := "b927ffb850902b18d7c60c9e945dc2b2344bcb1177f75c7904f4361c388c238e", func := "furlong/furlonglaw10.CommandReads", spec := "commandReads", unfollowed := true, recurses := true, apart := false, narrowed := true }
def CommandReadsUptoSaid : Prop := commandReadsUptoRow.holds Try.pinned (OpenSpec.upto commandReadsSpec)

/-- 'furlonglaw10.CommandAnswers', WHERE WHAT IT READS IS OF BULK AT MOST 1048576: true; the input reads as it did. -/
def commandAnswersUptoRow : OpenClaim := { program := "ytmdfipahbhbgjaa", sum := "b927ffb850902b18d7c60c9e945dc2b2344bcb1177f75c7904f4361c388c238e", func := "furlong/furlonglaw10.CommandAnswers", spec := "commandAnswers", unfollowed := true, recurses := true, apart := false, narrowed := true }
def CommandAnswersUptoSaid : Prop := commandAnswersUptoRow.holds Try.pinned (OpenSpec.upto commandAnswersSpec)

/-- 'furlonglaw10.CommandStates', WHERE WHAT IT READS IS OF BULK AT MOST 1048576: true; the input reads as it did. -/
def commandStatesUptoRow : OpenClaim := { program := "ytmdfipahbhbgjaa", sum := "b927ffb850902b18d7c60c9e945dc2b2344bcb1177f75c7904f4361c388c238e", func := "furlong/furlonglaw10.CommandStates", spec := "commandStates", unfollowed := true, recurses := true, apart := false, narrowed := true }
def CommandStatesUptoSaid : Prop := commandStatesUptoRow.holds Try.pinned (OpenSpec.upto commandStatesSpec)

/-- 'furlonglaw10.CommandBack', WHERE WHAT IT READS IS OF BULK AT MOST 1048576: true; the input reads as it did. -/
def commandBackUptoRow : OpenClaim := { program := "ytmdfipahbhbgjaa", sum := "b927ffb850902b18d7c60c9e945dc2b2344bcb1177f75c7904f4361c388c238e", func := "furlong/furlonglaw10.CommandBack", spec := "commandBack", unfollowed := true, recurses := true, apart := false, narrowed := true }
def CommandBackUptoSaid : Prop := commandBackUptoRow.holds Try.pinned (OpenSpec.upto commandBackSpec)

end Rows
end Go.Proofs.Ytmdfipahbhbgjaa
