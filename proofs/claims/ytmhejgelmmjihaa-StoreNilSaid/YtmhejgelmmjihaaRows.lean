/-
  No cell of these rows narrows 'for every input' (looked for: loops, veiled, ifaces, maps, wideKeys, modest, calm, conditions, laid).
  DERIVED. THE GIVEN ROWS OF THIS SEAT. 5 by the template 'for every input the law returns true; each argument reads behind the call as it read before'; 0 by the template 'total and deterministic' (their statements: YtmhejgelmmjihaaTotals.lean).
  GIVEN WITH THE SEED: the statements are not yours to turn. If you find one false, say at which input.
  Laid BY PROGRAM, IN A SANDBOX (cutbox-rows.mjs): the forced cells as the released guide's own fill.sh prints them over the translation 02af6ee48d540b5c… (all of the seat's roots in one cut). By AI agents, Wed Nov 11 2026. No macro, syntax, notation, axiom, sorry.
-/
import Derived.Test.YtmhejgelmmjihaaChecked
import GoSem.Claim
import GoSem.ClaimJoined
import GoSem.ClaimMapViews
import Derived.JoinedTies
import Derived.KernelRfl
namespace Go.Proofs.Ytmhejgelmmjihaa
/- THE CELL 'sum', in the pinned program and in every row, IS THE sha256 OF THE DUMP (.gsa) THAT YtmhejgelmmjihaaProg.lean LOADS. Nothing in Lean hashes anything: it is a label: what it is worth is what the hold of that sum in a sandbox is worth. -/
noncomputable def Try.pinned : Pinned := { name := "ytmhejgelmmjihaa", sum := "02af6ee48d540b5c918472be6c7c17b0ffe87f31347debaefc34b23b5656ce92", checked := Try.checked }
namespace Rows
def none {H : Type} : Left H := { results := [], args := [] }

/-- 'furlonglaw15.StoreAny': WHATEVER THE INPUT: true; the input reads as it did. -/
def storeAnySpec : ChangeSpec := { name := "storeAny", fn := fun _ => fun
  | [d1, d2, d3, d4] => { results := [.lit (.bool true)], args := [d1, d2, d3, d4] }
  | _ => none }
def storeAnyRow : OpenClaim := { program := "ytmhejgelmmjihaa", sum := "02af6ee48d540b5c918472be6c7c17b0ffe87f31347debaefc34b23b5656ce92", func := "furlong/furlonglaw15.StoreAny", spec := "storeAny", unfollowed := true, recurses := true, apart := false }
def StoreAnySaid : Prop := storeAnyRow.holds Try.pinned (OpenSpec.ofChange storeAnySpec)

/-- ITS FALSE NEIGHBOUR: 'it returns false'. Refute it at one input. -/
def storeAnyWrong : ChangeSpec := { name := "storeAny", fn := fun _ => fun
  | [d1, d2, d3, d4] => { results := [.lit (.bool false)], args := [d1, d2, d3, d4] }
  | _ => none }
def StoreAnyWrongFalsely : Prop := storeAnyRow.holds Try.pinned (OpenSpec.ofChange storeAnyWrong)

/-- 'furlonglaw15.StoreNil': WHATEVER THE INPUT: true; the input reads as it did. -/
def storeNilSpec : ChangeSpec := { name := "storeNil", fn := fun _ => fun
  | [d] => { results := [.lit (.bool true)], args := [d] }
  | _ => none }
def storeNilRow : OpenClaim := { program := "ytmhejgelmmjihaa", sum := "02af6ee48d540b5c918472be6c7c17b0ffe87f31347debaefc34b23b5656ce92", func := "furlong/furlonglaw15.StoreNil", spec := "storeNil", unfollowed := true, recurses := true, apart := false }
def StoreNilSaid : Prop := storeNilRow.holds Try.pinned (OpenSpec.ofChange storeNilSpec)

/-- ITS FALSE NEIGHBOUR: 'it returns false'. Refute it at one input. -/
def storeNilWrong : ChangeSpec := { name := "storeNil", fn := fun _ => fun
  | [d] => { results := [.lit (.bool false)], args := [d] }
  | _ => none }
def StoreNilWrongFalsely : Prop := storeNilRow.holds Try.pinned (OpenSpec.ofChange storeNilWrong)

/-- 'furlonglaw15.StoreStale': WHATEVER THE INPUT: true; the input reads as it did. -/
def storeStaleSpec : ChangeSpec := { name := "storeStale", fn := fun _ => fun
  | [d1, d2, d3] => { results := [.lit (.bool true)], args := [d1, d2, d3] }
  | _ => none }
def storeStaleRow : OpenClaim := { program := "ytmhejgelmmjihaa", sum := "02af6ee48d540b5c918472be6c7c17b0ffe87f31347debaefc34b23b5656ce92", func := "furlong/furlonglaw15.StoreStale", spec := "storeStale", unfollowed := true, recurses := true, apart := false }
def StoreStaleSaid : Prop := storeStaleRow.holds Try.pinned (OpenSpec.ofChange storeStaleSpec)

/-- ITS FALSE NEIGHBOUR: 'it returns false'. Refute it at one input. -/
def storeStaleWrong : ChangeSpec := { name := "storeStale", fn := fun _ => fun
  | [d1, d2, d3] => { results := [.lit (.bool false)], args := [d1, d2, d3] }
  | _ => none }
def StoreStaleWrongFalsely : Prop := storeStaleRow.holds Try.pinned (OpenSpec.ofChange storeStaleWrong)

/-- 'furlonglaw15.StoreHolds': WHATEVER THE INPUT: true; the input reads as it did. -/
def storeHoldsSpec : ChangeSpec := { name := "storeHolds", fn := fun _ => fun
  | [d1, d2] => { results := [.lit (.bool true)], args := [d1, d2] }
  | _ => none }
def storeHoldsRow : OpenClaim := { program := "ytmhejgelmmjihaa", sum := "02af6ee48d540b5c918472be6c7c17b0ffe87f31347debaefc34b23b5656ce92", func := "furlong/furlonglaw15.StoreHolds", spec := "storeHolds", unfollowed := true, recurses := true, apart := false }
def StoreHoldsSaid : Prop := storeHoldsRow.holds Try.pinned (OpenSpec.ofChange storeHoldsSpec)

/-- ITS FALSE NEIGHBOUR: 'it returns false'. Refute it at one input. -/
def storeHoldsWrong : ChangeSpec := { name := "storeHolds", fn := fun _ => fun
  | [d1, d2] => { results := [.lit (.bool false)], args := [d1, d2] }
  | _ => none }
def StoreHoldsWrongFalsely : Prop := storeHoldsRow.holds Try.pinned (OpenSpec.ofChange storeHoldsWrong)

/-- 'furlonglaw15.StoreAgain': WHATEVER THE INPUT: true; the input reads as it did. -/
def storeAgainSpec : ChangeSpec := { name := "storeAgain", fn := fun _ => fun
  | [d1, d2] => { results := [.lit (.bool true)], args := [d1, d2] }
  | _ => none }
def storeAgainRow : OpenClaim := { program := "ytmhejgelmmjihaa", sum := "02af6ee48d540b5c918472be6c7c17b0ffe87f31347debaefc34b23b5656ce92", func := "furlong/furlonglaw15.StoreAgain", spec := "storeAgain", unfollowed := true, recurses := true, apart := false }
def StoreAgainSaid : Prop := storeAgainRow.holds Try.pinned (OpenSpec.ofChange storeAgainSpec)

/-- ITS FALSE NEIGHBOUR: 'it returns false'. Refute it at one input. -/
def storeAgainWrong : ChangeSpec := { name := "storeAgain", fn := fun _ => fun
  | [d1, d2] => { results := [.lit (.bool false)], args := [d1, d2] }
  | _ => none }
def StoreAgainWrongFalsely : Prop := storeAgainRow.holds Try.pinned (OpenSpec.ofChange storeAgainWrong)

/- THE SECOND FORM. 'bulk': how many values and letters a reading holds, each counted each time it is reached (what is shared counts as often as it is met; a slice's spare places count too). A statement '..UptoSaid' is the law's where the arguments, and the package variables that the reading takes, are together of bulk at most 1048576: NARROWER than '..Said'. Prove '..Said' where nothing that the law and all that it calls make is longer than what came in: it says more and counts as full. Else prove '..UptoSaid'. A law counts once. -/
mutual
def uptoBulk {H : Type} : DataW H → Nat
  | .lit (.string bytes) => bytes.length + 1
  | .lit _ => 1
  | .nil => 1
  | .ptr d => uptoBulk d + 1
  | .slice elems spare => uptoBulkAll elems + uptoBulkAll spare + 1
  | .agg parts => uptoBulkAll parts + 1
  | .iface _ d => uptoBulk d + 1
  | .map entries => uptoBulkEntries entries + 1
  | .held _ => 1
def uptoBulkAll {H : Type} : List (DataW H) → Nat
  | [] => 0
  | d :: r => uptoBulk d + uptoBulkAll r
def uptoBulkEntries {H : Type} : List (Lit × DataW H) → Nat
  | [] => 0
  | x :: r => uptoBulkEntry x + uptoBulkEntries r
def uptoBulkEntry {H : Type} : Lit × DataW H → Nat
  | (.string bytes, d) => bytes.length + uptoBulk d + 1
  | (_, d) => uptoBulk d + 1
 end
def uptoSmall : (H : Type) → List (DataW H) → Bool := fun _ ds => decide (uptoBulkAll ds ≤ 1048576)
def OpenSpec.upto (s : _root_.Go.ChangeSpec) : _root_.Go.OpenSpec := { _root_.Go.OpenSpec.ofChange s with cond := some uptoSmall }

/-- 'furlonglaw15.StoreAny', WHERE WHAT IT READS IS OF BULK AT MOST 1048576: true; the input reads as it did. -/
def storeAnyUptoRow : OpenClaim := { program := "ytmhejgelmmjihaa", sum := "02af6ee48d540b5c918472be6c7c17b0ffe87f31347debaefc34b23b5656ce92", func := "furlong/furlonglaw15.StoreAny", spec := "storeAny", unfollowed := true, recurses := true, apart := false, narrowed := true }
def StoreAnyUptoSaid : Prop := storeAnyUptoRow.holds Try.pinned (OpenSpec.upto storeAnySpec)

/-- 'furlonglaw15.StoreNil', WHERE WHAT IT READS IS OF BULK AT MOST 1048576: true; the input reads as it did. -/
def storeNilUptoRow : OpenClaim := { program := "ytmhejgelmmjihaa", sum := "02af6ee48d540b5c918472be6c7c17b0ffe87f31347debaefc34b23b5656ce92", func := "furlong/furlonglaw15.StoreNil", spec := "storeNil", unfollowed := true, recurses := true, apart := false, narrowed := true }
def StoreNilUptoSaid : Prop := storeNilUptoRow.holds Try.pinned (OpenSpec.upto storeNilSpec)

/-- 'furlonglaw15.StoreStale', WHERE WHAT IT READS IS OF BULK AT MOST 1048576: true; the input reads as it did. -/
def storeStaleUptoRow : OpenClaim := { program := "ytmhejgelmmjihaa", sum := "02af6ee48d540b5c918472be6c7c17b0ffe87f31347debaefc34b23b5656ce92", func := "furlong/furlonglaw15.StoreStale", spec := "storeStale", unfollowed := true, recurses := true, apart := false, narrowed := true }
def StoreStaleUptoSaid : Prop := storeStaleUptoRow.holds Try.pinned (OpenSpec.upto storeStaleSpec)

/-- 'furlonglaw15.StoreHolds', WHERE WHAT IT READS IS OF BULK AT MOST 1048576: true; the input reads as it did. -/
def storeHoldsUptoRow : OpenClaim := { program := "ytmhejgelmmjihaa", sum := "02af6ee48d540b5c918472be6c7c17b0ffe87f31347debaefc34b23b5656ce92", func := "furlong/furlonglaw15.StoreHolds", spec := "storeHolds", unfollowed := true, recurses := true, apart := false, narrowed := true }
def StoreHoldsUptoSaid : Prop := storeHoldsUptoRow.holds Try.pinned (OpenSpec.upto storeHoldsSpec)

/-- 'furlonglaw15.StoreAgain', WHERE WHAT IT READS IS OF BULK AT MOST 1048576: true; the input reads as it did. -/
def storeAgainUptoRow : OpenClaim := { program := "ytmhejgelmmjihaa", sum := "02af6ee48d540b5c918472be6c7c17b0ffe87f31347debaefc34b23b5656ce92", func := "furlong/furlonglaw15.StoreAgain", spec := "storeAgain", unfollowed := true, recurses := true, apart := false, narrowed := true }
def StoreAgainUptoSaid : Prop := storeAgainUptoRow.holds Try.pinned (OpenSpec.upto storeAgainSpec)

end Rows
end Go.Proofs.Ytmhejgelmmjihaa
