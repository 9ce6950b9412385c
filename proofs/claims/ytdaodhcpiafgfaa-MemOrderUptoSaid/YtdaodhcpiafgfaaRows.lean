/-
  No cell of these rows narrows 'for every input' (looked for: loops, veiled, ifaces, maps, wideKeys, modest, calm, conditions, laid).
  DERIVED. THE GIVEN ROWS OF THIS SEAT. 9 by the template 'for every input the law returns true; each argument reads behind the call as it read before'; 0 by the template 'total and deterministic' (their statements: YtdaodhcpiafgfaaTotals.lean).
  GIVEN WITH THE SEED: the statements are not yours to turn. If you find one false, say at which input.
  Laid BY PROGRAM, IN A SANDBOX (cutbox-rows.mjs): the forced cells as the released guide's own fill.sh prints them over the translation daf476b14d705306… (all of the seat's roots in one cut). By AI agents, Wed Nov 11 2026. No macro, syntax, notation, axiom, sorry.
-/
import Derived.Test.YtdaodhcpiafgfaaChecked
import GoSem.Claim
import GoSem.ClaimJoined
import GoSem.ClaimMapViews
import Derived.JoinedTies
import Derived.KernelRfl
namespace Go.Proofs.Ytdaodhcpiafgfaa
/- THE CELL 'sum', in the pinned program and in every row, IS THE sha256 OF THE DUMP (.gsa) THAT YtdaodhcpiafgfaaProg.lean LOADS. Nothing in Lean hashes anything: it is a label: what it is worth is what the hold of that sum in a sandbox is worth. -/
noncomputable def Try.pinned : Pinned := { name := "ytdaodhcpiafgfaa", sum := "daf476b14d705306fa2304adf9b084e8f371cd52a793308a42b056c5dc2108b3", checked := Try.checked }
namespace Rows
def none {H : Type} : Left H := { results := [], args := [] }

/-- 'wherrylaw08.MergeAll': WHATEVER THE INPUT: true; the input reads as it did. -/
def mergeAllSpec : ChangeSpec := { name := "mergeAll", fn := fun _ => fun
  | [d] => { results := [.lit (.bool true)], args := [d] }
  | _ => none }
def mergeAllRow : OpenClaim := { program := "ytdaodhcpiafgfaa", sum := "daf476b14d705306fa2304adf9b084e8f371cd52a793308a42b056c5dc2108b3", func := "wherry/wherrylaw08.MergeAll", spec := "mergeAll", unfollowed := true, recurses := true, apart := false }
def MergeAllSaid : Prop := mergeAllRow.holds Try.pinned (OpenSpec.ofChange mergeAllSpec)

/-- ITS FALSE NEIGHBOUR: 'it returns false'. Refute it at one input. -/
def mergeAllWrong : ChangeSpec := { name := "mergeAll", fn := fun _ => fun
  | [d] => { results := [.lit (.bool false)], args := [d] }
  | _ => none }
def MergeAllWrongFalsely : Prop := mergeAllRow.holds Try.pinned (OpenSpec.ofChange mergeAllWrong)

/-- 'wherrylaw08.MergeStops': WHATEVER THE INPUT: true; the input reads as it did. -/
def mergeStopsSpec : ChangeSpec := { name := "mergeStops", fn := fun _ => fun
  | [d1, d2] => { results := [.lit (.bool true)], args := [d1, d2] }
  | _ => none }
def mergeStopsRow : OpenClaim := { program := "ytdaodhcpiafgfaa", sum := "daf476b14d705306fa2304adf9b084e8f371cd52a793308a42b056c5dc2108b3", func := "wherry/wherrylaw08.MergeStops", spec := "mergeStops", unfollowed := true, recurses := true, apart := false }
def MergeStopsSaid : Prop := mergeStopsRow.holds Try.pinned (OpenSpec.ofChange mergeStopsSpec)

/-- ITS FALSE NEIGHBOUR: 'it returns false'. Refute it at one input. -/
def mergeStopsWrong : ChangeSpec := { name := "mergeStops", fn := fun _ => fun
  | [d1, d2] => { results := [.lit (.bool false)], args := [d1, d2] }
  | _ => none }
def MergeStopsWrongFalsely : Prop := mergeStopsRow.holds Try.pinned (OpenSpec.ofChange mergeStopsWrong)

/-- 'wherrylaw08.MergeNested': WHATEVER THE INPUT: true; the input reads as it did. -/
def mergeNestedSpec : ChangeSpec := { name := "mergeNested", fn := fun _ => fun
  | [d1, d2] => { results := [.lit (.bool true)], args := [d1, d2] }
  | _ => none }
def mergeNestedRow : OpenClaim := { program := "ytdaodhcpiafgfaa", sum := "daf476b14d705306fa2304adf9b084e8f371cd52a793308a42b056c5dc2108b3", func := "wherry/wherrylaw08.MergeNested", spec := "mergeNested", unfollowed := true, recurses := true, apart := false }
def MergeNestedSaid : Prop := mergeNestedRow.holds Try.pinned (OpenSpec.ofChange mergeNestedSpec)

/-- ITS FALSE NEIGHBOUR: 'it returns false'. Refute it at one input. -/
def mergeNestedWrong : ChangeSpec := { name := "mergeNested", fn := fun _ => fun
  | [d1, d2] => { results := [.lit (.bool false)], args := [d1, d2] }
  | _ => none }
def MergeNestedWrongFalsely : Prop := mergeNestedRow.holds Try.pinned (OpenSpec.ofChange mergeNestedWrong)

/-- 'wherrylaw08.MergeKeys': WHATEVER THE INPUT: true; the input reads as it did. -/
def mergeKeysSpec : ChangeSpec := { name := "mergeKeys", fn := fun _ => fun
  | [d] => { results := [.lit (.bool true)], args := [d] }
  | _ => none }
def mergeKeysRow : OpenClaim := { program := "ytdaodhcpiafgfaa", sum := "daf476b14d705306fa2304adf9b084e8f371cd52a793308a42b056c5dc2108b3", func := "wherry/wherrylaw08.MergeKeys", spec := "mergeKeys", unfollowed := true, recurses := true, apart := false }
def MergeKeysSaid : Prop := mergeKeysRow.holds Try.pinned (OpenSpec.ofChange mergeKeysSpec)

/-- ITS FALSE NEIGHBOUR: 'it returns false'. Refute it at one input. -/
def mergeKeysWrong : ChangeSpec := { name := "mergeKeys", fn := fun _ => fun
  | [d] => { results := [.lit (.bool false)], args := [d] }
  | _ => none }
def MergeKeysWrongFalsely : Prop := mergeKeysRow.holds Try.pinned (OpenSpec.ofChange mergeKeysWrong)

/-- 'wherrylaw05.MemStops': WHATEVER THE INPUT: true; the input reads as it did. -/
def memStopsSpec : ChangeSpec := { name := "memStops", fn := fun _ => fun
  | [d1, d2, d3] => { results := [.lit (.bool true)], args := [d1, d2, d3] }
  | _ => none }
def memStopsRow : OpenClaim := { program := "ytdaodhcpiafgfaa", sum := "daf476b14d705306fa2304adf9b084e8f371cd52a793308a42b056c5dc2108b3", func := "wherry/wherrylaw05.MemStops", spec := "memStops", unfollowed := true, recurses := true, apart := false }
def MemStopsSaid : Prop := memStopsRow.holds Try.pinned (OpenSpec.ofChange memStopsSpec)

/-- ITS FALSE NEIGHBOUR: 'it returns false'. Refute it at one input. -/
def memStopsWrong : ChangeSpec := { name := "memStops", fn := fun _ => fun
  | [d1, d2, d3] => { results := [.lit (.bool false)], args := [d1, d2, d3] }
  | _ => none }
def MemStopsWrongFalsely : Prop := memStopsRow.holds Try.pinned (OpenSpec.ofChange memStopsWrong)

/-- 'wherrylaw05.MemOrder': WHATEVER THE INPUT: true; the input reads as it did. -/
def memOrderSpec : ChangeSpec := { name := "memOrder", fn := fun _ => fun
  | [d1, d2] => { results := [.lit (.bool true)], args := [d1, d2] }
  | _ => none }
def memOrderRow : OpenClaim := { program := "ytdaodhcpiafgfaa", sum := "daf476b14d705306fa2304adf9b084e8f371cd52a793308a42b056c5dc2108b3", func := "wherry/wherrylaw05.MemOrder", spec := "memOrder", unfollowed := true, recurses := true, apart := false }
def MemOrderSaid : Prop := memOrderRow.holds Try.pinned (OpenSpec.ofChange memOrderSpec)

/-- ITS FALSE NEIGHBOUR: 'it returns false'. Refute it at one input. -/
def memOrderWrong : ChangeSpec := { name := "memOrder", fn := fun _ => fun
  | [d1, d2] => { results := [.lit (.bool false)], args := [d1, d2] }
  | _ => none }
def MemOrderWrongFalsely : Prop := memOrderRow.holds Try.pinned (OpenSpec.ofChange memOrderWrong)

/-- 'wherrylaw05.MemLast': WHATEVER THE INPUT: true; the input reads as it did. -/
def memLastSpec : ChangeSpec := { name := "memLast", fn := fun _ => fun
  | [d] => { results := [.lit (.bool true)], args := [d] }
  | _ => none }
def memLastRow : OpenClaim := { program := "ytdaodhcpiafgfaa", sum := "daf476b14d705306fa2304adf9b084e8f371cd52a793308a42b056c5dc2108b3", func := "wherry/wherrylaw05.MemLast", spec := "memLast", unfollowed := true, recurses := true, apart := false }
def MemLastSaid : Prop := memLastRow.holds Try.pinned (OpenSpec.ofChange memLastSpec)

/-- ITS FALSE NEIGHBOUR: 'it returns false'. Refute it at one input. -/
def memLastWrong : ChangeSpec := { name := "memLast", fn := fun _ => fun
  | [d] => { results := [.lit (.bool false)], args := [d] }
  | _ => none }
def MemLastWrongFalsely : Prop := memLastRow.holds Try.pinned (OpenSpec.ofChange memLastWrong)

/-- 'wherrylaw08.MergeSome': WHATEVER THE INPUT: true; the input reads as it did. -/
def mergeSomeSpec : ChangeSpec := { name := "mergeSome", fn := fun _ => fun
  | [d1, d2, d3] => { results := [.lit (.bool true)], args := [d1, d2, d3] }
  | _ => none }
def mergeSomeRow : OpenClaim := { program := "ytdaodhcpiafgfaa", sum := "daf476b14d705306fa2304adf9b084e8f371cd52a793308a42b056c5dc2108b3", func := "wherry/wherrylaw08.MergeSome", spec := "mergeSome", unfollowed := true, recurses := true, apart := false }
def MergeSomeSaid : Prop := mergeSomeRow.holds Try.pinned (OpenSpec.ofChange mergeSomeSpec)

/-- ITS FALSE NEIGHBOUR: 'it returns false'. Refute it at one input. -/
def mergeSomeWrong : ChangeSpec := { name := "mergeSome", fn := fun _ => fun
  | [d1, d2, d3] => { results := [.lit (.bool false)], args := [d1, d2, d3] }
  | _ => none }
def MergeSomeWrongFalsely : Prop := mergeSomeRow.holds Try.pinned (OpenSpec.ofChange mergeSomeWrong)

/-- 'wherrylaw05.MemRuns': WHATEVER THE INPUT: true; the input reads as it did. -/
def memRunsSpec : ChangeSpec := { name := "memRuns", fn := fun _ => fun
  | [d1, d2] => { results := [.lit (.bool true)], args := [d1, d2] }
  | _ => none }
def memRunsRow : OpenClaim := { program := "ytdaodhcpiafgfaa", sum := "daf476b14d705306fa2304adf9b084e8f371cd52a793308a42b056c5dc2108b3", func := "wherry/wherrylaw05.MemRuns", spec := "memRuns", unfollowed := true, recurses := true, apart := false }
def MemRunsSaid : Prop := memRunsRow.holds Try.pinned (OpenSpec.ofChange memRunsSpec)

/-- ITS FALSE NEIGHBOUR: 'it returns false'. Refute it at one input. -/
def memRunsWrong : ChangeSpec := { name := "memRuns", fn := fun _ => fun
  | [d1, d2] => { results := [.lit (.bool false)], args := [d1, d2] }
  | _ => none }
def MemRunsWrongFalsely : Prop := memRunsRow.holds Try.pinned (OpenSpec.ofChange memRunsWrong)

/- THE SECOND FORM. 'bulk': how many values and letters a reading holds, each counted each time it is reached (what is shared counts as often as it is met; a slice's spare places count too). A statement '..UptoSaid' is the law's where the arguments, and the package variables that the reading takes, are together of bulk at most 1048576: NARROWER than '..Said'. Prove '..Said' where nothing that the law and all that it calls make is longer than what came in: it says more and counts as full. Else prove '..UptoSaid'. A law counts once. -/
mutual
def uptoBulk {H : Type} : DataW H → Nat
  | .lit (.string bytes) => bytes.length + 1
  | .lit _ => 1
  | .nil => 1
  | .ptr d => uptoBulk d + 1
  | .slice elems spare => uptoBulkAll elems + uptoBulkAll spare + 1
  | .agg parts => uptoBulkAll parts + 1
  | .iface _ d => uptoBulk d + 1
  | .map entries => uptoBulkEntries entries + 1
  | .held _ => 1
def uptoBulkAll {H : Type} : List (DataW H) → Nat
  | [] => 0
  | d :: r => uptoBulk d + uptoBulkAll r
def uptoBulkEntries {H : Type} : List (Lit × DataW H) → Nat
  | [] => 0
  | x :: r => uptoBulkEntry x + uptoBulkEntries r
def uptoBulkEntry {H : Type} : Lit × DataW H → Nat
  | (.string bytes, d) => bytes.length + uptoBulk d + 1
  | (_, d) => uptoBulk d + 1
 end
def uptoSmall : (H : Type) → List (DataW H) → Bool := fun _ ds => decide (uptoBulkAll ds ≤ 1048576)
def OpenSpec.upto (s : _root_.Go.ChangeSpec) : _root_.Go.OpenSpec := { _root_.Go.OpenSpec.ofChange s with cond := some uptoSmall }

/-- 'wherrylaw08.MergeAll', WHERE WHAT IT READS IS OF BULK AT MOST 1048576: true; the input reads as it did. -/
def mergeAllUptoRow : OpenClaim := { program := "ytdaodhcpiafgfaa", sum := "daf476b14d705306fa2304adf9b084e8f371cd52a793308a42b056c5dc2108b3", func := "wherry/wherrylaw08.MergeAll", spec := "mergeAll", unfollowed := true, recurses := true, apart := false, narrowed := true }
def MergeAllUptoSaid : Prop := mergeAllUptoRow.holds Try.pinned (OpenSpec.upto mergeAllSpec)

/-- 'wherrylaw08.MergeStops', WHERE WHAT IT READS IS OF BULK AT MOST 1048576: true; the input reads as it did. -/
def mergeStopsUptoRow : OpenClaim := { program := "ytdaodhcpiafgfaa", sum := "daf476b14d705306fa2304adf9b084e8f371cd52a793308a42b056c5dc2108b3", func := "wherry/wherrylaw08.MergeStops", spec := "mergeStops", unfollowed := true, recurses := true, apart := false, narrowed := true }
def MergeStopsUptoSaid : Prop := mergeStopsUptoRow.holds Try.pinned (OpenSpec.upto mergeStopsSpec)

/-- 'wherrylaw08.MergeNested', WHERE WHAT IT READS IS OF BULK AT MOST 1048576: true; the input reads as it did. -/
def mergeNestedUptoRow : OpenClaim := { program := "ytdaodhcpiafgfaa", sum := "daf476b14d705306fa2304adf9b084e8f371cd52a793308a42b056c5dc2108b3", func := "wherry/wherrylaw08.MergeNested", spec := "mergeNested", unfollowed := true, recurses := true, apart := false, narrowed := true }
def MergeNestedUptoSaid : Prop := mergeNestedUptoRow.holds Try.pinned (OpenSpec.upto mergeNestedSpec)

/-- 'wherrylaw08.MergeKeys', WHERE WHAT IT READS IS OF BULK AT MOST 1048576: true; the input reads as it did. -/
def mergeKeysUptoRow : OpenClaim := { program := "ytdaodhcpiafgfaa", sum := "daf476b14d705306fa2304adf9b084e8f371cd52a793308a42b056c5dc2108b3", func := "wherry/wherrylaw08.MergeKeys", spec := "mergeKeys", unfollowed := true, recurses := true, apart := false, narrowed := true }
def MergeKeysUptoSaid : Prop := mergeKeysUptoRow.holds Try.pinned (OpenSpec.upto mergeKeysSpec)

/-- 'wherrylaw05.MemStops', WHERE WHAT IT READS IS OF BULK AT MOST 1048576: true; the input reads as it did. -/
def memStopsUptoRow : OpenClaim := { program := "ytdaodhcpiafgfaa", sum := "daf476b14d705306fa2304adf9b084e8f371cd52a793308a42b056c5dc2108b3", func := "wherry/wherrylaw05.MemStops", spec := "memStops", unfollowed := true, recurses := true, apart := false, narrowed := true }
def MemStopsUptoSaid : Prop := memStopsUptoRow.holds Try.pinned (OpenSpec.upto memStopsSpec)

/-- 'wherrylaw05.MemOrder', WHERE WHAT IT READS IS OF BULK AT MOST 1048576: true; the input reads as it did. -/
def memOrderUptoRow : OpenClaim := { program := "ytdaodhcpiafgfaa", sum := "daf476b14d705306fa2304adf9b084e8f371cd52a793308a42b056c5dc2108b3", func := "wherry/wherrylaw05.MemOrder", spec := "memOrder", unfollowed := true, recurses := true, apart := false, narrowed := true }
def MemOrderUptoSaid : Prop := memOrderUptoRow.holds Try.pinned (OpenSpec.upto memOrderSpec)

/-- 'wherrylaw05.MemLast', WHERE WHAT IT READS IS OF BULK AT MOST 1048576: true; the input reads as it did. -/
def memLastUptoRow : OpenClaim := { program := "ytdaodhcpiafgfaa", sum := "daf476b14d705306fa2304adf9b084e8f371cd52a793308a42b056c5dc2108b3", func := "wherry/wherrylaw05.MemLast", spec := "memLast", unfollowed := true, recurses := true, apart := false, narrowed := true }
def MemLastUptoSaid : Prop := memLastUptoRow.holds Try.pinned (OpenSpec.upto memLastSpec)

/-- 'wherrylaw08.MergeSome', WHERE WHAT IT READS IS OF BULK AT MOST 1048576: true; the input reads as it did. -/
def mergeSomeUptoRow : OpenClaim := { program := "ytdaodhcpiafgfaa", sum := "daf476b14d705306fa2304adf9b084e8f371cd52a793308a42b056c5dc2108b3", func := "wherry/wherrylaw08.MergeSome", spec := "mergeSome", unfollowed := true, recurses := true, apart := false, narrowed := true }
def MergeSomeUptoSaid : Prop := mergeSomeUptoRow.holds Try.pinned (OpenSpec.upto mergeSomeSpec)

/-- 'wherrylaw05.MemRuns', WHERE WHAT IT READS IS OF BULK AT MOST 1048576: true; the input reads as it did. -/
def memRunsUptoRow : OpenClaim := { program := "ytdaodhcpiafgfaa", sum := "daf476b14d705306fa2304adf9b084e8f371cd52a793308a42b056c5dc2108b3", func := "wherry/wherrylaw05.MemRuns", spec := "memRuns", unfollowed := true, recurses := true, apart := false, narrowed := true }
def MemRunsUptoSaid : Prop := memRunsUptoRow.holds Try.pinned (OpenSpec.upto memRunsSpec)

end Rows
end Go.Proofs.Ytdaodhcpiafgfaa
