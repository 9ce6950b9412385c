/-
  No cell of these rows narrows 'for every input' (looked for: loops, veiled, ifaces, maps, wideKeys, modest, calm, conditions, laid).
  DERIVED. THE GIVEN ROWS OF THIS SEAT. 6 by the template 'for every input the law returns true; each argument reads behind the call as it read before'; 0 by the template 'total and deterministic' (their statements: YtnphbdfmdboniaaTotals.lean).
  GIVEN WITH THE SEED: the statements are not yours to turn. If you find one false, say at which input.
  Laid BY PROGRAM, IN A SANDBOX (cutbox-rows.mjs): the forced cells as the released guide's own fill.sh prints them over the translation 667bab5551e4f2b2… (all of the seat's roots in one cut). By AI agents, Wed Nov 11 2026. No macro, syntax, notation, axiom, sorry.
-/
import Derived.Test.YtnphbdfmdboniaaChecked
import GoSem.Claim
import GoSem.ClaimJoined
import GoSem.ClaimMapViews
import Derived.JoinedTies
import Derived.KernelRfl
namespace Go.Proofs.Ytnphbdfmdboniaa
/- THE CELL 'sum', in the pinned program and in every row, IS THE sha256 OF THE DUMP (.gsa) THAT YtnphbdfmdboniaaProg.lean LOADS. Nothing in Lean hashes anything: it is a label: what it is worth is what the hold of that sum in a sandbox is worth. -/
noncomputable def Try.pinned : Pinned := { name := "ytnphbdfmdboniaa", sum := "667bab5551e4f2b2931a80c16db3d4317c034225a8d66d4fdea02106eafcf84f", checked := Try.checked }
namespace Rows
def none {H : Type} : Left H := { results := [], args := [] }

/-- 'wherrylaw03.BoxParts': WHATEVER THE INPUT: true; the input reads as it did. -/
def boxPartsSpec : ChangeSpec := { name := "boxParts", fn := fun _ => fun
  | [d1, d2, d3] => { results := [.lit (.bool true)], args := [d1, d2, d3] }
  | _ => none }
def boxPartsRow : OpenClaim := { program := "ytnphbdfmdboniaa", sum := "667bab5551e4f2b2931a80c16db3d4317c034225a8d66d4fdea02106eafcf84f", func := "wherry/wherrylaw03.BoxParts", spec := "boxParts", unfollowed := true, recurses := true, apart := false }
def BoxPartsSaid : Prop := boxPartsRow.holds Try.pinned (OpenSpec.ofChange boxPartsSpec)

/-- ITS FALSE NEIGHBOUR: 'it returns false'. Refute it at one input. -/
def boxPartsWrong : ChangeSpec := { name := "boxParts", fn := fun _ => fun
  | [d1, d2, d3] => { results := [.lit (.bool false)], args := [d1, d2, d3] }
  | _ => none }
def BoxPartsWrongFalsely : Prop := boxPartsRow.holds Try.pinned (OpenSpec.ofChange boxPartsWrong)

/-- 'wherrylaw03.BoxFuel': WHATEVER THE INPUT: true; the input reads as it did. -/
def boxFuelSpec : ChangeSpec := { name := "boxFuel", fn := fun _ => fun
  | [d1, d2] => { results := [.lit (.bool true)], args := [d1, d2] }
  | _ => none }
def boxFuelRow : OpenClaim := { program := "ytnphbdfmdboniaa", sum := "667bab5551e4f2b2931a80c16db3d4317c034225a8d66d4fdea02106eafcf84f", func := "wherry/wherrylaw03.BoxFuel", spec := "boxFuel", unfollowed := true, recurses := true, apart := false }
def BoxFuelSaid : Prop := boxFuelRow.holds Try.pinned (OpenSpec.ofChange boxFuelSpec)

/-- ITS FALSE NEIGHBOUR: 'it returns false'. Refute it at one input. -/
def boxFuelWrong : ChangeSpec := { name := "boxFuel", fn := fun _ => fun
  | [d1, d2] => { results := [.lit (.bool false)], args := [d1, d2] }
  | _ => none }
def BoxFuelWrongFalsely : Prop := boxFuelRow.holds Try.pinned (OpenSpec.ofChange boxFuelWrong)

/-- 'wherrylaw03.BoxOrder': WHATEVER THE INPUT: true; the input reads as it did. -/
def boxOrderSpec : ChangeSpec := { name := "boxOrder", fn := fun _ => fun
  | [d1, d2] => { results := [.lit (.bool true)], args := [d1, d2] }
  | _ => none }
def boxOrderRow : OpenClaim := { program := "ytnphbdfmdboniaa", sum := "667bab5551e4f2b2931a80c16db3d4317c034225a8d66d4fdea02106eafcf84f", func := "wherry/wherrylaw03.BoxOrder", spec := "boxOrder", unfollowed := true, recurses := true, apart := false }
def BoxOrderSaid : Prop := boxOrderRow.holds Try.pinned (OpenSpec.ofChange boxOrderSpec)

/-- ITS FALSE NEIGHBOUR: 'it returns false'. Refute it at one input. -/
def boxOrderWrong : ChangeSpec := { name := "boxOrder", fn := fun _ => fun
  | [d1, d2] => { results := [.lit (.bool false)], args := [d1, d2] }
  | _ => none }
def BoxOrderWrongFalsely : Prop := boxOrderRow.holds Try.pinned (OpenSpec.ofChange boxOrderWrong)

/-- 'wherrylaw03.BoxApart': WHATEVER THE INPUT: true; the input reads as it did. -/
def boxApartSpec : ChangeSpec := { name := "boxApart", fn := fun _ => fun
  | [d1, d2] => { results := [.lit (.bool true)], args := [d1, d2] }
  | _ => none }
def boxApartRow : OpenClaim := { program := "ytnphbdfmdboniaa", sum := "667bab5551e4f2b2931a80c16db3d4317c034225a8d66d4fdea02106eafcf84f", func := "wherry/wherrylaw03.BoxApart", spec := "boxApart", unfollowed := true, recurses := true, apart := false }
def BoxApartSaid : Prop := boxApartRow.holds Try.pinned (OpenSpec.ofChange boxApartSpec)

/-- ITS FALSE NEIGHBOUR: 'it returns false'. Refute it at one input. -/
def boxApartWrong : ChangeSpec := { name := "boxApart", fn := fun _ => fun
  | [d1, d2] => { results := [.lit (.bool false)], args := [d1, d2] }
  | _ => none }
def BoxApartWrongFalsely : Prop := boxApartRow.holds Try.pinned (OpenSpec.ofChange boxApartWrong)

/-- 'wherrylaw03.BoxNone': WHATEVER THE INPUT: true; the input reads as it did. -/
def boxNoneSpec : ChangeSpec := { name := "boxNone", fn := fun _ => fun
  | [d1, d2] => { results := [.lit (.bool true)], args := [d1, d2] }
  | _ => none }
def boxNoneRow : OpenClaim := { program := "ytnphbdfmdboniaa", sum := "667bab5551e4f2b2931a80c16db3d4317c034225a8d66d4fdea02106eafcf84f", func := "wherry/wherrylaw03.BoxNone", spec := "boxNone", unfollowed := true, recurses := true, apart := false }
def BoxNoneSaid : Prop := boxNoneRow.holds Try.pinned (OpenSpec.ofChange boxNoneSpec)

/-- ITS FALSE NEIGHBOUR: 'it returns false'. Refute it at one input. -/
def boxNoneWrong : ChangeSpec := { name := "boxNone", fn := fun _ => fun
  | [d1, d2] => { results := [.lit (.bool false)], args := [d1, d2] }
  | _ => none }
def BoxNoneWrongFalsely : Prop := boxNoneRow.holds Try.pinned (OpenSpec.ofChange boxNoneWrong)

/-- 'wherrylaw03.BoxRuns': WHATEVER THE INPUT: true; the input reads as it did. -/
def boxRunsSpec : ChangeSpec := { name := "boxRuns", fn := fun _ => fun
  | [d] => { results := [.lit (.bool true)], args := [d] }
  | _ => none }
def boxRunsRow : OpenClaim := { program := "ytnphbdfmdboniaa", sum := "667bab5551e4f2b2931a80c16db3d4317c034225a8d66d4fdea02106eafcf84f", func := "wherry/wherrylaw03.BoxRuns", spec := "boxRuns", inPlace := ["internal/bytealg.abigen_runtime_cmpstring"], unfollowed := true, recurses := true, apart := false }
def BoxRunsSaid : Prop := boxRunsRow.holds Try.pinned (OpenSpec.ofChange boxRunsSpec)

/-- ITS FALSE NEIGHBOUR: 'it returns false'. Refute it at one input. -/
def boxRunsWrong : ChangeSpec := { name := "boxRuns", fn := fun _ => fun
  | [d] => { results := [.lit (.bool false)], args := [d] }
  | _ => none }
def BoxRunsWrongFalsely : Prop := boxRunsRow.holds Try.pinned (OpenSpec.ofChange boxRunsWrong)

/- THE SECOND FORM. 'bulk': how many values and letters a reading holds, each counted each time it is reached (what is shared counts as often as it is met; a slice's spare places count too). A statement '..UptoSaid' is the law's where the arguments, and the package variables that the reading takes, are together of bulk at most 1048576: NARROWER than '..Said'. Prove '..Said' where nothing that the law and all that it calls make is longer than what came in: it says more and counts as full. Else prove '..UptoSaid'. A law counts once. -/
mutual
def uptoBulk {H : Type} : DataW H → Nat
  | .lit (.string bytes) => bytes.length + 1
  | .lit _ => 1
  | .nil => 1
  | .ptr d => uptoBulk d + 1
  | .slice elems spare => uptoBulkAll elems + uptoBulkAll spare + 1
  | .agg parts => uptoBulkAll parts + 1
  | .iface _ d => uptoBulk d + 1
  | .map entries => uptoBulkEntries entries + 1
  | .held _ => 1
def uptoBulkAll {H : Type} : List (DataW H) → Nat
  | [] => 0
  | d :: r => uptoBulk d + uptoBulkAll r
def uptoBulkEntries {H : Type} : List (Lit × DataW H) → Nat
  | [] => 0
  | x :: r => uptoBulkEntry x + uptoBulkEntries r
def uptoBulkEntry {H : Type} : Lit × DataW H → Nat
  | (.string bytes, d) => bytes.length + uptoBulk d + 1
  | (_, d) => uptoBulk d + 1
 end
def uptoSmall : (H : Type) → List (DataW H) → Bool := fun _ ds => decide (uptoBulkAll ds ≤ 1048576)
def OpenSpec.upto (s : _root_.Go.ChangeSpec) : _root_.Go.OpenSpec := { _root_.Go.OpenSpec.ofChange s with cond := some uptoSmall }

/-- 'wherrylaw03.BoxParts', WHERE WHAT IT READS IS OF BULK AT MOST 1048576: true; the input reads as it did. -/
def boxPartsUptoRow : OpenClaim := { program := "ytnphbdfmdboniaa", sum := "667bab5551e4f2b2931a80c16db3d4317c034225a8d66d4fdea02106eafcf84f", func := "wherry/wherrylaw03.BoxParts", spec := "boxParts", unfollowed := true, recurses := true, apart := false, narrowed := true }
def BoxPartsUptoSaid : Prop := boxPartsUptoRow.holds Try.pinned (OpenSpec.upto boxPartsSpec)

/-- 'wherrylaw03.BoxFuel', WHERE WHAT IT READS IS OF BULK AT MOST 1048576: true; the input reads as it did. -/
def boxFuelUptoRow : OpenClaim := { program := "ytnphbdfmdboniaa", sum := "667bab5551e4f2b2931a80c16db3d4317c034225a8d66d4fdea02106eafcf84f", func := "wherry/wherrylaw03.BoxFuel", spec := "boxFuel", unfollowed := true, recurses := true, apart := false, narrowed := true }
def BoxFuelUptoSaid : Prop := boxFuelUptoRow.holds Try.pinned (OpenSpec.upto boxFuelSpec)

/-- 'wherrylaw03.BoxOrder', WHERE WHAT IT READS IS OF BULK AT MOST 1048576: true; the input reads as it did. -/
def boxOrderUptoRow : OpenClaim := { program := "ytnphbdfmdboniaa", sum := "667bab5551e4f2b2931a80c16db3d4317c034225a8d66d4fdea02106eafcf84f", func := "wherry/wherrylaw03.BoxOrder", spec := "boxOrder", unfollowed := true, recurses := true, apart := false, narrowed := true }
def BoxOrderUptoSaid : Prop := boxOrderUptoRow.holds Try.pinned (OpenSpec.upto boxOrderSpec)

/-- 'wherrylaw03.BoxApart', WHERE WHAT IT READS IS OF BULK AT MOST 1048576: true; the input reads as it did. -/
def boxApartUptoRow : OpenClaim := { program := "ytnphbdfmdboniaa", sum := "667bab5551e4f2b2931a80c16db3d4317c034225a8d66d4fdea02106eafcf84f", func := "wherry/wherrylaw03.BoxApart", spec := "boxApart", unfollowed := true, recurses := true, apart := false, narrowed := true }
def BoxApartUptoSaid : Prop := boxApartUptoRow.holds Try.pinned (OpenSpec.upto boxApartSpec)

/-- 'wherrylaw03.BoxNone', WHERE WHAT IT READS IS OF BULK AT MOST 1048576: true; the input reads as it did. -/
def boxNoneUptoRow : OpenClaim := { program := "ytnphbdfmdboniaa", sum := "667bab5551e4f2b2931a80c16db3d4317c034225a8d66d4fdea02106eafcf84f", func := "wherry/wherrylaw03.BoxNone", spec := "boxNone", unfollowed := true, recurses := true, apart := false, narrowed := true }
def BoxNoneUptoSaid : Prop := boxNoneUptoRow.holds Try.pinned (OpenSpec.upto boxNoneSpec)

/-- 'wherrylaw03.BoxRuns', WHERE WHAT IT READS IS OF BULK AT MOST 1048576: true; the input reads as it did. -/
def boxRunsUptoRow : OpenClaim := { program := "ytnphbdfmdboniaa", sum := "667bab5551e4f2b2931a80c16db3d4317c034225a8d66d4fdea02106eafcf84f", func := "wherry/wherrylaw03.BoxRuns", spec := "boxRuns", inPlace := ["internal/bytealg.abigen_runtime_cmpstring"], unfollowed := true, recurses := true, apart := false, narrowed := true }
def BoxRunsUptoSaid : Prop := boxRunsUptoRow.holds Try.pinned (OpenSpec.upto boxRunsSpec)

end Rows
end Go.Proofs.Ytnphbdfmdboniaa
