/-
  NARROWER THAN 'FOR EVERY INPUT', by the rows' own cells (each row's printed sentence says how): CasWinner: laid · CasRefused: laid · CasScans: laid · CasCounts: laid · CasCrashes: laid · CasRuns: laid · LeaseFences: laid · LeaseReleases: laid · LeaseNumbers: laid.
  DERIVED. THE GIVEN ROWS OF THIS SEAT. 9 by the template 'for every input the law returns true; each argument reads behind the call as it read before'; 0 by the template 'total and deterministic' (their statements: YtdmlhpjdmgaggaaGreatDoorTotals.lean).
  GIVEN WITH THE SEED: the statements are not yours to turn. If you find one false, say at which input.
  Laid BY PROGRAM, IN A SANDBOX (cutbox-rows.mjs): the forced cells as the released guide's own fill.sh prints them over the translation 9a76cd8f2aeb0f3f… (all of the seat's roots in one cut). By AI agents, Wed Nov 11 2026. No macro, syntax, notation, axiom, sorry.
-/
import Derived.Test.YtdmlhpjdmgaggaaGreatDoorChecked
import GoSem.Claim
import GoSem.ClaimJoined
import GoSem.ClaimMapViews
import Derived.JoinedTies
import Derived.KernelRfl
namespace Go.Proofs.YtdmlhpjdmgaggaaGreatDoor
/- THE CELL 'sum', in the pinned program and in every row, IS THE sha256 OF THE DUMP (.gsa) THAT YtdmlhpjdmgaggaaGreatDoorProg.lean LOADS. Nothing in Lean hashes anything: it is a label: what it is worth is what the hold of that sum in a sandbox is worth. -/
noncomputable def Tryz.pinned : Pinned := { name := "ytdmlhpjdmgaggaagreatdoor", sum := "9a76cd8f2aeb0f3fa6a65a809600d5d171c172bf67d9ccfa32b8477f57bb06c5", checked := Tryz.checked }
namespace Rows
def none {H : Type} : Left H := { results := [], args := [] }

/- WHAT THE LISTED PACKAGE-LEVEL VARIABLES READ AS WHEN THE CALL BEGINS. Each datum BY PROGRAM (the guide's laid-datum.mjs) off the statement by which the dump's own 'gosem.cut.vars' lays the variable. In a bare row this is a premise. The card (YtdmlhpjdmgaggaaGreatDoorCards.lean) ties it to the program's text. -/
def laid_math_bits_deBruijn32tab {H : Type} : DataW H := .agg [.lit (.int .u8 0), .lit (.int .u8 1), .lit (.int .u8 28), .lit (.int .u8 2), .lit (.int .u8 29), .lit (.int .u8 14), .lit (.int .u8 24), .lit (.int .u8 3), .lit (.int .u8 30), .lit (.int .u8 22), .lit (.int .u8 20), .lit (.int .u8 15), .lit (.int .u8 25), .lit (.int .u8 17), .lit (.int .u8 4), .lit (.int .u8 8), .lit (.int .u8 31), .lit (.int .u8 27), .lit (.int .u8 13), .lit (.int .u8 23), .lit (.int .u8 21), .lit (.int .u8 19), .lit (.int .u8 16), .lit (.int .u8 7), .lit (.int .u8 26), .lit (.int .u8 12), .lit (.int .u8 18), .lit (.int .u8 6), .lit (.int .u8 11), .lit (.int .u8 5), .lit (.int .u8 10), .lit (.int .u8 9)]
def laid_math_bits_deBruijn64tab {H : Type} : DataW H := .agg [.lit (.int .u8 0), .lit (.int .u8 1), .lit (.int .u8 56), .lit (.int .u8 2), .lit (.int .u8 57), .lit (.int .u8 49), .lit (.int .u8 28), .lit (.int .u8 3), .lit (.int .u8 61), .lit (.int .u8 58), .lit (.int .u8 42), .lit (.int .u8 50), .lit (.int .u8 38), .lit (.int .u8 29), .lit (.int .u8 17), .lit (.int .u8 4), .lit (.int .u8 62), .lit (.int .u8 47), .lit (.int .u8 59), .lit (.int .u8 36), .lit (.int .u8 45), .lit (.int .u8 43), .lit (.int .u8 51), .lit (.int .u8 22), .lit (.int .u8 53), .lit (.int .u8 39), .lit (.int .u8 33), .lit (.int .u8 30), .lit (.int .u8 24), .lit (.int .u8 18), .lit (.int .u8 12), .lit (.int .u8 5), .lit (.int .u8 63), .lit (.int .u8 55), .lit (.int .u8 48), .lit (.int .u8 27), .lit (.int .u8 60), .lit (.int .u8 41), .lit (.int .u8 37), .lit (.int .u8 16), .lit (.int .u8 46), .lit (.int .u8 35), .lit (.int .u8 44), .lit (.int .u8 21), .lit (.int .u8 52), .lit (.int .u8 32), .lit (.int .u8 23), .lit (.int .u8 11), .lit (.int .u8 54), .lit (.int .u8 26), .lit (.int .u8 40), .lit (.int .u8 15), .lit (.int .u8 34), .lit (.int .u8 20), .lit (.int .u8 31), .lit (.int .u8 10), .lit (.int .u8 25), .lit (.int .u8 14), .lit (.int .u8 19), .lit (.int .u8 9), .lit (.int .u8 13), .lit (.int .u8 8), .lit (.int .u8 7), .lit (.int .u8 6)]
def laid_internal_strconv_uint64pow10 {H : Type} : DataW H := .agg [.lit (.int .u64 1), .lit (.int .u64 10), .lit (.int .u64 100), .lit (.int .u64 1000), .lit (.int .u64 10000), .lit (.int .u64 100000), .lit (.int .u64 1000000), .lit (.int .u64 10000000), .lit (.int .u64 100000000), .lit (.int .u64 1000000000), .lit (.int .u64 10000000000), .lit (.int .u64 100000000000), .lit (.int .u64 1000000000000), .lit (.int .u64 10000000000000), .lit (.int .u64 100000000000000), .lit (.int .u64 1000000000000000), .lit (.int .u64 10000000000000000), .lit (.int .u64 100000000000000000), .lit (.int .u64 1000000000000000000), .lit (.int .u64 10000000000000000000)]
def laid_strconv_ErrRange {H : Type} : DataW H := .iface "*errors.errorString" (.ptr (.agg [.lit (.string [118, 97, 108, 117, 101, 32, 111, 117, 116, 32, 111, 102, 32, 114, 97, 110, 103, 101])]))
def laid_strconv_ErrSyntax {H : Type} : DataW H := .iface "*errors.errorString" (.ptr (.agg [.lit (.string [105, 110, 118, 97, 108, 105, 100, 32, 115, 121, 110, 116, 97, 120])]))

/-- 'wherrylaw10.CasWinner': WHATEVER THE INPUT: true; the input reads as it did. -/
def casWinnerSpec : ChangeSpec := { name := "casWinner", fn := fun _ => fun
  | [d1, d2, d3] => { results := [.lit (.bool true)], args := [d1, d2, d3] }
  | _ => none }
def casWinnerRow : OpenClaim := { program := "ytdmlhpjdmgaggaagreatdoor", sum := "9a76cd8f2aeb0f3fa6a65a809600d5d171c172bf67d9ccfa32b8477f57bb06c5", func := "wherry/wherrylaw10.CasWinner", spec := "casWinner", inPlace := ["internal/abi.NoEscape", "internal/bytealg.MakeNoZero", "slices.overlaps[*wherry/table.Table]", "slices.overlaps[int]"], unfollowed := true, recurses := true, named := ["strconv.ErrSyntax", "strconv.ErrRange", "internal/strconv.uint64pow10", "math/bits.deBruijn32tab", "math/bits.deBruijn64tab"], apart := false, laid := [("math/bits.deBruijn32tab", laid_math_bits_deBruijn32tab), ("math/bits.deBruijn64tab", laid_math_bits_deBruijn64tab), ("internal/strconv.uint64pow10", laid_internal_strconv_uint64pow10), ("strconv.ErrRange", laid_strconv_ErrRange), ("strconv.ErrSyntax", laid_strconv_ErrSyntax)] }
def CasWinnerSaid : Prop := casWinnerRow.holds Tryz.pinned (OpenSpec.ofChange casWinnerSpec)

/-- ITS FALSE NEIGHBOUR: 'it returns false'. Refute it at one input. -/
def casWinnerWrong : ChangeSpec := { name := "casWinner", fn := fun _ => fun
  | [d1, d2, d3] => { results := [.lit (.bool false)], args := [d1, d2, d3] }
  | _ => none }
def CasWinnerWrongFalsely : Prop := casWinnerRow.holds Tryz.pinned (OpenSpec.ofChange casWinnerWrong)

/-- 'wherrylaw10.CasRefused': WHATEVER THE INPUT: true; the input reads as it did. -/
def casRefusedSpec : ChangeSpec := { name := "casRefused", fn := fun _ => fun
  | [d] => { results := [.lit (.bool true)], args := [d] }
  | _ => none }
def casRefusedRow : OpenClaim := { program := "ytdmlhpjdmgaggaagreatdoor", sum := "9a76cd8f2aeb0f3fa6a65a809600d5d171c172bf67d9ccfa32b8477f57bb06c5", func := "wherry/wherrylaw10.CasRefused", spec := "casRefused", inPlace := ["internal/abi.NoEscape", "internal/bytealg.MakeNoZero", "slices.overlaps[*wherry/table.Table]", "slices.overlaps[int]"], unfollowed := true, recurses := true, named := ["strconv.ErrSyntax", "strconv.ErrRange", "internal/strconv.uint64pow10", "math/bits.deBruijn32tab", "math/bits.deBruijn64tab"], apart := false, laid := [("math/bits.deBruijn32tab", laid_math_bits_deBruijn32tab), ("math/bits.deBruijn64tab", laid_math_bits_deBruijn64tab), ("internal/strconv.uint64pow10", laid_internal_strconv_uint64pow10), ("strconv.ErrRange", laid_strconv_ErrRange), ("strconv.ErrSyntax", laid_strconv_ErrSyntax)] }
def CasRefusedSaid : Prop := casRefusedRow.holds Tryz.pinned (OpenSpec.ofChange casRefusedSpec)

/-- ITS FALSE NEIGHBOUR: 'it returns false'. Refute it at one input. -/
def casRefusedWrong : ChangeSpec := { name := "casRefused", fn := fun _ => fun
  | [d] => { results := [.lit (.bool false)], args := [d] }
  | _ => none }
def CasRefusedWrongFalsely : Prop := casRefusedRow.holds Tryz.pinned (OpenSpec.ofChange casRefusedWrong)

/-- 'wherrylaw10.CasScans': WHATEVER THE INPUT: true; the input reads as it did. -/
def casScansSpec : ChangeSpec := { name := "casScans", fn := fun _ => fun
  | [d1, d2] => { results := [.lit (.bool true)], args := [d1, d2] }
  | _ => none }
def casScansRow : OpenClaim := { program := "ytdmlhpjdmgaggaagreatdoor", sum := "9a76cd8f2aeb0f3fa6a65a809600d5d171c172bf67d9ccfa32b8477f57bb06c5", func := "wherry/wherrylaw10.CasScans", spec := "casScans", inPlace := ["internal/abi.NoEscape", "internal/bytealg.MakeNoZero", "slices.overlaps[*wherry/table.Table]", "slices.overlaps[int]"], unfollowed := true, recurses := true, named := ["strconv.ErrSyntax", "strconv.ErrRange", "internal/strconv.uint64pow10", "math/bits.deBruijn32tab", "math/bits.deBruijn64tab"], apart := false, laid := [("math/bits.deBruijn32tab", laid_math_bits_deBruijn32tab), ("math/bits.deBruijn64tab", laid_math_bits_deBruijn64tab), ("internal/strconv.uint64pow10", laid_internal_strconv_uint64pow10), ("strconv.ErrRange", laid_strconv_ErrRange), ("strconv.ErrSyntax", laid_strconv_ErrSyntax)] }
def CasScansSaid : Prop := casScansRow.holds Tryz.pinned (OpenSpec.ofChange casScansSpec)

/-- ITS FALSE NEIGHBOUR: 'it returns false'. Refute it at one input. -/
def casScansWrong : ChangeSpec := { name := "casScans", fn := fun _ => fun
  | [d1, d2] => { results := [.lit (.bool false)], args := [d1, d2] }
  | _ => none }
def CasScansWrongFalsely : Prop := casScansRow.holds Tryz.pinned (OpenSpec.ofChange casScansWrong)

/-- 'wherrylaw10.CasCounts': WHATEVER THE INPUT: true; the input reads as it did. -/
def casCountsSpec : ChangeSpec := { name := "casCounts", fn := fun _ => fun
  | [d] => { results := [.lit (.bool true)], args := [d] }
  | _ => none }
def casCountsRow : OpenClaim := { program := "ytdmlhpjdmgaggaagreatdoor", sum := "9a76cd8f2aeb0f3fa6a65a809600d5d171c172bf67d9ccfa32b8477f57bb06c5", func := "wherry/wherrylaw10.CasCounts", spec := "casCounts", inPlace := ["internal/abi.NoEscape", "internal/bytealg.MakeNoZero", "slices.overlaps[*wherry/table.Table]", "slices.overlaps[int]"], unfollowed := true, recurses := true, named := ["strconv.ErrSyntax", "strconv.ErrRange", "internal/strconv.uint64pow10", "math/bits.deBruijn32tab", "math/bits.deBruijn64tab"], apart := false, laid := [("math/bits.deBruijn32tab", laid_math_bits_deBruijn32tab), ("math/bits.deBruijn64tab", laid_math_bits_deBruijn64tab), ("internal/strconv.uint64pow10", laid_internal_strconv_uint64pow10), ("strconv.ErrRange", laid_strconv_ErrRange), ("strconv.ErrSyntax", laid_strconv_ErrSyntax)] }
def CasCountsSaid : Prop := casCountsRow.holds Tryz.pinned (OpenSpec.ofChange casCountsSpec)

/-- ITS FALSE NEIGHBOUR: 'it returns false'. Refute it at one input. -/
def casCountsWrong : ChangeSpec := { name := "casCounts", fn := fun _ => fun
  | [d] => { results := [.lit (.bool false)], args := [d] }
  | _ => none }
def CasCountsWrongFalsely : Prop := casCountsRow.holds Tryz.pinned (OpenSpec.ofChange casCountsWrong)

/-- 'wherrylaw10.CasCrashes': WHATEVER THE INPUT: true; the input reads as it did. -/
def casCrashesSpec : ChangeSpec := { name := "casCrashes", fn := fun _ => fun
  | [d1, d2, d3] => { results := [.lit (.bool true)], args := [d1, d2, d3] }
  | _ => none }
def casCrashesRow : OpenClaim := { program := "ytdmlhpjdmgaggaagreatdoor", sum := "9a76cd8f2aeb0f3fa6a65a809600d5d171c172bf67d9ccfa32b8477f57bb06c5", func := "wherry/wherrylaw10.CasCrashes", spec := "casCrashes", inPlace := ["internal/abi.NoEscape", "internal/bytealg.MakeNoZero", "slices.overlaps[*wherry/table.Table]", "slices.overlaps[int]"], unfollowed := true, recurses := true, named := ["strconv.ErrSyntax", "strconv.ErrRange", "internal/strconv.uint64pow10", "math/bits.deBruijn32tab", "math/bits.deBruijn64tab"], apart := false, laid := [("math/bits.deBruijn32tab", laid_math_bits_deBruijn32tab), ("math/bits.deBruijn64tab", laid_math_bits_deBruijn64tab), ("internal/strconv.uint64pow10", laid_internal_strconv_uint64pow10), ("strconv.ErrRange", laid_strconv_ErrRange), ("strconv.ErrSyntax", laid_strconv_ErrSyntax)] }
def CasCrashesSaid : Prop := casCrashesRow.holds Tryz.pinned (OpenSpec.ofChange casCrashesSpec)

/-- ITS FALSE NEIGHBOUR: 'it returns false'. Refute it at one input. -/
def casCrashesWrong : ChangeSpec := { name := "casCrashes", fn := fun _ => fun
  | [d1, d2, d3] => { results := [.lit (.bool false)], args := [d1, d2, d3] }
  | _ => none }
def CasCrashesWrongFalsely : Prop := casCrashesRow.holds Tryz.pinned (OpenSpec.ofChange casCrashesWrong)

/-- 'wherrylaw10.CasRuns': WHATEVER THE INPUT: true; the input reads as it did. -/
def casRunsSpec : ChangeSpec := { name := "casRuns", fn := fun _ => fun
  | [d] => { results := [.lit (.bool true)], args := [d] }
  | _ => none }
def casRunsRow : OpenClaim := { program := "ytdmlhpjdmgaggaagreatdoor", sum := "9a76cd8f2aeb0f3fa6a65a809600d5d171c172bf67d9ccfa32b8477f57bb06c5", func := "wherry/wherrylaw10.CasRuns", spec := "casRuns", inPlace := ["internal/abi.NoEscape", "internal/bytealg.MakeNoZero", "slices.overlaps[*wherry/table.Table]", "slices.overlaps[int]"], unfollowed := true, recurses := true, named := ["strconv.ErrSyntax", "strconv.ErrRange", "internal/strconv.uint64pow10", "math/bits.deBruijn32tab", "math/bits.deBruijn64tab"], apart := false, laid := [("math/bits.deBruijn32tab", laid_math_bits_deBruijn32tab), ("math/bits.deBruijn64tab", laid_math_bits_deBruijn64tab), ("internal/strconv.uint64pow10", laid_internal_strconv_uint64pow10), ("strconv.ErrRange", laid_strconv_ErrRange), ("strconv.ErrSyntax", laid_strconv_ErrSyntax)] }
def CasRunsSaid : Prop := casRunsRow.holds Tryz.pinned (OpenSpec.ofChange casRunsSpec)

/-- ITS FALSE NEIGHBOUR: 'it returns false'. Refute it at one input. -/
def casRunsWrong : ChangeSpec := { name := "casRuns", fn := fun _ => fun
  | [d] => { results := [.lit (.bool false)], args := [d] }
  | _ => none }
def CasRunsWrongFalsely : Prop := casRunsRow.holds Tryz.pinned (OpenSpec.ofChange casRunsWrong)

/-- 'wherrylaw18.LeaseFences': WHATEVER THE INPUT: true; the input reads as it did. -/
def leaseFencesSpec : ChangeSpec := { name := "leaseFences", fn := fun _ => fun
  | [d1, d2] => { results := [.lit (.bool true)], args := [d1, d2] }
  | _ => none }
def leaseFencesRow : OpenClaim := { program := "ytdmlhpjdmgaggaagreatdoor", sum := "9a76cd8f2aeb0f3fa6a65a809600d5d171c172bf67d9ccfa32b8477f57bb06c5", func := "wherry/wherrylaw18.LeaseFences", spec := "leaseFences", inPlace := ["internal/abi.NoEscape", "internal/bytealg.MakeNoZero", "slices.overlaps[*wherry/table.Table]", "slices.overlaps[int]"], unfollowed := true, recurses := true, named := ["strconv.ErrSyntax", "strconv.ErrRange", "internal/strconv.uint64pow10", "math/bits.deBruijn32tab", "math/bits.deBruijn64tab"], apart := false, laid := [("math/bits.deBruijn32tab", laid_math_bits_deBruijn32tab), ("math/bits.deBruijn64tab", laid_math_bits_deBruijn64tab), ("internal/strconv.uint64pow10", laid_internal_strconv_uint64pow10), ("strconv.ErrRange", laid_strconv_ErrRange), ("strconv.ErrSyntax", laid_strconv_ErrSyntax)] }
def LeaseFencesSaid : Prop := leaseFencesRow.holds Tryz.pinned (OpenSpec.ofChange leaseFencesSpec)

/-- ITS FALSE NEIGHBOUR: 'it returns false'. Refute it at one input. -/
def leaseFencesWrong : ChangeSpec := { name := "leaseFences", fn := fun _ => fun
  | [d1, d2] => { results := [.lit (.bool false)], args := [d1, d2] }
  | _ => none }
def LeaseFencesWrongFalsely : Prop := leaseFencesRow.holds Tryz.pinned (OpenSpec.ofChange leaseFencesWrong)

/-- 'wherrylaw18.LeaseReleases': WHATEVER THE INPUT: true; the input reads as it did. -/
def leaseReleasesSpec : ChangeSpec := { name := "leaseReleases", fn := fun _ => fun
  | [d] => { results := [.lit (.bool true)], args := [d] }
  | _ => none }
def leaseReleasesRow : OpenClaim := { program := "ytdmlhpjdmgaggaagreatdoor", sum := "9a76cd8f2aeb0f3fa6a65a809600d5d171c172bf67d9ccfa32b8477f57bb06c5", func := "wherry/wherrylaw18.LeaseReleases", spec := "leaseReleases", inPlace := ["internal/abi.NoEscape", "internal/bytealg.MakeNoZero", "slices.overlaps[*wherry/table.Table]", "slices.overlaps[int]"], unfollowed := true, recurses := true, named := ["strconv.ErrSyntax", "strconv.ErrRange", "internal/strconv.uint64pow10", "math/bits.deBruijn32tab", "math/bits.deBruijn64tab"], apart := false, laid := [("math/bits.deBruijn32tab", laid_math_bits_deBruijn32tab), ("math/bits.deBruijn64tab", laid_math_bits_deBruijn64tab), ("internal/strconv.uint64pow10", laid_internal_strconv_uint64pow10), ("strconv.ErrRange", laid_strconv_ErrRange), ("strconv.ErrSyntax", laid_strconv_ErrSyntax)] }
def LeaseReleasesSaid : Prop := leaseReleasesRow.holds Tryz.pinned (OpenSpec.ofChange leaseReleasesSpec)

/-- ITS FALSE NEIGHBOUR: 'it returns false'. Refute it at one input. -/
def leaseReleasesWrong : ChangeSpec := { name := "leaseReleases", fn := fun _ => fun
  | [d] => { results := [.lit (.bool false)], args := [d] }
  | _ => none }
def LeaseReleasesWrongFalsely : Prop := leaseReleasesRow.holds Tryz.pinned (OpenSpec.ofChange leaseReleasesWrong)

/-- 'wherrylaw18.LeaseNumbers': WHATEVER THE INPUT: true; the input reads as it did. -/
def leaseNumbersSpec : ChangeSpec := { name := "leaseNumbers", fn := fun _ => fun
  | [d] => { results := [.lit (.bool true)], args := [d] }
  | _ => none }
def leaseNumbersRow : OpenClaim := { program := "ytdmlhpjdmgaggaagreatdoor", sum := "9a76cd8f2aeb0f3fa6a65a809600d5d171c172bf67d9ccfa32b8477f57bb06c5", func := "wherry/wherrylaw18.LeaseNumbers", spec := "leaseNumbers", inPlace := ["internal/abi.NoEscape", "internal/bytealg.MakeNoZero", "slices.overlaps[*wherry/table.Table]", "slices.overlaps[int]"], unfollowed := true, recurses := true, named := ["strconv.ErrSyntax", "strconv.ErrRange", "internal/strconv.uint64pow10", "math/bits.deBruijn32tab", "math/bits.deBruijn64tab"], apart := false, laid := [("math/bits.deBruijn32tab", laid_math_bits_deBruijn32tab), ("math/bits.deBruijn64tab", laid_math_bits_deBruijn64tab), ("internal/strconv.uint64pow10", laid_internal_strconv_uint64pow10), ("strconv.ErrRange", laid_strconv_ErrRange), ("strconv.ErrSyntax", laid_strconv_ErrSyntax)] }
def LeaseNumbersSaid : Prop := leaseNumbersRow.holds Tryz.pinned (OpenSpec.ofChange leaseNumbersSpec)

/-- ITS FALSE NEIGHBOUR: 'it returns false'. Refute it at one input. -/
def leaseNumbersWrong : ChangeSpec := { name := "leaseNumbers", fn := fun _ => fun
  | [d] => { results := [.lit (.bool false)], args := [d] }
  | _ => none }
def LeaseNumbersWrongFalsely : Prop := leaseNumbersRow.holds Tryz.pinned (OpenSpec.ofChange leaseNumbersWrong)

/- THE SECOND FORM. 'bulk': how many values and letters a reading holds, each counted each time it is reached (what is shared counts as often as it is met; a slice's spare places count too). A statement '..UptoSaid' is the law's where the arguments, and the package variables that the reading takes, are together of bulk at most 1048576: NARROWER than '..Said'. Prove '..Said' where nothing that the law and all that it calls make is longer than what came in: it says more and counts as full. Else prove '..UptoSaid'. A law counts once. -/
mutual
def uptoBulk {H : Type} : DataW H → Nat
  | .lit (.string bytes) => bytes.length + 1
  | .lit _ => 1
  | .nil => 1
  | .ptr d => uptoBulk d + 1
  | .slice elems spare => uptoBulkAll elems + uptoBulkAll spare + 1
  | .agg parts => uptoBulkAll parts + 1
  | .iface _ d => uptoBulk d + 1
  | .map entries => uptoBulkEntries entries + 1
  | .held _ => 1
def uptoBulkAll {H : Type} : List (DataW H) → Nat
  | [] => 0
  | d :: r => uptoBulk d + uptoBulkAll r
def uptoBulkEntries {H : Type} : List (Lit × DataW H) → Nat
  | [] => 0
  | x :: r => uptoBulkEntry x + uptoBulkEntries r
def uptoBulkEntry {H : Type} : Lit × DataW H → Nat
  | (.string bytes, d) => bytes.length + uptoBulk d + 1
  | (_, d) => uptoBulk d + 1
 end
def uptoSmall : (H : Type) → List (DataW H) → Bool := fun _ ds => decide (uptoBulkAll ds ≤ 1048576)
def OpenSpec.upto (s : _root_.Go.ChangeSpec) : _root_.Go.OpenSpec := { _root_.Go.OpenSpec.ofChange s with cond := some uptoSmall }

/-- 'wherrylaw10.CasWinner', WHERE WHAT IT READS IS OF BULK AT MOST 1048576: true; the input reads as it did. -/
def casWinnerUptoRow : OpenClaim := { program := "ytdmlhpjdmgaggaagreatdoor", sum := "9a76cd8f2aeb0f3fa6a65a809600d5d171c172bf67d9ccfa32b8477f57bb06c5", func := "wherry/wherrylaw10.CasWinner", spec := "casWinner", inPlace := ["internal/abi.NoEscape", "internal/bytealg.MakeNoZero", "slices.overlaps[*wherry/table.Table]", "slices.overlaps[int]"], unfollowed := true, recurses := true, named := ["strconv.ErrSyntax", "strconv.ErrRange", "internal/strconv.uint64pow10", "math/bits.deBruijn32tab", "math/bits.deBruijn64tab"], apart := false, laid := [("math/bits.deBruijn32tab", laid_math_bits_deBruijn32tab), ("math/bits.deBruijn64tab", laid_math_bits_deBruijn64tab), ("internal/strconv.uint64pow10", laid_internal_strconv_uint64pow10), ("strconv.ErrRange", laid_strconv_ErrRange), ("strconv.ErrSyntax", laid_strconv_ErrSyntax)], narrowed := true }
def CasWinnerUptoSaid : Prop := casWinnerUptoRow.holds Tryz.pinned (OpenSpec.upto casWinnerSpec)

/-- 'wherrylaw10.CasRefused', WHERE WHAT IT READS IS OF BULK AT MOST 1048576: true; the input reads as it did. -/
def casRefusedUptoRow : OpenClaim := { program := "ytdmlhpjdmgaggaagreatdoor", sum := "9a76cd8f2aeb0f3fa6a65a809600d5d171c172bf67d9ccfa32b8477f57bb06c5", func := "wherry/wherrylaw10.CasRefused", spec := "casRefused", inPlace := ["internal/abi.NoEscape", "internal/bytealg.MakeNoZero", "slices.overlaps[*wherry/table.Table]", "slices.overlaps[int]"], unfollowed := true, recurses := true, named := ["strconv.ErrSyntax", "strconv.ErrRange", "internal/strconv.uint64pow10", "math/bits.deBruijn32tab", "math/bits.deBruijn64tab"], apart := false, laid := [("math/bits.deBruijn32tab", laid_math_bits_deBruijn32tab), ("math/bits.deBruijn64tab", laid_math_bits_deBruijn64tab), ("internal/strconv.uint64pow10", laid_internal_strconv_uint64pow10), ("strconv.ErrRange", laid_strconv_ErrRange), ("strconv.ErrSyntax", laid_strconv_ErrSyntax)], narrowed := true }
def CasRefusedUptoSaid : Prop := casRefusedUptoRow.holds Tryz.pinned (OpenSpec.upto casRefusedSpec)

/-- 'wherrylaw10.CasScans', WHERE WHAT IT READS IS OF BULK AT MOST 1048576: true; the input reads as it did. -/
def casScansUptoRow : OpenClaim := { program := "ytdmlhpjdmgaggaagreatdoor", sum := "9a76cd8f2aeb0f3fa6a65a809600d5d171c172bf67d9ccfa32b8477f57bb06c5", func := "wherry/wherrylaw10.CasScans", spec := "casScans", inPlace := ["internal/abi.NoEscape", "internal/bytealg.MakeNoZero", "slices.overlaps[*wherry/table.Table]", "slices.overlaps[int]"], unfollowed := true, recurses := true, named := ["strconv.ErrSyntax", "strconv.ErrRange", "internal/strconv.uint64pow10", "math/bits.deBruijn32tab", "math/bits.deBruijn64tab"], apart := false, laid := [("math/bits.deBruijn32tab", laid_math_bits_deBruijn32tab), ("math/bits.deBruijn64tab", laid_math_bits_deBruijn64tab), ("internal/strconv.uint64pow10", laid_internal_strconv_uint64pow10), ("strconv.ErrRange", laid_strconv_ErrRange), ("strconv.ErrSyntax", laid_strconv_ErrSyntax)], narrowed := true }
def CasScansUptoSaid : Prop := casScansUptoRow.holds Tryz.pinned (OpenSpec.upto casScansSpec)

/-- 'wherrylaw10.CasCounts', WHERE WHAT IT READS IS OF BULK AT MOST 1048576: true; the input reads as it did. -/
def casCountsUptoRow : OpenClaim := { program := "ytdmlhpjdmgaggaagreatdoor", sum := "9a76cd8f2aeb0f3fa6a65a809600d5d171c172bf67d9ccfa32b8477f57bb06c5", func := "wherry/wherrylaw10.CasCounts", spec := "casCounts", inPlace := ["internal/abi.NoEscape", "internal/bytealg.MakeNoZero", "slices.overlaps[*wherry/table.Table]", "slices.overlaps[int]"], unfollowed := true, recurses := true, named := ["strconv.ErrSyntax", "strconv.ErrRange", "internal/strconv.uint64pow10", "math/bits.deBruijn32tab", "math/bits.deBruijn64tab"], apart := false, laid := [("math/bits.deBruijn32tab", laid_math_bits_deBruijn32tab), ("math/bits.deBruijn64tab", laid_math_bits_deBruijn64tab), ("internal/strconv.uint64pow10", laid_internal_strconv_uint64pow10), ("strconv.ErrRange", laid_strconv_ErrRange), ("strconv.ErrSyntax", laid_strconv_ErrSyntax)], narrowed := true }
def CasCountsUptoSaid : Prop := casCountsUptoRow.holds Tryz.pinned (OpenSpec.upto casCountsSpec)

/-- 'wherrylaw10.CasCrashes', WHERE WHAT IT READS IS OF BULK AT MOST 1048576: true; the input reads as it did. -/
def casCrashesUptoRow : OpenClaim := { program := "ytdmlhpjdmgaggaagreatdoor", sum := "9a76cd8f2aeb0f3fa6a65a809600d5d171c172bf67d9ccfa32b8477f57bb06c5", func := "wherry/wherrylaw10.CasCrashes", spec := "casCrashes", inPlace := ["internal/abi.NoEscape", "internal/bytealg.MakeNoZero", "slices.overlaps[*wherry/table.Table]", "slices.overlaps[int]"], unfollowed := true, recurses := true, named := ["strconv.ErrSyntax", "strconv.ErrRange", "internal/strconv.uint64pow10", "math/bits.deBruijn32tab", "math/bits.deBruijn64tab"], apart := false, laid := [("math/bits.deBruijn32tab", laid_math_bits_deBruijn32tab), ("math/bits.deBruijn64tab", laid_math_bits_deBruijn64tab), ("internal/strconv.uint64pow10", laid_internal_strconv_uint64pow10), ("strconv.ErrRange", laid_strconv_ErrRange), ("strconv.ErrSyntax", laid_strconv_ErrSyntax)], narrowed := true }
def CasCrashesUptoSaid : Prop := casCrashesUptoRow.holds Tryz.pinned (OpenSpec.upto casCrashesSpec)

/-- 'wherrylaw10.CasRuns', WHERE WHAT IT READS IS OF BULK AT MOST 1048576: true; the input reads as it did. -/
def casRunsUptoRow : OpenClaim := { program := "ytdmlhpjdmgaggaagreatdoor", sum := "9a76cd8f2aeb0f3fa6a65a809600d5d171c172bf67d9ccfa32b8477f57bb06c5", func := "wherry/wherrylaw10.CasRuns", spec := "casRuns", inPlace := ["internal/abi.NoEscape", "internal/bytealg.MakeNoZero", "slices.overlaps[*wherry/table.Table]", "slices.overlaps[int]"], unfollowed := true, recurses := true, named := ["strconv.ErrSyntax", "strconv.ErrRange", "internal/strconv.uint64pow10", "math/bits.deBruijn32tab", "math/bits.deBruijn64tab"], apart := false, laid := [("math/bits.deBruijn32tab", laid_math_bits_deBruijn32tab), ("math/bits.deBruijn64tab", laid_math_bits_deBruijn64tab), ("internal/strconv.uint64pow10", laid_internal_strconv_uint64pow10), ("strconv.ErrRange", laid_strconv_ErrRange), ("strconv.ErrSyntax", laid_strconv_ErrSyntax)], narrowed := true }
def CasRunsUptoSaid : Prop := casRunsUptoRow.holds Tryz.pinned (OpenSpec.upto casRunsSpec)

/-- 'wherrylaw18.LeaseFences', WHERE WHAT IT READS IS OF BULK AT MOST 1048576: true; the input reads as it did. -/
def leaseFencesUptoRow : OpenClaim := { program := "ytdmlhpjdmgaggaagreatdoor", sum := "9a76cd8f2aeb0f3fa6a65a809600d5d171c172bf67d9ccfa32b8477f57bb06c5", func := "wherry/wherrylaw18.LeaseFences", spec := "leaseFences", inPlace := ["internal/abi.NoEscape", "internal/bytealg.MakeNoZero", "slices.overlaps[*wherry/table.Table]", "slices.overlaps[int]"], unfollowed := true, recurses := true, named := ["strconv.ErrSyntax", "strconv.ErrRange", "internal/strconv.uint64pow10", "math/bits.deBruijn32tab", "math/bits.deBruijn64tab"], apart := false, laid := [("math/bits.deBruijn32tab", laid_math_bits_deBruijn32tab), ("math/bits.deBruijn64tab", laid_math_bits_deBruijn64tab), ("internal/strconv.uint64pow10", laid_internal_strconv_uint64pow10), ("strconv.ErrRange", laid_strconv_ErrRange), ("strconv.ErrSyntax", laid_strconv_ErrSyntax)], narrowed := true }
def LeaseFencesUptoSaid : Prop := leaseFencesUptoRow.holds Tryz.pinned (OpenSpec.upto leaseFencesSpec)

/-- 'wherrylaw18.LeaseReleases', WHERE WHAT IT READS IS OF BULK AT MOST 1048576: true; the input reads as it did. -/
def leaseReleasesUptoRow : OpenClaim := { program := "ytdmlhpjdmgaggaagreatdoor", sum := "9a76cd8f2aeb0f3fa6a65a809600d5d171c172bf67d9ccfa32b8477f57bb06c5", func := "wherry/wherrylaw18.LeaseReleases", spec := "leaseReleases", inPlace := ["internal/abi.NoEscape", "internal/bytealg.MakeNoZero", "slices.overlaps[*wherry/table.Table]", "slices.overlaps[int]"], unfollowed := true, recurses := true, named := ["strconv.ErrSyntax", "strconv.ErrRange", "internal/strconv.uint64pow10", "math/bits.deBruijn32tab", "math/bits.deBruijn64tab"], apart := false, laid := [("math/bits.deBruijn32tab", laid_math_bits_deBruijn32tab), ("math/bits.deBruijn64tab", laid_math_bits_deBruijn64tab), ("internal/strconv.uint64pow10", laid_internal_strconv_uint64pow10), ("strconv.ErrRange", laid_strconv_ErrRange), ("strconv.ErrSyntax", laid_strconv_ErrSyntax)], narrowed := true }
def LeaseReleasesUptoSaid : Prop := leaseReleasesUptoRow.holds Tryz.pinned (OpenSpec.upto leaseReleasesSpec)

/-- 'wherrylaw18.LeaseNumbers', WHERE WHAT IT READS IS OF BULK AT MOST 1048576: true; the input reads as it did. -/
def leaseNumbersUptoRow : OpenClaim := { program := "ytdmlhpjdmgaggaagreatdoor", sum := "9a76cd8f2aeb0f3fa6a65a809600d5d171c172bf67d9ccfa32b8477f57bb06c5", func := "wherry/wherrylaw18.LeaseNumbers", spec := "leaseNumbers", inPlace := ["internal/abi.NoEscape", "internal/bytealg.MakeNoZero", "slices.overlaps[*wherry/table.Table]", "slices.overlaps[int]"], unfollowed := true, recurses := true, named := ["strconv.ErrSyntax", "strconv.ErrRange", "internal/strconv.uint64pow10", "math/bits.deBruijn32tab", "math/bits.deBruijn64tab"], apart := false, laid := [("math/bits.deBruijn32tab", laid_math_bits_deBruijn32tab), ("math/bits.deBruijn64tab", laid_math_bits_deBruijn64tab), ("internal/strconv.uint64pow10", laid_internal_strconv_uint64pow10), ("strconv.ErrRange", laid_strconv_ErrRange), ("strconv.ErrSyntax", laid_strconv_ErrSyntax)], narrowed := true }
def LeaseNumbersUptoSaid : Prop := leaseNumbersUptoRow.holds Tryz.pinned (OpenSpec.upto leaseNumbersSpec)

end Rows
end Go.Proofs.YtdmlhpjdmgaggaaGreatDoor
