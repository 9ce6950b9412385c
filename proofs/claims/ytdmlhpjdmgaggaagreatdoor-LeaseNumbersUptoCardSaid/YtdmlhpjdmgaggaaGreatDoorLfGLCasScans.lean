/-
 The law CasScans as a formula.
-/
import Derived.Test.YtdmlhpjdmgaggaaGreatDoorLfG1
set_option linter.unusedVariables false
set_option linter.unusedSimpArgs false
set_option linter.unusedVariables false
set_option maxRecDepth 100000
namespace Go.Lf.G
open Go
end Go.Lf.G

