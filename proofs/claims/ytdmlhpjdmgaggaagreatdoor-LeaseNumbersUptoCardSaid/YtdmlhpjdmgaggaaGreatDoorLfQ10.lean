/-
 The law CasCounts (chapter 10) over its formula.
-/
import Derived.Test.YtdmlhpjdmgaggaaGreatDoorLfGLCasCounts
import Derived.Test.YtdmlhpjdmgaggaaGreatDoorLfZ23ToO5
set_option linter.unusedVariables false
set_option linter.unusedSimpArgs false
set_option maxRecDepth 100000
set_option linter.unusedVariables false
set_option linter.unusedSimpArgs false
namespace Go.Lf.G
open Go
open M (Sorted Ag DR BJ Ai BD CV Ap OkL Ba atK Bc)
def AAu:Bud:=⟨12800,0,700,by decide,by decide,by decide⟩
theorem D6.args {B:Bud}{g h:Heap}{s:Nat}{q:Hp}{k:Nat→Nat}{st:Db}{m:Bx}{D:BO}{age c n:Nat}(C:D6 B g h s q k st m D age c n){sl:Sl}{l:List Pr}(v:View Ak g sl l):l≠ []→ ∀b,sl.blk=some b→b<h.size∧k b=0:=C.db.args v
end Go.Lf.G

