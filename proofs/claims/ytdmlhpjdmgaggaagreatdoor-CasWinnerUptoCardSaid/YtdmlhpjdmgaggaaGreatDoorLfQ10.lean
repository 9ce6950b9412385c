/-
 The law CasCounts (chapter 10) over its formula.
-/
import Derived.Test.YtdmlhpjdmgaggaaGreatDoorLfGLCasCounts
import Derived.Test.YtdmlhpjdmgaggaaGreatDoorLfM8ToO5
set_option linter.unusedVariables false
set_option linter.unusedSimpArgs false
set_option maxRecDepth 100000
set_option linter.unusedVariables false
set_option linter.unusedSimpArgs false
namespace Go.Lf.G
open Go
open M (Sorted Ah Df BL Al BF CZ Au OkL Bo atK Br)
def MH : Bud := ⟨12800, 0, 700, by decide, by decide, by decide⟩
theorem Ej.args {B : Bud} {g h : Heap} {s : Nat} {q : Hp} {k : Nat → Nat} {st : Db} {m : Bx} {D : BK} {age c n : Nat} (C : Ej B g h s q k st m D age c n) {sl : Sl} {l : List Pr} (v : View Af g sl l) : l ≠ [] → ∀ b, sl.blk = some b → b < h.size ∧ k b = 0 := C.db.args v
end Go.Lf.G

