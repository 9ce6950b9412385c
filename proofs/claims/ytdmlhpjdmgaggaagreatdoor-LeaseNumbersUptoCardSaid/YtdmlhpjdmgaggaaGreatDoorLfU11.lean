/-
 Whether flat structs are equal; variables of flat structs.
-/
import Derived.Test.YtdmlhpjdmgaggaaGreatDoorLfS1aToU20
import Derived.Laws.StructEq
import Derived.ChangeKeysEq
set_option linter.unusedVariables false
set_option linter.unusedSimpArgs false
set_option maxRecDepth 100000
set_option linter.unusedVariables false
set_option linter.unusedSimpArgs false
namespace Go.Lf
open Go
inductive Fv where
 |i (n:Int)
 |s (x:ByteArray)
 |b (x:Bool)
 deriving DecidableEq
def Fv.v:Fv→Value
 | .i n=> .int .i64 n
 | .s x=> .string x
 | .b x=> .bool x
def Fv.ok(P:Program)(t:TypeId):Fv→Bool
 | .i _=>match P.underlying t with|some (.int .i64)=>true|_=>false
 | .s _=>match P.underlying t with|some .string=>true|_=>false
 | .b _=>match P.underlying t with|some .bool=>true|_=>false
theorem Fv.plain {P:Program}{t:TypeId}{x:Fv}(hx:x.ok P t=true):P.plainKey t=true:=by
 cases x<;>simp only[Fv.ok] at hx<;>split at hx<;>(try cases hx)<;>(rename_i hu;simp[Program.plainKey,hu])
end Go.Lf

