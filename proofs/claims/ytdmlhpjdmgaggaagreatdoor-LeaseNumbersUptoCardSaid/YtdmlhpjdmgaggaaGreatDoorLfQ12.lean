/-
 The law CasScans (chapter 10) over its formula.
-/
import Derived.Test.YtdmlhpjdmgaggaaGreatDoorLfGLCasScans
import Derived.Test.YtdmlhpjdmgaggaaGreatDoorLfQ11
import Derived.Test.YtdmlhpjdmgaggaaGreatDoorLfU11
set_option linter.unusedVariables false
set_option linter.unusedSimpArgs false
set_option maxRecDepth 100000
set_option linter.unusedVariables false
set_option linter.unusedSimpArgs false
namespace Go.Lf.G
open Go
open M (Sorted Ag DR BJ Ai BD CV Ap OkL Ba atK Bc)
theorem VS {f:Pr→Bool}{m:List Pr}{i:Nat}{x:Pr}(hx:m[i]? =some x)(hf:f x=true):(m.filter f)[((m.take i).filter f).length]? =some x:=by
 obtain⟨hi,rfl⟩:=List.getElem?_eq_some_iff.1 hx
 have e:m=m.take i++m[i]::m.drop (i+1):=by rw[← List.drop_eq_getElem_cons hi,List.take_append_drop]
 have e2:m.filter f=(m.take i).filter f++m[i]::(m.drop (i+1)).filter f:=by
  generalize m[i]=y at*
  conv=>lhs;rw[e]
  rw[List.filter_append,List.filter_cons,if_pos hf]
 rw[e2,List.getElem?_append_right (Nat.le_refl _),Nat.sub_self]
 rfl
end Go.Lf.G

