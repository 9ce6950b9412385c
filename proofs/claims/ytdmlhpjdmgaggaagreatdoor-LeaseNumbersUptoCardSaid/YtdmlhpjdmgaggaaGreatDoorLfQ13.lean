/-
 The law CasRefused (chapter 10) over its formula.
-/
import Derived.Test.YtdmlhpjdmgaggaaGreatDoorLfGLCasRefused
import Derived.Test.YtdmlhpjdmgaggaaGreatDoorLfQ12
set_option linter.unusedVariables false
set_option linter.unusedSimpArgs false
set_option maxRecDepth 100000
set_option linter.unusedVariables false
set_option linter.unusedSimpArgs false
namespace Go.Lf.G
open Go
open M (Sorted Ag DR BJ Ai BD CV Ap OkL Ba atK Bc)
theorem Na {x:Int}{n:Nat}(h0:0<n)(h1:n≤1000): ∃j:Nat,j<n∧(IntKind.wrap .i64 ((x.tmod ((n:Nat):Int))+((n:Nat):Int))).tmod ((n:Nat):Int)=(j:Int):=by
 have h2:x.tmod (n:Int)<n:=Int.tmod_lt_of_pos x (by omega)
 have h3: -(n:Int)<x.tmod n:=Int.lt_tmod_of_pos _ (by omega)
 rw[wrap_i64 (by omega) (by omega)]
 obtain⟨y,hy⟩: ∃y:Nat,x.tmod (n:Int)+n=(y:Int):=⟨(x.tmod (n:Int)+n).toNat,by omega⟩
 rw[hy,AGn]
 exact⟨y % n,Nat.mod_lt _ h0,rfl⟩
end Go.Lf.G

