/-
 A request that is given is opened: it lies as its row has it.
-/
import Derived.Test.YtebeggcpmdegnaaGreatDoorLfD30ToO4
set_option maxRecDepth 100000
set_option linter.unusedVariables false
set_option linter.unusedSimpArgs false
set_option linter.defProp false
set_option linter.unnecessarySimpa false
open Go.IntKind renaming i64→D,wrap→J8
open Go.Value renaming string→J7,int→J6,pointer→J5,slice→J4,bool→J3,tuple→J1
open Go.Obj renaming cells→J2
open Go renaming Value→J0,Addr→Q6,TypeId→Q7,FuncId→Q8,Program→Q1
open Go.Addr renaming add→Q9,mk→Q5
open Option renaming some→Z,none→V
open Bool renaming true→Y,false→U
open List renaming length→J
namespace Go.Lf
open Go Go.ChangeShapes Go.WideShapes Go.ChangeAt Go.RowKit Go.Proofs.YtebeggcpmdegnaaGreatDoor
theorem AZS:∃b,P.underlying BN=Z (.struct b):=by have a:=AXp;unfold fieldsOf at a;split at a;{exact⟨_,by assumption⟩};cases a
variable{an:Type}{bc:World}{b:Nat}{u:Value}{fi:List MemPlace}
theorem AZH{g:Q7×J0->an}{d:DataW an}(h:Value.okWide P bc .any b BN u)(i:DataW.Trod g P bc 0 (λ_=>Y) Y BN u d fi):∃(s:bj)(l:aX×List Cm),u=s.v/\jh (Rows.uptoBulk d) bc.heap s l.1/\View dT bc.heap s.bS l.2:=by obtain⟨q,j⟩:=AZS;obtain⟨a,rfl,r⟩:=okWide_struct j h;obtain⟨n,e⟩:=i;have k:(Value.agg a).cells.toList=a.toList:=rfl;rw[k]at e;obtain⟨f,p,cm,c,m,vc⟩:=AQL e;refine⟨f,(p,cm),?_,m,vc⟩;obtain⟨o⟩:=a;have c:o=f.l:=c;rw[c]
end Go.Lf
