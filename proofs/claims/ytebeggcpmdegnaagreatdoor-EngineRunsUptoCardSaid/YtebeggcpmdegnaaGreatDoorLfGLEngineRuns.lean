/-
 The law EngineRuns as a formula.
-/
import Derived.Test.YtebeggcpmdegnaaGreatDoorLfGP1ToY5
set_option maxRecDepth 100000
set_option linter.unusedVariables false
set_option linter.unusedSimpArgs false
set_option linter.defProp false
set_option linter.unnecessarySimpa false
open Go.IntKind renaming i64→D,wrap→J8
open Go.Value renaming string→J7,int→J6,pointer→J5,slice→J4,bool→J3,tuple→J1
open Go.Obj renaming cells→J2
open Go renaming Value→J0,Addr→Q6,TypeId→Q7,FuncId→Q8,Program→Q1
open Go.Addr renaming add→Q9,mk→Q5
open Option renaming some→Z,none→V
open Bool renaming true→Y,false→U
open List renaming length→J
namespace Go.Lf
open Go
variable{d:ai}{k:W}{e:A41}{j:Sl}
theorem Sz(i:(cB d G9 #[] λl=>N (!l) (e U) (N ((j.len:Int)>80) (e Y) (pg d El #[] λw m n=>nW (J2 #[m,J4 V 0 0,J4 V 0 0,D 0] Bl) λb=>N (!n) (e U) (Loop (λK(s:Int×Unit)=>N (s.1<(j.len:Int)) (jN (λ(x:Unit)=>K ((J8 D (s.1+1)),())) λf=>iX j.p j.len s.1 λa=>jJ (a (s.1.toNat*15)) λo=>nW (J2 pR.c Cv) λc=>sA c o.l<|jN (λ(r:Bool×Unit)=>N r.1 (f ()) (jJ c λp=>cB d Fy #[J5 (Z b),p.v] λq=>N (!q) (e U) (f ()))) λg=>lI c λt=>N (t<0) (g (Y,())) (lI c λu=>g ((decide (u>1073741824)),()))) (cB d Jm #[J5 (Z b)] λv=>e v)) (0,()))))) k):AJ d P NE #[j] k e:=Ae [(34,[(26,aV)]),(42,[]),(47,[(37,aL)])] (by kernel_rfl) i
end Go.Lf
