/-
 The law EngineGrows as a formula.
-/
import Derived.Test.YtebeggcpmdegnaaGreatDoorLgGP1ToY5
set_option maxRecDepth 100000
set_option linter.unusedVariables false
set_option linter.unusedSimpArgs false
set_option linter.defProp false
set_option linter.unnecessarySimpa false
open Go.IntKind renaming i64→D,wrap→J8
open Go.Value renaming string→J7,int→J6,pointer→J5,slice→J4,bool→J3,tuple→J1
open Go.Obj renaming cells→J2
open Go renaming Value→J0,Addr→Q6,TypeId→Q7,FuncId→Q8,Program→Q1
open Go.Addr renaming add→Q9,mk→Q5
open Option renaming some→Z,none→V
open Bool renaming true→Y,false→U
open List renaming length→J
namespace Go.Lf
open Go
variable{d:ai}{k:W}{e:A3V}{j:Sl}
theorem SB(t:(cB d MR #[] λu=>M (!u) (e U) (M ((j.len:Int)>80) (e Y) (uN d Gg #[] λaf n v=>nW (J2 #[n,J4 V 0 0,J4 V 0 0,D 0] CO) λb=>M (!v) (e U) (nM λo=>Loop (λK(s:Int×Unit)=>M (s.1<(j.len:Int)) (jN (λ(ag:Unit)=>K ((J8 D (s.1+1)),())) λl=>iX j.p j.len s.1 λa=>uS (a (s.1.toNat*15)) λw=>nW (J2 AVD.c FP) λc=>sA c w.l<|jN (λ(r:Bool×Unit)=>M r.1 (l ()) (uS c λx=>cB d Jq #[J5 (Z b),x.v] λy=>M (!y) (e U) (lS (c 1 2) λz=>NV d GV #[n,.nilIface,z] λB C=>nW (J2 Dc.c CL) λf=>sA f B.l<|M (C !=0) (l ()) (lS (c 1 2) λF=>rL d (Instr.lookup IM (.map (Z o)) (J7 F) U) λg=>jN (λ(H:Bool×Unit)=>M H.1 (e U) (lL (f 5) λI=>iD d Uu #[I] λah S=>M (S !=0) (e U) (lS (c 1 2) λX=>lL (f 5) λm=>rU d (Instr.mapUpdate IM (.map (Z o)) (J7 X) (J4 m.p m.len m.cap))<|l ()))) λp=>lL (f 5) λW=>M ((W.len:Int)<(g.len:Int)) (p (Y,())) (lL (f 5) λi=>cK ((0:Int)<=(g.len:Int)/\(g.len:Int)<=(i.cap:Int))<|cB d Na #[J4 (BC i.p i.cap 0 8) (((g.len:Int).toNat)-0) (i.cap-0),g] λT=>p ((!T),())))))) λq=>lI c λO=>M (O<0) (q (Y,())) (lI c λae=>q ((decide (ae>1073741824)),()))) (e Y)) (0,()))))) k):AJ d P MK #[j] k e:=Ag [(36,[(33,aV)]),(44,[]),(49,[(44,aL)]),(73,[(79,aL)])] (by kernel_rfl) t
end Go.Lf
