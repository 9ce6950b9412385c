/-
 The law EngineApart as a formula.
-/
import Derived.Test.YtebeggcpmdegnaaGreatDoorLfGP1ToY5
set_option maxRecDepth 100000
set_option linter.unusedVariables false
set_option linter.unusedSimpArgs false
set_option linter.defProp false
open Go.IntKind renaming i64→D,wrap→J8
open Go.Value renaming string→J7,int→J6,pointer→J5,slice→J4,bool→J3,tuple→J1
open Go.Obj renaming cells→J2
open Go renaming Value→J0,Addr→Q6,TypeId→Q7,FuncId→Q8,Program→Q1
open Go.Addr renaming add→Q9,mk→Q5
open Option renaming some→Z,none→V
open Bool renaming true→Y,false→U
open List renaming length→J
namespace Go.Lf
open Go
variable{d:ai}{k:Q}{e:A3U}{j:Sl}{h:E}
theorem RN(o:(cB d JE #[] λp=>T (!p) (e U) (T ((j.len:Int)>60) (e Y) (mP d FZ #[] λQ f q=>nW (J2 #[f,J4 V 0 0,J4 V 0 0,D 0] CP) λb=>T (!q) (e U) (Loop (λK(s:Int×Unit)=>T (s.1<(j.len:Int)) (jN (λ(N:Unit)=>K ((J8 D (s.1+1)),())) λi=>iX j.p j.len s.1 λa=>mQ (a (s.1.toNat*15)) λt=>nW (J2 AOu.c ET) λc=>sA c t.l<|jN (λ(r:Bool×Unit)=>T r.1 (i ()) (HY d Ed #[f,.nilIface,h] λu v=>nW (J2 Cu.c Bv) λl=>sA l u.l<|mQ c λw=>cB d HZ #[J5 (Z b),w.v] λx=>T (!x) (e U) (HY d Ed #[f,.nilIface,h] λy z=>nW (J2 Cu.c Bv) λm=>sA m y.l<|jN (λ(B:Bool×Unit)=>T B.1 (e U) (i ())) λg=>lS (c 1 2) λC=>T (!bM C h) (T (v !=z) (g (Y,())) (lL (l 5) λF=>lL (m 5) λH=>cB d Ju #[F,H] λI=>g ((!I),()))) (g (U,()))))) λn=>lI c λS=>T (S<0) (n (Y,())) (lI c λX=>n ((decide (X>1073741824)),()))) (e Y)) (0,()))))) k):AJ d P MK #[j,h] k e:=Af [(34,[(32,aU)]),(42,[]),(47,[(43,aK)]),(64,[(77,aK)])] (by kernel_rfl) o
end Go.Lf
