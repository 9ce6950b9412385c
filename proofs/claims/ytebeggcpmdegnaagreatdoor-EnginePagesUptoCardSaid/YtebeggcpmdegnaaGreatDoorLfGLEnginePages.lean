/-
 The law EnginePages as a formula.
-/
import Derived.Test.YtebeggcpmdegnaaGreatDoorLfGP1ToY5
set_option maxRecDepth 100000
set_option linter.unusedVariables false
set_option linter.unusedSimpArgs false
set_option linter.defProp false
open Go.IntKind renaming i64→D,wrap→J8
open Go.Value renaming string→J7,int→J6,pointer→J5,slice→J4,bool→J3,tuple→J1
open Go.Obj renaming cells→J2
open Go renaming Value→J0,Addr→Q6,TypeId→Q7,FuncId→Q8,Program→Q1
open Go.Addr renaming add→Q9,mk→Q5
open Option renaming some→Z,none→V
open Bool renaming true→Y,false→U
open List renaming length→J
namespace Go.Lf
open Go
variable{d:ai}{k:Q}{e:A3U}{j:Sl}
theorem SC{wid:E}(t:(cB d JE #[] λu=>T (!u) (e U) (T ((j.len:Int)>80) (e Y) (mP d FZ #[] λak f v=>nW (J2 #[f,J4 V 0 0,J4 V 0 0,D 0] CP) λb=>T (!v) (e U) (Loop (λK(s:Int×Unit)=>T (s.1<(j.len:Int)) (iX j.p j.len s.1 λa=>mQ (a (s.1.toNat*15)) λw=>nW (J2 AOu.c ET) λg=>sA g w.l<|jN (λ(r:Bool×Unit)=>T r.1 (e U) (K ((J8 D (s.1+1)),()))) λi=>lI g λx=>T (x>=0) (lI g λy=>T (y<1073741824) (mQ g λz=>cB d HZ #[J5 (Z b),z.v] λB=>i ((!B),())) (i (U,()))) (i (U,()))) (HY d Ed #[f,.nilIface,wid] λC q=>nW (J2 Cu.c Bv) λl=>sA l C.l<|T (q !=0) (Ha d JV #[f,.nilIface,wid,D 1] λF=>nW (J2 BV.c Ak) λm=>sA m F.l<|lI m λH=>T (H==q) (lL (m 8) λI=>e (J3 ((I.len:Int)==0))) (e U)) (Loop (λS(n:Sl×Unit)=>Ha d JV #[f,.nilIface,wid,D (J8 D ((n.1.len:Int)+1))] λX=>nW (J2 BV.c Ak) λc=>sA c X.l<|jN (λ(Q:Bool×Unit)=>T Q.1 (e U) (lL (c 8) λN=>T ((N.len:Int)==0) (lL (l 5) λac=>cB d Ju #[n.1,ac] λae=>e ae) (lL (c 8) λaf=>rL d (Builtin.append_ #[BH,BH] BH #[n.1,af]) λo=>S ((⟨o.p,o.len,o.cap⟩:Sl),())))) λp=>lI c λag=>T (ag !=0) (p (Y,())) (lL (c 8) λah=>T ((ah.len:Int)>32) (p (Y,())) (lI (c 2) λai=>lI (l 6 3) λaj=>p ((ai !=aj),())))) ((⟨V,0,0⟩:Sl),())))) (0,()))))) k):AJ d P MO #[j,wid] k e:=Af [(34,[(33,aU)]),(46,[(50,aK)]),(69,[(14,dS)]),(75,[(95,aK)])] (by kernel_rfl) t
end Go.Lf
