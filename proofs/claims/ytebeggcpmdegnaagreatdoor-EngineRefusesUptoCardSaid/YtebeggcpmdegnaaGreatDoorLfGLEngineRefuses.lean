/-
 The law EngineRefuses as a formula.
-/
import Derived.Test.YtebeggcpmdegnaaGreatDoorLfGP1ToY5
set_option maxRecDepth 100000
set_option linter.unusedVariables false
set_option linter.unusedSimpArgs false
set_option linter.defProp false
set_option linter.unnecessarySimpa false
open Go.IntKind renaming i64→D,wrap→J8
open Go.Value renaming string→J7,int→J6,pointer→J5,slice→J4,bool→J3,tuple→J1
open Go.Obj renaming cells→J2
open Go renaming Value→J0,Addr→Q6,TypeId→Q7,FuncId→Q8,Program→Q1
open Go.Addr renaming add→Q9,mk→Q5
open Option renaming some→Z,none→V
open Bool renaming true→Y,false→U
open List renaming length→J
namespace Go.Lf
open Go
variable{d:ai}{k:W}{e:A41}{j:Sl}{a5:bj}
theorem Qs(I:(nW (J2 a5.c BN) λb=>cB d G9 #[] λS=>N (!S) (e U) (N ((j.len:Int)>60) (e Y) (pg d El #[] λm i X=>nW (J2 #[i,J4 V 0 0,J4 V 0 0,D 0] Bl) λn=>N (!X) (e U) (Loop (λK(s:Int×Unit)=>N (s.1<(j.len:Int)) (iX j.p j.len s.1 λa=>jJ (a (s.1.toNat*15)) λW=>nW (J2 pR.c Cv) λo=>sA o W.l<|jN (λ(r:Bool×Unit)=>N r.1 (e U) (K ((J8 D (s.1+1)),()))) λu=>lI o λM=>N (M>=0) (lI o λQ=>N (Q<1073741824) (jJ o λae=>cB d Fy #[J5 (Z n),ae.v] λaf=>u ((!af),())) (u (U,()))) (u (U,()))) (cI d Ku #[m] λag=>WI d Hu #[m,J7 ⟨#[]⟩,J7 ⟨#[]⟩,D 1048576] λp ah=>nW (J2 BR.c Aj) λf=>lI b λt=>jN (λ(aH:Unit)=>lI f λai=>N (ai==0) (e Y) (WI d Hu #[m,J7 ⟨#[]⟩,J7 ⟨#[]⟩,D 1048576] λv aj=>jN (λ(ak:Bool×Unit)=>N ak.1 (e U) (Loop (λal(c:Int×Unit)=>N (c.1<(p.len:Int)) (iX p.p p.len c.1 λw=>lS (w (c.1.toNat*3)) λy=>lS (w (c.1.toNat*3) 1) λz=>lB (w (c.1.toNat*3) 2) λB=>iX v.p v.len c.1 λx=>lS (x (c.1.toNat*3)) λC=>lS (x (c.1.toNat*3) 1) λF=>lB (x (c.1.toNat*3) 2) λH=>rB d (do eqGuard .neq Ai (.tmp 153) (.tmp 157) (.agg #[y,z,B]) (.agg #[C,F,H]);binOp .neq Ai (.agg #[y,z,B]) (.agg #[C,F,H])) λO=>N O (e U) (al ((J8 D (c.1+1)),()))) (e Y)) (0,()))) λg=>N (ah !=0) (g (Y,())) (N (aj !=0) (g (Y,())) (cI d Ku #[m] λan=>N (an !=ag) (g (Y,())) (N ((p.len:Int)!=(v.len:Int)) (g (Y,())) (lI (f 1) λao=>N (ao !=0) (g (Y,())) (lI (f 2) λap=>N (ap !=0) (g (Y,())) (lL (f 8) λT=>g (((T.len:Int)!=0),()))))))))) λl=>N (t==8) (lI (n 3) λar=>PD b λau=>Hw d MS #[i,.nilIface,ar,au.v] λav=>sA f av.l<|l ()) (N (t==9) (lI (n 3) λaw=>PD b λax=>Hw d QC #[i,.nilIface,aw,ax.v] λay=>sA f ay.l<|l ()) (N (t==5) (lS (b 2) λaz=>Hw d Fu #[i,az] λaA=>sA f aA.l<|l ()) (N (t==6) (lS (b 2) λaB=>lI (b 9) λaC=>Hw d MR #[i,.nilIface,aB,aC] λaD=>sA f aD.l<|l ()) (lI (n 3) λaE=>PD b λaF=>Hw d CS #[i,.nilIface,aE,aF.v] λaG=>sA f aG.l<|l ())))))) (0,()))))) k):AJ d P LA #[j,a5.v] k e:=Ae [(34,[(35,aV)]),(46,[(52,aL)]),(62,[]),(92,[(144,aL)]),(102,[(147,aV)])] (by kernel_rfl) I
end Go.Lf
