/-
 The law EngineFences as a formula.
-/
import Derived.Test.YtebeggcpmdegnaaGreatDoorLfGP1ToY5
set_option maxRecDepth 100000
set_option linter.unusedVariables false
set_option linter.unusedSimpArgs false
set_option linter.defProp false
set_option linter.unnecessarySimpa false
open Go.IntKind renaming i64→D,wrap→J8
open Go.Value renaming string→J7,int→J6,pointer→J5,slice→J4,bool→J3,tuple→J1
open Go.Obj renaming cells→J2
open Go renaming Value→J0,Addr→Q6,TypeId→Q7,FuncId→Q8,Program→Q1
open Go.Addr renaming add→Q9,mk→Q5
open Option renaming some→Z,none→V
open Bool renaming true→Y,false→U
open List renaming length→J
namespace Go.Lf
open Go
variable{d:ai}{k:W}{e:A41}{j:Sl}{i:Int}
theorem Qy(ag:(cB d G9 #[] λah=>N (!ah) (e U) (N ((j.len:Int)>60) (e Y) (pg d El #[] λai q aj=>nW (J2 #[q,J4 V 0 0,J4 V 0 0,D 0] Bl) λb=>kH d Qa #[ai,J7 ⟨#[104,111,115,116,49]⟩,D 4] λp ak=>jN (λ(r:Bool×Unit)=>N r.1 (e U) (Loop (λal(s:Int×Unit)=>N (s.1<(j.len:Int)) (iX j.p j.len s.1 λa=>jJ (a (s.1.toNat*15)) λO=>nW (J2 pR.c Cv) λt=>sA t O.l<|jN (λ(an:Bool×Unit)=>N an.1 (e U) (al ((J8 D (s.1+1)),()))) λw=>lI t λao=>N (ao>=0) (lI t λap=>N (ap<1073741824) (jJ t λT=>cB d Fy #[J5 (Z b),T.v] λar=>w ((!ar),())) (w (U,()))) (w (U,()))) (iM d Fg #[p,D ((J8 D ((i.tmod (4:Int))+4)).tmod (4:Int))] λa9 au=>N (au !=0) (e U) (Loop (λav(n:Int×Unit)=>N (n.1<(j.len:Int)) (jN (λ(ba:Unit)=>av ((J8 D (n.1+1)),())) λB=>iX j.p j.len n.1 λaw=>jJ (aw (n.1.toNat*15)) λax=>nW (J2 pR.c Cv) λx=>sA x ax.l<|lS (x 1 2) λay=>iM d Oc #[ay,D 4] λaz aA=>jN (λ(aB:Bool×Unit)=>N aB.1 (B ()) (nW (J2 #[.int .u8 (J8 .u8 (J8 D ((97:Int)+(n.1.tmod (26:Int))))),.int .u8 (J8 .u8 (J8 D ((97:Int)+((J8 D (n.1.tdiv (26:Int))).tmod (26:Int)))))] Ee) λaC=>rS d (convert CZ BU (J4 (Z aC) 2 2)) λC=>cK ((((⟨#[102,101,110,99,101]⟩:E).size+C.size:Nat):Int)<=D.max)<|lS (x 1 2) λaD=>nW (J2 sD.c BN) λc=>sA c (⟨4,((⟨#[102,101,110,99,101]⟩:E)++C),aD,(⟨#[]⟩:E),(⟨V,0,0⟩:Sl),0,(⟨V,0,0⟩:Sl),0,0,0,0,U⟩:bj).l<|lS (c 2) λaE=>Hw d Fu #[p,aE] λaF=>nW (J2 BR.c Aj) λl=>sA l aF.l<|Loop (λaG(o:Bool×Int×Unit)=>N (o.2.1<(j.len:Int)) (iX j.p j.len o.2.1 λaH=>jJ (aH (o.2.1.toNat*15)) λaI=>nW (J2 pR.c Cv) λF=>sA F aI.l<|jN (λ(aJ:Bool×Unit)=>aG (aJ.1,(J8 D (o.2.1+1)),())) λH=>N o.1 (H (Y,())) (lS (F 1 1) λaK=>lS (c 1) λaM=>H ((bI aK aM),()))) (jN (λ(aO:Bool×Unit)=>N aO.1 (B ()) (jN (λ(aP:(Q2)×Unit)=>jN (λ(aQ:Bool×Unit)=>N aQ.1 (e U) (jN (λ(I:(Q2)×Unit)=>aT I.1 λaR=>lI aR λaS=>N (aS==0) (aT I.1 λaU=>lI (aU 1) λaW=>e (J3 (aW==4))) (e U)) λS=>lI (b 3) λu=>PD c λf=>aN (Hw d CS #[p,.nilIface,u,f.v] λaX=>nW (J2 BR.c Aj) λX=>gT [(c,f.akB),(c 1,f.aH),(c 2,f.akD),(c 3,f.name),(c 4,f.akC),(c 5,f.aw),(c 6,f.bS),(c 7,f.akK),(c 8,f.akG),(c 9,f.bA),(c 10,f.ak),(c 11,f.aF)]<|gT [(b 3,u)]<|sA X aX.l<|S ((Z X),()))<|nW (J2 BR.c Aj) λW=>gT [(c,f.akB),(c 1,f.aH),(c 2,f.akD),(c 3,f.name),(c 4,f.akC),(c 5,f.aw),(c 6,f.bS),(c 7,f.akK),(c 8,f.akG),(c 9,f.bA),(c 10,f.ak),(c 11,f.aF)]<|gT [(b 3,u)]<|Hw d CS #[p,.nilIface,u,f.v] λaY=>sA W aY.l<|S ((Z W),()))) λy=>aT aP.1 λaZ=>lI aZ λa0=>N (a0 !=170) (y (Y,())) (cI d EE #[q,D ((J8 D ((i.tmod (4:Int))+4)).tmod (4:Int))] λa1=>N (a1 !=0) (y (Y,())) (lS (c 2) λa2=>CP l λm=>Hw d Fu #[p,a2] λa3=>gT [(l,m.err),(l 1,m.akE),(l 2,m.next),(l 3,m.task.akB),(l 4,m.task.akD),(l 5,m.task.akK),(l 6,m.task.akG),(l 7,m.name),(l 8,m.aI)]<|cB d IA #[a3.v,m.v] λa4=>y ((!a4),())))) λM=>lI (b 3) λv=>PD c λg=>aN (Hw d CS #[q,.nilIface,v,g.v] λa5=>nW (J2 BR.c Aj) λQ=>gT [(c,g.akB),(c 1,g.aH),(c 2,g.akD),(c 3,g.name),(c 4,g.akC),(c 5,g.aw),(c 6,g.bS),(c 7,g.akK),(c 8,g.akG),(c 9,g.bA),(c 10,g.ak),(c 11,g.aF)]<|gT [(b 3,v)]<|sA Q a5.l<|M ((Z Q),()))<|nW (J2 BR.c Aj) λae=>gT [(c,g.akB),(c 1,g.aH),(c 2,g.akD),(c 3,g.name),(c 4,g.akC),(c 5,g.aw),(c 6,g.bS),(c 7,g.akK),(c 8,g.akG),(c 9,g.bA),(c 10,g.ak),(c 11,g.aF)]<|gT [(b 3,v)]<|Hw d CS #[q,.nilIface,v,g.v] λa6=>sA ae a6.l<|M ((Z ae),()))) λz=>lI l λa7=>N (a7 !=0) (z (Y,())) (lI (l 1) λa8=>N (a8 !=0) (z (Y,())) (z (o.1,()))))) (U,0,()))) λaf=>N (aA !=0) (af (Y,())) (af ((az !=((J8 D ((i.tmod (4:Int))+4)).tmod (4:Int))),()))) (e Y)) (0,())))) (0,()))) λK=>N (!aj) (K (Y,())) (K ((ak !=0),()))))) k):AJ d P Ls #[j,i] k e:=Ae [(26,[(50,aL)]),(36,[(53,aV)]),(48,[(70,aL)]),(71,[(86,aV)]),(79,[]),(86,[(104,aL)]),(100,[(22,aL),(127,aV)]),(111,[(22,aL)]),(115,[(151,aL)]),(121,[(25,iu)]),(123,[(176,aL)]),(130,[(26,iu)])] (by kernel_rfl) ag
end Go.Lf
