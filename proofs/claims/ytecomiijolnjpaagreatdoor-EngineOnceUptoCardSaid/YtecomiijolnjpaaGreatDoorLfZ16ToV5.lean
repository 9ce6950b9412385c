/-
 Contract: a store is opened as it was left (chapter 9).
-/
import Derived.Test.YtecomiijolnjpaaGreatDoorLfZ7ToZ15
import Derived.Test.YtecomiijolnjpaaGreatDoorLfU2ToY5
import Derived.Test.YtecomiijolnjpaaGreatDoorCards
import Derived.Test.YtecomiijolnjpaaGreatDoorTie
import Derived.Deep.DeepHandedRow
import Derived.Lib.LaidTab
import Derived.Stop.LaidErr
import Derived.Test.YtecomiijolnjpaaGreatDoorLfY6ToM10
import Derived.Test.YtecomiijolnjpaaGreatDoorRows
import Derived.WalkKit
import Derived.ProofKit
import Derived.OpenShut
import Derived.JoinedCond
import Derived.Deep.Slices
import Derived.Carry
import Derived.Test.YtecomiijolnjpaaGreatDoorLfG1
import Derived.Test.YtecomiijolnjpaaGreatDoorLfU30ToGA
import Derived.Test.YtecomiijolnjpaaGreatDoorLfM11ToZ6
import Derived.Test.YtecomiijolnjpaaGreatDoorLfIToU29
set_option maxRecDepth 100000
set_option linter.unusedVariables false
set_option linter.unusedSimpArgs false
open Go.IntKind renaming i64→J9,wrap→J8
open Go.Value renaming string→J7,int→J6,pointer→J5,slice→J4,bool→J3,tuple→J1
open Go.Obj renaming cells→J2
open Go renaming Value→J0,Addr→Q6,TypeId→Q7,FuncId→Q8,Program→Q1
open Go.Addr renaming add→Q9,mk→Q5
namespace Go.Lf.G
open Go
open M (Sorted Ag Cs BC Ah Aw Be Am bH BK)
def KC(D:Bg):List (Nat×List Pr):=(List.range D.aR).flatMap λa=>(D.L a).map λb=>(a,b)
def O8(f:Nat)(l:List (Nat×List Pr)):List (List Pr):=(l.filter λp=>decide (f<=p.1)).map (·.2)
theorem Yc(f:Nat)(a b:List (Nat×List Pr)):O8 f (a++b)=O8 f a++O8 f b:=by simp[O8]
theorem yM(D:Bg):O8 (Ak D).aU (KC D)=IJ D:=by
 unfold KC IJ;have key: ∀L:List Nat,O8 (Ak D).aU (L.flatMap λa=>(D.L a).map λb=>(a,b))=L.flatMap λa=>if a<(Ak D).aU then [] else D.L a:=by
  intro L
  induction L with
  |nil=>rfl
  |cons a L d=>
   rw[AI,AI,Yc,d];congr 1;unfold O8;rw[Pa];split
   ·rename_i h;have:(λb:List Pr=>decide ((Ak D).aU<=((a,b):Nat×List Pr).1))=λ_=>false:=by funext b;simp;omega
    simp[G4];omega
   ·rename_i h;simp[G4];intro b _;omega
 exact key _
theorem ARY {d:bR}{D:Bg}(h:BD d D): ∀p∈KC D,p.1<=99999999/\YF p.2:=λp e=>by
 obtain⟨a,f,i⟩:=List.mem_flatMap.1 e;obtain⟨b,j,rfl⟩:=List.mem_map.1 i;have:=List.mem_range.1 f;have:=h.cC;exact⟨by show a<=_;omega,h.fW a b j⟩
theorem ANK(D:Bg):((List.range D.aR).flatMap λa=>(D.L a).map (BM a)).map AX=(KC D).map λp=>AX (BM p.1 p.2):=by
 unfold KC;rw[Lz,Lz];unfold List.flatMap;congr 1;refine CT λa _=>?_
 rw[B9,B9];rfl
theorem ARC {f:Nat}{l:List (Nat×List Pr)}(i:Nat):(O8 f (l.take i)).flatten.length<=(O8 f l).flatten.length:=by
 conv=>rhs;rw[<- DG i l,Yc,N6,A1]
 omega
theorem AJ4(D:Bg):((List.range D.aY).flatMap λa=>(D.N a).map Dz).map AX=(NF D).map λx=>AX (Dz x):=by unfold NF;rw[Lz,Lz];unfold List.flatMap;congr 1;exact CT λa _=>by rw[B9];rfl
theorem View.modn {e:Type}{d:cy e}{h f:aa}{s:Sl}{l:List e}{j:Nat->Prop}(v:View d h s l)(m:Mod j h f)(o: ∀c,s.af=some c->c<h.size-> ¬j c):View d f s l:=by refine⟨v.len,v.cap,λi x p=>?_⟩;obtain⟨a,k,n⟩:=v.cells i x p;refine⟨a,k,n.mod m ?_⟩;have r:=d.pos;have t:=d.len x;obtain⟨u,q⟩: ∃u,(d.enc x)[0]? =some u:=⟨_,A2 (by omega)⟩;have:=Ur (n 0 u q);rw[aN,aN] at this;rw[aN];exact o _ (by simp[Sl.af,k]) this
section
variable {A : ak} {B : cJ} {g h : aa} {b : Nat} {Sb : Nat -> Prop} {m : Bx} {D : Bg} {aJ c : Nat} {R : A2O}
theorem ANj(E:cp g)(aH:Cf h b Sb m)(Q:Ext g h)(b9: ∀c,Sb c->g.size<=c)(hd:m.down=false)(ac:BD (ff m) D)(C:iW (ff m) D aJ c)(d:c<=B.C)(hA:aJ+1<=B.A)(bp:bd m.files<=B.W0+aJ*B.K)
  (di:m.fuel≠ -1-> ∀ai dj S' aj,Cf ai b S' aj->aj.down=true->Mod Sb h ai->(∀ c,S' c->Sb c\/h.size<=c)->gW (ff aj) (aJ+1) c (cz D)->(∀ w,¬da w->ff aj w=ff m w)->bd aj.files<=B.W0+(aJ+1)*B.K->R (J1 #[Az dj,J6 J9 30]) ai)
  (dk: ∀ai bq ca cb aj dl,bq.b=b->Bn B g ai bq ca cb aj dl (aJ+1) c->JO m aj->CY cb=cz D->(∀ w,¬da w->ff aj w=ff m w)->Mod Sb h ai->(∀ c,ca c≠0->Sb c\/h.size<=c)->R (J1 #[Az bq.d,J6 J9 0]) ai):
  AA A P Ru #[Az b] h R:=by
 have e9:=B.hA;have fa:=B.hC;have cc:=A5 bp (B.wt (a:=aJ) (by omega));have ay:=ac.cC;have S:=yC ac;have fb:=C.aR;have fc:=C.aY;have fd:=C.aU;have dm:=C.next;have fe:=C.ct;have ak: ∀c,Sb c->c<h.size:=λc d=>aH.lt d
 refine AIC ?_;unfold tO;refine y5 (E.ext Q) aH hd (by decide) (by decide) cc (λai l aW dn _=>?_) λj l nt sl aW dn cd ce cf v1 fg=>⟨_,_,_,rfl,ae.no rfl ?_⟩
 ·obtain⟨_,dp,_⟩:=Xj hd ac.note aW ay.2.2;omega
 obtain⟨cg,dp,dq⟩:=Xj hd ac.note aW ay.2.2;rw[AJ4] at cg;have br:=qY (nm:=nn) (m:=m) hd aW.inc;rw[cg] at v1 br;have dr:1<=l.getLast?.getD 0+1:=by omega
 generalize l.getLast?.getD 0+1=aL at*
 refine M.rQ λo ds bs fh=>⟨_,rfl,al.mk λI _ ch aY fi=>?_⟩
 have ci:=cd.trans bs;have cj:=ci.trans aY;have dt:nt<j.size:=Af cf;have ck:EI I nt b nn aL false:=EI.ext (EI.ext cf bs) aY;have cl:M.cT I j.size [] []:=ds.ext aY;have cm:=(v1.ext bs).ext aY;have fj:=cd.size;refine ah.mk λK du=>?_
 have bt: ∀(hB:aa) (np:Sl),Ext h hB->hB[o.size]? =some (J2 #[Az b,J5 none,Az nt,Az j.size,J4 none 0 0,J4 np.p np.len np.cap,J6 J9 ((Ak D).next:Int),J6 J9 ((Ak D).aU:Int),J3 false] Et (0,0))->
   Own IC BN hB np ((Ak D).names.map λn:Nat=>(n:Int))->(∀ c,np.af=some c->o.size<c)->EI hB nt b nn aL false->M.cT hB j.size [] []->K () hB:=by
  intro hB np aZ aI aq ad dv dw;refine du _ _ ?_;have fk:=aZ.size;have fl:=E.ext (Q.trans aZ);have dx:o.size<hB.size:=Af aI;have fm:h.size<=o.size:=ci.size;refine AY.mk (s:=np) (AB aI rfl) ?_;have cn:np.len=(Ak D).names.length:=by rw[aq.len];simp
  refine Loop.rule (λF x k=> ∃(i:Nat) (tp:Sl) (ps:List Nat),x=((i:Int),())/\F=(Ak D).names.length-i/\i<=(Ak D).names.length/\Mod (λc=>c=o.size\/hB.size<=c) hB k/\
    k[o.size]? =some (J2 #[Az b,J5 none,Az nt,Az j.size,J4 tp.p tp.len tp.cap,J4 np.p np.len np.cap,J6 J9 ((Ak D).next:Int),J6 J9 ((Ak D).aU:Int),J3 false] Et (0,0))/\
    Own fG BF k tp ps/\ps.length=i/\(∀ c,tp.af=some c->hB.size<=c)/\ ∀(r t n:Nat),ps[r]? =some t->(Ak D).names[r]? =some n-> ∃T U,bX k t (D.T n) (Mh (D.T n)) T U/\hB.size<=T/\U<=k.size/\ ∀c,tp.af=some c-> ¬(T<=c/\c<U)) ?_
   ⟨0,⟨none,0,0⟩,[],rfl,rfl,AG _,Mod.refl,aI,Own.nil,rfl,λc d=>by simp[Sl.af] at d,λr t n e=>by simp at e⟩
  rintro fn F _ k ⟨i,tp,ps,rfl,rfl,U,J,ar,ap,bu,au,co⟩ cq;dsimp only;have cr:=J.size;have V:Ext h k:=aZ.then (J.ai λc _ d=>by omega);have dy:View IC k np ((Ak D).names.map λn:Nat=>(n:Int)):=aq.view.mod J λc d e=>by
   have:=ad c d;have:=aq.lt d;omega
  rw[cn];refine ae.intro (λu=>?_) (λu=>?_)
  ·have v:i<(Ak D).names.length:=by have:=of_decide_eq_true u;omega
   have ag:(Ak D).names[i]? =some (Ak D).names[i]:=A2 v;have cs:(Ak D).names[i]∈(Ak D).names:=AT v;have fo:=S.below _ cs;have fp:=S.next;have fq:=S.ct;obtain⟨dz,dA⟩:=ac.cM _ cs;rw[<- cn];refine dy.idx (i:=i) (x:=((Ak D).names[i]:Int)) (by rw[Bk,ag];rfl) λa _ av=>AC.mk av.int ?_
   generalize (Ak D).names[i]=nm at*
   refine QN (E.ext (Q.trans V)) (by omega) λa0 bv=>⟨_,rfl,?_⟩
   refine oQ (aH.ext (V.trans bv)) ⟨_,_,rfl,?_⟩;rw[qw hd,dz];dsimp only;rw[YK];refine ae.no rfl ?_;refine yq dA.eE λa1 t ct dB=>⟨_,_,rfl,ae.no rfl ?_⟩
   have a2:=bv.trans ct;have cu:=Aj a2 ar;refine AY.mk (s:=tp) (AB cu rfl) ?_;have fr:=bv.size;have fs:=ct.size;refine al.aZ (E:=fG) (x:=t) (s:=tp) (l:=ps) rfl uP (ap.ext a2) (by omega) (by simp[maxLen];omega) λaK ft dC aN bw _=>?_
   have dD:=aN.af cu (λe=>by have:=au _ e;omega);refine ab.dj dD (by simp) λfu dE a3 fv=>?_
   rw[AZ (by omega)];have cv: ∀c,aK.af=some c->hB.size<=c:=λc d=>by
    rcases bw c d with h|h
    ·exact au c h
    ·omega
   have fw:=aN.size;refine cq ((Ak D).names.length-(i+1)) _ _ (by omega) ⟨i+1,aK,ps++ [t],rfl,rfl,v,?_,by simpa using dE,dC.mod a3 (λc d e=>by have:=cv c d;omega),by simp[bu],cv,λr t' n af W=>?_⟩
   ·exact(J.trans (Ext.mod a2)).trans ((aN.ai λc _ d=> .inr (au c d)).trans (a3.ai λc _ d=> .inl d))
   ·by_cases cw:r<ps.length
    ·rw[Fc cw] at af;obtain⟨T,bx,bz,bA,cx,a4⟩:=co r t' n af W;refine⟨T,bx,((bz.ext a2).mod aN λc am an d=>a4 c d ⟨am,an⟩).mod a3 (λc am an d=>by omega),bA,by omega,λc d cy=>?_⟩;rcases bw c d with h|h
     ·exact a4 c h cy
     ·omega
    ·have dF:r=ps.length:=by have:=(List.getElem?_eq_some_iff.1 af).1;simp at this;omega
     subst dF;rw[DE (A0 _)] at af;simp at af;subst af;rw[bu,ag] at W;cases W;refine⟨a0.size,a1.size,(dB.mod aN λc am an d=>by have:=ap.lt d;omega).mod a3 (λc am an d=>by omega),by omega,by omega,λc d cy=>?_⟩;rcases bw c d with h|h
     ·have:=ap.lt h;omega
     ·omega
  have v:i=(Ak D).names.length:=by have:=of_decide_eq_false u;omega
  clear cq U u;have dG:EI k nt b nn aL false:=dv.mod J (by omega);have dH:M.cT k j.size [] []:=dw.mod J λc d e=>by
   rcases d with rfl|⟨w,y,_⟩
   ·omega
   ·cases y
  refine y5 (E.ext (Q.trans V)) (aH.ext V) hd (by decide) (by decide) cc (λai bB a5 dI _=>?_) λdJ bB X bC a5 dI az dK cB cC bD=>⟨_,_,_,rfl,ae.no rfl ?_⟩
  ·obtain⟨_,dL,_⟩:=Xj hd ac.log a5 ⟨ay.1,ay.2.1⟩;omega
  obtain⟨cD,dL,dM⟩:=Xj hd ac.log a5 ⟨ay.1,ay.2.1⟩;rw[ANK] at cD;have cE:=qY (nm:=nl) (m:=m) hd a5.inc;rw[cD] at cC cE;have fx:1<=bB.getLast?.getD 0+1:=by omega
  generalize bB.getLast?.getD 0+1=a6 at*
  have dN:=Aj az ar;have fy:X<dJ.size:=Af cB;refine ab.dj dN (by simp) λaO dO aw fz=>?_
  have fA:=az.size;have fB:o.size<k.size:=Af ar;have dP:EI aO X b nl a6 false:=EI.mod cB aw (by omega);have dQ:Cf aO b Sb m:=((aH.ext V).ext az).mod aw λc d e=>by have:=ak c d;omega
  have dR: ¬Sb X:=λd=>by have:=ak _ d;have:=V.size;omega
  have a7:Ext h aO:=(V.trans az).then (aw.ai λc _ d=> .inr (by omega));have fC:=aw.size;refine Loop.rule (λF (_:Unit) Q=> ∃s:Nat,F=(Ak D).aU-s/\EI Q X b nl s false/\Cf Q b Sb m/\Mod (λc=>Sb c\/c=X) aO Q/\a6<=s/\(s=a6\/s<=(Ak D).aU)) ?_ ⟨a6,rfl,dP,dQ,Mod.refl,A0 _,.inl rfl⟩;rintro fE F _ H ⟨s,rfl,bE,cF,Y,fF,fH⟩ cG;have fI:=S.aU;have aA:=Y.af dO (by rintro(h|h);have:=ak _ h;omega;omega);have cH:Ext g H:=(Q.trans a7).then (Y.ai λc _ d=>by
   rcases d with d|rfl
   ·exact .inr (b9 c d)
   ·exact .inr (by have:=Q.size;have:=V.size;omega))
  have dS:cp H:=E.ext cH;refine Ab.mk (AB aA rfl) ?_;refine OO ?_;unfold LK;refine ae.no rfl (aF (AC.mk (AB bE rfl) ⟨_,rfl,?_⟩));refine AC.mk (AB aA rfl) ⟨AB aA rfl,?_⟩;refine ae.intro (λbF=>?_) (λbF=>?_)
  ·have bG:=of_decide_eq_true bF;refine Ab.mk (AB aA rfl) ?_;refine WV dS bE cF dR (by decide) (by omega) (λbH=>absurd rfl bH) λ_ fJ dT dU dV=>⟨_,_,rfl,ae.no rfl ?_⟩
   exact cG ((Ak D).aU-(s+1)) _ _ (by omega) ⟨s+1,rfl,dU,dT,Y.trans dV,by omega,.inr (by omega)⟩
  have dW:(Ak D).aU<=s:=by have:=of_decide_eq_false bF;omega
  clear cG;have fK:=Y.size;have cI:View IQ H bC ((KC D).map λp=>AX (BM p.1 p.2)):=(cC.mod aw λc d e=>by have:=(bD c d).1;omega).mod Y λc d e=>by
   have j:=bD c d;rcases e with e|e
   ·have:=ak c e;have:=V.size;omega
   ·exact j.2 e
  have dX: ∀c,bC.af=some c->k.size<=c:=λc d=>(bD c d).1
  have d0:M.cT H j.size [] []:=((dH.ext az).mod aw λc d e=>by
   rcases d with rfl|⟨w,y,_⟩
   ·omega
   ·cases y).mod Y λc d e=>by
   rcases d with rfl|⟨w,y,_⟩
   ·rcases e with e|e
    ·have:=ak _ e;omega
    ·have:=V.size;omega
   ·cases y
  have cJ:bC.len=(KC D).length:=by rw[cI.len];simp
  have d1:=ARY ac;have d2:=C.bZ;have fL:(O8 (Ak D).aU (KC D)).flatten.length<=c:=by rw[yM];have:Nn D=_:=rfl;unfold Nn at d2;omega
  refine Loop.rule (λF aP y=> ∃(i:Nat) (ns:List M.DC),aP=((i:Int),())/\F=(KC D).length-i/\i<=(KC D).length/\Mod (λc=>c=j.size\/H.size<=c) H y/\M.cT y j.size ns (BC [] (O8 (Ak D).aU ((KC D).take i)).flatten)/\ ∀c,M.cQ j.size ns c->c=j.size\/H.size<=c) ?_
   ⟨0,[],rfl,rfl,AG _,Mod.refl,d0,λc d=>by
    rcases d with rfl|⟨w,y,_⟩
    ·exact .inl rfl
    ·cases y⟩
  rintro fM F _ ao ⟨i,ns,rfl,rfl,U,L,aQ,bI⟩ bJ;dsimp only;have fO:=L.size;have d3:=View.modn cI L λc d bG e=>by have:=dX c d;omega
  have cK:=L.af aA (by omega);rw[cJ];refine ae.intro (λu=>?_) (λu=>?_)
  ·have v:i<(KC D).length:=by have:=of_decide_eq_true u;omega
   have ag:(KC D)[i]? =some (KC D)[i]:=A2 v;obtain⟨cL,a8⟩:=d1 _ (AT v);have cM:(KC D).take (i+1)=(KC D).take i++ [(KC D)[i]]:=by rw[AD,ag];rfl
   have d4:=ARC (f:=(Ak D).aU) (l:=KC D) (i+1);refine ah.mk λfP bK=>?_
   rw[<- cJ];refine d3.idx (i:=i) (x:=AX (BM (KC D)[i].1 (KC D)[i].2)) (by rw[Bk,ag];rfl) λa _ av=>AJ.mk av.str ?_
   have d5:J8 J9 ((i:Int)+(1:Int))=((i+1:Nat):Int):=AZ (by rw[BE] at cE;omega);rw[d5] at bK;generalize (KC D)[i]=pp at*
   obtain⟨bM,z⟩:=pp;dsimp only at cL a8 ⊢;refine AJq cL a8.len a8.ok λcN d6 cO aD d7=>⟨_,_,_,rfl,ae.no rfl ?_⟩
   have d8:=Aj aD cK;refine AC.mk (AB d8 rfl) ?_;refine ae.intro (λbN=>?_) (λbN=>?_)
   ·have bG:=of_decide_eq_true bN;refine bK _ _ (bJ ((KC D).length-(i+1)) _ _ (by omega) ⟨i+1,ns,rfl,rfl,v,L.trans (Ext.mod aD),?_,bI⟩);have e:O8 (Ak D).aU ((KC D).take (i+1))=O8 (Ak D).aU ((KC D).take i):=by
     rw[cM,Yc];have:O8 (Ak D).aU [(bM,z)]= []:=by unfold O8;rw[AW,if_neg (by simp;omega)];rfl
     rw[this,AN]
    rw[e];exact aQ.ext aD
   ·have d9:(Ak D).aU<=bM:=by have:=of_decide_eq_false bN;omega
    have e:(O8 (Ak D).aU ((KC D).take (i+1))).flatten=(O8 (Ak D).aU ((KC D).take i)).flatten++z:=by
     rw[cM,Yc];have:O8 (Ak D).aU [(bM,z)]= [z]:=by unfold O8;rw[AW,if_pos (by simpa using d9)];rfl
     rw[this];simp
    rw[e,A1] at d4;have fQ:=aD.size;refine Loop.rule (λF aP a9=> ∃(r:Nat) (aR:List M.DC),aP=((r:Int),())/\F=z.length-r/\r<=z.length/\Mod (λc=>c=j.size\/H.size<=c) H a9/\M.cT a9 j.size aR (BC (BC [] (O8 (Ak D).aU ((KC D).take i)).flatten) (z.take r))/\(∀ c,M.cQ j.size aR c->c=j.size\/H.size<=c)/\View BR a9 cN z/\(∀ c,cN.af=some c-> ¬M.cQ j.size aR c)/\d6.size<=a9.size) ?_
     ⟨0,ns,rfl,rfl,AG _,L.trans (Ext.mod aD),aQ.ext aD,bI,cO.view,λc d aS=>by have:=d7 c d;have:=aQ.lt aS;omega,A0 _⟩
    rintro fR F _ fS ⟨r,aR,rfl,rfl,cw,ba,bO,bP,bb,cP,fT⟩ ea;dsimp only;have eb:=ba.af aA (by omega);have fU:=a8.len;rw[bb.len];refine ae.intro (λu=>?_) (λu=>?_)
    ·have bc:r<z.length:=by have:=of_decide_eq_true u;omega
     have cQ:z[r]? =some z[r]:=A2 bc;rw[<- bb.len];refine bb.idx cQ λa _ av=>?_
     obtain⟨cR,ec,ed⟩:=av.pair;refine AJ.mk cR (AJ.mk ec (Ac.mk ed (al.pair λfV fW _ bQ aT fX=>?_)));have ee:=Aj aT eb;refine Ab.mk (AB ee rfl) ?_;refine AJ.mk (AL bQ rfl) (AJ.mk (AB bQ rfl) (Ac.mk (AB bQ rfl) ?_));have ef:=M.Ql (l:=(O8 (Ak D).aU ((KC D).take i)).flatten) (t:= []);have eg:=M.Ql (l:=z.take r) (t:=BC [] (O8 (Ak D).aU ((KC D).take i)).flatten);rw[AH] at eg;simp only[FG,AK] at ef;refine M.rR (x:=z[r]) (bO.ext aT) (by omega) λeh fY ei bR cS=>⟨_,rfl,?_⟩
     rw[AZ (by omega)];have fZ:=ba.size;have f0:=aT.size;refine ea (z.length-(r+1)) _ _ (by omega) ⟨r+1,eh,rfl,rfl,bc,(ba.trans (Ext.mod aT)).trans (bR.ai λc _ d=>bP c d),by rw[M.rS cQ];exact ei,λc d=>?_,(bb.ext aT).mod bR (λc d aS=>cP c d aS),λc d aS=>?_,by have:=bR.size;omega⟩
     ·rcases cS c d with h|h
      ·exact bP c h
      ·exact .inr (by omega)
     ·rcases cS c aS with h|h
      ·exact cP c d h
      ·have:=cO.lt d;omega
    ·have bc:r=z.length:=by have:=of_decide_eq_false u;omega
     subst bc;rw[C5] at bO;refine bK _ _ (bJ ((KC D).length-(i+1)) _ _ (by omega) ⟨i+1,aR,rfl,rfl,v,ba,?_,bP⟩);rw[e,yZ];exact bO
  have ej:i=(KC D).length:=by have:=of_decide_eq_false u;omega
  subst ej;rw[C5,yM] at aQ;clear bJ;have be:Mod (λc=>c=o.size) k aO:=(Ext.mod az).trans aw;have aM: ∀c,hB.size<=c->c<k.size-> ¬(c=o.size)/\ ¬(Sb c\/c=X)/\ ¬(c=j.size\/H.size<=c):=λc am an=>by
   refine⟨by omega,?_,by omega⟩;rintro(h|h)
   ·have:=ak c h;have:=aZ.size;omega
   ·omega
  have bf: ∀c,h.size<=c->c<k.size->c≠o.size->c≠j.size-> ¬(c=o.size)/\ ¬(Sb c\/c=X)/\ ¬(c=j.size\/H.size<=c):=λc am an ek f1=>by
   refine⟨ek,?_,by omega⟩;rintro(h|h)
   ·have:=ak c h;omega
   ·omega
  have el:Own fG BF ao tp ps:=((ap.mod be λc d=>(aM c (au c d) (ap.lt d)).1).mod Y λc d=>(aM c (au c d) (ap.lt d)).2.1).mod L λc d=>(aM c (au c d) (ap.lt d)).2.2
  have O: ∀c,np.af=some c->h.size<=c/\c<k.size/\c≠o.size/\c≠j.size:=λc d=>by have:=ad c d;have:=aq.lt d;omega
  have en:Own IC BN ao np ((Ak D).names.map λn:Nat=>(n:Int)):=(((aq.mod J λc d e=>by have:=O c d;have:=aq.lt d;omega).mod be λc d=>(bf c (O c d).1 (O c d).2.1 (O c d).2.2.1 (O c d).2.2.2).1).mod Y λc d=>(bf c (O c d).1 (O c d).2.1 (O c d).2.2.1 (O c d).2.2.2).2.1).mod L λc d=>(bf c (O c d).1 (O c d).2.1 (O c d).2.2.1 (O c d).2.2.2).2.2
  have bS:=bf nt ce (by omega) (by omega) (by omega);have eo:EI ao nt b nn aL false:=((dG.mod be bS.1).mod Y bS.2.1).mod L bS.2.2;have ep:EI ao X b nl s false:=bE.mod L (by omega);have eq:Cf ao b Sb m:=cF.mod L λc d=>by have:=ak c d;omega
  have er:Ext g ao:=cH.then (L.ai λc _ d=> .inr (by have:=Q.size;omega));have es: ∀(i:Nat) (t:Nat) (p:Nat×List Pr),ps[i]? =some t->((Ak D).names.map λn=>(n,D.T n))[i]? =some p-> ∃T U,bX ao t p.2 (Mh p.2) T U/\hB.size<=T/\U<=k.size/\(∀ c,tp.af=some c-> ¬(T<=c/\c<U))/\Gv p.2:=λcT t p af W=>by
   rw[Bk] at W;cases bg:(Ak D).names[cT]? with
   |none=>rw[bg] at W;cases W
   |some n=>
    rw[bg] at W;cases W;obtain⟨T,bx,bz,bA,cx,a4⟩:=co cT t n af bg;refine⟨T,bx,((bz.mod be λc am an=>(aM c (by omega) (by omega)).1).mod Y λc am an=>(aM c (by omega) (by omega)).2.1).mod L λc am an=>(aM c (by omega) (by omega)).2.2,bA,cx,a4,(ac.cM n (AF bg)).2⟩
  have cU:((Ak D).names.map λn=>(n,D.T n)).map (·.1)=(Ak D).names:=by rw[B9];exact KK _
  obtain⟨cR,et,bh⟩:=bL.make (g:=g) (h:=ao) (q:=⟨o.size,b,X,nt,j.size,Sb,ns,tp,np,ps⟩) (st:=⟨Ea D,(Ak D).names.map λn=>(n,D.T n),(Ak D).next,(Ak D).aU,s,aL,false⟩) (m:=m) (N0:=h.size) (NB:=hB.size) (NC:=k.size) (ND:=H.size)
   (by simpa [dY] using cK) eq ep eo aQ el (by simp[bu,v]) (by unfold dZ;rw[B9];exact en) er Q.size (λc d=>⟨b9 c d,ak c d⟩)
   ce dt (by show j.size<o.size;omega) dx cr dK (by show X<H.size;omega) (λc d=>⟨ad c d,aq.lt d⟩) (λc d=>⟨au c d,ap.lt d⟩) bI es (by omega)
  have bT:Mod Sb h ao:=by refine⟨by have:=a7.size;omega,λc d Z=>?_⟩;have af:=a7.get c d (λh=>h);have f2:=a7.size;have W:=Y.get c (by omega) (by rintro(h|h);exact Z h;have:=V.size;omega);have eu:=L.get c (by omega) (by omega);exact eu.trans (W.trans af)
  have f3:=bT.size;have cV: ∀n,ff m (aX n)≠none->n<8*aJ+8:=C.mC;have f4:=Uw m.files;refine ANq (N:=8*aJ+8) (q:=⟨o.size,b,X,nt,j.size,Sb,ns,tp,np,ps⟩) E et hd ac cU.symm (by omega) cV dm (by simp;omega) (by omega)
   (λev bU cW aE ew ex bV ey bW aU ez bY=>⟨_,rfl,?_⟩) λbU cW eA aE aG eB cX bW aU eC cY eD bY bV eE=>⟨_,rfl,?_⟩
  ·refine di ev bU o.size cW aE ew ex (bT.then (bV.ai λc _ d=>bh c d)) (λc d=>?_) (λG cZ=>⟨D,bW.dB cZ,?_,rfl⟩) (λw y=>aU w λn=>Qk y n) (A5 bY (B.up (BT _) bp))
   ·rcases ey c d with h|h
    ·exact bh c h
    ·exact .inr (by omega)
   ·refine iW.mono ⟨C.aR,C.aY,C.next,C.aU,C.ct,C.bZ,λn Z=>cV n (ez n (cZ.some Z))⟩ (BT _) (A0 _)
  ·have eF: ∀n,ff aE (aC nl n)=ff m (aC nl n):=λn=>aU _ (Ls n)
   have eG: ∀n,ff aE (aC nn n)=ff m (aC nn n):=λn=>aU _ (OX n)
   have c0:Ef (ff aE) ⟨Ea D,(Ak D).names.map λn=>(n,D.T n),aG,(Ak D).aU,s,aL,false⟩ D:=
    ⟨bW,cU.symm,λp bZ=>by
     obtain⟨n,_,rfl⟩:=List.mem_map.1 bZ;rfl,rfl,cY,λp bZ=>by
     obtain⟨n,Z,rfl⟩:=List.mem_map.1 bZ;have j:=S.below n Z;have o:(Ak D).next<=aG:=cY;show n<aG;omega,rfl,λn bi b0 _=>by
     have bi:s<=n:=bi;rw[eF];exact dM n (by omega) b0,(λh=>by cases h),λn bi b0=>by rw[eG];exact dq n bi b0,⟨S.aU.1,dW⟩,dr,λn Z=>eC n Z⟩
   have eH:SV ⟨Ea D,(Ak D).names.map λn=>(n,D.T n),aG,(Ak D).aU,s,aL,false⟩ D (aJ+1) c:=by have f5:aG<=8*aJ+8:=eD;exact⟨by show s<=_;omega,by show aL<=_;omega,by show aG<=_;omega,by show((Ak D).names.map _).length<=_;simp;omega,C.bZ,by omega,by omega⟩
   refine dk bU _ eA _ aE D rfl ⟨eB,cX.up,c0,eH,A5 bY (B.up (BT _) bp),d⟩ cX c0.map.symm (λw y=>aU w λn=>Qk y n) (bT.then (bV.ai λc _ d=>bh c d)) λc d=>?_
   rcases eE c d with h|h
   ·exact bh c h
   ·exact .inr (by omega)
 have c1:sl.len=(NF D).length:=by rw[cm.len];simp
 refine ae.intro (λu=>?_) (λu=>?_)
 ·have bH:NF D≠ []:=λe=>by
   have:=of_decide_eq_true u;rw[c1,e] at this;simp at this
  obtain⟨ax,x,bj⟩: ∃ax x,NF D=ax++ [x]:=⟨_,_,(List.dropLast_concat_getLast bH).symm⟩;have bk:Ak D=x:=by unfold Ak;rw[bj,Tl];rfl
  have c2:sl.len=ax.length+1:=by rw[c1,bj];simp
  have f6:ax.length<=8000000000000:=by rw[bj] at br;simp at br;omega
  rw[c2];have eI:J8 J9 (((ax.length+1:Nat):Int)-(1:Int))=((ax.length:Nat):Int):=by rw[wrap_i64 (by omega) (by omega)];omega
  rw[eI,<-c2];rw[bk] at S bt;have eJ:((NF D).map λx=>AX (Dz x))[ax.length]? =some (AX (Dz x)):=by rw[bj];simp
  refine cm.idx eJ λa _ av=>AJ.mk av.str ?_
  have f7:=S.next;have f8:=S.aU;have f9:=S.ct;have c3:=S.below;have c4:Dz x=BH x.next++(BH x.aU++(BH x.names.length++(x.names.flatMap BH++ []))):=by simp[Dz,A4]
  rw[c4];have c5:=yB S;rw[c4] at c5;simp only[A1] at c5;refine Kq λc6 c7 b1=>⟨_,rfl,?_⟩
  have aI:=Aj b1 ch;refine DX (most:=2147483647) c7 (by simp only[A1];omega) (by decide) λga c8 eK=>⟨_,rfl,?_⟩
  rw[Ci (by omega) (by omega)] at c8 ⊢;refine DX (most:=99999999) c8 (by simp only[A1];omega) (by decide) λa0 c9 eL=>⟨_,rfl,?_⟩
  rw[Ci (by omega) (by omega)] at c9 ⊢;have gb:=b1.size;have bm:I.size≠o.size:=by omega
  have db:Mod (· =I.size) c6 a0:=eK.trans eL;have eM:=db.af aI (by omega);refine ab.dj eM (by simp) λgc eN eO gd=>ab.dj eN (by simp) λa1 eP eQ ge=>?_
  have dc:Mod (· =o.size) a0 a1:=eO.trans eQ;have eR:Io a1 I.size ⟨BH x.names.length++(x.names.flatMap BH++ []),false⟩:=dc.af c9 bm;refine DX (most:=65536) eR (by simp only[A1];omega) (by decide) λeS dd de=>⟨_,rfl,?_⟩
  rw[Ci (by omega) (by omega)] at dd ⊢;have eT:=de.af eP (λe=>bm e.symm);have eU:Mod (λc=>o.size<=c) I eS:=(Ext.mod b1).trans (((db.ai λc _ d=>by omega).trans (dc.ai λc _ d=>by omega)).trans (de.ai λc _ d=>by omega));refine Loop.rule (λF aP k=> ∃(i:Nat) (np:Sl),aP=((i:Int),())/\F=x.names.length-i/\i<=x.names.length/\Mod (λc=>o.size<=c) I k/\Io k I.size ⟨(x.names.drop i).flatMap BH++ [],false⟩/\Own IC BN k np ((x.names.take i).map λn:Nat=>(n:Int))/\(∀ c,np.af=some c->I.size<c)/\
    k[o.size]? =some (J2 #[Az b,J5 none,Az nt,Az j.size,J4 none 0 0,J4 np.p np.len np.cap,J6 J9 (x.next:Int),J6 J9 (x.aU:Int),J3 false] Et (0,0))) ?_
   ⟨0,⟨none,0,0⟩,rfl,rfl,AG _,eU,dd,Own.nil,λc d=>by simp[Sl.af] at d,by simpa using eT⟩
  rintro gf F _ k ⟨i,np,rfl,rfl,U,J,bn,b2,ad,ar⟩ eV;have cr:=J.size;dsimp only;refine ae.intro (λu=>?_) (λu=>?_)
  ·have v:i<x.names.length:=by have:=of_decide_eq_true u;omega
   have ag:x.names[i]? =some x.names[i]:=A2 v;have eW:x.names.drop i=x.names[i]::x.names.drop (i+1):=Fk v;have gg:=c3 _ (AT v);refine AY.mk (s:=np) (AB ar rfl) ?_;rw[eW,AI,A4] at bn;have gh:((x.names.drop (i+1)).flatMap BH).length<=600000:=by
    have:=Uh (l:=x.names.drop (i+1)) λn Z=>by have:=c3 n (HQ Z);omega
    have e:=DH (l:=x.names) (i:=i+1);omega
   have gi:=AV (n:=x.names[i]) (by omega);refine DX (most:=2147483647) bn (by simp only[A1,FG];omega) (by decide) λb3 df bo=>⟨_,rfl,?_⟩
   rw[Ci (by omega) (by omega)] at df ⊢;have b4:=bo.af ar (λe=>bm e.symm);refine⟨AB b4 rfl,al.mk λeX _ eY aV gj=>⟨AB (Aj aV b4) rfl,?_⟩⟩;have eZ:Own IC BN b3 np ((x.names.take i).map λn:Nat=>(n:Int)):=b2.mod bo λc d e=>by have:=ad c d;omega
   have e0:=eZ.ext aV;have src:View IC eX ⟨some ⟨b3.size,0,none⟩,1,1⟩ [(x.names[i]:Int)]:=(Own.lit (E:=IC) (l:= [(x.names[i]:Int)]) eY rfl (by simp[maxLen])).view;refine Gd (s:=np) (src:=⟨some ⟨b3.size,0,none⟩,1,1⟩) qW e0 src (by simp;omega) (by simp[maxLen];omega) λaK gk e1 b5 e2 _=>?_
   have e3:=b5.af (Aj aV b4) (λe=>by have:=ad _ e;omega);refine ab.dj e3 (by simp) λgl e4 b6 gm=>?_
   rw[AZ (by omega)];have gn:=bo.size;have dg: ∀c,aK.af=some c->I.size<c:=λc d=>by
    rcases e2 c d with h|h
    ·exact ad c h
    ·omega
   have go:I.size<c6.size:=Af c7;refine eV (x.names.length-(i+1)) _ _ (by omega) ⟨i+1,aK,rfl,rfl,v,?_,?_,?_,dg,by simpa using e4⟩
   ·exact J.trans ((((bo.ai λc _ d=>by omega).trans (Ext.mod aV)).trans (b5.ai λc _ d=>by have:=ad c d;omega)).trans (b6.ai λc _ d=>by omega))
   ·have e5:=aV.af df (λh=>h);have e6:=b5.af e5 (λe=>by have:=ad _ e;omega);exact b6.af e6 bm
   ·rw[AD,ag];simp only[CN,Cd,C2,Sh];exact e1.mod b6 λc d e=>by have:=dg c d;omega
  ·have v:i=x.names.length:=by have:=of_decide_eq_false u;omega
   subst v;rw[C5] at b2;rw[PA] at bn;refine NZ bn ⟨_,rfl,?_⟩;have e7:YR ⟨([]:List Nat).flatMap BH++ [],false⟩=true:=rfl;rw[e7];refine ae.no rfl ?_;have e8: ∀ {b7:Nat} {dh:Obj},I[b7]? =some dh->b7<o.size->k[b7]? =some dh:=λe bG=>J.af e (by omega)
   refine bt k np ⟨by omega,λc d Z=>?_⟩ ar b2 (λc d=>by have:=ad c d;omega) (e8 ck (by omega)) (cl.mod J λc d e=>?_)
   ·have b8:=cj.get c d Z;rw[<- b8];exact J.get c (by omega) (by omega)
   ·rcases d with rfl|⟨w,y,_⟩
    ·omega
    ·cases y
 ·have b8:NF D= []:=by have:=of_decide_eq_false u;exact CD (by omega)
  have bk:Ak D=⟨1,1,[]⟩:=by unfold Ak;rw[b8];rfl
  refine bt I ⟨none,0,0⟩ cj (by rw[bk];exact ch) (by rw[bk];exact Own.nil) (λc d=>by simp[Sl.af] at d) ck cl
end
open M (Sorted Ag Cs BC Ah Aw Be Am bH BK aV BU)
section
variable {A : ak} {B : cJ} {g h : aa} {q : Hp} {k : Nat -> Nat} {st : Db} {m : Bx} {D : Bg} {aJ c : Nat} {R : A2O}
theorem Bn.cP(a:Bn B g h q k st m D aJ c):st.fr.length<=1000000/\st.ts.length<=100000/\(Ah (st.fr::aG st)).length<=1099511627776/\(CY st).length<=100000:=by have d:=a.eU.cP a.lim;have e:=a.eU.jl a.lim;have f:=a.hc;have i:=B.hC;have b:=a.eU.kN.ct;rw[a.eU.ic] at b;have j:(CY st).length<=(Ah (st.fr::aG st)).length:=rm _;omega
theorem Bn.sorted(a:Bn B g h q k st m D aJ c):Sorted (CY st):=Eh _ _
end
def D0:Bg:=⟨λ_=> [],λ_=> [],λ_=> [],1,1⟩
theorem ATZ:Ak D0=⟨1,1,[]⟩:=rfl
theorem ATP {e:bR}(i: ∀a,e (aC nl a)=none)(d: ∀a,e (aC nn a)=none)(j: ∀x,e x≠none->(bl x).head? ≠some 116):BD e D0/\iW e D0 0 0/\cz D0= []:=by
 refine⟨⟨⟨λa p _ _ h=>?_,λ_ _ _ _=>rfl,λa _ _=>i a,λ_ _=>rfl⟩,⟨λa p _ _ h=>?_,λ_ _ _ _=>rfl,λa _ _=>d a,λ_ _=>rfl⟩,λa d=>?_,λa b l=>?_,λa x f=>?_,λx f hd=>absurd hd (j x f),by decide⟩,⟨by decide,by decide,by decide,by decide,by decide,by decide,λa d=>?_⟩,rfl⟩
 ·rw[i a] at h;cases h
 ·rw[d a] at h;cases h
 ·rw[ATZ] at d;cases d
 ·cases l
 ·cases f
 ·exact absurd (ri a) (j _ d)
section
variable {A : ak} {B : cJ} {g h : aa} {q : Hp} {k : Nat -> Nat} {st : Db} {m : Bx} {D : Bg} {aJ c : Nat} {R : A2O}
theorem Bn.on {b:aa}(a:Bn B g h q k st m D aJ c)(x:Ext h b):Bn B g b q k st m D aJ c:=⟨a.mem.on x,a.up,a.eU,a.lim,a.wt,a.hc⟩
theorem Bn.beside {b:aa}{d:Nat->Prop}(a:Bn B g h q k st m D aJ c)(x:Mod d h b)(hX: ∀c,d c->k c=0/\g.size<=c):Bn B g b q k st m D aJ c:=⟨a.mem.beside x hX,a.up,a.eU,a.lim,a.wt,a.hc⟩
theorem Bn.more {b:Nat}(a:Bn B g h q k st m D aJ c)(d:c<=b)(e:b<=B.C):Bn B g h q k st m D aJ b:=⟨a.mem,a.up,a.eU,a.lim.mono (A0 _) d,a.wt,e⟩
theorem Bn.free(a:Bn B g h q k st m D aJ c){x:Nat}(d:h.size<=x):k x=0:=Decidable.byContradiction λb=>by
 have:=(a.mem.own x b).2;omega
theorem Bn.base(a:Bn B g h q k st m D aJ c){x:Nat}(d:x<g.size):k x=0:=Decidable.byContradiction λb=>by
 have:=(a.mem.own x b).1;omega
theorem AOY {b:Nat}{Sb:Nat->Prop}(p:cp g)(r:Cf h b Sb m)(s:Ext g h)(t: ∀c,Sb c->g.size<=c)(hd:m.down=false)(o:m.fuel= -1)(u: ∀j,ff m (aC nl j)=none)(v: ∀j,ff m (aC nn j)=none)(w: ∀x,ff m x≠none->(bl x).head? ≠some 116)(hA:1<=B.A)(N:bd m.files<=B.W0)
  (y: ∀a d f i e l,d.b=b->Bn B g a d f i e l 1 0->e.fuel= -1->CY i= []->(∀ n,¬da n->ff e n=ff m n)->Mod Sb h a->(∀ c,f c≠0->Sb c\/h.size<=c)->R (J1 #[Az d.d,J6 J9 0]) a):AA A P Ru #[Az b] h R:=by
 obtain⟨z,C,E⟩:=ATP u v w;refine ANj (B:=B) p r s t hd z C (AG _) hA (by omega) (λF=>absurd o F) λa d f i e l G H I J K L M=>?_
 exact y a d f i e l G H (I.calm o) (J.trans E) K L M
end
abbrev kb:A2P:=⟨#[98]⟩
abbrev v1:A2P:=⟨#[49]⟩
abbrev v2:A2P:=⟨#[50]⟩
open Go Go.ChangeShapes Go.WideShapes Go.ChangeAt Go.RowKit Go.Proofs.YtecomiijolnjpaaGreatDoor
def listed:List (String×DataW Unit):=Rows.engineOnceRow.laid
theorem AMf: ∃(x c a b:String×DataW Unit),listed= [x,c,(od,Lib.tabData .u64 Lib.pow10Tab),a,b]:=⟨_,_,_,_,rfl⟩
theorem ATS:P.globalNamed od=some 2:=by kernel_rfl
theorem ASv:(P.globals[2]?).map (·.type)=some TV:=by kernel_rfl
theorem ATQ:P.underlying TV=some (.array 20 Yh):=by kernel_rfl
theorem ASV:P.underlying Yh=some (.int .u64):=by kernel_rfl
theorem ATd:P.cellsOf Yh=1:=by kernel_rfl
theorem ATl:P.cellsOf TV=20:=by kernel_rfl
theorem AKP:listed.filter (λx=>x.2.handleName?.isSome)= []:=by kernel_rfl
theorem qg {b:World}(a:laidMetH P listed b):laidMet P listed b:=by unfold laidMetH at a;rw[AKP] at a;exact a
theorem ARD {c:World}(e:laidMetH P listed c):Lib.TabIs P c od .u64 Lib.pow10Tab:=by have d:=qg e;obtain⟨x,g,a,b,f⟩:=AMf;rw[f] at d;exact Lib.tabIs_of_head (rest:= [a,b]) ATS ASv ATQ ASV ATd ATl (laidMet.tail (laidMet.tail d))
theorem ARH {a:World}(c:laidMetH P listed a):cT a.heap:=λd e=>by
 have b:=ARD c;unfold Lib.TabIs World.var? at b ⊢;exact b
def ny : String := String.ofList [Char.ofNat 42] ++ "errors.errorString"
def uB:String:=Rows.engineOnceRow.named.getD 1 (String.ofList [])
def uC:String:=Rows.engineOnceRow.named.getD 0 (String.ofList [])
theorem ASs: ∃(x a z b:String×DataW Unit) (text:List UInt8),listed= [x,a,z,(uB,.iface ny (.ptr (.agg [.lit (.string text)]))),b]:=⟨_,_,_,_,_,rfl⟩
theorem AR2: ∃(x a z b:String×DataW Unit) (text:List UInt8),listed= [x,a,z,b,(uC,.iface ny (.ptr (.agg [.lit (.string text)])))]:=⟨_,_,_,_,_,rfl⟩
theorem ATg:P.globalNamed uB=some 1:=by kernel_rfl
theorem ATF:P.globalNamed uC=some 0:=by kernel_rfl
theorem ASR:(P.globals[1]?).map (·.type)=some nv:=by kernel_rfl
theorem AR1:(P.globals[0]?).map (·.type)=some nv:=by kernel_rfl
theorem ATe: ∃a,P.underlying nv=some (.interface a):=⟨_,Proofs.Tryz.underlying246⟩
theorem ASB(u:Q7)(a:P.typeName? 3 u=some ny):u=EM:=
 typeName_ptr_named (nm := "errors.errorString") (by kernel_rfl) (by kernel_rfl) (by decide) u a
theorem ATM:P.underlying EM=some (.pointer En):=by kernel_rfl
theorem ATw: ∃f:Field,P.underlying En=some (.struct #[f])/\f.type=Ar/\f.offset=0:=⟨_,Proofs.Tryz.underlying355,rfl,rfl⟩
theorem ATu:P.cellsOf En=1:=by kernel_rfl
theorem uD {b:String}{text:List UInt8}{h:List (String×DataW Unit)}{a:World}{g:Nat}(i:laidMet P ((b,.iface ny (.ptr (.agg [.lit (.string text)])))::h) a)(c:P.globalNamed b=some g)(j:(P.globals[g]?).map (·.type)=some nv):kA a.heap g:=by
 obtain⟨p,k⟩:=ATe;obtain⟨f,l,m,n⟩:=ATw;obtain⟨d,q,o,_,_,_⟩:=laid_sentinel i c j k ASB ATM l m n Zg ATu nq;have e:a.cell? ⟨g,0,none⟩=some (.iface EM (.pointer (some d))):=by simpa using World.var?_cell c o 0
 refine⟨.iface EM (.pointer (some d)),?_,.inr ⟨_,_,rfl⟩⟩;unfold ag;unfold World.cell? at e;exact e
theorem ASU {d:World}(b:laidMetH P listed d):cp d.heap:=by
 refine⟨ARH b,?_,?_⟩
 ·have a:=qg b;obtain⟨x,e,z,f,t,c⟩:=AR2;rw[c] at a;exact uD (laidMet.tail (laidMet.tail (laidMet.tail (laidMet.tail a)))) ATF AR1
 ·have a:=qg b;obtain⟨x,e,z,f,t,c⟩:=ASs;rw[c] at a;exact uD (laidMet.tail (laidMet.tail (laidMet.tail a))) ATg ASR
def AIw:DataW Unit->Array J0
 | .agg ds=>(ds.map λ| .lit (.int a z)=>Value.int a z|_=> .bool false).toArray
 |_=> #[]
def fill(a:DataW Unit):Obj->Obj
 | .cells _ t frozen=> .cells (AIw a) t frozen
 |o=>o
def iN(b:Nat):Obj->Obj
 | .cells _ t frozen=> .cells #[.iface EM (.pointer (some ⟨b,0,none⟩))] t frozen
 |o=>o
abbrev AQD:A2P:=⟨#[118,97,108,117,101,32,111,117,116,32,111,102,32,114,97,110,103,101]⟩
abbrev AQg:A2P:=⟨#[105,110,118,97,108,105,100,32,115,121,110,116,97,120]⟩
noncomputable def low:Nat:=(World.holding P default ⟨#[],#[],[]⟩).heap.size
noncomputable def Yv (os:Os):World:=
 let a:=World.holding P os ⟨#[.cells #[.string AQD] En,.cells #[.string AQg] En],#[],[]⟩
 {a with heap:=((((a.heap.modify 2 (fill Rows.laid_internal_strconv_uint64pow10)).modify 4 (fill Rows.laid_math_bits_deBruijn32tab)).modify 5 (fill Rows.laid_math_bits_deBruijn64tab)).modify 1 (iN low)).modify 0 (iN (low+1))}
theorem AIj(os:Os)(args:Array J0):laidMet P listed ((Yv os).forCall (λ_ _=>0) ⟨#[],args,[]⟩).memory:=
 laidMet_of_run' 8 (by kernel_rfl) (by kernel_rfl)
end Go.Lf.G
namespace Go.Lf.G.M
open Go Go.ChangeShapes Go.WideShapes Go.ChangeAt Go.RowKit Go.Proofs.YtecomiijolnjpaaGreatDoor
theorem qf {H:Type}(a:DataW H):1<=Rows.uptoBulk a:=by
 cases a with
 |lit l=>cases l<;>simp[Rows.uptoBulk]
 |nil=>simp[Rows.uptoBulk]
 |ptr a=>simp[Rows.uptoBulk]
 |slice b spare=>simp[Rows.uptoBulk]
 |agg c=>simp[Rows.uptoBulk]
 |iface t a=>simp[Rows.uptoBulk]
 |map d=>simp[Rows.uptoBulk]
 |held e=>simp[Rows.uptoBulk]
theorem uu {H:Type}(l:List (DataW H)):l.length<=Rows.uptoBulkAll l:=by
 induction l with
 |nil=>simp[Rows.uptoBulkAll]
 |cons x a b=>have:=qf x;simp only[Rows.uptoBulkAll,A6];omega
theorem QV {H:Type}{enc:Q7×J0->H}{P:Q1}(d:laidOutB P=true){e f:World}{g:Nat->Bool}: ∀ {ts:List Q7} {c:List J0} {ds:List (DataW H)} {ps:List MemPlace},
  (ts.all λt=>P.readableRec t&&decide (t<P.types.size))=true->DataW.TrodAll enc P e 0 (λ_=>true) true ts c ds ps->(∀ p∈ps,e.sameAt f p)->(∀ p∈ps,g p.block=true)->DataW.TrodAll enc P f 0 g true ts c ds ps
 | [],[],[],_,_,j,_,_=>j
 |t::ts,v::c,o::ds,_,b,⟨p,k,l,m,n⟩,h,i=>by
  simp only[Kf,A3,decide_eq_true_eq] at b;subst n;exact⟨p,k,WideElems.Trod_stays d b.1.1 b.1.2 l (λx a=>h x (Fo _ a)) (λx a=>i x (Fo _ a)),
   QV d (by simpa using b.2) m (λx a=>h x (Hh _ a)) (λx a=>i x (Hh _ a)),rfl⟩
def iM(a:World):ak:=⟨a.tape,a.os,a.output⟩
theorem uv {H:Type}{enc:Q7×J0->H}{P:Q1}{f:Func}{s:ChangeSpec}{a:World}{args:Array J0}{ds d:List (DataW H)}{j:List MemPlace}{q:Q7}{e:aa}{k:Nat}
  (l:DataW.Whole enc P f.params.toList s.vars false a args.toList ds d j) (r:s.vars= []) (y:(s.fn H (ds++d)).results= [.lit (.bool true)]) (z:(s.fn H (ds++d)).args=ds) (A:(s.fn H (ds++d)).vars= [])
  (B:laidOutB P=true) (g:(f.params.toList.all λt=>P.readableRec t&&decide (t<P.types.size))=true) (C:f.resultTypes= #[q]) (D:P.underlying q=some .bool) (x:Ext a.heap e):
  s.post enc P f false true false false a args (.bool true) ((iM a).at e k):=by
 have u:=λp (g:p∈j)=>l.lt p g
 have E: ∀p∈j,a.sameAt ((iM a).at e k) p:=λp g=>by
  have v:e[p.block]? =a.heap[p.block]? :=x.get _ (u p g) (λh=>h);cases p with
  |cell b off=>
   show ag e ⟨b,off,none⟩=ag a.heap ⟨b,off,none⟩;exact OZ v
  |map b=>exact v
 obtain⟨p,F,hA,m,rfl,L,M⟩:=id l;rw[r] at m;have G:d= []/\F= []:=by
  cases d with
  |nil=>exact⟨rfl,m⟩
  |cons _ _=>exact m.elim
 obtain⟨rfl,rfl⟩:=G;refine⟨ds,[],p++ [],[],p,[],l,?_,?_,?_,?_,λh=>by cases h⟩
 ·rw[y,C];exact⟨[],[],⟨1,by simp[DataW.trod,Value.cells,D]⟩,rfl,rfl⟩
 ·rw[z];exact QV B g hA (λn o=>E n (Fo _ o)) (λn o=>by simpa using u n (Fo _ o))
 ·rw[r,A];rfl
 ·refine⟨rfl,rfl,λi I=>?_⟩;have J:((iM a).at e k).heap[i]? =a.heap[i]? :=x.get i I (λh=>h);rw[J];cases N:a.heap[i]? with
  |none=>trivial
  |some K=>
   cases K with
   |cells c t fr=>exact⟨rfl,rfl,rfl,λ_ _=>rfl⟩
   |map O Q=>exact .inr ⟨rfl,rfl⟩
   |_=>rfl
section
variable {H : Type} {enc : Q7 × J0 -> H} {w : World} {base : Nat} {spare : Nat -> Bool} {held : Bool}
instance:Inhabited Pr:=⟨⟨⟨#[]⟩,⟨#[]⟩,false⟩⟩
instance:Inhabited Sl:=⟨⟨none,0,0⟩⟩
theorem QZ:P.underlying BN=some (.int J9):=by kernel_rfl
theorem nq:P.cellsOf Ar=1:=by kernel_rfl
end
theorem laid:laidOutB P=true:=by kernel_rfl
end Go.Lf.G.M
namespace Go.Lf.G
open Go
open M (Sorted Ag Cs BC Ah Aw Be Am bH BK aV BU)
structure ATL where
 kind:Int
 bs:Sl
 key:A2P
 til:A2P
 most:Int
 ks:Sl
structure AT0 (N:Nat) (h:aa) (x:ATL) (l:List Pr) (ks:List Int):Prop where
 bs:View BR h x.bs l
 ks:View IC h x.ks ks
 key:x.key.size<=N
theorem ARV {e:Type}{d:cy e}{h:aa}{s:Sl}{l:List e}(v:View d h s l)(f:l≠ []){b:Nat}(i:s.af=some b):b<h.size:=by
 cases l with
 |nil=>exact absurd rfl f
 |cons x l=>
  obtain⟨a,j,n⟩:=v.cells 0 x rfl;have p:=d.pos;have r:=d.len x;obtain⟨u,o⟩: ∃u,(d.enc x)[0]? =some u:=⟨_,A2 (by omega)⟩;have:=Ur (n 0 u o);rw[aN,aN] at this;have t:a.block=b:=by simpa [Sl.af,j] using i
  omega
section
variable {A : ak} {B : cJ} {g h : aa} {q : Hp} {k : Nat -> Nat} {st : Db} {m : Bx} {D : Bg} {aJ c : Nat} {R : A2O}
theorem Bn.put {b a:Nat}(d:Bn B g h q k st m D aJ c)(e:aJ<=b)(f:c<=a)(i:a<=B.C):Bn B g h q k st m D b a:=(d.aJ e).more f i
theorem Bn.args(a:Bn B g h q k st m D aJ c){s:Sl}{l:List Pr}(v:View BR g s l):l≠ []-> ∀b,s.af=some b->b<h.size/\k b=0:=λd b e=>by
 have f:=ARV v d e;have:=a.mem.ext.size;exact⟨by omega,a.base f⟩
end
theorem AJC {A:ak}{B:cJ}{g h:aa}{q:Hp}{k:Nat->Nat}{st:Db}{m:Bx}{D:Bg}{aJ c:Nat}{R:A2O}{s:Sl}{l:List Pr}(u:cp g)(j:Bn B g h q k st m D aJ c)(i:m.fuel= -1)(hA:aJ+3<=B.A)(v:View BR h s l)(w:l≠ []-> ∀b,s.af=some b->b<h.size/\k b=0)(x:c+64<=B.C)
  (y: ∀e n z C f G,n.d=q.d->n.b=q.b->Bn B g e n z C f G (aJ+3) (c+64)->f.fuel= -1->CY C=(if Eb l=0 then dc (CY st) l else CY st)->(∀ o,¬da o->ff f o=ff m o)->Mod (λc=>k c≠0) h e->(∀ c,z c≠0->k c≠0\/h.size<=c)->R (J6 J9 (Eb l)) e):
  AA A P Km #[Az q.d,J4 s.p s.len s.cap] h R:=by
 by_cases a:Eb l=0
 ·have W:=(yF a).1.len;refine yJ (B:=B) (s:=s) u j hA v w (λ_=>by omega) (λE=>absurd a E) (λ_ e f p=>absurd i p.fuel) (λ_ e f p=>absurd i p.fuel) λ_ r H I J K L M N O Q S T U V=>?_
  have:=y r H I J K L M N (O.put (A0 _) (by omega) x) (Q.calm i) (by rw[if_pos a];exact S.map) T U V;rwa [a] at this
 ·refine yJ (B:=B) (s:=s) u j hA v w (λd=>absurd d a) (λE r F=>?_) (λd=>absurd d a) (λd=>absurd d a) (λd=>absurd d a);exact y r q k st m D rfl rfl ((j.on F).put (by omega) (by omega) x) i (by rw[if_neg a]) (λ_ _=>rfl) (F.ai λc _ t=>t.elim) λc t=> .inl t
open Go Go.ChangeShapes Go.WideShapes Go.ChangeAt Go.RowKit Go.Proofs.YtecomiijolnjpaaGreatDoor
theorem X6 {H:Type}{b:DataW H}: ∀ {ds:List (DataW H)},b∈ds->Rows.uptoBulk b<=Rows.uptoBulkAll ds
 | [],a=>by cases a
 |x::l,a=>by
  unfold Rows.uptoBulkAll;rcases List.mem_cons.1 a with rfl|a
  ·omega
  ·have:=X6 a;omega
section
variable {H : Type} {enc : Q7 × J0 -> H} {w : World} {base : Nat} {spare : Nat -> Bool} {held : Bool}
theorem uE {b t:Q7}{d:Nat}{c:List J0}{x:DataW H×List MemPlace}(e:P.underlying b=some (.slice t))(f:DataW.trod enc P w base spare held d b c=some x): ∃s:Sl,c= [.slice s.p s.len s.cap]:=by
 rcases Deep.open_slice e f with⟨rfl,_⟩|⟨a,g,h,m,i,j,k,rfl,_⟩
 ·exact⟨⟨none,0,0⟩,rfl⟩
 ·exact⟨⟨some a,g,h⟩,rfl⟩
end
def fieldsOf(P:Q1)(t:Q7):Option (List (Q7×Nat)):=match P.underlying t with
 |some (.struct a)=>some (a.toList.map λf=>(f.type,f.offset))
 |_=>none
section
variable {H : Type} {enc : Q7 × J0 -> H} {w : World} {base : Nat} {spare : Nat -> Bool} {held : Bool}
theorem Pg {t:Q7}{c:List (Q7×Nat)}{h:Nat}{d:List J0}{x:DataW H×List MemPlace}(b:fieldsOf P t=some c)(j:DataW.trod enc P w base spare held h t d=some x):
  ∃(a:List (DataW H×List MemPlace)) (m:Nat),x=(.agg (a.map (·.1)),a.flatMap (·.2))/\d.length=P.cellsOf t/\a.length=c.length/\
   ∀(i:Nat) (f:Q7×Nat),c[i]? =some f->DataW.trod enc P w base spare held m f.1 ((d.drop f.2).take (P.cellsOf f.1))=a[i]? :=by
 unfold fieldsOf at b;split at b
 ·rename_i q k;simp at b;subst b;obtain⟨a,m,_,rfl,l,n,o⟩:=DataW.trod_struct k j;refine⟨a,m,rfl,l,by simpa using n,λi f e=>?_⟩;simp only[Bk,A0j,LS] at e;obtain⟨g,p,rfl⟩:=e;exact o i g p
 ·cases b
end
def Jr(g:ak)(q:Sl)(again:Int)(ai:aa)(k:A2O):=AA g P Jf #[] ai λv w=> ∃E:Bool,v=J3 E/\(ae (!E) (k (J3 false) w) (ah (λ(aj:Bool×Unit) F=>ae aj.1 (k (J3 true) F) (AA g P GQ #[] F λv1 G=> ∃am:Q2,∃r:Q2,∃H:Bool,v1=J1 #[J5 am,J5 r,J3 H]/\(ae (!H) (k (J3 false) G) (al G (.map #[] 0) λb an=>al an (.map #[] 0) λI ao=>Loop (λap (s:Int×Unit) x=>ae (decide (s.1<(q.len:Int))) (bG q.p q.len s.1 λa=>nQ x (a.add (s.1.toNat*15)) λaq=>al x (J2 dD.z.c EC) λJ ar=>aP ar (Q5 J 0 none) aq.l λau=>Loop (λav (y:Int×Unit) z=>ae (decide (y.1<(J8 J9 ((1:Int)+((J8 J9 ((again.tmod (3:Int))+3)).tmod (3:Int)))))) (ah (λ(bh:Unit) aw=>av ((J8 J9 (y.1+1)),()) aw) λt=>LX z (Q9 (Q5 J 0 none) 1) λax=>al z (J2 bO.z.c Cj) λc ay=>aP ay (Q5 c 0 none) ax.l λu=>ah (λ(az:Bool×Unit) A=>ae az.1 (t () A) (AJ A (Q9 (Q5 c 0 none) 2) λaA=>AA g P GD #[J5 r,J7 aA] A λv2 aC=>Je λL=>v2=L.v/\(al aC (J2 bT.z.c Br) λB aD=>aP aD (Q5 B 0 none) L.l λM=>LX M (Q5 c 0 none) λaE=>AA g P FL #[J5 r,.nilIface,J6 J9 (J8 J9 (s.1+y.1)),aE.v] M λaF aG=>Je λN=>aF=N.v/\(al aG (J2 bT.z.c Br) λj aH=>aP aH (Q5 j 0 none) N.l λO=>AJ O (Q9 (Q5 c 0 none) 2) λaI=>AA g P GD #[J5 r,J7 aI] O λaJ aK=>Je λQ=>aJ=Q.v/\(al aK (J2 bT.z.c Br) λC aL=>aP aL (Q5 C 0 none) Q.l λR=>AJ R (Q9 (Q5 c 0 none) 1) λaM=>BB g P (Instr.lookup Hm (.map (some b)) (J7 aM) true) R λaN aO=>Je λS=> ∃T:Bool,aN=J1 #[S.v,J3 T]/\(al aO (J2 bT.z.c Br) λU aQ=>aP aQ (Q5 U 0 none) S.l λi=>ae T (AJ i (Q9 (Q5 c 0 none) 1) λaR=>BB g P (Instr.lookup GY (.map (some I)) (J7 aR) false) i λaS aT=>nP λV=>aS=V.v/\(AA g P GG #[V.v] aT λaU W=> ∃l:A2P,∃m:Int,aU=J1 #[J7 l,J6 J9 m]/\(LX W (Q5 c 0 none) λaV=>AA g P GG #[aV.v] W λaW D=> ∃n:A2P,∃o:Int,aW=J1 #[J7 n,J6 J9 o]/\(ah (λ(aX:Bool×Unit) X=>ae aX.1 (k (J3 false) X) (t () X)) λe=>Dj D (Q5 B 0 none) λaY=>Dj D (Q5 C 0 none) λaZ=>AA g P Fe #[aY.v,aZ.v] D λa0 d=> ∃Y:Bool,a0=J3 Y/\(ae (!Y) (e (true,()) d) (ae (m==0) (ae (o==0) (ae (bM l n) (Dj d (Q5 j 0 none) λa1=>Dj d (Q5 U 0 none) λa2=>AA g P Fe #[a1.v,a2.v] d λa3 p=> ∃Z:Bool,a3=J3 Z/\(ae (!Z) (e (true,()) p) (ae (m==0) (ae (o==0) (ae (!bM l n) (AC J9 p (Q5 j 0 none) λa4=>e ((a4 != 184),()) p) (e (false,()) p)) (e (false,()) p)) (e (false,()) p)))) (ae (m==0) (ae (o==0) (ae (!bM l n) (AC J9 d (Q5 j 0 none) λa5=>e ((a5 != 184),()) d) (e (false,()) d)) (e (false,()) d)) (e (false,()) d))) (ae (m==0) (ae (o==0) (ae (!bM l n) (AC J9 d (Q5 j 0 none) λa6=>e ((a6 != 184),()) d) (e (false,()) d)) (e (false,()) d)) (e (false,()) d))) (ae (m==0) (ae (o==0) (ae (!bM l n) (AC J9 d (Q5 j 0 none) λa7=>e ((a7 != 184),()) d) (e (false,()) d)) (e (false,()) d)) (e (false,()) d)))))))) (AC J9 i (Q5 j 0 none) λa8=>ae (a8==0) (AJ i (Q9 (Q5 c 0 none) 1) λa9=>AJ i (Q9 (Q5 c 0 none) 1) λab=>Dj i (Q5 j 0 none) λba=>LX i (Q5 c 0 none) λf=>Zz g P (Instr.mapUpdate Hm (.map (some b)) (J7 a9) (ba.v)) i λh=>(And (ag h (Q5 c 0 none)=some (J6 J9 f.kind)/\ag h (Q9 (Q5 c 0 none) 1)=some (J7 f.aW)/\ag h (Q9 (Q5 c 0 none) 2)=some (J7 f.wid)/\ag h (Q9 (Q5 c 0 none) 3)=some (J7 f.name)/\ag h (Q9 (Q5 c 0 none) 4)=some (J4 f.steps.p f.steps.len f.steps.cap)/\ag h (Q9 (Q5 c 0 none) 5)=some (J6 J9 f.ar)/\ag h (Q9 (Q5 c 0 none) 6)=some (J4 f.bV.p f.bV.len f.bV.cap)/\ag h (Q9 (Q5 c 0 none) 7)=some (J6 J9 f.ref)/\ag h (Q9 (Q5 c 0 none) 8)=some (J6 J9 f.turn)/\ag h (Q9 (Q5 c 0 none) 9)=some (J6 J9 f.aU)/\ag h (Q9 (Q5 c 0 none) 10)=some (J6 J9 f.ao)/\ag h (Q9 (Q5 c 0 none) 11)=some (J3 f.aO))<| And (ag h (Q9 (Q5 c 0 none) 1)=some (J7 ab))<| Zz g P (Instr.mapUpdate GY (.map (some I)) (J7 ab) (f.v)) h λbb=>(t () bb))) (Dj i (Q5 B 0 none) λbc=>Dj i (Q5 C 0 none) λbd=>AA g P Fe #[bc.v,bd.v] i λbe ac=> ∃ad:Bool,be=J3 ad/\(ae (!ad) (k (J3 false) ac) (t () ac)))))))))) λaf=>AC J9 u (Q5 c 0 none) λbf=>ae (decide (bf<1)) (af (true,()) u) (AC J9 u (Q5 c 0 none) λbg=>af ((decide (bg>4)),()) u)) (ap ((J8 J9 (s.1+1)),()) z)) (0,()) au) (k (J3 true) x)) (0,()) ao)))) λK=>ae ((q.len:Int)==0) (K (true,()) w) (K ((decide ((q.len:Int)>60)),()) w)))
theorem PD {b a again c d}(e:Jr b a again c d):AA b P Jn #[J4 a.p a.len a.cap,J6 J9 again] c d:=Aa (AO AR (AO Dg (AO (AO (.br [(32,.one .bool)] [0,1]) Dy) (AO AR (AO Dg (CE 2 (AO (AO AR (.block (.loop [(44,.one (.int J9))] [1,6,8,9,42,43] (AO AR (AO FJ (AO (.block (CE 2 (.block (.loop [(54,.one (.int J9))] [1,6,8,9,10,11,42,43,44,53] (AO AR (AO FJ (AO (.bI [] [1,6,8,9,10,11,42,43,44,53,54] (CE 2 (AO (AO (.br [(66,.one .bool)] [1,6,8,9,10,11,12,13,42,43,44,53,54]) FJ) (CE 5 (.cond (CE 2 (AO (.br [(142,.one .bool)] [1,6,8,9,10,11,42,43,44,53,54]) Dy)) (AO AR (.cond AR Dg))))))) AR))))))) AR)))))) Bc))))))) (by kernel_rfl) e
end Go.Lf.G
namespace Go.Lf
open G
open Go
abbrev bj.V(s:bj)(a b c:Sl):bF:=⟨a,s.prog.ar,s.status,s.next,s.ba,s.asked,s.taken,s.fresh,b,c,s.cancel,s.aS⟩
end Go.Lf
namespace Go.Lf.G
open Go
structure Jk (h:aa) (s:bj) (a b c:Sl):Prop where
 steps:View Lr h a s.prog.steps
 aw:View eX h b s.aw
 aj:View fU h c s.aj
theorem Jk.mod {g:Nat->Prop}{h j:aa}{s:bj}{a b c:Sl}(i:Jk h s a b c)(m:Mod g h j)(k: ∀x,a.af=some x-> ¬g x)(l: ∀x,b.af=some x-> ¬g x)(n: ∀x,c.af=some x-> ¬g x):Jk j s a b c:=
 ⟨i.steps.mod m λx d f=>k x d f,i.aw.mod m λx d f=>l x d f,i.aj.mod m λx d f=>n x d f⟩
theorem Jk.ext {h f:aa}{s:bj}{a b c:Sl}(d:Jk h s a b c)(x:Ext h f):Jk f s a b c:=⟨d.steps.ext x,d.aw.ext x,d.aj.ext x⟩
structure D3 (h hh:aa) (T0 T1 T2:Q7) (x:bF) (e:Ev) (y:bF):Prop where
 ext:Ext h hh
 b0:hh[h.size]? =some (J2 x.c T0 (0,0))
 b1:hh[h.size+1]? =some (J2 e.c T1 (0,0))
 b2:hh[h.size+2]? =some (J2 y.c T2 (0,0))
section
variable {A : ak} {h hh : aa} {T0 T1 T2 : Q7} {x y : bF} {e : Ev} {R : A2O}
theorem lh {K:Nat->Nat->Nat->aa->Prop}(m: ∀hh,D3 h hh T0 T1 T2 x e y->K h.size (h.size+1) (h.size+2) hh):
  al h (J2 x.c T0) λb f=>al f (J2 e.c T1) λn g=>al g (J2 y.c T2) λo a=>K b n o a:=by
 refine al.mk λf _ p q c=>al.mk λg _ i j k=>al.mk λa _ l d r=>?_
 rw[c] at i;rw[k,c] at l;have:=m a ⟨(q.trans j).trans d,d.af (j.af p (λh=>h)) (λh=>h),d.af i (λh=>h),l⟩;rw[k,c];exact this
theorem D3.on {b:aa}(a:D3 h hh T0 T1 T2 x e y)(m:Ext hh b):D3 h b T0 T1 T2 x e y:=⟨a.ext.trans m,m.af a.b0 (λh=>h),m.af a.b1 (λh=>h),m.af a.b2 (λh=>h)⟩
theorem D3.set {c:Nat}{v:J0}{x':bF}{K:aa->Prop}(a:D3 h hh T0 T1 T2 x e y)(d:c<12)(f:x.c.setIfInBounds c v=x'.c)(g: ∀h',D3 h h' T0 T1 T2 x' e y->K h'):ab hh ((⟨h.size,0,none⟩:Q6).add c) v K:=
 ab.bQ a.b0 d f λh' i m s=>g h' ⟨a.ext.more m λb j=>by subst j;exact A0 _,i,m.af a.b1 (by omega),m.af a.b2 (by omega)⟩
theorem D3.gY {j:Nat}{v:J0}{x':bF}{K:aa->Prop}(d:D3 h hh T0 T1 T2 x e y)(f:j<12)(g:x.c.setIfInBounds j v=x'.c)(i: ∀a,D3 h a T0 T1 T2 x' e y->Mod (λc=>c=h.size) hh a->K a):ab hh ((⟨h.size,0,none⟩:Q6).add j) v K:=
 ab.bQ d.b0 f g λa k m s=>i a ⟨d.ext.more m λb l=>by subst l;exact A0 _,k,m.af d.b1 (by omega),m.af d.b2 (by omega)⟩ m
theorem D3.oE {v:J0}{x':bF}{K:aa->Prop}(b:D3 h hh T0 T1 T2 x e y)(d:x.c.setIfInBounds 0 v=x'.c)(f: ∀a,D3 h a T0 T1 T2 x' e y->Mod (λc=>c=h.size) hh a->K a):ab hh (⟨h.size,0,none⟩:Q6) v K:=
 b.gY (j:=0) (by decide) d f
theorem D3.cK {j:Nat}{v:J0}(a:D3 h hh T0 T1 T2 x e y)(b:x.c[j]? =some v):ag hh ((⟨h.size,0,none⟩:Q6).add j)=some v:=AB a.b0 b
theorem D3.bQ {j:Nat}{v:J0}(a:D3 h hh T0 T1 T2 x e y)(b:e.c[j]? =some v):ag hh ((⟨h.size+1,0,none⟩:Q6).add j)=some v:=AB a.b1 b
theorem Em {h:aa}{b:Nat}{T:Q7}{fr:Nat×Nat}{x:bF}(a:h[b]? =some (J2 x.c T fr)):Cells h ⟨b,0,none⟩ x.l:=DU a rfl
theorem QO {h:aa}{b:Nat}{T:Q7}{fr:Nat×Nat}{x:Ev}(a:h[b]? =some (J2 x.c T fr)):Cells h ⟨b,0,none⟩ x.l:=DU a rfl
theorem Ow(x y:bF):X9 y.c 0 x.l=x.c:=rfl
theorem pw(x y:Ev):X9 y.c 0 x.l=x.c:=rfl
theorem px(x y:bP):X9 y.c 0 x.l=x.c:=rfl
theorem D3.j6(a:D3 h hh T0 T1 T2 x e y):ag hh (⟨h.size,0,none⟩:Q6)=some (J4 x.steps.p x.steps.len x.steps.cap)/\ag hh ((⟨h.size,0,none⟩:Q6).add 1)=some (J6 J9 x.ar)/\ag hh ((⟨h.size,0,none⟩:Q6).add 2)=some (J6 J9 x.status)/\ag hh ((⟨h.size,0,none⟩:Q6).add 3)=some (J6 J9 x.next)/\ag hh ((⟨h.size,0,none⟩:Q6).add 4)=some (J6 J9 x.ba)/\ag hh ((⟨h.size,0,none⟩:Q6).add 5)=some (J6 J9 x.asked)/\ag hh ((⟨h.size,0,none⟩:Q6).add 6)=some (J6 J9 x.taken)/\ag hh ((⟨h.size,0,none⟩:Q6).add 7)=some (J3 x.fresh)/\ag hh ((⟨h.size,0,none⟩:Q6).add 8)=some (J4 x.aw.p x.aw.len x.aw.cap)/\ag hh ((⟨h.size,0,none⟩:Q6).add 9)=some (J4 x.aj.p x.aj.len x.aj.cap)/\ag hh ((⟨h.size,0,none⟩:Q6).add 10)=some (J3 x.cancel)/\ag hh ((⟨h.size,0,none⟩:Q6).add 11)=some (J3 x.aS):=
 ⟨a.cK (j:=0) rfl,a.cK (j:=1) rfl,a.cK (j:=2) rfl,a.cK (j:=3) rfl,a.cK (j:=4) rfl,a.cK (j:=5) rfl,a.cK (j:=6) rfl,a.cK (j:=7) rfl,a.cK (j:=8) rfl,a.cK (j:=9) rfl,a.cK (j:=10) rfl,a.cK (j:=11) rfl⟩
theorem D3.eM {K:bF->Prop}(a:D3 h hh T0 T1 T2 x e y)(b:K x):Au hh ⟨h.size,0,none⟩ K:=Au.mk x (Em a.b0) b
theorem D3.jH {K:Ev->Prop}(a:D3 h hh T0 T1 T2 x e y)(b:K e):MQ hh ⟨h.size+1,0,none⟩ K:=MQ.mk e (QO a.b1) b
theorem D3.mh {z:bF}{K:aa->Prop}(d:D3 h hh T0 T1 T2 x e y)(g: ∀a,D3 h a T0 T1 T2 z e y->Mod (λc=>c=h.size) hh a->K a):aP hh ⟨h.size,0,none⟩ z.l K:=
 aP.mk d.b0 (A0 12) λa f m s=>g a ⟨d.ext.more m λb i=>by subst i;exact A0 _,(by rw[Ow] at f;exact f),m.af d.b1 (by omega),m.af d.b2 (by omega)⟩ m
theorem D3.tell {z:bF}{K:bF->aa->Prop}(c:D3 h hh T0 T1 T2 x e y)(g: ∀a,Ext h a->K z a):aP hh ⟨h.size+2,0,none⟩ z.l λd=>Au d ⟨h.size+2,0,none⟩ λi=>K i d:=
 aP.mk c.b2 (A0 12) λa f m s=>Au.mk z (Em (by rw[Ow] at f;exact f)) (g a (c.ext.more m λb j=>by subst j;omega))
theorem D3.iA {z:bF}{K:bF->aa->Prop}(d:D3 h hh T0 T1 T2 x e y)(i: ∀a,Ext h a->Mod (λc=>c=h.size+2) hh a->K z a):aP hh ⟨h.size+2,0,none⟩ z.l λf=>Au f ⟨h.size+2,0,none⟩ λj=>K j f:=
 aP.mk d.b2 (A0 12) λa g m s=>Au.mk z (Em (by rw[Ow] at g;exact g)) (i a (d.ext.more m λb k=>by subst k;omega) m)
theorem D3.ret {K:bF->aa->Prop}(a:D3 h hh T0 T1 T2 x e y)(d: ∀b,Ext h b->K x b):Au hh ⟨h.size,0,none⟩ λt=>aP hh ⟨h.size+2,0,none⟩ t.l λc=>Au c ⟨h.size+2,0,none⟩ λf=>K f c:=
 a.eM (a.tell d)
theorem D3.oF {K:bF->aa->Prop}(b:D3 h hh T0 T1 T2 x e y)(f: ∀a,Ext h a->Mod (λc=>c=h.size+2) hh a->K x a):Au hh ⟨h.size,0,none⟩ λt=>aP hh ⟨h.size+2,0,none⟩ t.l λd=>Au d ⟨h.size+2,0,none⟩ λg=>K g d:=
 b.eM (b.iA f)
theorem AIK {s:bj}{a b c:Sl}(T:2<=e.kind/\e.kind<=5)(C: ∀n,Ext h n->R (J1 #[(((Dn s e).getD s).V a b c).v,J3 (Dn s e).isSome]) n):AA A P ME #[(s.V a b c).v,e.v] h R:=by
 refine Xe ?_;unfold QK;refine lh λH d=>?_
 refine ah.mk λK I=>ah.mk λJ L=>?_
 have v: ∀ {t:bj} {hh:aa},D3 h hh Ap A7 Ap (t.V a b c) e bF.z->Dn s e=some t->K () hh:=λ{t hh} d hd=>by
  refine I _ _ (d.ret λn x=>?_);have:=C n x;rw[hd] at this;exact this
 have no: ∀ {hh:aa},D3 h hh Ap A7 Ap (s.V a b c) e bF.z->Dn s e=none->Au hh ⟨h.size,0,none⟩ λt=>aP hh ⟨h.size+2,0,none⟩ t.l λD=>Au D ⟨h.size+2,0,none⟩ λM=>R (J1 #[M.v,J3 false]) D:=λ{hh} d hd=>by
  refine d.ret λn x=>?_
  have:=C n x;rw[hd] at this;exact this
 have key: ∀(o:Bool),(e.kind=2->(o=true↔s.asked=0/\s.taken=0/\s.fresh=true))->(e.kind≠2->o=false)->J (o,()) H:=λo E N=>by
  refine L _ _ (ae.intro (λk=>?_) (λk=>?_))
  ·have k:o=true:=k;have g:e.kind=2:=Decidable.byContradiction λh=>by rw[N h] at k;cases k
   refine AC.mk (d.bQ (j:=0) rfl) (d.set (x':=({s with asked:=e.id}:bj).V a b c) (by decide) rfl λz m=>v m ?_);unfold Dn;rw[if_pos g,if_pos ((E g).1 k)]
  ·have k:o=false:=k;refine ah.mk λU F=>AC.mk (d.bQ (j:=1) rfl) (ae.intro (λi=>?_) (λi=>?_))
   ·have i:e.kind=3:=by simpa using i
    refine AC.mk (d.cK (j:=5) rfl) (AC.mk (d.bQ (j:=3) rfl) (F _ _ (ae.intro (λf=>?_) (λf=>?_))))
    ·have f:s.asked=e.ref:=by simpa using f
     refine AC.mk (d.bQ (j:=0) rfl) (d.set (x':=({s with asked:=0}:bj).V a b c) (by decide) rfl λz m=>⟨m.bQ (j:=0) rfl,?_⟩);refine m.set (x':=({s with asked:=0,taken:=e.id}:bj).V a b c) (by decide) rfl λO B=>B.set (x':=({s with asked:=0,taken:=e.id,fresh:=false}:bj).V a b c) (by decide) rfl λV Q=>v Q ?_
     unfold Dn;rw[if_neg (by omega),if_pos i,if_pos f]
    ·have f:s.asked≠e.ref:=by simpa using f
     refine ah.mk λS w=>AC.mk (d.bQ (j:=1) rfl) (ae.no (by simp[i]) (w _ _ (ae.no rfl ?_)))
     refine ah.mk λG p=>AC.mk (d.bQ (j:=1) rfl) (ae.no (by simp[i]) (p _ _ (ae.no rfl (no d ?_))))
     unfold Dn;rw[if_neg (by omega),if_pos i,if_neg f]
   ·have i:e.kind≠3:=by simpa using i
    refine F _ _ (ae.no rfl (ah.mk λS w=>AC.mk (d.bQ (j:=1) rfl) (ae.intro (λl=>?_) (λl=>?_))))
    ·have l:e.kind=4:=by simpa using l
     refine AC.mk (d.cK (j:=6) rfl) (AC.mk (d.bQ (j:=3) rfl) (w _ _ (ae.intro (λf=>?_) (λf=>?_))))
     ·have f:s.taken=e.ref:=by simpa using f
      refine d.set (x':=({s with taken:=0}:bj).V a b c) (by decide) rfl λz m=>v m ?_
      unfold Dn;rw[if_neg (by omega),if_neg i,if_pos l,if_pos f]
     ·have f:s.taken≠e.ref:=by simpa using f
      refine ah.mk λG p=>AC.mk (d.bQ (j:=1) rfl) (ae.no (by simp[l]) (p _ _ (ae.no rfl (no d ?_))))
      unfold Dn;rw[if_neg (by omega),if_neg i,if_pos l,if_neg f]
    ·have l:e.kind≠4:=by simpa using l
     refine w _ _ (ae.no rfl (ah.mk λG p=>AC.mk (d.bQ (j:=1) rfl) (ae.intro (λu=>?_) (λu=>?_))))
     ·have u:e.kind=5:=by simpa using u
      refine AC.mk (d.cK (j:=6) rfl) (AC.mk (d.bQ (j:=3) rfl) (p _ _ (ae.intro (λf=>?_) (λf=>?_))))
      ·have f:s.taken=e.ref:=by simpa using f
       refine d.set (x':=({s with taken:=0}:bj).V a b c) (by decide) rfl λz m=>m.set (x':=({s with taken:=0,fresh:=true}:bj).V a b c) (by decide) rfl λO B=>v B ?_
       unfold Dn;rw[if_neg (by omega),if_neg i,if_neg l,if_pos f]
      ·have f:s.taken≠e.ref:=by simpa using f
       refine no d ?_;unfold Dn;rw[if_neg (by omega),if_neg i,if_neg l,if_neg f]
     ·have u:e.kind≠5:=by simpa using u
      have g:e.kind=2:=by omega
      refine p _ _ (ae.no rfl (no d ?_));unfold Dn;rw[if_pos g,if_neg λh=>by rw[(E g).2 h] at k;cases k]
 refine AC.mk (d.bQ (j:=1) rfl) (ae.intro (λg=>?_) (λg=>key _ (λh=>by simp[h] at g) λ_=>rfl));have g:e.kind=2:=by simpa using g
 refine AC.mk (d.cK (j:=5) rfl) (ae.intro (λq=>?_) (λq=>key _ (λ_=>by simp at q;simp[q]) λh=>absurd g h));have q:s.asked=0:=by simpa using q
 refine AC.mk (d.cK (j:=6) rfl) (ae.intro (λr=>?_) (λr=>key _ (λ_=>by simp at r;simp[r]) λh=>absurd g h));have r:s.taken=0:=by simpa using r
 exact Ac.mk (d.cK (j:=7) rfl) (key _ (λ_=>by simp[q,r]) λh=>absurd g h)
theorem XN {s:bj}{a b c:Sl}{d:Int}(k: ∀g,Ext h g->R ((gU s d).V a ⟨none,0,0⟩ ⟨none,0,0⟩).v g):AA A P IP #[(s.V a b c).v,J6 J9 d] h R:=by
 refine ADF ?_;unfold V8;refine al.mk λJ _ l n K=>al.mk λL _ o i M=>?_
 have p:=i.af l (λh=>h);refine ab.bQ (dH:=(({s with status:=d}:bj).V a b c).c) p (of_decide_eq_true rfl) rfl λN q r _=>?_
 refine ab.bQ (dH:=(({s with status:=d,asked:=0}:bj).V a b c).c) q (of_decide_eq_true rfl) rfl λO t u _=>?_
 refine ab.bQ (dH:=(({s with status:=d,asked:=0,taken:=0}:bj).V a b c).c) t (of_decide_eq_true rfl) rfl λQ v w _=>?_
 refine ab.bQ (dH:=(({s with status:=d,asked:=0,taken:=0,fresh:=false}:bj).V a b c).c) v (of_decide_eq_true rfl) rfl λS z B _=>?_
 refine ab.bQ (dH:=(({s with status:=d,asked:=0,taken:=0,fresh:=false}:bj).V a ⟨none,0,0⟩ c).c) z (of_decide_eq_true rfl) rfl λT C D _=>?_
 refine ab.bQ (dH:=(({s with status:=d,asked:=0,taken:=0,fresh:=false}:bj).V a ⟨none,0,0⟩ ⟨none,0,0⟩).c) C (of_decide_eq_true rfl) rfl λU E F _=>?_
 have m:=((((r.trans u).trans w).trans B).trans D).trans F;have G:=m.af o (by omega);refine Au.mk (({s with status:=d,asked:=0,taken:=0,fresh:=false}:bj).V a ⟨none,0,0⟩ ⟨none,0,0⟩) (Em E) ?_;refine aP.mk G (A0 12) λH j I V=>Au.mk _ (Em (by rw[Ow] at j;exact j)) (k H ?_)
 exact((n.trans i).more m λc f=>by subst f;exact A0 _).more I λc f=>by subst f;omega
theorem py {s:bj}{a b c:Sl}(k:b.len=s.aw.length)(l: ∀j,Ext h j->R (J3 (decide (Ou s))) j):AA A P Ko #[(s.V a b c).v] h R:=by
 refine ADy ?_;unfold Yn;refine al.mk λm _ i n o=>?_
 have g:=l m n;refine AC.mk (AB i rfl) (ae.intro (λd=>?_) (λd=>?_))
 ·have d:s.asked=0:=by simpa using d
  refine AC.mk (AB i rfl) (ae.intro (λf=>?_) (λf=>?_))
  ·have f:s.taken=0:=by simpa using f
   refine AY.mk (s:=b) (AB i rfl) ?_;have e:decide (Ou s)=(((b.len:Nat):Int)==(0:Int)):=by rw[k,Ek];simp[Ou,d,f,Wa]
   rw[e] at g;exact g
  ·have f:s.taken≠0:=by simpa using f
   rw[show decide (Ou s)=false from by simp[Ou,f]] at g;exact g
 ·have d:s.asked≠0:=by simpa using d
  rw[show decide (Ou s)=false from by simp[Ou,d]] at g;exact g
end
end Go.Lf.G
namespace Go.Lf
open Go
structure ER (s:bj) (n:Nat):Prop where
 aw:s.aw.length<=n
 aj:s.aj.length<=n
 steps:s.prog.steps.length<=16
 ar:0<=s.prog.ar/\s.prog.ar<=16000
 ba:0<=s.ba/\s.ba<=1099511627776
 next:0<=s.next/\s.next<=501
 st:0<=s.status/\s.status<=4
 waits: ∀x∈s.prog.steps,0<=x.wait/\x.wait<=1000
theorem ER.zero:ER TS 0:=⟨by decide,by decide,by decide,by decide,by decide,by decide,by decide,λx a=>by cases a⟩
theorem AP0 {x:bP}(a:KW x=true):0<=x.wait/\x.wait<=1000:=by
 unfold KW at a
 repeat' split at a
 all_goals first|(simp only[A3,Cp,decide_eq_true_eq,BX] at a;omega)|cases a
theorem RU {a:Ev}(d:FQ a=true):(1<=a.kind/\a.kind<=18)/\(1<=a.id/\a.id<=500)/\(0<=a.tick/\a.tick<=1099511627776)/\(a.kind=1-> ∃p,JF (bl a.data)=some p/\EA p=true)/\(a.kind=12->Ai a.data=true):=by
 unfold FQ at d;rw[A3] at d;obtain⟨c,b⟩:=d;simp only[Eo,A3] at c;refine⟨BX.1 c.1.1.1.1.1.1.1,BX.1 c.1.1.1.1.1.1.2,BX.1 c.1.1.1.1.1.2,λe=>?_,λe=>?_⟩
 ·unfold Lg at b;rw[if_pos e] at b;obtain⟨p,f⟩:=Option.isSome_iff_exists.1 b;exact⟨p,f,(uY f).1⟩
 ·unfold Lg at b;rw[if_neg (by omega),if_pos e] at b;exact b
theorem wG {p:cj}(a:EA p=true):p.steps.length<=16/\(0<=p.ar/\p.ar<=16000)/\ ∀x∈p.steps,KW x=true:=by simp only[EA,A3,decide_eq_true_eq,CC] at a;exact⟨a.1.1,BX.1 a.1.2,a.2⟩
structure lM (s t:bj):Prop where
 prog:t.prog=s.prog
 next:t.next=s.next
 ba:t.ba=s.ba
theorem P8 {s t:bj}{b:Ev}(a:Dn s b=some t):lM s t/\t.aw=s.aw/\t.aj=s.aj/\t.status=s.status:=by
 unfold Dn at a
 repeat' split at a
 all_goals first|(cases a;exact⟨⟨rfl,rfl,rfl⟩,rfl,rfl,rfl⟩)|cases a
theorem wH {s t:bj}{b:Ev}(a:KM s b=some t):lM s t/\(t.aw=s.aw\/t.aw= [])/\(t.aj=s.aj\/t.aj= [])/\(t.status=s.status\/(1<=t.status/\t.status<=4)):=by
 unfold KM at a
 repeat' split at a
 all_goals first|(cases a;first|exact⟨⟨rfl,rfl,rfl⟩,.inl rfl,.inl rfl,.inl rfl⟩|exact⟨⟨rfl,rfl,rfl⟩,.inr rfl,.inr rfl,.inr (by simp only[gU];omega)⟩)|cases a
theorem wI {s t:bj}{b:Ev}(a:LZ s b=some t):lM s t/\t.aw.length<=s.aw.length+1/\t.aj=s.aj/\t.status=s.status:=by
 unfold LZ at a;split at a
 ·obtain⟨x,c,a⟩:=Option.bind_eq_some_iff.1 a;split at a
  ·cases a
  ·cases a;exact⟨⟨rfl,rfl,rfl⟩,by simp,rfl,rfl⟩
 ·obtain⟨i,d,a⟩:=Option.bind_eq_some_iff.1 a;obtain⟨e,f,a⟩:=Option.bind_eq_some_iff.1 a
  repeat' split at a
  all_goals first|(cases a;exact⟨⟨rfl,rfl,rfl⟩,by first|(simp only[Rg];omega)|(have:=A0C s.aw i;simp only;omega),rfl,rfl⟩)|cases a
theorem wJ {s t:bj}{b:Ev}(a:KA s b=some t):lM s t/\t.aw=s.aw/\t.aj.length<=s.aj.length+1/\t.status=s.status:=by
 unfold KA at a;split at a
 ·obtain⟨x,c,rfl⟩:=Option.map_eq_some_iff.1 a;exact⟨⟨rfl,rfl,rfl⟩,rfl,by simp,rfl⟩
 ·obtain⟨i,d,rfl⟩:=Option.map_eq_some_iff.1 a;exact⟨⟨rfl,rfl,rfl⟩,rfl,by have:=A0C s.aj i;simp only;omega,rfl⟩
theorem AJ8 {s t:bj}{g:Ev}(a:PW s g=some t): ∃u:bj,t= {u with next:=s.next+1}/\lM s u/\u.aw.length<=s.aw.length+1/\u.aj.length<=s.aj.length+1/\(u.status=s.status\/(1<=u.status/\u.status<=4)):=by
 unfold PW at a;obtain⟨u,b,rfl⟩:=Option.map_eq_some_iff.1 a;refine⟨u,rfl,?_⟩;split at b
 ·obtain⟨c,d,e,f⟩:=P8 b;exact⟨c,by rw[d];omega,by rw[e];omega,.inl f⟩
 ·split at b
  ·obtain⟨c,d,e,f⟩:=wI b;exact⟨c,d,by rw[e];omega,.inl f⟩
  ·split at b
   ·obtain⟨c,d,e,f⟩:=wJ b;exact⟨c,by rw[d];omega,e,.inl f⟩
   ·obtain⟨c,d,e,f⟩:=wH b;exact⟨c,by rcases d with a|a<;>rw[a]<;>simp,by rcases e with a|a<;>rw[a]<;>simp,f⟩
theorem Ta {s:bj}{c:Ev}{g:Nat}(b:ER s g)(a:(Bj s c).1=0):ER (Bj s c).2 (g+1):=by
 have ok:=QS a;obtain⟨w,y,j,k,_⟩:=RU ok;unfold Bj at a ⊢;rw[if_neg (by simp[ok])] at a ⊢;split at a
 ·rename_i f;rw[if_pos f];split at a
  ·rename_i d;rw[if_pos d];obtain⟨p,l,m⟩:=k d.1;obtain⟨n,o,q⟩:=wG m;show ER (Wx c) _;unfold Wx;rw[l,IN];exact⟨AG _,AG _,n,o,j,by show(0:Int)<=2/\(2:Int)<=501;omega,by show(0:Int)<=0/\(0:Int)<=4;omega,λx r=>AP0 (q x r)⟩
  ·cases a
 ·rename_i f;rw[if_neg f];split at a
  ·cases a
  ·rename_i d;rw[if_neg d];split at a
   ·cases a
   ·rename_i h;rw[if_neg h];have z:c.id=s.next:=by simpa using h
    cases i:PW s c with
    |none=>rw[i] at a;cases a
    |some t=>
     obtain⟨u,rfl,e,A,B,v⟩:=AJ8 i;have C:=b.aw;have D:=b.aj;exact⟨by show u.aw.length<=_;omega,by show u.aj.length<=_;omega,by show u.prog.steps.length<=_;rw[e.prog];exact b.steps,by show 0<=u.prog.ar/\_;rw[e.prog];exact b.ar,by show 0<=u.ba/\_;rw[e.ba];exact b.ba,by show 0<=s.next+1/\s.next+1<=501;omega,by
      have:=b.st;show 0<=u.status/\u.status<=4;rcases v with a|a<;>omega,by show ∀x∈u.prog.steps,_;rw[e.prog];exact b.waits⟩
theorem wK: ∀ {l:List Ev} {s t:bj} {a:Nat},ER s a->Ep s l=some t->ER t (a+l.length)
 | [],s,t,a,c,b=>by cases b;exact c
 |e::l,s,t,a,c,b=>by
  rw[Ep] at b;split at b
  ·rename_i d;have:=wK (Ta c d) b;rw[A6];rw[show a+(l.length+1)=a+1+l.length from by omega];exact this
  ·cases b
end Go.Lf
namespace Go.Lf
open Go
variable {α : Type} {E : cy α} {A : ak} {P : Q1}
theorem Mod.mod {d:Nat->Prop}{b c:aa}(a:Mod (λ_=>False) b c):Mod d b c:=a.ai λ_ _ b=>b.elim
def wL(A:ak)(P:Q1)(t f:Q7)(c:Nat)(s:Sl)(i:Int)(b:Int)(d:aa)(e:A2O):Prop:=
 aH ((0:Int)<=((s.len:Nat):Int)/\((s.len:Nat):Int)<=((s.cap:Nat):Int))<|
 aH ((0:Int)<=b/\b<=(((((s.len:Nat):Int).toNat):Nat):Int))<|
 aH ((0:Int)<=i/\i<=((b.toNat:Nat):Int))<|
 ae (i==b) (
  e (.slice s.p s.len s.cap) d) (
  aH ((0:Int)<=i/\i<=((s.cap:Nat):Int))<|
  aH ((0:Int)<=b/\b<=((s.len:Nat):Int))<|
  BB A P (Builtin.append_ #[t,t] t #[.slice (Ay s.p s.cap 0 c) (i.toNat-0) (s.cap-0),.slice (Ay s.p s.cap b.toNat c) (s.len-b.toNat) (s.cap-b.toNat)]) d λv g=> ∃a:Sl,v= .slice a.p a.len a.cap/\(
  aH ((0:Int)<=((s.len:Nat):Int)/\((s.len:Nat):Int)<=((a.cap:Nat):Int))<|
  aH ((0:Int)<=((a.len:Nat):Int)/\((a.len:Nat):Int)<=((((s.len:Nat):Int).toNat:Nat):Int))<|
  BB A P (Builtin.clear_ #[t] f #[.slice (Ay a.p a.cap (((a.len:Nat):Int).toNat) c) ((((s.len:Nat):Int).toNat)-(((a.len:Nat):Int).toNat)) (a.cap-(((a.len:Nat):Int).toNat))]) g λv1 h=>v1= .tuple #[]/\(
  e (.slice a.p a.len a.cap) h)))
theorem ASp {t m T:Q7}{a:J0}(o:P.underlying t=some (.slice T))(p:(zeroValue T).calc P=some a)(f: ∀v∈a.cells.toList,Kh v=true){d:aa}{b e q:Nat}{g:Array J0}{K:A2O}
  (h:d[b]? =some (.cells g T (0,0))) (B:e+a.cells.size<=g.size)
  (r: ∀c,c[b]? =some (.cells (gF g e a.cells.toList) T (0,0))->Mod (· =b) d c->c.size=d.size->K (.tuple #[]) c):
  BB A P (Builtin.clear_ #[t] m #[.slice (some ⟨b,e,none⟩) 1 q]) d K:=by
 intro n;have s:(Builtin.zeroCells a.cells 1).toList=a.cells.toList:=by
  unfold Builtin.zeroCells;rw[No];apply List.ext_getElem
  ·simp
  ·intro i f C;simp at f;simp[Ax f,f]
 have j:=run_storeCells_cells (P:=P) b e a.cells.toList 0 (A.at d n)
  (λk l=>by
   show(ag d ⟨b,e+0+k,none⟩).isSome=true;rw[Ha h,CH (by simp at l;omega)];rfl)
  (λk l=>O5 h) (λv u=>PI (f v u))
 obtain⟨c,w,x,y,z⟩:=cS (A:=A) a.cells.toList e (n:=n) h;rw[Gk,w] at j;refine⟨.tuple #[],c,n,?_,r c x y z⟩;simp[Builtin.clear_,A9 o,JI p,s,j,Result.andThen]
theorem AM6 {l:List α}{a:Nat}:(l.flatMap E.enc).take (a*E.w)=(l.take a).flatMap E.enc:=by
 induction l generalizing a with
 |nil=>simp
 |cons x l b=>
  cases a with
  |zero=>simp
  |succ a=>
   rw[AI,HS,AI,Lk,E.len,AE (by rw[E.len,BW];omega),BW,No,JT,b]
theorem ANA {l:List α}{a:Nat}:(l.flatMap E.enc).drop (a*E.w)=(l.drop a).flatMap E.enc:=by
 induction l generalizing a with
 |nil=>simp
 |cons x l b=>
  cases a with
  |zero=>simp
  |succ a=>
   rw[AI,HM,R0,E.len,HA (by rw[E.len,BW];omega),BW,No,JT,b,CI]
theorem wM {t R T:Q7}{zv:J0}{S:Nat}(U:P7 P t T E.w S=true)(V:(zeroValue T).calc P=some zv)(W: ∀v∈zv.cells.toList,Kh v=true)(F:zv.cells.size=E.w){c:aa}{s:Sl}{l:List α}{i:Nat}{G:A2O}
  (H:Own E T c s l) (I:i<l.length)
  (X: ∀w,Own E T w ⟨s.p,l.length-1,s.cap⟩ (l.eraseIdx i)->Mod (λb=>s.af=some b) c w->G (.slice s.p (l.length-1) s.cap) w):wL A P t R E.w s (i:Int) ((i+1:Nat):Int) c G:=by
 obtain⟨J,Y,z,Z,aA,y,aC,aD⟩:=Zy U;have K:=H.len;rcases H.row with⟨rfl,rfl⟩|⟨g,o,h,B,ab,ac,k,L⟩
 ·simp at I
 have ad:s.len*E.w<=s.cap*E.w:=AS _ ab;unfold wL;refine⟨⟨by omega,by omega⟩,⟨by omega,by omega⟩,⟨by omega,by omega⟩,ae.no (by simp;omega) ⟨⟨by omega,by omega⟩,⟨by omega,by omega⟩,?_⟩⟩;rw[As,As,As,Hv,Hv];have af:Ay s.p s.cap 0 E.w=some ⟨g,0,none⟩:=by unfold Ay;rw[if_neg (by omega),h];simp[BZ]
 rw[af]
 let m:=s.len-(i+1)
 let f:List J0:=(l.drop (i+1)).flatMap E.enc
 have nl:f.length=m*E.w:=by simp only[f,m];rw[Jl,DH,K]
 obtain⟨a,ah,ai⟩: ∃a,Ay s.p s.cap (i+1) E.w=some a/\ ∀j u,f[j]? =some u->(A.at c 0).cell? (a.add j)=some u:=by
  unfold Ay;by_cases M:s.cap=i+1
  ·rw[if_pos M,h];refine⟨_,rfl,λj u d=>?_⟩;have:m=0:=by simp only[m];omega
   have d:=(List.getElem?_eq_some_iff.1 d).1;rw[nl,this] at d;omega
  ·rw[if_neg M,h];refine⟨_,rfl,λj u d=>?_⟩;show ag c ((Addr.add ⟨g,0,none⟩ ((i+1)*E.w)).add j)=some u;rw[BZ,BZ,AK,Ha B];simp only[f] at d;rw[<- ANA,Bm,<-L,E0] at d;split at d
   ·simpa using d
   ·cases d
 rw[ah];intro p;have aj: ∀u∈f,u.oneCell'=true:=λu ak=>by
  obtain⟨x,_,al⟩:=List.mem_flatMap.1 ak;exact PI (E.one x u al)
 have am:i*E.w+m*E.w<=s.cap*E.w:=by rw[<- BW];exact AS _ (by simp only[m];omega)
 have N:=run_append_room (P:=P) (A.at c p) t t T Y J Z g i s.cap o B a m (s.cap-(i+1)) f (by rw[nl,y]) (λj u d=>ai j u d) aj (by simp only[m];omega) (by rw[y,nl,k];exact am);rw[y] at N
 let e:Array J0:=(o.toList.take (i*E.w)++f++o.toList.drop (i*E.w+f.length)).toArray
 obtain⟨n,an,ao,ap,aE⟩: ∃n,(A.at c p).setRow g e=A.at n p/\n[g]? =some (.cells e T (0,0))/\Mod (· =g) c n/\n.size=c.size:=by
  refine⟨_,rfl,?_,⟨?_,λb q aq=>?_⟩,?_⟩
  ·show(c.modify g _)[g]? =_;rw[GO,if_pos rfl,B];rfl
  ·show c.size<=(c.modify g _).size;simp
  ·show(c.modify g _)[b]? =_;rw[GO,if_neg (Ne.symm aq)]
  ·show(c.modify g _).size=_;simp
 refine⟨_,n,p,N.trans (by rw[<- an]),⟨some ⟨g,0,none⟩,i+m,s.cap⟩,rfl,⟨by omega,by show((s.len:Nat):Int)<=((s.cap:Nat):Int);omega⟩,⟨by omega,by show((i+m:Nat):Int)<=_;simp only[m];omega⟩,?_⟩;have C:i+m=l.length-1:=by simp only[m];omega
 dsimp only[Int.toNat_natCast];rw[C];have ar:Ay (some ⟨g,0,none⟩) s.cap (l.length-1) E.w=some ⟨g,(l.length-1)*E.w,none⟩:=by unfold Ay;rw[if_neg (by omega)];simp[BZ]
 rw[ar,show s.len-(l.length-1)=1 from by omega];have r:e.size=o.size:=by simp only[e,List.size_toArray,A1,AH,DH,DQ];rw[nl];omega
 have O:(l.length-1)*E.w+E.w<=s.cap*E.w:=by rw[show(l.length-1)*E.w+E.w=l.length*E.w from by rw[<- Nat.succ_mul];congr 1;omega,<-K];exact ad
 refine ASp J V W ao (by rw[r,F,k];exact O) λQ au av aF=>⟨rfl,?_⟩
 rw[<- h];have aw:Mod (λb=>s.af=some b) c Q:=(ap.ai λb _ q=>by subst q;simp[Sl.af,h]).trans (av.ai λb _ q=>by subst q;simp[Sl.af,h]);refine X Q ⟨by rw[List.length_eraseIdx,if_pos I],.inr ⟨g,_,h,au,by show l.length-1<=s.cap;omega,ac,?_,?_⟩⟩ aw
 ·show(gF _ _ _).size=s.cap*E.w;rw[IM,r,k]
 ·show(gF e ((l.length-1)*E.w) zv.cells.toList).toList.take ((l.length-1)*E.w)=_;have ax:zv.cells.toList.length=E.w:=by rw[DQ,F]
  have D:e.size=s.cap*E.w:=by rw[r,k]
  rw[Nz _ _ _ (by rw[ax,D];exact O),A4,Lk];have ay:(l.length-1)*E.w<=e.toList.length:=by
   have D:e.toList.length=s.cap*E.w:=by rw[DQ,r,k]
   rw[D];omega
  rw[AH,GF ay,IS,HX,AN,Ss,Nat.min_self];simp only[e];have az:i*E.w<=o.toList.length:=by rw[DQ,k];omega
  rw[A4,Lk,AH,GF az,AE (by rw[AH,<-C,BW];omega)];rw[<- C,BW,Vc,<-nl,Lk,IS,HX,AN,AE (A0 _)];rw[List.eraseIdx_eq_take_drop_succ,FF,<-AM6,<-L,Ss,GF (AS _ (by omega))]
end Go.Lf
namespace Go.Lf.G
open Go
theorem VZ {s:A2P}:bM s (⟨#[]⟩:A2P)=decide (s=Fg):=CP
theorem xE {s:A2P}:s=Fg↔s.size=0:=by
 constructor
 ·rintro rfl;rfl
 ·intro a;have:bl s= []:=CD (by rw[Av];exact a);rw[<- DL s];show AX (bl s)=_;rw[this];rfl
theorem Fb {y:ak}{g:aa}{s:A2P}{r:A2O}(e:r (J3 (Ai s)) g):AA y P Bq #[J7 s] g r:=by
 refine AEU ?_;unfold XK;rw[VZ];refine ah.mk λK z=>?_
 have key: ∀k:Bool,(k=true↔s.size=0\/16<s.size)->K (k,()) g:=λk t=>by
  refine z _ _ ?_;refine ae.intro (λa=>?_) (λa=>?_)
  ·have f:Ai s=false:=by rw[I3];intro n;have:=FK.1 n;have:=t.1 a;omega
   rw[f] at e;exact e
  have F: ¬(s.size=0\/16<s.size):=λb=>by have a:k=false:=a;rw[t.2 b] at a;cases a
  refine Loop.rule (λm x b=> ∃i:Nat,x=((i:Int),())/\b=g/\m=s.size-i/\i<=s.size/\ ∀c∈(bl s).take i,33<=c.toNat/\c.toNat<=126) ?_ ⟨0,rfl,rfl,rfl,by omega,by simp⟩;rintro G m _ b ⟨i,rfl,f,rfl,H,u⟩ A;subst b;refine ae.intro (λo=>?_) (λo=>?_)
  ·have p:i<s.size:=by simpa using o
   obtain⟨c,h⟩: ∃c,(bl s)[i]? =some c:=⟨_,A2 (by rw[Av];exact p)⟩;have B:c∈bl s:=AF h;dsimp only;rw[Ng h];refine ah.mk λC D=>⟨⟨by omega,by omega⟩,?_⟩
   have v: ∀l:Bool,(l=true↔ ¬(33<=c.toNat/\c.toNat<=126))->C (l,()) g:=λl w=>by
    refine D _ _ ?_;refine ae.intro (λa=>?_) (λa=>?_)
    ·have f:Ai s=false:=by rw[I3];intro n;exact w.1 a ((FK.1 n).2.2 c B)
     rw[f] at e;exact e
    ·rw[AZ (by omega)];refine A (s.size-(i+1)) _ _ (by omega) ⟨i+1,rfl,rfl,rfl,p,λx d=>?_⟩;rw[AD,h,CN] at d;rcases List.mem_append.1 d with d|d
     ·exact u x d
     ·simp at d;subst d;have a:l=false:=a;exact Decidable.byContradiction λb=>by rw[w.2 b] at a;cases a
   refine ae.intro (λq=>v _ ⟨λ_=>by simp at q;omega,λ_=>rfl⟩) (λq=>⟨⟨by omega,by omega⟩,v _ ⟨λj=>by simp at j;omega,λj=>by simp at q;simp;omega⟩⟩)
  ·have p:i=s.size:=by simp at o;omega
   have f:Ai s=true:=by rw[FK];refine⟨by omega,by omega,λc h=>u c ?_⟩;rw[AE (by rw[Av];omega)];exact h
   rw[f] at e;exact e
 refine ae.intro (λa=>key _ ⟨λ_=> .inl (by simpa [xE] using a),λ_=>rfl⟩) (λa=>key _ ⟨λj=>by simp at j;omega,λj=>?_⟩);have a: ¬s.size=0:=λE=>by rw[decide_eq_false_iff_not] at a;exact a (xE.2 E)
 rw[decide_eq_true_eq];omega
theorem Oq {i:ak}{g:aa}{a c b:Int}{h:A2O}(d:h (J3 (bS a c b)) g):AA i P Gh #[J6 J9 a,J6 J9 c,J6 J9 b] g h:=by
 refine ACQ ?_;unfold VW;refine ae.intro (λe=>?_) (λe=>?_)
 ·have f:bS a c b=decide (a<=b):=by simp at e;unfold bS;rw[decide_eq_decide];omega
  rw[f] at d;exact d
 ·have f:bS a c b=false:=by simp at e;unfold bS;simp;omega
  rw[f] at d;exact d
def bP.fv(x:bP):List Fv:= [.i x.kind,.s x.name,.s x.aE,.i x.tries,.i x.aq,.i x.wait]
theorem xF:P.underlying BL=some (.struct (P.fieldsOf BL)):=by kernel_rfl
theorem xG(x:bP):ql P BL (bP.fv x)=true:=by kernel_rfl
theorem AMQ {q:ak}{l:aa}{x:bP}{m:A2O}(r: ∀n,Ext l n->m (J3 (KW x)) n):
  AA q P RV #[.agg #[J6 J9 x.kind,J7 x.name,J7 x.aE,J6 J9 x.tries,J6 J9 x.aq,J6 J9 x.wait]] l m:=by
 refine AEB ?_;unfold Yb;refine al.mk λj _ a s _=>?_
 have b:=r j s;refine AC.mk (AL a rfl) ?_;unfold KW at b;refine ae.intro (λh=>?_) (λh=>?_)
 ·have h:x.kind=1:=by simpa using h
  rw[if_pos h] at b;refine ah.mk λK t=>?_
  have key:K (((decide (x.aE=Fg)&&decide (x.aq=0))||(Ai x.aE&&bS x.aq 1 5)),()) j:=by
   refine t _ _ ?_;refine AJ.mk (AB a rfl) (Fb ⟨_,rfl,?_⟩);cases d:Ai x.name with
   |false=>rw[d] at b;simpa [ae] using b
   |true=>
    refine ae.yes rfl (AC.mk (AB a rfl) (Oq ⟨_,rfl,?_⟩));cases o:bS x.tries 1 5 with
    |false=>rw[d,o] at b;simpa [ae] using b
    |true=>
     refine ae.yes rfl ?_;refine ae.intro (λc=>?_) (λc=>?_)
     ·refine AC.mk (AB a rfl) ?_;rw[d,o] at b;have c:((decide (x.aE=Fg)&&decide (x.aq=0))||(Ai x.aE&&bS x.aq 1 5))=true:=c;rw[c] at b;have e:(x.wait==(0:Int))=decide (x.wait=0):=by by_cases u:x.wait=0<;>simp[u]
      rw[e];simpa using b
     ·have c:((decide (x.aE=Fg)&&decide (x.aq=0))||(Ai x.aE&&bS x.aq 1 5))=false:=c;rw[c] at b;simpa using b
  have sub: ∀ {p:Bool},p=(Ai x.aE&&bS x.aq 1 5)->((decide (x.aE=Fg)&&decide (x.aq=0))=false)->K (p,()) j:=λv w=>by
   rw[w,SZ,<-v] at key;exact key
  refine AJ.mk (AB a rfl) ?_;rw[VZ];refine ae.intro (λi=>?_) (λi=>?_)
  ·refine AC.mk (AB a rfl) ?_;refine ae.intro (λk=>?_) (λk=>?_)
   ·have e:decide (x.aq=0)=true:=by simpa using k
    rw[i,e] at key;simpa using key
   ·have e:decide (x.aq=0)=false:=by simpa using k
    refine AJ.mk (AB a rfl) (Fb ⟨_,rfl,?_⟩);refine ae.intro (λd=>?_) (λd=>?_)
    ·exact AC.mk (AB a rfl) (Oq ⟨_,rfl,sub (by rw[d,DP]) (by rw[e,Lq])⟩)
    ·exact sub (by rw[d,Ft]) (by rw[e,Lq])
  ·refine AJ.mk (AB a rfl) (Fb ⟨_,rfl,?_⟩);refine ae.intro (λd=>?_) (λd=>?_)
   ·exact AC.mk (AB a rfl) (Oq ⟨_,rfl,sub (by rw[d,DP]) (by rw[i,Ft])⟩)
   ·exact sub (by rw[d,Ft]) (by rw[i,Ft])
 ·have h:x.kind≠1:=by simpa using h
  rw[if_neg h] at b;refine ae.intro (λf=>?_) (λf=>?_)
  ·have f:x.kind=2:=by simpa using f
   rw[if_pos f] at b;refine AC.mk (AL a rfl) (AJ.mk (AB a rfl) (AJ.mk (AB a rfl) (AC.mk (AB a rfl) (AC.mk (AB a rfl) (AC.mk (AB a rfl) (AC.mk (AB a rfl) ?_))))));refine uZ (xs:=bP.fv x) (ys:= [.i 2,.s Fg,.s Fg,.i 0,.i 0,.i x.wait]) xF (xG x) rfl rfl rfl ⟨_,rfl,?_⟩;have e:decide (bP.fv x= [.i 2,.s Fg,.s Fg,.i 0,.i 0,.i x.wait])=(decide (x.name=Fg)&&decide (x.aE=Fg)&&decide (x.tries=0)&&decide (x.aq=0)):=by rw[Ek];simp[bP.fv,f,and_assoc]
   rw[e];refine ae.intro (λc=>?_) (λc=>?_)
   ·rw[c,DP] at b;exact AC.mk (AB a rfl) (Oq ⟨_,rfl,b⟩)
   ·rw[c,Ft] at b;exact b
  ·have f:x.kind≠2:=by simpa using f
   rw[if_neg f] at b;refine ae.intro (λg=>?_) (λg=>?_)
   ·have g:x.kind=3:=by simpa using g
    rw[if_pos g] at b;refine AC.mk (AL a rfl) (AJ.mk (AB a rfl) (AJ.mk (AB a rfl) (AC.mk (AB a rfl) (AC.mk (AB a rfl) (AC.mk (AB a rfl) (AJ.mk (AB a rfl) ?_))))));refine uZ (xs:=bP.fv x) (ys:= [.i 3,.s x.name,.s Fg,.i 0,.i 0,.i 0]) xF (xG x) rfl rfl rfl ⟨_,rfl,?_⟩;have e:decide (bP.fv x= [.i 3,.s x.name,.s Fg,.i 0,.i 0,.i 0])=(decide (x.aE=Fg)&&decide (x.tries=0)&&decide (x.aq=0)&&decide (x.wait=0)):=by rw[Ek];simp[bP.fv,g,and_assoc]
    rw[e];refine ae.intro (λc=>?_) (λc=>?_)
    ·rw[c,DP] at b;exact AJ.mk (AB a rfl) (Fb ⟨_,rfl,b⟩)
    ·rw[c,Ft] at b;exact b
   ·have g:x.kind≠3:=by simpa using g
    rw[if_neg g] at b;exact b
abbrev AOo(x:bP):Array J0:= #[J6 J9 x.kind,J7 x.name,J7 x.aE,J6 J9 x.tries,J6 J9 x.aq,J6 J9 x.wait]
theorem xH:P7 P Dv BL Lr.w 64=true:=by kernel_rfl
theorem nX {b:aa}{a:Q6}{x:bP}(c:Cells b a (Lr.enc x)):ag b a=some (J6 J9 x.kind)/\ag b (a.add 1)=some (J7 x.name)/\ag b (a.add 2)=some (J7 x.aE)/\ag b (a.add 3)=some (J6 J9 x.tries)/\ag b (a.add 4)=some (J6 J9 x.aq)/\ag b (a.add 5)=some (J6 J9 x.wait):=by refine⟨?_,c 1 _ rfl,c 2 _ rfl,c 3 _ rfl,c 4 _ rfl,c 5 _ rfl⟩;have:=c 0 _ rfl;rwa [add_zero] at this
theorem xI {E:ak}{g:aa}{s:Sl}{p:cj}{y:A2O}(v:View Lr g s p.steps)(Z:p.steps.length<=1099511627776)(q: ∀z,Ext g z->y (J6 J9 (if EA p then 0 else 130)) z):
  AA E P Np #[.agg #[J4 s.p s.len s.cap,J6 J9 p.ar]] g y:=by
 refine AES ?_;unfold YO;refine al.mk λA _ h B _=>?_
 refine ah.mk λK F=>AY.mk (s:=s) (AL h rfl) ?_
 rw[v.len];have key: ∀l:Bool,(l=true↔ ¬(p.steps.length<=16/\bS p.ar 0 16000=true))->K (l,()) A:=λl C=>by
  refine F _ _ ?_;refine ae.intro (λd=>?_) (λd=>?_)
  ·have e:=q A B;rw[if_neg] at e
   ·exact e
   ·intro j;simp only[EA,A3,decide_eq_true_eq] at j;exact C.1 d j.1
  have G:p.steps.length<=16/\bS p.ar 0 16000=true:=Decidable.byContradiction λk=>by
   have d:l=false:=d;rw[C.2 k] at d;cases d
  refine AY.mk (s:=s) (AL h rfl) ?_;refine Loop.rule (λm x k=> ∃i:Nat,x=((i:Int),())/\Ext g k/\m=p.steps.length-i/\i<=p.steps.length/\(p.steps.take i).all KW=true) ?_ ⟨0,rfl,B,rfl,by omega,rfl⟩;rintro ac m _ k ⟨i,rfl,n,rfl,ad,r⟩ H;rw[v.len];refine ae.intro (λt=>?_) (λt=>?_)
  ·have u:i<p.steps.length:=by simpa using t
   obtain⟨x,w⟩: ∃x,p.steps[i]? =some x:=⟨_,A2 u⟩;rw[<- v.len];refine(v.ext n).idx w λa _ c=>?_
   obtain⟨I,J,L,M,N,O⟩:=nX c;refine AC.mk I (AJ.mk J (AJ.mk L (AC.mk M (AC.mk N (AC.mk O ?_)))));refine al.mk λQ _ R S _=>ab.mj R λT f U af=>?_
   refine AC.mk (AL f rfl) (AJ.mk (AB f rfl) (AJ.mk (AB f rfl) (AC.mk (AB f rfl) (AC.mk (AB f rfl) (AC.mk (AB f rfl) ?_)))));have V:Ext g T:=(n.trans S).more U λb h=>by subst h;exact n.size
   refine AMQ (x:=x) λW X=>⟨_,rfl,?_⟩
   have D:=V.trans X;refine ae.intro (λo=>?_) (λo=>?_)
   ·have e:=q W D;rw[if_neg] at e
    ·exact e
    ·intro j;simp only[EA,A3,decide_eq_true_eq,CC] at j;have:=j.2 x (AF w);rw[this] at o;cases o
   ·dsimp only;rw[AZ (by omega)];refine H (p.steps.length-(i+1)) _ _ (by omega) ⟨i+1,rfl,D,rfl,u,?_⟩;rw[AD,w,CN,T4,r];simpa using o
  ·have u:i=p.steps.length:=by simp at t;omega
   rw[AE (by omega)] at r;have e:=q k n;rw[if_pos (by simp only[EA,A3,decide_eq_true_eq];exact⟨G,r⟩)] at e;exact e
 refine ae.intro (λd=>key _ ⟨λ_ Q=>by simp at d;omega,λ_=>rfl⟩) (λd=>?_);refine AC.mk (AB h rfl) (Oq ⟨_,rfl,key _ ?_⟩);have Y:p.steps.length<=16:=by simp at d;omega
 simp[Y]
structure Wd (h:aa) (b rb b1:Nat) (lim:Int) (s:Sl) (l:List bP) (hh:aa) (r:Rd):Prop where
 ext:Ext h hh
 zero:hh[b]? =some (J2 #[J4 none 0 0,J6 J9 0] Cm (0,0))
 rd:Io hh rb r
 var:hh[b1]? =some (J2 #[J4 s.p s.len s.cap,J6 J9 lim] Cm (0,0))
 own:Own Lr BL hh s l
 fresh: ∀c,s.af=some c->h.size<=c/\c≠b/\c≠rb/\c≠b1
 ne:h.size<=b/\h.size<=rb/\h.size<=b1/\b≠rb/\b≠b1/\rb≠b1
theorem Wd.read {g:aa}{b d h:Nat}{i:Int}{s:Sl}{l:List bP}{j e:aa}{n k:Rd}(a:Wd g b d h i s l j n)(o:Io e d k)(m:Mod (· =d) j e):Wd g b d h i s l e k:=
 ⟨a.ext.more m λc f=>by subst f;exact a.ne.2.1,m.af a.zero a.ne.2.2.2.1,o,m.af a.var a.ne.2.2.2.2.2.symm,a.own.mod m λc f=>(a.fresh c f).2.2.1,a.fresh,a.ne⟩
theorem Wd.other {e:aa}{b f g c:Nat}{i:Int}{s:Sl}{l:List bP}{j k:aa}{n:Rd}(a:Wd e b f g i s l j n)(m:Mod (· =c) j k)(d:e.size<=c/\c≠b/\c≠f/\c≠g/\s.af≠some c):Wd e b f g i s l k n:=
 ⟨a.ext.more m λo h=>by subst h;exact d.1,m.af a.zero d.2.1.symm,m.af a.rd d.2.2.1.symm,m.af a.var d.2.2.2.1.symm,a.own.mod m λo h p=>d.2.2.2.2 (by rw[h,p]),a.fresh,a.ne⟩
theorem Wd.on {a:aa}{b d e:Nat}{f:Int}{s:Sl}{l:List bP}{g h:aa}{i:Rd}(c:Wd a b d e f s l g i)(m:Ext g h):Wd a b d e f s l h i:=
 ⟨c.ext.trans m,m.af c.zero (λa=>a),m.af c.rd (λa=>a),m.af c.var (λa=>a),c.own.ext m,c.fresh,c.ne⟩
theorem Wd.new {d:aa}{b e f:Nat}{g:Int}{s:Sl}{l:List bP}{a:aa}{h:Rd}(c:Wd d b e f g s l a h):d.size<=a.size/\a.size≠b/\a.size≠e/\a.size≠f/\s.af≠some a.size:=by
 refine⟨c.ext.size,?_,?_,?_,λi=>?_⟩
 ·have:=Af c.zero;omega
 ·have:=Af c.rd;omega
 ·have:=Af c.var;omega
 ·have:=c.own.lt i;omega
theorem AMl {bk bt bw:Nat}{all:Bool}(a:Rd):(MU bk bt bw all a).2.rest.length<=a.rest.length:=by
 have c:=Fp bk a;unfold MU;simp only;split
 ·have b:=(Ny (Bt bk a).2).1;have d:=Fp bt (FY (Bt bk a).2).2;have e:=(Ny (Bt bt (FY (Bt bk a).2).2).2).1;have f:=Fp bt (FY (Bt bt (FY (Bt bk a).2).2).2).2;simp only;omega
 ·split
  ·have b:=Fp bw (Bt bk a).2;simp only;omega
  ·split
   ·have b:=(Ny (Bt bk a).2).1;simp only;omega
   ·exact c
def xJ(a:Option cj)(s:Sl):J0:=match a with
 |none=>J1 #[.agg #[J4 none 0 0,J6 J9 0],J6 J9 60]
 |some p=>J1 #[.agg #[J4 s.p s.len s.cap,J6 J9 p.ar],J6 J9 0]
theorem AKJ {A:ak}{h:aa}{l:List UInt8}{R:A2O}(bH:l.length<1099511627776)
  (aw: ∀S s,Ext h S->(∀ p,JF l=some p->View Lr S s p.steps/\ ∀c,s.af=some c->h.size<=c)->R (xJ (JF l) s) S):AA A P Jo #[J7 (AX l)] h R:=by
 refine ADC ?_;unfold VV;refine al.mk λz _ ax ag aR=>?_
 refine Kq λaS ai aj=>⟨_,rfl,?_⟩
 refine DX (most:=16000) ai (by simp;omega) (by decide) λT ay U=>⟨_,rfl,?_⟩
 refine al.mk λbI _ az V aT=>ab.two az λaU aA W aV=>?_
 have bJ:z.size<aS.size:=Af ai;have bK:=U.size;have bL:=ag.size;have aC:Wd h h.size z.size T.size ((Bt 16000 ⟨l,false⟩).1:Int) ⟨none,0,0⟩ [] aU (Bt 16000 ⟨l,false⟩).2:=by
  have aW:T[h.size]? =some (J2 #[J4 none 0 0,J6 J9 0] Cm (0,0)):=U.af (aj.af ax (λh=>h)) (by omega);have aX:=V.af ay (λh=>h);have aD:Ext h T:=(ag.trans aj).more U λc a=>by subst a;omega
  refine⟨(aD.trans V).more W λc a=>by subst a;exact aD.size,W.af (V.af aW (λh=>h)) (by omega),W.af aX (by omega),aA,Own.nil,λc a=>by simp[Sl.af] at a,by omega,by omega,by omega,by omega,by omega,by omega⟩
 have bM:(Bt 16000 ⟨l,false⟩).2.rest.length<=l.length:=Fp 16000 ⟨l,false⟩;refine DX (most:=16) aC.rd (by omega) (by decide) λbN aE aF=>⟨_,rfl,?_⟩
 have aY:=aC.read aE aF;have bO:=Fp 16 (Bt 16000 ⟨l,false⟩).2;generalize aZ:(Bt 16000 ⟨l,false⟩).1=i at*
 generalize a0:(Bt 16000 ⟨l,false⟩).2=u at*
 have a1:(Bt 16 u).1<=16:=by
  unfold Bt;split
  ·exact AG _
  ·split
   ·exact AG _
   ·omega
 have H:YW 16000 3 5 1000 false l=(⟨(Hg 3 5 1000 false (Bt 16 u).1 (Bt 16 u).2).1,i⟩,(Hg 3 5 1000 false (Bt 16 u).1 (Bt 16 u).2).2):=by simp only[YW,aZ,a0]
 generalize bQ:h.size=b at*
 generalize bR:z.size=I at*
 generalize B:T.size=J at*
 clear ax ai ay az aA ag aj V U W aF aR aT aV aE;refine Loop.rule (λm x am=> ∃(j:Nat) (s:Sl) (f:List bP) (d:Rd),x=((j:Int),())/\Wd h b I J i s f am d/\m=j/\d.rest.length<=l.length/\f.length+j<=16/\
  YW 16000 3 5 1000 false l=(⟨f++(Hg 3 5 1000 false j d).1,i⟩,(Hg 3 5 1000 false j d).2)) ?_ ⟨(Bt 16 u).1,⟨none,0,0⟩,[],(Bt 16 u).2,rfl,aY,rfl,by omega,by simpa using a1,H⟩
 rintro K m _ am ⟨j,s,f,d,rfl,n,bS,bT,bU,H⟩ a2;refine ae.intro (λan=>?_) (λan=>?_)
 ·have aG:0<j:=by simp at an;omega
  obtain⟨k,rfl⟩: ∃k,j=k+1:=⟨j-1,by omega⟩;refine DX (most:=3) n.rd (by omega) (by decide) λao a3 a4=>⟨_,rfl,?_⟩
  have g:=n.read a3 a4;have bV:=Fp 3 d;refine al.mk λX _ v a5 bW=>ab.mj v λa6 B a7 bX=>?_
  have a:=g.new;have w:=(g.on a5).other a7 a;generalize ao.size=a8 at*
  refine AC.mk (AL B rfl) ?_;refine ah.mk λa9 ba=>?_
  have Y: ∀(x:bP) (C:Rd) (o:aa),Wd h b I J i s f o C->o[a8]? =some (J2 (AOo x) BL (0,0))->MU 3 5 1000 false d=(x,C)->a9 () o:=λx C o e q r=>by
   refine ba _ _ ?_;refine AY.mk (s:=s) (AL e.var rfl) ?_;refine AC.mk (AL q rfl) (AJ.mk (AB q rfl) (AJ.mk (AB q rfl) (AC.mk (AB q rfl) (AC.mk (AB q rfl) (AC.mk (AB q rfl) ?_)))));refine al.aZ (E:=Lr) (x:=x) (s:=s) (l:=f) rfl xH e.own (by omega) (by simp[maxLen];omega) λaH S bb Z q bY=>?_
   have bc:s.af≠some J:=λa=>(e.fresh _ a).2.2.2 rfl
   have bd:s.af≠some b:=λa=>(e.fresh _ a).2.1 rfl
   have be:s.af≠some I:=λa=>(e.fresh _ a).2.2.1 rfl
   have aI: ∀c,aH.af=some c->h.size<=c/\c≠b/\c≠I/\c≠J:=λc a=>by
    rcases q c a with z|z
    ·exact e.fresh c z
    ·have bZ:=Af e.zero;have b0:=Af e.rd;have b1:=Af e.var;have b2:=e.ext.size;omega
   refine ab.mk (Z.af e.var bc) (by simp) λb3 bf ac b4=>?_
   rw[show((((k+1:Nat):Int),()):Int×Unit).1-(1:Int)=((k:Nat):Int) by simp,Fu (by omega)];have bg:Hg 3 5 1000 false (k+1) d=(x::(Hg 3 5 1000 false k C).1,(Hg 3 5 1000 false k C).2):=by simp only[Hg,r]
   refine a2 k _ _ (by omega) ⟨k,aH,f++ [x],C,rfl,⟨?_,?_,?_,by simpa using bf,?_,aI,e.ne⟩,rfl,?_,by simp;omega,?_⟩
   ·exact(e.ext.more Z λc a=>(e.fresh c a).1).more ac λc a=>by subst a;exact e.ne.2.2.1
   ·exact ac.af (Z.af e.zero bd) e.ne.2.2.2.2.1
   ·exact ac.af (Z.af e.rd be) e.ne.2.2.2.2.2
   ·exact bb.mod ac λc a=>(aI c a).2.2.2
   ·have:=AMl (bk:=3) (bt:=5) (bw:=1000) (all:=false) d;rw[r] at this;simp only at this;omega
   ·rw[H,bg];simp
  refine ae.intro (λy=>?_) (λy=>?_)
  ·have D:(Bt 3 d).1=1:=by simp at y;omega
   have b5:=(Ny (Bt 3 d).2).1;have b6:=Fp 5 (FY (Bt 3 d).2).2;have b7:=(Ny (Bt 5 (FY (Bt 3 d).2).2).2).1;refine IL w.rd (by omega) λaJ L t=>⟨_,rfl,?_⟩
   have F:=w.read L t;have M:=t.af B a.2.2.1;refine DX (most:=5) F.rd (by omega) (by decide) λad bh G=>⟨_,rfl,?_⟩
   have bi:=F.read bh G;have N:=G.af M a.2.2.1;refine ab.bQ N (by simp) rfl λb8 bj bm b9=>ab.bQ bj (by simp) rfl λca bn bo cb=>?_
   have aK:=(bi.other bm a).other bo a;refine IL aK.rd (by omega) λcc bp aL=>⟨_,rfl,?_⟩
   have aM:=aK.read bp aL;have bq:=aL.af bn a.2.2.1;refine DX (most:=5) aM.rd (by omega) (by decide) λcd br aN=>⟨_,rfl,?_⟩
   have bs:=aM.read br aN;have bu:=aN.af bq a.2.2.1;refine ab.bQ bu (by simp) rfl λce bv bx cf=>ab.bQ bv (by simp) rfl λbz bA bB cg=>?_
   have bC:=(bs.other bx a).other bB a;refine Y ⟨1,AX (FY (Bt 3 d).2).1,AX (FY (Bt 5 (FY (Bt 3 d).2).2).2).1,(Bt 5 (FY (Bt 3 d).2).2).1,(Bt 5 (FY (Bt 5 (FY (Bt 3 d).2).2).2).2).1,0⟩ _ bz bC ?_ ?_
   ·rw[bA,D];rfl
   ·simp only[MU];rw[if_pos D]
  ·have D:(Bt 3 d).1≠1:=by simp at y;omega
   refine ae.intro (λap=>?_) (λap=>?_)
   ·have O:(Bt 3 d).1=2:=by simp at ap;omega
    refine DX (most:=1000) w.rd (by omega) (by decide) λaJ L t=>⟨_,rfl,?_⟩
    have F:=w.read L t;have M:=t.af B a.2.2.1;refine ab.bQ M (by simp) rfl λad N G bD=>?_
    refine Y ⟨2,Fg,Fg,0,0,(Bt 1000 (Bt 3 d).2).1⟩ _ ad (F.other G a) ?_ ?_
    ·rw[N,O];rfl
    ·simp only[MU];rw[if_neg D,if_pos O]
   ·have O:(Bt 3 d).1≠2:=by simp at ap;omega
    refine ae.intro (λaq=>?_) (λaq=>?_)
    ·have ar:(Bt 3 d).1=3:=by simp at aq;omega
     refine IL w.rd (by omega) λaJ L t=>⟨_,rfl,?_⟩
     have F:=w.read L t;have M:=t.af B a.2.2.1;refine ab.bQ M (by simp) rfl λad N G bD=>?_
     refine Y ⟨(Bt 3 d).1,AX (FY (Bt 3 d).2).1,Fg,0,0,0⟩ _ ad (F.other G a) ?_ ?_
     ·rw[N];rfl
     ·simp only[MU];rw[if_neg D,if_neg O,if_pos (.inl ar)]
    ·have ar:(Bt 3 d).1≠3:=by simp at aq;omega
     refine Y ⟨(Bt 3 d).1,Fg,Fg,0,0,0⟩ _ a6 w B ?_;simp only[MU];rw[if_neg D,if_neg O,if_neg (by simp[ar])]
 ·have aG:j=0:=by simp at an;omega
  subst aG;simp only[Hg,AN] at H;refine ah.mk λbE aO=>?_
  refine NZ n.rd ⟨_,rfl,?_⟩;have au:JF l=if YR d&&EA ⟨f,i⟩ then some ⟨f,i⟩ else none:=by unfold JF;rw[H]
  have aP:JF l=none-> ∀o,Wd h b I J i s f o d->bE (true,()) o:=λr o e=>by
   refine aO _ _ (ae.yes rfl ?_);refine ab.two e.zero λX v af bF=>AY.mk (s:=⟨none,0,0⟩) (AL v rfl) (AC.mk (AB v rfl) ?_)
   have:=aw X ⟨none,0,0⟩ (e.ext.more af λc a=>by subst a;exact e.ne.1) (λp Q=>by rw[r] at Q;cases Q);rw[r] at this;exact this
  refine ae.intro (λy=>?_) (λy=>?_)
  ·have av:YR d=false:=by simpa using y
   exact aP (by rw[au,av];rfl) am n
  ·have av:YR d=true:=by simpa using y
   refine AY.mk (s:=s) (AL n.var rfl) (AC.mk (AB n.var rfl) ?_);refine xI (p:=⟨f,i⟩) n.own.view (by simp only;omega) λao bG=>⟨_,rfl,?_⟩
   have g:=n.on bG;cases aQ:EA ⟨f,i⟩ with
   |false=>exact aP (by rw[au,aQ,Lq];rfl) ao g
   |true=>
    refine aO _ _ (ae.no rfl ?_);have r:JF l=some ⟨f,i⟩:=by rw[au,av,aQ];rfl
    refine AY.mk (s:=s) (AL g.var rfl) (AC.mk (AB g.var rfl) ?_);refine ab.two g.zero λX v af bF=>AY.mk (s:=s) (AL v rfl) (AC.mk (AB v rfl) ?_)
    have:=aw X s (g.ext.more af λc a=>by subst a;exact g.ne.1) (λp Q=>by
     rw[r] at Q;obtain rfl:=Bs Q;exact⟨(g.own.mod af λc a=>(g.fresh c a).2.1).view,λc a=>by have:=(g.fresh c a).1;omega⟩)
    rw[r] at this;exact this
def fN(a:Int):Int:=(if cW a then 1 else 0)+(if di a then 2 else 0)+(if dx a then 4 else 0)+(if dP a then 8 else 0)+(if dU a then 16 else 0)
theorem qQ(d:Int):Gb J9 (fN d) 1=(if cW d then 1 else 0)/\Gb J9 (fN d) 2=(if di d then 2 else 0)/\Gb J9 (fN d) 4=(if dx d then 4 else 0)/\Gb J9 (fN d) 8=(if dP d then 8 else 0)/\Gb J9 (fN d) 16=(if dU d then 16 else 0):=by unfold fN;generalize cW d=a;generalize di d=b;generalize dx d=c;generalize dP d=e;generalize dU d=f;cases a<;>cases b<;>cases c<;>cases e<;>cases f<;>decide
theorem lR {b:Bool}{a:Int}(c:a≠0):((if b then a else 0)==(0:Int))= !b:=by cases b<;>simp[c]
theorem MI {b:Bool}{a:Int}(c:a≠0):((if b then a else 0) != (0:Int))=b:=by cases b<;>simp[c]
theorem Wv {i:ak}{f:aa}{a:Int}{g:A2O}(c:g (J1 #[J6 J9 (fN a),J3 (bS a 1 18)]) f):AA i P I6 #[J6 J9 a] f g:=by
 refine ABJ ?_;unfold Ue;have d:a=1\/a=2\/a=3\/a=4\/a=5\/a=6\/a=7\/a=8\/a=9\/a=10\/a=11\/a=12\/a=13\/a=14\/a=15\/a=16\/a=17\/a=18\/ ¬(1<=a/\a<=18):=by omega
 by_cases h:1<=a/\a<=18
 ·rcases d with rfl|rfl|rfl|rfl|rfl|rfl|rfl|rfl|rfl|rfl|rfl|rfl|rfl|rfl|rfl|rfl|rfl|rfl|d
  all_goals (try exact absurd h d)
  all_goals repeat first|exact c|(refine ah.mk λK e=>?_)|(refine ae.yes (by decide) ?_)|(refine ae.no (by decide) ?_)|(refine e _ _ ?_)
 ·have j:bS a 1 18=false:=by unfold bS;simpa using h
  have k:fN a=0:=by unfold fN cW di dx dP dU;rw[decide_eq_false (by omega),decide_eq_false (by omega),decide_eq_false (by omega),decide_eq_false (by omega),decide_eq_false (by omega)];rfl
  rw[j,k] at c;have ne: ∀b:Int,1<=b->b<=18->(a==b)=false:=λb l m=>by
   rw[beq_eq_false_iff_ne];omega
  repeat first|exact c|(refine ah.mk λK e=>?_)|(refine ae.no (ne _ (by decide) (by decide)) ?_)|(refine e _ _ ?_)
theorem xL {A:ak}{h:aa}{s:A2P}{R:A2O}(b:s.size<1099511627776)
  (d: ∀a sl,Ext h a->(∀ p,JF (bl s)=some p->View Lr a sl p.steps/\ ∀c,sl.af=some c->h.size<=c)->R (xJ (JF (bl s)) sl) a):AA A P Jo #[J7 s] h R:=by
 have:=AKJ (A:=A) (h:=h) (l:=bl s) (R:=R) (by rw[Av];exact b) d;rwa [JR] at this
theorem Lp {A:ak}{h:aa}{s:A2P}{R:A2O}(b:s.size<=1099511627776)(c: ∀a,Ext h a->R (J7 (AX (BG (bl s)))) a):AA A P Bv #[J7 s] h R:=by have:=Qu (A:=A) (h:=h) (l:=bl s) (R:=R) (by rw[Av];exact b) c;rwa [JR] at this
theorem qR {l:ak}{h:aa}{b:Nat}{f a g c j:Int}{fl:Bool}{T:Q7}{fr:Nat×Nat}{k:A2O}(m:h[b]? =some (J2 #[J6 J9 f] T fr))(n:(Gb J9 f j==(0:Int))= !fl)
  (d:k (J3 (cX fl a g c)) h):EL l P (.func (.func IB) #[] #[J5 (some ⟨b,0,none⟩)]) #[J6 J9 a,J6 J9 g,J6 J9 c,J6 J9 j] h k:=by
 refine EL.func (first:= #[]) (bK:= #[Az b]) (by kernel_rfl) ?_;refine ZK ?_;unfold R9;refine aF (AC.mk (AL m rfl) ?_);rw[n];cases fl with
 |false=>
  refine ae.yes rfl ?_;have e:(a==(0:Int))=decide (a=0):=by by_cases o:a=0<;>simp[o]
  rw[e];exact d
 |true=>
  refine ae.no rfl ?_;refine ae.intro (λi=>?_) (λi=>?_)
  ·have e:cX true a g c=decide (a<=c):=by simp at i;simp only[cX,if_true,bS];rw[decide_eq_decide];omega
   rw[e] at d;exact d
  ·have e:cX true a g c=false:=by simp at i;simp only[cX,if_true,bS];simp;omega
   rw[e] at d;exact d
abbrev nY(a:Ev):J0:= .agg #[J6 J9 a.id,J6 J9 a.kind,J6 J9 a.tick,J6 J9 a.ref,J6 J9 a.step,J6 J9 a.turn,J3 a.aE,J7 a.data]
theorem Zn {Q:ak}{h:aa}{e:Ev}{t:A2O}(hd:e.data.size<1099511627776)(u: ∀d,Ext h d->t (J6 J9 (if FQ e then 0 else 120)) d):AA Q P Ju #[nY e] h t:=by
 refine ACY ?_;unfold WH;refine al.mk λv _ F G aG=>?_
 refine AC.mk (AB F rfl) (Wv ⟨_,_,rfl,?_⟩);refine al.mk λaH _ R H aI=>?_
 refine ab.mk R (by simp) λf j I aJ=>?_
 have o:Ext h f:=(G.trans H).more I λc q=>by subst q;exact G.size
 have S:h.size≠v.size:=by omega
 have b:=I.af (H.af F (λh=>h)) S;have j:f[v.size]? =some (J2 #[J6 J9 (fN e.kind)] BN (0,0)):=j;obtain⟨T,U,V,W,X⟩:=qQ e.kind;refine ah.mk λK J=>?_
 have g:Eo e=false->K (true,()) f:=λw=>by
  refine J _ _ (ae.yes rfl ?_);have:=u f o;have r:FQ e=false:=by simp[FQ,w]
  rw[r] at this;exact this
 have aO:Eo e=true->K (false,()) f:=λw=>by
  refine J _ _ (ae.no rfl ?_);refine AC.mk (AB b rfl) ?_;refine ah.mk λY Z=>?_
  have y:Lg e=true-> ∀d,Ext h d->Y () d:=λz d x=>by
   refine Z _ _ ?_;have:=u d x;have r:FQ e=true:=by simp[FQ,w,z]
   rw[r] at this;exact this
  have fail:Lg e=false-> ∀d,Ext h d->t (J6 J9 120) d:=λz d x=>by
   have:=u d x;have r:FQ e=false:=by simp[FQ,z]
   rw[r] at this;exact this
  refine ae.intro (λi=>?_) (λi=>?_)
  ·have i:e.kind=1:=by simpa using i
   have k:Lg e=(JF (bl e.data)).isSome:=by unfold Lg;rw[if_pos i]
   refine AJ.mk (AB b rfl) (xL hd λaK sl ac _=>?_);have s:=o.trans ac;cases L:JF (bl e.data) with
   |none=>
    refine⟨⟨none,0,0⟩,_,_,rfl,?_⟩;refine al.mk λad _ A B af=>ab.two A λC ag D ai=>ae.yes rfl ?_
    exact fail (by rw[k,L];rfl) C ((s.trans B).more D λc q=>by subst q;exact s.size)
   |some p=>
    refine⟨sl,_,_,rfl,?_⟩;refine al.mk λad _ A B af=>ab.two A λC ag D ai=>ae.no rfl ?_
    exact y (by rw[k,L];rfl) C ((s.trans B).more D λc q=>by subst q;exact s.size)
  ·have i:e.kind≠1:=by simpa using i
   refine ae.intro (λl=>?_) (λl=>?_)
   ·have l:e.kind=12:=by simpa using l
    have k:Lg e=Ai e.data:=by unfold Lg;rw[if_neg i,if_pos l]
    refine AJ.mk (AB b rfl) (Fb ⟨_,rfl,?_⟩);cases M:Ai e.data with
    |false=>exact fail (by rw[k,M]) f o
    |true=>exact y (by rw[k,M]) f o
   ·have l:e.kind≠12:=by simpa using l
    have k:Lg e=true:=by unfold Lg;rw[if_neg i,if_neg l]
    exact y k f o
 refine ae.intro (λa=>g (by simp at a;simp[Eo,a])) (λaj=>?_);refine AC.mk (AL b rfl) (ae.intro (λa=>g ?_) (λam=>?_))
 ·have:bS e.id 1 500=false:=by simp at a;unfold bS;simp;omega
  simp[Eo,this]
 refine AC.mk (AL b rfl) (ae.intro (λa=>g ?_) (λan=>?_))
 ·have:bS e.id 1 500=false:=by simp at a;unfold bS;simp;omega
  simp[Eo,this]
 have ao:1<=e.id/\e.id<=500:=by simp at am an;omega
 refine AC.mk (AB b rfl) (ae.intro (λa=>g ?_) (λap=>?_))
 ·have:bS e.tick 0 1099511627776=false:=by simp at a;unfold bS;simp;omega
  simp[Eo,this]
 refine AC.mk (AB b rfl) (ae.intro (λa=>g ?_) (λaq=>?_))
 ·have:bS e.tick 0 1099511627776=false:=by simp at a;unfold bS;simp;omega
  simp[Eo,this]
 have ar:bS e.tick 0 1099511627776=true:=by simp at ap aq;rw[BX];omega
 have au:bS e.id 1 500=true:=BX.2 ao;have av:bS e.kind 1 18=true:=by simpa using aj
 refine AC.mk (AB b rfl) (AC.mk (AL b rfl) ?_);rw[wrap_i64 (n:=e.id-1) (by omega) (by omega)];refine qR (fl:=cW e.kind) j (by rw[T,lR (by decide)]) ⟨_,rfl,?_⟩;refine ae.intro (λa=>g ?_) (λaw=>?_)
 ·have:cX (cW e.kind) e.ref 1 (e.id-1)=false:=by simpa using a
  simp[Eo,this]
 have ax:cX (cW e.kind) e.ref 1 (e.id-1)=true:=by simpa using aw
 refine AC.mk (AB b rfl) ?_;refine qR (fl:=di e.kind) j (by rw[U,lR (by decide)]) ⟨_,rfl,?_⟩;refine ae.intro (λa=>g ?_) (λay=>?_)
 ·have:cX (di e.kind) e.step 0 15=false:=by simpa using a
  simp[Eo,this]
 have az:cX (di e.kind) e.step 0 15=true:=by simpa using ay
 refine AC.mk (AB b rfl) ?_;refine qR (fl:=dx e.kind) j (by rw[V,lR (by decide)]) ⟨_,rfl,?_⟩;refine ae.intro (λa=>g ?_) (λaA=>?_)
 ·have:cX (dx e.kind) e.turn 1 5=false:=by simpa using a
  simp[Eo,this]
 have aC:cX (dx e.kind) e.turn 1 5=true:=by simpa using aA
 have m:Eo e=((!e.aE||dP e.kind)&&(decide (e.data=Fg)||dU e.kind)):=by simp[Eo,av,au,ar,ax,az,aC]
 have N:(!e.aE||dP e.kind)=true->AJ f ((⟨h.size,0,none⟩:Q6).add 7) λaD=>
   ae (!bM aD (⟨#[]⟩:A2P)) (AC J9 f (⟨v.size,0,none⟩:Q6) λaE=>K (((Gb J9 aE (16:Int))==(0:Int)),()) f) (K (false,()) f):=λaF=>by
  rw[aF,DP] at m;refine AJ.mk (AB b rfl) ?_;rw[VZ];refine ae.intro (λa=>?_) (λa=>?_)
  ·have a:decide (e.data=Fg)=false:=by simpa using a
   refine AC.mk (AL j rfl) ?_;rw[X,lR (by decide)];rw[a,SZ] at m;cases O:dU e.kind with
   |false=>exact g (by rw[m,O])
   |true=>exact aO (by rw[m,O])
  ·have a:decide (e.data=Fg)=true:=by simpa using a
   rw[a,Bool.true_or] at m;exact aO m
 refine Ac.mk (AB b rfl) (ae.intro (λa=>?_) (λa=>?_))
 ·refine AC.mk (AL j rfl) ?_;rw[W,lR (by decide)];refine ae.intro (λE=>g ?_) (λE=>N ?_)
  ·have:dP e.kind=false:=by simpa using E
   rw[m,a,this];rfl
  ·have:dP e.kind=true:=by simpa using E
   rw[this,HG]
 ·exact N (by rw[a];rfl)
theorem pA:P7 P EK Gu eX.w 32=true:=by kernel_rfl
theorem pB:P7 P DR GN fU.w 24=true:=by kernel_rfl
theorem ATv:(zeroValue Gu).calc P=some Jb.z.v:=by kernel_rfl
theorem ATy:(zeroValue GN).calc P=some Ck.z.v:=by kernel_rfl
def pC(d:Option Nat):Int:=match d with|some i=>(i:Int)|none=> -1
theorem sP {g:Type}{p:g->Bool}{l:List g}{d:Nat}(n:d<=l.length)(h: ∀x∈l.take d,p x=false):(∀ x,l[d]? =some x->p x=true->l.findIdx? p=some d)/\(d=l.length->l.findIdx? p=none):=by
 constructor
 ·intro x f j;rw[List.findIdx?_eq_some_iff_getElem];obtain⟨k,e⟩:=List.getElem?_eq_some_iff.1 f;refine⟨k,by rw[e];exact j,λi m=>?_⟩;have:=h l[i] (List.mem_iff_getElem?.2 ⟨i,by rw[E0,if_pos m];exact A2 (by omega)⟩);simp[this]
 ·intro e;rw[List.findIdx?_eq_none_iff];intro x f;have:x∈l.take d:=by rw[e,C5];exact f
  simp[h x this]
section
variable {A : ak} {h : aa} {R : A2O} {s : bj} {e : Ev} {a b c : Sl}
theorem ARS {p:Jb->Bool}{sl:Sl}{l:List Jb}{f:J0}(v:View eX h sl l)(J:l.length<=1000000)(B: ∀(x:Jb) (d:aa) (r:A2O),Ext h d->(∀ g,Ext d g->r (J3 (p x)) g)->EL A P f #[x.v] d r)
  (t: ∀g,Ext h g->R (J6 J9 (pC (l.findIdx? p))) g):AA A P DF #[J4 sl.p sl.len sl.cap,f] h R:=by
 refine IY ?_;unfold Ee;refine Loop.rule (λm x d=> ∃i:Nat,x=((i:Int),())/\m=l.length-i/\i<=l.length/\Ext h d/\ ∀x∈l.take i,p x=false) ?_ ⟨0,rfl,rfl,AG _,Mod.refl,by simp⟩;rintro K m _ u ⟨i,rfl,rfl,C,j,w⟩ D;obtain⟨E,F⟩:=sP C w;dsimp only;have L:=v.len;refine ae.intro (λn=>?_) (λn=>?_)
 ·have k:i<l.length:=by simp at n;omega
  obtain⟨x,o⟩: ∃x,l[i]? =some x:=⟨_,A2 k⟩;refine(v.ext j).idx o λM _ G=>kp.mk x G ?_
  refine B x u _ j λH y=>⟨_,rfl,?_⟩
  refine ae.intro (λq=>?_) (λq=>?_)
  ·have:=t H (j.trans y);rw[E x o q] at this;exact this
  ·rw[AZ (by omega)];refine D (l.length-(i+1)) _ _ (by omega) ⟨i+1,rfl,rfl,k,j.trans y,λI z=>?_⟩;rw[AD,o,CN] at z;rcases List.mem_append.1 z with h|h
   ·exact w I h
   ·rw[List.mem_singleton.1 h];exact q
 ·have k:i=l.length:=by simp at n;omega
  have:=t u j;rw[F k] at this;exact this
theorem AQ9 {p:Ck->Bool}{sl:Sl}{l:List Ck}{f:J0}(v:View fU h sl l)(J:l.length<=1000000)(B: ∀(x:Ck) (d:aa) (r:A2O),Ext h d->(∀ g,Ext d g->r (J3 (p x)) g)->EL A P f #[x.v] d r)
  (t: ∀g,Ext h g->R (J6 J9 (pC (l.findIdx? p))) g):AA A P Cn #[J4 sl.p sl.len sl.cap,f] h R:=by
 refine Gy ?_;unfold EH;refine Loop.rule (λm x d=> ∃i:Nat,x=((i:Int),())/\m=l.length-i/\i<=l.length/\Ext h d/\ ∀x∈l.take i,p x=false) ?_ ⟨0,rfl,rfl,AG _,Mod.refl,by simp⟩;rintro K m _ u ⟨i,rfl,rfl,C,j,w⟩ D;obtain⟨E,F⟩:=sP C w;dsimp only;have L:=v.len;refine ae.intro (λn=>?_) (λn=>?_)
 ·have k:i<l.length:=by simp at n;omega
  obtain⟨x,o⟩: ∃x,l[i]? =some x:=⟨_,A2 k⟩;refine(v.ext j).idx o λM _ G=>nM.mk x G ?_
  refine B x u _ j λH y=>⟨_,rfl,?_⟩
  refine ae.intro (λq=>?_) (λq=>?_)
  ·have:=t H (j.trans y);rw[E x o q] at this;exact this
  ·rw[AZ (by omega)];refine D (l.length-(i+1)) _ _ (by omega) ⟨i+1,rfl,rfl,k,j.trans y,λI z=>?_⟩;rw[AD,o,CN] at z;rcases List.mem_append.1 z with h|h
   ·exact w I h
   ·rw[List.mem_singleton.1 h];exact q
 ·have k:i=l.length:=by simp at n;omega
  have:=t u j;rw[F k] at this;exact this
theorem ASr(o:View eX h b s.aw)(q:s.aw.length<=1000000)(r: ∀f,Ext h f->R (J6 J9 (pC (lK s e.ref e.turn))) f):AA A P Tg #[(s.V a b c).v,e.v] h R:=by
 refine AFy ?_;unfold tZ;refine al.mk λt _ u v F=>al.mk λG _ w g H=>?_
 have i:=v.trans g;refine AY.mk (s:=b) (AB (g.af u λh=>h) rfl) (ARS (o.ext i) q (p:=λj=>decide (j.id=e.ref)&&decide (j.turn=e.turn)) (λx I J y z=>?_) λB C=>⟨_,rfl,r B (i.trans C)⟩);refine EL.func (first:= #[]) (bK:= #[Az t.size]) (by kernel_rfl) (ACJ ?_);unfold Ve;refine al.mk λD _ k l K=>?_
 have m:=(y.trans l).af w λh=>h
 have:=z D l;refine AC.mk (n:=x.id) (AL k rfl) (AC.mk (n:=e.ref) (AB m rfl) (ae.intro (λd=>?_) (λd=>?_)))
 ·have d:x.id=e.ref:=by simpa using d
  refine AC.mk (n:=x.turn) (AB k rfl) (AC.mk (n:=e.turn) (AB m rfl) ?_);have E:(x.turn==e.turn)=(decide (x.id=e.ref)&&decide (x.turn=e.turn)):=by rw[decide_eq_true d,DP,Ek];simp
  rw[E];exact this
 ·have d:x.id≠e.ref:=by simpa using d
  rw[decide_eq_false d,Ft] at this;exact this
theorem step_ok {g f:Int}(G:View Lr h a s.prog.steps)(v: ∀j,Ext h j->R (J1 #[((stepOf s.prog g f).getD bP.z).v,J3 (stepOf s.prog g f).isSome]) j):AA A P Kw #[(s.V a b c).v,J6 J9 g,J6 J9 f] h R:=by
 refine AEO ?_;unfold X7;refine al.mk λH _ I J T=>al.mk λw _ y z U=>?_
 have B:=J.trans z;have o:=z.af I λh=>h
 have p:=G.ext B;have C: ∀j,Mod (· =H.size) w j->Ext h j:=λj m=>B.more m λc L=>by subst L;omega
 refine ah.mk λK D=>?_
 have no:stepOf s.prog g f=none->K (true,()) w:=λM=>by
  refine D _ _ (ae.yes rfl (aP.mk y (A0 6) λk q r N=>iR.mk bP.z (DU q rfl) ?_));have:=v k (C k r);rw[M] at this;exact this
 refine ae.intro (λd=>no ?_) (λd=>?_)
 ·have d:g<0:=by simpa using d
  unfold stepOf;rw[if_neg (by omega)]
 have E:0<=g:=by simp at d;omega
 obtain⟨i,rfl⟩: ∃i:Nat,g=i:=⟨g.toNat,by omega⟩;refine AY.mk (s:=a) (AL o rfl) ?_;rw[p.len];refine ae.intro (λd=>no ?_) (λd=>?_)
 ·have d:s.prog.steps.length<=i:=by simp at d;omega
  unfold stepOf;rw[if_pos E,As,LR d];rfl
 have O:i<s.prog.steps.length:=by simp at d;omega
 obtain⟨x,t⟩: ∃x,s.prog.steps[i]? =some x:=⟨_,A2 O⟩;have l:stepOf s.prog (i:Int) f=if x.kind=f then some x else none:=by unfold stepOf;rw[if_pos E,As,t];rfl
 refine AY.mk (s:=a) (AL o rfl) (p.idx t λV _ Q=>?_);have F:=Q 0 _ rfl;rw[add_zero] at F;refine AC.mk F ?_;by_cases n:x.kind=f
 ·rw[if_pos n] at l;have u:(x.kind != f)=false:=by simp[n]
  rw[u];refine D _ _ (ae.no rfl (AY.mk (s:=a) (AL o rfl) (p.idx t λW _ S=>iR.mk x S (aP.mk y (A0 6) λk q r N=>iR.mk x (DU q rfl) ?_))));have:=v k (C k r);rw[l] at this;exact this
 ·rw[if_neg n] at l;have u:(x.kind != f)=true:=by simp[n]
  rw[u];exact no l
theorem AO7 {d:Jb}(r:View Lr h a s.prog.steps)(t: ∀i,Ext h i->R (J6 J9 (JN s.prog d)) i):AA A P Pm #[(s.V a b c).v,d.v] h R:=by
 refine AC4 ?_;unfold Vx;refine al.mk λD _ u v E=>al.mk λw _ j k F=>?_
 have l:=v.trans k;refine Au.mk (s.V a b c) (Em (k.af u λh=>h)) (AC.mk (n:=d.step) (AB j rfl) (step_ok (r.ext l) λG m=>iQ.mk _ ⟨_,rfl,al.mk λH _ y z I=>aP.mk y (A0 6) λo g B J=>?_⟩));rw[px] at g;have p:Ext w o:=(m.trans z).more B λc C=>by subst C;exact m.size
 have:=t o (l.trans p);unfold JN at this;cases q:stepOf s.prog d.step 1 with
 |none=>rw[q] at this;exact ae.yes rfl this
 |some x=>
  rw[q] at g this;refine ae.no rfl (Ac.mk (n:=d.aE) (AB (p.af j λh=>h) rfl) (ae.intro (λf=>?_) (λf=>?_)))
  ·have f:d.aE=true:=f;dsimp only at this;rw[if_pos f] at this;exact AC.mk (n:=x.aq) (AB g rfl) this
  ·have f:d.aE=false:=f;dsimp only at this;rw[if_neg (by simp[f])] at this;exact AC.mk (n:=x.tries) (AB g rfl) this
theorem AJi {sl:Sl}{l:List Jb}{i:Nat}(f:Own eX Gu h sl l)(g:i<l.length)(j: ∀d,Own eX Gu d ⟨sl.p,l.length-1,sl.cap⟩ (l.eraseIdx i)->Mod (λb=>sl.af=some b) h d->R (J4 sl.p (l.length-1) sl.cap) d):
  AA A P Dh #[J4 sl.p sl.len sl.cap,J6 J9 (i:Int),J6 J9 ((i+1:Nat):Int)] h R:=
 JW (wM (E:=eX) (zv:=Jb.z.v) pA ATv (by decide) rfl f g j)
theorem AJh {sl:Sl}{l:List Ck}{i:Nat}(f:Own fU GN h sl l)(g:i<l.length)(j: ∀d,Own fU GN d ⟨sl.p,l.length-1,sl.cap⟩ (l.eraseIdx i)->Mod (λb=>sl.af=some b) h d->R (J4 sl.p (l.length-1) sl.cap) d):
  AA A P Cz #[J4 sl.p sl.len sl.cap,J6 J9 (i:Int),J6 J9 ((i+1:Nat):Int)] h R:=
 H7 (wM (E:=fU) (zv:=Ck.z.v) pB ATy (by decide) rfl f g j)
theorem mP {h:aa}{b:Nat}{T:Q7}{x i:bF}{K:bF->aa->Prop}(j:h[b]? =some (J2 i.c T (0,0)))(k: ∀d,Mod (· =b) h d->K x d):
  aP h ⟨b,0,none⟩ x.l λf=>Au f ⟨b,0,none⟩ λl=>K l f:=
 aP.mk j (A0 12) λd g m s=>Au.mk x (Em (by rw[Ow] at g;exact g)) (k d m)
theorem ASC {s:bj}{f turn:Int}{i:Nat}(h:lK s f turn=some i): ∃d,s.aw[i]? =some d/\d.id=f/\d.turn=turn:=by unfold lK at h;obtain⟨j,g,_⟩:=List.findIdx?_eq_some_iff_getElem.1 h;simp only[A3,decide_eq_true_eq] at g;exact⟨_,A2 j,g⟩
theorem AQs(Q:Jk h s a b c)(Z:Own eX Gu h b s.aw)(H:s.aw.length<=1000)(a5:6<=e.kind/\e.kind<=9)(u:0<=e.turn/\e.turn<=1000)
  (ac: ∀z (t:bj) (b':Sl),Mod (λx=>b.af=some x\/h.size<=x) h z->(∀ x,b'.af=some x->b.af=some x\/h.size<=x)->(∀ t',LZ s e=some t'->t=t'/\View eX z b' t'.aw)->R (J1 #[(t.V a b' c).v,J3 (LZ s e).isSome]) z):AA A P Rb #[(s.V a b c).v,e.v] h R:=by
 refine AEl ?_;unfold Xl;refine lh λau l=>AC.mk (l.bQ (j:=1) rfl) ?_
 have ad:=l.ext;have a6:=ad.size;have a7:=Af l.b2;have D: ∀x,b.af=some x->x<h.size:=λx f=>Z.lt f
 have S:LZ s e=none-> ∀ {m:aa},Ext au m->Au m ⟨h.size,0,none⟩ λt=>aP m ⟨h.size+2,0,none⟩ t.l λI=>Au I ⟨h.size+2,0,none⟩ λaf=>R (J1 #[af.v,J3 false]) I:=λav m x=>by
  refine(l.on x).ret λz x'=>?_
  have:=ac z s b x'.mod (λa8 aK=> .inl aK) (λt' u=>by rw[av] at u;cases u);rw[av] at this;exact this
 refine ae.intro (λp=>?_) (λp=>?_)
 ·have p:e.kind=6:=by simpa using p
  refine l.eM (AC.mk (l.bQ (j:=4) rfl) (step_ok (Q.steps.ext ad) λaL F=>iQ.mk _ ⟨_,rfl,al.mk λT _ aM ag a9=>aP.mk aM (A0 6) λq ai B aN=>?_⟩));rw[px] at ai;have U:Ext au q:=(F.trans ag).more B λc d=>by subst d;exact F.size
  have w:=l.on U;refine ah.mk λK ax=>?_
  cases V:stepOf s.prog e.step 1 with
  |none=>exact ae.yes rfl (ax _ _ (ae.yes rfl (S (by unfold LZ;rw[if_pos p,V];rfl) U)))
  |some x=>
   rw[V] at ai;have key: ∀y:Bool,(y=true↔e.aE=true/\x.aE=Fg)->K (y,()) q:=λy J=>by
    refine ax _ _ (ae.intro (λg=>S ?_ U) (λg=>?_))
    ·unfold LZ;rw[if_pos p,V,Hi,if_pos (J.1 g)]
    have g:y=false:=g;have k:LZ s e=some {s with aw:=s.aw++ [⟨e.id,e.step,e.aE,1⟩]}:=by unfold LZ;rw[if_pos p,V,Hi,if_neg λh=>by rw[J.2 h] at g;cases g]
    refine AY.mk (s:=b) (w.cK (j:=8) rfl) (AC.mk (w.bQ (j:=0) rfl) (AC.mk (w.bQ (j:=4) rfl) (Ac.mk (w.bQ (j:=6) rfl) ?_)));refine al.aZ (E:=eX) (x:=⟨e.id,e.step,e.aE,1⟩) (s:=b) rfl pA (Z.ext w.ext) (by omega) (by simp only[maxLen];omega) λb' r aO L ay ba=>?_
    have bb:=U.size;have ne: ∀az,b.af=some (h.size+az)->False:=λaz f=>by have:=D _ f;omega
    refine ab.bQ (dH:=(({s with aw:=s.aw++ [⟨e.id,e.step,e.aE,1⟩]}:bj).V a b' c).c) (L.af w.b0 (ne 0)) (of_decide_eq_true rfl) rfl λM aj W aQ=>?_
    refine Au.mk (({s with aw:=s.aw++ [⟨e.id,e.step,e.aE,1⟩]}:bj).V a b' c) (Em aj) (mP (W.af (L.af w.b2 (ne 2)) (by omega)) λaA aR=>?_);have aS: ∀x,b'.af=some x->b.af=some x\/h.size<=x:=λx f=>(ay x f).imp id λh=>by omega
    have aC:Mod (λc=>c=h.size\/c=h.size+2) r aA:=(W.ai λc _ d=> .inl d).trans (aR.ai λc _ d=> .inr d);have N:=ac aA {s with aw:=s.aw++ [⟨e.id,e.step,e.aE,1⟩]} b' ((w.ext.mod.trans (L.ai λc _ d=> .inl d)).trans (aC.ai λc _ d=> .inr (by omega))) aS (λt' u=>?_)
    ·rw[k] at N;exact N
    ·rw[k] at u;cases u;refine⟨rfl,(aO.mod aC λx f d=>?_).view⟩;rcases ay x f with h|h
     ·have:=D x h;omega
     ·omega
   refine ae.no rfl (Ac.mk (w.bQ (j:=6) rfl) (ae.intro (λC=>?_) (λC=>?_)))
   ·have C:e.aE=true:=C;refine AJ.mk (n:=x.aE) (AB ai rfl) (key _ ?_);rw[VZ,decide_eq_true_eq];exact⟨λh=>⟨C,h⟩,λh=>h.2⟩
   ·have C:e.aE=false:=C;exact key _ ⟨(λh=>by cases h),λh=>(by have:=h.1;rw[C] at this;cases this)⟩
 have p:e.kind≠6:=by simpa using p
 refine l.eM (l.jH (ASr (Q.aw.ext ad) (by omega) λaL F=>⟨_,rfl,?_⟩));cases ak:lK s e.ref e.turn with
 |none=>exact ae.yes rfl (S (by unfold LZ;rw[if_neg p,ak];rfl) F)
 |some i=>
  obtain⟨j,G,bc,bd⟩:=ASC ak;have aT:=(List.getElem?_eq_some_iff.1 G).1;have O:=l.on F;show ae (decide ((i:Int)<0)) _ _;refine ae.no (decide_eq_false (by omega)) ?_;have k:LZ s e=if e.kind=8 then(if e.turn=JN s.prog j then none else some {s with aw:=s.aw.set i {j with turn:=j.turn+1}}) else if e.kind=7\/e.turn=JN s.prog j then some {s with aw:=s.aw.eraseIdx i,fresh:=true} else none:=by unfold LZ;rw[if_neg p,ak,Hi,G,Hi]
  refine AC.mk (O.bQ (j:=5) rfl) (O.eM (AY.mk (s:=b) (O.cK (j:=8) rfl) ?_));refine(Q.aw.ext O.ext).idx G λbe _ aU=>kp.mk j aU ?_
  refine AO7 (Q.steps.ext O.ext) λT ag=>⟨_,rfl,?_⟩
  have am:=F.trans ag;have o:=l.on am;have bf:=am.size;have X:=Z.ext o.ext;refine⟨o.bQ (j:=5) rfl,ah.mk λaV aD=>?_⟩;have yes: ∀ {m:aa} {t:bj} {b':Sl} {S':Nat->Prop},LZ s e=some t->Own eX Gu m b' t.aw->Mod (λx=>b.af=some x\/x=h.size) T m->m[h.size]? =some (J2 (t.V a b' c).c Ap (0,0))->b'.p=b.p->
    Au m ⟨h.size,0,none⟩ λt=>aP m ⟨h.size+2,0,none⟩ t.l λI=>Au I ⟨h.size+2,0,none⟩ λaf=>R (J1 #[af.v,J3 true]) I:=λ{m t b' S'} k aW aE aX aY=>by
   have aF: ∀x,b'.af=some x->b.af=some x:=λx f=>by unfold Sl.af at f ⊢;rw[<- aY];exact f
   refine Au.mk (t.V a b' c) (Em aX) (mP (aE.af o.b2 λd=>by
    rcases d with d|d
    ·have:=D _ d;omega
    ·omega) λz aG=>?_)
   have N:=ac z t b' ((o.ext.mod.trans (aE.ai λc _ d=>d.imp id λh=>by omega)).trans (aG.ai λc _ d=> .inr (by omega))) (λx f=> .inl (aF x f)) (λt' u=>?_)
   ·rw[k] at N;exact N
   ·rw[k] at u;cases u;exact⟨rfl,(aW.mod aG λx f d=>by have:=D x (aF x f);omega).view⟩
  have aH: ¬b.af=some h.size:=λf=>by have:=D _ f;omega
  have aI:(LZ s e=if e.kind=7\/(e.kind=9/\e.turn=JN s.prog j) then some {s with aw:=s.aw.eraseIdx i,fresh:=true} else none)->aV (false,()) T:=λY=>by
   refine aD _ _ (ae.no rfl (ah.mk λaZ a0=>?_));have an: ∀y:Bool,(y=true↔e.kind=7\/(e.kind=9/\e.turn=JN s.prog j))->aZ (y,()) T:=λy J=>by
    refine a0 _ _ (ae.intro (λg=>?_) (λg=>S ?_ am))
    ·rw[if_pos (J.1 g)] at Y;refine AY.mk (s:=b) (o.cK (j:=8) rfl) ?_;show AA A P _ #[_,J6 J9 (i:Int),J6 J9 (J8 J9 ((i:Int)+1))] _ _;rw[AZ (by omega)];refine AJi X aT λq ao B=>⟨⟨b.p,s.aw.length-1,b.cap⟩,rfl,?_⟩
     refine ab.bQ (dH:=(({s with aw:=s.aw.eraseIdx i}:bj).V a ⟨b.p,s.aw.length-1,b.cap⟩ c).c) (B.af o.b0 aH) (of_decide_eq_true rfl) rfl λr a1 L bg=>?_
     refine ab.bQ (dH:=(({s with aw:=s.aw.eraseIdx i,fresh:=true}:bj).V a ⟨b.p,s.aw.length-1,b.cap⟩ c).c) a1 (of_decide_eq_true rfl) rfl λM aj W aQ=>?_
     have aJ:=L.trans W;exact yes (t:= {s with aw:=s.aw.eraseIdx i,fresh:=true}) (b':=⟨b.p,s.aw.length-1,b.cap⟩) (S':=λ_=>True) Y (ao.mod aJ λx f d=>by have:=D x f;omega) ((B.ai λc _ d=> .inl d).trans (aJ.ai λc _ d=> .inr d)) aj rfl
    ·have g:y=false:=g;rw[if_neg λh=>by rw[J.2 h] at g;cases g] at Y;exact Y
   refine AC.mk (o.bQ (j:=1) rfl) (ae.intro (λq=>?_) (λq=>?_))
   ·have ap:e.kind=7:=by simpa using q
    exact an _ (by simp[ap])
   ·have ap:e.kind≠7:=by simpa using q
    refine AC.mk (o.bQ (j:=1) rfl) (ae.intro (λM=>?_) (λM=>?_))
    ·have aq:e.kind=9:=by simpa using M
     exact an _ (by simp[aq])
    ·have aq:e.kind≠9:=by simpa using M
     exact an _ (by simp[ap,aq])
  refine AC.mk (o.bQ (j:=1) rfl) (ae.intro (λr=>?_) (λr=>?_))
  ·have r:e.kind=8:=by simpa using r
   rw[if_pos r] at k;by_cases H:e.turn=JN s.prog j
   ·rw[if_pos H] at k;have ar:(!(e.turn==JN s.prog j))=false:=by simp[H]
    rw[ar];exact aI (by rw[k,if_neg (by omega)])
   ·rw[if_neg H] at k;have ar:(!(e.turn==JN s.prog j))=true:=by simp[H]
    rw[ar];refine aD _ _ (ae.yes rfl (AY.mk (s:=b) (o.cK (j:=8) rfl) (X.view.idx G λbh _ a2=>AC.mk (n:=j.turn) (a2 3 _ rfl) (X.view.idx G λa3 a4 _=>?_))));rw[wrap_i64 (by omega) (by omega)];refine Own.store (E:=eX) (i:=i) (j:=3) (x:=j) (x':= {j with turn:=j.turn+1}) (v:=J6 J9 (j.turn+1)) X G rfl (by decide) (λq ao B aN=>?_) a3 a4;exact yes (t:= {s with aw:=s.aw.set i {j with turn:=j.turn+1}}) (b':=b) (S':=λ_=>True) k ao (B.ai λc _ d=> .inl d) (B.af o.b0 aH) rfl
  ·have r:e.kind≠8:=by simpa using r
   rw[if_neg r] at k;refine aI ?_;rw[k];have:(e.kind=7\/e.turn=JN s.prog j)↔(e.kind=7\/e.kind=9/\e.turn=JN s.prog j):=by
    constructor
    ·rintro(h|h)
     ·exact .inl h
     ·by_cases q:e.kind=7
      ·exact .inl q
      ·exact .inr ⟨by omega,h⟩
    ·rintro(h|h)
     ·exact .inl h
     ·exact .inr h.2
   simp only[this]
theorem APm(ad:Jk h s a b c)(M:Own fU GN h c s.aj)(aH:s.aj.length<=1000)(aI:e.kind=10\/e.kind=11)(k:0<=e.tick/\e.tick<=1099511627776)(ap: ∀x,stepOf s.prog e.step 2=some x->0<=x.wait/\x.wait<=1099511627776)
  (N: ∀v (t:bj) (o:Sl),Mod (λx=>c.af=some x\/h.size<=x) h v->(∀ x,o.af=some x->c.af=some x\/h.size<=x)->(∀ t',KA s e=some t'->t=t'/\View fU v o t'.aj)->R (J1 #[(t.V a b o).v,J3 (KA s e).isSome]) v):AA A P P9 #[(s.V a b c).v,e.v] h R:=by
 refine ACd ?_;unfold VX;refine lh λO g=>AC.mk (g.bQ (j:=1) rfl) ?_
 have Q:=g.ext;have aJ:=Q.size;have aK:=Af g.b2;have S: ∀x,c.af=some x->x<h.size:=λx f=>M.lt f
 have af:KA s e=none-> ∀ {w:aa},Ext O w->Au w ⟨h.size,0,none⟩ λt=>aP w ⟨h.size+2,0,none⟩ t.l λag=>Au ag ⟨h.size+2,0,none⟩ λaq=>R (J1 #[aq.v,J3 false]) ag:=λai w x=>by
  refine(g.on x).ret λv ar=>?_
  have:=N v s c ar.mod (λaL au=> .inl au) (λt' k=>by rw[ai] at k;cases k);rw[ai] at this;exact this
 have H: ∀q,c.af=some (h.size+q)->False:=λq f=>by have:=S _ f;omega
 refine ae.intro (λl=>?_) (λl=>?_)
 ·have l:e.kind=10:=by simpa using l
  refine g.eM (AC.mk (g.bQ (j:=4) rfl) (step_ok (ad.steps.ext Q) λT m=>iQ.mk _ ⟨_,rfl,al.mk λaM _ I av aN=>aP.mk I (A0 6) λU V y aO=>?_⟩));rw[px] at V;have W:Ext O U:=(m.trans av).more y λc d=>by subst d;exact m.size
  have r:=g.on W;cases J:stepOf s.prog e.step 2 with
  |none=>
   refine ah.mk λK X=>?_
   exact ae.no rfl (X _ _ (af (by unfold KA;rw[if_pos l,J];rfl) W))
  |some x=>
   refine ah.mk λK X=>?_
   rw[J] at V;obtain⟨aQ,aR⟩:=ap x J;have z:KA s e=some {s with aj:=s.aj++ [⟨e.id,e.step,e.tick+x.wait⟩]}:=by unfold KA;rw[if_pos l,J];rfl
   refine ae.yes rfl (AY.mk (s:=c) (r.cK (j:=9) rfl) (AC.mk (r.bQ (j:=0) rfl) (AC.mk (r.bQ (j:=4) rfl) (AC.mk (r.bQ (j:=2) rfl) (AC.mk (n:=x.wait) (AB V rfl) ?_)))));rw[wrap_i64 (by omega) (by omega)];refine al.aZ (E:=fU) (x:=⟨e.id,e.step,e.tick+x.wait⟩) (s:=c) rfl pB (M.ext r.ext) (by omega) (by simp only[maxLen];omega) λo ak aw B am aS=>?_
   have aT:=W.size;refine ab.bQ (dH:=(({s with aj:=s.aj++ [⟨e.id,e.step,e.tick+x.wait⟩]}:bj).V a b o).c) (B.af r.b0 (H 0)) (of_decide_eq_true rfl) rfl λax Y L ay=>?_
   refine X _ _ (Au.mk (({s with aj:=s.aj++ [⟨e.id,e.step,e.tick+x.wait⟩]}:bj).V a b o) (Em Y) (mP (L.af (B.af r.b2 (H 2)) (by omega)) λC Z=>?_));have az: ∀x,o.af=some x->c.af=some x\/h.size<=x:=λx f=>(am x f).imp id λh=>by omega
   have D:Mod (λc=>c=h.size\/c=h.size+2) ak C:=(L.ai λc _ d=> .inl d).trans (Z.ai λc _ d=> .inr d);have F:=N C {s with aj:=s.aj++ [⟨e.id,e.step,e.tick+x.wait⟩]} o ((r.ext.mod.trans (B.ai λc _ d=> .inl d)).trans (D.ai λc _ d=> .inr (by omega))) az (λt' k=>?_)
   ·rw[z] at F;exact F
   ·rw[z] at k;cases k;refine⟨rfl,(aw.mod D λx f d=>?_).view⟩;rcases am x f with h|h
    ·have:=S x h;omega
    ·omega
 have l:e.kind≠10:=by simpa using l
 have aA:O[h.size+1]? =some (J2 e.c A7 (0,0)):=g.b1;refine AY.mk (s:=c) (g.cK (j:=9) rfl) (AQ9 (p:=λq=>decide (q.id=e.ref)&&decide (q.tick<=e.tick)) (ad.aj.ext Q) (by omega) (λx w aU aC aD=>?_) λT m=>⟨_,rfl,?_⟩)
 ·refine EL.func (first:= #[]) (bK:= #[Az (h.size+1)]) (by kernel_rfl) (AAA ?_);unfold SK;refine al.mk λT _ an m aV=>?_
  have I:=(aC.trans m).af aA λh=>h
  have:=aD T m;refine AC.mk (n:=x.id) (AL an rfl) (AC.mk (n:=e.ref) (AB I rfl) (ae.intro (λu=>?_) (λu=>?_)))
  ·have u:x.id=e.ref:=by simpa using u
   rw[decide_eq_true u,DP] at this;exact AC.mk (n:=e.tick) (AB I rfl) (AC.mk (n:=x.tick) (AB an rfl) this)
  ·have u:x.id≠e.ref:=by simpa using u
   rw[decide_eq_false u,Ft] at this;exact this
 cases ac:(s.aj.findIdx? λq=>decide (q.id=e.ref)&&decide (q.tick<=e.tick)) with
 |none=>exact ae.yes rfl (af (by unfold KA;rw[if_neg l,ac];rfl) m)
 |some i=>
  have aE:i<s.aj.length:=(List.findIdx?_eq_some_iff_getElem.1 ac).1;have z:KA s e=some {s with aj:=s.aj.eraseIdx i,fresh:=true}:=by unfold KA;rw[if_neg l,ac];rfl
  have G:=g.on m;have aW:=m.size;show ae (decide ((i:Int)<0)) _ _;refine ae.no (decide_eq_false (by omega)) (AY.mk (s:=c) (G.cK (j:=9) rfl) ?_);show AA A P _ #[_,J6 J9 (i:Int),J6 J9 (J8 J9 ((i:Int)+1))] _ _;rw[AZ (by omega)];refine AJh (M.ext G.ext) aE λU aF y=>⟨⟨c.p,s.aj.length-1,c.cap⟩,rfl,?_⟩
  refine ab.bQ (dH:=(({s with aj:=s.aj.eraseIdx i}:bj).V a b ⟨c.p,s.aj.length-1,c.cap⟩).c) (y.af G.b0 (H 0)) (of_decide_eq_true rfl) rfl λak aG B aX=>?_
  refine ab.bQ (dH:=(({s with aj:=s.aj.eraseIdx i,fresh:=true}:bj).V a b ⟨c.p,s.aj.length-1,c.cap⟩).c) aG (of_decide_eq_true rfl) rfl λax Y L ay=>?_
  have ao:=B.trans L;refine Au.mk (({s with aj:=s.aj.eraseIdx i,fresh:=true}:bj).V a b ⟨c.p,s.aj.length-1,c.cap⟩) (Em Y) (mP (ao.af (y.af G.b2 (H 2)) (by omega)) λC Z=>?_);have D:Mod (λc=>c=h.size\/c=h.size+2) U C:=(ao.ai λc _ d=> .inl d).trans (Z.ai λc _ d=> .inr d);have F:=N C {s with aj:=s.aj.eraseIdx i,fresh:=true} ⟨c.p,s.aj.length-1,c.cap⟩ ((G.ext.mod.trans (y.ai λc _ d=> .inl d)).trans (D.ai λc _ d=> .inr (by omega))) (λx f=> .inl f) (λt' k=>?_)
  ·rw[z] at F;exact F
  ·rw[z] at k;cases k;exact⟨rfl,(aF.mod D λx f d=>by have:=S x f;omega).view⟩
end
theorem Y9 {A:ak}{m:Type}{E:cy m}{t T:Q7}{n:Nat}(w:P7 P t T E.w n=true){h:aa}{s:Sl}{l:List m}{R:A2O}(v:View E h s l)(y:l.length*n<=140737488355328)(z:l.length<=maxLen)
  (o: ∀d i,Own E T i d l->(∀ c,d.af=some c->h.size<=c)->Ext h i->R (J4 d.p d.len d.cap) i):
  ae (s.p.isNone) (R (J4 none 0 0) h) (al h (J2 #[] T) λb j=>BB A P (Builtin.append_ #[t,t] t #[J4 (some (⟨b,0,none⟩:Q6)) 0 0,J4 s.p s.len s.cap]) j λv k=> ∃f:Sl,v=J4 f.p f.len f.cap/\R (J4 f.p f.len f.cap) k):=by
 refine ae.intro (λp=>?_) (λp=>?_)
 ·have B:s.p=none:=by simpa using p
  have:l= []:=by
   cases l with
   |nil=>rfl
   |cons x l=>
    obtain⟨a,q,_⟩:=v.cells 0 x rfl;rw[B] at q;cases q
  subst this;exact o ⟨none,0,0⟩ h Own.nil (λc g=>by simp[Sl.af] at g) Mod.refl
 ·refine al.mk λj _ C r I=>?_
  have D:Own E T j ⟨some ⟨h.size,0,none⟩,0,0⟩ []:=Own.lit (E:=E) (l:= []) C rfl (by simp[maxLen]);refine Gd (s:=⟨some ⟨h.size,0,none⟩,0,0⟩) w D (v.ext r) (by simpa using y) (by simpa using z) λd k F G H _=>o d k F (λc g=>?_) (r.more G λc g=>?_)
  ·rcases H c g with u|u
   ·have e:h.size=c:=by simpa [Sl.af] using u
    omega
   ·omega
  ·have e:h.size=c:=by simpa [Sl.af] using g
   omega
section
variable {A : ak} {h : aa} {R : A2O} {s : bj} {e : Ev} {a b c : Sl}
theorem AL4 {x:Sl}{l:List Jb}(v:View eX h x l)(i:l.length<=1000)(g: ∀d f,Own eX Gu f d l->(∀ c,d.af=some c->h.size<=c)->Ext h f->R (J4 d.p d.len d.cap) f):AA A P Dt #[J4 x.p x.len x.cap] h R:=by refine Jg ?_;unfold FW;exact Y9 pA v (by omega) (by simp only[maxLen];omega) g
theorem ANP {x:Sl}{l:List Ck}(v:View fU h x l)(i:l.length<=1000)(g: ∀d f,Own fU GN f d l->(∀ c,d.af=some c->h.size<=c)->Ext h f->R (J4 d.p d.len d.cap) f):AA A P DD #[J4 x.p x.len x.cap] h R:=by refine IV ?_;unfold Ec;exact Y9 pB v (by omega) (by simp only[maxLen];omega) g
theorem AMs {x:Sl}{l:List bP}(v:View Lr h x l)(i:l.length<=1000)(g: ∀d f,Own Lr BL f d l->(∀ c,d.af=some c->h.size<=c)->Ext h f->R (J4 d.p d.len d.cap) f):AA A P De #[J4 x.p x.len x.cap] h R:=by refine I8 ?_;unfold FD;exact Y9 xH v (by omega) (by simp only[maxLen];omega) g
structure iI (h:aa) (n:Nat) (t:bj) (a b c:Sl) (b' c':Sl):Prop where
 at':Jk h t a b' c'
 fb: ∀x,b'.af=some x->b.af=some x\/n<=x
 fc: ∀x,c'.af=some x->c.af=some x\/n<=x
theorem mQ {x:Nat}{P:Prop}(h:(⟨none,0,0⟩:Sl).af=some x):P:=by simp[Sl.af] at h
theorem AMq(k:Jk h s a b c)(ad:e.kind=1\/12<=e.kind)(W:e.kind=14->0<=s.ba+s.prog.ar/\s.ba+s.prog.ar<=9223372036854775807)
  (T: ∀f (t:bj) (m n:Sl),Ext h f->(∀ t',KM s e=some t'->t=t'/\iI f h.size t' a b c m n)->R (J1 #[(t.V a m n).v,J3 (KM s e).isSome]) f):AA A P Ro #[(s.V a b c).v,e.v] h R:=by
 refine AEJ ?_;unfold XR;refine lh λM d=>AC.mk (d.bQ (j:=1) rfl) (ah.mk λK X=>?_)
 have yes: ∀ {t:bj} {hh:aa} {m n:Sl},(∀ x,m.af=some x->b.af=some x\/h.size<=x)->(∀ x,n.af=some x->c.af=some x\/h.size<=x)->Jk h t a m n->KM s e=some t-> ∀f,Ext h f->R (J1 #[(t.V a m n).v,J3 true]) f:=λ{t hh m n} Y Z N v f x=>by
  have:=T f t m n x (λt' E=>by rw[v] at E;cases E;exact⟨rfl,⟨N.ext x,Y,Z⟩⟩);rw[v] at this;exact this
 have O: ∀ {t:bj} {hh:aa},D3 h hh Ap A7 Ap (t.V a b c) e bF.z->Jk h t a b c->KM s e=some t->K () hh:=λ{t hh} d N v=>
  X _ _ (d.ret λf x=>yes (hh:=hh) (λ_ h=> .inl h) (λ_ h=> .inl h) N v f x)
 have no: ∀(t:bj) (m n:Sl),KM s e=none-> ∀f,Ext h f->R (J1 #[(t.V a m n).v,J3 false]) f:=λt m n v f x=>by
  have:=T f t m n x (λt' E=>by rw[v] at E;cases E);rw[v] at this;exact this
 have U: ∀r,Jk h (gU s r) a ⟨none,0,0⟩ ⟨none,0,0⟩:=λr=>⟨k.steps,View.nil,View.nil⟩
 refine ae.intro (λg=>?_) (λg=>?_)
 ·have g:e.kind=12:=by simpa using g
  refine d.set (x':=({s with fresh:=true}:bj).V a b c) (by decide) rfl λC F=>O F ⟨k.steps,k.aw,k.aj⟩ ?_
  unfold KM;rw[if_pos g]
 have g:e.kind≠12:=by simpa using g
 refine ae.intro (λi=>?_) (λi=>?_)
 ·have i:e.kind=13:=by simpa using i
  refine Ac.mk (d.cK (j:=10) rfl) (ae.intro (λw=>?_) (λw=>?_))
  ·have w:s.cancel=true:=w;refine d.ret (no s b c ?_);unfold KM;rw[if_neg g,if_pos i,if_pos w]
  ·have w:s.cancel=false:=w;refine d.set (x':=({s with cancel:=true}:bj).V a b c) (by decide) rfl λC F=>F.set (x':=({s with cancel:=true,fresh:=true}:bj).V a b c) (by decide) rfl λH Q=>O Q ⟨k.steps,k.aw,k.aj⟩ ?_
   unfold KM;rw[if_neg g,if_pos i,if_neg (by simp[w])]
 have i:e.kind≠13:=by simpa using i
 refine ae.intro (λl=>?_) (λl=>?_)
 ·have l:e.kind=14:=by simpa using l
  obtain⟨af,ag⟩:=W l;refine ah.mk λab ac=>?_
  have key: ∀(I:Bool),(I=true↔s.aS=true\/s.prog.ar=0\/e.tick<s.ba+s.prog.ar)->ab (I,()) M:=λI V=>by
   refine ac _ _ (ae.intro (λD=>?_) (λD=>?_))
   ·refine d.ret (no s b c ?_);unfold KM;rw[if_neg g,if_neg i,if_pos l,if_pos (V.1 D)]
   ·have D:I=false:=D;refine d.set (x':=({s with aS:=true}:bj).V a b c) (by decide) rfl λC F=>F.set (x':=({s with aS:=true,fresh:=true}:bj).V a b c) (by decide) rfl λH Q=>O Q ⟨k.steps,k.aw,k.aj⟩ ?_
    unfold KM;rw[if_neg g,if_neg i,if_pos l,if_neg λh=>by rw[V.2 h] at D;cases D]
  refine Ac.mk (d.cK (j:=11) rfl) (ae.intro (λy=>?_) (λy=>?_))
  ·have y:s.aS=true:=y;exact key _ (by simp[y])
  have y:s.aS=false:=y;refine AC.mk (d.cK (j:=1) rfl) (ae.intro (λz=>?_) (λz=>?_))
  ·have z:s.prog.ar=0:=by simpa using z
   exact key _ (by simp[z])
  have z:s.prog.ar≠0:=by simpa using z
  refine AC.mk (d.bQ (j:=2) rfl) (AC.mk (d.cK (j:=4) rfl) (AC.mk (d.cK (j:=1) rfl) (key _ ?_)));dsimp only;rw[wrap_i64 (by omega) (by omega)];simp[y,z]
 have l:e.kind≠14:=by simpa using l
 refine ae.intro (λo=>?_) (λo=>?_)
 ·have o:e.kind=18:=by simpa using o
  refine d.eM (XN λC p=>G8.mk _ ⟨rfl,(d.on p).tell λf x=>yes (hh:=M) (λ_ h=>mQ h) (λ_ h=>mQ h) (U 4) ?_ f x⟩);unfold KM;rw[if_neg g,if_neg i,if_neg l,if_pos o]
 have o:e.kind≠18:=by simpa using o
 have S: ∀(r:Int),(KM s e=if Ou s then some (gU s r) else none)-> ∀f,Ext h f->R (J1 #[((gU s r).V a ⟨none,0,0⟩ ⟨none,0,0⟩).v,J3 (decide (Ou s))]) f:=λr J f x=>by
  by_cases L:Ou s
  ·rw[if_pos L] at J;rw[decide_eq_true L];exact yes (hh:=M) (λ_ h=>mQ h) (λ_ h=>mQ h) (U r) J f x
  ·rw[if_neg L] at J;rw[decide_eq_false L];exact no (gU s r) ⟨none,0,0⟩ ⟨none,0,0⟩ J f x
 refine ae.intro (λq=>?_) (λq=>?_)
 ·have q:e.kind=15:=by simpa using q
  refine d.eM (XN λC p=>G8.mk _ ⟨rfl,(d.on p).eM ⟨d.j6,py k.aw.len λH G=>⟨_,rfl,((d.on p).on G).tell (S 1 ?_)⟩⟩⟩);unfold KM;rw[if_neg g,if_neg i,if_neg l,if_neg o,if_pos q]
 have q:e.kind≠15:=by simpa using q
 refine ae.intro (λu=>?_) (λu=>?_)
 ·have u:e.kind=16:=by simpa using u
  refine d.eM (XN λC p=>G8.mk _ ⟨rfl,(d.on p).eM ⟨d.j6,py k.aw.len λH G=>⟨_,rfl,((d.on p).on G).tell (S 2 ?_)⟩⟩⟩);unfold KM;rw[if_neg g,if_neg i,if_neg l,if_neg o,if_neg q,if_pos u]
 have u:e.kind≠16:=by simpa using u
 refine ae.intro (λB=>?_) (λB=>?_)
 ·have B:e.kind=17:=by simpa using B
  refine d.eM (XN λC p=>G8.mk _ ⟨rfl,(d.on p).eM ⟨d.j6,py k.aw.len λH G=>⟨_,rfl,((d.on p).on G).tell (S 3 ?_)⟩⟩⟩);unfold KM;rw[if_neg g,if_neg i,if_neg l,if_neg o,if_neg q,if_neg u,if_pos B]
 have B:e.kind≠17:=by simpa using B
 refine d.ret (no s b c ?_);unfold KM;rw[if_neg g,if_neg i,if_neg l,if_neg o,if_neg q,if_neg u,if_neg B]
theorem AM3 {e:Ev}(h:FQ e=true):0<=e.turn/\e.turn<=5:=by
 have d:=Lt h;unfold Eo at d;simp only[A3] at d;have:=d.1.1.2;unfold cX at this;split at this
 ·have:=BX.1 this;omega
 ·have:=of_decide_eq_true this;omega
theorem AJb {p:cj}{f g:Int}{x:bP}(h:stepOf p f g=some x):x∈p.steps:=by
 unfold stepOf at h;split at h
 ·obtain⟨j,i,d⟩:=Option.bind_eq_some_iff.1 h;split at d
  ·cases d;exact AF i
  ·cases d
 ·cases h
theorem pD {n:Nat}(aK:Jk h s a b c)(M:ER s n)(bO:n<=600)(hd:e.data.size<1099511627776)
  (aL: ∀O y k l,Ext h O->Jk O (Bj s e).2 y k l->(∀ x,y.af=some x\/k.af=some x\/l.af=some x->h.size<=x)->R (J1 #[((Bj s e).2.V y k l).v,J6 J9 (Bj s e).1]) O):AA A P Jj #[(s.V a b c).v,e.v] h R:=by
 refine ADj ?_;unfold WB;refine lh λbP am=>am.jH (Zn hd λa1 bn=>⟨_,rfl,?_⟩)
 have q:=am.on bn;have bo: ∀x,(⟨none,0,0⟩:Sl).af=some x\/(⟨none,0,0⟩:Sl).af=some x\/(⟨none,0,0⟩:Sl).af=some x->h.size<=x:=λx d=>by simp[Sl.af] at d
 have aq: ∀(n:Int),Bj s e=(n,TS)-> ∀O,Ext h O->R (J1 #[bF.z.v,J6 J9 n]) O:=λn a2 O x=>by
  have:=aL O ⟨none,0,0⟩ ⟨none,0,0⟩ ⟨none,0,0⟩ x (by rw[a2];exact⟨View.nil,View.nil,View.nil⟩) bo;rw[a2] at this;exact this
 refine ae.intro (λD=>?_) (λD=>?_)
 ·have I:FQ e=false:=by
   cases E:FQ e with
   |false=>rfl
   |true=>rw[E] at D;simp at D
  exact q.tell (aq 120 (by unfold Bj;rw[if_pos I]))
 have I:FQ e=true:=by
  cases E:FQ e with
  |true=>rfl
  |false=>rw[E] at D;simp at D
 obtain⟨bQ,bR,bp,bq,_⟩:=RU I;refine AC.mk (q.cK (j:=3) rfl) (ae.intro (λF=>?_) (λF=>?_))
 ·have F:s.next=0:=by simpa using F
  refine ah.mk λK br=>?_
  have key: ∀aA:Bool,(aA=true↔ ¬(e.kind=1/\e.id=1))->K (aA,()) a1:=λaA a3=>by
   refine br _ _ (ae.intro (λD=>?_) (λD=>?_))
   ·exact q.tell (aq 120 (by unfold Bj;rw[if_neg (by simp[I]),if_pos F,if_neg (a3.1 D)]))
   ·have D:aA=false:=D;have m:e.kind=1/\e.id=1:=Decidable.byContradiction λh=>by rw[a3.2 h] at D;cases D
    obtain⟨p,aM,bS⟩:=bq m.1;refine AJ.mk (q.bQ (j:=7) rfl) (xL hd λaC sl aD aN=>?_);obtain⟨aN,a4⟩:=aN p aM;rw[aM];refine⟨sl,p.ar,0,rfl,?_⟩;have V:=q.on aD;refine al.mk λaO _ bs W bt=>?_
    have a5:=V.on W;have bT:=V.b2;refine ab.two bs λa6 a7 X bu=>?_
    have a8:Ext aC a6:=W.more X λc g=>by subst g;exact A0 _
    have an:=V.on a8;refine AY.mk (s:=sl) (AL a7 rfl) (AC.mk (AB a7 rfl) (AC.mk (an.bQ (j:=2) rfl) (an.iA λa9 Q bv=>?_)));have ar:Bj s e=(0,Wx e):=by unfold Bj;rw[if_neg (by simp[I]),if_pos F,if_pos m]
    have ba:Wx e=⟨p,0,2,e.tick,0,0,true,[],[],false,false⟩:=by unfold Wx;rw[aM];rfl
    have bU:=q.ext.size;have:=aL a9 sl ⟨none,0,0⟩ ⟨none,0,0⟩ Q (by rw[ar,ba];exact⟨(aN.ext a8).mod bv (λc g i=>by have:=a4 c g;have:=Af q.b2;omega),View.nil,View.nil⟩) (λx d=>by
     rcases d with d|d|d
     ·have:=a4 x d;omega
     ·simp[Sl.af] at d
     ·simp[Sl.af] at d)
    rw[ar,ba] at this;exact this
  refine AC.mk (q.bQ (j:=1) rfl) (ae.intro (λm=>key _ (by simp at m;simp[m])) (λm=>AC.mk (q.bQ (j:=0) rfl) (key _ (by simp at m;simp[m]))))
 have F:s.next≠0:=by simpa using F
 refine AC.mk (q.cK (j:=2) rfl) (ae.intro (λm=>?_) (λm=>?_))
 ·have m:s.status≠0:=by simpa using m
  exact q.tell (aq 182 (by unfold Bj;rw[if_neg (by simp[I]),if_neg F,if_pos m]))
 have m:s.status=0:=by simpa using m
 refine AC.mk (q.bQ (j:=0) rfl) (AC.mk (q.cK (j:=3) rfl) (ae.intro (λS=>?_) (λS=>?_)))
 ·have S:e.id≠s.next:=by simpa using S
  exact q.tell (aq 120 (by unfold Bj;rw[if_neg (by simp[I]),if_neg F,if_neg (by simp[m]),if_pos S]))
 have S:e.id=s.next:=by simpa using S
 refine AY.mk (s:=b) (q.cK (j:=8) rfl) (AL4 ((aK.ext q.ext).aw) (by have:=M.aw;omega) λk aC aQ Y aD=>⟨_,rfl,?_⟩);have V:=q.on aD;refine AY.mk (s:=c) (V.cK (j:=9) rfl) ⟨q.cK (j:=9) rfl,ANP ((aK.ext V.ext).aj) (by have:=M.aj;omega) λl aO aR Z W=>⟨_,rfl,?_⟩⟩;have a5:=V.on W;have bV:=Af q.b2;have bW:=aD.size;have bt:=W.size;refine a5.gY (x':=s.V a k c) (by decide) rfl λbX bw au=>bw.gY (x':=s.V a k l) (by decide) rfl λa6 an X=>?_
 have bY:=au.size;have bu:=X.size;refine AY.mk (s:=a) (an.cK (j:=0) rfl) (AMs ((aK.ext an.ext).steps) (by have:=M.steps;omega) λy a9 bb bc Q=>⟨_,rfl,?_⟩);have bx:=an.on Q;refine bx.oE (x':=s.V y k l) rfl λz r ac=>AC.mk (r.bQ (j:=1) rfl) ?_
 have T:Jk z s y k l:=by have av:=(((aQ.view.ext W).mod au (λx d i=>by have:=Y x d;omega)).mod X (λx d i=>by have:=Y x d;omega));have vc:=((aR.view.mod au (λx d i=>by have:=Z x d;omega)).mod X (λx d i=>by have:=Z x d;omega));exact⟨bb.view.mod ac (λx d i=>by have:=bc x d;omega),(av.ext Q).mod ac (λx d i=>by have:=Y x d;omega),(vc.ext Q).mod ac (λx d i=>by have:=Z x d;omega)⟩
 have bz:Own eX Gu z k s.aw:=((((aQ.ext W).mod au (λx d i=>by have:=Y x d;omega)).mod X (λx d i=>by have:=Y x d;omega)).ext Q).mod ac (λx d i=>by have:=Y x d;omega);have bA:Own fU GN z l s.aj:=(((aR.mod au (λx d i=>by have:=Z x d;omega)).mod X (λx d i=>by have:=Z x d;omega)).ext Q).mod ac (λx d i=>by have:=Z x d;omega);have ao: ∀x,k.af=some x->a1.size<=x/\x<aC.size:=λx d=>⟨Y x d,aQ.lt d⟩
 have ap: ∀x,l.af=some x->aC.size<=x/\x<aO.size:=λx d=>⟨Z x d,aR.lt d⟩
 have aS: ∀x,y.af=some x->aO.size<=x/\x<z.size:=λx d=>⟨by have:=bc x d;omega,by have:=bb.lt d;have:=ac.size;omega⟩
 have bZ:=Q.size;have b0:=ac.size;have fr: ∀(dR dS:Sl),(∀ x,dR.af=some x->k.af=some x\/h.size+3<=x)->(∀ x,dS.af=some x->l.af=some x\/h.size+3<=x)-> ∀x,y.af=some x\/dR.af=some x\/dS.af=some x->h.size+3<=x:=λdR dS i g x d=>by
  rcases d with d|d|d
  ·have:=aS x d;omega
  ·rcases i x d with h|h
   ·have:=ao x h;omega
   ·omega
  ·rcases g x d with h|h
   ·have:=ap x h;omega
   ·omega
 refine ah.mk λaT bB=>?_
 have key: ∀ {o:Option bj} {t:bj} {dR dS:Sl} {B:aa},PW s e=o.map (λt=> {t with next:=s.next+1})->(∀ t',o=some t'->t=t'/\t'.next=s.next/\iI B (h.size+3) t' y k l dR dS)->D3 h B Ap A7 Ap (t.V y dR dS) e bF.z->aT (o.isSome,()) B:=λ{o t dR dS B} bd aU am=>by
  refine bB _ _ ?_;cases o with
  |none=>
   refine ae.yes rfl (am.tell (aq 120 ?_));unfold Bj;rw[if_neg (by simp[I]),if_neg F,if_neg (by simp[m]),if_neg (by simp[S]),bd];rfl
  |some t'=>
   obtain⟨rfl,bC,L⟩:=aU t' rfl;have u:=fr dR dS L.fb L.fc;have b1:=M.next;refine ae.no rfl (AC.mk (am.cK (j:=3) rfl) ?_);rw[wrap_i64 (by show _<=t.next+1;omega) (by show t.next+1<=_;omega)];refine am.gY (x':=({t with next:=s.next+1}:bj).V y dR dS) (by decide) (by rw[<- bC];rfl) λaE N bD=>N.oF λaw bE C=>?_
   have ar:Bj s e=(0,{t with next:=s.next+1}):=by unfold Bj;rw[if_neg (by simp[I]),if_neg F,if_neg (by simp[m]),if_neg (by simp[S]),bd];rfl
   have:=aL aw y dR dS bE (by
    rw[ar];have J:=L.at'.mod bD (λx d i=>by have:=u x (.inl d);omega) (λx d i=>by have:=u x (.inr (.inl d));omega) (λx d i=>by have:=u x (.inr (.inr d));omega);have U:=J.mod C (λx d i=>by have:=u x (.inl d);omega) (λx d i=>by have:=u x (.inr (.inl d));omega) (λx d i=>by have:=u x (.inr (.inr d));omega);exact⟨U.steps,U.aw,U.aj⟩) (λx d=>by have:=u x d;omega)
   rw[ar] at this;exact this
 refine ah.mk λbe aF=>?_
 have aG:2<=e.kind/\e.kind<=5->be (true,()) z:=λaH=>by
  refine aF _ _ (ae.yes rfl (r.eM (r.jH (AIK aH λaE aI=>G8.mk _ ⟨_,rfl,?_⟩))));have N:=r.on aI;refine N.mh λaw ad C=>key (o:=Dn s e) (t:=(Dn s e).getD s) (dR:=k) (dS:=l) (by unfold PW;rw[if_pos aH]) (λt' G=>?_) ad
  rw[G,IN];obtain⟨J,U,aJ,bf⟩:=P8 G;have aV:=(T.ext aI).mod C (λx d i=>by have:=fr k l (λ_ h=> .inl h) (λ_ h=> .inl h) x (.inl d);omega) (λx d i=>by have:=fr k l (λ_ h=> .inl h) (λ_ h=> .inl h) x (.inr (.inl d));omega) (λx d i=>by have:=fr k l (λ_ h=> .inl h) (λ_ h=> .inl h) x (.inr (.inr d));omega);exact⟨rfl,J.next,⟨by rw[J.prog];exact aV.steps,by rw[U];exact aV.aw,by rw[aJ];exact aV.aj⟩,λ_ h=> .inl h,λ_ h=> .inl h⟩
 have bG:e.kind=1\/12<=e.kind->be (false,()) z:=λaH=>by
  refine aF _ _ (ae.no rfl (ah.mk λaW ax=>?_));have H: ∀ {n:Int},6<=n->n<=11->(e.kind==n)=false:=λ{n} bH bI=>by simp;omega
  refine ae.no (H (by decide) (by decide)) (ae.no (H (by decide) (by decide)) (ae.no (H (by decide) (by decide)) ?_));rw[H (n:=9) (by decide) (by decide)];refine ax _ _ (ae.no rfl (ah.mk λbg aX=>ae.no (H (by decide) (by decide)) ?_));rw[H (n:=11) (by decide) (by decide)];refine aX _ _ (ae.no rfl (r.eM (r.jH (AMq T aH (λ_=>by have:=M.ba;have:=M.ar;omega) λaE t dR dS aI aU=>G8.mk _ ⟨_,rfl,?_⟩))));have N:=r.on aI;refine N.mh λaw ad C=>key (o:=KM s e) (t:=t) (by unfold PW;rw[if_neg (by omega),if_neg (by omega),if_neg (by omega)]) (λt' G=>?_) ad
  obtain⟨rfl,L⟩:=aU t' G;have ay: ∀x,dR.af=some x->k.af=some x\/h.size+3<=x:=λx d=>(L.fb x d).imp id λh=>by omega
  have az: ∀x,dS.af=some x->l.af=some x\/h.size+3<=x:=λx d=>(L.fc x d).imp id λh=>by omega
  have u:=fr dR dS ay az;exact⟨rfl,(wH G).1.next,L.at'.mod C (λx d i=>by have:=u x (.inl d);omega) (λx d i=>by have:=u x (.inr (.inl d));omega) (λx d i=>by have:=u x (.inr (.inr d));omega),ay,az⟩
 refine ae.intro (λaf=>?_) (λaf=>?_)
 ·have b2:e.kind=2:=by simpa using af
  have af:(e.kind==(2:Int))=true:=af;rw[af];exact aG (by omega)
 refine ae.intro (λag=>?_) (λag=>?_)
 ·have b3:e.kind=3:=by simpa using ag
  have ag:(e.kind==(3:Int))=true:=ag;rw[ag];exact aG (by omega)
 refine ae.intro (λai=>?_) (λai=>?_)
 ·have b4:e.kind=4:=by simpa using ai
  have ai:(e.kind==(4:Int))=true:=ai;rw[ai];exact aG (by omega)
 have af:e.kind≠2:=by simpa using af
 have ag:e.kind≠3:=by simpa using ag
 have ai:e.kind≠4:=by simpa using ai
 cases aY:(e.kind==(5:Int)) with
 |true=>
  have:e.kind=5:=by simpa using aY
  exact aG (by omega)
 |false=>
  have aY:e.kind≠5:=by simpa using aY
  by_cases aZ:6<=e.kind/\e.kind<=9
  ·have bJ: ∀ {B:aa} {t:bj} {dR:Sl},Mod (λx=>k.af=some x\/z.size<=x) z B->(∀ x,dR.af=some x->k.af=some x\/z.size<=x)->(∀ t',LZ s e=some t'->t=t'/\View eX B dR t'.aw)->aP B ⟨h.size,0,none⟩ (t.V y dR l).l λm=>aT ((LZ s e).isSome,()) m:=λ{B t dR} w f E=>by
    have aj: ∀v,v<h.size+3-> ¬(k.af=some v\/z.size<=v):=λv bK h=>by
     rcases h with h|h
     ·have:=ao v h;omega
     ·omega
    have N:D3 h B Ap A7 Ap (s.V y k l) e bF.z:=⟨r.ext.more w λc g=>by
     rcases g with g|g
     ·have:=ao c g;omega
     ·omega,w.af r.b0 (aj _ (by omega)),w.af r.b1 (aj _ (by omega)),w.af r.b2 (aj _ (by omega))⟩
    have ay: ∀x,dR.af=some x->k.af=some x\/h.size+3<=x:=λx d=>(f x d).imp id λh=>by omega
    refine N.mh λaw ad C=>key (o:=LZ s e) (t:=t) (by unfold PW;rw[if_neg (by omega),if_pos aZ]) (λt' G=>?_) ad
    obtain⟨rfl,av⟩:=E t' G;obtain⟨J,U,aJ,bf⟩:=wI G;have u:=fr dR l ay λ_ h=> .inl h
    have a0:=T.steps.mod w λx d g=>by
     have:=aS x d;rcases g with g|g
     ·have:=ao x g;omega
     ·omega
    have vc:=T.aj.mod w λx d g=>by
     have:=ap x d;rcases g with g|g
     ·have:=ao x g;omega
     ·omega
    exact⟨rfl,J.next,⟨by rw[J.prog];exact a0.mod C (λx d i=>by have:=u x (.inl d);omega),av.mod C (λx d i=>by have:=u x (.inr (.inl d));omega),by rw[aJ];exact vc.mod C (λx d i=>by have:=u x (.inr (.inr d));omega)⟩,ay,λ_ h=> .inl h⟩
   refine aF _ _ (ae.no rfl (ah.mk λaW ax=>?_));have ak:aW (true,()) z:=ax _ _ (ae.yes rfl (r.eM (r.jH (AQs T bz (by have:=M.aw;omega) aZ (by have:=AM3 I;omega) λaE t dR w f E=>G8.mk _ ⟨_,rfl,bJ w f E⟩))));refine ae.intro (λv=>?_) (λbh=>ae.intro (λv=>?_) (λbi=>ae.intro (λv=>?_) (λbk=>?_)))
   ·rw[v];exact ak
   ·rw[v];exact ak
   ·rw[v];exact ak
   ·have bh:e.kind≠6:=by simpa using bh
    have bi:e.kind≠7:=by simpa using bi
    have bk:e.kind≠8:=by simpa using bk
    have bL:(e.kind==(9:Int))=true:=by simp;omega
    rw[bL];exact ak
  ·by_cases g:e.kind=10\/e.kind=11
   ·have bM: ∀ {B:aa} {t:bj} {dS:Sl},Mod (λx=>l.af=some x\/z.size<=x) z B->(∀ x,dS.af=some x->l.af=some x\/z.size<=x)->(∀ t',KA s e=some t'->t=t'/\View fU B dS t'.aj)->aP B ⟨h.size,0,none⟩ (t.V y k dS).l λm=>aT ((KA s e).isSome,()) m:=λ{B t dS} w f E=>by
     have aj: ∀v,v<h.size+3-> ¬(l.af=some v\/z.size<=v):=λv bK h=>by
      rcases h with h|h
      ·have:=ap v h;omega
      ·omega
     have N:D3 h B Ap A7 Ap (s.V y k l) e bF.z:=⟨r.ext.more w λc g=>by
      rcases g with g|g
      ·have:=ap c g;omega
      ·omega,w.af r.b0 (aj _ (by omega)),w.af r.b1 (aj _ (by omega)),w.af r.b2 (aj _ (by omega))⟩
     have az: ∀x,dS.af=some x->l.af=some x\/h.size+3<=x:=λx d=>(f x d).imp id λh=>by omega
     refine N.mh λaw ad C=>key (o:=KA s e) (t:=t) (by unfold PW;rw[if_neg (by omega),if_neg aZ,if_pos g]) (λt' G=>?_) ad
     obtain⟨rfl,vc⟩:=E t' G;obtain⟨J,U,aJ,bf⟩:=wJ G;have u:=fr k dS (λ_ h=> .inl h) az;have a0:=T.steps.mod w λx d g=>by
      have:=aS x d;rcases g with g|g
      ·have:=ap x g;omega
      ·omega
     have av:=T.aw.mod w λx d g=>by
      have:=ao x d;rcases g with g|g
      ·have:=ap x g;omega
      ·omega
     exact⟨rfl,J.next,⟨by rw[J.prog];exact a0.mod C (λx d i=>by have:=u x (.inl d);omega),by rw[U];exact av.mod C (λx d i=>by have:=u x (.inr (.inl d));omega),vc.mod C (λx d i=>by have:=u x (.inr (.inr d));omega)⟩,λ_ h=> .inl h,az⟩
    have H: ∀ {n:Int},6<=n->n<=9->(e.kind==n)=false:=λ{n} bH bI=>by simp;omega
    refine aF _ _ (ae.no rfl (ah.mk λaW ax=>?_));refine ae.no (H (by decide) (by decide)) (ae.no (H (by decide) (by decide)) (ae.no (H (by decide) (by decide)) ?_));rw[H (n:=9) (by decide) (by decide)];refine ax _ _ (ae.no rfl (ah.mk λbg aX=>?_));have ak:bg (true,()) z:=aX _ _ (ae.yes rfl (r.eM (r.jH (APm T bA (by have:=M.aj;omega) g bp (λx d=>by have:=M.waits x (AJb d);omega) λaE t dS w f E=>G8.mk _ ⟨_,rfl,bM w f E⟩))));refine ae.intro (λv=>?_) (λbm=>?_)
    ·rw[v];exact ak
    ·have bm:e.kind≠10:=by simpa using bm
     have bN:(e.kind==(11:Int))=true:=by simp;omega
     rw[bN];exact ak
   ·exact bG (by omega)
end
theorem OP {n:Int}(a:0<=n)(b:n<=9223372036854775807):J8 .u64 n=((n.toNat:Nat):Int):=by
 have:n=((n.toNat:Nat):Int):=by omega
 rw[this,Ba (by omega)];simp
theorem Md {f:Bool}{n:Int}(a:n<=9223372036854775807):(Sn f n).length<=10:=by
 cases f with
 |false=>exact AG _
 |true=>exact AV (by omega)
theorem Zt {h:ak}{b:aa}{a:Q6}{f e n:Int}{fl:Bool}{d:List UInt8}{K:A2P×Unit->aa->Prop}(i:(Gb J9 f e != (0:Int))=fl)(j:ag b a=some (J6 J9 n))(k:fl=true->0<=n/\n<=1099511627776)
  (m:d.length<=100000) (g: ∀c,Ext b c->K (AX (d++Sn fl n),()) c):
  ae (Gb J9 f e != (0:Int)) (AC J9 b a λt=>AA h P Aq #[.int .u64 (J8 .u64 t)] b λv c=> ∃x:A2P,v=J7 x/\(aH ((((AX d).size+x.size:Nat):Int)<=IntKind.i64.max)<|K ((AX d)++x,()) c)) (K (AX d,()) b):=by
 rw[i];cases fl with
 |false=>
  have:=g b Mod.refl;simp only[Sn,Cl,if_false,AN] at this;exact ae.no rfl this
 |true=>
  obtain⟨l,o⟩:=k rfl;refine ae.yes rfl (AC.mk j ?_);rw[OP l (by omega)];have:=AV (n:=n.toNat) (by omega);refine CR (by omega) λc x=>⟨_,rfl,⟨by rw[AP,AP,max_i64];omega,?_⟩⟩
  have:=g c x;simp only[Sn,if_true] at this;rw[Ae];exact this
theorem qS {f:Bool}{a b c:Int}(d:cX f a b c=true)(g:0<=b)(h:c<=1099511627776):f=true->0<=a/\a<=1099511627776:=λe=>by
 subst e;simp only[cX,if_true,BX] at d;omega
def nZ(a:Ev):J0:=J1 #[J7 (AX (if FQ a then NP a else [])),J6 J9 (if FQ a then 0 else 120)]
theorem AKe {R:ak}{a:aa}{e:Ev}{k:A2O}(hd:e.data.size<1099511627776)(u: ∀c,Ext a c->k (nZ e) c):AA R P OM #[nY e] a k:=by
 refine ABA ?_;unfold UB;refine al.mk λar _ b v au=>?_
 refine AC.mk (AL b rfl) (AC.mk (AB b rfl) (AC.mk (AB b rfl) (AC.mk (AB b rfl) (AC.mk (AB b rfl) (AC.mk (AB b rfl) (Ac.mk (AB b rfl) (AJ.mk (AB b rfl) ?_)))))));refine Zn (e:=e) hd λw l=>⟨_,rfl,?_⟩
 cases m:FQ e with
 |false=>
  refine ae.yes rfl ?_;have:=u w (v.trans l);rw[nZ,m] at this;exact this
 |true=>
  refine ae.no rfl ?_;have y: ∀c,Ext w c->k (J1 #[J7 (AX (NP e)),J6 J9 0]) c:=λc x=>by
   have:=u c ((v.trans l).trans x);rw[nZ,m] at this;exact this
  have h:=l.af b (λa=>a);have z:=Lt m;simp only[Eo,A3] at z;obtain⟨⟨⟨⟨⟨⟨⟨S,T⟩,U⟩,o⟩,p⟩,q⟩,av⟩,aw⟩:=z;have ax:=BX.1 S;have ay:=BX.1 T;have az:=BX.1 U;obtain⟨V,W,X,Y,Z⟩:=qQ e.kind;refine AC.mk (AB h rfl) (Wv ⟨_,_,rfl,?_⟩);refine AC.mk (AL h rfl) ?_;rw[OP (n:=e.id) (by omega) (by omega)];refine CR (by omega) λaA A=>⟨_,rfl,?_⟩
  have r:=A.af h (λa=>a);refine AC.mk (n:=e.kind) (AB r rfl) ⟨AB h rfl,?_⟩;rw[OP (n:=e.kind) (by omega) (by omega)];have aC:=AV (n:=e.id.toNat) (by omega);have aD:=AV (n:=e.kind.toNat) (by omega);have aE:=AV (n:=e.tick.toNat) (by omega);refine CR (by omega) λaF B=>⟨_,rfl,⟨by rw[AP,AP,max_i64];omega,?_⟩⟩
  have C:=B.af r (λa=>a);refine AC.mk (n:=e.tick) (AB C rfl) ⟨AB r rfl,AB h rfl,?_⟩;rw[OP (n:=e.tick) (by omega) (by omega)];refine CR (by omega) λaG D=>⟨_,rfl,⟨by rw[Ae,AP,AP,max_i64,A1];omega,?_⟩⟩
  have E:=D.af C (λa=>a);have ab:=(A.trans B).trans D;rw[Ae,Ae];refine ah.mk λK ac=>?_
  have aH:=Md (f:=cW e.kind) (n:=e.ref) (by cases i:cW e.kind<;>rw[i] at o<;>simp[cX,bS] at o<;>omega);have aI:=Md (f:=di e.kind) (n:=e.step) (by cases i:di e.kind<;>rw[i] at p<;>simp[cX,bS] at p<;>omega);have aJ:=Md (f:=dx e.kind) (n:=e.turn) (by cases i:dx e.kind<;>rw[i] at q<;>simp[cX,bS] at q<;>omega);have aK:=Md (f:=dP e.kind) (n:=if e.aE then 1 else 0) (by split<;>omega);refine Zt (fl:=cW e.kind) (n:=e.ref) (by rw[V,MI (by decide)]) (AB E rfl) (qS o (by decide) (by omega)) (by simp only[A1];omega) λaL F=>ac _ _ ?_
  have G:=F.af E (λa=>a);refine ah.mk λaM ad=>?_
  refine Zt (fl:=di e.kind) (n:=e.step) (by rw[W,MI (by decide)]) (AB G rfl) (qS p (by decide) (by omega)) (by simp only[A1];omega) λaN H=>ad _ _ ?_
  have I:=H.af G (λa=>a);refine ah.mk λaO af=>?_
  refine Zt (fl:=dx e.kind) (n:=e.turn) (by rw[X,MI (by decide)]) (AB I rfl) (qS q (by decide) (by omega)) (by simp only[A1];omega) λs J=>af _ _ ?_
  have L:=J.af I (λa=>a);have M:=((ab.trans F).trans H).trans J;refine ah.mk λag ai=>?_
  have N: ∀g,Ext s g->ag (AX (((BH e.id.toNat++BH e.kind.toNat++BH e.tick.toNat++Sn (cW e.kind) e.ref)++Sn (di e.kind) e.step++Sn (dx e.kind) e.turn)++Sn (dP e.kind) (if e.aE then 1 else 0)),()) g:=λg j=>by
   refine ai _ _ ?_;have aj:=j.af L (λa=>a);refine ah.mk λaP O=>?_
   rw[Z,MI (by decide)];refine ae.intro (λd=>?_) (λd=>?_)
   ·refine AJ.mk (AB aj rfl) (Lp (by omega) λam an=>⟨_,rfl,⟨?_,O _ _ ?_⟩⟩)
    ·have:=AV (n:=(bl e.data).length) (by rw[Av];omega);rw[AP,AP,max_i64];simp only[BG,A1,Av] at this ⊢;omega
    ·have:=y am ((M.trans j).trans an);dsimp only;rw[Ae];simp only[NP,gB,d,if_true] at this;simp only[A4] at this ⊢;exact this
   ·refine O _ _ ?_;have:=y g (M.trans j);simp only[NP,gB,d,Cl,if_false,AN] at this;simp only[A4] at this ⊢;exact this
  rw[Y,MI (by decide)];refine ae.intro (λd=>?_) (λd=>?_)
  ·refine ah.mk λao ap=>Ac.mk (AB L rfl) ?_
   have Q: ∀n:Nat,n<=1->(n:Int)=(if e.aE then 1 else 0)->ao ((n:Int),()) s:=λn aQ aq=>by
    refine ap _ _ ?_;have:=AV (n:=n) (by omega);refine CR (by omega) λg j=>⟨_,rfl,⟨?_,?_⟩⟩
    ·dsimp only;rw[AP,AP,max_i64];simp only[A1];omega
    ·have:=N g j;rw[<- aq] at this;simp only[Sn,d,if_true,As] at this;dsimp only;rw[Ae];exact this
   refine ae.intro (λt=>Q 1 (by omega) (by rw[t];rfl)) (λt=>Q 0 (by omega) (by rw[t];rfl))
  ·have:=N s Mod.refl;simp only[Sn,d,Cl,if_false,AN] at this;exact this
end Go.Lf.G
