/-
 Contract: are all workflows the same on both sides (chapter 19's statements)?
-/
import Derived.Test.YtebeggcpmdegnaaGreatDoorLfD30ToO4
import Derived.Test.YtebeggcpmdegnaaGreatDoorLfD15
set_option maxRecDepth 100000
set_option linter.unusedVariables false
set_option linter.unusedSimpArgs false
set_option linter.defProp false
set_option linter.unnecessarySimpa false
open Go.IntKind renaming i64→D,wrap→J8
open Go.Value renaming string→J7,int→J6,pointer→J5,slice→J4,bool→J3,tuple→J1
open Go.Obj renaming cells→J2
open Go renaming Value→J0,Addr→Q6,TypeId→Q7,FuncId→Q8,Program→Q1
open Go.Addr renaming add→Q9,mk→Q5
open Option renaming some→Z,none→V
open Bool renaming true→Y,false→U
open List renaming length→J
namespace Go.Lf
open Go
variable{d:ai}{a k:W}{f o a0:Nat}{b5:Hs×List Hs}{bp:List Pr}{aw:bg}{a2:bL}{p bm:Nat->Prop}{j ak:Sl}{a7:List bB}{bx:List da}{ar:Int}{e:A41}
theorem AT6{s:Nat}{y:Hs}{aM:List Pr}(C:cq a k s f o b5 y bp aM aw a2 p bm a0 j ak a7 bx ar)(aP:∀aB,G k aB->e Y aB):AJ d P Jm #[BJ a0] k e:=by
 refine Uo ?_;dsimp only[jN,N,aT,iX,aN,nW,sT,sA,gT,cB,jc,Mo,lL,lP,lS,CB,gA,aO];have fc:=C.fc;have bg:=C.vf.view.len;refine aE (AP (s:=j) (AA C.ae rfl) (AX (λm aQ af=>∃i:Nat,aQ=((i:Int),())/\m=J a7-i/\i<=J a7/\G k af) ?_ ⟨0,rfl,rfl,Ax _,L.refl⟩));rintro bh m _ af⟨i,rfl,rfl,hi,al⟩aR;have O:=C.ext al;dsimp only;refine AB (λaC=>?_) λaC=>aP af al;have aD:i<J a7:=by have:=A5 aC;omega
 have ao:=A3 aD;generalize a7[i]=x at ao;have aF:=AH ao;have ag:=C.fo.fwd x aF;have aG:=(C.iv _ _ ag).2;have ap:=C.bN _ _ ag;have bi:=ap.len;have T:=Lm EG.zero ap.ok;refine O.vf.view.idx ao λbj _ aS=>?_;obtain⟨aU,aV⟩:=oO aS;refine AO aU (AP (s:=x.sl) aV (AU λbn _ aW aX bo=>Ca aW λI ai aY bq=>AR λaZ a1=>?_));have au:G af I:=aX.akF aY λo M=>by subst M;exact A2 _
 have K:=O.ext au;have key:∀(l:W)(S:Nat)(r t u w:Sl),G I l->l[S]?=Z (J2 (⟨x.akD,(Am x.akD 4:Nat),⟨(Ab x.aI).akE,(Ab x.aI).next,U⟩,r,(Ab x.aI).V t u w⟩:cJ).c Bv (0,0))->View bF l r x.aI->Jh l (Ab x.aI) t u w->aZ (Z (ad S),0,()) l:=λl S r t u w av ax V Q=>by have B:=av.ae ai λk=>k;have aH:=((O.ve x aF).ext (au.trans av)).view;refine a1 _ _ (AR λbr a3=>AQ rfl (aE (AP (s:=r) (AA ax rfl) (AP (s:=x.sl) (AA B rfl) (ANu V aH (by omega) ⟨_,rfl,AQ (by simp) ?_⟩)))));refine aE ?_;rw[show(ad S).add 6=⟨S,6,none⟩from rfl];refine CX ((Ab x.aI).V t u w) (DY ax rfl) (AP (s:=x.sl) (AA B rfl) (Yk aH ap.ok (by omega) λa4 a5 a6 a8 ay a9 fr=>EP ((Ab x.aI).V a5 a6 a8) ⟨rfl,?_⟩));have aI:=ay.ae ax λk=>k;have q:∀(az:Nat)(v:J0),(⟨x.akD,(Am x.akD 4:Nat),⟨(Ab x.aI).akE,(Ab x.aI).next,U⟩,r,(Ab x.aI).V t u w⟩:cJ).c[6+az]?=Z v->ah a4 ((⟨S,6,none⟩:Q6).add az)=Z v:=λaz v ba=>by{rw[CR];exact AL aI ba};refine⟨⟨AL aI rfl,q 1 _ rfl,q 2 _ rfl,q 3 _ rfl,q 4 _ rfl,q 5 _ rfl,q 6 _ rfl,q 7 _ rfl,q 8 _ rfl,q 9 _ rfl,q 10 _ rfl,q 11 _ rfl⟩,ARl (Q.ext ay) a9 (by have:=T.akC;omega) (by have:=T.au;omega) (by have:=T.af;omega) λbs bb=>⟨_,rfl,a3 _ _ (AQ rfl ?_)⟩⟩;rw[Aa (by omega)];exact aR (J a7-(i+1)) _ _ (by omega) ⟨i+1,rfl,rfl,aD,al.trans (au.trans (av.trans (ay.trans bb)))⟩
 refine aE (Ag (n:=Z (ad y.p)) (AL K.ae rfl) (AO (n:=x.akD) (AL ai rfl) ⟨?_,AU λaJ _ bc z bt=>⟨AL (z.ae ai λk=>k) rfl,AL (z.ae K.ae λk=>k) rfl,?_⟩⟩));{refine qL (i:=0) (y:=y) K.w.w rfl K.w.m aG ag λaJ r t u w z V Q aj aK=>Du _ ⟨_,rfl,AU λbd _ be X bu=>⟨AL (X.ae (z.ae ai λk=>k) λk=>k) rfl,AL (X.ae (z.ae K.ae λk=>k) λk=>k) rfl,Aq be (A2 18) λl B ae bf=>?_⟩⟩;rw[Oe]at B;have aA:G aJ l:=X.akF ae λo M=>by{subst M;exact A2 _};exact key l _ r t u w (z.trans aA) B (V.ext aA) (Q.ext aA)};have aL:=K.ext z;refine qL (i:=0) (y:=y) aL.w.w rfl aL.w.m aG ag λbd r t u w X V Q aj aK=>Du _ ⟨_,rfl,Aq (X.ae bc λk=>k) (A2 18) λl B ae bf=>?_⟩;rw[Oe]at B;have bv:=z.size;refine key l _ r t u w ((z.trans X).akF ae λo M=>by subst M;exact A2 _) B (V.mod ae λb F H=>?_) (Q.mod ae (λb F H=>?_) (λb F H=>?_) λb F H=>?_);{have:=aK b F;have:b=I.size:=H;omega};{have:=aj b (.inl F);have:b=I.size:=H;omega};{have:=aj b (.inr (.inl F));have:b=I.size:=H;omega};have:=aj b (.inr (.inr F));have:b=I.size:=H;omega
end Go.Lf
