/-
 The law ArchiveMoves (chapter 20) over its formula.
-/
import Derived.Test.YtgpmoonnachoaaaGreatDoorLfZ11ToU32
import Derived.Test.YtgpmoonnachoaaaGreatDoorLfE14ToQ34
set_option maxRecDepth 100000
set_option linter.unusedVariables false
set_option linter.unusedSimpArgs false
open Go.IntKind renaming i64→J9,wrap→J8
open Go.Value renaming string→J7,int→J6,pointer→J5,slice→J4,bool→J3,tuple→J1
open Go.Obj renaming cells→J2
open Go renaming Value→J0,Addr→Q6,TypeId→Q7,FuncId→Q8,Program→Q1
open Go.Addr renaming add→Q9,mk→Q5
namespace Go.Lf.G
open Go
open M (Sorted Ad Bu Ay Ae Am BL Ag bo A9 aM A8)
section
variable {A : al} {h : aa} {R : A2L}
theorem AQU {a:Nat}(d:a<=500)(b:R (J6 J9 ((max 1 ((a+39) / 40):Nat):Int)) h):AA A P KF #[J6 J9 (a:Int)] h R:=by
 refine VA ?_;unfold Nr;have c:(if((J8 J9 ((J8 J9 ((a:Int)+(39:Int))).tdiv (40:Int))):Int)>1 then(J8 J9 ((J8 J9 ((a:Int)+(39:Int))).tdiv (40:Int))) else 1)=((max 1 ((a+39) / 40):Nat):Int):=by rw[show(a:Int)+39=((a+39:Nat):Int) from by omega,ED (by omega),show(((a+39:Nat):Int).tdiv (40:Int))=(((a+39) / 40:Nat):Int) from(P2 (a+39) 40).symm,ED (by omega)];split<;>omega
 rw[c];exact b
theorem ABp {signals:Int}(O:cy h)(bh: ∀e,Ext h e->R (J3 true) e):AA A P JG #[J6 J9 signals] h R:=by
 refine OL ?_;unfold Ja;refine AKX λl aD=>⟨_,rfl,af.no rfl ?_⟩
 refine ao.mk λb4 _ bi bj b5=>tz λF b6 Sb bk aE aF=>⟨_,rfl,?_⟩
 have b7:=aD.size;generalize b8:l.size=v at*
 refine(λ(G: ∀ [Zc],Zc.bx=F->Zc.zf=(λ_=>none)-> ?_)=> @G ⟨F,λ_=>none⟩ rfl rfl) ?_;intro b9 al bm;refine AHf O bk (aD.trans (bj.trans aE)) (λc f=>by have:=aF c f;omega) (aE.ag bi λh=>h) (by omega) (λf=>by have:=aF v f;omega) al bm λbn s Q ab o aG aH bo aI aJ bp=>⟨_,rfl,af.no rfl ?_⟩
 have bq:=aG.w.sorted;have br:dD h bn s 1 Q o (λ_=>none) (λ_=>none) (λd=>d=v\/d=ab) v F ab Q.p:=⟨aG,rfl,bo,(aH.has 0 (by decide)).1,aH.owns (by decide),.inl rfl,aI⟩;obtain⟨bs,ca,aK⟩:=AP0 (x:=signals) (n:=120) (by decide) (by decide);rw[show((120:Nat):Int)=120 from rfl] at aK;have cb:=Aj aJ;have cc:=Aj aI;rw[aK];refine AEx O br (by omega) (by decide) rfl rfl ⟨rfl,λ_ _ _=>rfl⟩ (AQH bq bp (by decide)) λcd B C S bt bu ev D am ce bv U aL bw=>⟨_,_,_,_,rfl,?_⟩
 have bx:=bz.aS bv aJ (.inr rfl);refine ao.pair λV an cf bA ap cg=>?_
 have bB:=Aj am.cx;have r:dD h an s B C S bt bu (λd=>(d=v\/d=ab)\/d=V) v F ab Q.p:=am.own ap.mod (λc f=>f.imp id λh=>by omega) (ap.get v bB λh=>h) (.inl (.inl rfl));have bC:=ap.ag bx λh=>h
 have W:=am.w.m;have p:=W.cV wW ev U;have aq:=p.len;have aM:(Ai ev).status=4:=by rw[aL];rfl
 have ch:ev.length<=130:=by have:=p.next.1;rw[aL] at this;have:4+(bs:Int)=ev.length+1:=this;omega
 obtain⟨aN,aO⟩:=AKw (w:=wW) (by decide) p (by omega);refine YT (ev:=ev) (st:=(Ai ev).status) (nx:=(Ai ev).next) r.cx aq (λG n q g ar j=>by
  rw[<- r.hp];exact AJw (i:=0) (r.w.w.on g) rfl W (by decide) U ar λe k y z au=>j e k y z au) λX sl Y av bD=>⟨_,_,rfl,?_⟩
 refine ai.mk λK bE=>af.no rfl (bE _ _ (af.no rfl ?_))
 have aP:LW gi h X s B (3*B) 1 [C] S (λd=>((d=v\/d=ab)\/d=V)\/(an.size<=d/\d<X.size)):=r.w.w.own Y.mod λc f=>f
 have aQ:=Y.ag r.cx λh=>h
 have aR:=Y.ag bA λh=>h
 have aS:=Y.ag bC λh=>h
 generalize J:(λd=>((d=v\/d=ab)\/d=V)\/(an.size<=d/\d<X.size))=H at aP;have aT:H v:=by rw[<- J];exact .inl (.inl (.inl rfl))
 have aw:H ab:=by rw[<- J];exact .inl (.inl (.inr rfl))
 have aU:H V:=by rw[<- J];exact .inl (.inr rfl)
 have Os: ∀c,sl.ag=some c->H c:=λc f=>by rw[<- J];exact .inr ⟨bD c f,av.kH p.ne f⟩
 clear J;have ax:C.p=Q.p:=r.hp;generalize L:({gi with zf:=jS gi.zf wW ev}:cu)=t;have aV:t.bx=F:=by rw[<- L];exact al
 have ay: ∀a,a<=200->t.W0+(1+3*a)*t.K+2000000<1099511627776:=λa aW=>by
  rw[<- L];show 0+(1+3*a)*lD 32000+2000000<1099511627776;unfold lD;omega
 have aX: ∀o aY aZ,fx o C ev D aY true aZ->Kept t o wW ev:=λo aY aZ M=>⟨p,⟨aN,aO⟩,by rw[<- L];show jS gi.zf wW ev (zn wW)=_;exact if_pos rfl,M.eY⟩
 have hA: ∀a,a<=200->4+3*a<=t.A/\64*a+64<=t.C:=λa aW=>by
  rw[<- L];exact⟨by show 4+3*a<=1600;omega,by show 64*a+64<=32000;omega⟩
 refine Loop.rule (λm x G=> ∃(i a:Nat) (o:List Pr) (kept:Bool) (Z:cu),x=(((i+1:Nat):Int),())/\m=4-i/\(i=0\/40*i<ev.length)/\a<=B+1+i/\LW Z h G s a (3*B) 1 [C] o H/\Mod (bz h H) X G/\fx o C ev D (40*i) kept [eV D]/\(kept=true->Z=t)/\(kept=false->Z=gi/\o=S/\i=0/\a=B)) ?_
  ⟨0,B,S,false,gi,rfl,rfl,.inl rfl,by omega,aP,Mod.refl,fx.first r.w.w.sorted W U r.ow bw,λh=>(by cases h),λ_=>⟨rfl,rfl,rfl,rfl⟩⟩
 rintro ci m _ G ⟨i,a,o,kept,Z,rfl,rfl,cj,aW,ac,ad,M,hB,az⟩ bF;dsimp only;have a0:=bz.aS ad aQ aT;have aA:=bz.aS ad aR aU;have a1:=bz.aS ad aS aw;refine AY.mk (AB a0 rfl) (AY.mk (AB a0 rfl) (AJ.mk (n:=(eV D).key) (AL aA rfl) (AJ.mk (n:=(eV D).val) (AB aA rfl) (AZ.mk (n:=false) (AB aA rfl) ?_))));obtain⟨bG,dl,u⟩:=M.part ac.sorted p;rw[<- ax];refine ur (B':=t) (a':=if kept then a else a+1) (i:=0) (ab:=ab) O ac rfl p (by rw[aM];decide) M (by rw[r.f1];decide) (hA _ (by split<;>omega)).1 (hA _ (by split<;>omega)).2 (by split<;>omega)
  (λl q g j=>by
   cases kept with
   |false=>
    obtain⟨rfl,rfl,-,-⟩:=az rfl;exact pZ (i:=0) (ac.on g) rfl W (by decide) U λe k a b c y z _ _ au=>j e k a b c y z λ_=>au
   |true=>
    obtain rfl:=hB rfl;exact uk (i:=0) (ac.on g) rfl (by rw[aV];exact g.ag a1 λh=>h) (by decide) (aX _ _ _ M) (ay _ (by omega)) λe k a b c y z=>j e k a b c y z λh=>by cases h)
  (λl k ck q bH g bI bJ v1 bK j=>by
   subst bH;obtain⟨rfl,rfl,-,rfl⟩:=az rfl;subst L;exact LW.aS (T:=Ff) bI (by
    rw[show gi.bx=F from al];exact g.ag a1 λh=>h) (bJ ab aw) v1 bK aN aO aq (hA _ (by omega)).1 (hA _ (by omega)).2 (ay _ (by omega)) j)
  (λh=>⟨(hB h).symm,by rw[h];rfl⟩) (λhd=>absurd bG hd) λ_ a2 ae bL=>⟨_,_,rfl,?_⟩
 have N:=ad.trans bL;have a3:=bz.aS N aQ aT;have bM:=bz.aS N aS aw;have a4:=aX _ _ _ u;have a5:(if kept=true then a else a+1)+1<=200:=by split<;>omega
 have a6:(if kept=true then a else a+1)+1<=B+1+(i+1):=by
  cases kept with
  |true=>show a+1<=_;omega
  |false=>obtain⟨-,-,rfl,rfl⟩:=az rfl;show a+1+1<=_;omega
 generalize (if kept=true then a else a+1)+1=a7 at ae a5 a6;generalize cq o _=a8 at ae u a4;have ld: ∀(l:aa) (q:A2L),Ext a2 l->(∀ e k a' bN bO,Ext l e->View cw e k ev->(true=false-> ∀x,k.ag=some x->l.size<=x)->q (J1 #[(⟨wW,(BA wW 1:Int),⟨(Ai ev).status,(Ai ev).next,true⟩,k,(Ai ev).V a' bN bO⟩:bX).v,J6 J9 0]) e)->AA A P Dz #[Ar C.p,.iface BU (Ar ab),J7 wW] l q:=λl q g j=>
  uk (i:=0) (ae.on g) rfl (by rw[aV];exact g.ag bM λh=>h) (by decide) a4 (ay _ a5) λe k a b c y z=>j e k a b c y z λh=>by cases h
 refine YT (ev:=ev) (st:=(Ai ev).status) (nx:=(Ai ev).next) a3 aq (λcl n q g ar j=>by
  rw[<- ax];exact uh p ar (λl q x j=>ld l q (g.trans x) λe k a b c y z _=>j e k a b c y z) j) λcm cn I bP co=>⟨_,_,rfl,?_⟩
 have bQ:View cw a2 sl ev:=av.mod N λc f bR=>bR.2 (Os c f)
 refine ai.mk λcp bS=>af.no rfl (af.no rfl (AJl bP (bQ.ext I) (by omega) ⟨_,rfl,?_⟩))
 rw[decide_eq_true rfl,av.len];refine af.no rfl (AQU (by omega) ⟨_,rfl,bS _ _ ?_⟩);rw[dl];have bT:(((i+1:Nat):Int)==((max 1 ((ev.length+39) / 40):Nat):Int))=decide (ev.length<=40*i+40):=by rw[DS,beq_iff_eq,decide_eq_true_eq];omega
 rw[bT];refine af.no (by simp) ?_;have ag:=ae.on I;have ah:=I.ag a3 λh=>h
 have bU:=I.ag (bz.aS N aR aU) λh=>h
 refine af.intro (λE=>?_) (λE=>?_)
 ·have E:ev.length<=40*i+40:=of_decide_eq_true E;rw[if_pos E] at u;have bV:Ec (Gb wW) a8= []:=by rw[u.rows];exact PA (by unfold PL;rw[AS];omega)
  have bW:(Gb wW).size<=1000:=by have:=rI (wid:=wW) (by decide);omega
  refine AY.mk (AB ah rfl) (nR (wid:=wW) (by decide) λcr aj=>⟨_,rfl,AB (aj.ag ah λh=>h) rfl,?_⟩);refine(ag.on aj).scan (AG bW (by decide)) λps cs a9 ct ba=>⟨_,_,rfl,?_⟩
  rw[ZE,bV] at a9;have bb:=(aj.trans ba).ag ah λh=>h
  refine AY.mk (AB bb rfl) (tW (n:=0) (by decide) λcv bc=>⟨_,rfl,AB (bc.ag bb λh=>h) rfl,?_⟩);have bd:=aj.trans (ba.trans bc);refine(ag.on bd).scan (by unfold IE;rw[AP];show 2<=1099511627776;decide) λbY cx be cz bZ=>⟨_,_,rfl,?_⟩
  rw[ZE,u.tm] at be;have ak:=bd.trans bZ;have bf:=ak.ag ah λh=>h
  have aC:=ak.ag bU λh=>h
  refine AY.mk (AB bf rfl) (AY.mk (AB bf rfl) (AJ.mk (n:=(eV D).key) (AL aC rfl) (AJ.mk (n:=(eV D).val) (AB aC rfl) (AZ.mk (n:=false) (AB aC rfl) ?_))));have bg:=ag.on ak;rw[<- ax];refine ur (B':=t) (a':=a7) (i:=0) (ab:=ab) (kept:=true) O bg rfl p (by rw[aM];decide) u (by rw[r.f1];decide) (hA _ (by omega)).1 (hA _ (by omega)).2 (by omega)
   (λl q g j=>ld l q ((I.trans ak).trans g) j)
   (λ_ _ _ _ h=>by cases h)
   (λh=>⟨rfl,rfl⟩) (λhd b0 cB b1=>⟨_,_,rfl,?_⟩) λhd=>absurd (u.last p) (by rw[hd];decide)
  have b2:ps.len=0:=a9.len;have b3:bY.len=0:=be.len;rw[u.last p,b2,b3];exact af.yes rfl (af.yes rfl (af.yes rfl (af.yes rfl (bh b0 (bg.ext.more b1 λc f=>f.1)))))
 ·have E: ¬ev.length<=40*i+40:=of_decide_eq_false E;rw[if_neg E] at u;rw[Ab (by omega)];exact bF (4-(i+1)) _ _ (by omega) ⟨i+1,a7,a8,true,t,rfl,rfl,.inr (by omega),a6,ag,N.trans I.mod,u,λ_=>rfl,λh=>by cases h⟩
end
end Go.Lf.G
