/-
 Contract: a client's request (chapter 19).
-/
import Derived.Test.YtgpmoonnachoaaaGreatDoorLfZ28ToE13
import Derived.Test.YtgpmoonnachoaaaGreatDoorLfKToGA
import Derived.Test.YtgpmoonnachoaaaGreatDoorLfZ11ToU32
set_option maxRecDepth 100000
set_option linter.unusedVariables false
set_option linter.unusedSimpArgs false
open Go.IntKind renaming i64→J9,wrap→J8
open Go.Value renaming string→J7,int→J6,pointer→J5,slice→J4,bool→J3,tuple→J1
open Go.Obj renaming cells→J2
open Go renaming Value→J0,Addr→Q6,TypeId→Q7,FuncId→Q8,Program→Q1
open Go.Addr renaming add→Q9,mk→Q5
namespace Go.Lf.G
open Go
open M (Sorted Af CY BA Ag Au BV Ai bB BH aP BF)
structure Hs.dh (y y':Hs):Prop where
 p:y'.p=y.p
 name:y'.name=y.name
 f:y'.f=y.f
 u: ∀m,y.u m<=y'.u m/\y'.u m<=y.u m+3
theorem bo.less {g:aa}{O O':Nat->Prop}{c:Nat}(h:bo g O' c)(b: ∀c,O c->O' c):bo g O c:=⟨h.1,λd=>h.2 (b c d)⟩
theorem XB(wid:A2Q){n:Nat}(h:1<=n):Ap wid n<n:=CA _ h
section
variable {A : aq} {B : cH} {g h : aa} {s a N sh : Nat} {l : List Hs} {mp : List Pr} {O : Nat -> Prop} {i : Nat} {y : Hs} {fl : cu} {an : cK} {R : A2P}
def pI(b:br):Option (List Ev)->Prop
 |none=>b.bW=0
 |some l=>b.ct=(Bw l).status/\b.bW=(Bw l).next/\b.kept=false/\0<b.bW
theorem ARo {b:Option (List Ev)}{wid:A2Q}{n:Nat}{now:Int}(h: ∀l,b=some l->Rv l):(0<=(Bv b wid n now).ct/\(Bv b wid n now).ct<=4)/\(0<=(Bv b wid n now).bW/\(Bv b wid n now).bW<=501)/\pI (Bv b wid n now) b:=by
 cases b with
 |none=>exact⟨⟨(by decide:(0:Int)<=0),(by decide:(0:Int)<=4)⟩,⟨(by decide:(0:Int)<=0),(by decide:(0:Int)<=501)⟩,rfl⟩
 |some l=>
  have c:=h l rfl;have st:=c.st;have nx:=c.next.1;have d:=c.len;exact⟨st,⟨by show 0<=(Bw l).next;omega,by show(Bw l).next<=501;omega⟩,rfl,rfl,rfl,by show 0<(Bw l).next;omega⟩
theorem AKW {b c:br}{e d f:Nat}(G:b.grown c e d f)(h:b.more= []):c.more.length<=d:=by have:=G.more;rw[h] at this;simpa using this
theorem AM3 {x:cq}{p:cj}{cX:J0}{now:Int}(cY:bY g)(ac:LW B g h s a N sh l mp O)(ah:l[i]? =some y)(aj:Jg mp fl an)(V:View QP h x.steps p.steps)(a3:x.az=p.az)(len:p.steps.length<=1099511627776)
  (d4: -4611686018427300000<=now/\now<=4611686018427300000) (ch: ∀n,y.f n<=2147483647) (ci: ∀n,y.u n+3<16777216) (d5:N+3<=1000000) (hA:4+3*a<=B.A) (cZ:64*a+64<=B.C) (c0:a+1<=1000000)
  (aM: ∀f e st nx,Ob fl an (y.f (Ap x.wid sh)) x p=some (e,st,nx)->Ext h f->R (dR e st nx).v f)
  (c1: ∀f C aV r u,Ob fl an (y.f (Ap x.wid sh)) x p=none->y.dh C->(BB (F3 x p (Bv (fl x.wid) x.wid (Ap x.wid sh) now) aV) r u).err≠0->LW B g f s a (N+3) sh (l.set i C) mp O->Mod (bo g O) h f->R (dR (BB (F3 x p (Bv (fl x.wid) x.wid (Ap x.wid sh) now) aV) r u).err 0 0).v f)
  (c2: ∀f C,Ob fl an (y.f (Ap x.wid sh)) x p=none->y.dh C->Bf mp (FZ (Ap x.wid sh) (y.f (Ap x.wid sh)) y.name)=false->LW B g f s a (N+3) sh (l.set i (C.lost (Ap x.wid sh))) mp O->Mod (bo g O) h f->R (dR 170 0 0).v f)
  (c3: ∀f C aV r u D,D=BB (F3 x p (Bv (fl x.wid) x.wid (Ap x.wid sh) now) aV) r u->Ob fl an (y.f (Ap x.wid sh)) x p=none->y.dh C->(EH (F3 x p (Bv (fl x.wid) x.wid (Ap x.wid sh) now) aV)=true->dS y C (Ap x.wid sh) r)->D.err=0->LW B g f s (a+1) (N+3) sh (l.set i C) (cz mp (EA D++D.ar)) O->
   Jg (cz mp (EA D++D.ar)) (du fl x.wid ((fl x.wid).getD []++D.more)) (du an x.bA (Lu x p,D.st.status,D.st.next))->Bw ((fl x.wid).getD []++D.more)=D.st->(∀ n bv ck,Bf (cz mp (EA D++D.ar)) (FZ n bv ck)=Bf mp (FZ n bv ck))->Mod (bo g O) h f->R (dR 0 D.st.status D.st.next).v f):
  AA A P Dg #[Ar y.p,cX,J6 J9 now,x.v] h R:=by
 obtain⟨-,cl,c4⟩:=ac.eG ah;have cm:=(List.getElem?_eq_some_iff.1 ah).1;have dc:l.set i y=l:=by rw[<- (List.getElem?_eq_some_iff.1 ah).2];exact P3 cm
 have d6:=XB x.wid cl;refine Zn ?_;unfold Sn;refine al.mk λak _ am bw d7=>al.mk λaw _ a4 cn d8=>?_
 have ad:Ext h aw:=bw.trans cn;have am:aw[h.size]? =some (J2 x.c MU (0,0)):=cn.ah am λh=>h
 have d9:=Ah a4;have aN: ∀ {U:aa} (e st nx:Int),Ext aw U->(∀ f,Ext h f->R (dR e st nx).v f)->aE U ⟨ak.size,0,none⟩ (dR e st nx).l λa5=>Dr a5 ⟨ak.size,0,none⟩ λc5=>R (c5.v) a5:=λ{U} e st nx I c6=>
  Zy (I.ah a4 λh=>h) λf bx=>c6 f ((ad.trans I).more bx λc d=>by subst d;exact bw.size)
 refine ai.mk λK c7=>?_
 have co: ∀a6:Bool,(a6=true↔x.kind<1\/4<x.kind)->K (a6,()) aw:=λa6 cp=>by
  refine c7 _ _ (af.intro (λk=>aN 1 0 0 Mod.refl λf I=>aM f 1 0 0 (by unfold Ob;rw[if_pos (cp.1 k)]) I) (λk=>?_));have k:a6=false:=k;have bz: ¬(x.kind<1\/4<x.kind):=λh=>by rw[cp.2 h] at k;cases k
  have cr:1<=x.kind/\x.kind<=4:=by omega
  refine oA.mk x (Cr am rfl) (ANR (V.ext ad) a3 len cr λea aW=>⟨_,_,rfl,?_⟩);by_cases ae:PM x p=0;rotate_left
  ·refine af.yes (by simp[ae]) (aN (PM x p) 0 0 aW λf I=>aM f _ 0 0 (by unfold Ob;rw[if_neg bz,if_pos ae]) I)
  rw[if_pos ae];refine af.no (by simp[ae]) (af.no rfl ?_);obtain⟨bA,c8,ax,aX⟩:=Za ae;have eb:=FE ax;have ec:=FE aX;have dl:=APU ae cr;have bB:=ac.on (ad.trans aW);have bD:=aW.ah am λh=>h
  refine AJ.mk (n:=x.wid) (AB bD rfl) (bB.aH ah ⟨_,rfl,⟨AB bD rfl,OG (by omega) cl c4 ⟨_,_,rfl,bB.holds ah ⟨_,rfl,?_⟩⟩⟩⟩);refine af.intro (λk=>aN 170 0 0 aW λf I=>aM f 170 0 0 (by unfold Ob;rw[if_neg bz,if_neg (by simp[ae]),if_pos (by simpa using k)]) I) (λk=>?_);have bE:y.f (Ap x.wid sh)≠0:=by simpa using k
  have q:Ob fl an (y.f (Ap x.wid sh)) x p=match an x.bA with
    |some F=>if F.1≠Lu x p then some (184,0,0) else some (0,F.2.1,F.2.2)
    |none=>match fl x.wid with
     |none=>if x.kind=1 then none else some (180,0,0)
     |some l=>if x.kind=1 then some (181,0,0) else if(Bw l).status≠0 then some (182,0,0) else none:=by
   unfold Ob;rw[if_neg bz,if_neg (by simp[ae]),if_neg bE];try rfl
  refine AJ.mk (n:=x.bA) (AB bD rfl) (AIE bB ah aj aX λed c9=>?_);have a7:=aW.trans c9;cases bF:an x.bA with
  |some F=>
   rw[bF] at q;refine⟨_,EC.mk (dR 0 F.2.1 F.2.2) ⟨_,_,rfl,al.mk λa5 _ bG bH da=>aE.mk bG (A0 9) λbI bJ bK db=>af.no rfl ?_⟩⟩;rw[Ky] at bJ;have ay:Ext aw bI:=(a7.trans bH).more bK λc d=>by subst d;exact a7.size
   refine ai.mk λdd bL=>af.yes rfl (bL _ _ ?_)
   rw[CU];refine af.intro (λk=>aN 184 0 0 ay λf I=>aM f 184 0 0 (by
    have k: ¬(AX F.1=AX (Lu x p)):=by simpa using k
    rw[q];show(if F.1≠Lu x p then _ else _)=_;rw[if_pos λh=>k (by rw[h])]) I) (λk=>af.yes rfl (Dr.mk (dR 0 F.2.1 F.2.2) (Kj bJ) (aN 0 F.2.1 F.2.2 ay λf I=>aM f 0 F.2.1 F.2.2 (by
    have k:AX F.1=AX (Lu x p):=by simpa using k
    rw[q];show(if F.1≠Lu x p then _ else _)=_;rw[if_neg (by rw[Mi.1 k];simp)]) I)))
  |none=>
   rw[bF] at q;refine⟨_,EC.mk bj.z ⟨_,_,rfl,al.mk λa5 _ bG bH da=>aE.mk bG (A0 9) λbI bJ bK db=>af.no rfl ?_⟩⟩;have ay:Ext aw bI:=(a7.trans bH).more bK λc d=>by subst d;exact a7.size
   refine ai.mk λdd bL=>af.no rfl (bL _ _ (af.no rfl (af.no rfl ?_)))
   have de:=ac.on (ad.trans ay);refine AJ.mk (n:=x.wid) (AB (ay.ah am λh=>h) rfl) (sP de ah aj (λh=>by rw[ax] at h;cases h) λ_ aY cs=>SS.mk _ ⟨_,rfl,al.mk λee _ df dg ef=>aE.mk df (A0 18) λbM az di eg=>?_⟩);rw[ZY] at az;have ct:Ext aY bM:=dg.more di λc d=>by subst d;exact A0 _
   have aA:Ext aw bM:=(ay.trans cs).trans ct;have eh:=(ay.trans cs).size;have a8:=aA.ah am λh=>h
   refine ai.mk λcu cv=>?_
   have bN: ∀(e:Int),e≠0->Ob fl an (y.f (Ap x.wid sh)) x p=some (e,0,0)->cu (e,()) bM:=λe J d=>
    cv _ _ (af.yes (by simp[J]) (aN e 0 0 aA λf I=>aM f e 0 0 d I))
   have cw: ∀l,fl x.wid=some l->Rv l:=λl aC=>aj.dG _ _ aC
   obtain⟨aZ,bO,bP,cx,bQ,cy,cB,dj⟩:=AJd (wid:=x.wid) (n:=Ap x.wid sh) (now:=now) cw;obtain⟨ei,dk,aO⟩:=ARo (wid:=x.wid) (n:=Ap x.wid sh) (now:=now) cw;have go: ∀ {U:aa} {es:Sl} {a' b' c':Sl},Ob fl an (y.f (Ap x.wid sh)) x p=none->Ext h U->U[h.size]? =some (J2 x.c MU (0,0))->U[ak.size]? =some (J2 bj.z.c Ae (0,0))->
     (∃ fv:bS,U[aY.size]? =some (J2 fv.c Cv (0,0))/\fv=⟨x.wid,(Ap x.wid sh:Int),⟨(Bv (fl x.wid) x.wid (Ap x.wid sh) now).ct,(Bv (fl x.wid) x.wid (Ap x.wid sh) now).bW,false⟩,es,(Bv (fl x.wid) x.wid (Ap x.wid sh) now).st.V a' b' c'⟩)->
     JI U (Bv (fl x.wid) x.wid (Ap x.wid sh) now).st a' b' c'->(∀ c,a'.ah=some c\/b'.ah=some c\/c'.ah=some c->aY.size<c)->(∀ a9:br,a9=Hy x.wid (Ap x.wid sh) (Bv (fl x.wid) x.wid (Ap x.wid sh) now).ct (Bv (fl x.wid) x.wid (Ap x.wid sh) now).bW false (Bv (fl x.wid) x.wid (Ap x.wid sh) now).st now->a9=Bv (fl x.wid) x.wid (Ap x.wid sh) now)->
     cu (0,()) U:=λ{U es a' b' c'} dm bR dn dp a0 ba fr bT=>by
    have bT:=bT _ rfl;have bb:=dm;generalize ej:Bv (fl x.wid) x.wid (Ap x.wid sh) now=b at*
    obtain⟨fv,a0,rfl⟩:=a0;refine cv _ _ (af.no rfl (F7.mk _ (OX a0) ?_));have ek:=Ah a0
    let Q:Nat->Prop:=λc=>O c\/c=h.size\/c=ak.size\/c=aY.size
    have cC: ∀c,Tm b.st a' b' c' c->aY.size<c:=λc d=>fr c (by
     rcases d with⟨_,h⟩|⟨_,h⟩|⟨_,h⟩
     ·exact .inl h
     ·exact .inr (.inl h)
     ·exact .inr (.inr h))
    have el:=bw.size;have cD: ∀c,O c->c<h.size:=λc d=>(ac.out d).1
    have dq:LW B g U s a N sh (l.set i y) mp (λc=>Q c\/Tm b.st a' b' c' c):=by
     rw[dc];refine ac.own bR.mod λc d=>?_
     rcases d with(h|h|h|h)|h
     ·exact .inl h
     ·exact .inr (by omega)
     ·exact .inr (by omega)
     ·exact .inr (by omega)
     ·exact .inr ⟨by have:=cC c h;omega,ba.lt h⟩
    refine ua (O:=Q) (now:=now) dq cm ba (λc d S=>?_) λaD bc z cE aP Y=>⟨_,rfl,?_⟩
    ·have:=cC c d;rcases S with h|h|h|h
     ·have:=cD c h;omega
     ·omega
     ·omega
     ·omega
    rw[bT] at aP;have bU: ∀ {c:Nat} {w:aa} {o:Obj},w[c]? =some o-> ∀ {T:aa},Q c->Mod (bo g Q) w T->T[c]? =some o:=λ{c w o} bV {T} S m=>m.ah bV λbW=>bW.2 S
    have cF:Q h.size:= .inr (.inl rfl);have bd:Q ak.size:= .inr (.inr (.inl rfl));have aQ:=Y.ah dn λh=>h
    have dr:=Y.ah dp λh=>h
    have ds: ∀e∈b.more,Ej e=true/\e.data.size<1099511627776:=λe J=>by rw[bO] at J;cases J
    refine AC.mk (n:=x.kind) (AO aQ rfl) (ai.mk λcG dt=>?_);have bX: ∀ {L:aa} {z':Nat->Nat} {hU:eF} {C:Hs} (num:Nat),CW B g L s a (N+1) sh l i C mp Q bc z' hU (DI x p b num)->y.dk C->Mod (bo g Q) aD L->cG () L:=λ{L z' hU C} num aR M bZ=>by
     have G:=ANB (num:=num) ae ds aZ;have dv:=AKW G bO;have b0:=G.ar;rw[bP] at b0;have nx:=G.st.next;have dw:=bU aQ cF bZ;have dx:=bU dr bd bZ;refine dt _ _ (ARD aR nx λaF aG=>EC.mk (dR 0 (Dh (DI x p b num)).1 (Dh (DI x p b num)).2) ⟨rfl,al.mk λdy _ dz b1 en=>aE.mk dz (A0 9) λb2 ao dA eo=>?_⟩);rw[Ky] at ao;have be:Ext L b2:=(aG.trans b1).more dA λc d=>by subst d;exact aG.size
     have bf:=aG.size;have ep:=Ah ao
     let aH:Nat->Prop:=λc=>Q c\/c=aF.size
     have dB:CW B g b2 s a (N+1) sh l i C mp aH bc z' hU (DI x p b num):=aR.wider (O':=aH) be.mod λc d=>d.imp id λh=>by omega
     have cH:0<=(Dh (DI x p b num)).1/\(Dh (DI x p b num)).1<=4:=G.st.st;have cI:0<=(Dh (DI x p b num)).2/\(Dh (DI x p b num)).2<=502:=by unfold Dh;dsimp only;split<;>omega
     have b3:=Fe (n:=(Dh (DI x p b num)).1.toNat) (by omega);have eq:=Fe (n:=(Dh (DI x p b num)).2.toNat) (by omega);have er:=AV (n:=(Lu x p).length) (by omega);have et:(BU (Lu x p)).length<=2010:=by unfold BU;rw[A1];omega
     refine AJ.mk (n:=x.bA) (AB (be.ah dw λh=>h) rfl) (AC.mk (n:=(Dh (DI x p b num)).1) (AB ao rfl) (AC.mk (n:=(Dh (DI x p b num)).2) (AB ao rfl) (tY (by omega) ⟨_,rfl,AB ao rfl,AB ao rfl,Qy (l:=Lu x p) (by omega) λeu cJ=>⟨_,rfl,?_⟩⟩)));have b4:=cJ.ah ao λh=>h
     refine⟨AB b4 rfl,AB b4 rfl,?_⟩;rw[Od (by omega) (by omega)];refine Cc (by omega) λev cK=>⟨_,rfl,?_⟩
     rw[Aj];have dC:=cK.ah b4 λh=>h
     refine⟨AB dC rfl,by rw[AP,AP,max_i64];omega,?_⟩;rw[Od (by omega) (by omega)];refine Cc (by omega) λew dE=>⟨_,rfl,⟨by rw[AP,AP,A1,max_i64];omega,?_⟩⟩
     rw[Aj,A3];have bg:=(cJ.trans cK).trans dE;have dF:=dB.on bg;refine ANy (key:=Kb x.bA) (val:=iN (Lu x p) (Dh (DI x p b num)).1.toNat (Dh (DI x p b num)).2.toNat) dF (by rw[G.conds,cx];decide) (by simp at b0;omega) λb5 ex ey cL b6=>⟨rfl,?_⟩
     have bh: ∀ {c:Nat} {w:aa} {o:Obj},w[c]? =some o-> ∀ {T:aa},aH c->Mod (bo g aH) w T->T[c]? =some o:=λ{c w o} bV {T} S m=>m.ah bV λbW=>bW.2 S
     have cM:aH aF.size:= .inr rfl;have dG:=bh (bg.ah ao λh=>h) cM b6;have dH:=bh (bg.ah (be.ah dx λh=>h) λh=>h) (.inl bd) b6;have dI:oh (DI x p b num) (Kb x.bA) (iN (Lu x p) (Dh (DI x p b num)).1.toNat (Dh (DI x p b num)).2.toNat)=F3 x p b num:=rfl;rw[dI] at cL;have ap:(F3 x p b num).conds= [⟨Kb x.bA,⟨#[]⟩,true⟩]:=by show(DI x p b num).conds++_=_;rw[G.conds,cx];rfl
     have aI:(F3 x p b num).ao=Ap x.wid sh:=G.ao.trans cy;have b7:(F3 x p b num).wid=x.wid:=G.wid.trans bQ;have ez:(F3 x p b num).ar.length<=2:=by show((DI x p b num).ar++ [_]).length<=2;rw[A1,Cd];simp at b0;omega
     have fin: ∀ {w:aa},Mod (bo g aH) b5 w->w[ak.size]? =some (J2 bj.z.c Ae (0,0))/\Mod (bo g O) h w:=λ{w} m=>⟨bh dH (.inl bd) m,by
      have bi:Mod (bo g O) h aD:=(bR.trans Y).mod;have dJ:Mod (bo g O) aD L:=bZ.aj λc _ d=>bo.less d λc S=> .inl S
      have dK:Mod (bo g O) b2 b5:=bg.mod.trans (b6.aj λc _ d=>bo.less d λc S=> .inl (.inl S));have dL:Mod (bo g O) b5 w:=m.aj λc _ d=>bo.less d λc S=> .inl (.inl S)
      exact(((bi.trans dJ).trans be.mod).trans dK).trans dL⟩
     have b8: ∀ {w T:aa} {bi cN:Nat} {b3:List Hs} {cO:List Pr},LW B g w s bi cN sh b3 cO aH->Mod (· =ak.size) w T->LW B g T s bi cN sh b3 cO O:=λdM m=>dM.own (m.aj λc _ d=>by subst d;exact .inl bd) λc d=> .inl (.inl (.inl d))
     have b9: ∀ {w T:aa},Mod (bo g O) h w->Mod (· =ak.size) w T->Mod (bo g O) h T:=λm bx=>m.trans (bx.aj λc _ d=>by
      subst d;have:=ac.ext.size;exact⟨by omega,λS=>by have:=cD _ S;omega⟩)
     have dh: ∀ {Z:Hs},C.di Z->y.dh Z:=λ{Z} W=>⟨W.p.trans M.p,W.name.trans M.name,W.f.trans M.f,λm=>by have:=M.u m;have:=W.u m;omega⟩
     have dN:FZ (F3 x p b num).ao (C.f (F3 x p b num).ao) C.name=FZ (Ap x.wid sh) (y.f (Ap x.wid sh)) y.name:=by rw[aI,M.f,M.name]
     have dO:bC (F3 x p b num)=bC b:=by show bC (DI x p b num)=_;unfold bC;rw[G.bW,G.ct,G.kept,G.wid]
     have dP:Bf mp (bC (F3 x p b num))=true:=by
      rw[dO];refine sX aj (by rw[bQ];exact ax) ?_;rw[bQ];unfold pI at aO;split at aO
      ·rename_i E;first|exact aO|(rw[E];exact aO)
      ·rename_i E;first|exact aO|(rw[E];exact aO)
     have cP:Dc (F3 x p b num).st (500+1):=G.st;have cQ: ∀e∈(F3 x p b num).more,Ej e=true/\e.data.size<1099511627776:=G.ok;refine ug cY cL cP (by omega) (by rw[b7];exact ax) cQ (by rw[aI];omega) (by rw[aI,M.f];exact ch _) (by have:=M.u (F3 x p b num).ao;have:=ci (F3 x p b num).ao;omega) (by omega) hA cZ c0 (by show(DI x p b num).more.length<=_;omega) (by omega) (by rw[ap];simp) (λH k=>by
       rw[ap] at k;rw[List.mem_singleton.1 k];show(Kb x.bA).size<=_;rw[VN];omega) (by show 0<=(DI x p b num).ct/\(DI x p b num).ct<128;rw[G.ct];omega) (by show 0<=(DI x p b num).bW/\(DI x p b num).bW<=501;rw[G.bW];exact dk) (by show -_<=(DI x p b num).now/\(DI x p b num).now<=_;rw[G.now,cB];omega)
      (λdQ=>absurd dQ (by rw[aI,M.f];exact bE)) (λr u Z ca W J aJ aK=>⟨_,rfl,?_⟩) (λr u Z ca W J aC aJ aK=>⟨_,rfl,?_⟩) (λr u Z ca W J aC hd aJ aK=>?_) (λr u Z ca W dT J aC hd aJ aK=>⟨_,rfl,?_⟩)
     ·obtain⟨aS,aT⟩:=fin aK;refine af.yes (by simpa using J) (Zy (x:=dR (BB (F3 x p b num) r u).err 0 0) aS λa1 aq=>?_);exact c1 a1 Z num r u bb (dh W) J (b8 aJ aq) (b9 aT aq)
     ·obtain⟨aS,aT⟩:=fin aK;rw[dN] at aC;refine af.yes rfl (Zy (x:=dR 170 0 0) aS λa1 aq=>?_);rw[aI] at aJ;exact c2 a1 Z bb (dh W) aC (b8 aJ aq) (b9 aT aq)
     all_goals
      have X:=UV (n:=500+1) cQ cP r u;have cb:(BB (F3 x p b num) r u).beside (some (x.bA,(Lu x p,(Dh (DI x p b num)).1,(Dh (DI x p b num)).2))):=by have vc:=(th J).2;have:=X.st.next;refine YF (AIZ (x:=(Lu x p,(Dh (DI x p b num)).1,(Dh (DI x p b num)).2)) (AKN bP) aX cH ?_ dl) r u;have dU:(Dh (F3 x p b num)).2=(Dh (DI x p b num)).2:=rfl;rw[dU] at vc;exact⟨cI.1,by show(Dh (DI x p b num)).2<=501;omega⟩
      have mem:YU x.bA (Lu x p,(Dh (DI x p b num)).1,(Dh (DI x p b num)).2)∈(BB (F3 x p b num) r u).ar:=AMd (HJ _ (by simp[YU])) r u
     ·exfalso;refine hd (ta (by rw[X.wid,b7];exact ax) X.ok X.st cb ?_ (λh=>?_) ?_ λc d=>?_)
      ·have aS:=X.more;have aT:=X.ar;have eA:(F3 x p b num).more.length<=1:=dv;omega
      ·rw[TX] at h;rw[h.2] at mem;cases mem
      ·rw[ap];simp
      ·rw[ap] at d;rcases List.mem_cons.1 d with rfl|d
       ·exact aC
       ·rcases List.mem_append.1 d with d|d
        ·rw[List.mem_singleton.1 d];exact AMx aj aX bF
        ·rw[List.mem_singleton.1 d];exact dP
     ·obtain⟨aS,aT⟩:=fin aK;obtain⟨bk,bm⟩:=th J;have bk:(BB (F3 x p b num) r u).st.status=(Dh (DI x p b num)).1:=bk;have bm:(BB (F3 x p b num) r u).st.next=(Dh (DI x p b num)).2:=bm;have dV:=bh dG cM aK;refine af.no rfl (Dr.mk (dR 0 (Dh (DI x p b num)).1 (Dh (DI x p b num)).2) (Kj dV) (Zy aS λa1 aq=>?_));rw[<- bk,<-bm];have cR:(BB (F3 x p b num) r u).fits ((fl x.wid).getD []):=sU (AP5 dj);have bn:(BB (F3 x p b num) r u).wid=x.wid:=X.wid.trans b7;have cS:(fl x.wid).getD []++(BB (F3 x p b num) r u).more≠ []:=by
       intro h;rw[TX] at h;have bp:x.kind=1:=by
        cases E:fl x.wid with
        |some l=>
         rw[E] at h;exact absurd h.1 (aj.dG _ _ E).ne
        |none=>
         rw[E] at q;rw[bb] at q;by_cases bp:x.kind=1
         ·exact bp
         ·have q:(none:Option (Int×Int×Int))=if x.kind=1 then none else some (180,0,0):=q;rw[if_neg bp] at q;cases q
       have ar:(F3 x p b num).err=0:=AOq (VP J);have ar:(DI x p b num).err=0:=ar;refine X.none (λag=>?_) h.2;have ag:(DI x p b num).more= []:=ag;unfold DI at ag ar;rw[if_pos bp] at ag ar;split at ag
       ·rename_i cc;rw[if_pos cc] at ar;rw[(Gy _ _ _ _).2,(pH (Xi ar)).1] at ag;simp at ag
       ·rename_i cc;rw[if_neg cc] at ar;rw[(pH ar).1] at ag;simp at ag
      have a2:=aj.done ac.sorted (D:=BB (F3 x p b num) r u) (o:=some (x.bA,(Lu x p,(Dh (DI x p b num)).1,(Dh (DI x p b num)).2))) (by rw[bn];exact ax) (by rw[bn];exact cR) (by rw[bn];exact cS) X.st cb (λbv eB cd=>by
       cases cd;have:=X.st.next;exact⟨mem,aX,cH,⟨cI.1,by show(Dh (DI x p b num)).2<=501;omega⟩,dl⟩)
      rw[bn] at a2;have a2:Jg _ _ (du an x.bA (Lu x p,(Dh (DI x p b num)).1,(Dh (DI x p b num)).2)):=a2;rw[<- bk,<-bm] at a2;exact c3 a1 Z num r u _ rfl bb (dh W) (λcd=>by
       obtain⟨v,v1,v2,cT⟩:=dT cd (by rw[aI,M.f];exact bE);rw[aI] at v1 v2 cT;exact⟨v,by have:=M.u (Ap x.wid sh);omega,v2,by rw[cT,M.f]⟩) J (b8 aJ aq) a2 (ZT cR cS X.st).2 (tc ac.sorted cb) (b9 aT aq)
    have dW:CW B g aD s a (N+1) sh l i y mp Q bc z cE b:=aP.put (by omega) (by omega) (by omega);have bq: ∀ {L z' hU} (e:Ev) (D:br),D=Dn b e->CW B g L s a N sh l i y mp Q bc z' hU D->Mod (bo g Q) aD L->(∀ num,DI x p b num=D)->cG () L:=λ{L z' hU} e D eC aR aU d=>bX (z':=z') (hU:=hU) 0 (by rw[d];exact aR.put (by omega) (by omega) (by omega)) (Hs.dk.refl y) aU
    have cU:(⟨#[]⟩:A2Q).size<1099511627776:=by decide
    have bs:b.more.length<1000:=by rw[bO];decide
    refine af.intro (λj=>?_) (λj=>?_)
    ·have j:x.kind=1:=by simpa using j
     refine AZ.mk (s:=x.steps) (AB aQ rfl) (AC.mk (n:=x.az) (Cj (by exact aQ) rfl) ?_);rw[a3];refine u6 (V.ext (bR.trans Y)) len λL bt=>?_
     have aR:=aP.on bt;unfold X0;rw[bA j];have eD:=RO (bA j);refine⟨_,_,rfl,ZF (e:=dD 1 (AX (Ci p))) aR aZ (by omega) (by show(AX (Ci p)).size<_;rw[AP];omega) bs λaF bf aG au aL=>⟨rfl,?_⟩⟩;have ce:Mod (bo g Q) aD aF:=bt.mod.trans aL;have cV:=bU aQ cF ce;refine AC.mk (n:=x.az) (Cj (by exact cV) rfl) ?_;rw[a3];refine af.intro (λk=>?_) (λk=>?_)
     ·have k:0<p.az:=by simpa using k
      have eE:=(xI (bA j)).2.1;refine AC.mk (n:=x.az) (Cj (by exact cV) rfl) ?_;rw[a3,wrap_i64 (by omega) (by omega)];have dX:(Dn b (dD 1 (AX (Ci p)))).ao=Ap x.wid sh:=(OL _ _).2.1.trans cy;refine qd (t:=⟨6,⟨#[]⟩,0,0⟩) au (by rw[dX];omega) (ch _) (by have:=ci (Dn b (dD 1 (AX (Ci p)))).ao;omega) (by omega) (by omega) (by rw[sV,bP];decide) (by omega) λdy dY b1 C num dZ M _ d0=>⟨rfl,?_⟩
      refine bX (z':=dY) (hU:=b1) num ?_ M (ce.trans d0);have ap:DI x p b num=Du (Dn b (dD 1 (AX (Ci p)))) ⟨6,0,0⟩ (if(0:Int)>now+p.az then 0 else now+p.az) num:=by unfold DI tf;rw[if_pos j,if_pos k,cB]
      rw[ap];exact dZ
     ·have k: ¬0<p.az:=by simpa using k
      exact bq (dD 1 (AX (Ci p))) _ rfl au ce λnum=>by unfold DI;rw[if_pos j,if_neg k]
    have j:x.kind≠1:=by simpa using j
    refine af.intro (λab=>?_) (λab=>?_)
    ·have ab:x.kind=2:=by simpa using ab
     refine AJ.mk (n:=x.name) (AB aQ rfl) (ZF (e:=dD 12 x.name) aP aZ (by omega) (by have:=FE (c8 ab);show x.name.size<_;omega) bs λaF bf aG au aL=>⟨rfl,?_⟩);exact bq (dD 12 x.name) _ rfl au aL λnum=>by unfold DI;rw[if_neg j,if_pos ab]
    have ab:x.kind≠2:=by simpa using ab
    refine af.intro (λav=>?_) (λav=>?_)
    ·have av:x.kind=3:=by simpa using av
     have d1:=Y.ah a0 λh=>h
     refine Ac.mk (n:=b.st.cancel) (Cj (by exact d1) rfl) (af.intro (λd=>?_) (λd=>?_))
     ·have d: ¬b.st.cancel=true:=by simpa using d
      refine ZF (e:=dD 13 ⟨#[]⟩) aP aZ (by omega) cU bs λaF bf aG au aL=>⟨rfl,?_⟩
      exact bq (dD 13 ⟨#[]⟩) _ rfl au aL λnum=>by unfold DI;rw[if_neg j,if_neg ab,if_pos av,if_neg d]
     ·have d:b.st.cancel=true:=by simpa using d
      refine bX (z':=z) (hU:=cE) 0 ?_ (Hs.dk.refl y) Mod.refl;have ap:DI x p b 0=b:=by unfold DI;rw[if_neg j,if_neg ab,if_pos av,if_pos d]
      rw[ap];exact dW
    have av:x.kind≠3:=by simpa using av
    refine af.yes (by simp;omega) (ZF (e:=dD 18 ⟨#[]⟩) aP aZ (by omega) cU bs λaF bf aG au aL=>⟨rfl,?_⟩);exact bq (dD 18 ⟨#[]⟩) _ rfl au aL λnum=>by unfold DI;rw[if_neg j,if_neg ab,if_neg av]
   refine AC.mk (n:=x.kind) (AO a8 rfl) ?_;cases E:fl x.wid with
   |none=>
    rw[E] at q az;refine af.intro (λj=>?_) (λj=>?_)
    ·have j:x.kind=1:=by simpa using j
     have q:Ob fl an (y.f (Ap x.wid sh)) x p=if x.kind=1 then none else some (180,0,0):=q;rw[if_pos j] at q;refine af.no rfl (af.yes rfl (go (es:=Zf) (a':=Zf) (b':=Zf) (c':=Zf) q (ad.trans aA) a8 (aA.ah a4 λh=>h) ⟨_,az,by rw[E];rfl⟩ ?_ (λc d=>by simp[Sl.ah] at d) (λa9 cf=>by rw[cf,E];rfl)));rw[E];exact⟨View.nil,View.nil,View.nil⟩
    ·have j:x.kind≠1:=by simpa using j
     have q:Ob fl an (y.f (Ap x.wid sh)) x p=if x.kind=1 then none else some (180,0,0):=q;rw[if_neg j] at q;exact ai.mk λd2 cg=>af.no rfl (cg _ _ (af.no rfl (af.no rfl (bN 180 (by decide) q))))
   |some bu=>
    rw[E] at q az;have q:Ob fl an (y.f (Ap x.wid sh)) x p=if x.kind=1 then some (181,0,0) else if(Bw bu).status≠0 then some (182,0,0) else none:=q;refine af.intro (λj=>?_) (λj=>?_)
    ·have j:x.kind=1:=by simpa using j
     rw[if_pos j] at q;exact af.yes rfl (bN 181 (by decide) q)
    have j:x.kind≠1:=by simpa using j
    rw[if_neg j] at q;refine ai.mk λd2 cg=>af.yes rfl (AC.mk (n:=(Bw bu).status) (Ce (by exact az) rfl) (cg _ _ (af.intro (λH=>?_) (λH=>?_))))
    ·have H:(Bw bu).status≠0:=by simpa using H
     rw[if_pos H] at q;exact bN 182 (by decide) q
    have H:(Bw bu).status=0:=by simpa using H
    rw[if_neg (by simp[H])] at q;have d3:=ac.on (ad.trans aA);refine af.yes rfl (AJ.mk (n:=x.wid) (AB a8 rfl) (sR d3 ah aj ax E λaD es a' b' c' Y eG ba fr eH=>SS.mk _ ⟨_,rfl,aE.mk (Y.ah az λh=>h) (A0 18) λL cW aU eI=>?_⟩));rw[ZY] at cW;have eJ:=ct.size;have eK:=Ah az;have bt:Ext h L:=((ad.trans aA).trans Y).more aU λc d=>by subst d;have:=ad.size;omega
    refine go q bt (aU.ah (Y.ah a8 λh=>h) (by have:=ad.size;omega)) (aU.ah (Y.ah (aA.ah a4 λh=>h) λh=>h) (by omega)) ⟨_,cW,by rw[E];rfl⟩ ?_ (λc d=>by have:=fr c d;omega) (λa9 cf=>by rw[cf,E];rfl);rw[E];exact ba.fresh aU fr λc d=>by subst d;omega
 refine AC.mk (n:=x.kind) (AO am rfl) (af.intro (λH=>co true ?_) (λH=>AC.mk (n:=x.kind) (AO am rfl) (co _ ?_)))
 ·have H:x.kind<1:=by simpa using H
  simp[H]
 ·have H: ¬x.kind<1:=by simpa using H
  simp[H]
end
section
variable {x x' : cq} {p p' : cj}
end
section
variable {A : aq} {h : aa} {R : A2P}
end
def Uj:cH:=⟨32000,0,1600,by decide,by decide,by decide⟩
structure EW (g h:aa) (s k sh:Nat) (l:List Hs) (mp:List Pr) (fl:cu) (an:cK) (O:Nat->Prop):Prop where
 w:LW Uj g h s k (3*k) sh l mp O
 m:Jg mp fl an
 all: ∀y∈l,∀n,y.u n<=3*k/\y.f n<=k
def iI(mp:List Pr)(y:Hs)(a:Nat):Prop:=y.f a≠0/\Bf mp (FZ a (y.f a) y.name)=true
def pJ(fl:cu)(an:cK)(f:Nat)(x:cq)(p:cj)(j:Int)(b st nx:Int)(m:cu)(n:cK):Prop:=
 (m=fl/\n=an/\(Ob fl an 1 x p=some (b,st,nx)\/(Ob fl an 1 x p=none/\b≠0/\st=0/\nx=0/\ ∃c d e,b=(BB (F3 x p (Bv (fl x.wid) x.wid f j) c) d e).err)))\/
 (Ob fl an 1 x p=none/\b=0/\ ∃c d e a,a=BB (F3 x p (Bv (fl x.wid) x.wid f j) c) d e/\a.err=0/\m=du fl x.wid ((fl x.wid).getD []++a.more)/\n=du an x.bA (Lu x p,a.st.status,a.st.next)/\st=a.st.status/\nx=a.st.next/\Bw ((fl x.wid).getD []++a.more)=a.st)
def ASe(mp c:List Pr)(fl j:cu)(b:Nat)(x:cq)(p:cj)(d:Int)(y m:Hs):Prop:=c=mp\/ ∃e f n a,a=BB (F3 x p (Bv (fl x.wid) x.wid b d) e) f n/\a.err=0/\c=cz mp (EA a++a.ar)/\j=du fl x.wid ((fl x.wid).getD []++a.more)/\
 (EH (F3 x p (Bv (fl x.wid) x.wid b d) e)=true->dS y m b f)
theorem AMl {fl:cu}{an:cK}{k:Nat}{x:cq}{p:cj}(h:k≠0):Ob fl an k x p=Ob fl an 1 x p:=by unfold Ob;rw[if_neg h,if_neg (show ¬(1:Nat)=0 by decide)]
theorem tj {l:List Hs}{i:Nat}{b:Hs}{Q:Hs->Prop}(h: ∀y∈l,Q y)(c:Q b): ∀y∈l.set i b,Q y:=λy d=>by
 rcases Up d with a|a
 ·exact h y a
 ·rw[a];exact c
section
variable {A : aq} {g h : aa} {s k sh : Nat} {l : List Hs} {mp : List Pr} {O : Nat -> Prop} {i : Nat} {y : Hs} {fl : cu} {an : cK} {R : A2P}
theorem EW.own {a:aa}{O':Nat->Prop}(b:EW g h s k sh l mp fl an O)(d:Mod O h a)(e: ∀c,O' c->O c\/(h.size<=c/\c<a.size)):EW g a s k sh l mp fl an O':=⟨b.w.own d e,b.m,b.all⟩
theorem EW.on {b:aa}(a:EW g h s k sh l mp fl an O)(x:Ext h b):EW g b s k sh l mp fl an O:=⟨a.w.on x,a.m,a.all⟩
theorem EW.up {a:Nat}(b:EW g h s k sh l mp fl an O)(c:k<=a)(f:a<=500):EW g h s a sh l mp fl an O:=
 ⟨b.w.put c (by show 64*a<=32000;omega) (by omega) (by omega),b.m,λy d e=>by have:=b.all y d e;omega⟩
theorem EW.iq {x:cq}{p:cj}{T:J0}{n:Int}(U:bY g)(d:EW g h s k sh l mp fl an O)(o:l[i]? =some y)(ad:k+1<=490)(I:iI mp y (Ap x.wid sh))(V:View QP h x.steps p.steps)(W:x.az=p.az)(len:p.steps.length<=1099511627776)(X: -4611686018427300000<=n/\n<=4611686018427300000)
  (D: ∀c b E F J q st nx,EW g c s (k+1) sh (l.set i b) E F J O->y.dh b->(∀ a K r,Bf E (FZ a K r)=Bf mp (FZ a K r))->Mod (bo g O) h c->pJ fl an (Ap x.wid sh) x p n q st nx F J->ASe mp E fl F (Ap x.wid sh) x p n y b->R (dR q st nx).v c):
  AA A P Dg #[Ar y.p,T,J6 J9 n,x.v] h R:=by
 have G:=AM o;have ae:Uj.C=32000:=rfl;have hA:Uj.A=1600:=rfl;have Y:=(List.getElem?_eq_some_iff.1 o).1;have dc:l.set i y=l:=by rw[<- (List.getElem?_eq_some_iff.1 o).2];exact P3 Y
 have H:=AMl (fl:=fl) (an:=an) (x:=x) (p:=p) I.1;have f: ∀ {b:Hs},y.dh b-> ∀z∈l.set i b,∀a,z.u a<=3*(k+1)/\z.f a<=k+1:=λ{b} f=>tj (Q:=λz=> ∀a,z.u a<=3*(k+1)/\z.f a<=k+1) (λz Z a=>by have:=d.all z Z a;omega) λa=>by
  have:=d.all y G a;have:=f.u a;rw[f.f];omega
 refine AM3 U d.w o d.m V W len X (λa=>by have:=(d.all y G a).2;omega) (λa=>by have:=(d.all y G a).1;omega) (by omega) (by omega) (by omega) (by omega)
  (λc q st nx e L=>?_) (λc b t u v e j w B C=>?_) (λc b e j M B C=>?_) λc b t u v N S e j r w B aa ab ac C=>?_
 ·rw[H] at e;refine D c y mp fl an q st nx ⟨?_,d.m,f ⟨rfl,rfl,rfl,λm=>by omega⟩⟩ ⟨rfl,rfl,rfl,λm=>by omega⟩ (λ_ _ _=>rfl) L.mod (.inl ⟨rfl,rfl,.inl e⟩) (.inl rfl);rw[dc];exact(d.w.on L).put (by omega) (by omega) (by omega) (by omega)
 ·rw[H] at e;exact D c b mp fl an _ 0 0 ⟨B.put (by omega) (by omega) (by omega) (by omega),d.m,f j⟩ j (λ_ _ _=>rfl) C (.inl ⟨rfl,rfl,.inr ⟨e,w,rfl,rfl,t,u,v,rfl⟩⟩) (.inl rfl)
 ·rw[I.2] at M;cases M
 ·rw[H] at e;exact D c b _ _ _ 0 _ _ ⟨B.put (by omega) (by omega) (by omega) (by omega),aa,f j⟩ j ac C (.inr ⟨e,rfl,t,u,v,N,S,w,rfl,rfl,rfl,rfl,ab⟩) (.inr ⟨t,u,v,N,S,w,rfl,rfl,r⟩)
end
structure jP (mp:List Pr) (y:Hs) (sh:Nat):Prop where
 has: ∀n,n<sh->y.f n=1/\GK mp n 1 y.name
 iw: ∀n,sh<=n->y.f n=0/\(n<256->GK mp n 0 ⟨#[]⟩)
theorem jP.owns {mp:List Pr}{y:Hs}{sh a:Nat}(b:jP mp y sh)(c:a<sh):iI mp y a:=by obtain⟨d,e⟩:=b.has a c;refine⟨by omega,?_⟩;rw[d];exact e.holds (A0 _)
section
variable {A : aq} {g h : aa} {s k sh : Nat} {y : Hs} {mp : List Pr} {O : Nat -> Prop} {R : A2P}
end
theorem AN7 {id tick k:Int}(a:1<=id/\id<=500)(b:0<=tick/\tick<=1099511627776)(c:k=2\/k=13\/k=18):Ej ⟨id,k,tick,0,0,0,false,⟨#[]⟩⟩=true:=by have d:bV id 1 500=true:=Bb.2 a;have e:bV tick 0 1099511627776=true:=Bb.2 b;have f:bV k 1 18=true:=Bb.2 (by omega);unfold Ej Ee KD;rw[d,e,f];rcases c with rfl|rfl|rfl<;>rfl
theorem AN2 {id tick:Int}{p:cj}(a:1<=id/\id<=500)(b:0<=tick/\tick<=1099511627776)(c:F4 p=true):Ej ⟨id,1,tick,0,0,0,false,AX (Ci p)⟩=true:=by
 have d:bV id 1 500=true:=Bb.2 a;have e:bV tick 0 1099511627776=true:=Bb.2 b;unfold Ej Ee KD;dsimp only;rw[d,e,EO,wk c];have:eg 1=true:=by decide
 rw[this,IF];rfl
theorem O9 {a:Int}{wid:A2Q}{b:Int}(c:1<=a/\a<=7)(d:Ak wid=true)(e:0<=b/\b<=500):Gx ⟨a,b,0⟩ wid=true:=by unfold Gx;rw[Bb.2 c,d,Bb.2 e];rfl
theorem Zm {a:br}{t:fO}{tick:Int}{c:Nat}(b:a.err=0)(d:Gx t a.wid=true):(Du a t tick c).err=0:=by unfold Du;rw[if_neg (by simp[b]),if_neg (by simp[d])];exact b
theorem AHx {a:br}(b:EH a=true):a.more≠ []/\a.st.status=0/\a.st.fresh=true/\a.st.asked=0/\a.st.taken=0:=by unfold EH at b;simpa [and_assoc] using b
theorem APv {a:br}(d:a.err=0)(e:EH a=true)(i:2<=a.st.next/\a.st.next<=500)(f:0<=a.now/\a.now<=1099511627776):
  Dn a QQ= {a with st:= {a.st with asked:=a.st.next,next:=a.st.next+1},more:=a.more++ [⟨a.st.next,2,a.now,0,0,0,false,⟨#[]⟩⟩]}:=by
 obtain⟨g,w2,w3,w4,h⟩:=AHx e;have b:Cq a QQ=⟨a.st.next,2,a.now,0,0,0,false,⟨#[]⟩⟩:=by unfold Cq;rw[if_neg (by omega)];rfl
 have ok:=AN7 (id:=a.st.next) (tick:=a.now) (k:=2) (by omega) f (.inl rfl);have c:Bp a.st (Cq a QQ)=(0,{a.st with asked:=a.st.next,next:=a.st.next+1}):=by rw[b];unfold Bp;rw[if_neg (by simp[ok]),if_neg (by omega),if_neg (by simp[w2]),if_neg (by simp)];unfold Pi Dv;rw[if_pos (show(2:Int)<=2/\(2:Int)<=5 by decide),if_pos rfl,if_pos ⟨w4,h,w3⟩];rfl
 rw[ra d (.inl g) (by rw[c]),c,b]
theorem ANg {a:br}{n1:Nat}(c:a.err=0)(e:2<=a.st.next/\a.st.next<=500)(f:0<=a.now/\a.now<=1099511627776)(g:Ak a.wid=true):(Ed a n1).err=0/\(Ed a n1).wid=a.wid/\(Ed a n1).now=a.now/\(Ed a n1).st=(if EH a=true then {a.st with asked:=a.st.next,next:=a.st.next+1} else a.st)/\(Ed a n1).more=(if EH a=true then a.more++ [⟨a.st.next,2,a.now,0,0,0,false,⟨#[]⟩⟩] else a.more):=by
 unfold Ed;split
 ·rename_i h;have b:=APv c h e f;have i:Sa (Dn a QQ)=a.st.next:=by rw[b];show a.st.next+1-1=_;omega
  have d:Gx ⟨1,Sa (Dn a QQ),0⟩ (Dn a QQ).wid=true:=by rw[i,b];exact O9 (by decide) g (by omega)
  refine⟨Zm (by rw[b];exact c) d,?_,?_,?_,?_⟩
  ·unfold Du;rw[if_neg (by rw[b];simp[c]),if_neg (by simp[d]),b]
  ·unfold Du;rw[if_neg (by rw[b];simp[c]),if_neg (by simp[d]),b]
  ·rw[(Gy _ _ _ _).1,b]
  ·rw[(Gy _ _ _ _).2,b]
 ·exact⟨c,rfl,rfl,rfl,rfl⟩
theorem tn {a:br}{n1 n2:Nat}(f:a.err=0)(g:2<=a.st.next/\a.st.next<=500)(h:0<=a.now/\a.now<=1099511627776)(b:Ak a.wid=true):(BB a n1 n2).err=0/\(BB a n1 n2).st=(if EH a=true then {a.st with asked:=a.st.next,next:=a.st.next+1} else a.st)/\(BB a n1 n2).more=(if EH a=true then a.more++ [⟨a.st.next,2,a.now,0,0,0,false,⟨#[]⟩⟩] else a.more):=by
 obtain⟨c,i,j,d,e⟩:=ANg (n1:=n1) f g h b;unfold BB;split
 ·refine⟨Zm c (by rw[i];exact O9 (by decide) b (by decide)),?_,?_⟩
  ·rw[(Gy _ _ _ _).1,d]
  ·rw[(Gy _ _ _ _).2,e]
 ·exact⟨c,d,e⟩
theorem tq {x:cq}{p:cj}{n n0:Nat}{a:Int}(k:x.kind=1)(d:F4 p=true)(l:Ak x.wid=true)(r:0<=a/\a<=1099511611776):
  (DI x p (Bv none x.wid n a) n0).err=0/\(DI x p (Bv none x.wid n a) n0).st=⟨p,0,2,a,0,0,true,[],[],false,false⟩/\(DI x p (Bv none x.wid n a) n0).more= [⟨1,1,a,0,0,0,false,AX (Ci p)⟩]/\(DI x p (Bv none x.wid n a) n0).wid=x.wid/\(DI x p (Bv none x.wid n a) n0).now=a:=by
 have ok:=AN2 (id:=1) (tick:=a) (p:=p) (by decide) (by omega) d;have f:(Bv none x.wid n a).err=0:=by show(if a<0\/1099511611776<a then(1:Int) else 0)=0;rw[if_neg (by omega)]
 have g:Cq (Bv none x.wid n a) (dD 1 (AX (Ci p)))=⟨1,1,a,0,0,0,false,AX (Ci p)⟩:=rfl;have h:Bp (Bv none x.wid n a).st (Cq (Bv none x.wid n a) (dD 1 (AX (Ci p))))=(0,⟨p,0,2,a,0,0,true,[],[],false,false⟩):=by rw[g];unfold Bp;rw[if_neg (by simp[ok]),if_pos (show(Bv none x.wid n a).st.next=0 from rfl),if_pos ⟨rfl,rfl⟩];unfold XM;dsimp only;rw[EO,wk d];rfl
 have i:=ra f (e:=dD 1 (AX (Ci p))) (.inr (.inl (by show(0:Int)<=497;decide))) (by rw[h]);rw[h,g] at i;have base:(Dn (Bv none x.wid n a) (dD 1 (AX (Ci p)))).err=0/\(Dn (Bv none x.wid n a) (dD 1 (AX (Ci p)))).st=⟨p,0,2,a,0,0,true,[],[],false,false⟩/\(Dn (Bv none x.wid n a) (dD 1 (AX (Ci p)))).more= [⟨1,1,a,0,0,0,false,AX (Ci p)⟩]/\(Dn (Bv none x.wid n a) (dD 1 (AX (Ci p)))).wid=x.wid/\(Dn (Bv none x.wid n a) (dD 1 (AX (Ci p)))).now=a:=by rw[i];exact⟨f,rfl,rfl,rfl,rfl⟩
 unfold DI;rw[if_pos k];split
 ·obtain⟨b,m,o,j,q⟩:=base;have c:Gx ⟨6,0,0⟩ (Dn (Bv none x.wid n a) (dD 1 (AX (Ci p)))).wid=true:=by rw[j];exact O9 (by decide) l (by decide)
  refine⟨Zm b c,by rw[(Gy _ _ _ _).1,m],by rw[(Gy _ _ _ _).2,o],?_,?_⟩
  ·unfold Du;rw[if_neg (by simp[b]),if_neg (by simp[c])];exact j
  ·unfold Du;rw[if_neg (by simp[b]),if_neg (by simp[c])];exact q
 ·exact base
theorem XR {x:cq}{p:cj}{n n0 n1 n2:Nat}{a:Int}(g:x.kind=1)(h:F4 p=true)(b:Ak x.wid=true)(i:0<=a/\a<=1099511611776):
  (BB (F3 x p (Bv none x.wid n a) n0) n1 n2).err=0/\(BB (F3 x p (Bv none x.wid n a) n0) n1 n2).st=⟨p,0,3,a,2,0,true,[],[],false,false⟩/\(BB (F3 x p (Bv none x.wid n a) n0) n1 n2).more= [⟨1,1,a,0,0,0,false,AX (Ci p)⟩,⟨2,2,a,0,0,0,false,⟨#[]⟩⟩]:=by
 obtain⟨j,k,l,m,o⟩:=tq (n:=n) (n0:=n0) g h b i;have q:(F3 x p (Bv none x.wid n a) n0).err=0:=j;have c2:(F3 x p (Bv none x.wid n a) n0).st=⟨p,0,2,a,0,0,true,[],[],false,false⟩:=k;have c:(F3 x p (Bv none x.wid n a) n0).more= [⟨1,1,a,0,0,0,false,AX (Ci p)⟩]:=l;have c4:(F3 x p (Bv none x.wid n a) n0).wid=x.wid:=m;have d:(F3 x p (Bv none x.wid n a) n0).now=a:=o;obtain⟨r,e,f⟩:=tn (n1:=n1) (n2:=n2) q (by rw[c2];exact⟨(by decide:(2:Int)<=2),(by decide:(2:Int)<=500)⟩) (by rw[d];omega) (by rw[c4];exact b);have s:EH (F3 x p (Bv none x.wid n a) n0)=true:=by unfold EH;rw[c2,c];rfl
 rw[s,if_pos rfl] at e f;refine⟨r,?_,?_⟩
 ·rw[e,c2];show(⟨p,0,2+1,a,2,0,true,[],[],false,false⟩:bd)=_;rfl
 ·rw[f,c2,c,d];rfl
structure AUC (h:aa) (x:cq) (p:cj):Prop where
 V:View QP h x.steps p.steps
 lim:x.az=p.az
 len:p.steps.length<=1099511627776
 sz: ∀y∈p.steps,y.name.size<=1099511627776/\y.aL.size<=1099511627776
 name:x.name.size<=1099511627776
 wid:x.wid.size<=1099511627776
 bA:x.bA.size<=1099511627776
theorem tt {h:aa}{x:bj}{K:Nat->aa->Prop}(i: ∀a,a[h.size]? =some (J2 x.c Ae (0,0))->Ext h a->K h.size a):al h (J2 bj.z.c Ae) λb e=>aE e ⟨b,0,none⟩ x.l λd=>K b d:=
 al.mk λe _ j k n=>aE.mk j (A0 9) λd f l o=>i d (by rw[Ky] at f;exact f) (k.more l λc m=>by subst m;exact A0 _)
theorem EW.less {g h:aa}{s b d:Nat}{l:List Hs}{e:List Pr}{f:cu}{i:cK}{j O':Nat->Prop}(a:EW g h s b d l e f i j)(k: ∀c,O' c->j c):EW g h s b d l e f i O':=⟨a.w.less k,a.m,a.all⟩
theorem bo.aN {g h a:aa}{b:Nat->Prop}{c:Nat}{d:Obj}(m:Mod (bo g b) h a)(e:h[c]? =some d)(f:b c):a[c]? =some d:=m.ah e λi=>i.2 f
abbrev jQ:bP:=⟨1,⟨#[97]⟩,⟨#[]⟩,1,0,0⟩
abbrev pK(sl:Sl)(a:A2Q):cq:=⟨1,a,⟨#[119]⟩,⟨#[]⟩,sl,0,Zf,0,0,0,0,false⟩
theorem AO5 {a:cu}{b:cK}{x:cq}{p:cj}(e:1<=x.kind/\x.kind<=4)(c:PM x p=0)(d:b x.bA=none):Ob a b 1 x p=(match a x.wid with
   |none=>if x.kind=1 then none else some (180,0,0)
   |some l=>if x.kind=1 then some (181,0,0) else if(Bw l).status≠0 then some (182,0,0) else none):=by
 unfold Ob;rw[if_neg (by omega),if_neg (by simp[c]),if_neg (by decide),d]
 try rfl
theorem pJ.start {c k:cu}{d l:cK}{n:Nat}{x:cq}{p:cj}{a m st nx:Int}(D:pJ c d n x p a m st nx k l)(b:x.kind=1)(o:PM x p=0)(E:d x.bA=none)(f:c x.wid=none)(q:0<=a/\a<=1099511611776):
  m=0/\st=0/\nx=3/\k=du c x.wid [⟨1,1,a,0,0,0,false,AX (Ci p)⟩,⟨2,2,a,0,0,0,false,⟨#[]⟩⟩]/\l=du d x.bA (Lu x p,0,3)/\Bw [⟨1,1,a,0,0,0,false,AX (Ci p)⟩,⟨2,2,a,0,0,0,false,⟨#[]⟩⟩]=⟨p,0,3,a,2,0,true,[],[],false,false⟩:=by
 obtain⟨r,H,s,I⟩:=Za o;have F:Ob c d 1 x p=none:=by rw[AO5 (by omega) o E,f];show(if x.kind=1 then none else some (180,0,0))=none;rw[if_pos b]
 rcases D with⟨_,_,t|⟨_,i,_,_,n0,n1,n2,u⟩⟩|⟨_,i,n0,n1,n2,J,v,K,j,w,y,z,e⟩
 ·rw[F] at t;cases t
 ·exfalso;rw[f] at u;exact i (u.trans (XR b (r b) s q).1)
 ·rw[f] at v j e;obtain⟨G,B,C⟩:=XR (n:=n) (n0:=n0) (n1:=n1) (n2:=n2) b (r b) s q;rw[<- v] at G B C;rw[Option.getD_none,CT,C] at j e;rw[B] at w y z e;exact⟨i,y,z,j,w,e⟩
section
variable {A : aq} {g h : aa} {R : A2P}
end
section
variable {A : aq} {g h : aa} {s k N sh i : Nat} {l : List Hs} {mp : List Pr} {O : Nat -> Prop} {y : Hs} {fl : cu} {an : cK} {R : A2P} {cb : Nat} {z : Nat -> Nat} {x : eF} {C : br}
structure lM (mp:List Pr) (fl:cu) (C:br):Prop where
 wid:Ak C.wid=true
 fits:C.fits ((fl C.wid).getD [])
 more:C.more≠ []
 st:Dc C.st 500
 ok: ∀e∈C.more,Ej e=true/\e.data.size<1099511627776
 len:C.more.length+C.ar.length<=50/\C.conds.length<=50
 keys: ∀p∈C.conds,p.key.size<=1099511627776
 base:pI C (fl C.wid)
 ct:0<=C.ct/\C.ct<=4
 bW:0<=C.bW/\C.bW<=501
 now:0<=C.now/\C.now<=1099511627776
 next:2<=C.st.next/\C.st.next<=500
 err:C.err=0
 bes:C.beside none
theorem EW.jr {k':Nat}(ac:bY g)(S:CW Uj g h s k N sh l i y mp O cb z x C)(E:Jg mp fl an)(ad: ∀j∈l,∀n,j.u n<=3*k/\j.f n<=k)(F: ∀n,y.u n+2<=3*k'/\y.f n<=k)(ay:k+1<=k')(az:N+2<=3*k')(aA:k'<=490)(G:iI mp y C.ao)(ae:C.ao<256)(L:lM mp fl C)
  (af:(∀ c∈C.conds,Bf mp c=true)-> ∀f d a b D,D=BB C a b->EW g f s k' sh (l.set i d) (cz mp (EA D++D.ar)) (du fl C.wid ((fl C.wid).getD []++D.more)) an O->y.di d->
   (∀ n H T,Bf (cz mp (EA D++D.ar)) (FZ n H T)=Bf mp (FZ n H T))->Bw ((fl C.wid).getD []++D.more)=D.st->Mod (bo g O) h f->R (J6 J9 0) f)
  (ag: ¬(∀ c∈C.conds,Bf mp c=true)-> ∀f d,EW g f s k' sh (l.set i d) mp fl an O->y.di d->Mod (bo g O) h f->R (J6 J9 100) f):
  AA A P Dl #[Ar cb] h R:=by
 have aC:Uj.C=32000:=rfl;have hA:Uj.A=1600:=rfl;have U:=S.w.sorted;obtain⟨q,ah,ai,V,W,aD,aj,ak,aE,al,am,ao,ap,aq⟩:=L;have ar: ∀a b,(BB C a b).err=0:=λa b=>(tn ap ao am q).1
 have r: ∀ {d:Hs},y.di d-> ∀j∈l.set i d,∀n,j.u n<=3*k'/\j.f n<=k':=λ{d} r=>tj (Q:=λj=> ∀n,j.u n<=3*k'/\j.f n<=k') (λj I n=>by have:=ad j I n;omega) λn=>by
  have:=F n;have:=r.u n;rw[r.f];omega
 refine ug ac S V (by omega) q W ae (by have:=F C.ao;omega) (by have:=F C.ao;omega) (by omega) (by omega) (by omega) (by omega) (by omega) (by omega) (by omega) aj (by omega) al (by omega)
  (λau=>absurd au G.1) (λa b d f n u=>absurd (ar a b) u) (λa b d f n u v=>by rw[G.2] at v;cases v) (λa b d f n _ v hd J K=>?_) λa b d f n _ _ v hd J K=>?_
 all_goals
  have e:=UV (n:=500) W V a b;have w:=YF aq a b;have aF:=e.more;have aG:=e.ar;have X:=e.none ai;have Y:EA (BB C a b)++(BB C a b).ar≠ []:=λh=>by
   unfold EA at h;rw[if_neg X] at h;simp at h
  have av:Bf mp (bC C)=true:=sX E q ak
 ·have B: ¬(∀ c∈C.conds,Bf mp c=true):=λt=>hd (ta (by rw[e.wid];exact q) e.ok e.st w (by omega) Y (by simp;omega) λc m=>by
   rcases List.mem_cons.1 m with rfl|m
   ·exact G.2
   ·rcases List.mem_append.1 m with m|m
    ·exact t c m
    ·rw[List.mem_singleton.1 m];exact av)
  have u:EY (EA (BB C a b)++(BB C a b).ar)=0:=pG Y (by have:=sZ (BB C a b);rw[A1];omega) λp aw=>by
   rcases List.mem_append.1 aw with h|h
   ·exact sY (by rw[e.wid];exact q) e.ok e.st p h
   ·exact w.ok p h
  have ax:dw mp (FZ C.ao (y.f C.ao) y.name::(C.conds++ [bC C])) (EA (BB C a b)++(BB C a b).ar)=100:=by unfold dw;rw[if_neg (by simp;omega),if_neg (by rw[u];decide),if_neg λM=>B λc t=>List.all_eq_true.1 M c (by simp[t])]
  rw[ax];exact ag B f d ⟨J.put (by omega) (by omega) (by omega) (by omega),E,r n⟩ n K
 ·have B: ∀c∈C.conds,Bf mp c=true:=λc t=>by
   unfold dw at hd;split at hd
   ·cases hd
   ·split at hd
    ·rename_i h;exact absurd hd h
    ·split at hd
     ·rename_i M;exact List.all_eq_true.1 M c (by simp[t])
     ·cases hd
  have Z:(BB C a b).fits ((fl C.wid).getD []):=sU ah;have aa:(fl C.wid).getD []++(BB C a b).more≠ []:=λh=>X (List.append_eq_nil_iff.1 h).2
  have ab:=E.done U (D:=BB C a b) (o:=none) (by rw[e.wid];exact q) (by rw[e.wid];exact Z) (by rw[e.wid];exact aa) e.st w (λH j I=>by cases I);rw[e.wid] at ab;exact af B f d a b _ rfl ⟨J.put (by omega) (by omega) (by omega) (by omega),ab,r n⟩ n (tc U w) (ZT Z aa e.st).2 K
end
theorem al.jt {h:aa}{c:Obj}{d:aa->Prop}{e:Nat->aa->Prop}(k: ∀f,Ext h f->d f)(m:al h c e):al h c λb j=>And (d j) (e b j):=⟨k _ (Mod.push h c),m⟩
section
variable {A : aq} {B : cH} {g h : aa} {s a N sh cb : Nat} {l : List Hs} {mp : List Pr} {O : Nat -> Prop} {i : Nat} {y : Hs} {z : Nat -> Nat} {x : eF} {C : br} {R : A2P}
theorem APc {key val:A2Q}{r:Bool}(k:CW B g h s a N sh l i y mp O cb z x C)(t:C.conds.length<1000)(u:C.ar.length<1000)
  (v: ∀d w x',CW B g d s a N sh l i y mp O cb w x' (iO C key val)->Mod (bo g O) h d->R (J1 #[]) d):AA A P Jf #[Ar cb,.agg #[J7 key,J7 val,J3 r]] h R:=by
 refine Ud ?_;unfold Ni;dsimp only[At];refine al.mk λQ _ e m S=>?_
 have b:=k.on m;refine AZ.mk (s:=x.conds) (Ce b.bE.ah rfl) (AJ.mk (n:=key) (AO e rfl) (AJ.mk (n:=val) (AB e rfl) ?_));refine al.jt (λd f=>Ce (b.on f).bE.ah rfl) (b.bE.fK (p:=⟨key,val,false⟩) b.fT t λT o U D j E=>?_);have c:=b.step (x':= {x with conds:=o}) j E rfl D;have F:=j.ah e λG=>by have:=k.fT _ G;omega
 refine AZ.mk (s:=x.ar) (Ce c.bE.ah rfl) (AJ.mk (n:=key) (AO F rfl) ?_);refine al.jt (λd f=>Ce (c.on f).bE.ah rfl) (c.bE.eI (p:=⟨key,⟨#[]⟩,true⟩) c.fT u λH I J K q L=>?_);have M:=c.step (x':= {x with conds:=o,ar:=I}) q L rfl K;exact v H J _ M (m.mod.trans ((b.frame j).trans (c.frame q)))
end
section
variable {A : aq} {h : aa} {R : A2P}
theorem tv {f:bS}{t:cm}(j:t.kind=1)(k: ∀d,Ext h d->R (J1 #[J7 ⟨#[]⟩,J3 (decide (f.st.next<=497)&&(f.st.asked==t.ref))]) d):AA A P MR #[f.v,t.v] h R:=by
 refine AC4 ?_;unfold WJ;refine al.mk λq _ l m r=>al.mk λs _ e g u=>?_
 have i:=g.ah l λh=>h
 refine A8.mk f.st (Cr (o:=6) i rfl) (u9 λp a=>⟨_,rfl,?_⟩);have b:=k p ((m.trans g).trans a);refine af.intro (λc=>?_) (λc=>?_)
 ·rw[show decide (f.st.next<=497)=false by simpa using c] at b;exact b
 ·rw[show decide (f.st.next<=497)=true by simpa using c] at b;refine AC.mk (n:=t.kind) (AO (a.ah e λh=>h) rfl) (af.yes (by simp[j]) ?_);refine AC.mk (n:=f.st.asked) (by rw[add_add];exact AB (a.ah i λh=>h) rfl) (AC.mk (n:=t.ref) (AB (a.ah e λh=>h) rfl) ?_);exact b
end
theorem AJg {a:br}{t:fO}{tick:Int}{c:Nat}(b:(Du a t tick c).err=0):(Du a t tick c).ar=a.ar++ [⟨MC a.ao tick c,gi t a.wid,false⟩]:=by
 unfold Du at b ⊢;split at b
 ·rename_i d;exact absurd b d
 ·rename_i d;rw[if_neg d];split at b
  ·exact absurd (show(1:Int)=0 from b) (by decide)
  ·rename_i e;rw[if_neg e]
theorem AI1 {x:cq}{p:cj}{n n0 n1 n2:Nat}{now:Int}(h:x.kind=1)(d:F4 p=true)(i:Ak x.wid=true)(j:0<=now/\now<=1099511611776)(v:p.az=0):
  EH (F3 x p (Bv none x.wid n now) n0)=true/\ ∃e,(BB (F3 x p (Bv none x.wid n now) n0) n1 n2).ar= [⟨Kb x.bA,e,false⟩,⟨DF n n1,gi ⟨1,2,0⟩ x.wid,false⟩]:=by
 obtain⟨w,m,o,q,y⟩:=tq (n:=n) (n0:=n0) h d i j;obtain⟨k,c,z⟩:=XR (n:=n) (n0:=n0) (n1:=n1) (n2:=n2) h d i j;have l:DI x p (Bv none x.wid n now) n0=Dn (Bv none x.wid n now) (dD 1 (AX (Ci p))):=by unfold DI;rw[if_pos h,if_neg (by omega)]
 generalize f:F3 x p (Bv none x.wid n now) n0=b at*
 have e:EH b=true:=by subst f;unfold EH;rw[show(F3 x p (Bv none x.wid n now) n0).st=_ from m,show(F3 x p (Bv none x.wid n now) n0).more=_ from o];rfl
 refine⟨e,?_⟩;have a:=OL b QQ;have r:BB b n1 n2=Du (Dn b QQ) ⟨1,Sa (Dn b QQ),0⟩ (-1) n1:=by
  have s:Ed b n1=Du (Dn b QQ) ⟨1,Sa (Dn b QQ),0⟩ (-1) n1:=by unfold Ed;rw[if_pos e]
  unfold BB at c ⊢;split
  ·rename_i g;exfalso;rw[if_pos g,(Gy _ _ _ _).1] at c;exact g.2 (by rw[c])
  ·exact s
 rw[r] at k c ⊢;rw[AJg k];rw[(Gy _ _ _ _).1] at c;have t:Sa (Dn b QQ)=2:=by unfold Sa;rw[c];rfl
 rw[t];have d:b.ar= [⟨Kb x.bA,iN (Lu x p) (Dh (DI x p (Bv none x.wid n now) n0)).1.toNat (Dh (DI x p (Bv none x.wid n now) n0)).2.toNat,false⟩]:=by rw[<- f];show(DI x p (Bv none x.wid n now) n0).ar++_=_;rw[l,(OL _ _).2.2.2.2.2.1];rfl
 have g:(Dn b QQ).ao=n:=by rw[a.2.1,<-f];show(DI x p (Bv none x.wid n now) n0).ao=n;rw[l,(OL _ _).2.1];rfl
 have u:(Dn b QQ).wid=x.wid:=by rw[a.1,<-f];exact q
 rw[a.2.2.2.2.2.1,d,g,u];exact⟨_,rfl⟩
def cL(p:cj)(t:Int):bd:=⟨p,0,3,t,2,0,true,[],[],false,false⟩
def j6(p:cj)(t:Int):bd:=⟨p,0,4,t,0,3,false,[],[],false,false⟩
abbrev UB(a:Int):Ev:=⟨0,3,0,a,0,0,false,⟨#[]⟩⟩
theorem take_add {C:br}{p:cj}{t:Int}(d:C.err=0)(a:C.st=cL p t)(e:0<=C.now/\C.now<=1099511627776):
  Dn C (UB 2)= {C with st:=j6 p t,more:=C.more++ [⟨3,3,C.now,2,0,0,false,⟨#[]⟩⟩]}:=by
 have b:Cq C (UB 2)=⟨3,3,C.now,2,0,0,false,⟨#[]⟩⟩:=by unfold Cq;rw[a];rfl
 have ok:Ej (⟨3,3,C.now,2,0,0,false,⟨#[]⟩⟩:Ev)=true:=by have f:bV C.now 0 1099511627776=true:=Bb.2 e;unfold Ej Ee KD;rw[f];rfl
 have c:Bp C.st (Cq C (UB 2))=(0,j6 p t):=by rw[b,a];unfold Bp;rw[if_neg (by simp[ok]),if_neg (by simp[cL]),if_neg (by simp[cL]),if_neg (by simp[cL])];rfl
 rw[ra d (.inr (.inl (by rw[a];exact(by decide:(3:Int)<=497)))) (by rw[c]),c,b]
section
variable {A : aq} {h : aa} {R : A2P}
theorem tw {x:Sl}{l:List Ev}(v:View dU h x l)(e:l.length<=1000)(d: ∀a b,Own dU A9 b a l->(∀ c,a.ah=some c->h.size<=c)->Ext h b->R (J4 a.p a.len a.cap) b):AA A P CS #[J4 x.p x.len x.cap] h R:=by refine IZ ?_;unfold Et;exact Uw mD v (by omega) (by simp only[maxLen];omega) d
end
def Kk(P:A2Q)(m:List Pr):List Pr:=m.filter λx=>Kc P x.key
section
variable {P k : A2Q} {m b : List Pr} {p x : Pr}
theorem AQf(k:A2Q):aM k (⟨#[]⟩:A2Q)=false:=by unfold aM;rw[ByteArray.toList_eq,ByteArray.toList_eq];cases k.data.toList<;>rfl
theorem pP(a:Int):jj m P ⟨#[]⟩ a=(Kk P m).take a.toNat:=by unfold jj Kk;rw[HG λx _=>by rw[AQf,Ly,Bool.and_true]]
theorem H7(s:Sorted m):Sorted (Kk P m):=s.sublist Gk
theorem Y0:Af k (Kk P m)=if Kc P k=true then Af k m else none:=lL (q:=Kc P)
theorem ARh(s:Sorted m):Kk P (fh m p)=if Kc P p.key=true then fh (Kk P m) p else Kk P m:=by
 split
 ·refine Sorted.ext (H7 (KE s p)) (KE (H7 s) p) λk=>?_
  rw[Y0,PK s,PK (H7 s),Y0]
  grind
 ·refine Sorted.ext (H7 (KE s p)) (H7 s) λk=>?_
  rw[Y0,Y0,PK s]
  grind
theorem Oq:Kk P (p::b)=if Kc P p.key=true then p::Kk P b else Kk P b:=AT
theorem SE: ∀ {b m:List Pr},Sorted m->Kk P (cz m b)=cz (Kk P m) (Kk P b)
 | [],_,_=>rfl
 |p::b,m,s=>by
  show Kk P (cz (fh m p) b)=_;rw[SE (KE s p),ARh s,Oq];split<;>rfl
theorem tx(a b:List Pr):Kk P (a++b)=Kk P a++Kk P b:=P0 _ _
theorem fg(a: ∀p∈b,Kc P p.key=false):Kk P b= []:=List.filter_eq_nil_iff.2 λp c=>by rw[a p c];decide
theorem ARL(s:Sorted m)(e:p.gone=false)(d: ∀f∈m,aM f.key p.key=true):fh m p=m++ [p]:=by
 have g:Sorted (m++ [p]):=List.pairwise_append.2 ⟨s,LS _ _,λa h b i=>by rw[List.mem_singleton.1 i];exact d a h⟩;refine Sorted.ext (KE s p) g λk=>?_
 rw[PK s,Hw,e,M.LM,M.BD,M.QO];by_cases c:p.key=k
 ·subst c;rw[if_pos rfl,if_pos rfl,M.EJ λx j=>M.Lj (d x j)];rfl
 ·rw[if_neg c,if_neg c];cases Af k m<;>rfl
theorem tz(s:Sorted (x::m))(a:p.key=x.key)(c:p.gone=true):fh (x::m) p=m:=by
 rw[rK s,c,if_pos rfl,a];unfold kB;rw[AT,if_neg (by simp)];refine List.filter_eq_self.2 λd e=>?_
 have:=M.Lj ((List.pairwise_cons.1 s).1 d e);simp[Ne.symm this]
end
theorem tA: ∀ {a b:List UInt8},a.length=b.length->a<b-> ∀x e:List UInt8,a++x<b++e
 | [],[],_,c,_,_=>absurd c (Pa _)
 | [],_::_,d,_,_,_=>by cases d
 |_::_,[],d,_,_,_=>by cases d
 |a::p,b::f,d,c,x,e=>by
  cases c with
  |rel c=>exact List.Lex.rel c
  |cons c=>exact List.Lex.cons (tA (by simpa using d) c x e)
theorem Yy: ∀(k:Nat) {a b:Nat},b<256^k->a<b->IX k a<IX k b
 |0,a,b,c,d=>by simp at c;omega
 |k+1,a,b,c,d=>by
  rw[IX,IX];by_cases e:a / 256=b / 256
  ·rw[e];refine xu _ (List.Lex.rel ?_);rw[Ql a,Ql b,UInt8.lt_iff_toNat_lt,DR (by omega),DR (by omega)];omega
  ·have f:b / 256<256^k:=by rw[DG] at c;omega
   exact tA (by rw[Ki,Ki]) (Yy k f (by omega)) _ _
theorem AN3 {k a b:Nat}(e:a<256^k)(f:b<256^k)(d:IX k a=IX k b):a=b:=by
 rcases HL a b with c|c|c
 ·have:=Yy k f c;rw[d] at this;exact absurd this (Pa _)
 ·exact c
 ·have:=Yy k e c;rw[d] at this;exact absurd this (Pa _)
abbrev jR:Nat:=18446744073709551616
theorem ANL {c a b:Nat}(d:b<jR)(e:a<b):aM (DF c a) (DF c b)=true:=by rw[R9,decide_eq_true_eq];unfold DF;rw[Be,Be];exact List.Lex.cons (List.Lex.cons (Yy 8 d e))
def EG(c a:Nat):A2Q:=AX (113::0::Br c::IX 8 a)
theorem Qk:Kz ⟨#[]⟩=AX [113,0]:=by unfold Kz BU;rw[show bl (⟨#[]⟩:A2Q)= [] from rfl,FU (by decide)];rfl
theorem AP8(c a:Nat):Kz ⟨#[]⟩++AX (Br c::IX 8 a)=EG c a:=by rw[Qk,Aj];rfl
theorem R8(c a:Nat):(EG c a).size=11:=by unfold EG;rw[AP];rfl
theorem Qc(c a:Nat):BL (EG c a)=113:=by unfold BL EG;rw[EO];rfl
theorem APE {c a b:Nat}(d:b<jR)(e:a<b):aM (EG c a) (EG c b)=true:=by rw[R9,decide_eq_true_eq];unfold EG;rw[Be,Be];exact List.Lex.cons (List.Lex.cons (List.Lex.cons (Yy 8 d e)))
theorem ANm {c d a b:Nat}(e:c<256)(f:d<256)(g:a<jR)(h:b<jR)(i:EG c a=EG d b):c=d/\a=b:=by have:=Mi.1 i;simp only[G4,true_and] at this;exact⟨VA e f this.1,AN3 g h this.2⟩
theorem tB {a:UInt8}{d:List UInt8}{k:A2Q}(c:Kc (AX (a::d)) k=true):BL k=a:=by rw[Og,Be] at c;obtain⟨t,e⟩:=c;unfold BL;show(k.data.toList).headD 0=a;rw[<- e];rfl
theorem ny {a:UInt8}{c:List UInt8}{k:A2Q}(d:BL k≠a):Kc (AX (a::c)) k=false:=by
 cases e:Kc (AX (a::c)) k with
 |false=>rfl
 |true=>exact absurd (tB e) d
theorem Xv {c a e:Nat}(f:c<256)(g:a<256):Kc (Lm c) (DF a e)=decide (c=a):=by
 rw[DQ,Og,decide_eq_true_eq];unfold Lm DF;rw[Be,Be];constructor
 ·rintro⟨t,d⟩;simp only[Dd,CT,G4,true_and] at d;exact VA f g d.1
 ·rintro rfl;exact⟨_,rfl⟩
theorem tC(c a:Nat):Kc (Kz ⟨#[]⟩) (EG c a)=true:=by rw[Og,Qk];unfold EG;rw[Be,Be];exact⟨_,rfl⟩
theorem pQ {c:Nat}{b:List Pr}(a: ∀p∈b,BL p.key≠116):Kk (Lm c) b= []:=fg λp d=>ny (a p d)
theorem pR {b:List Pr}(a: ∀p∈b,BL p.key≠113):Kk (Kz ⟨#[]⟩) b= []:=by rw[Qk];exact fg λp c=>ny (a p c)
abbrev dZ(wid:A2Q):A2Q:=gi ⟨1,2,0⟩ wid
def cZ(c:Nat)(t:Nat×A2Q):Pr:=⟨DF c t.1,dZ t.2,false⟩
def gN(c:Nat)(t:Nat×A2Q):Pr:=⟨EG c t.1,dZ t.2,false⟩
structure fj (mp:List Pr) (T:Nat->List (Nat×A2Q)) (L:List Pr):Prop where
 tr: ∀c,c<3->Kk (Lm c) mp=(T c).map (cZ c)
 li:Kk (Kz ⟨#[]⟩) mp=L
section
variable {mp b : List Pr} {T : Nat -> List (Nat × A2Q)} {L : List Pr}
def dE(T:Nat->List (Nat×A2Q))(c:Nat)(l:List (Nat×A2Q)):Nat->List (Nat×A2Q):=λa=>if a=c then l else T a
theorem fj.made {c f:Nat}{wid:A2Q}{a g:List Pr}(l:fj mp T L)(s:Sorted mp)(v:c<3)(i: ∀p∈a++g,BL p.key≠116/\BL p.key≠113)(n:f<jR)(o: ∀t∈T c,t.1<f):fj (cz mp (a++cZ c (f,wid)::g)) (dE T c (T c++ [(f,wid)])) L:=by
 have q: ∀d,d<3->Kk (Lm d) (a++cZ c (f,wid)::g)=if d=c then [cZ c (f,wid)] else []:=λd j=>by
  rw[tx,Oq,pQ (b:=a) λp h=>(i p (by simp[h])).1,pQ (b:=g) λp h=>(i p (by simp[h])).1,show Kc (Lm d) (cZ c (f,wid)).key=decide (d=c) from Xv (by omega) (by omega)];by_cases e:d=c<;>simp[e]
 refine⟨λd j=>?_,?_⟩
 ·rw[SE s,q d j,l.tr d j];unfold dE;by_cases e:d=c
  ·subst e;rw[if_pos rfl,if_pos rfl,AW];refine ARL (by rw[<- l.tr d j];exact H7 s) rfl λw r=>?_
   obtain⟨t,u,rfl⟩:=List.mem_map.1 r;exact ANL n (o t u)
  ·rw[if_neg e,if_neg e];rfl
 ·rw[SE s,pR (b:=a++cZ c (f,wid)::g) λp h=>?_]
  ·exact l.li
  ·rcases List.mem_append.1 h with e|e
   ·exact(i p (by simp[e])).2
   ·rcases List.mem_cons.1 e with rfl|e
    ·show BL (DF c f)≠113;rw[R4];decide
    ·exact(i p (by simp[e])).2
theorem fj.iu {c:Nat}{t:Nat×A2Q}{l:List (Nat×A2Q)}(f:fj mp T L)(s:Sorted mp)(q:c<3)(g:T c=t::l):fj (cz mp [⟨DF c t.1,⟨#[]⟩,true⟩,gN c t]) (dE T c l) (fh L (gN c t)):=by
 have j: ∀d:List UInt8,Kc (AX (113::d)) (DF c t.1)=false:=λd=>ny (by rw[R4];decide)
 have n: ∀d:List UInt8,Kc (AX (116::d)) (EG c t.1)=false:=λd=>ny (by rw[Qc];decide)
 refine⟨λa h=>?_,?_⟩
 ·have o:Kk (Lm a) [⟨DF c t.1,⟨#[]⟩,true⟩,gN c t]=if a=c then [⟨DF c t.1,⟨#[]⟩,true⟩] else []:=by rw[Oq,Oq,show Kc (Lm a) (gN c t).key=false from n _,show Kc (Lm a) (DF c t.1)=decide (a=c) from Xv (by omega) (by omega)];by_cases e:a=c<;>simp[e,Kk]
  rw[SE s,o,f.tr a h];unfold dE;by_cases e:a=c
  ·subst e;have i:=H7 (P:=Lm a) s;rw[f.tr a h,g] at i;rw[if_pos rfl,if_pos rfl,g];exact tz i rfl rfl
  ·rw[if_neg e,if_neg e];rfl
 ·rw[SE s,f.li,Oq,Oq,show Kc (Kz ⟨#[]⟩) (gN c t).key=true from tC _ _];rw[show Kc (Kz ⟨#[]⟩) (DF c t.1)=false from by rw[Qk];exact j _];rfl
theorem fj.take {c d:Nat}{wid v:A2Q}{a g:List Pr}(i:fj mp T (gN c (d,wid)::L))(s:Sorted mp)(h: ∀p∈a++g,BL p.key≠116/\BL p.key≠113):fj (cz mp (a++⟨EG c d,v,true⟩::g)) T L:=by
 refine⟨λl n=>?_,?_⟩
 ·rw[SE s,pQ (b:=a++⟨EG c d,v,true⟩::g) λp e=>?_]
  ·exact i.tr l n
  ·rcases List.mem_append.1 e with f|f
   ·exact(h p (by simp[f])).1
   ·rcases List.mem_cons.1 f with rfl|f
    ·show BL (EG c d)≠116;rw[Qc];decide
    ·exact(h p (by simp[f])).1
 ·have j:=H7 (P:=Kz ⟨#[]⟩) s;rw[i.li] at j;rw[SE s,i.li,tx,Oq,show Kc (Kz ⟨#[]⟩) (EG c d)=true from tC _ _,if_pos rfl,pR (b:=a) λp e=>(h p (by simp[e])).2,pR (b:=g) λp e=>(h p (by simp[e])).2];exact tz j rfl rfl
end
abbrev gO:Ev:=⟨3,3,0,2,0,0,false,⟨#[]⟩⟩
theorem ARS:Ej gO=true/\gO.data.size<1099511627776:=by refine⟨?_,(by decide:(0:Nat)<1099511627776)⟩;unfold Ej Ee KD;rfl
structure j7 (C:br) (wid key:A2Q) (c num:Nat) (p:cj):Prop where
 wd:C.wid=wid
 ao:C.ao=c
 mt:C.ct=0/\C.bW=3/\C.kept=false
 st:C.st=j6 p 0
 more:C.more= [gO]
 err:C.err=0
 now:C.now=0
 conds:C.conds= [⟨key,dZ wid,false⟩]
 ar:C.ar= [⟨key,⟨#[]⟩,true⟩,⟨R3 c 5 num,gi ⟨4,3,0⟩ wid,false⟩]
theorem AJt {wid key:A2Q}{c num:Nat}{p:cj}(a:Ak wid=true):j7 (Du (Dn (iO (Hy wid c 0 3 false (cL p 0) 0) key (dZ wid)) (UB 2)) ⟨4,3,0⟩ 5 num) wid key c num p:=by rw[take_add (p:=p) (t:=0) rfl rfl (by decide:(0:Int)<=0/\(0:Int)<=1099511627776)];have b:Gx ⟨4,3,0⟩ wid=true:=O9 (by decide) a (by decide);unfold Du;rw[if_neg (by show ¬((0:Int)≠0);decide),if_neg (by show ¬(Gx ⟨4,3,0⟩ wid=false);rw[b];decide)];exact⟨rfl,rfl,⟨rfl,rfl,rfl⟩,rfl,rfl,rfl,rfl,rfl,rfl⟩
section
variable {C : br} {wid key : A2Q} {c c' num n0 : Nat} {p : cj} {mp : List Pr} {fl : cu} {an : cK} {ev : List Ev}
theorem j7.beside(e:j7 C wid (EG c' n0) c num p)(f:Ak wid=true):C.beside none:=by
 have j:Gx ⟨4,3,0⟩ wid=true:=O9 (by decide) f (by decide);have b:=Xa (sh:=c) (num:=num) (tick:=5) j;have m:MC c 5 num=R3 c 5 num:=rfl;rw[m] at b;have o:=R8 c' n0;have n:=sS (k:=EG c' n0) (PW (by omega)) (by omega);refine⟨λd a=>?_,λd a=>?_,λd a=>?_⟩<;>rw[e.ar] at a<;>simp only[GB,IH,or_false] at a<;>rcases a with rfl|rfl
 ·exact n
 ·exact b.1
 ·refine .inl ?_;show BL (EG c' n0)≠104/\BL (EG c' n0)≠119/\BL (EG c' n0)≠114;rw[Qc];decide
 ·exact .inl b.2.1
 ·show BL (EG c' n0)≠108;rw[Qc];decide
 ·exact b.2.2
theorem j7.close(a:j7 C wid key c num p)(b d:Nat):BB C b d=C:=by
 have e:EH C=false:=by unfold EH;rw[a.st];simp[j6]
 unfold BB Ed;rw[e];simp[a.st,j6]
theorem ANO(a:Dc (cL p 0) 3):Dc (j6 p 0) 3:=⟨As _,As _,a.steps,a.az,a.aZ,(by decide:(0:Int)<=4/\(4:Int)<=501),a.st,a.waits⟩
theorem j7.lq(a:j7 C wid (EG c' n0) c num p)(t:Jg mp fl an)(b:Ak wid=true)(d:fl wid=some ev)(j:Bw ev=cL p 0)(m:C.fits ev)(n:Dc (cL p 0) 3):lM mp fl C:= {
 wid:=by rw[a.wd];exact b
 fits:=by rw[a.wd,d];exact m
 more:=by rw[a.more];simp
 st:=by rw[a.st];exact(ANO n).up (by omega)
 ok:=λu e=>by
  rw[a.more] at e;rw[List.mem_singleton.1 e];exact ARS
 len:=by rw[a.more,a.ar,a.conds];exact⟨(by decide:1+2<=50),(by decide:1<=50)⟩
 keys:=λv f=>by
  rw[a.conds] at f;rw[List.mem_singleton.1 f];show(EG c' n0).size<=_;rw[R8];decide
 base:=by obtain⟨o,q,r⟩:=a.mt;rw[a.wd,d];show C.ct=(Bw ev).status/\C.bW=(Bw ev).next/\C.kept=false/\0<C.bW;rw[j,o,q];exact⟨rfl,rfl,r,(by decide:(0:Int)<3)⟩
 ct:=by rw[a.mt.1];decide
 bW:=by rw[a.mt.2.1];decide
 now:=by rw[a.now];decide
 next:=by rw[a.st];exact(by decide:(2:Int)<=4/\(4:Int)<=500)
 err:=a.err
 bes:=a.beside b}
theorem fj.row {T:Nat->List (Nat×A2Q)}{L:List Pr}{r:Pr}(a:fj mp T L)(s:Sorted mp)(b:r∈L):Af r.key mp=some r/\Kc (Kz ⟨#[]⟩) r.key=true:=by
 have h:r∈Kk (Kz ⟨#[]⟩) mp:=by rw[a.li];exact b
 obtain⟨d,e⟩:=List.mem_filter.1 h;exact⟨s.find d,e⟩
theorem fj.cZ {T:Nat->List (Nat×A2Q)}{L:List Pr}{t:Nat×A2Q}(a:fj mp T L)(s:Sorted mp)(b:c<3)(d:t∈T c):Af (DF c t.1) mp=some (cZ c t):=by
 have h:Go.Lf.G.cZ c t∈Kk (Lm c) mp:=by rw[a.tr c b];exact IN d
 exact s.find (List.mem_filter.1 h).1
theorem tD {r:Pr}(h:Af r.key mp=some r)(a:r.gone=false):Bf mp ⟨r.key,r.val,false⟩=true:=by unfold Bf Iu;rw[if_neg (by simp),h];simp
theorem lM.iU(C:br): ∀a∈EA C,BL a.key≠116/\BL a.key≠113:=by
 intro a b;unfold EA at b;rcases List.mem_append.1 b with h|h
 ·obtain⟨d,_,rfl⟩:=List.mem_map.1 h;rw[show BL (Oo C.wid d).key=104 from Yk _ _];decide
 ·split at h
  ·cases h
  ·rw[List.mem_singleton.1 h,show BL (KZ C.wid)=119 from GI _];decide
end
section
variable {A : aq} {g h : aa} {s k sh i : Nat} {l : List Hs} {mp : List Pr} {O : Nat -> Prop} {y y' : Hs} {fl : cu} {an : cK} {ev : List Ev} {R : A2P} {cb c num n0 : Nat} {z : Nat -> Nat} {x : eF} {C : br} {wid : A2Q} {p : cj} {T : Nat -> List (Nat × A2Q)} {L : List Pr}
theorem AHP(J:bY g)(t:CW Uj g h s k (3*k+1) sh l i y' mp O cb z x C)(u:Jg mp fl an)(K: ∀v∈l,∀a,v.u a<=3*k/\v.f a<=k)(M: ∀a,y.u a<=3*k/\y.f a<=k)(d:y.dk y')(N:k+1<=490)(w:iI mp y c)(Q:c<256)(b:j7 C wid (EG c n0) c num p)(S:C.fits ev)(U:Ak wid=true)(B:fl wid=some ev)(V:Bw ev=cL p 0)(W:Dc (cL p 0) 3)(D:fj mp T (gN c (n0,wid)::L))
  (X: ∀f e o,EW g f s (k+1) sh (l.set i e) o (du fl wid (ev++ [gO])) an O->e.p=y.p/\e.name=y.name/\e.f=y.f->(∀ m,y.u m<=e.u m)->(∀ a r E,Bf o (FZ a r E)=Bf mp (FZ a r E))->Bw (ev++ [gO])=j6 p 0->fj o T L->Mod (bo g O) h f->R (J6 J9 0) f):
  AA A P Dl #[Ar cb] h R:=by
 have Y:=b.lq u U B V S W;have F:=t.w.sorted;have row:=D.row F (r:=gN c (n0,wid)) (by simp);refine EW.jr (k':=k+1) J t u K (λa=>by have:=M a;have:=d.u a;rw[d.f];omega) (by omega) (by omega) N (by rw[b.ao];unfold iI at w ⊢;rw[d.f,d.name];exact w) (by rw[b.ao];exact Q) Y (λ_ f e ad ae Z G H j aa q ab=>?_) λac=>?_
 ·rw[b.close] at G;subst G;rw[b.wd,B,HI,b.more] at H q;rw[b.st] at q;refine X f e _ H ⟨j.p.trans d.p,j.name.trans d.name,j.f.trans d.f⟩ (λm=>by have:=d.u m;have:=j.u m;omega) aa q ?_ ab;rw[b.ar];refine D.take F λI n=>?_
  rcases List.mem_append.1 n with h|h
  ·exact lM.iU Z I h
  ·rw[List.mem_singleton.1 h,show BL (R3 c 5 num)=109 from xE _ _ _];decide
 ·refine absurd (λI n=>?_) ac;rw[b.conds] at n;rw[List.mem_singleton.1 n];exact tD (r:=gN c (n0,wid)) row.1 rfl
end
abbrev Tq:=Nat×Nat×A2Q
abbrev TT:=Nat->List (Nat×A2Q)
def Ji(a:Tq):Pr:=gN a.1 a.2
def gr(L:List Tq)(x:Tq):List Tq:=L.take (aP (Ji x).key (L.map Ji))++x::L.drop (aP (Ji x).key (L.map Ji))
theorem ANh(L:List Tq)(x:Tq):(gr L x).Perm (x::L):=by have:=Hh (a:=x) (l₁:=L.take (aP (Ji x).key (L.map Ji))) (l₂:=L.drop (aP (Ji x).key (L.map Ji)));rw[CN] at this;exact this
theorem AP9 {L:List Tq}{x:Tq}(s:Sorted (L.map Ji))(b: ∀a∈L,(Ji a).key≠(Ji x).key):fh (L.map Ji) (Ji x)=(gr L x).map Ji:=by
 have c:BF (Ji x).key (L.map Ji)=false:=by
  cases d:BF (Ji x).key (L.map Ji) with
  |false=>rfl
  |true=>
   obtain⟨a,j,e⟩:=(zB (Ji x).key s).1 d;obtain⟨f,g⟩:=M.ML e;obtain⟨h,i,rfl⟩:=List.mem_map.1 g;exact absurd f (b h i)
 unfold fh gr;rw[c];simp only[Cp,if_false,AW,Pc,B9,List.map_drop,A3];rfl
theorem tE {a:Type}{p:a->Bool}: ∀ {l:List a},(∀ x∈l,p x=true)->l.takeWhile p=l
 | [],_=>rfl
 |x::l,b=>by rw[IS,b x (by simp),if_pos rfl,tE λc d=>b c (by simp[d])]
theorem ANJ {L:List Tq}{x:Tq}(b: ∀a∈L,aM (Ji a).key (Ji x).key=true):gr L x=L++ [x]:=by
 have c:aP (Ji x).key (L.map Ji)=L.length:=by
  unfold M.aP M.gB;rw[show(L.map Ji).takeWhile (λa=>aM a.key (Ji x).key)=L.map Ji from tE λa d=>by
   obtain⟨e,f,rfl⟩:=List.mem_map.1 d;exact b e f,AN]
 unfold gr;rw[c,BE,IT]
def QV(T:TT)(L:List Tq):List Tq:=L++((T 0).map (λt=>(0,t))++((T 1).map (λt=>(1,t))++(T 2).map λt=>(2,t)))
theorem NH {T:TT}{c:Nat}{l:List (Nat×A2Q)}:dE T c l c=l:=if_pos rfl
theorem tF {c:Nat}{t:Nat×A2Q}{T:TT}{l:List (Nat×A2Q)}{L:List Tq}(g:c<3)(d:T c=t::l):(QV T L).Perm ((c,t)::QV (dE T c l) L):=by
 have a: ∀b,b≠c->dE T c l b=T b:=λb f=>if_neg f
 have e:dE T c l c=l:=NH;unfold QV;rcases(by omega:c=0\/c=1\/c=2) with rfl|rfl|rfl
 ·rw[a 1 (by decide),a 2 (by decide),e,d,B9,Dd];exact Hh
 ·rw[a 0 (by decide),a 2 (by decide),e,d,B9,Dd];rw[<- A3,<-A3];exact Hh
 ·rw[a 0 (by decide),a 1 (by decide),e,d,B9];rw[<- A3,<-A3,<-A3,<-A3];exact Hh
theorem APW {c:Nat}{t:Nat×A2Q}{T:TT}{l:List (Nat×A2Q)}{L:List Tq}(a:c<3)(b:T c=t::l):(QV (dE T c l) (gr L (c,t))).Perm (QV T L):=by refine List.Perm.trans ?_ (tF (L:=L) a b).symm;unfold QV;exact(ANh L (c,t)).append_right _
theorem AQO {c:Nat}{t:Nat×A2Q}{T:TT}{L:List Tq}(f:c<3):(QV (dE T c (T c++ [t])) L).Perm ((c,t)::QV T L):=by
 have a: ∀b,b≠c->dE T c (T c++ [t]) b=T b:=λb e=>if_neg e
 have d:dE T c (T c++ [t]) c=T c++ [t]:=NH;unfold QV;rcases(by omega:c=0\/c=1\/c=2) with rfl|rfl|rfl
 ·rw[a 1 (by decide),a 2 (by decide),d,AW,A3,<-A3 L];refine List.Perm.trans Hh ?_;rw[A3];exact GW _
 ·rw[a 0 (by decide),a 2 (by decide),d,AW,A3,<-A3,<-A3];refine List.Perm.trans Hh ?_;rw[A3,A3];exact GW _
 ·rw[a 0 (by decide),a 1 (by decide),d,AW,<-A3,<-A3,<-A3];refine List.Perm.trans Hh ?_;rw[show([]:List (Nat×A2Q)).map (λt=>(2,t))= [] from rfl,AK,A3,A3]
theorem tG {c:Nat}{t:Nat×A2Q}{T:TT}{L:List Tq}(b:c<3)(a:t∈T c):(c,t)∈QV T L:=by unfold QV;rcases(by omega:c=0\/c=1\/c=2) with rfl|rfl|rfl<;>simp[a]
theorem pS {a:Tq}{T:TT}{L:List Tq}(b:a∈L):a∈QV T L:=Hc _ b
def Started(b:cu)(wid:A2Q):Prop:=Ak wid=true/\ ∃p a,b wid=some a/\Bw a=cL p 0
structure Uk (fl:cu) (y:Hs) (l:List Tq):Prop where
 one: ∀q∈l,q.1<3/\Ap q.2.2 3=q.1/\q.2.1<=16777216+y.u q.1/\Started fl q.2.2
 keys:(l.map λq=>(q.1,q.2.1)).Nodup
 iv:(l.map λq=>q.2.2).Nodup
theorem Uk.perm {c:cu}{d:Hs}{l e:List Tq}(a:Uk c d l)(b:e.Perm l):Uk c d e:=
 ⟨λf g=>a.one f (b.mem_iff.1 g),(b.map _).nodup_iff.2 a.keys,(b.map _).nodup_iff.2 a.iv⟩
theorem Uk.aj {b:cu}{c d:Hs}{l:List Tq}(a:Uk b c l)(f: ∀m,c.u m<=d.u m):Uk b d l:=
 ⟨λe g=>by obtain⟨h,i,j,k⟩:=a.one e g;exact⟨h,i,AE j (by have:=f e.1;omega),k⟩,a.keys,a.iv⟩
theorem Uk.tail {c:cu}{d:Hs}{q:Tq}{l:List Tq}{x:List Ev}(a:Uk c d (q::l)):Uk (du c q.2.2 x) d l:=by
 have e:=List.nodup_cons.1 a.iv;refine⟨λb f=>?_,(List.nodup_cons.1 a.keys).2,e.2⟩;obtain⟨g,h,i,j,p,k,m,n⟩:=a.one b (AG _ f);have ne:b.2.2≠q.2.2:=λo=>e.1 (List.mem_map.2 ⟨b,f,o⟩)
 exact⟨g,h,i,j,p,k,by rw[NI ne];exact m,n⟩
theorem Uk.more {f:cu}{g h:Hs}{q:Tq}{l:List Tq}{x:List Ev}{p:cj}(d:Uk f g l)(o: ∀m,g.u m<=h.u m)(k:q.1<3/\Ap q.2.2 3=q.1)(r:16777216+g.u q.1<q.2.1/\q.2.1<=16777216+h.u q.1)(s:Ak q.2.2=true)(t:f q.2.2=none)(u:Bw x=cL p 0):Uk (du f q.2.2 x) h (q::l):=by
 have ne: ∀a∈l,a.2.2≠q.2.2:=λa b c=>by
  obtain⟨_,_,_,_,p,n,e,_⟩:=d.one a b;rw[c,t] at e;cases e
 refine⟨λa b=>?_,List.nodup_cons.2 ⟨λi=>?_,d.keys⟩,List.nodup_cons.2 ⟨λi=>?_,d.iv⟩⟩
 ·rcases List.mem_cons.1 b with rfl|b
  ·exact⟨k.1,k.2,r.2,s,p,x,Jr,u⟩
  ·obtain⟨v,w,j,y,p,n,e,z⟩:=d.one a b;exact⟨v,w,AE j (by have:=o a.1;omega),y,p,n,by rw[NI (ne a b)];exact e,z⟩
 ·obtain⟨a,b,c⟩:=List.mem_map.1 i;have j:=(d.one a b).2.2.1;simp only[Mb] at c;rw[c.1,c.2] at j;omega
 ·obtain⟨a,b,c⟩:=List.mem_map.1 i;exact ne a b c
theorem Uk.fresh {e:cu}{b:Hs}{x:Tq}{l:List Tq}(c:Uk e b (x::l))(i:b.u x.1<1000000){a:Tq}(d:a∈l)(j:b.u a.1<1000000):(Ji a).key≠(Ji x).key:=λf=>by
 obtain⟨k,m,n,o⟩:=c.one x (Cl);obtain⟨p,q,r,s⟩:=c.one a (AG _ d);obtain⟨g,h⟩:=ANm (by omega) (by omega) (by show a.2.1<18446744073709551616;omega) (by show x.2.1<18446744073709551616;omega) f;refine(List.nodup_cons.1 c.keys).1 (List.mem_map.2 ⟨a,d,?_⟩);show(a.1,a.2.1)=(x.1,x.2.1);rw[g,h]
section
variable {A : aq} {g h : aa} {s k : Nat} {y y0 y1 : Hs} {mp : List Pr} {fl : cu} {an : cK} {O : Nat -> Prop} {R : A2P} {T : TT} {L : List Tq}
theorem ARn {a:Nat}(t:bY g)(b:EW g h s a 3 [y,y1] mp (λ_=>none) (λ_=>none) O)(u:a<3)(e:jP mp y a)(v:Ak y.name=true)
  (w: ∀c f,EW g c s (a+1) 3 [y.mO a 1,y1] f (λ_=>none) (λ_=>none) O->jP f (y.mO a 1) (a+1)->Mod (bo g O) h c->f=cz mp [⟨CF a,Jn 1 y.name,false⟩]->R (J1 #[J6 J9 1,J6 J9 0]) c):
  AA A P FD #[Ar y.p,J6 J9 (a:Int)] h R:=by
 have F:Uj.C=32000:=rfl;have hA:Uj.A=1600:=rfl;have d:=b.w.sorted;refine b.w.acquire (i:=0) (x:=y) (r:=0) (nm:=⟨#[]⟩) t rfl u ((e.iw a (A0 _)).2 (by omega)) (by decide) (by omega) (by omega) (by omega) (by omega) λc B C=>?_
 refine w c _ ⟨B.put (A0 _) (by omega) (by omega) (by omega),b.m.aN d (λp D=>?_),λz j m=>?_⟩ ⟨λm E=>?_,λm E=>?_⟩ C rfl
 ·rw[List.mem_singleton.1 D];show BL (CF a)≠104/\BL (CF a)≠119/\BL (CF a)≠114;rw[Ri];decide
 ·rcases List.mem_cons.1 j with rfl|j
  ·have:=b.all y (by simp) m;show dC y.u a 0 m<=_/\dC y.f a 1 m<=_;unfold dC;constructor<;>split<;>omega
  ·have:=b.all z (AG _ j) m;omega
 ·show dC y.f a 1 m=1/\_;unfold dC;by_cases l:m=a
  ·subst l;rw[if_pos rfl];exact⟨rfl,GK.laid d (by decide) (by decide) v⟩
  ·rw[if_neg l];obtain⟨n,o⟩:=e.has m (by omega);exact⟨n,o.other d λq=>l (zJ (by omega) (by omega) q).symm⟩
 ·show dC y.f a 1 m=0/\_;unfold dC;rw[if_neg (by omega)];obtain⟨n,o⟩:=e.iw m (by omega);exact⟨n,λh=>(o h).other d λq=>by have:=zJ (by omega) h q;omega⟩
structure QW (g h:aa) (s k:Nat) (y0 y1:Hs) (mp:List Pr) (fl:cu) (an:cK) (O:Nat->Prop) (T:TT) (L:List Tq):Prop where
 w:EW g h s k 3 [y0,y1] mp fl an O
 q:fj mp T (L.map Ji)
 own: ∀n,n<3->iI mp y0 n/\y0.f n=1
 ok:Uk fl y0 (QV T L)
theorem QW.dm {b:aa}{O':Nat->Prop}(a:QW g h s k y0 y1 mp fl an O T L)(d:Mod O h b)(e: ∀c,O' c->O c\/(h.size<=c/\c<b.size)):QW g b s k y0 y1 mp fl an O' T L:=⟨a.w.own d e,a.q,a.own,a.ok⟩
theorem QW.on {b:aa}(a:QW g h s k y0 y1 mp fl an O T L)(x:Ext h b):QW g b s k y0 y1 mp fl an O T L:=⟨a.w.on x,a.q,a.own,a.ok⟩
theorem QW.less {O':Nat->Prop}(a:QW g h s k y0 y1 mp fl an O T L)(b: ∀c,O' c->O c):QW g h s k y0 y1 mp fl an O' T L:=⟨a.w.less b,a.q,a.own,a.ok⟩
theorem QW.up {b:Nat}(a:QW g h s k y0 y1 mp fl an O T L)(c:k<=b)(d:b<=500):QW g h s b y0 y1 mp fl an O T L:=⟨a.w.up c d,a.q,a.own,a.ok⟩
theorem QW.ub(b:QW g h s k y0 y1 mp fl an O T L)(a:Nat):y0.u a<=3*k/\y0.f a<=k:=b.w.all y0 (by simp) a
theorem QW.start {x:cq}{p:cj}{J:J0}(K:bY g)(a:QW g h s k y0 y1 mp fl an O T L)(M:k+1<=490)(r:x.kind=1)(V:View QP h x.steps p.steps)(N:x.az=p.az)(Q:p.az=0)(len:p.steps.length<=1099511627776)(z:PM x p=0)(S:an x.bA=none)(f:fl x.wid=none)(j:Ak x.wid=true)
  (U: ∀d b B C,QW g d s (k+1) b y1 B (du fl x.wid [⟨1,1,0,0,0,0,false,AX (Ci p)⟩,⟨2,2,0,0,0,0,false,⟨#[]⟩⟩]) (du an x.bA (Lu x p,0,3)) O (dE T (Ap x.wid 3) (T (Ap x.wid 3)++ [(C,x.wid)])) L->b.p=y0.p->Mod (bo g O) h d->(∀ q∈QV T L,q.1=Ap x.wid 3->q.2.1<C)->R (dR 0 0 3).v d):
  AA A P Dg #[Ar y0.p,J,J6 J9 0,x.v] h R:=by
 have c:=XB x.wid (n:=3) (by decide);have W:=a.w.w.sorted;have ub:=a.ub (Ap x.wid 3);refine a.w.iq (i:=0) K rfl M (a.own _ c).1 V N len (by decide) λd b B aj ak D st nx w e X Y Z aa=>?_
 obtain⟨rfl,rfl,rfl,rfl,rfl,ab⟩:=Z.start r z S f (by decide);obtain⟨ac,al,am,ao⟩:=Za z;rcases aa with rfl|⟨n0,n1,n2,l,E,ap,rfl,-,F⟩
 ·exfalso;have G:=w.m.fS x.wid j;rw[a.w.m.fS x.wid j,f,Jr] at G;cases G
 rw[f] at E F;obtain⟨ad,v,w2⟩:=AI1 (n:=Ap x.wid 3) (n0:=n0) (n1:=n1) (n2:=n2) (now:=0) r (ac r) j (by decide) Q;rw[<- E] at w2;obtain⟨u,aq,ar,ae⟩:=F ad;rw[(a.own _ c).2,Jx] at ae;have H: ∀q∈QV T L,q.1=Ap x.wid 3->q.2.1<n1:=λq o D=>by
  have:=(a.ok.one q o).2.2.1;rw[D] at this;omega
 have au:=(w.all b (Cl) (Ap x.wid 3)).1;refine U d b _ n1 ⟨w,?_,λn af=>?_,?_⟩ e.p Y H
 ·have ag:EA l++l.ar=(EA l++ [⟨Kb x.bA,v,false⟩])++cZ (Ap x.wid 3) (n1,x.wid):: []:=by rw[w2,A3];rfl
  rw[ag];refine a.q.made W c (λq o=>?_) (by show n1<18446744073709551616;omega) λt ah=>H _ (tG c ah) rfl
  rw[AK] at o;rcases List.mem_append.1 o with h|h
  ·exact lM.iU l q h
  ·rw[List.mem_singleton.1 h];show BL (Kb x.bA)≠116/\BL (Kb x.bA)≠113;rw[LG];decide
 ·obtain⟨I,ai⟩:=a.own n af;refine⟨?_,by rw[e.f];exact ai⟩;unfold iI at I ⊢;rw[e.f,e.name,X];exact I
 ·refine Uk.perm ?_ (AQO (t:=(n1,x.wid)) (L:=L) c);exact a.ok.more (q:=(Ap x.wid 3,n1,x.wid)) (λm=>(e.u m).1) ⟨c,rfl⟩ ⟨by show 16777216+y0.u (Ap x.wid 3)<n1;omega,by show n1<=16777216+b.u (Ap x.wid 3);omega⟩ j f ab
end
def ja(c:Nat)(l:List (Nat×A2Q))(L:List Tq):List Tq:=l.foldl (λL t=>gr L (c,t)) L
theorem AM5 {c:Nat}{l:List (Nat×A2Q)}{L:List Tq}{t:Nat×A2Q}:ja c (l++ [t]) L=gr (ja c l L) (c,t):=by unfold ja;rw[Hi];rfl
theorem tI {T:TT}{c:Nat}{l a:List (Nat×A2Q)}:dE (dE T c l) c a=dE T c a:=by funext b;unfold dE;split<;>rfl
theorem tJ {T:TT}{c:Nat}:dE T c (T c)=T:=by
 funext b;unfold dE;split
 ·rename_i a;rw[a]
 ·rfl
def kL(l:List Tq):Prop:=(∀ c∈l,c.1=0/\c.2.1<jR)/\l.Pairwise λa b=>a.2.1<b.2.1
theorem kL.iu: ∀ {l r:List (Nat×A2Q)} {L:List Tq},kL (L++(l++r).map λt=>(0,t))->ja 0 l L=L++l.map λt=>(0,t)
 | [],_,L,_=>by
  rw[Mu,AK];rfl
 |t::l,r,L,a=>by
  have d:gr L (0,t)=L++ [(0,t)]:=ANJ λb c=>by
   have e:=(a.1 b (by simp[c])).1;have f:=(a.1 (0,t) (by simp)).2;have g:=(List.pairwise_append.1 a.2).2.2 b c (0,t) (by simp);show aM (EG b.1 b.2.1) (EG 0 t.1)=true;rw[e];exact APE f g
  show ja 0 l (gr L (0,t))=_;rw[d,kL.iu (r:=r) (by rw[A3];exact a),A3];rfl
theorem AHX {a:List Ev}{p:cj}(c:Rv a)(d:Bw a=cL p 0):a.length=2/\Dc (cL p 0) 3:=by
 have b:=c.next.1;rw[d] at b;have b:(3:Int)=a.length+1:=b;have e:a.length=2:=by omega
 have f:=UO Dc.zero c.ok;rw[d,e] at f;exact⟨e,f.up (by omega)⟩
section
variable {A : aq} {g h : aa} {s k : Nat} {y0 y1 : Hs} {mp : List Pr} {fl : cu} {an : cK} {O : Nat -> Prop} {R : A2P} {T : TT} {L : List Tq}
theorem ARl {wid:A2Q}{c v:Nat}{G:List Ev}{p:cj}{I a b J:Sl}(E:bY g)(w:QW g h s k y0 y1 mp fl an (λc=>O c\/Tm (cL p 0) a b J c) T ((c,v,wid)::L))(cn:k+1<=490)(V:View dU h I G)(a1: ∀c,I.ah=some c->O c)(a2:JI h (cL p 0) a b J)(no: ∀c,Tm (cL p 0) a b J c-> ¬O c)(aD:fl wid=some G)(aF:Bw G=cL p 0)
  (bt: ∀B a3 ar a4,QW g B s (k+1) a3 y1 ar (du fl wid (G++ [gO])) an O T L->a3.p=y0.p->Mod (bo g O) h B->a4.len=3->R (J1 #[(⟨0,0,0,⟨1,wid,3,0⟩,⟨#[]⟩,a4⟩:bj).v,J3 true]) B):
  AA A P RV #[Ar y0.p,(⟨wid,(c:Int),⟨0,3,false⟩,I,(cL p 0).V a b J⟩:bS).v,(⟨1,wid,2,0⟩:cm).v,.agg #[J7 (EG c v),J7 (dZ wid),J3 false],J6 J9 0] h R:=by
 obtain⟨bu,co,-,aG,-⟩:=w.ok.one (c,v,wid) (pS (by simp));obtain⟨bv,a5⟩:=AHX (w.w.m.dG _ _ aD) aF;have cp:Uj.C=32000:=rfl;have ub:=w.ub c;have cq:=FE aG;refine AEH ?_;unfold Yg;refine al.mk λaH _ au bw W=>al.mk λbx _ aI a6 cr=>al.mk λbz _ aJ aK cs=>al.mk λad _ a7 av ct=>?_
 have ag:Ext h ad:=((bw.trans a6).trans aK).trans av;have au:=(a6.trans (aK.trans av)).ah au λh=>h
 have aI:=(aK.trans av).ah aI λh=>h
 have aJ:=av.ah aJ λh=>h
 generalize cu:h.size=aw at*
 generalize cv:aH.size=bA at*
 generalize cw:bx.size=cx at*
 generalize cy:bz.size=cz at*
 have cB:=Ah a7;refine F7.mk (⟨wid,(c:Int),⟨0,3,false⟩,I,(cL p 0).V a b J⟩:bS) (OX au) ?_
 let F:Nat->Prop:=λq=>O q\/(h.size<=q/\q<ad.size)
 have aL: ∀q,aw<=q->q<ad.size->F q:=λq cC aH=> .inr ⟨by omega,aH⟩
 have bB: ∀q,Tm (cL p 0) a b J q->q<h.size:=λq d=>a2.lt d
 have cD:=ag.size;refine ua (l:= [y0,y1]) (i:=0) (y:=y0) (O:=F) (ao:=c) (now:=0) (w.w.w.own ag.mod λq d=>?_) (by simp) (a2.ext ag) (λq d aM=>?_) λcE bC z cF bD N=>⟨_,rfl,?_⟩
 ·rcases d with(h|h)|h
  ·exact .inl (.inl h)
  ·exact .inr h
  ·exact .inl (.inr h)
 ·have:=bB q d;rcases aM with h|h
  ·exact no q d h
  ·omega
 have r:=N.ah au λh=>h
 have o:=N.ah aI λh=>h
 have aO:=N.ah aJ λh=>h
 have u:=N.ah a7 λh=>h
 refine AJ.mk (n:=EG c v) (AO aO rfl) (AJ.mk (n:=dZ wid) (AB aO rfl) (Ac.mk (n:=false) (AB aO rfl) ?_));refine APc bD (by show 0<1000;decide) (by show 0<1000;decide) λcG cH cI bE X=>⟨rfl,?_⟩
 have aN: ∀ {q:Nat} {a8:Obj} {B M:aa},B[q]? =some a8->aw<=q->q<ad.size->Mod (bo g F) B M->M[q]? =some a8:=λbF bG bH m=>bo.aN m bF (aL _ bG bH)
 have r:=aN r (by omega) (by omega) X;have o:=aN o (by omega) (by omega) X;have u:=aN u (by omega) (by omega) X;refine F7.mk (⟨wid,(c:Int),⟨0,3,false⟩,I,(cL p 0).V a b J⟩:bS) (OX r) (JA.mk (⟨1,wid,2,0⟩:cm) (Cr o rfl) ?_);refine tv (f:=(⟨wid,(c:Int),⟨0,3,false⟩,I,(cL p 0).V a b J⟩:bS)) (t:=⟨1,wid,2,0⟩) rfl λcJ Q=>⟨_,_,rfl,?_⟩
 have r:=Q.ah r λh=>h
 have o:=Q.ah o λh=>h
 have u:=Q.ah u λh=>h
 have bI:=bE.on Q;refine ai.mk λK bJ=>af.no rfl (AC.mk (n:=1) (AO o rfl) (af.yes rfl (AC.mk (n:=2) (AB o rfl) ?_)))
 refine ZF (n:=3) (e:=UB 2) bI a5 (by decide) (by show 0<1099511627776;decide) (by show 0<1000;decide) λcK cM cN a9 Y=>⟨rfl,?_⟩
 have r:=aN r (by omega) (by omega) Y;have o:=aN o (by omega) (by omega) Y;have u:=aN u (by omega) (by omega) Y;have ba:=take_add (C:=iO (Hy wid c 0 3 false (cL p 0) 0) (EG c v) (dZ wid)) (p:=p) (t:=0) rfl rfl (by decide:(0:Int)<=0/\(0:Int)<=1099511627776);have bb:(Dn (iO (Hy wid c 0 3 false (cL p 0) 0) (EG c v) (dZ wid)) (UB 2)).st=j6 p 0:=by rw[ba]
 have bK:Sa (Dn (iO (Hy wid c 0 3 false (cL p 0) 0) (EG c v) (dZ wid)) (UB 2))=3:=by unfold Sa;rw[bb];rfl
 refine uc a9 (by rw[bb];exact(by decide:(0:Int)<=4/\(4:Int)<=501)) ⟨_,rfl,?_⟩;rw[bK];refine ae.bL (j:=2) (dH:=(⟨1,wid,3,0⟩:cm).c) o (of_decide_eq_true rfl) rfl λcO bc ah cP=>AC.mk (n:=3) (AB bc rfl) ?_
 have r:=ah.ah r (by omega);have u:=ah.ah u (by omega);have bL:=a9.wider (O':=F) (ah.aj λq _ d=>by subst d;exact aL _ (by omega) (by omega)) λq d=> .inl d
 rw[show J8 J9 ((0:Int)+5)=5 from by decide];have ax:(Dn (iO (Hy wid c 0 3 false (cL p 0) 0) (EG c v) (dZ wid)) (UB 2)).ao=c/\(Dn (iO (Hy wid c 0 3 false (cL p 0) 0) (EG c v) (dZ wid)) (UB 2)).ar.length=1:=by rw[ba];exact⟨rfl,rfl⟩
 refine qd (t:=⟨4,⟨#[]⟩,3,0⟩) (tick:=5) bL (by rw[ax.1];omega) (by rw[ax.1];omega) (by rw[ax.1];omega) (by omega) (by omega) (by rw[ax.2];decide) (by decide) λbM bN bO bP num aP bQ cQ Z=>⟨rfl,bJ _ _ ?_⟩
 have r:=aN r (by omega) (by omega) Z;have o:=aN bc (by omega) (by omega) Z;have u:=aN u (by omega) (by omega) Z;have bR:=AJt (key:=EG c v) (c:=c) (num:=num) (p:=p) aG;have bT:(Du (Dn (iO (Hy wid c 0 3 false (cL p 0) 0) (EG c v) (dZ wid)) (UB 2)) ⟨4,3,0⟩ 5 num).fits G:=Uv (PI (by
  show El Sy (G++ [])=some (cL p 0);rw[AK];exact(w.w.m.dG _ _ aD).ok.trans (congrArg some aF)))
 have aP:CW Uj g bM s k (3*k+1) 3 [y0,y1] 0 bP mp F bC bN bO (Du (Dn (iO (Hy wid c 0 3 false (cL p 0) 0) (EG c v) (dZ wid)) (UB 2)) ⟨4,3,0⟩ 5 num):=aP;refine AHP E aP w.w.m w.w.all w.ub bQ (by omega) (w.own c bu).1 (by omega) bR bT aG aD aF a5 w.q λS bd ar be ay bU bV jw bW ab=>⟨_,rfl,af.no rfl (af.no rfl ?_)⟩
 have r:=aN r (by omega) (by omega) ab;have o:=aN o (by omega) (by omega) ab;have u:=aN u (by omega) (by omega) ab;have cR:ad.size<=S.size:=by have:=N.size;have:=X.size;have:=Q.size;have:=Y.size;have:=Z.size;have:=ab.size;omega
 have bX:QW g S s (k+1) bd y1 ar (du fl wid (G++ [gO])) an F T L:=⟨be,bW,λn bZ=>by
  obtain⟨bf,b0⟩:=w.own n bZ;refine⟨?_,by rw[ay.2.2];exact b0⟩;unfold iI at bf ⊢;rw[ay.2.2,ay.2.1,bV];exact bf,(Uk.tail (q:=(c,v,wid)) (l:=QV T L) w.ok).aj bU⟩
 have aQ:=be.m.dG wid _ Jr;have bg:View dU S I G:=by
  have H: ∀ {B M:aa},Mod (bo g F) B M->Mod (λq=>bo g F q\/q=bA) B M:=λm=>m.aj λq _ d=> .inl d
  refine((V.ext ag).ext N).dx ((H X).trans (Q.mod.trans ((H Y).trans ((ah.aj λq _ d=> .inr d).trans ((H Z).trans (H ab)))))) λ_ q d az=>?_
  have:=(w.w.w.out (.inl (a1 q d))).1;rcases az with az|az
  ·exact az.2 (.inl (a1 q d))
  ·omega
 refine JA.mk (⟨1,wid,3,0⟩:cm) (Cr o rfl) (tt (x:=⟨0,0,0,⟨1,wid,3,0⟩,⟨#[]⟩,⟨none,0,0⟩⟩) λaj aR U=>?_);have ac:=U.ah r λh=>h
 have aA:=U.ah o λh=>h
 have cS:=U.ah u λh=>h
 refine ai.mk λcT b1=>AC.mk (n:=1) (AO aA rfl) (af.yes rfl (ai.mk λb2 b3=>?_))
 have fin: ∀(ak:aa) (sl:Sl),Ext S ak->ak[S.size]? =some (J2 (⟨0,0,0,⟨1,wid,3,0⟩,⟨#[]⟩,sl⟩:bj).c Ae (0,0))->View dU ak sl (G++ [gO])->b2 () ak:=λak sl bh aS bi=>by
  refine b3 _ _ (AZ.mk (s:=sl) (AB aS rfl) (u0 bi aQ.len (λe b4=>?_) aQ.ok λcU cV cW cX aC cY cZ=>Gl.mk _ ⟨_,_,rfl,al.mk λc0 _ b5 bk c1=>aE.mk b5 (A0 12) λb6 c2 bm c3=>af.no rfl (b1 _ _ ?_)⟩))
  ·obtain⟨i,b7⟩:=F0 b4;have:=U0 (aQ.next.2 i e b7).2;omega
  have aT:Ext S b6:=(bh.trans (aC.trans bk)).more bm λq d=>by subst d;exact(bh.trans aC).size
  have c4:=Ah aS;have b8:=bm.ah ((aC.trans bk).ah aS λh=>h) (by have:=aC.size;omega);have b9:=aT.ah u λh=>h
  refine Dr.mk (⟨0,0,0,⟨1,wid,3,0⟩,⟨#[]⟩,sl⟩:bj) (Kj b8) (aE.mk b9 (A0 9) λbn bp bq c5=>?_);rw[Ky] at bp;refine Dr.mk (⟨0,0,0,⟨1,wid,3,0⟩,⟨#[]⟩,sl⟩:bj) (Kj bp) ?_;have ca:=bX.dm (O':=F) (aT.mod.trans (bq.aj λq _ d=>by subst d;exact aL _ (by omega) (by omega))) λq d=> .inl d
  refine bt bn bd ar sl (ca.less λq d=> .inl d) ay.1 ?_ (by rw[bi.len,A1,bv];rfl);have H: ∀ {B M:aa},Mod (bo g F) B M->Mod (λq=>bo g O q\/aw<=q) B M:=λm=>m.aj λq _ d=> .inl (bo.less d λq aM=> .inl aM)
  have cb:Mod (λq=>bo g O q\/aw<=q) h bn:=ag.mod.trans (N.mod.trans ((H X).trans (Q.mod.trans ((H Y).trans ((ah.aj λq _ d=> .inr (by omega)).trans ((H Z).trans ((H ab).trans (aT.mod.trans (bq.aj λq _ d=> .inr (by omega))))))))));exact cb.aj λq cc d=>d.elim id λh=>absurd cc (by omega)
 have c6:S.size<aj.size:=Ah aR;refine AZ.mk (s:=I) (AB ac rfl) (AC.mk (n:=3) (AB aA rfl) (AC.mk (n:=2) (by rw[add_add];exact AB ac rfl) ⟨?_,?_⟩))
 ·refine tw (bg.ext U) (by omega) λaU cd ce br D=>⟨_,rfl,by rw[add_add];exact AB (D.ah ac λh=>h) rfl,AB (D.ah aA λh=>h) rfl,?_⟩
  refine al.jt (λB cf=>AB (cf.ah (D.ah ac λh=>h) λh=>h) rfl) ?_;refine al.aY (E:=dU) (x:=gO) (s:=aU) rfl mD ce (by omega) (by simp only[maxLen];omega) λW aV aW aX aY _=>?_
  have am:Ext aj aV:=D.more aX br;refine ae.bL (j:=8) (dH:=(⟨0,0,0,⟨1,wid,3,0⟩,⟨#[]⟩,W⟩:bj).c) (am.ah aR λh=>h) (of_decide_eq_true rfl) rfl λaZ a0 ap cg=>?_
  refine fin aZ W ((U.trans am).more ap λq d=>by subst d;exact A0 _) a0 (aW.view.mod ap λq d e=>?_);rcases aY q d with h|h
  ·have:=br q h;omega
  ·have:=D.size;omega
 ·refine al.mk λcd _ ch D c7=>⟨AB (D.ah ac λh=>h) rfl,?_⟩
  have ci:=(bg.ext U).ext D;refine tw ci (by omega) λaU ck cl bs aq=>⟨_,rfl,by rw[add_add];exact AB (aq.ah (D.ah ac λh=>h) λh=>h) rfl,AB (aq.ah (D.ah aA λh=>h) λh=>h) rfl,?_⟩
  have src:View dU ck ⟨some ⟨aj.size,0,none⟩,1,1⟩ [gO]:=(Own.lit (E:=dU) (l:= [gO]) (aq.ah ch λh=>h) rfl (by simp[maxLen])).view;refine Fz (E:=dU) (s:=aU) (src:=⟨some ⟨aj.size,0,none⟩,1,1⟩) mD cl src (by simp only[Cd];omega) (by simp only[Cd,maxLen];omega) λW aV aW aX aY _=>?_
  have am:Ext aj aV:=(D.trans aq).more aX λq d=>by have:=bs q d;have:=D.size;omega
  refine ae.bL (j:=8) (dH:=(⟨0,0,0,⟨1,wid,3,0⟩,⟨#[]⟩,W⟩:bj).c) (am.ah aR λh=>h) (of_decide_eq_true rfl) rfl λaZ a0 ap cg=>?_
  refine fin aZ W ((U.trans am).more ap λq d=>by subst d;exact A0 _) a0 (aW.view.mod ap λq d e=>?_);have c8:=D.size;have c9:=aq.size;rcases aY q d with h|h
  ·have:=bs q h;omega
  ·omega
end
abbrev Sq(b:Int):bj:=⟨b,0,0,⟨0,⟨#[]⟩,0,0⟩,⟨#[]⟩,⟨none,0,0⟩⟩
theorem ATR {h:aa}{b:Nat}{d:Int}{K:bj->aa->Prop}(i:h[b]? =some (J2 bj.z.c Ae (0,0)))(j: ∀e,Mod (· =b) h e->K (Sq d) e):aE h ⟨b,0,none⟩ (Sq d).l λc=>Dr c ⟨b,0,none⟩ λl=>K l c:=
 aE.mk i (A0 9) λc f m n=>Dr.mk (Sq d) (Kj (by rw[Ky] at f;exact f)) (j c m)
section
variable {A : aq} {g h : aa} {s k : Nat} {y0 y1 : Hs} {mp : List Pr} {fl : cu} {an : cK} {O : Nat -> Prop} {R : A2P} {T : TT} {L : List Tq} {a : Q2}
theorem tK {p:Q6}{name:A2Q}(b:name=⟨#[]⟩\/Ak name=true){K:Bool×Unit->aa->Prop}(d:K (false,()) h):
  af ((some p).isNone) (K (true,()) h) (af (!bO name (⟨#[]⟩:A2Q)) (AA A P Bj #[J7 name] h λi j=> ∃e:Bool,i=J3 e/\(K ((!e),()) j)) (K (false,()) h)):=by
 refine af.no rfl ?_;by_cases c:name=⟨#[]⟩
 ·refine af.no ?_ d;rw[CU,c];rfl
 ·have b:=b.resolve_left c;refine af.yes ?_ (FL ⟨_,rfl,by rw[b];exact d⟩);cases f:bO name ⟨#[]⟩ with
  |false=>rfl
  |true=>rw[CU] at f;exact absurd (of_decide_eq_true f) c
theorem tL {p:Int}{name:A2Q}{i:Nat}{l:List Hs}{y:Hs}(q:EW g h s k 3 l mp fl an O)(r:l[i]? =some y)(b:name=⟨#[]⟩\/Ak name=true)(t:Kk (Kz name) mp= [])(u: ∀d,Ext h d->R (Sq 200).v d):AA A P BN #[Ar y.p,J5 a,J6 J9 p,J7 name] h R:=by
 have I:name.size<=16:=by
  rcases b with h|h
  ·rw[h];decide
  ·exact FE h
 refine WL ?_;unfold R6;refine al.mk λv _ w e J=>ai.mk λK z=>tK b (z _ _ (af.no rfl ?_))
 refine Loop.rule (λm x B=>m=0/\x=((⟨#[]⟩:A2Q),())/\v=B) ?_ ⟨rfl,rfl,rfl⟩;rintro M m _ _ ⟨rfl,rfl,rfl⟩ N;refine ai.mk λQ S=>?_
 have f:=q.on e;refine f.w.store r ⟨_,rfl,pO (by omega) λU j=>⟨_,rfl,?_⟩⟩;have C:=f.on j;refine C.w.scan (by have:=RL (name:=name) (by omega);omega) λps V n W D=>⟨_,_,rfl,af.no rfl ?_⟩
 rw[pP,t] at n;have E:=n.len;refine af.yes (by rw[E];rfl) ?_;have o:=j.trans D;exact ATR (o.ah w λh=>h) λF G=>u F ((e.trans o).more G λc H=>by subst H;exact A0 _)
theorem ZN {c n0:Nat}{wid:A2Q}(ay:bY g)(e:QW g h s k y0 y1 mp fl an O T ((c,n0,wid)::L))(az:k+1<=490)
  (aA: ∀E z F ac f,QW g E s (k+1) z y1 F ac an O T L->z.p=y0.p->(∀ B,B≠wid->ac B=fl B)->Mod (bo g O) h E->f.len=3->R (⟨0,0,0,⟨1,wid,3,0⟩,⟨#[]⟩,f⟩:bj).v E):
  AA A P BN #[Ar y0.p,J5 a,J6 J9 0,J7 ⟨#[]⟩] h R:=by
 obtain⟨aC,G,-,C,p,aD,t,ad⟩:=e.ok.one (c,n0,wid) (pS (by simp));have C:Ak wid=true:=C;have t:fl wid=some aD:=t;have G:Ap wid 3=c:=G;refine WL ?_;unfold R6;refine al.mk λH _ I j bb=>ai.mk λK aF=>tK (.inl rfl) (aF _ _ (af.no rfl ?_))
 refine Loop.rule (λm x aG=>m=0/\x=((⟨#[]⟩:A2Q),())/\H=aG) ?_ ⟨rfl,rfl,rfl⟩;rintro bc m _ _ ⟨rfl,rfl,rfl⟩ bd;refine ai.mk λbe bf=>?_
 have J:=e.on j;refine J.w.w.store (i:=0) rfl ⟨_,rfl,pO (by decide) λbg M=>⟨_,rfl,?_⟩⟩;have aH:=J.on M;refine aH.w.w.scan (by have:=RL (name:=⟨#[]⟩) (by decide);omega) λps aI u bh ae=>⟨_,_,rfl,af.no rfl ?_⟩
 rw[pP,e.q.li] at u;have u:Own BR AR aI ps [Ji (c,n0,wid)]:=u;have aJ:ps.len=1:=u.len;refine af.no (by rw[aJ];rfl) (u.view.idx (i:=0) rfl λbi _ aK=>?_);obtain⟨aL,aM,aN⟩:=aK.pair;refine AJ.mk aL (AJ.mk aM (Ac.mk aN (al.pair λbk aO bm N ag bn=>AJ.mk (n:=EG c n0) (AO N rfl) ⟨?_,AJ.mk (n:=dZ wid) (AB N rfl) ?_⟩)))
 ·rw[R8,max_i64];decide
 have aP:Gx ⟨1,2,0⟩ wid=true:=O9 (by decide) C (by decide);refine tu aP λbp D=>la.mk _ ⟨_,rfl,al.mk λbq _ aQ ah br=>aE.mk aQ (A0 4) λQ aj ak bs=>af.no rfl (AJ.mk (n:=wid) (AB aj rfl) ?_)⟩
 have l:Ext H Q:=((((M.trans ae).trans ag).trans D).trans ah).more ak λb d=>by subst d;exact(((M.trans ae).trans ag).trans D).size
 have aR:Ext aO Q:=(D.trans ah).more ak λb d=>by subst d;exact D.size
 have am:=J.on l;refine sQ (i:=0) am.w.w rfl am.w.m C t λao aS o q r aT V S fr aU aV=>SS.mk _ ⟨_,rfl,al.mk λbt _ aW aX bu=>aE.mk aW (A0 18) λv w aY bv=>af.no rfl ?_⟩
 rw[ZY] at w;rw[ad] at w S;rw[G] at w;have y:Ext ao v:=aX.more aY λb d=>by subst d;exact A0 _
 have U:=aT.trans y;have W:=l.trans U;have ap:=j.trans W;have aZ:=S.ext y;have lt: ∀b,Tm (cL p 0) o q r b->Q.size<=b/\b<ao.size:=λb d=>⟨fr b (by rcases d with⟨_,h⟩|⟨_,h⟩|⟨_,h⟩<;>simp[h]),S.lt d⟩
 have aq:QW g v s k y0 y1 mp fl an (λb=>(O b\/(h.size<=b/\b<v.size/\ ¬Tm (cL p 0) o q r b))\/Tm (cL p 0) o q r b) T ((c,n0,wid)::L):=e.dm ap.mod λb d=>by
  have bw:=(j.trans l).size;have bx:=y.size;rcases d with(h|h)|h
  ·exact .inl h
  ·exact .inr ⟨h.1,h.2.1⟩
  ·have:=lt b h;exact .inr ⟨by omega,by omega⟩
 have own:=e.own c aC;refine AC.mk (n:=(c:Int)) (AB w rfl) (aq.w.w.holds (i:=0) rfl ⟨_,rfl,af.no (by rw[own.2];rfl) ?_⟩);have X:=(aR.trans U).ah N λh=>h
 have a0:=U.ah aj λh=>h
 refine F7.mk (⟨wid,(c:Int),⟨0,3,false⟩,aS,(cL p 0).V o q r⟩:bS) (OX w) (JA.mk (⟨1,wid,2,0⟩:cm) (Cr a0 rfl) (AJ.mk (n:=EG c n0) (AO X rfl) (AJ.mk (n:=dZ wid) (AB X rfl) (Ac.mk (n:=false) (AB X rfl) ?_))));have bz:=e.w.w.on j;refine ARl ay aq az (V.ext y) (λb d=>?_) aZ (λb d Y=>?_) t ad λbA z F f a1 a2 ar a3=>EC.mk _ ⟨_,rfl,tt (x:=⟨0,0,0,⟨1,wid,3,0⟩,⟨#[]⟩,f⟩) λbB a4 Z=>ai.mk λbC a5=>af.yes rfl (a5 _ _ (af.yes rfl ?_))⟩
 ·have bD:=aU b d;have H:=(j.trans l).size;refine .inr ⟨by omega,?_,λaa=>?_⟩
  ·have:=V.mP (λab=>by
    have:=(e.w.m.dG _ _ t).ne;exact this ab) d
   have:=y.size;omega
  ·have:=aV b b d (by rcases aa with⟨_,h⟩|⟨_,h⟩|⟨_,h⟩<;>simp[h]);omega
 ·have:=lt b d;rcases Y with h|h
  ·have:=(e.w.w.out h).1;have:=(j.trans l).size;omega
  ·exact h.2.2 d
 have au: ∀ {b:Nat},b=h.size->(O b\/(h.size<=b/\b<v.size/\ ¬Tm (cL p 0) o q r b)):=λ{b} ab=>by
  subst ab;refine .inr ⟨A0 _,?_,λaa=>?_⟩
  ·have:=Ah I;have:=W.size;omega
  ·have:=lt _ aa;have:=Ah I;have:=l.size;omega
 have a6:=Z.ah (bo.aN ar (W.ah I λh=>h) (au rfl)) λh=>h
 refine Dr.mk (⟨0,0,0,⟨1,wid,3,0⟩,⟨#[]⟩,f⟩:bj) (Kj a4) (aE.mk a6 (A0 9) λav aw ax bE=>?_);rw[Ky] at aw;refine Dr.mk (⟨0,0,0,⟨1,wid,3,0⟩,⟨#[]⟩,f⟩:bj) (Kj aw) ?_;have a7:=a1.dm (O':=λb=>O b\/(h.size<=b/\b<v.size/\ ¬Tm (cL p 0) o q r b)) (Z.mod.trans (ax.aj λb _ d=>au d)) λb d=> .inl d
 refine aA av z F _ f (a7.less λb d=> .inl d) a2 (λB a8=>NI a8) ?_ a3;have a9:Mod (λb=>bo g O b\/h.size<=b) h av:=ap.mod.trans ((ar.aj λb _ d=> .inl (bo.less d λb Y=> .inl Y)).trans (Z.mod.trans (ax.aj λb _ d=> .inr (by omega))));exact a9.aj λb ba d=>d.elim id λh=>absurd ba (by omega)
end
theorem AK4 {mp b:List Pr}(s:Sorted mp)(h: ∀p∈b,BL p.key≠108)(c d:Nat)(e:A2Q):Bf (cz mp b) (FZ c d e)=Bf mp (FZ c d e):=by
 have f:Af (CF c) (cz mp b)=Af (CF c) mp:=KG s λi j l=>h i j ((congrArg BL l).trans (Ri c))
 rw[OI,OI];unfold Iu;rw[f]
abbrev kN(c:Nat)(t:Nat×A2Q):List Pr:= [⟨DF c t.1,⟨#[]⟩,true⟩,Ji (c,t)]
theorem APf(c:Nat)(t:Nat×A2Q): ∀p∈kN c t,BL p.key=116\/BL p.key=113:=by
 intro p b;simp only[GB,IH,or_false] at b;rcases b with rfl|rfl
 ·exact .inl (R4 _ _)
 ·exact .inr (Qc _ _)
theorem ATy {mp:List Pr}{c:Nat}{t:Nat×A2Q}{b:Pr}(f:Bf mp b=true)(i:Ak t.2=true)(j:Af (DF c t.1) mp=some (cZ c t)):dw mp (b:: [⟨DF c t.1,dZ t.2,false⟩]) (kN c t)=0:=by
 have m:=Mr c t.1;have n:=R8 c t.1;have o:=xF (kind:=1) (wid:=t.2) (ref:=2) (turn:=0) (by decide) (FE i) (by decide) (by decide);have l:EY (kN c t)=0:=pG (by simp) (by simp) λp d=>by
  simp only[GB,IH,or_false] at d;rcases d with rfl|rfl
  ·exact sS (PW (by omega)) (by omega)
  ·exact OQ (k:=EG c t.1) (v:=mq 1 t.2 2 0) (PW (by omega)) (by omega) (by omega)
 unfold dw;rw[if_neg (by simp),if_neg (by rw[l];decide),if_pos];refine List.all_eq_true.2 λq e=>?_
 simp only[GB,IH,or_false] at e;rcases e with rfl|rfl
 ·exact f
 ·exact tD (r:=cZ c t) j rfl
section
variable {A : aq} {g h : aa} {s k : Nat} {y0 y1 : Hs} {mp : List Pr} {fl : cu} {an : cK} {O : Nat -> Prop} {R : A2P} {T : TT} {L : List Tq} {a : Q2}
theorem QW.go {o:aa}{c:Nat}{t:Nat×A2Q}{l:List (Nat×A2Q)}(b:QW g h s k y0 y1 mp fl an O T L)(i:c<3)(j:T c=t::l)(E:k+1<=490)(v:LW Uj g o s (k+1) (3*k) 3 [y0,y1] (cz mp (kN c t)) O):QW g o s (k+1) y0 y1 (cz mp (kN c t)) fl an O (dE T c l) (gr L (c,t)):=by
 have F:Uj.C=32000:=rfl;have e:=b.w.w.sorted;have q:=APf c t;refine⟨⟨v.put (A0 _) (by omega) (by omega) (by omega),b.w.m.aN e λp m=>?_,λw y n=>by have:=b.w.all w y n;omega⟩,?_,λn z=>?_,b.ok.perm (APW i j)⟩
 ·rcases q p m with d|d<;>rw[d]<;>decide
 ·have f:=b.q.iu e i j;have r:=H7 (P:=Kz ⟨#[]⟩) e;rw[b.q.li] at r;have B:=b.ok.perm (tF (L:=L) i j).symm;rw[show fh (L.map Ji) (gN c t)=(gr L (c,t)).map Ji from AP9 (x:=(c,t)) r λf C=>B.fresh (by have:=b.ub c;show y0.u c<1000000;omega) (pS C) (by have:=b.ub f.1;omega)] at f;exact f
 ·obtain⟨u,D⟩:=b.own n z;refine⟨?_,D⟩;unfold iI at u ⊢;rw[AK4 e λp m=>by rcases q p m with d|d<;>rw[d]<;>decide];exact u
theorem tM {c:Nat}(E:bY g)(j:QW g h s k y0 y1 mp fl an O T L)(r:c<3)(bw:k+8<=490)
  (aI: ∀u G,QW g u s (k+8) y0 y1 G fl an O (dE T c ((T c).drop 8)) (ja c ((T c).take 8) L)->Mod (bo g O) h u->h.size<=u.size->R (J1 #[J6 J9 ((((T c).take 8).length:Nat):Int),J6 J9 0]) u):
  AA A P OD #[Ar y0.p,J5 a,J6 J9 (c:Int)] h R:=by
 have bx:Uj.C=32000:=rfl;have hA:Uj.A=1600:=rfl;have own:=j.own c r;refine AEI ?_;unfold YL;refine ai.mk λK aJ=>af.no rfl (af.no (decide_eq_false (by omega)) (j.w.w.aH (i:=0) rfl ⟨_,rfl,aJ _ _ (af.no (decide_eq_false (by show ¬(3:Int)<=(c:Int);omega)) ?_)⟩))
 refine j.w.w.holds (i:=0) rfl ⟨_,rfl,af.no (by rw[own.2];rfl) (j.w.w.store (i:=0) rfl ⟨_,rfl,ANz (by omega) λbz H=>⟨_,rfl,?_⟩⟩)⟩;refine(j.on H).w.w.scan (by unfold Lm;rw[AP];show 2<=1099511627776;decide) λps o v aK aL=>⟨_,_,rfl,af.no rfl ?_⟩
 rw[pP,j.q.tr c r,<-Pc] at v;have v:Own BR AR o ps (((T c).take 8).map (cZ c)):=v;have B:ps.len=((T c).take 8).length:=by rw[v.len,AN]
 have bA:((T c).take 8).length<=8:=by rw[AD];omega
 have I:=H.trans aL;have aM:=j.dm (O':=λb=>O b\/(h.size<=b/\b<o.size)) I.mod λb d=>d
 refine Loop.rule (λm x q=> ∃(e:Nat) (G:List Pr),x=((e:Int),())/\m=8-e/\e<=ps.len/\QW g q s (k+e) y0 y1 G fl an (λb=>O b\/(h.size<=b/\b<o.size)) (dE T c ((T c).drop e)) (ja c ((T c).take e) L)/\Mod (bo g λb=>O b\/(h.size<=b/\b<o.size)) o q/\o.size<=q.size) ?_
  ⟨0,mp,rfl,rfl,As _,by rw[JT,tJ];exact aM,Mod.refl,A0 _⟩
 rintro bB m _ q ⟨e,mp,rfl,rfl,bC,j,J,bD⟩ aN;dsimp only;have aO: ∀ {u:aa},Mod (bo g λb=>O b\/(h.size<=b/\b<o.size)) q u->Mod (bo g O) h u:=λm=>I.mod.trans ((J.trans m).aj λb _ d=>bo.less d λb N=> .inl N)
 refine af.intro (λd=>?_) (λd=>?_);rotate_left
 ·have aP:e=ps.len:=by have:=of_decide_eq_false d;omega
  subst aP;have aQ:(T c).drop ps.len=(T c).drop 8:=by
   rw[B,AD];rcases Nat.le_total 8 (T c).length with h|h
   ·rw[Fm h]
   ·rw[My h,IT,Mz h]
  have aR:(T c).take ps.len=(T c).take 8:=by
   rw[B,AD];rcases Nat.le_total 8 (T c).length with h|h
   ·rw[Fm h]
   ·rw[My h,BE,AF h]
  rw[aQ,aR] at j;rw[B];exact aI q mp ((j.up (by omega) (by omega)).less λb d=> .inl d) (aO Mod.refl) (by have:=I.size;omega)
 have ah:e<ps.len:=by have:=of_decide_eq_true d;omega
 have Q:e<(T c).length:=by rw[B,AD] at ah;omega
 obtain⟨t,C⟩: ∃t,(T c)[e]? =some t:=⟨_,A2 Q⟩;have hd:(T c).drop e=t::(T c).drop (e+1):=by rw[DH Q];rw[A2 Q] at C;cases C;rfl
 have aS:(T c).take (e+1)=(T c).take e++ [t]:=by rw[Ax,C];rfl
 have S:dE T c ((T c).drop e) c=t::(T c).drop (e+1):=by rw[NH,hd]
 have aT:(c,t)∈QV (dE T c ((T c).drop e)) (ja c ((T c).take e) L):=tG r (by rw[S];simp);obtain⟨-,U,-,y,p,aU,W,aV⟩:=j.ok.one _ aT;have y:Ak t.2=true:=y;have W:fl t.2=some aU:=W;have U:Ap t.2 3=c:=U;have aW:=j.w.w.sorted;have aX: ∀b,ps.ah=some b->h.size<=b/\b<o.size:=λb d=>⟨by have:=aK b d;have:=H.size;omega,v.lt d⟩
 have aY:View BR q ps (((T c).take 8).map (cZ c)):=v.view.mod J λb d aZ=>aZ.2 (.inr (aX b d))
 refine aY.idx (i:=e) (x:=cZ c t) (by rw[By,F2,if_pos (by omega),C];rfl) λbE _ a0=>?_
 obtain⟨a1,a2,a3⟩:=a0.pair;refine AJ.mk a1 (AJ.mk a2 (Ac.mk a3 (al.pair λa4 a5 bF aj a6 bG=>AJ.mk (n:=dZ t.2) (AB aj rfl) ?_)));have a7:Gx ⟨1,2,0⟩ t.2=true:=O9 (by decide) y (by decide);refine tu a7 λbH ak=>la.mk _ ⟨_,rfl,al.mk λbI _ a8 a9 bJ=>aE.mk a8 (A0 4) λam ao ba bK=>af.no rfl (AJ.mk (n:=t.2) (AB ao rfl) ?_)⟩
 have ap:Ext a5 am:=(ak.trans a9).more ba λb d=>by subst d;exact ak.size
 have X:=a6.trans ap;refine sR (i:=0) (j.on X).w.w rfl j.w.m y W λbL aq ar au av bb V bM fr bN=>SS.mk _ ⟨_,rfl,al.mk λbO _ bc bd bP=>aE.mk bc (A0 18) λw Y be bQ=>af.no rfl ?_⟩
 rw[ZY] at Y;rw[aV,U] at Y;have D:Ext am w:=bb.trans (bd.more be λb d=>by subst d;exact A0 _);have Z:=(ap.trans D).ah aj λh=>h
 have bf:=D.ah ao λh=>h
 refine AJ.mk (n:=DF c t.1) (AO Z rfl) (al.mk λbR _ bg z bT=>ai.mk λbU bh=>?_);have bi:=z.ah Z λh=>h
 refine F7.mk (⟨t.2,(c:Int),⟨0,3,false⟩,aq,(cL p 0).V ar au av⟩:bS) (OX (z.ah Y λh=>h)) (JA.mk (⟨1,t.2,2,0⟩:cm) (Cr (z.ah bf λh=>h) rfl) ?_);refine tv (f:=(⟨t.2,(c:Int),⟨0,3,false⟩,aq,(cL p 0).V ar au av⟩:bS)) (t:=⟨1,t.2,2,0⟩) rfl λbV aw=>⟨_,_,rfl,af.yes rfl ?_⟩
 have F:=aw.ah bi λh=>h
 refine AJ.mk (n:=DF c t.1) (AO F rfl) ⟨⟨by decide,by rw[Mr];decide⟩,AJ.mk (n:=dZ t.2) (AB F rfl) ?_⟩;have bj:(DF c t.1).extract ((1:Int).toNat) (DF c t.1).size=AX (Br c::IX 8 t.1):=by show(DF c t.1).extract 1 (DF c t.1).size=_;unfold DF;rw[VJ];rfl
 rw[bj];refine AMq (by decide) (by rw[AP];show 9<=1000000;decide) λbk ab=>⟨_,rfl,AB (ab.ah F λh=>h) rfl,?_⟩
 rw[AP8];have ac:=aw.trans ab;have bm:Own BR AR bk ⟨some ⟨w.size,0,none⟩,1,1⟩ [⟨DF c t.1,⟨#[]⟩,true⟩]:=Own.lit (E:=BR) (l:= [⟨DF c t.1,⟨#[]⟩,true⟩]) (ac.ah bg λh=>h) rfl (by simp[maxLen]);refine al.aY (E:=BR) (x:=Ji (c,t)) (s:=⟨some ⟨w.size,0,none⟩,1,1⟩) rfl M.G5 bm (by simp only[Cd];decide) (by simp only[Cd,maxLen];decide) λbn ad ax ae bp _=>bh _ _ ?_
 have bW:=X.size;have bX:=D.size;have bZ:=z.size;have b0:=ac.size;have b1:=ae.size;have bq:Ext q ad:=(X.trans (D.trans (z.trans ac))).more ae λb d=>by
  have d:w.size=b:=by simpa [Sl.ah] using d
  omega
 have b2:=Ah Z;have ay:=ae.ah (ab.ah F λh=>h) λaz=>by
  have az:w.size=a4:=by simpa [Sl.ah] using az
  omega
 refine AJ.mk (n:=DF c t.1) (AO ay rfl) (AJ.mk (n:=dZ t.2) (AB ay rfl) (al.mk λaA _ br ag b3=>?_));have bs:View BR aA ⟨some ⟨ad.size,0,none⟩,1,1⟩ [⟨DF c t.1,dZ t.2,false⟩]:=(Own.lit (E:=BR) (l:= [⟨DF c t.1,dZ t.2,false⟩]) br rfl (by simp[maxLen])).view;have aC:=bq.trans ag;have aD:=j.dm (O':=λb=>(O b\/(h.size<=b/\b<o.size))\/(q.size<=b/\b<aA.size)) aC.mod λb d=>d
 have b4:=ag.size;have ub:=j.ub c;have row:=j.q.cZ aW r (t:=t) (by rw[S];simp);have bt:=ATy (c:=c) (t:=t) (j.own c r).1.2 y row;refine aD.w.w.change (i:=0) (x:=y0) (conds:=⟨some ⟨ad.size,0,none⟩,1,1⟩) (sl:=bn) (cl:= [⟨DF c t.1,dZ t.2,false⟩]) (lp:=kN c t) E rfl (by omega) (by omega) (by omega) (by omega) (by omega) bs (by simp) (ax.view.ext ag) (λ_ b d=> .inr (.inr ?_)) (λb d=>by
  rw[List.mem_singleton.1 d];show(DF c t.1).size<=_;rw[Mr];decide) (λbu=>absurd bu (j.own c r).1.1) (λ_ aF=>by rw[(j.own c r).1.2] at aF;cases aF) (λ_ _ hd=>absurd bt hd) λ_ _ _ b5 bv aG=>⟨_,rfl,af.no rfl ?_⟩
 ·have:=ax.lt d;refine⟨?_,by omega⟩;rcases bp b d with h|h
  ·have h:w.size=b:=by simpa [Sl.ah] using h
   omega
  ·omega
 rw[Aa (by omega)];have aH:=(aD.go r S (by omega) bv).less (O':=λb=>O b\/(h.size<=b/\b<o.size)) λb d=> .inl d
 rw[tI,<-AM5,<-aS] at aH;refine aN (8-(e+1)) _ _ (by omega) ⟨e+1,_,rfl,rfl,ah,aH,J.trans (aC.mod.trans (aG.aj λb _ d=>bo.less d λb N=> .inl N)),?_⟩;have:=aG.size;omega
end
section
variable {A : aq} {g h : aa} {s k : Nat} {mp : List Pr} {fl : cu} {an : cK} {O : Nat -> Prop} {R : A2P} {a : Q2}
theorem LW.ju {B:cH}{sh b:Nat}{Sb:Nat->Prop}{m:Bx}(l:bY g)(n:Cu h b Sb m)(d:Ext g h)(o: ∀c,Sb c->g.size<=c)(hd:m.down=false)(p:m.fuel= -1)(q: ∀f,ff m (aC nl f)=none)(r: ∀f,ff m (aC nn f)=none)(t: ∀x,ff m x≠none->(bl x).head? ≠some 116)(hA:1<=B.A)(u:bg m.files<=B.W0)(v: ∀c,O c->g.size<=c/\c<h.size/\ ¬Sb c)
  (w: ∀e s,LW B g e s 0 0 sh [] [] O->Mod (λc=>Sb c\/h.size<=c) h e->h.size<=s->R (J1 #[Ar s,J6 J9 0]) e):AA A P SA #[Ar b] h R:=
 ANK (B:=B) l n d o hd p q r t hA u λe s y z C D E M F mp j G H=>w e s ⟨y,z,C,D,E,0,F,A0 _,mp,⟨λi x d=>by simp at d,λi N x Q d=>by simp at d⟩,by omega,λc I=>by
  obtain⟨J,S,K⟩:=v c I;refine⟨Decidable.byContradiction λL=>?_,by have:=j.size;omega,J,by omega,λx d=>by cases d⟩;rcases G c L with h|h
  ·exact K h
  ·omega⟩ j H
end
def lO(i:Nat):A2Q:=AX [104,111,115,116,Br (48+i)]
abbrev tN(l:List Hs)(i:Nat):J0:=J5 ((l[i]?).map λb=>⟨b.p,0,none⟩)
abbrev SB(b s:Nat)(l:List Hs)(a:Nat):Array J0:= #[Ar b,Ar s,tN l 0,tN l 1,Ar a,J4 none 0 0,J4 none 0 0,J4 none 0 0,J4 none 0 0,J6 J9 0]
section
variable {A : aq} {g h : aa} {R : A2P}
theorem tO(E:bY g)(x:Ext g h)(ao: ∀J f b s t r u mp,EW g J s 3 3 [t,r] mp (λ_=>none) (λ_=>none) (λe=>e=f)->jP mp t 3->r.f=(λ_=>0)->J[f]? =some (J2 (SB b s [t,r] u) Aq (0,0))->Ext g J->h.size<=J.size->(∀ e,BL e≠108->Af e mp=none)->R (Ar f) J):AA A P Gm #[] h R:=by
 refine UZ ?_;unfold Nc;refine AQ5 λb ap Sb ab ac aq=>⟨_,rfl,al.mk λaV _ W X aW=>AY.mk (AO W rfl) ?_⟩
 have aX:=x.size;have aY:=ac.size;have aZ:=X.size;generalize a0:ap.size=f at*
 have lw:=Ah W;have ad: ∀c,Sb c->c<f:=λc D=>by have:=ab.lt D;omega
 refine LW.ju (B:=Uj) (sh:=3) (O:=λe=>e=f) E (ab.ext X) ((x.trans ac).trans X) (λc D=>by have:=aq c D;omega) rfl rfl (λn=>rfl) (λn=>rfl) (λx ar=>absurd rfl ar) (by decide) (by decide) (λc D=>by subst D;exact⟨by omega,lw,λT=>by have:=ad _ T;omega⟩) λau s av ag T=>⟨_,_,rfl,af.no rfl ?_⟩
 have ah:=ag.ah W λD=>D.elim (λT=>by have:=ad _ T;omega) λh=>by omega
 refine AY.mk (AO ah rfl) ?_;refine ACm ?_;unfold WF;refine al.mk λa1 _ a2 Y a3=>⟨_,rfl,?_⟩
 generalize a4:au.size=u at*
 have aw:=Y.ah ah λh=>h
 refine ae.bL (j:=1) aw (of_decide_eq_true rfl) rfl λa5 ax ay a6=>ae.bL (j:=4) (dH:=SB b s [] u) ax (of_decide_eq_true rfl) rfl λaz aA aC a7=>?_
 have aD:=av.own (O':=λe=>e=f) (Y.mod.trans (ay.trans aC)) λe d=> .inl d
 have a8:=ag.size;have a9:=Y.size;refine Loop.rule (λL x F=> ∃(l:List Hs),x=((l.length:Int),())/\L=2-l.length/\l.length<=2/\LW Uj g F s 0 0 3 l [] (λe=>e=f)/\(∀ (i:Nat) o,l[i]? =some o->o.name=lO i/\o.f=(λ_=>0)/\o.u=λ_=>0)/\F[f]? =some (J2 (SB b s l u) Aq (0,0))/\az.size<=F.size) ?_
  ⟨[],rfl,rfl,by decide,aD,λi o q=>by simp at q,aA,A0 _⟩
 rintro K L _ F ⟨l,rfl,rfl,aE,y,G,U,ba⟩ aF;dsimp only;refine af.intro (λd=>?_) (λd=>?_)
 ·have d:l.length<2:=by have:=of_decide_eq_true d;omega
  rw[show((48:Int)+(l.length:Int))=((48+l.length:Nat):Int) from by omega,Fb (by omega)];refine al.mk λaG _ aH Z bb=>?_
  have v1:View GN aG ⟨some ⟨F.size,0,none⟩,1,1⟩ [Br (48+l.length)]:=(Own.lit (E:=GN) (l:= [Br (48+l.length)]) aH (by
   show [Value.int .u8 (J8 .u8 ((48+l.length:Nat):Int))]= [Value.int .u8 ((Br (48+l.length)).toNat:Int)];rw[wrap_u8,DR (by omega),An (by omega)]) (by simp[maxLen])).view
  refine JP (s:=⟨some ⟨F.size,0,none⟩,1,1⟩) Wt ky Ol v1 ⟨_,rfl,⟨by rw[AP,max_i64];show((5:Nat):Int)<=9223372036854775807;decide,?_⟩⟩;rw[show(⟨#[104,111,115,116]⟩:A2Q)++AX [Br (48+l.length)]=lO l.length from by
   rw[show(⟨#[104,111,115,116]⟩:A2Q)=AX [104,111,115,116] from rfl,Aj];rfl]
  refine(y.on Z).host (name:=lO l.length) (by rcases(by omega:l.length=0\/l.length=1) with H|H<;>rw[H]<;>decide) (by decide) λaI p aJ aK aL ai=>⟨_,_,rfl,⟨by omega,by omega⟩,?_⟩
  have M:=(Z.trans ai).ah U λh=>h
  have aM:=(Z.trans ai).size;have aN: ∀j:Nat,((⟨f,0,none⟩:Q6).add 2).add (((j:Nat):Int).toNat*1)=(⟨f,0,none⟩:Q6).add (2+j):=λj=>by rw[add_add,A6,Bs]
  rw[aN];have fin: ∀C,Mod (· =f) aI C->C[f]? =some (J2 (SB b s (l++ [⟨p,aJ,aK,lO l.length,λ_=>0,λ_=>0⟩]) u) Aq (0,0))->K ((J8 J9 ((l.length:Int)+(1:Int))),()) C:=λC I N=>by
   rw[Aa (by omega)];have aO:=aL.own (O':=λe=>e=f) I λe d=> .inl d
   refine aF (2-(l.length+1)) _ _ (by omega) ⟨_,by rw[A1];rfl,by rw[A1];rfl,by rw[A1];exact d,aO,λi o q=>?_,N,by have:=I.size;omega⟩;rw[PA] at q;split at q
   ·exact G i o q
   ·rw[PB] at q;split at q
    ·cases q;rw[show i=l.length by omega];exact⟨rfl,rfl,rfl⟩
    ·cases q
  match l,aE,d,M,fin with
  | [],_,_,M,fin=>exact ae.bL (j:=2) M (of_decide_eq_true rfl) rfl λC N I aP=>af.no rfl (fin C I N)
  | [z],_,_,M,fin=>exact ae.bL (j:=3) M (of_decide_eq_true rfl) rfl λC N I aP=>af.no rfl (fin C I N)
  |_::_::_,_,d,_,_=>exact absurd d (by simp)
 ·have d:l.length=2:=by have:=of_decide_eq_false d;omega
  match l,d,G,y,U with
  | [t,r],_,G,y,U=>
   have V:=G 0 t rfl;have aa:=G 1 r rfl;refine Loop.rule (λL x w=> ∃(n:Nat) (o:Hs) (mp:List Pr),x=((n:Int),())/\L=3-n/\n<=3/\EW g w s n 3 [o,r] mp (λ_=>none) (λ_=>none) (λe=>e=f)/\jP mp o n/\o.p=t.p/\o.name=lO 0/\w[f]? =some (J2 (SB b s [t,r] u) Aq (0,0))/\F.size<=w.size/\ ∀e,BL e≠108->Af e mp=none) ?_
    ⟨0,t,[],rfl,rfl,by omega,⟨y,Jg.empty,λz w m=>by
     rcases List.mem_cons.1 w with rfl|w
     ·rw[V.2.1,V.2.2];exact⟨A0 _,A0 _⟩
     ·rw[List.mem_singleton.1 w,aa.2.1,aa.2.2];exact⟨A0 _,A0 _⟩⟩,⟨λn G=>by omega,λn _=>⟨by rw[V.2.1],λ_=>GK.empty⟩⟩,rfl,V.1,U,A0 _,λ_ _=>rfl⟩
   rintro bc L _ w ⟨n,o,mp,rfl,rfl,G,y,aj,Q,q,S,aM,ak⟩ aQ;dsimp only;refine af.intro (λd=>⟨by decide,AY.mk (n:=some ⟨o.p,0,none⟩) ?_ ?_⟩) (λd=>?_)
   ·have:=AB (j:=2) (v:=Ar t.p) S rfl;rw[Q];exact this
   ·have d:n<3:=by have:=of_decide_eq_true d;omega
    refine ARn E y d aj (by rw[q];decide) λbd aR aS aT am aU=>⟨_,_,rfl,af.no rfl ?_⟩
    rw[Aa (by omega)];exact aQ (3-(n+1)) _ _ (by omega) ⟨n+1,_,aR,rfl,rfl,d,aS,aT,Q,q,bo.aN am S rfl,by have:=am.size;omega,λe d=>by rw[aU,KG y.w.sorted λp Q H=>d (by rw[<- H,List.mem_singleton.1 Q];exact Ri n)];exact ak e d⟩
   ·have d:n=3:=by have:=of_decide_eq_false d;omega
    subst d;have S:w[f]? =some (J2 (SB b s [o,r] u) Aq (0,0)):=by
     have H:SB b s [o,r] u=SB b s [t,r] u:=by simp[SB,Q]
     rw[H];exact S
    exact ao w f b s o r u mp y aj aa.2.1 S y.w.ext (by omega) ak
end
theorem pre_nil {b:List Pr}{a:UInt8}{q:List UInt8}(s:Sorted b)(h: ∀q,BL q≠108->Af q b=none)(c:a≠108):Kk (AX (a::q)) b= []:=by
 refine List.filter_eq_nil_iff.2 λp d e=>?_
 have:=h p.key (by rw[tB e];exact c);rw[s.find d] at this;cases this
theorem QW.first {g h:aa}{s:Nat}{b e:Hs}{a:List Pr}{f:Nat->Prop}(d:EW g h s 3 3 [b,e] a (λ_=>none) (λ_=>none) f)(i:jP a b 3)(j: ∀q,BL q≠108->Af q a=none):QW g h s 3 b e a (λ_=>none) (λ_=>none) f (λ_=> []) []:=
 ⟨d,⟨λc _=>pre_nil d.w.sorted j (by decide),by rw[Qk];exact pre_nil d.w.sorted j (by decide)⟩,λl k=>⟨i.owns k,(i.has l k).1⟩,⟨λq m=>(by cases m),PC,PC⟩⟩
abbrev KJ(b s p0 p1 a:Nat):Array J0:= #[Ar b,Ar s,Ar p0,Ar p1,Ar a,J4 none 0 0,J4 none 0 0,J4 none 0 0,J4 none 0 0,J6 J9 0]
structure dv (g:aa) (s wb bb ab rb p0 p1:Nat) (q:Tq) (ph:Nat) (es:Sl) (B:List Nat) (hh:aa):Prop where
 w: ∃k y0 y1 mp fl an T,QW g hh s k y0 y1 mp fl an (λq=>q=wb\/q=rb\/q∈B) T (if ph=0 then [q] else [])/\y0.p=p0/\k<=100+ph
 cw:hh[wb]? =some (J2 (KJ bb s p0 p1 ab) Aq (0,0))
 cr:hh[rb]? =some (J2 (dR 0 0 3).c Ae (0,0))
 bs: ∀b∈B,hh[b]? =some (J2 bj.z.c Ae (0,0))/\b≠rb
 nd:B.Nodup
 el:ph≠0->es.len=3
abbrev iJ(q:Tq)(es:Sl):bj:=⟨0,0,0,⟨1,q.2.2,3,0⟩,⟨#[]⟩,es⟩
section
variable {A : aq} {g hh : aa} {s wb bb ab rb p0 p1 : Nat} {q : Tq} {ph : Nat} {es : Sl} {B : List Nat} {R : A2P}
theorem dv.c4(a:dv g s wb bb ab rb p0 p1 q ph es B hh):ag hh ((⟨wb,0,none⟩:Q6).add 4)=some (Ar ab):=AB a.cw rfl
theorem dv.c2(a:dv g s wb bb ab rb p0 p1 q ph es B hh):ag hh (((⟨wb,0,none⟩:Q6).add 2).add ((0:Int).toNat*1))=some (Ar p0):=AB (j:=2) a.cw rfl
theorem dv.new {K:Nat->aa->Prop}(f:dv g s wb bb ab rb p0 p1 q ph es B hh)(i: ∀b a,dv g s wb bb ab rb p0 p1 q ph es (b::B) a->K b a):al hh (J2 bj.z.c Ae) K:=by
 refine al.mk λa _ j x D=>i hh.size a ?_
 obtain⟨⟨k,l,m,n,o,p,T,r,t,u⟩,v,e,d,nd,w⟩:=f;refine⟨⟨k,l,m,n,o,p,T,r.dm x.mod λc y=>?_,t,u⟩,x.ah v λh=>h,x.ah e λh=>h,λb z=>?_,List.nodup_cons.2 ⟨λC=>?_,nd⟩,w⟩
 ·rcases y with h|h|h
  ·exact .inl (.inl h)
  ·exact .inl (.inr (.inl h))
  ·rcases List.mem_cons.1 h with h|h
   ·exact .inr (by omega)
   ·exact .inl (.inr (.inr h))
 ·rcases List.mem_cons.1 z with rfl|h
  ·exact⟨j,λE=>by have:=Ah e;omega⟩
  ·exact⟨x.ah (d b h).1 λh=>h,(d b h).2⟩
 ·have:=Ah (d _ C).1;omega
theorem dv.move {c:Nat}{f:Sl}{d:aa}(a:dv g s wb bb ab rb p0 p1 q ph es B hh)(m:Mod (bo g λq=>q=wb\/q=rb\/q∈B) hh d)(k: ∃i j l n o p T,QW g d s i j l n o p (λq=>q=wb\/q=rb\/q∈B) T (if c=0 then [q] else [])/\j.p=p0/\i<=100+c)(r:c≠0->f.len=3):dv g s wb bb ab rb p0 p1 q c f B d:=
 ⟨k,bo.aN m a.cw (.inl rfl),bo.aN m a.cr (.inr (.inl rfl)),λb e=>⟨bo.aN m (a.bs b e).1 (.inr (.inr e)),(a.bs b e).2⟩,a.nd,r⟩
theorem dv.one(e:bY g)(d:dv g s wb bb ab rb p0 p1 q 0 es B hh)(f: ∀a b,dv g s wb bb ab rb p0 p1 q 1 b B a->R (iJ q b).v a):AA A P BN #[Ar p0,Ar ab,J6 J9 0,J7 ⟨#[]⟩] hh R:=by obtain⟨i,v,j,w,x,k,T,l,rfl,y⟩:=d.w;refine ZN (c:=q.1) (n0:=q.2.1) (wid:=q.2.2) (L:= []) e l (by omega) λa m n o b p r _ t u=>f a b (d.move t ⟨i+1,m,j,n,o,k,T,p,r,by omega⟩ λ_=>u)
theorem dv.two(b:dv g s wb bb ab rb p0 p1 q 1 es B hh)(f: ∀a,dv g s wb bb ab rb p0 p1 q 2 es B a->R (Sq 200).v a):AA A P BN #[Ar p0,Ar ab,J6 J9 0,J7 ⟨#[]⟩] hh R:=by obtain⟨j,d,k,l,m,n,T,c,rfl,o⟩:=b.w;exact tL (i:=0) (y:=d) c.w rfl (.inl rfl) c.q.li λa e=>f a (b.move e.mod ⟨j,d,k,l,m,n,T,c.on e,rfl,by omega⟩ λ_=>b.el (by decide))
theorem dv.fin {d e:Nat}{n:aa->Prop}(a:dv g s wb bb ab rb p0 p1 q 2 es B hh)(j:d∈B)(b:e∈B)(o:d≠e)
  (u: ∀f,f[d]? =some (J2 (iJ q es).c Ae (0,0))->f[e]? =some (J2 (Sq 200).c Ae (0,0))->f[rb]? =some (J2 (dR 0 0 3).c Ae (0,0))->es.len=3->Ext g f->n f):
  aE hh ⟨d,0,none⟩ (iJ q es).l λp=>aE p ⟨e,0,none⟩ (Sq 200).l λk=>n k:=by
 obtain⟨x,y,z,C,D,E,T,v,rfl,F⟩:=a.w;refine aE.mk (a.bs d j).1 (A0 9) λp r l G=>aE.mk (l.ah (a.bs e b).1 λi=>o i.symm) (A0 9) λk t m H=>?_
 rw[Ky] at r t;have w:=v.dm (O':=λq=>q=wb\/q=rb\/q∈B) ((l.aj λc _ b=>by subst b;exact .inr (.inr j)).trans (m.aj λc _ h=>by subst h;exact .inr (.inr b))) λc b=> .inl b
 exact u k (m.ah r o) t (m.ah (l.ah a.cr λi=>(a.bs d j).2 i.symm) λi=>(a.bs e b).2 i.symm) (a.el (by decide)) w.w.w.ext
theorem dv.oV {b c:Nat}{d:aa->Prop}(e:dv g s wb bb ab rb p0 p1 q 2 es [c,b] hh)
  (f: ∀a,a[b]? =some (J2 (iJ q es).c Ae (0,0))->a[c]? =some (J2 (Sq 200).c Ae (0,0))->a[rb]? =some (J2 (dR 0 0 3).c Ae (0,0))->es.len=3->Ext g a->d a):
  aE hh ⟨b,0,none⟩ (iJ q es).l λi=>aE i ⟨c,0,none⟩ (Sq 200).l λj=>d j:=e.fin (by simp) (by simp) (λk=>by have:=e.nd;simp[k] at this) f
theorem dv.iy {b c:Nat}{d:aa->Prop}(e:dv g s wb bb ab rb p0 p1 q 2 es [b,c] hh)
  (f: ∀a,a[b]? =some (J2 (iJ q es).c Ae (0,0))->a[c]? =some (J2 (Sq 200).c Ae (0,0))->a[rb]? =some (J2 (dR 0 0 3).c Ae (0,0))->es.len=3->Ext g a->d a):
  aE hh ⟨b,0,none⟩ (iJ q es).l λi=>aE i ⟨c,0,none⟩ (Sq 200).l λj=>d j:=e.fin (by simp) (by simp) (λk=>by have:=e.nd;simp[k] at this) f
end
section
variable {A : aq} {g h : aa} {R : A2P}
theorem AJy(E:bY g)(x:Ext g h)(aO: ∀z,Ext g z->R (J3 true) z):AA A P Jd #[] h R:=by
 refine Tt ?_;unfold Nh;refine tO E x λF wb bb s r t ab S aP aQ bg C bh bi aR=>⟨_,rfl,af.no rfl ?_⟩
 have X:=QW.first aP aQ aR;have C:F[wb]? =some (J2 (KJ bb s r.p t.p ab) Aq (0,0)):=C;have v: ∀ {hh:aa},hh[wb]? =some (J2 (KJ bb s r.p t.p ab) Aq (0,0))->ag hh (((⟨wb,0,none⟩:Q6).add 2).add ((0:Int).toNat*1))=some (Ar r.p):=λG=>AB (j:=2) G rfl
 have w: ∀ {hh:aa},hh[wb]? =some (J2 (KJ bb s r.p t.p ab) Aq (0,0))->ag hh ((⟨wb,0,none⟩:Q6).add 4)=some (Ar ab):=λG=>AB (j:=4) G rfl
 have aS:=XB (⟨#[119]⟩:A2Q) (n:=3) (by decide);have lw:=Ah C;refine ai.mk λK aT=>?_
 have key: ∀(a:aa) (rb H e:Nat) (f:Hs) (S:List Pr) (i:cu) (k:cK) (o:Nat->Prop),QW g a s H f t S i k o (dE (λ_=> []) (Ap (⟨#[119]⟩:A2Q) 3) [(e,⟨#[119]⟩)]) []->f.p=r.p->H<=4->o wb->o rb->a[wb]? =some (J2 (KJ bb s r.p t.p ab) Aq (0,0))->a[rb]? =some (J2 (dR 0 0 3).c Ae (0,0))->K (some ⟨rb,0,none⟩,()) a:=λa rb H e f S i k o Y u bj au av Z aU=>by
  refine aT _ _ (OG (by decide) (by decide) (by decide) ⟨_,_,rfl,aD ⟨by decide,AY.mk (v Z) (aD (AY.mk (w Z) ?_))⟩⟩);rw[<- u];refine tM E Y aS (by omega) λaw ax T ay bk=>⟨_,_,rfl,ai.mk λaV az=>?_⟩
  rw[NH] at T az;have T:QW g aw s (H+8) f t ax i k o _ [(Ap (⟨#[119]⟩:A2Q) 3,e,⟨#[119]⟩)]:=T;have I:=bo.aN ay Z au;have aW:=bo.aN ay aU av;refine aD ⟨by decide,AY.mk (v I) (aD (AY.mk (w I) (aD ⟨by decide,AY.mk (v I) (aD (AY.mk (w I) ?_))⟩)))⟩;have aX: ∀c,(c=wb\/c=rb\/c∈([]:List Nat))->o c:=λc d=>by
   rcases d with h|h|h
   ·subst h;exact au
   ·subst h;exact av
   ·cases h
  have bm:dv g s wb bb ab rb r.p t.p (Ap (⟨#[119]⟩:A2Q) 3,e,⟨#[119]⟩) 0 Zf [] aw:=⟨⟨H+8,f,t,ax,i,k,_,T.less aX,u,by omega⟩,I,aW,λb G=>(by cases G),PC,λh=>absurd rfl h⟩;have fin: ∀(ac ad:Nat) (es:Sl) (a:aa),a[ac]? =some (J2 (iJ (Ap (⟨#[119]⟩:A2Q) 3,e,⟨#[119]⟩) es).c Ae (0,0))->a[ad]? =some (J2 (Sq 200).c Ae (0,0))->a[rb]? =some (J2 (dR 0 0 3).c Ae (0,0))->es.len=3->Ext g a->aV (some ⟨ac,0,none⟩,some ⟨ad,0,none⟩,()) a:=λac ad es a D J L M N=>by
   refine az _ _ (aD (AC.mk (n:=0) (AO L rfl) (af.yes rfl (af.yes rfl (af.yes rfl (aD (AC.mk (n:=0) (AO D rfl) (af.yes rfl (aD ?_)))))))));refine AC.mk (n:=3) (by rw[add_add];exact AB D rfl) (af.yes rfl (aD (AZ.mk (s:=es) (AB D rfl) (af.yes (by rw[M];rfl) (aD (AC.mk (n:=200) (AO J rfl) ?_))))));exact aO a N
  repeat' (first
   |exact dv.c4 (by assumption)
   |exact dv.c2 (by assumption)
   |exact dv.oV (by assumption) λa D J L M N=>fin _ _ _ a D J L M N
   |exact dv.iy (by assumption) λa D J L M N=>fin _ _ _ a D J L M N
   |refine dv.new (by assumption) λ_ _ _=>?_
   |refine dv.one E (by assumption) λ_ _ _=>EC.mk _ ⟨rfl,?_⟩
   |refine dv.two (by assumption) λ_ _=>EC.mk _ ⟨rfl,?_⟩
   |refine And.intro ?_ ?_)
 have aY: ∀sl:Sl,PM (pK sl ⟨#[114]⟩) ⟨[jQ],0⟩=0:=λsl=>by
  unfold PM;rw[if_neg (λh=>by have aZ:=h.2;exact absurd aZ (by decide)),if_neg];rintro(h|h|h)
  ·exact absurd h.1 (show ¬(1:Int)=2 by decide)
  ·exact absurd h (show ¬Ak ⟨#[119]⟩=false by decide)
  ·exact absurd h (show ¬Ak ⟨#[114]⟩=false by decide)
 have ae: ∀ {hh:aa} {O:Nat} {o:Nat->Prop} {ah:A2P},QW g hh s 3 r t S (λ_=>none) (λ_=>none) o (λ_=> []) []->hh[O]? =some (J2 jQ.c Bo (0,0))->
   (∀ z f y i k e,QW g z s 4 f t y i k o (dE (λ_=> []) (Ap (⟨#[119]⟩:A2Q) 3) [(e,⟨#[119]⟩)]) []->f.p=r.p->Mod (bo g o) hh z->ah (dR 0 0 3).v z)->
   AA A P Dg #[Ar r.p,.iface Dq (Ar ab),J6 J9 0,(pK ⟨some ⟨O,0,none⟩,1,1⟩ ⟨#[114]⟩).v] hh ah:=λ{hh O o ah} Y a0 a1=>by
  have V:View QP hh ⟨some ⟨O,0,none⟩,1,1⟩ [jQ]:=(Own.lit (E:=QP) (l:= [jQ]) a0 rfl (by decide)).view;exact QW.start (x:=pK ⟨some ⟨O,0,none⟩,1,1⟩ ⟨#[114]⟩) (p:=⟨[jQ],0⟩) E Y (by decide) rfl V rfl rfl (by decide) (aY _) rfl rfl (by show Ak ⟨#[119]⟩=true;decide) λz a2 y e a3 u m _=>a1 z a2 y _ _ e a3 u m
 refine aD ⟨by decide,AY.mk (v C) (aD (AY.mk (w C) ⟨?_,?_⟩))⟩
 ·refine al.mk λU _ aA aj bn=>?_
  have Q:=aj.ah C λh=>h
  refine⟨w Q,v Q,?_,?_⟩
  ·refine ae (X.on aj) aA λak f y i k e a4 u a5=>EC.mk _ ⟨rfl,?_⟩
   have aC:=bo.aN a5 Q rfl;refine al.mk λbp _ a6 aF bq=>?_
   have am:=aF.ah aC λh=>h
   refine⟨w am,v am,aE.mk a6 (A0 9) λa7 aG an br=>?_⟩;have bs:=Ah aC;exact key a7 ak.size 4 e f y i k (λc=>c=wb\/c=ak.size) (a4.dm (O':=λc=>c=wb\/c=ak.size) (aF.more an λc d=>by subst d;exact A0 _).mod λc d=>d.imp id λh=>by have:=an.size;omega) u (by decide) (.inl rfl) (.inr rfl) (an.ah am (by omega)) (by rw[Ky] at aG;exact aG)
  ·refine al.mk λbt _ a8 ao bu=>?_
   have ap:=ao.ah Q λh=>h
   have bv:=Ah Q;refine⟨w ap,v ap,ae ((X.on aj).dm (O':=λc=>c=wb\/c=U.size) ao.mod λc d=>d.imp id λh=>by omega) (ao.ah aA λh=>h) λbw f y i k e a9 u aH=>EC.mk _ ⟨rfl,?_⟩⟩;refine aE.mk (bo.aN aH a8 (.inr rfl)) (A0 9) λba aI aJ bx=>?_
   exact key ba U.size 4 e f y i k (λc=>c=wb\/c=U.size) (a9.dm (O':=λc=>c=wb\/c=U.size) (aJ.aj λc _ d=> .inr d) λc d=> .inl d) u (by decide) (.inl rfl) (.inr rfl) (aJ.ah (bo.aN aH ap (.inl rfl)) (by omega)) (by rw[Ky] at aI;exact aI)
 ·refine al.mk λbz _ bc aK bA=>?_
  have aq:=aK.ah C λh=>h
  refine⟨w aq,v aq,al.mk λbB _ bd W bC=>?_⟩;have ar:=W.ah aq λh=>h
  refine⟨w ar,v ar,ae (X.dm (O':=λc=>c=wb\/c=F.size) (aK.trans W).mod λc d=>d.imp id λh=>by have:=W.size;omega) bd λbD f y i k e be u aL=>EC.mk _ ⟨rfl,?_⟩⟩;refine aE.mk (bo.aN aL (W.ah bc λh=>h) (.inr rfl)) (A0 9) λbf aM aN bE=>?_
  exact key bf F.size 4 e f y i k (λc=>c=wb\/c=F.size) (be.dm (O':=λc=>c=wb\/c=F.size) (aN.aj λc _ d=> .inr d) λc d=> .inl d) u (by decide) (.inl rfl) (.inr rfl) (aN.ah (bo.aN aL ar (.inl rfl)) (by omega)) (by rw[Ky] at aM;exact aM)
end
section
variable {A : aq} {g h : aa} {s k : Nat} {y0 y1 : Hs} {mp : List Pr} {fl : cu} {an : cK} {O : Nat -> Prop} {R : A2P} {T : TT} {L : List Tq} {wb bb ab p0 p1 : Nat}
theorem w4(a:h[wb]? =some (J2 (KJ bb s p0 p1 ab) Aq (0,0))):ag h ((⟨wb,0,none⟩:Q6).add 4)=some (Ar ab):=AB a rfl
theorem w2(a:h[wb]? =some (J2 (KJ bb s p0 p1 ab) Aq (0,0))):ag h (((⟨wb,0,none⟩:Q6).add 2).add ((0:Int).toNat*1))=some (Ar p0):=AB (j:=2) a rfl
theorem w3(a:h[wb]? =some (J2 (KJ bb s p0 p1 ab) Aq (0,0))):ag h (((⟨wb,0,none⟩:Q6).add 2).add ((1:Int).toNat*1))=some (Ar p1):=AB (j:=3) a rfl
theorem AKs {a:Tq}{K:Q2×Unit->aa->Prop}(F:bY g)(G:QW g h s k y0 y1 mp fl an O T (a::L))(H:k+1<=490)(X:y0.p=p0)(I:O wb)(u:h[wb]? =some (J2 (KJ bb s p0 p1 ab) Aq (0,0)))
  (J: ∀i b e j f l,QW g i s (k+1) e y1 j f an O T L->e.p=p0->i[wb]? =some (J2 (KJ bb s p0 p1 ab) Aq (0,0))->(∀ w,w≠a.2.2->f w=fl w)->Mod (bo g O) h i->i[b]? =some (J2 (iJ a l).c Ae (0,0))->h.size<=b->K (some ⟨b,0,none⟩,()) i):
  And (AA A P BN #[Ar p0,Ar ab,J6 J9 0,J7 ⟨#[]⟩] h λv x=>EC λt=>v=t.v/\(
    al x (J2 bj.z.c Ae) λM m=>
    And (ag m ((⟨wb,0,none⟩:Q6).add 4)=some (Ar ab))<|
    And (ag m (((⟨wb,0,none⟩:Q6).add 2).add ((0:Int).toNat*1))=some (Ar p0))<|
    aE m (⟨M,0,none⟩:Q6) t.l λn=>K ((some (⟨M,0,none⟩:Q6)),()) n))<|
   al h (J2 bj.z.c Ae) λN o=>
   And (ag o ((⟨wb,0,none⟩:Q6).add 4)=some (Ar ab))<|
   And (ag o (((⟨wb,0,none⟩:Q6).add 2).add ((0:Int).toNat*1))=some (Ar p0))<|
   AA A P BN #[Ar p0,Ar ab,J6 J9 0,J7 ⟨#[]⟩] o λv Q=>EC λt=>v=t.v/\(
    aE Q (⟨N,0,none⟩:Q6) t.l λp=>K ((some (⟨N,0,none⟩:Q6)),()) p):=by
 subst X;have lw:=Ah u;constructor
 ·refine ZN F G H λx e j f l Y Z ac y ad=>EC.mk _ ⟨rfl,al.mk λm _ ae S ar=>?_⟩
  have z:=bo.aN y u I;have U:=S.ah z λh=>h
  have ad:=Ah z;refine⟨w4 U,w2 U,aE.mk ae (A0 9) λn V af au=>?_⟩;rw[Ky] at V;have B:Ext x n:=S.more af λc d=>by subst d;exact A0 _
  exact J n _ e j f l (Y.on B) Z (B.ah z λh=>h) ac (y.trans B.mod) V y.size
 ·refine al.mk λo _ ah q av=>?_
  have C:=q.ah u λh=>h
  have aw:=q.size;refine⟨w4 C,w2 C,ZN F (G.dm (O':=λc=>O c\/c=h.size) q.mod λc d=>d.imp id λh=>by omega) H λQ e j f l ai aj ak D ax=>EC.mk _ ⟨rfl,aE.mk (bo.aN D ah (.inr rfl)) (A0 9) λp W E ay=>?_⟩⟩;rw[Ky] at W;have am:=ai.dm (O':=λc=>O c\/c=h.size) (E.aj λc _ d=> .inr d) λc d=> .inl d
  refine J p _ e j f l (am.less λc d=> .inl d) aj (E.ah (bo.aN D C (.inl I)) (by omega)) ak ?_ W (A0 _);have ao:Mod (λa=>bo g O a\/h.size<=a) h p:=q.mod.trans ((D.aj λa _ r=> .inl (bo.less r λa ap=> .inl ap)).trans (E.aj λa _ r=> .inr (by omega)));exact ao.aj λa aq r=>r.elim id λh=>absurd aq (by omega)
end
def Md(i:Nat):A2Q:=AX [119,Br (97+i)]
theorem ARN(i:Nat):(⟨#[119]⟩:A2Q)++AX [Br (97+i)]=Md i:=by rw[show(⟨#[119]⟩:A2Q)=AX [119] from rfl,Aj];rfl
theorem tP: ∀ {i:Nat},i<20->Ak (Md i)=true:=by
 have h: ∀i:Fin 20,Ak (Md i.val)=true:=by decide
 intro i a;exact h ⟨i,a⟩
theorem tQ {i a:Nat}(c:i<20)(d:a<20)(h:i≠a):Md i≠Md a:=λb=>by
 have:=Mi.1 b;simp only[G4,true_and,and_true] at this;have:=VA (by omega) (by omega) this;omega
theorem ANa(i:Nat):(Md i).size=2:=by unfold Md;rw[AP];rfl
abbrev lP(i:Nat):cq:=⟨1,Md i,Md i,⟨#[]⟩,Zf,0,Zf,0,0,0,0,false⟩
abbrev tT:cj:=⟨[],0⟩
theorem AQu {i:Nat}(b:i<20):PM (lP i) tT=0:=by
 have a:=tP b;unfold PM;rw[if_neg (λh=>by have c:=h.2;exact absurd c (by decide)),if_neg];rintro(h|h|h)
 ·exact absurd h.1 (show ¬(1:Int)=2 by decide)
 ·rw[show(lP i).wid=Md i from rfl,a] at h;cases h
 ·rw[show(lP i).bA=Md i from rfl,a] at h;cases h
def ic(fl:cu)(an:cK)(i:Nat):Prop:= ∀a,i<=a->a<20->fl (Md a)=none/\an (Md a)=none
theorem ic.next {fl:cu}{an:cK}{i:Nat}{x:List Ev}{c:List UInt8×Int×Int}(d:ic fl an i)(b:i<20):ic (du fl (Md i) x) (du an (Md i) c) (i+1):=λe f a=>by
 rw[NI (tQ a b (by omega)),NI (tQ a b (by omega))];exact d e (by omega) a
theorem ic.skip {fl:cu}{an:cK}{i:Nat}(a:ic fl an i):ic fl an (i+1):=λb d c=>a b (by omega) c
theorem ANc {x:Int}{n m:Nat}(c:0<n)(i:n<=1000)(d:m<=1000): ∃b:Nat,b<n/\J8 J9 (((J8 J9 ((x.tmod ((n:Nat):Int))+((n:Nat):Int))).tmod ((n:Nat):Int))+((m:Nat):Int))=((b+m:Nat):Int):=by have d:x.tmod (n:Int)<n:=Int.tmod_lt_of_pos x (by omega);have j: -(n:Int)<x.tmod n:=Int.lt_tmod_of_pos _ (by omega);rw[show J8 J9 ((x.tmod ((n:Nat):Int))+((n:Nat):Int))=x.tmod ((n:Nat):Int)+((n:Nat):Int) from wrap_i64 (by omega) (by omega)];obtain⟨a,e⟩: ∃a:Nat,x.tmod (n:Int)+n=(a:Int):=⟨(x.tmod (n:Int)+n).toNat,by omega⟩;have f:=CA a c;rw[e,AOK,show(((a % n:Nat):Int)+(m:Int))=((a % n+m:Nat):Int) from by omega,Fb (by omega)];exact⟨a % n,f,rfl⟩
section
variable {A : aq} {g h : aa} {s k : Nat} {y0 y1 : Hs} {mp : List Pr} {fl : cu} {an : cK} {O : Nat -> Prop} {R : A2P} {T : TT} {L : List Tq}
theorem AUA {i:Nat}(o:i<20){K:A2Q->aa->Prop}(e: ∀a,Ext h a->K (AX [Br (97+i)]) a):
  al h (J2 #[.int .u8 (J8 .u8 (J8 J9 ((97:Int)+(i:Int))))] Di) λb f=>BI A P (convert Cs Az (J4 (some (⟨b,0,none⟩:Q6)) 1 1)) f λv2 j=> ∃c:A2Q,v2=J7 c/\K c j:=by
 rw[show((97:Int)+(i:Int))=((97+i:Nat):Int) from by omega,Fb (by omega)];refine al.mk λd _ m n p=>?_
 have v1:View GN d ⟨some ⟨h.size,0,none⟩,1,1⟩ [Br (97+i)]:=(Own.lit (E:=GN) (l:= [Br (97+i)]) m (by
  show [Value.int .u8 (J8 .u8 ((97+i:Nat):Int))]= [Value.int .u8 ((Br (97+i)).toNat:Int)];rw[wrap_u8,DR (by omega),An (by omega)]) (by simp[maxLen])).view
 exact JP (s:=⟨some ⟨h.size,0,none⟩,1,1⟩) Wt ky Ol v1 ⟨_,rfl,e d n⟩
theorem QW.jv {i:Nat}{n:J0}(o:bY g)(q:QW g h s k y0 y1 mp fl an O T L)(r:k+1<=490)(b:i<20)(N:ic fl an i)
  (t: ∀a c e f j d,QW g a s (k+1) c y1 e f j O (dE T (Ap (Md i) 3) (T (Ap (Md i) 3)++ [(d,Md i)])) L->ic f j (i+1)->c.p=y0.p->Mod (bo g O) h a->(∀ l∈QV T L,l.1=Ap (Md i) 3->l.2.1<d)->R (dR 0 0 3).v a):
  AA A P Dg #[Ar y0.p,n,J6 J9 0,(lP i).v] h R:=by
 obtain⟨u,v⟩:=N i (A0 _) b;exact QW.start (x:=lP i) (p:=tT) o q r rfl View.nil rfl rfl (by decide) (AQu b) v u (tP b) λa c e d w y m z=>t a c e _ _ d w (N.next b) y m z
end
abbrev T0(l:List (Nat×A2Q)):TT:=dE (λ_=> []) 0 l
abbrev L0(l:List (Nat×A2Q)):List Tq:=l.map λt=>(0,t)
theorem vY {l:List (Nat×A2Q)}{L:List Tq}:QV (T0 l) L=L++L0 l:=by unfold QV;rw[show T0 l 0=l from NH,show T0 l 1= [] from rfl,show T0 l 2= [] from rfl];simp
section
variable {A : aq} {h : aa} {R : A2P}
theorem AES {names:Sl}{ns:List A2Q}{dI:Int}(E:bY h)(v:View Fs h names ns)(aR: ∀n∈ns,n.size<=1099511627776)(aw: ∀ax,Ext h ax->R (J3 true) ax):AA A P Jm #[J4 names.p names.len names.cap,J6 J9 dI] h R:=by
 have bx:=v.len;refine PO ?_;unfold Jo;refine AJy E Mod.refl λO ay=>⟨_,rfl,af.no rfl (af.intro (λ_=>aw O ay) λe=>?_)⟩
 have bz:ns.length<=12:=by have:=of_decide_eq_false e;omega
 refine tO E ay λD k U s B F V u f aS bA W bB bC aT=>⟨_,rfl,af.no rfl ?_⟩
 have W:D[k]? =some (J2 (KJ U s B.p F.p V) Aq (0,0)):=W;have aU:=QW.first f aS aT;refine Loop.rule (λm x X=> ∃(i:Nat) (sl:Sl) (o:Hs) (u:List Pr) (w:cu) (q:cK) (d:List (Nat×A2Q)),x=(sl,(i:Int),())/\m=ns.length-i/\i<=ns.length/\QW h X s (3+i) o F u w q (λc=>c=k\/sl.ah=some c) (T0 d) []/\o.p=B.p/\X[k]? =some (J2 (KJ U s B.p F.p V) Aq (0,0))/\Own Fs Az X sl (d.map (·.2))/\ic w q i/\kL (L0 d)/\d.length<=i/\ ∀c,sl.ah=some c->c≠k) ?_
  ⟨0,Zf,B,u,_,_,[],rfl,rfl,As _,by rw[show T0 []=λ_=> [] from tJ];exact aU.less λc G=>G.elim id λh=>by simp[Sl.ah] at h,rfl,W,Own.nil,λg _ _=>⟨rfl,rfl⟩,⟨λY e=>(by cases e),List.Pairwise.nil⟩,A0 _,λc G=>by simp[Sl.ah] at G⟩
 rintro K m _ X ⟨i,sl,o,u,w,q,d,rfl,rfl,bD,f,z,j,y,N,ah,bE,aq⟩ az;dsimp only;have lw:=Ah j;refine af.intro (λe=>?_) (λe=>?_)
 ·have aA:i<ns.length:=by have:=of_decide_eq_true e;omega
  refine ai.mk λaV aW=>?_
  have next: ∀ {p:aa} {ar:Nat} {Q:Sl} {H:Hs} {I:List Pr} {M:cu} {Z:cK} {S:List (Nat×A2Q)},ar<=3+(i+1)->QW h p s ar H F I M Z (λc=>c=k\/Q.ah=some c) (T0 S) []->H.p=B.p->p[k]? =some (J2 (KJ U s B.p F.p V) Aq (0,0))->Own Fs Az p Q (S.map (·.2))->ic M Z (i+1)->kL (L0 S)->S.length<=i+1->(∀ c,Q.ah=some c->c≠k)->aV (Q,()) p:=λ{p ar Q H I M Z S} aX aY aZ a0 a1 a2 a3 a4 a5=>by
   refine aW _ _ ?_;rw[Aa (by omega)];exact az (ns.length-(i+1)) _ _ (by omega) ⟨i+1,Q,H,I,M,Z,S,rfl,rfl,aA,aY.up aX (by omega),aZ,a0,a1,a2,a3,a4,a5⟩
  obtain⟨n,au⟩: ∃n,ns[i]? =some n:=⟨_,A2 aA⟩;refine(v.ext f.w.w.ext).idx au λa6 _ av=>AJ.mk av.str (AUA (by omega) λa7 aj=>⟨by rw[AP,max_i64];show((2:Nat):Int)<=9223372036854775807;decide,?_⟩)
  rw[ARN];refine OG (by rw[ANa];decide) (by decide) (by decide) ⟨_,_,rfl,ai.mk λaC ab=>AM4 (aR n (AM au)) ⟨_,rfl,?_⟩⟩;have aE:=f.on aj;have ak:=aj.ah j λh=>h
  have skip:aC (true,()) a7:=ab _ _ (af.yes rfl (next (by omega) aE z ak (y.ext aj) N.skip ah (by omega) aq));refine af.intro (λ_=>skip) λ_=>?_
  cases a8:(((Ap (Md i) 3:Nat):Int) != (0:Int)) with
  |true=>exact skip
  |false=>
   have aF:Ap (Md i) 3=0:=by have:=a8;simp at this;exact this
   refine ab _ _ (af.no rfl (aD ⟨by decide,AY.mk (w2 ak) (aD (AY.mk (w4 ak) ?_))⟩));rw[<- z];refine aE.jv E (by omega) (by omega) N λaG H I M Z J am a9 ba aH aI=>EC.mk _ ⟨rfl,af.no rfl ?_⟩
   rw[aF,show T0 d 0=d from NH,tI] at am;rw[aF] at aI;have aJ:=bo.aN aH ak (.inl rfl);have bb:Own Fs Az aG sl (d.map (·.2)):=(y.ext aj).mod aH λb ac ad=>ad.2 (.inr ac)
   refine al.aY (E:=Fs) (x:=Md i) (s:=sl) rfl rB bb (by rw[AN];omega) (by rw[AN];simp only[maxLen];omega) λbc bd aK aL aM _=>?_
   have bF:=Ah aJ;have be:Mod (λc=>c=k\/sl.ah=some c) aG bd:=aL.aj λc _ G=> .inr G
   have bf: ∀Y∈L0 d,Y.2.1<J:=λY e=>by
    obtain⟨t,an,rfl⟩:=List.mem_map.1 e;exact aI (0,t) (by rw[vY];exact HJ _ e) rfl
   have bg:J<jR:=by have O:=(am.ok.one (0,J,Md i) (by rw[vY];simp)).2.2.1;have O:J<=16777216+H.u 0:=O;have D:=(am.ub 0).1;show J<18446744073709551616;omega
   refine next (A0 _) (am.dm (O':=λc=>c=k\/bc.ah=some c) be λc G=>?_) (ba.trans z) (aL.ah aJ λae=>aq k ae rfl) (by rw[AW];exact aK) a9 ⟨λY e=>?_,?_⟩ (by rw[A1];show d.length+1<=_;omega) λc G ae=>?_
   ·rcases G with h|h
    ·exact .inl (.inl h)
    ·rcases aM c h with D|D
     ·exact .inl (.inr D)
     ·exact .inr ⟨D,aK.lt h⟩
   ·rw[show L0 (d++ [(J,Md i)])=L0 d++ [(0,J,Md i)] from AW] at e;rcases List.mem_append.1 e with h|h
    ·exact ah.1 Y h
    ·rw[List.mem_singleton.1 h];exact⟨rfl,bg⟩
   ·show((d++ [(J,Md i)]).map λt=>((0,t):Tq)).Pairwise _;rw[AW];exact List.pairwise_append.2 ⟨ah.2,LS _ _,λa bh b W=>by rw[List.mem_singleton.1 W];exact bf a bh⟩
   ·rcases aM c G with D|D
    ·exact aq c D ae
    ·omega
 ·have bG:i=ns.length:=by have:=of_decide_eq_false e;omega
  obtain⟨ag,bH,aN⟩:=ANc (x:=dI) (n:=3) (m:=2) (by decide) (by decide) (by decide);rw[show((3:Nat):Int)=3 from rfl,show((2:Nat):Int)=2 from rfl] at aN;rw[aN];have bI:Ext h X:=f.w.w.ext;refine Loop.rule (λm x p=> ∃(n C:Nat) (o:Hs) (u:List Pr) (w:cu) (q:cK) (T:TT) (L:List Tq),x=((n:Int),())/\m=ag+2-n/\n<=ag+2/\C<=20+8*n/\QW h p s C o F u w q (λc=>c=k\/sl.ah=some c) T L/\o.p=B.p/\p[k]? =some (J2 (KJ U s B.p F.p V) Aq (0,0))/\Own Fs Az p sl (d.map (·.2))/\L++L0 (T 0)=L0 d/\(T 0).length<=12-8*n) ?_
   ⟨0,3+i,o,u,w,q,T0 d,[],rfl,rfl,As _,by omega,f,z,j,y,rfl,by show d.length<=12;omega⟩
  clear az f y j;rintro aC m _ p ⟨n,C,o,u,w,q,T,L,rfl,rfl,au,bi,f,z,j,y,ao,bJ⟩ ab;dsimp only;refine af.intro (λe=>?_) (λe=>?_)
  ·have e:n<ag+2:=by have:=of_decide_eq_true e;omega
   refine aD ⟨by decide,AY.mk (w2 j) (aD (AY.mk (w4 j) ?_))⟩;rw[<- z];refine tM (c:=0) E f (by decide) (by omega) λbK I bj aO bL=>⟨_,_,rfl,af.no rfl ?_⟩
   rw[Aa (by omega)];have aP:(T 0).take 8++(T 0).drop 8=T 0:=CN _ _;have ae:=kL.iu (l:=(T 0).take 8) (r:=(T 0).drop 8) (L:=L) (by rw[aP,ao];exact ah);refine ab (ag+2-(n+1)) _ _ (by omega) ⟨n+1,C+8,o,I,w,q,_,_,rfl,rfl,e,by omega,bj,z,bo.aN aO j (.inl rfl),y.mod aO λb ac ad=>ad.2 (.inr ac),?_,?_⟩
   ·rw[NH,ae,A3,<-AW,aP];exact ao
   ·rw[NH,DE];omega
  ·have bM:n=ag+2:=by have:=of_decide_eq_false e;omega
   have bk:T 0= []:=CH (by omega);rw[bk,show L0 []= [] from rfl,AK] at ao;subst ao;have bm:=y.len;rw[AN] at bm;refine Loop.rule (λm x p=> ∃(g C:Nat) (o:Hs) (u:List Pr) (w:cu) (q:cK),x=((g:Int),())/\m=d.length-g/\g<=d.length/\C<=60+g/\QW h p s C o F u w q (λc=>c=k\/sl.ah=some c) T ((L0 d).drop g)/\o.p=B.p/\p[k]? =some (J2 (KJ U s B.p F.p V) Aq (0,0))/\Own Fs Az p sl (d.map (·.2))) ?_
    ⟨0,C,o,u,w,q,rfl,rfl,As _,by omega,f,z,j,y⟩
   clear ab f y j;rintro bN m _ bP ⟨g,C,o,u,w,q,rfl,rfl,bQ,bi,f,z,j,y⟩ bn;dsimp only;refine af.intro (λe=>?_) (λe=>?_)
   ·have ap:g<d.length:=by have:=of_decide_eq_true e;omega
    obtain⟨t,an⟩: ∃t,d[g]? =some t:=⟨_,A2 ap⟩;have hd:(L0 d).drop g=(0,t)::(L0 d).drop (g+1):=by
     have O:g<(L0 d).length:=by rw[AN];exact ap
     rw[DH O,List.getElem_map];rw[A2 ap] at an;cases an;rfl
    rw[hd] at f;refine y.view.idx (i:=g) (x:=t.2) (by rw[By,an];rfl) λa6 _ av=>AJ.mk av.str (ai.mk λbR bp=>aD ⟨by decide,AY.mk (w2 j) (aD (AY.mk (w4 j) ?_))⟩)
    refine AKs E f (by omega) z (.inl rfl) j λbS b H I M bT bq br bs bU bt aQ _=>bp _ _ (ai.mk λbV bu=>aD (AC.mk (n:=0) (AO aQ rfl) (af.no rfl (aD (AJ.mk (n:=t.2) (by rw[add_add];exact AB aQ rfl) ?_)))))
    rw[show(!bO t.2 t.2)=false by rw[CU];simp];refine bu _ _ (af.no rfl ?_);rw[Aa (by omega)];exact bn (d.length-(g+1)) _ _ (by omega) ⟨g+1,C+1,H,I,M,q,rfl,rfl,ap,by omega,bq,br,bs,y.mod bt λb ac ad=>ad.2 (.inr ac)⟩
   ·have bW:g=d.length:=by have:=of_decide_eq_false e;omega
    have hd:(L0 d).drop g= []:=Mz (by rw[AN];omega);rw[hd] at f;refine aD ⟨by decide,AY.mk (w2 j) (aD (AY.mk (w4 j) ?_))⟩;rw[<- z];exact tL (i:=0) f.w rfl (.inl rfl) f.q.li λbv bw=>EC.mk _ ⟨rfl,aw bv (f.w.w.ext.trans bw)⟩
end
end Go.Lf.G
