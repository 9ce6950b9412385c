/-
 Contract: a client's request (chapter 19).
-/
import Derived.Test.YtgpmoonnachoaaaGreatDoorLfZ28ToE13
import Derived.Test.YtgpmoonnachoaaaGreatDoorLfKToGA
import Derived.Test.YtgpmoonnachoaaaGreatDoorLfZ11ToU32
set_option maxRecDepth 100000
set_option linter.unusedVariables false
set_option linter.unusedSimpArgs false
open Go.IntKind renaming i64→J9,wrap→J8
open Go.Value renaming string→J7,int→J6,pointer→J5,slice→J4,bool→J3,tuple→J1
open Go.Obj renaming cells→J2
open Go renaming Value→J0,Addr→Q6,TypeId→Q7,FuncId→Q8,Program→Q1
open Go.Addr renaming add→Q9,mk→Q5
namespace Go.Lf.G
open Go
open M (Sorted Af CY A9 Ag Ar BU Ai bC BH aQ BF)
structure Hs.dj (y y':Hs):Prop where
 p:y'.p=y.p
 name:y'.name=y.name
 f:y'.f=y.f
 u: ∀m,y.u m<=y'.u m/\y'.u m<=y.u m+3
theorem bq.less {g:aa}{O O':Nat->Prop}{c:Nat}(h:bq g O' c)(b: ∀c,O c->O' c):bq g O c:=⟨h.1,λd=>h.2 (b c d)⟩
theorem Re(wid:A2P){n:Nat}(h:1<=n):Au wid n<n:=CA _ h
section
variable {A : ar} {B : cI} {g h : aa} {s a N sh : Nat} {l : List Hs} {mp : List Pr} {O : Nat -> Prop} {i : Nat} {y : Hs} {fl : cA} {an : cP} {R : A2O}
def pJ(b:bz):Option (List Ev)->Prop
 |none=>b.bX=0
 |some l=>b.cu=(Bv l).status/\b.bX=(Bv l).next/\b.kept=false/\0<b.bX
theorem ARc {b:Option (List Ev)}{wid:A2P}{n:Nat}{now:Int}(h: ∀l,b=some l->Ru l):(0<=(Bu b wid n now).cu/\(Bu b wid n now).cu<=4)/\(0<=(Bu b wid n now).bX/\(Bu b wid n now).bX<=501)/\pJ (Bu b wid n now) b:=by
 cases b with
 |none=>exact⟨⟨(by decide:(0:Int)<=0),(by decide:(0:Int)<=4)⟩,⟨(by decide:(0:Int)<=0),(by decide:(0:Int)<=501)⟩,rfl⟩
 |some l=>
  have c:=h l rfl;have st:=c.st;have nx:=c.next.1;have d:=c.len;exact⟨st,⟨by show 0<=(Bv l).next;omega,by show(Bv l).next<=501;omega⟩,rfl,rfl,rfl,by show 0<(Bv l).next;omega⟩
theorem AKZ {b c:bz}{e d f:Nat}(G:b.grown c e d f)(h:b.more= []):c.more.length<=d:=by have:=G.more;rw[h] at this;simpa using this
theorem AM3 {x:ct}{p:ck}{cX:J0}{now:Int}(cY:bZ g)(ac:LW B g h s a N sh l mp O)(ah:l[i]? =some y)(ai:Jj mp fl an)(V:View QP h x.steps p.steps)(a3:x.aA=p.aA)(len:p.steps.length<=1099511627776)
  (d4: -4611686018427300000<=now/\now<=4611686018427300000) (ch: ∀n,y.f n<=2147483647) (ci: ∀n,y.u n+3<16777216) (d5:N+3<=1000000) (hA:4+3*a<=B.A) (cZ:64*a+64<=B.C) (c0:a+1<=1000000)
  (aM: ∀f e st nx,Oa fl an (y.f (Au x.wid sh)) x p=some (e,st,nx)->Ext h f->R (dR e st nx).v f)
  (c1: ∀f C aV r u,Oa fl an (y.f (Au x.wid sh)) x p=none->y.dj C->(BA (Fy x p (Bu (fl x.wid) x.wid (Au x.wid sh) now) aV) r u).err≠0->LW B g f s a (N+3) sh (l.set i C) mp O->Mod (bq g O) h f->R (dR (BA (Fy x p (Bu (fl x.wid) x.wid (Au x.wid sh) now) aV) r u).err 0 0).v f)
  (c2: ∀f C,Oa fl an (y.f (Au x.wid sh)) x p=none->y.dj C->Bd mp (FY (Au x.wid sh) (y.f (Au x.wid sh)) y.name)=false->LW B g f s a (N+3) sh (l.set i (C.lost (Au x.wid sh))) mp O->Mod (bq g O) h f->R (dR 170 0 0).v f)
  (c3: ∀f C aV r u D,D=BA (Fy x p (Bu (fl x.wid) x.wid (Au x.wid sh) now) aV) r u->Oa fl an (y.f (Au x.wid sh)) x p=none->y.dj C->(EG (Fy x p (Bu (fl x.wid) x.wid (Au x.wid sh) now) aV)=true->dS y C (Au x.wid sh) r)->D.err=0->LW B g f s (a+1) (N+3) sh (l.set i C) (cz mp (EA D++D.au)) O->
   Jj (cz mp (EA D++D.au)) (du fl x.wid ((fl x.wid).getD []++D.more)) (du an x.bA (MB x p,D.st.status,D.st.next))->Bv ((fl x.wid).getD []++D.more)=D.st->(∀ n bu cj,Bd (cz mp (EA D++D.au)) (FY n bu cj)=Bd mp (FY n bu cj))->Mod (bq g O) h f->R (dR 0 D.st.status D.st.next).v f):
  AA A P Dg #[Aq y.p,cX,J6 J9 now,x.v] h R:=by
 obtain⟨-,cl,c4⟩:=ac.eG ah;have cm:=(List.getElem?_eq_some_iff.1 ah).1;have dh:l.set i y=l:=by rw[<- (List.getElem?_eq_some_iff.1 ah).2];exact OR cm
 have d6:=Re x.wid cl;refine Zk ?_;unfold Sn;refine ao.mk λak _ al bv d7=>ao.mk λaw _ a4 cn d8=>?_
 have ad:Ext h aw:=bv.trans cn;have al:aw[h.size]? =some (J2 x.c MW (0,0)):=cn.ai al λh=>h
 have d9:=Ah a4;have aN: ∀ {U:aa} (e st nx:Int),Ext aw U->(∀ f,Ext h f->R (dR e st nx).v f)->aF U ⟨ak.size,0,none⟩ (dR e st nx).l λa5=>Dr a5 ⟨ak.size,0,none⟩ λc5=>R (c5.v) a5:=λ{U} e st nx I c6=>
  Zu (I.ai a4 λh=>h) λf bw=>c6 f ((ad.trans I).more bw λc d=>by subst d;exact bv.size)
 refine aj.mk λK c7=>?_
 have co: ∀a6:Bool,(a6=true↔x.kind<1\/4<x.kind)->K (a6,()) aw:=λa6 cp=>by
  refine c7 _ _ (ag.intro (λk=>aN 1 0 0 Mod.refl λf I=>aM f 1 0 0 (by unfold Oa;rw[if_pos (cp.1 k)]) I) (λk=>?_));have k:a6=false:=k;have bx: ¬(x.kind<1\/4<x.kind):=λh=>by rw[cp.2 h] at k;cases k
  have cq:1<=x.kind/\x.kind<=4:=by omega
  refine oA.mk x (Cr al rfl) (ANP (V.ext ad) a3 len cq λea aW=>⟨_,_,rfl,?_⟩);by_cases ae:PM x p=0;rotate_left
  ·refine ag.yes (by simp[ae]) (aN (PM x p) 0 0 aW λf I=>aM f _ 0 0 (by unfold Oa;rw[if_neg bx,if_pos ae]) I)
  rw[if_pos ae];refine ag.no (by simp[ae]) (ag.no rfl ?_);obtain⟨bA,c8,ax,aX⟩:=ZY ae;have eb:=FE ax;have ec:=FE aX;have dl:=APP ae cq;have bB:=ac.on (ad.trans aW);have bC:=aW.ai al λh=>h
  refine AJ.mk (n:=x.wid) (AB bC rfl) (bB.aH ah ⟨_,rfl,⟨AB bC rfl,R3 (by omega) cl c4 ⟨_,_,rfl,bB.holds ah ⟨_,rfl,?_⟩⟩⟩⟩);refine ag.intro (λk=>aN 170 0 0 aW λf I=>aM f 170 0 0 (by unfold Oa;rw[if_neg bx,if_neg (by simp[ae]),if_pos (by simpa using k)]) I) (λk=>?_);have bE:y.f (Au x.wid sh)≠0:=by simpa using k
  have q:Oa fl an (y.f (Au x.wid sh)) x p=match an x.bA with
    |some F=>if F.1≠MB x p then some (184,0,0) else some (0,F.2.1,F.2.2)
    |none=>match fl x.wid with
     |none=>if x.kind=1 then none else some (180,0,0)
     |some l=>if x.kind=1 then some (181,0,0) else if(Bv l).status≠0 then some (182,0,0) else none:=by
   unfold Oa;rw[if_neg bx,if_neg (by simp[ae]),if_neg bE];try rfl
  refine AJ.mk (n:=x.bA) (AB bC rfl) (AIG bB ah ai aX λed c9=>?_);have a7:=aW.trans c9;cases bF:an x.bA with
  |some F=>
   rw[bF] at q;refine⟨_,EC.mk (dR 0 F.2.1 F.2.2) ⟨_,_,rfl,ao.mk λa5 _ bG bH da=>aF.mk bG (A0 9) λbI bJ bK db=>ag.no rfl ?_⟩⟩;rw[Kz] at bJ;have ay:Ext aw bI:=(a7.trans bH).more bK λc d=>by subst d;exact a7.size
   refine aj.mk λdc bL=>ag.yes rfl (bL _ _ ?_)
   rw[Ca];refine ag.intro (λk=>aN 184 0 0 ay λf I=>aM f 184 0 0 (by
    have k: ¬(AX F.1=AX (MB x p)):=by simpa using k
    rw[q];show(if F.1≠MB x p then _ else _)=_;rw[if_pos λh=>k (by rw[h])]) I) (λk=>ag.yes rfl (Dr.mk (dR 0 F.2.1 F.2.2) (Kj bJ) (aN 0 F.2.1 F.2.2 ay λf I=>aM f 0 F.2.1 F.2.2 (by
    have k:AX F.1=AX (MB x p):=by simpa using k
    rw[q];show(if F.1≠MB x p then _ else _)=_;rw[if_neg (by rw[Mj.1 k];simp)]) I)))
  |none=>
   rw[bF] at q;refine⟨_,EC.mk bo.z ⟨_,_,rfl,ao.mk λa5 _ bG bH da=>aF.mk bG (A0 9) λbI bJ bK db=>ag.no rfl ?_⟩⟩;have ay:Ext aw bI:=(a7.trans bH).more bK λc d=>by subst d;exact a7.size
   refine aj.mk λdc bL=>ag.no rfl (bL _ _ (ag.no rfl (ag.no rfl ?_)))
   have dd:=ac.on (ad.trans ay);refine AJ.mk (n:=x.wid) (AB (ay.ai al λh=>h) rfl) (sM dd ah ai (λh=>by rw[ax] at h;cases h) λ_ aY cr=>SS.mk _ ⟨_,rfl,ao.mk λee _ de df ef=>aF.mk de (A0 18) λbM az dg eg=>?_⟩);rw[ZW] at az;have cs:Ext aY bM:=df.more dg λc d=>by subst d;exact A0 _
   have aA:Ext aw bM:=(ay.trans cr).trans cs;have eh:=(ay.trans cr).size;have a8:=aA.ai al λh=>h
   refine aj.mk λcu cv=>?_
   have bN: ∀(e:Int),e≠0->Oa fl an (y.f (Au x.wid sh)) x p=some (e,0,0)->cu (e,()) bM:=λe J d=>
    cv _ _ (ag.yes (by simp[J]) (aN e 0 0 aA λf I=>aM f e 0 0 d I))
   have cw: ∀l,fl x.wid=some l->Ru l:=λl aC=>ai.dH _ _ aC
   obtain⟨aZ,bO,bP,cx,bQ,cy,cB,di⟩:=AJf (wid:=x.wid) (n:=Au x.wid sh) (now:=now) cw;obtain⟨ei,dk,aO⟩:=ARc (wid:=x.wid) (n:=Au x.wid sh) (now:=now) cw;have go: ∀ {U:aa} {es:Sl} {a' b' c':Sl},Oa fl an (y.f (Au x.wid sh)) x p=none->Ext h U->U[h.size]? =some (J2 x.c MW (0,0))->U[ak.size]? =some (J2 bo.z.c Ad (0,0))->
     (∃ fv:bT,U[aY.size]? =some (J2 fv.c Cv (0,0))/\fv=⟨x.wid,(Au x.wid sh:Int),⟨(Bu (fl x.wid) x.wid (Au x.wid sh) now).cu,(Bu (fl x.wid) x.wid (Au x.wid sh) now).bX,false⟩,es,(Bu (fl x.wid) x.wid (Au x.wid sh) now).st.V a' b' c'⟩)->
     JK U (Bu (fl x.wid) x.wid (Au x.wid sh) now).st a' b' c'->(∀ c,a'.ai=some c\/b'.ai=some c\/c'.ai=some c->aY.size<c)->(∀ a9:bz,a9=Hy x.wid (Au x.wid sh) (Bu (fl x.wid) x.wid (Au x.wid sh) now).cu (Bu (fl x.wid) x.wid (Au x.wid sh) now).bX false (Bu (fl x.wid) x.wid (Au x.wid sh) now).st now->a9=Bu (fl x.wid) x.wid (Au x.wid sh) now)->
     cu (0,()) U:=λ{U es a' b' c'} dm bR dn dp a0 ba fr bS=>by
    have bS:=bS _ rfl;have bb:=dm;generalize ej:Bu (fl x.wid) x.wid (Au x.wid sh) now=b at*
    obtain⟨fv,a0,rfl⟩:=a0;refine cv _ _ (ag.no rfl (F5.mk _ (OW a0) ?_));have ek:=Ah a0
    let Q:Nat->Prop:=λc=>O c\/c=h.size\/c=ak.size\/c=aY.size
    have cC: ∀c,Tk b.st a' b' c' c->aY.size<c:=λc d=>fr c (by
     rcases d with⟨_,h⟩|⟨_,h⟩|⟨_,h⟩
     ·exact .inl h
     ·exact .inr (.inl h)
     ·exact .inr (.inr h))
    have el:=bv.size;have cD: ∀c,O c->c<h.size:=λc d=>(ac.out d).1
    have dq:LW B g U s a N sh (l.set i y) mp (λc=>Q c\/Tk b.st a' b' c' c):=by
     rw[dh];refine ac.own bR.mod λc d=>?_
     rcases d with(h|h|h|h)|h
     ·exact .inl h
     ·exact .inr (by omega)
     ·exact .inr (by omega)
     ·exact .inr (by omega)
     ·exact .inr ⟨by have:=cC c h;omega,ba.lt h⟩
    refine u7 (O:=Q) (now:=now) dq cm ba (λc d S=>?_) λaD bc z cE aP Y=>⟨_,rfl,?_⟩
    ·have:=cC c d;rcases S with h|h|h|h
     ·have:=cD c h;omega
     ·omega
     ·omega
     ·omega
    rw[bS] at aP;have bU: ∀ {c:Nat} {w:aa} {o:Obj},w[c]? =some o-> ∀ {T:aa},Q c->Mod (bq g Q) w T->T[c]? =some o:=λ{c w o} bV {T} S m=>m.ai bV λbW=>bW.2 S
    have cF:Q h.size:= .inr (.inl rfl);have bd:Q ak.size:= .inr (.inr (.inl rfl));have aQ:=Y.ai dn λh=>h
    have dr:=Y.ai dp λh=>h
    have ds: ∀e∈b.more,Ej e=true/\e.data.size<1099511627776:=λe J=>by rw[bO] at J;cases J
    refine AC.mk (n:=x.kind) (AO aQ rfl) (aj.mk λcG dt=>?_);have bX: ∀ {L:aa} {z':Nat->Nat} {hP:eF} {C:Hs} (num:Nat),CW B g L s a (N+1) sh l i C mp Q bc z' hP (DI x p b num)->y.dp C->Mod (bq g Q) aD L->cG () L:=λ{L z' hP C} num aR M bY=>by
     have G:=ANA (num:=num) ae ds aZ;have dv:=AKZ G bO;have b0:=G.au;rw[bP] at b0;have nx:=G.st.next;have dw:=bU aQ cF bY;have dx:=bU dr bd bY;refine dt _ _ (AQ4 aR nx λaE aG=>EC.mk (dR 0 (Dh (DI x p b num)).1 (Dh (DI x p b num)).2) ⟨rfl,ao.mk λdy _ dz b1 en=>aF.mk dz (A0 9) λb2 am dA eo=>?_⟩);rw[Kz] at am;have be:Ext L b2:=(aG.trans b1).more dA λc d=>by subst d;exact aG.size
     have bf:=aG.size;have ep:=Ah am
     let aH:Nat->Prop:=λc=>Q c\/c=aE.size
     have dB:CW B g b2 s a (N+1) sh l i C mp aH bc z' hP (DI x p b num):=aR.wider (O':=aH) be.mod λc d=>d.imp id λh=>by omega
     have cH:0<=(Dh (DI x p b num)).1/\(Dh (DI x p b num)).1<=4:=G.st.st;have cI:0<=(Dh (DI x p b num)).2/\(Dh (DI x p b num)).2<=502:=by unfold Dh;dsimp only;split<;>omega
     have b3:=Fb (n:=(Dh (DI x p b num)).1.toNat) (by omega);have eq:=Fb (n:=(Dh (DI x p b num)).2.toNat) (by omega);have er:=AV (n:=(MB x p).length) (by omega);have et:(BR (MB x p)).length<=2010:=by unfold BR;rw[A1];omega
     refine AJ.mk (n:=x.bA) (AB (be.ai dw λh=>h) rfl) (AC.mk (n:=(Dh (DI x p b num)).1) (AB am rfl) (AC.mk (n:=(Dh (DI x p b num)).2) (AB am rfl) (tW (by omega) ⟨_,rfl,AB am rfl,AB am rfl,Qw (l:=MB x p) (by omega) λeu cJ=>⟨_,rfl,?_⟩⟩)));have b4:=cJ.ai am λh=>h
     refine⟨AB b4 rfl,AB b4 rfl,?_⟩;rw[Oc (by omega) (by omega)];refine Cc (by omega) λev cK=>⟨_,rfl,?_⟩
     rw[Aj];have dC:=cK.ai b4 λh=>h
     refine⟨AB dC rfl,by rw[AP,AP,max_i64];omega,?_⟩;rw[Oc (by omega) (by omega)];refine Cc (by omega) λew dD=>⟨_,rfl,⟨by rw[AP,AP,A1,max_i64];omega,?_⟩⟩
     rw[Aj,A3];have bg:=(cJ.trans cK).trans dD;have dE:=dB.on bg;refine ANw (key:=Ka x.bA) (val:=iL (MB x p) (Dh (DI x p b num)).1.toNat (Dh (DI x p b num)).2.toNat) dE (by rw[G.conds,cx];decide) (by simp at b0;omega) λb5 ex ey cL b6=>⟨rfl,?_⟩
     have bh: ∀ {c:Nat} {w:aa} {o:Obj},w[c]? =some o-> ∀ {T:aa},aH c->Mod (bq g aH) w T->T[c]? =some o:=λ{c w o} bV {T} S m=>m.ai bV λbW=>bW.2 S
     have cM:aH aE.size:= .inr rfl;have dG:=bh (bg.ai am λh=>h) cM b6;have dH:=bh (bg.ai (be.ai dx λh=>h) λh=>h) (.inl bd) b6;have dI:om (DI x p b num) (Ka x.bA) (iL (MB x p) (Dh (DI x p b num)).1.toNat (Dh (DI x p b num)).2.toNat)=Fy x p b num:=rfl;rw[dI] at cL;have ap:(Fy x p b num).conds= [⟨Ka x.bA,⟨#[]⟩,true⟩]:=by show(DI x p b num).conds++_=_;rw[G.conds,cx];rfl
     have aI:(Fy x p b num).aq=Au x.wid sh:=G.aq.trans cy;have b7:(Fy x p b num).wid=x.wid:=G.wid.trans bQ;have ez:(Fy x p b num).au.length<=2:=by show((DI x p b num).au++ [_]).length<=2;rw[A1,Cd];simp at b0;omega
     have fin: ∀ {w:aa},Mod (bq g aH) b5 w->w[ak.size]? =some (J2 bo.z.c Ad (0,0))/\Mod (bq g O) h w:=λ{w} m=>⟨bh dH (.inl bd) m,by
      have bi:Mod (bq g O) h aD:=(bR.trans Y).mod;have dJ:Mod (bq g O) aD L:=bY.ak λc _ d=>bq.less d λc S=> .inl S
      have dK:Mod (bq g O) b2 b5:=bg.mod.trans (b6.ak λc _ d=>bq.less d λc S=> .inl (.inl S));have dL:Mod (bq g O) b5 w:=m.ak λc _ d=>bq.less d λc S=> .inl (.inl S)
      exact(((bi.trans dJ).trans be.mod).trans dK).trans dL⟩
     have b8: ∀ {w T:aa} {bi cN:Nat} {b3:List Hs} {cO:List Pr},LW B g w s bi cN sh b3 cO aH->Mod (· =ak.size) w T->LW B g T s bi cN sh b3 cO O:=λdM m=>dM.own (m.ak λc _ d=>by subst d;exact .inl bd) λc d=> .inl (.inl (.inl d))
     have b9: ∀ {w T:aa},Mod (bq g O) h w->Mod (· =ak.size) w T->Mod (bq g O) h T:=λm bw=>m.trans (bw.ak λc _ d=>by
      subst d;have:=ac.ext.size;exact⟨by omega,λS=>by have:=cD _ S;omega⟩)
     have dj: ∀ {Z:Hs},C.dk Z->y.dj Z:=λ{Z} W=>⟨W.p.trans M.p,W.name.trans M.name,W.f.trans M.f,λm=>by have:=M.u m;have:=W.u m;omega⟩
     have dN:FY (Fy x p b num).aq (C.f (Fy x p b num).aq) C.name=FY (Au x.wid sh) (y.f (Au x.wid sh)) y.name:=by rw[aI,M.f,M.name]
     have dO:bD (Fy x p b num)=bD b:=by show bD (DI x p b num)=_;unfold bD;rw[G.bX,G.cu,G.kept,G.wid]
     have dP:Bd mp (bD (Fy x p b num))=true:=by
      rw[dO];refine sU ai (by rw[bQ];exact ax) ?_;rw[bQ];unfold pJ at aO;split at aO
      ·rename_i E;first|exact aO|(rw[E];exact aO)
      ·rename_i E;first|exact aO|(rw[E];exact aO)
     have cP:Dc (Fy x p b num).st (500+1):=G.st;have cQ: ∀e∈(Fy x p b num).more,Ej e=true/\e.data.size<1099511627776:=G.ok;refine ue cY cL cP (by omega) (by rw[b7];exact ax) cQ (by rw[aI];omega) (by rw[aI,M.f];exact ch _) (by have:=M.u (Fy x p b num).aq;have:=ci (Fy x p b num).aq;omega) (by omega) hA cZ c0 (by show(DI x p b num).more.length<=_;omega) (by omega) (by rw[ap];simp) (λH k=>by
       rw[ap] at k;rw[List.mem_singleton.1 k];show(Ka x.bA).size<=_;rw[VN];omega) (by show 0<=(DI x p b num).cu/\(DI x p b num).cu<128;rw[G.cu];omega) (by show 0<=(DI x p b num).bX/\(DI x p b num).bX<=501;rw[G.bX];exact dk) (by show -_<=(DI x p b num).now/\(DI x p b num).now<=_;rw[G.now,cB];omega)
      (λdQ=>absurd dQ (by rw[aI,M.f];exact bE)) (λr u Z ca W J aJ aK=>⟨_,rfl,?_⟩) (λr u Z ca W J aC aJ aK=>⟨_,rfl,?_⟩) (λr u Z ca W J aC hd aJ aK=>?_) (λr u Z ca W dT J aC hd aJ aK=>⟨_,rfl,?_⟩)
     ·obtain⟨aS,aT⟩:=fin aK;refine ag.yes (by simpa using J) (Zu (x:=dR (BA (Fy x p b num) r u).err 0 0) aS λa1 aq=>?_);exact c1 a1 Z num r u bb (dj W) J (b8 aJ aq) (b9 aT aq)
     ·obtain⟨aS,aT⟩:=fin aK;rw[dN] at aC;refine ag.yes rfl (Zu (x:=dR 170 0 0) aS λa1 aq=>?_);rw[aI] at aJ;exact c2 a1 Z bb (dj W) aC (b8 aJ aq) (b9 aT aq)
     all_goals
      have X:=UU (n:=500+1) cQ cP r u;have cb:(BA (Fy x p b num) r u).beside (some (x.bA,(MB x p,(Dh (DI x p b num)).1,(Dh (DI x p b num)).2))):=by have vc:=(tc J).2;have:=X.st.next;refine YF (AIa (x:=(MB x p,(Dh (DI x p b num)).1,(Dh (DI x p b num)).2)) (AKQ bP) aX cH ?_ dl) r u;have dU:(Dh (Fy x p b num)).2=(Dh (DI x p b num)).2:=rfl;rw[dU] at vc;exact⟨cI.1,by show(Dh (DI x p b num)).2<=501;omega⟩
      have mem:YV x.bA (MB x p,(Dh (DI x p b num)).1,(Dh (DI x p b num)).2)∈(BA (Fy x p b num) r u).au:=AMe (ID _ (by simp[YV])) r u
     ·exfalso;refine hd (sX (by rw[X.wid,b7];exact ax) X.ok X.st cb ?_ (λh=>?_) ?_ λc d=>?_)
      ·have aS:=X.more;have aT:=X.au;have eA:(Fy x p b num).more.length<=1:=dv;omega
      ·rw[TO] at h;rw[h.2] at mem;cases mem
      ·rw[ap];simp
      ·rw[ap] at d;rcases List.mem_cons.1 d with rfl|d
       ·exact aC
       ·rcases List.mem_append.1 d with d|d
        ·rw[List.mem_singleton.1 d];exact AMx ai aX bF
        ·rw[List.mem_singleton.1 d];exact dP
     ·obtain⟨aS,aT⟩:=fin aK;obtain⟨bj,bk⟩:=tc J;have bj:(BA (Fy x p b num) r u).st.status=(Dh (DI x p b num)).1:=bj;have bk:(BA (Fy x p b num) r u).st.next=(Dh (DI x p b num)).2:=bk;have dV:=bh dG cM aK;refine ag.no rfl (Dr.mk (dR 0 (Dh (DI x p b num)).1 (Dh (DI x p b num)).2) (Kj dV) (Zu aS λa1 aq=>?_));rw[<- bj,<-bk];have cR:(BA (Fy x p b num) r u).fits ((fl x.wid).getD []):=sR (APx di);have bm:(BA (Fy x p b num) r u).wid=x.wid:=X.wid.trans b7;have cS:(fl x.wid).getD []++(BA (Fy x p b num) r u).more≠ []:=by
       intro h;rw[TO] at h;have bn:x.kind=1:=by
        cases E:fl x.wid with
        |some l=>
         rw[E] at h;exact absurd h.1 (ai.dH _ _ E).ne
        |none=>
         rw[E] at q;rw[bb] at q;by_cases bn:x.kind=1
         ·exact bn
         ·have q:(none:Option (Int×Int×Int))=if x.kind=1 then none else some (180,0,0):=q;rw[if_neg bn] at q;cases q
       have ar:(Fy x p b num).err=0:=AOm (VP J);have ar:(DI x p b num).err=0:=ar;refine X.none (λaf=>?_) h.2;have af:(DI x p b num).more= []:=af;unfold DI at af ar;rw[if_pos bn] at af ar;split at af
       ·rename_i cc;rw[if_pos cc] at ar;rw[(Gy _ _ _ _).2,(pI (Xi ar)).1] at af;simp at af
       ·rename_i cc;rw[if_neg cc] at ar;rw[(pI ar).1] at af;simp at af
      have a2:=ai.done ac.sorted (D:=BA (Fy x p b num) r u) (o:=some (x.bA,(MB x p,(Dh (DI x p b num)).1,(Dh (DI x p b num)).2))) (by rw[bm];exact ax) (by rw[bm];exact cR) (by rw[bm];exact cS) X.st cb (λbu eB cd=>by
       cases cd;have:=X.st.next;exact⟨mem,aX,cH,⟨cI.1,by show(Dh (DI x p b num)).2<=501;omega⟩,dl⟩)
      rw[bm] at a2;have a2:Jj _ _ (du an x.bA (MB x p,(Dh (DI x p b num)).1,(Dh (DI x p b num)).2)):=a2;rw[<- bj,<-bk] at a2;exact c3 a1 Z num r u _ rfl bb (dj W) (λcd=>by
       obtain⟨v,v1,v2,cT⟩:=dT cd (by rw[aI,M.f];exact bE);rw[aI] at v1 v2 cT;exact⟨v,by have:=M.u (Au x.wid sh);omega,v2,by rw[cT,M.f]⟩) J (b8 aJ aq) a2 (ZQ cR cS X.st).2 (sY ac.sorted cb) (b9 aT aq)
    have dW:CW B g aD s a (N+1) sh l i y mp Q bc z cE b:=aP.put (by omega) (by omega) (by omega);have bp: ∀ {L z' hP} (e:Ev) (D:bz),D=Dn b e->CW B g L s a N sh l i y mp Q bc z' hP D->Mod (bq g Q) aD L->(∀ num,DI x p b num=D)->cG () L:=λ{L z' hP} e D eC aR aU d=>bX (z':=z') (hP:=hP) 0 (by rw[d];exact aR.put (by omega) (by omega) (by omega)) (Hs.dp.refl y) aU
    have cU:(⟨#[]⟩:A2P).size<1099511627776:=by decide
    have br:b.more.length<1000:=by rw[bO];decide
    refine ag.intro (λj=>?_) (λj=>?_)
    ·have j:x.kind=1:=by simpa using j
     refine AZ.mk (s:=x.steps) (AB aQ rfl) (AC.mk (n:=x.aA) (Cj (by exact aQ) rfl) ?_);rw[a3];refine u0 (V.ext (bR.trans Y)) len λL bs=>?_
     have aR:=aP.on bs;unfold X0;rw[bA j];have eD:=RL (bA j);refine⟨_,_,rfl,ZF (e:=dF 1 (AX (Ci p))) aR aZ (by omega) (by show(AX (Ci p)).size<_;rw[AP];omega) br λaE bf aG au aL=>⟨rfl,?_⟩⟩;have ce:Mod (bq g Q) aD aE:=bs.mod.trans aL;have cV:=bU aQ cF ce;refine AC.mk (n:=x.aA) (Cj (by exact cV) rfl) ?_;rw[a3];refine ag.intro (λk=>?_) (λk=>?_)
     ·have k:0<p.aA:=by simpa using k
      have eE:=(xE (bA j)).2.1;refine AC.mk (n:=x.aA) (Cj (by exact cV) rfl) ?_;rw[a3,wrap_i64 (by omega) (by omega)];have dX:(Dn b (dF 1 (AX (Ci p)))).aq=Au x.wid sh:=(OH _ _).2.1.trans cy;refine qe (t:=⟨6,⟨#[]⟩,0,0⟩) au (by rw[dX];omega) (ch _) (by have:=ci (Dn b (dF 1 (AX (Ci p)))).aq;omega) (by omega) (by omega) (by rw[sS,bP];decide) (by omega) λdy dY b1 C num dZ M _ d0=>⟨rfl,?_⟩
      refine bX (z':=dY) (hP:=b1) num ?_ M (ce.trans d0);have ap:DI x p b num=Du (Dn b (dF 1 (AX (Ci p)))) ⟨6,0,0⟩ (if(0:Int)>now+p.aA then 0 else now+p.aA) num:=by unfold DI sZ;rw[if_pos j,if_pos k,cB]
      rw[ap];exact dZ
     ·have k: ¬0<p.aA:=by simpa using k
      exact bp (dF 1 (AX (Ci p))) _ rfl au ce λnum=>by unfold DI;rw[if_pos j,if_neg k]
    have j:x.kind≠1:=by simpa using j
    refine ag.intro (λab=>?_) (λab=>?_)
    ·have ab:x.kind=2:=by simpa using ab
     refine AJ.mk (n:=x.name) (AB aQ rfl) (ZF (e:=dF 12 x.name) aP aZ (by omega) (by have:=FE (c8 ab);show x.name.size<_;omega) br λaE bf aG au aL=>⟨rfl,?_⟩);exact bp (dF 12 x.name) _ rfl au aL λnum=>by unfold DI;rw[if_neg j,if_pos ab]
    have ab:x.kind≠2:=by simpa using ab
    refine ag.intro (λav=>?_) (λav=>?_)
    ·have av:x.kind=3:=by simpa using av
     have d1:=Y.ai a0 λh=>h
     refine Ac.mk (n:=b.st.cancel) (Cj (by exact d1) rfl) (ag.intro (λd=>?_) (λd=>?_))
     ·have d: ¬b.st.cancel=true:=by simpa using d
      refine ZF (e:=dF 13 ⟨#[]⟩) aP aZ (by omega) cU br λaE bf aG au aL=>⟨rfl,?_⟩
      exact bp (dF 13 ⟨#[]⟩) _ rfl au aL λnum=>by unfold DI;rw[if_neg j,if_neg ab,if_pos av,if_neg d]
     ·have d:b.st.cancel=true:=by simpa using d
      refine bX (z':=z) (hP:=cE) 0 ?_ (Hs.dp.refl y) Mod.refl;have ap:DI x p b 0=b:=by unfold DI;rw[if_neg j,if_neg ab,if_pos av,if_pos d]
      rw[ap];exact dW
    have av:x.kind≠3:=by simpa using av
    refine ag.yes (by simp;omega) (ZF (e:=dF 18 ⟨#[]⟩) aP aZ (by omega) cU br λaE bf aG au aL=>⟨rfl,?_⟩);exact bp (dF 18 ⟨#[]⟩) _ rfl au aL λnum=>by unfold DI;rw[if_neg j,if_neg ab,if_neg av]
   refine AC.mk (n:=x.kind) (AO a8 rfl) ?_;cases E:fl x.wid with
   |none=>
    rw[E] at q az;refine ag.intro (λj=>?_) (λj=>?_)
    ·have j:x.kind=1:=by simpa using j
     have q:Oa fl an (y.f (Au x.wid sh)) x p=if x.kind=1 then none else some (180,0,0):=q;rw[if_pos j] at q;refine ag.no rfl (ag.yes rfl (go (es:=ga) (a':=ga) (b':=ga) (c':=ga) q (ad.trans aA) a8 (aA.ai a4 λh=>h) ⟨_,az,by rw[E];rfl⟩ ?_ (λc d=>by simp[Sl.ai] at d) (λa9 cf=>by rw[cf,E];rfl)));rw[E];exact⟨View.nil,View.nil,View.nil⟩
    ·have j:x.kind≠1:=by simpa using j
     have q:Oa fl an (y.f (Au x.wid sh)) x p=if x.kind=1 then none else some (180,0,0):=q;rw[if_neg j] at q;exact aj.mk λd2 cg=>ag.no rfl (cg _ _ (ag.no rfl (ag.no rfl (bN 180 (by decide) q))))
   |some bt=>
    rw[E] at q az;have q:Oa fl an (y.f (Au x.wid sh)) x p=if x.kind=1 then some (181,0,0) else if(Bv bt).status≠0 then some (182,0,0) else none:=q;refine ag.intro (λj=>?_) (λj=>?_)
    ·have j:x.kind=1:=by simpa using j
     rw[if_pos j] at q;exact ag.yes rfl (bN 181 (by decide) q)
    have j:x.kind≠1:=by simpa using j
    rw[if_neg j] at q;refine aj.mk λd2 cg=>ag.yes rfl (AC.mk (n:=(Bv bt).status) (Ce (by exact az) rfl) (cg _ _ (ag.intro (λH=>?_) (λH=>?_))))
    ·have H:(Bv bt).status≠0:=by simpa using H
     rw[if_pos H] at q;exact bN 182 (by decide) q
    have H:(Bv bt).status=0:=by simpa using H
    rw[if_neg (by simp[H])] at q;have d3:=ac.on (ad.trans aA);refine ag.yes rfl (AJ.mk (n:=x.wid) (AB a8 rfl) (sO d3 ah ai ax E λaD es a' b' c' Y eG ba fr eH=>SS.mk _ ⟨_,rfl,aF.mk (Y.ai az λh=>h) (A0 18) λL cW aU eI=>?_⟩));rw[ZW] at cW;have eJ:=cs.size;have eK:=Ah az;have bs:Ext h L:=((ad.trans aA).trans Y).more aU λc d=>by subst d;have:=ad.size;omega
    refine go q bs (aU.ai (Y.ai a8 λh=>h) (by have:=ad.size;omega)) (aU.ai (Y.ai (aA.ai a4 λh=>h) λh=>h) (by omega)) ⟨_,cW,by rw[E];rfl⟩ ?_ (λc d=>by have:=fr c d;omega) (λa9 cf=>by rw[cf,E];rfl);rw[E];exact ba.fresh aU fr λc d=>by subst d;omega
 refine AC.mk (n:=x.kind) (AO al rfl) (ag.intro (λH=>co true ?_) (λH=>AC.mk (n:=x.kind) (AO al rfl) (co _ ?_)))
 ·have H:x.kind<1:=by simpa using H
  simp[H]
 ·have H: ¬x.kind<1:=by simpa using H
  simp[H]
end
section
variable {x x' : ct} {p p' : ck}
end
section
variable {A : ar} {h : aa} {R : A2O}
end
def Uj:cI:=⟨32000,0,1600,by decide,by decide,by decide⟩
structure EW (g h:aa) (s k sh:Nat) (l:List Hs) (mp:List Pr) (fl:cA) (an:cP) (O:Nat->Prop):Prop where
 w:LW Uj g h s k (3*k) sh l mp O
 m:Jj mp fl an
 all: ∀y∈l,∀n,y.u n<=3*k/\y.f n<=k
def iF(mp:List Pr)(y:Hs)(a:Nat):Prop:=y.f a≠0/\Bd mp (FY a (y.f a) y.name)=true
def pK(fl:cA)(an:cP)(f:Nat)(x:ct)(p:ck)(j:Int)(b st nx:Int)(m:cA)(n:cP):Prop:=
 (m=fl/\n=an/\(Oa fl an 1 x p=some (b,st,nx)\/(Oa fl an 1 x p=none/\b≠0/\st=0/\nx=0/\ ∃c d e,b=(BA (Fy x p (Bu (fl x.wid) x.wid f j) c) d e).err)))\/
 (Oa fl an 1 x p=none/\b=0/\ ∃c d e a,a=BA (Fy x p (Bu (fl x.wid) x.wid f j) c) d e/\a.err=0/\m=du fl x.wid ((fl x.wid).getD []++a.more)/\n=du an x.bA (MB x p,a.st.status,a.st.next)/\st=a.st.status/\nx=a.st.next/\Bv ((fl x.wid).getD []++a.more)=a.st)
def AST(mp c:List Pr)(fl j:cA)(b:Nat)(x:ct)(p:ck)(d:Int)(y m:Hs):Prop:=c=mp\/ ∃e f n a,a=BA (Fy x p (Bu (fl x.wid) x.wid b d) e) f n/\a.err=0/\c=cz mp (EA a++a.au)/\j=du fl x.wid ((fl x.wid).getD []++a.more)/\
 (EG (Fy x p (Bu (fl x.wid) x.wid b d) e)=true->dS y m b f)
theorem AMl {fl:cA}{an:cP}{k:Nat}{x:ct}{p:ck}(h:k≠0):Oa fl an k x p=Oa fl an 1 x p:=by unfold Oa;rw[if_neg h,if_neg (show ¬(1:Nat)=0 by decide)]
theorem td {l:List Hs}{i:Nat}{b:Hs}{Q:Hs->Prop}(h: ∀y∈l,Q y)(c:Q b): ∀y∈l.set i b,Q y:=λy d=>by
 rcases TX d with a|a
 ·exact h y a
 ·rw[a];exact c
section
variable {A : ar} {g h : aa} {s k sh : Nat} {l : List Hs} {mp : List Pr} {O : Nat -> Prop} {i : Nat} {y : Hs} {fl : cA} {an : cP} {R : A2O}
theorem EW.own {a:aa}{O':Nat->Prop}(b:EW g h s k sh l mp fl an O)(d:Mod O h a)(e: ∀c,O' c->O c\/(h.size<=c/\c<a.size)):EW g a s k sh l mp fl an O':=⟨b.w.own d e,b.m,b.all⟩
theorem EW.on {b:aa}(a:EW g h s k sh l mp fl an O)(x:Ext h b):EW g b s k sh l mp fl an O:=⟨a.w.on x,a.m,a.all⟩
theorem EW.up {a:Nat}(b:EW g h s k sh l mp fl an O)(c:k<=a)(f:a<=500):EW g h s a sh l mp fl an O:=
 ⟨b.w.put c (by show 64*a<=32000;omega) (by omega) (by omega),b.m,λy d e=>by have:=b.all y d e;omega⟩
theorem EW.iq {x:ct}{p:ck}{T:J0}{n:Int}(U:bZ g)(d:EW g h s k sh l mp fl an O)(o:l[i]? =some y)(ad:k+1<=490)(I:iF mp y (Au x.wid sh))(V:View QP h x.steps p.steps)(W:x.aA=p.aA)(len:p.steps.length<=1099511627776)(X: -4611686018427300000<=n/\n<=4611686018427300000)
  (D: ∀c b E F J q st nx,EW g c s (k+1) sh (l.set i b) E F J O->y.dj b->(∀ a K r,Bd E (FY a K r)=Bd mp (FY a K r))->Mod (bq g O) h c->pK fl an (Au x.wid sh) x p n q st nx F J->AST mp E fl F (Au x.wid sh) x p n y b->R (dR q st nx).v c):
  AA A P Dg #[Aq y.p,T,J6 J9 n,x.v] h R:=by
 have G:=AM o;have ae:Uj.C=32000:=rfl;have hA:Uj.A=1600:=rfl;have Y:=(List.getElem?_eq_some_iff.1 o).1;have dh:l.set i y=l:=by rw[<- (List.getElem?_eq_some_iff.1 o).2];exact OR Y
 have H:=AMl (fl:=fl) (an:=an) (x:=x) (p:=p) I.1;have f: ∀ {b:Hs},y.dj b-> ∀z∈l.set i b,∀a,z.u a<=3*(k+1)/\z.f a<=k+1:=λ{b} f=>td (Q:=λz=> ∀a,z.u a<=3*(k+1)/\z.f a<=k+1) (λz Z a=>by have:=d.all z Z a;omega) λa=>by
  have:=d.all y G a;have:=f.u a;rw[f.f];omega
 refine AM3 U d.w o d.m V W len X (λa=>by have:=(d.all y G a).2;omega) (λa=>by have:=(d.all y G a).1;omega) (by omega) (by omega) (by omega) (by omega)
  (λc q st nx e L=>?_) (λc b t u v e j w B C=>?_) (λc b e j M B C=>?_) λc b t u v N S e j r w B aa ab ac C=>?_
 ·rw[H] at e;refine D c y mp fl an q st nx ⟨?_,d.m,f ⟨rfl,rfl,rfl,λm=>by omega⟩⟩ ⟨rfl,rfl,rfl,λm=>by omega⟩ (λ_ _ _=>rfl) L.mod (.inl ⟨rfl,rfl,.inl e⟩) (.inl rfl);rw[dh];exact(d.w.on L).put (by omega) (by omega) (by omega) (by omega)
 ·rw[H] at e;exact D c b mp fl an _ 0 0 ⟨B.put (by omega) (by omega) (by omega) (by omega),d.m,f j⟩ j (λ_ _ _=>rfl) C (.inl ⟨rfl,rfl,.inr ⟨e,w,rfl,rfl,t,u,v,rfl⟩⟩) (.inl rfl)
 ·rw[I.2] at M;cases M
 ·rw[H] at e;exact D c b _ _ _ 0 _ _ ⟨B.put (by omega) (by omega) (by omega) (by omega),aa,f j⟩ j ac C (.inr ⟨e,rfl,t,u,v,N,S,w,rfl,rfl,rfl,rfl,ab⟩) (.inr ⟨t,u,v,N,S,w,rfl,rfl,r⟩)
end
structure jO (mp:List Pr) (y:Hs) (sh:Nat):Prop where
 has: ∀n,n<sh->y.f n=1/\GI mp n 1 y.name
 iu: ∀n,sh<=n->y.f n=0/\(n<256->GI mp n 0 ⟨#[]⟩)
theorem jO.owns {mp:List Pr}{y:Hs}{sh a:Nat}(b:jO mp y sh)(c:a<sh):iF mp y a:=by obtain⟨d,e⟩:=b.has a c;refine⟨by omega,?_⟩;rw[d];exact e.holds (A0 _)
section
variable {A : ar} {g h : aa} {s k sh : Nat} {y : Hs} {mp : List Pr} {O : Nat -> Prop} {R : A2O}
end
theorem AN3 {id tick k:Int}(a:1<=id/\id<=500)(b:0<=tick/\tick<=1099511627776)(c:k=2\/k=13\/k=18):Ej ⟨id,k,tick,0,0,0,false,⟨#[]⟩⟩=true:=by have d:bW id 1 500=true:=Ba.2 a;have e:bW tick 0 1099511627776=true:=Ba.2 b;have f:bW k 1 18=true:=Ba.2 (by omega);unfold Ej Ed KC;rw[d,e,f];rcases c with rfl|rfl|rfl<;>rfl
theorem ANy {id tick:Int}{p:ck}(a:1<=id/\id<=500)(b:0<=tick/\tick<=1099511627776)(c:Fz p=true):Ej ⟨id,1,tick,0,0,0,false,AX (Ci p)⟩=true:=by
 have d:bW id 1 500=true:=Ba.2 a;have e:bW tick 0 1099511627776=true:=Ba.2 b;unfold Ej Ed KC;dsimp only;rw[d,e,EN,we c];have:eg 1=true:=by decide
 rw[this,IF];rfl
theorem O7 {a:Int}{wid:A2P}{b:Int}(c:1<=a/\a<=7)(d:Ak wid=true)(e:0<=b/\b<=500):Gx ⟨a,b,0⟩ wid=true:=by unfold Gx;rw[Ba.2 c,d,Ba.2 e];rfl
theorem Zj {a:bz}{t:fO}{tick:Int}{c:Nat}(b:a.err=0)(d:Gx t a.wid=true):(Du a t tick c).err=0:=by unfold Du;rw[if_neg (by simp[b]),if_neg (by simp[d])];exact b
theorem AHz {a:bz}(b:EG a=true):a.more≠ []/\a.st.status=0/\a.st.fresh=true/\a.st.asked=0/\a.st.taken=0:=by unfold EG at b;simpa [and_assoc] using b
theorem APn {a:bz}(d:a.err=0)(e:EG a=true)(i:2<=a.st.next/\a.st.next<=500)(f:0<=a.now/\a.now<=1099511627776):
  Dn a QQ= {a with st:= {a.st with asked:=a.st.next,next:=a.st.next+1},more:=a.more++ [⟨a.st.next,2,a.now,0,0,0,false,⟨#[]⟩⟩]}:=by
 obtain⟨g,w2,w3,w4,h⟩:=AHz e;have b:Cq a QQ=⟨a.st.next,2,a.now,0,0,0,false,⟨#[]⟩⟩:=by unfold Cq;rw[if_neg (by omega)];rfl
 have ok:=AN3 (id:=a.st.next) (tick:=a.now) (k:=2) (by omega) f (.inl rfl);have c:Bo a.st (Cq a QQ)=(0,{a.st with asked:=a.st.next,next:=a.st.next+1}):=by rw[b];unfold Bo;rw[if_neg (by simp[ok]),if_neg (by omega),if_neg (by simp[w2]),if_neg (by simp)];unfold Pi Dv;rw[if_pos (show(2:Int)<=2/\(2:Int)<=5 by decide),if_pos rfl,if_pos ⟨w4,h,w3⟩];rfl
 rw[ra d (.inl g) (by rw[c]),c,b]
theorem ANe {a:bz}{n1:Nat}(c:a.err=0)(e:2<=a.st.next/\a.st.next<=500)(f:0<=a.now/\a.now<=1099511627776)(g:Ak a.wid=true):(Ec a n1).err=0/\(Ec a n1).wid=a.wid/\(Ec a n1).now=a.now/\(Ec a n1).st=(if EG a=true then {a.st with asked:=a.st.next,next:=a.st.next+1} else a.st)/\(Ec a n1).more=(if EG a=true then a.more++ [⟨a.st.next,2,a.now,0,0,0,false,⟨#[]⟩⟩] else a.more):=by
 unfold Ec;split
 ·rename_i h;have b:=APn c h e f;have i:Sa (Dn a QQ)=a.st.next:=by rw[b];show a.st.next+1-1=_;omega
  have d:Gx ⟨1,Sa (Dn a QQ),0⟩ (Dn a QQ).wid=true:=by rw[i,b];exact O7 (by decide) g (by omega)
  refine⟨Zj (by rw[b];exact c) d,?_,?_,?_,?_⟩
  ·unfold Du;rw[if_neg (by rw[b];simp[c]),if_neg (by simp[d]),b]
  ·unfold Du;rw[if_neg (by rw[b];simp[c]),if_neg (by simp[d]),b]
  ·rw[(Gy _ _ _ _).1,b]
  ·rw[(Gy _ _ _ _).2,b]
 ·exact⟨c,rfl,rfl,rfl,rfl⟩
theorem tf {a:bz}{n1 n2:Nat}(f:a.err=0)(g:2<=a.st.next/\a.st.next<=500)(h:0<=a.now/\a.now<=1099511627776)(b:Ak a.wid=true):(BA a n1 n2).err=0/\(BA a n1 n2).st=(if EG a=true then {a.st with asked:=a.st.next,next:=a.st.next+1} else a.st)/\(BA a n1 n2).more=(if EG a=true then a.more++ [⟨a.st.next,2,a.now,0,0,0,false,⟨#[]⟩⟩] else a.more):=by
 obtain⟨c,i,j,d,e⟩:=ANe (n1:=n1) f g h b;unfold BA;split
 ·refine⟨Zj c (by rw[i];exact O7 (by decide) b (by decide)),?_,?_⟩
  ·rw[(Gy _ _ _ _).1,d]
  ·rw[(Gy _ _ _ _).2,e]
 ·exact⟨c,d,e⟩
theorem tg {x:ct}{p:ck}{n n0:Nat}{a:Int}(k:x.kind=1)(d:Fz p=true)(l:Ak x.wid=true)(r:0<=a/\a<=1099511611776):
  (DI x p (Bu none x.wid n a) n0).err=0/\(DI x p (Bu none x.wid n a) n0).st=⟨p,0,2,a,0,0,true,[],[],false,false⟩/\(DI x p (Bu none x.wid n a) n0).more= [⟨1,1,a,0,0,0,false,AX (Ci p)⟩]/\(DI x p (Bu none x.wid n a) n0).wid=x.wid/\(DI x p (Bu none x.wid n a) n0).now=a:=by
 have ok:=ANy (id:=1) (tick:=a) (p:=p) (by decide) (by omega) d;have f:(Bu none x.wid n a).err=0:=by show(if a<0\/1099511611776<a then(1:Int) else 0)=0;rw[if_neg (by omega)]
 have g:Cq (Bu none x.wid n a) (dF 1 (AX (Ci p)))=⟨1,1,a,0,0,0,false,AX (Ci p)⟩:=rfl;have h:Bo (Bu none x.wid n a).st (Cq (Bu none x.wid n a) (dF 1 (AX (Ci p))))=(0,⟨p,0,2,a,0,0,true,[],[],false,false⟩):=by rw[g];unfold Bo;rw[if_neg (by simp[ok]),if_pos (show(Bu none x.wid n a).st.next=0 from rfl),if_pos ⟨rfl,rfl⟩];unfold XL;dsimp only;rw[EN,we d];rfl
 have i:=ra f (e:=dF 1 (AX (Ci p))) (.inr (.inl (by show(0:Int)<=497;decide))) (by rw[h]);rw[h,g] at i;have base:(Dn (Bu none x.wid n a) (dF 1 (AX (Ci p)))).err=0/\(Dn (Bu none x.wid n a) (dF 1 (AX (Ci p)))).st=⟨p,0,2,a,0,0,true,[],[],false,false⟩/\(Dn (Bu none x.wid n a) (dF 1 (AX (Ci p)))).more= [⟨1,1,a,0,0,0,false,AX (Ci p)⟩]/\(Dn (Bu none x.wid n a) (dF 1 (AX (Ci p)))).wid=x.wid/\(Dn (Bu none x.wid n a) (dF 1 (AX (Ci p)))).now=a:=by rw[i];exact⟨f,rfl,rfl,rfl,rfl⟩
 unfold DI;rw[if_pos k];split
 ·obtain⟨b,m,o,j,q⟩:=base;have c:Gx ⟨6,0,0⟩ (Dn (Bu none x.wid n a) (dF 1 (AX (Ci p)))).wid=true:=by rw[j];exact O7 (by decide) l (by decide)
  refine⟨Zj b c,by rw[(Gy _ _ _ _).1,m],by rw[(Gy _ _ _ _).2,o],?_,?_⟩
  ·unfold Du;rw[if_neg (by simp[b]),if_neg (by simp[c])];exact j
  ·unfold Du;rw[if_neg (by simp[b]),if_neg (by simp[c])];exact q
 ·exact base
theorem XQ {x:ct}{p:ck}{n n0 n1 n2:Nat}{a:Int}(g:x.kind=1)(h:Fz p=true)(b:Ak x.wid=true)(i:0<=a/\a<=1099511611776):
  (BA (Fy x p (Bu none x.wid n a) n0) n1 n2).err=0/\(BA (Fy x p (Bu none x.wid n a) n0) n1 n2).st=⟨p,0,3,a,2,0,true,[],[],false,false⟩/\(BA (Fy x p (Bu none x.wid n a) n0) n1 n2).more= [⟨1,1,a,0,0,0,false,AX (Ci p)⟩,⟨2,2,a,0,0,0,false,⟨#[]⟩⟩]:=by
 obtain⟨j,k,l,m,o⟩:=tg (n:=n) (n0:=n0) g h b i;have q:(Fy x p (Bu none x.wid n a) n0).err=0:=j;have c2:(Fy x p (Bu none x.wid n a) n0).st=⟨p,0,2,a,0,0,true,[],[],false,false⟩:=k;have c:(Fy x p (Bu none x.wid n a) n0).more= [⟨1,1,a,0,0,0,false,AX (Ci p)⟩]:=l;have c4:(Fy x p (Bu none x.wid n a) n0).wid=x.wid:=m;have d:(Fy x p (Bu none x.wid n a) n0).now=a:=o;obtain⟨r,e,f⟩:=tf (n1:=n1) (n2:=n2) q (by rw[c2];exact⟨(by decide:(2:Int)<=2),(by decide:(2:Int)<=500)⟩) (by rw[d];omega) (by rw[c4];exact b);have s:EG (Fy x p (Bu none x.wid n a) n0)=true:=by unfold EG;rw[c2,c];rfl
 rw[s,if_pos rfl] at e f;refine⟨r,?_,?_⟩
 ·rw[e,c2];show(⟨p,0,2+1,a,2,0,true,[],[],false,false⟩:bg)=_;rfl
 ·rw[f,c2,c,d];rfl
structure AT4 (h:aa) (x:ct) (p:ck):Prop where
 V:View QP h x.steps p.steps
 lim:x.aA=p.aA
 len:p.steps.length<=1099511627776
 sz: ∀y∈p.steps,y.name.size<=1099511627776/\y.aM.size<=1099511627776
 name:x.name.size<=1099511627776
 wid:x.wid.size<=1099511627776
 bA:x.bA.size<=1099511627776
theorem th {h:aa}{x:bo}{K:Nat->aa->Prop}(i: ∀a,a[h.size]? =some (J2 x.c Ad (0,0))->Ext h a->K h.size a):ao h (J2 bo.z.c Ad) λb e=>aF e ⟨b,0,none⟩ x.l λd=>K b d:=
 ao.mk λe _ j k n=>aF.mk j (A0 9) λd f l o=>i d (by rw[Kz] at f;exact f) (k.more l λc m=>by subst m;exact A0 _)
theorem EW.less {g h:aa}{s b d:Nat}{l:List Hs}{e:List Pr}{f:cA}{i:cP}{j O':Nat->Prop}(a:EW g h s b d l e f i j)(k: ∀c,O' c->j c):EW g h s b d l e f i O':=⟨a.w.less k,a.m,a.all⟩
theorem bq.aN {g h a:aa}{b:Nat->Prop}{c:Nat}{d:Obj}(m:Mod (bq g b) h a)(e:h[c]? =some d)(f:b c):a[c]? =some d:=m.ai e λi=>i.2 f
abbrev jP:bP:=⟨1,⟨#[97]⟩,⟨#[]⟩,1,0,0⟩
abbrev pL(sl:Sl)(a:A2P):ct:=⟨1,a,⟨#[119]⟩,⟨#[]⟩,sl,0,ga,0,0,0,0,false⟩
theorem AO1 {a:cA}{b:cP}{x:ct}{p:ck}(e:1<=x.kind/\x.kind<=4)(c:PM x p=0)(d:b x.bA=none):Oa a b 1 x p=(match a x.wid with
   |none=>if x.kind=1 then none else some (180,0,0)
   |some l=>if x.kind=1 then some (181,0,0) else if(Bv l).status≠0 then some (182,0,0) else none):=by
 unfold Oa;rw[if_neg (by omega),if_neg (by simp[c]),if_neg (by decide),d]
 try rfl
theorem pK.start {c k:cA}{d l:cP}{n:Nat}{x:ct}{p:ck}{a m st nx:Int}(D:pK c d n x p a m st nx k l)(b:x.kind=1)(o:PM x p=0)(E:d x.bA=none)(f:c x.wid=none)(q:0<=a/\a<=1099511611776):
  m=0/\st=0/\nx=3/\k=du c x.wid [⟨1,1,a,0,0,0,false,AX (Ci p)⟩,⟨2,2,a,0,0,0,false,⟨#[]⟩⟩]/\l=du d x.bA (MB x p,0,3)/\Bv [⟨1,1,a,0,0,0,false,AX (Ci p)⟩,⟨2,2,a,0,0,0,false,⟨#[]⟩⟩]=⟨p,0,3,a,2,0,true,[],[],false,false⟩:=by
 obtain⟨r,H,s,I⟩:=ZY o;have F:Oa c d 1 x p=none:=by rw[AO1 (by omega) o E,f];show(if x.kind=1 then none else some (180,0,0))=none;rw[if_pos b]
 rcases D with⟨_,_,t|⟨_,i,_,_,n0,n1,n2,u⟩⟩|⟨_,i,n0,n1,n2,J,v,K,j,w,y,z,e⟩
 ·rw[F] at t;cases t
 ·exfalso;rw[f] at u;exact i (u.trans (XQ b (r b) s q).1)
 ·rw[f] at v j e;obtain⟨G,B,C⟩:=XQ (n:=n) (n0:=n0) (n1:=n1) (n2:=n2) b (r b) s q;rw[<- v] at G B C;rw[Option.getD_none,CT,C] at j e;rw[B] at w y z e;exact⟨i,y,z,j,w,e⟩
section
variable {A : ar} {g h : aa} {R : A2O}
end
section
variable {A : ar} {g h : aa} {s k N sh i : Nat} {l : List Hs} {mp : List Pr} {O : Nat -> Prop} {y : Hs} {fl : cA} {an : cP} {R : A2O} {cb : Nat} {z : Nat -> Nat} {x : eF} {C : bz}
structure lL (mp:List Pr) (fl:cA) (C:bz):Prop where
 wid:Ak C.wid=true
 fits:C.fits ((fl C.wid).getD [])
 more:C.more≠ []
 st:Dc C.st 500
 ok: ∀e∈C.more,Ej e=true/\e.data.size<1099511627776
 len:C.more.length+C.au.length<=50/\C.conds.length<=50
 keys: ∀p∈C.conds,p.key.size<=1099511627776
 base:pJ C (fl C.wid)
 cu:0<=C.cu/\C.cu<=4
 bX:0<=C.bX/\C.bX<=501
 now:0<=C.now/\C.now<=1099511627776
 next:2<=C.st.next/\C.st.next<=500
 err:C.err=0
 bes:C.beside none
theorem EW.jo {k':Nat}(ac:bZ g)(S:CW Uj g h s k N sh l i y mp O cb z x C)(E:Jj mp fl an)(ad: ∀j∈l,∀n,j.u n<=3*k/\j.f n<=k)(F: ∀n,y.u n+2<=3*k'/\y.f n<=k)(ay:k+1<=k')(az:N+2<=3*k')(aA:k'<=490)(G:iF mp y C.aq)(ae:C.aq<256)(L:lL mp fl C)
  (af:(∀ c∈C.conds,Bd mp c=true)-> ∀f d a b D,D=BA C a b->EW g f s k' sh (l.set i d) (cz mp (EA D++D.au)) (du fl C.wid ((fl C.wid).getD []++D.more)) an O->y.dk d->
   (∀ n H T,Bd (cz mp (EA D++D.au)) (FY n H T)=Bd mp (FY n H T))->Bv ((fl C.wid).getD []++D.more)=D.st->Mod (bq g O) h f->R (J6 J9 0) f)
  (ag: ¬(∀ c∈C.conds,Bd mp c=true)-> ∀f d,EW g f s k' sh (l.set i d) mp fl an O->y.dk d->Mod (bq g O) h f->R (J6 J9 100) f):
  AA A P Dl #[Aq cb] h R:=by
 have aC:Uj.C=32000:=rfl;have hA:Uj.A=1600:=rfl;have U:=S.w.sorted;obtain⟨q,ah,ai,V,W,aD,aj,ak,aE,al,am,ao,ap,aq⟩:=L;have ar: ∀a b,(BA C a b).err=0:=λa b=>(tf ap ao am q).1
 have r: ∀ {d:Hs},y.dk d-> ∀j∈l.set i d,∀n,j.u n<=3*k'/\j.f n<=k':=λ{d} r=>td (Q:=λj=> ∀n,j.u n<=3*k'/\j.f n<=k') (λj I n=>by have:=ad j I n;omega) λn=>by
  have:=F n;have:=r.u n;rw[r.f];omega
 refine ue ac S V (by omega) q W ae (by have:=F C.aq;omega) (by have:=F C.aq;omega) (by omega) (by omega) (by omega) (by omega) (by omega) (by omega) (by omega) aj (by omega) al (by omega)
  (λau=>absurd au G.1) (λa b d f n u=>absurd (ar a b) u) (λa b d f n u v=>by rw[G.2] at v;cases v) (λa b d f n _ v hd J K=>?_) λa b d f n _ _ v hd J K=>?_
 all_goals
  have e:=UU (n:=500) W V a b;have w:=YF aq a b;have aF:=e.more;have aG:=e.au;have X:=e.none ai;have Y:EA (BA C a b)++(BA C a b).au≠ []:=λh=>by
   unfold EA at h;rw[if_neg X] at h;simp at h
  have av:Bd mp (bD C)=true:=sU E q ak
 ·have B: ¬(∀ c∈C.conds,Bd mp c=true):=λt=>hd (sX (by rw[e.wid];exact q) e.ok e.st w (by omega) Y (by simp;omega) λc m=>by
   rcases List.mem_cons.1 m with rfl|m
   ·exact G.2
   ·rcases List.mem_append.1 m with m|m
    ·exact t c m
    ·rw[List.mem_singleton.1 m];exact av)
  have u:EX (EA (BA C a b)++(BA C a b).au)=0:=pH Y (by have:=sW (BA C a b);rw[A1];omega) λp aw=>by
   rcases List.mem_append.1 aw with h|h
   ·exact sV (by rw[e.wid];exact q) e.ok e.st p h
   ·exact w.ok p h
  have ax:dw mp (FY C.aq (y.f C.aq) y.name::(C.conds++ [bD C])) (EA (BA C a b)++(BA C a b).au)=100:=by unfold dw;rw[if_neg (by simp;omega),if_neg (by rw[u];decide),if_neg λM=>B λc t=>List.all_eq_true.1 M c (by simp[t])]
  rw[ax];exact ag B f d ⟨J.put (by omega) (by omega) (by omega) (by omega),E,r n⟩ n K
 ·have B: ∀c∈C.conds,Bd mp c=true:=λc t=>by
   unfold dw at hd;split at hd
   ·cases hd
   ·split at hd
    ·rename_i h;exact absurd hd h
    ·split at hd
     ·rename_i M;exact List.all_eq_true.1 M c (by simp[t])
     ·cases hd
  have Z:(BA C a b).fits ((fl C.wid).getD []):=sR ah;have aa:(fl C.wid).getD []++(BA C a b).more≠ []:=λh=>X (List.append_eq_nil_iff.1 h).2
  have ab:=E.done U (D:=BA C a b) (o:=none) (by rw[e.wid];exact q) (by rw[e.wid];exact Z) (by rw[e.wid];exact aa) e.st w (λH j I=>by cases I);rw[e.wid] at ab;exact af B f d a b _ rfl ⟨J.put (by omega) (by omega) (by omega) (by omega),ab,r n⟩ n (sY U w) (ZQ Z aa e.st).2 K
end
theorem ao.jr {h:aa}{c:Obj}{d:aa->Prop}{e:Nat->aa->Prop}(k: ∀f,Ext h f->d f)(m:ao h c e):ao h c λb j=>And (d j) (e b j):=⟨k _ (Mod.push h c),m⟩
section
variable {A : ar} {B : cI} {g h : aa} {s a N sh cb : Nat} {l : List Hs} {mp : List Pr} {O : Nat -> Prop} {i : Nat} {y : Hs} {z : Nat -> Nat} {x : eF} {C : bz} {R : A2O}
theorem APV {key val:A2P}{r:Bool}(k:CW B g h s a N sh l i y mp O cb z x C)(t:C.conds.length<1000)(u:C.au.length<1000)
  (v: ∀d w x',CW B g d s a N sh l i y mp O cb w x' (iM C key val)->Mod (bq g O) h d->R (J1 #[]) d):AA A P Ji #[Aq cb,.agg #[J7 key,J7 val,J3 r]] h R:=by
 refine Uc ?_;unfold Ni;dsimp only[At];refine ao.mk λQ _ e m S=>?_
 have b:=k.on m;refine AZ.mk (s:=x.conds) (Ce b.bF.ai rfl) (AJ.mk (n:=key) (AO e rfl) (AJ.mk (n:=val) (AB e rfl) ?_));refine ao.jr (λd f=>Ce (b.on f).bF.ai rfl) (b.bF.fK (p:=⟨key,val,false⟩) b.fT t λT o U D j E=>?_);have c:=b.step (x':= {x with conds:=o}) j E rfl D;have F:=j.ai e λG=>by have:=k.fT _ G;omega
 refine AZ.mk (s:=x.au) (Ce c.bF.ai rfl) (AJ.mk (n:=key) (AO F rfl) ?_);refine ao.jr (λd f=>Ce (c.on f).bF.ai rfl) (c.bF.eI (p:=⟨key,⟨#[]⟩,true⟩) c.fT u λH I J K q L=>?_);have M:=c.step (x':= {x with conds:=o,au:=I}) q L rfl K;exact v H J _ M (m.mod.trans ((b.frame j).trans (c.frame q)))
end
section
variable {A : ar} {h : aa} {R : A2O}
theorem tn {f:bT}{t:cn}(j:t.kind=1)(k: ∀d,Ext h d->R (J1 #[J7 ⟨#[]⟩,J3 (decide (f.st.next<=497)&&(f.st.asked==t.ref))]) d):AA A P MU #[f.v,t.v] h R:=by
 refine AC9 ?_;unfold WI;refine ao.mk λq _ l m r=>ao.mk λs _ e g u=>?_
 have i:=g.ai l λh=>h
 refine Az.mk f.st (Cr (o:=6) i rfl) (u6 λp a=>⟨_,rfl,?_⟩);have b:=k p ((m.trans g).trans a);refine ag.intro (λc=>?_) (λc=>?_)
 ·rw[show decide (f.st.next<=497)=false by simpa using c] at b;exact b
 ·rw[show decide (f.st.next<=497)=true by simpa using c] at b;refine AC.mk (n:=t.kind) (AO (a.ai e λh=>h) rfl) (ag.yes (by simp[j]) ?_);refine AC.mk (n:=f.st.asked) (by rw[add_add];exact AB (a.ai i λh=>h) rfl) (AC.mk (n:=t.ref) (AB (a.ai e λh=>h) rfl) ?_);exact b
end
theorem AJi {a:bz}{t:fO}{tick:Int}{c:Nat}(b:(Du a t tick c).err=0):(Du a t tick c).au=a.au++ [⟨MF a.aq tick c,Zy t a.wid,false⟩]:=by
 unfold Du at b ⊢;split at b
 ·rename_i d;exact absurd b d
 ·rename_i d;rw[if_neg d];split at b
  ·exact absurd (show(1:Int)=0 from b) (by decide)
  ·rename_i e;rw[if_neg e]
theorem AI3 {x:ct}{p:ck}{n n0 n1 n2:Nat}{now:Int}(h:x.kind=1)(d:Fz p=true)(i:Ak x.wid=true)(j:0<=now/\now<=1099511611776)(v:p.aA=0):
  EG (Fy x p (Bu none x.wid n now) n0)=true/\ ∃e,(BA (Fy x p (Bu none x.wid n now) n0) n1 n2).au= [⟨Ka x.bA,e,false⟩,⟨DF n n1,Zy ⟨1,2,0⟩ x.wid,false⟩]:=by
 obtain⟨w,m,o,q,y⟩:=tg (n:=n) (n0:=n0) h d i j;obtain⟨k,c,z⟩:=XQ (n:=n) (n0:=n0) (n1:=n1) (n2:=n2) h d i j;have l:DI x p (Bu none x.wid n now) n0=Dn (Bu none x.wid n now) (dF 1 (AX (Ci p))):=by unfold DI;rw[if_pos h,if_neg (by omega)]
 generalize f:Fy x p (Bu none x.wid n now) n0=b at*
 have e:EG b=true:=by subst f;unfold EG;rw[show(Fy x p (Bu none x.wid n now) n0).st=_ from m,show(Fy x p (Bu none x.wid n now) n0).more=_ from o];rfl
 refine⟨e,?_⟩;have a:=OH b QQ;have r:BA b n1 n2=Du (Dn b QQ) ⟨1,Sa (Dn b QQ),0⟩ (-1) n1:=by
  have s:Ec b n1=Du (Dn b QQ) ⟨1,Sa (Dn b QQ),0⟩ (-1) n1:=by unfold Ec;rw[if_pos e]
  unfold BA at c ⊢;split
  ·rename_i g;exfalso;rw[if_pos g,(Gy _ _ _ _).1] at c;exact g.2 (by rw[c])
  ·exact s
 rw[r] at k c ⊢;rw[AJi k];rw[(Gy _ _ _ _).1] at c;have t:Sa (Dn b QQ)=2:=by unfold Sa;rw[c];rfl
 rw[t];have d:b.au= [⟨Ka x.bA,iL (MB x p) (Dh (DI x p (Bu none x.wid n now) n0)).1.toNat (Dh (DI x p (Bu none x.wid n now) n0)).2.toNat,false⟩]:=by rw[<- f];show(DI x p (Bu none x.wid n now) n0).au++_=_;rw[l,(OH _ _).2.2.2.2.2.1];rfl
 have g:(Dn b QQ).aq=n:=by rw[a.2.1,<-f];show(DI x p (Bu none x.wid n now) n0).aq=n;rw[l,(OH _ _).2.1];rfl
 have u:(Dn b QQ).wid=x.wid:=by rw[a.1,<-f];exact q
 rw[a.2.2.2.2.2.1,d,g,u];exact⟨_,rfl⟩
def cL(p:ck)(t:Int):bg:=⟨p,0,3,t,2,0,true,[],[],false,false⟩
def j4(p:ck)(t:Int):bg:=⟨p,0,4,t,0,3,false,[],[],false,false⟩
abbrev UB(a:Int):Ev:=⟨0,3,0,a,0,0,false,⟨#[]⟩⟩
theorem take_add {C:bz}{p:ck}{t:Int}(d:C.err=0)(a:C.st=cL p t)(e:0<=C.now/\C.now<=1099511627776):
  Dn C (UB 2)= {C with st:=j4 p t,more:=C.more++ [⟨3,3,C.now,2,0,0,false,⟨#[]⟩⟩]}:=by
 have b:Cq C (UB 2)=⟨3,3,C.now,2,0,0,false,⟨#[]⟩⟩:=by unfold Cq;rw[a];rfl
 have ok:Ej (⟨3,3,C.now,2,0,0,false,⟨#[]⟩⟩:Ev)=true:=by have f:bW C.now 0 1099511627776=true:=Ba.2 e;unfold Ej Ed KC;rw[f];rfl
 have c:Bo C.st (Cq C (UB 2))=(0,j4 p t):=by rw[b,a];unfold Bo;rw[if_neg (by simp[ok]),if_neg (by simp[cL]),if_neg (by simp[cL]),if_neg (by simp[cL])];rfl
 rw[ra d (.inr (.inl (by rw[a];exact(by decide:(3:Int)<=497)))) (by rw[c]),c,b]
section
variable {A : ar} {h : aa} {R : A2O}
theorem tq {x:Sl}{l:List Ev}(v:View dU h x l)(e:l.length<=1000)(d: ∀a b,Own dU A8 b a l->(∀ c,a.ai=some c->h.size<=c)->Ext h b->R (J4 a.p a.len a.cap) b):AA A P CS #[J4 x.p x.len x.cap] h R:=by refine Ia ?_;unfold Et;exact Uw mD v (by omega) (by simp only[maxLen];omega) d
end
def Kk(P:A2P)(m:List Pr):List Pr:=m.filter λx=>Kb P x.key
section
variable {P k : A2P} {m b : List Pr} {p x : Pr}
theorem AQW(k:A2P):aO k (⟨#[]⟩:A2P)=false:=by unfold aO;rw[ByteArray.toList_eq,ByteArray.toList_eq];cases k.data.toList<;>rfl
theorem pQ(a:Int):jg m P ⟨#[]⟩ a=(Kk P m).take a.toNat:=by unfold jg Kk;rw[HG λx _=>by rw[AQW,Lo,Bool.and_true]]
theorem H7(s:Sorted m):Sorted (Kk P m):=s.sublist Gk
theorem Y0:Af k (Kk P m)=if Kb P k=true then Af k m else none:=lK (q:=Kb P)
theorem ARV(s:Sorted m):Kk P (fh m p)=if Kb P p.key=true then fh (Kk P m) p else Kk P m:=by
 split
 ·refine Sorted.ext (H7 (KD s p)) (KD (H7 s) p) λk=>?_
  rw[Y0,PH s,PH (H7 s),Y0]
  grind
 ·refine Sorted.ext (H7 (KD s p)) (H7 s) λk=>?_
  rw[Y0,Y0,PH s]
  grind
theorem Om:Kk P (p::b)=if Kb P p.key=true then p::Kk P b else Kk P b:=AS
theorem SE: ∀ {b m:List Pr},Sorted m->Kk P (cz m b)=cz (Kk P m) (Kk P b)
 | [],_,_=>rfl
 |p::b,m,s=>by
  show Kk P (cz (fh m p) b)=_;rw[SE (KD s p),ARV s,Om];split<;>rfl
theorem tt(a b:List Pr):Kk P (a++b)=Kk P a++Kk P b:=OK _ _
theorem fg(a: ∀p∈b,Kb P p.key=false):Kk P b= []:=List.filter_eq_nil_iff.2 λp c=>by rw[a p c];decide
theorem ARB(s:Sorted m)(e:p.gone=false)(d: ∀f∈m,aO f.key p.key=true):fh m p=m++ [p]:=by
 have g:Sorted (m++ [p]):=List.pairwise_append.2 ⟨s,P0 _ _,λa h b i=>by rw[List.mem_singleton.1 i];exact d a h⟩;refine Sorted.ext (KD s p) g λk=>?_
 rw[PH s,Hw,e,M.LP,M.BD,M.QO];by_cases c:p.key=k
 ·subst c;rw[if_pos rfl,if_pos rfl,M.EI λx j=>M.Lj (d x j)];rfl
 ·rw[if_neg c,if_neg c];cases Af k m<;>rfl
theorem tu(s:Sorted (x::m))(a:p.key=x.key)(c:p.gone=true):fh (x::m) p=m:=by
 rw[rH s,c,if_pos rfl,a];unfold kA;rw[AS,if_neg (by simp)];refine List.filter_eq_self.2 λd e=>?_
 have:=M.Lj ((List.pairwise_cons.1 s).1 d e);simp[Ne.symm this]
end
theorem tv: ∀ {a b:List UInt8},a.length=b.length->a<b-> ∀x e:List UInt8,a++x<b++e
 | [],[],_,c,_,_=>absurd c (P2 _)
 | [],_::_,d,_,_,_=>by cases d
 |_::_,[],d,_,_,_=>by cases d
 |a::p,b::f,d,c,x,e=>by
  cases c with
  |rel c=>exact List.Lex.rel c
  |cons c=>exact List.Lex.cons (tv (by simpa using d) c x e)
theorem ny: ∀(k:Nat) {a b:Nat},b<256^k->a<b->IY k a<IY k b
 |0,a,b,c,d=>by simp at c;omega
 |k+1,a,b,c,d=>by
  rw[IY,IY];by_cases e:a / 256=b / 256
  ·rw[e];refine xo _ (List.Lex.rel ?_);rw[Qk a,Qk b,UInt8.lt_iff_toNat_lt,DR (by omega),DR (by omega)];omega
  ·have f:b / 256<256^k:=by rw[DH] at c;omega
   exact tv (by rw[Kh,Kh]) (ny k f (by omega)) _ _
theorem ANz {k a b:Nat}(e:a<256^k)(f:b<256^k)(d:IY k a=IY k b):a=b:=by
 rcases HK a b with c|c|c
 ·have:=ny k f c;rw[d] at this;exact absurd this (P2 _)
 ·exact c
 ·have:=ny k e c;rw[d] at this;exact absurd this (P2 _)
abbrev nz:Nat:=18446744073709551616
theorem ANJ {c a b:Nat}(d:b<nz)(e:a<b):aO (DF c a) (DF c b)=true:=by rw[VT,decide_eq_true_eq];unfold DF;rw[Bh,Bh];exact List.Lex.cons (List.Lex.cons (ny 8 d e))
def Ee(c a:Nat):A2P:=AX (113::0::Bq c::IY 8 a)
theorem Qj:K9 ⟨#[]⟩=AX [113,0]:=by unfold K9 BR;rw[show bl (⟨#[]⟩:A2P)= [] from rfl,FR (by decide)];rfl
theorem AP0(c a:Nat):K9 ⟨#[]⟩++AX (Bq c::IY 8 a)=Ee c a:=by rw[Qj,Aj];rfl
theorem R9(c a:Nat):(Ee c a).size=11:=by unfold Ee;rw[AP];rfl
theorem Qb(c a:Nat):BL (Ee c a)=113:=by unfold BL Ee;rw[EN];rfl
theorem ANk {c d a b:Nat}(e:c<256)(f:d<256)(g:a<nz)(h:b<nz)(i:Ee c a=Ee d b):c=d/\a=b:=by have:=Mj.1 i;simp only[G3,true_and] at this;exact⟨VA e f this.1,ANz g h this.2⟩
theorem tw {a:UInt8}{d:List UInt8}{k:A2P}(c:Kb (AX (a::d)) k=true):BL k=a:=by rw[Oe,Bh] at c;obtain⟨t,e⟩:=c;unfold BL;show(k.data.toList).headD 0=a;rw[<- e];rfl
theorem nA {a:UInt8}{c:List UInt8}{k:A2P}(d:BL k≠a):Kb (AX (a::c)) k=false:=by
 cases e:Kb (AX (a::c)) k with
 |false=>rfl
 |true=>exact absurd (tw e) d
theorem Xv {c a e:Nat}(f:c<256)(g:a<256):Kb (Lp c) (DF a e)=decide (c=a):=by
 rw[Fc,Oe,decide_eq_true_eq];unfold Lp DF;rw[Bh,Bh];constructor
 ·rintro⟨t,d⟩;simp only[Dd,CT,G3,true_and] at d;exact VA f g d.1
 ·rintro rfl;exact⟨_,rfl⟩
theorem tx(c a:Nat):Kb (K9 ⟨#[]⟩) (Ee c a)=true:=by rw[Oe,Qj];unfold Ee;rw[Bh,Bh];exact⟨_,rfl⟩
theorem pR {c:Nat}{b:List Pr}(a: ∀p∈b,BL p.key≠116):Kk (Lp c) b= []:=fg λp d=>nA (a p d)
theorem pS {b:List Pr}(a: ∀p∈b,BL p.key≠113):Kk (K9 ⟨#[]⟩) b= []:=by rw[Qj];exact fg λp c=>nA (a p c)
abbrev dZ(wid:A2P):A2P:=Zy ⟨1,2,0⟩ wid
def dc(c:Nat)(t:Nat×A2P):Pr:=⟨DF c t.1,dZ t.2,false⟩
def gM(c:Nat)(t:Nat×A2P):Pr:=⟨Ee c t.1,dZ t.2,false⟩
structure fj (mp:List Pr) (T:Nat->List (Nat×A2P)) (L:List Pr):Prop where
 tr: ∀c,c<3->Kk (Lp c) mp=(T c).map (dc c)
 li:Kk (K9 ⟨#[]⟩) mp=L
section
variable {mp b : List Pr} {T : Nat -> List (Nat × A2P)} {L : List Pr}
def dB(T:Nat->List (Nat×A2P))(c:Nat)(l:List (Nat×A2P)):Nat->List (Nat×A2P):=λa=>if a=c then l else T a
theorem fj.made {c f:Nat}{wid:A2P}{a g:List Pr}(l:fj mp T L)(s:Sorted mp)(v:c<3)(i: ∀p∈a++g,BL p.key≠116/\BL p.key≠113)(n:f<nz)(o: ∀t∈T c,t.1<f):fj (cz mp (a++dc c (f,wid)::g)) (dB T c (T c++ [(f,wid)])) L:=by
 have q: ∀d,d<3->Kk (Lp d) (a++dc c (f,wid)::g)=if d=c then [dc c (f,wid)] else []:=λd j=>by
  rw[tt,Om,pR (b:=a) λp h=>(i p (by simp[h])).1,pR (b:=g) λp h=>(i p (by simp[h])).1,show Kb (Lp d) (dc c (f,wid)).key=decide (d=c) from Xv (by omega) (by omega)];by_cases e:d=c<;>simp[e]
 refine⟨λd j=>?_,?_⟩
 ·rw[SE s,q d j,l.tr d j];unfold dB;by_cases e:d=c
  ·subst e;rw[if_pos rfl,if_pos rfl,Bm];refine ARB (by rw[<- l.tr d j];exact H7 s) rfl λw r=>?_
   obtain⟨t,u,rfl⟩:=List.mem_map.1 r;exact ANJ n (o t u)
  ·rw[if_neg e,if_neg e];rfl
 ·rw[SE s,pS (b:=a++dc c (f,wid)::g) λp h=>?_]
  ·exact l.li
  ·rcases List.mem_append.1 h with e|e
   ·exact(i p (by simp[e])).2
   ·rcases List.mem_cons.1 e with rfl|e
    ·show BL (DF c f)≠113;rw[R5];decide
    ·exact(i p (by simp[e])).2
theorem fj.oV {c:Nat}{t:Nat×A2P}{l:List (Nat×A2P)}(f:fj mp T L)(s:Sorted mp)(q:c<3)(g:T c=t::l):fj (cz mp [⟨DF c t.1,⟨#[]⟩,true⟩,gM c t]) (dB T c l) (fh L (gM c t)):=by
 have j: ∀d:List UInt8,Kb (AX (113::d)) (DF c t.1)=false:=λd=>nA (by rw[R5];decide)
 have n: ∀d:List UInt8,Kb (AX (116::d)) (Ee c t.1)=false:=λd=>nA (by rw[Qb];decide)
 refine⟨λa h=>?_,?_⟩
 ·have o:Kk (Lp a) [⟨DF c t.1,⟨#[]⟩,true⟩,gM c t]=if a=c then [⟨DF c t.1,⟨#[]⟩,true⟩] else []:=by rw[Om,Om,show Kb (Lp a) (gM c t).key=false from n _,show Kb (Lp a) (DF c t.1)=decide (a=c) from Xv (by omega) (by omega)];by_cases e:a=c<;>simp[e,Kk]
  rw[SE s,o,f.tr a h];unfold dB;by_cases e:a=c
  ·subst e;have i:=H7 (P:=Lp a) s;rw[f.tr a h,g] at i;rw[if_pos rfl,if_pos rfl,g];exact tu i rfl rfl
  ·rw[if_neg e,if_neg e];rfl
 ·rw[SE s,f.li,Om,Om,show Kb (K9 ⟨#[]⟩) (gM c t).key=true from tx _ _];rw[show Kb (K9 ⟨#[]⟩) (DF c t.1)=false from by rw[Qj];exact j _];rfl
theorem fj.take {c d:Nat}{wid v:A2P}{a g:List Pr}(i:fj mp T (gM c (d,wid)::L))(s:Sorted mp)(h: ∀p∈a++g,BL p.key≠116/\BL p.key≠113):fj (cz mp (a++⟨Ee c d,v,true⟩::g)) T L:=by
 refine⟨λl n=>?_,?_⟩
 ·rw[SE s,pR (b:=a++⟨Ee c d,v,true⟩::g) λp e=>?_]
  ·exact i.tr l n
  ·rcases List.mem_append.1 e with f|f
   ·exact(h p (by simp[f])).1
   ·rcases List.mem_cons.1 f with rfl|f
    ·show BL (Ee c d)≠116;rw[Qb];decide
    ·exact(h p (by simp[f])).1
 ·have j:=H7 (P:=K9 ⟨#[]⟩) s;rw[i.li] at j;rw[SE s,i.li,tt,Om,show Kb (K9 ⟨#[]⟩) (Ee c d)=true from tx _ _,if_pos rfl,pS (b:=a) λp e=>(h p (by simp[e])).2,pS (b:=g) λp e=>(h p (by simp[e])).2];exact tu j rfl rfl
end
abbrev gN:Ev:=⟨3,3,0,2,0,0,false,⟨#[]⟩⟩
theorem ARI:Ej gN=true/\gN.data.size<1099511627776:=by refine⟨?_,(by decide:(0:Nat)<1099511627776)⟩;unfold Ej Ed KC;rfl
structure j5 (C:bz) (wid key:A2P) (c num:Nat) (p:ck):Prop where
 wd:C.wid=wid
 aq:C.aq=c
 mt:C.cu=0/\C.bX=3/\C.kept=false
 st:C.st=j4 p 0
 more:C.more= [gN]
 err:C.err=0
 now:C.now=0
 conds:C.conds= [⟨key,dZ wid,false⟩]
 au:C.au= [⟨key,⟨#[]⟩,true⟩,⟨R4 c 5 num,Zy ⟨4,3,0⟩ wid,false⟩]
theorem AJw {wid key:A2P}{c num:Nat}{p:ck}(a:Ak wid=true):j5 (Du (Dn (iM (Hy wid c 0 3 false (cL p 0) 0) key (dZ wid)) (UB 2)) ⟨4,3,0⟩ 5 num) wid key c num p:=by rw[take_add (p:=p) (t:=0) rfl rfl (by decide:(0:Int)<=0/\(0:Int)<=1099511627776)];have b:Gx ⟨4,3,0⟩ wid=true:=O7 (by decide) a (by decide);unfold Du;rw[if_neg (by show ¬((0:Int)≠0);decide),if_neg (by show ¬(Gx ⟨4,3,0⟩ wid=false);rw[b];decide)];exact⟨rfl,rfl,⟨rfl,rfl,rfl⟩,rfl,rfl,rfl,rfl,rfl,rfl⟩
section
variable {C : bz} {wid key : A2P} {c c' num n0 : Nat} {p : ck} {mp : List Pr} {fl : cA} {an : cP} {ev : List Ev}
theorem j5.beside(e:j5 C wid (Ee c' n0) c num p)(f:Ak wid=true):C.beside none:=by
 have j:Gx ⟨4,3,0⟩ wid=true:=O7 (by decide) f (by decide);have b:=Xa (sh:=c) (num:=num) (tick:=5) j;have m:MF c 5 num=R4 c 5 num:=rfl;rw[m] at b;have o:=R9 c' n0;have n:=sP (k:=Ee c' n0) (PV (by omega)) (by omega);refine⟨λd a=>?_,λd a=>?_,λd a=>?_⟩<;>rw[e.au] at a<;>simp only[GB,IH,or_false] at a<;>rcases a with rfl|rfl
 ·exact n
 ·exact b.1
 ·refine .inl ?_;show BL (Ee c' n0)≠104/\BL (Ee c' n0)≠119/\BL (Ee c' n0)≠114;rw[Qb];decide
 ·exact .inl b.2.1
 ·show BL (Ee c' n0)≠108;rw[Qb];decide
 ·exact b.2.2
theorem j5.close(a:j5 C wid key c num p)(b d:Nat):BA C b d=C:=by
 have e:EG C=false:=by unfold EG;rw[a.st];simp[j4]
 unfold BA Ec;rw[e];simp[a.st,j4]
theorem ANM(a:Dc (cL p 0) 3):Dc (j4 p 0) 3:=⟨An _,An _,a.steps,a.aA,a.ba,(by decide:(0:Int)<=4/\(4:Int)<=501),a.st,a.waits⟩
theorem j5.lh(a:j5 C wid (Ee c' n0) c num p)(t:Jj mp fl an)(b:Ak wid=true)(d:fl wid=some ev)(j:Bv ev=cL p 0)(m:C.fits ev)(n:Dc (cL p 0) 3):lL mp fl C:= {
 wid:=by rw[a.wd];exact b
 fits:=by rw[a.wd,d];exact m
 more:=by rw[a.more];simp
 st:=by rw[a.st];exact(ANM n).up (by omega)
 ok:=λu e=>by
  rw[a.more] at e;rw[List.mem_singleton.1 e];exact ARI
 len:=by rw[a.more,a.au,a.conds];exact⟨(by decide:1+2<=50),(by decide:1<=50)⟩
 keys:=λv f=>by
  rw[a.conds] at f;rw[List.mem_singleton.1 f];show(Ee c' n0).size<=_;rw[R9];decide
 base:=by obtain⟨o,q,r⟩:=a.mt;rw[a.wd,d];show C.cu=(Bv ev).status/\C.bX=(Bv ev).next/\C.kept=false/\0<C.bX;rw[j,o,q];exact⟨rfl,rfl,r,(by decide:(0:Int)<3)⟩
 cu:=by rw[a.mt.1];decide
 bX:=by rw[a.mt.2.1];decide
 now:=by rw[a.now];decide
 next:=by rw[a.st];exact(by decide:(2:Int)<=4/\(4:Int)<=500)
 err:=a.err
 bes:=a.beside b}
theorem fj.row {T:Nat->List (Nat×A2P)}{L:List Pr}{r:Pr}(a:fj mp T L)(s:Sorted mp)(b:r∈L):Af r.key mp=some r/\Kb (K9 ⟨#[]⟩) r.key=true:=by
 have h:r∈Kk (K9 ⟨#[]⟩) mp:=by rw[a.li];exact b
 obtain⟨d,e⟩:=List.mem_filter.1 h;exact⟨s.find d,e⟩
theorem fj.dc {T:Nat->List (Nat×A2P)}{L:List Pr}{t:Nat×A2P}(a:fj mp T L)(s:Sorted mp)(b:c<3)(d:t∈T c):Af (DF c t.1) mp=some (dc c t):=by
 have h:Go.Lf.G.dc c t∈Kk (Lp c) mp:=by rw[a.tr c b];exact IN d
 exact s.find (List.mem_filter.1 h).1
theorem tz {r:Pr}(h:Af r.key mp=some r)(a:r.gone=false):Bd mp ⟨r.key,r.val,false⟩=true:=by unfold Bd Iy;rw[if_neg (by simp),h];simp
theorem lL.iS(C:bz): ∀a∈EA C,BL a.key≠116/\BL a.key≠113:=by
 intro a b;unfold EA at b;rcases List.mem_append.1 b with h|h
 ·obtain⟨d,_,rfl⟩:=List.mem_map.1 h;rw[show BL (Ol C.wid d).key=104 from Ym _ _];decide
 ·split at h
  ·cases h
  ·rw[List.mem_singleton.1 h,show BL (KY C.wid)=119 from GG _];decide
end
section
variable {A : ar} {g h : aa} {s k sh i : Nat} {l : List Hs} {mp : List Pr} {O : Nat -> Prop} {y y' : Hs} {fl : cA} {an : cP} {ev : List Ev} {R : A2O} {cb c num n0 : Nat} {z : Nat -> Nat} {x : eF} {C : bz} {wid : A2P} {p : ck} {T : Nat -> List (Nat × A2P)} {L : List Pr}
theorem AHQ(J:bZ g)(t:CW Uj g h s k (3*k+1) sh l i y' mp O cb z x C)(u:Jj mp fl an)(K: ∀v∈l,∀a,v.u a<=3*k/\v.f a<=k)(M: ∀a,y.u a<=3*k/\y.f a<=k)(d:y.dp y')(N:k+1<=490)(w:iF mp y c)(Q:c<256)(b:j5 C wid (Ee c n0) c num p)(S:C.fits ev)(U:Ak wid=true)(B:fl wid=some ev)(V:Bv ev=cL p 0)(W:Dc (cL p 0) 3)(D:fj mp T (gM c (n0,wid)::L))
  (X: ∀f e o,EW g f s (k+1) sh (l.set i e) o (du fl wid (ev++ [gN])) an O->e.p=y.p/\e.name=y.name/\e.f=y.f->(∀ m,y.u m<=e.u m)->(∀ a r E,Bd o (FY a r E)=Bd mp (FY a r E))->Bv (ev++ [gN])=j4 p 0->fj o T L->Mod (bq g O) h f->R (J6 J9 0) f):
  AA A P Dl #[Aq cb] h R:=by
 have Y:=b.lh u U B V S W;have F:=t.w.sorted;have row:=D.row F (r:=gM c (n0,wid)) (by simp);refine EW.jo (k':=k+1) J t u K (λa=>by have:=M a;have:=d.u a;rw[d.f];omega) (by omega) (by omega) N (by rw[b.aq];unfold iF at w ⊢;rw[d.f,d.name];exact w) (by rw[b.aq];exact Q) Y (λ_ f e ad ae Z G H j aa q ab=>?_) λac=>?_
 ·rw[b.close] at G;subst G;rw[b.wd,B,HI,b.more] at H q;rw[b.st] at q;refine X f e _ H ⟨j.p.trans d.p,j.name.trans d.name,j.f.trans d.f⟩ (λm=>by have:=d.u m;have:=j.u m;omega) aa q ?_ ab;rw[b.au];refine D.take F λI n=>?_
  rcases List.mem_append.1 n with h|h
  ·exact lL.iS Z I h
  ·rw[List.mem_singleton.1 h,show BL (R4 c 5 num)=109 from xy _ _ _];decide
 ·refine absurd (λI n=>?_) ac;rw[b.conds] at n;rw[List.mem_singleton.1 n];exact tz (r:=gM c (n0,wid)) row.1 rfl
end
abbrev Tq:=Nat×Nat×A2P
abbrev TT:=Nat->List (Nat×A2P)
def ML(a:Tq):Pr:=gM a.1 a.2
def iG(L:List Tq)(x:Tq):List Tq:=L.take (aQ (ML x).key (L.map ML))++x::L.drop (aQ (ML x).key (L.map ML))
theorem ANf(L:List Tq)(x:Tq):(iG L x).Perm (x::L):=by have:=Hh (a:=x) (l₁:=L.take (aQ (ML x).key (L.map ML))) (l₂:=L.drop (aQ (ML x).key (L.map ML)));rw[CN] at this;exact this
theorem AP1 {L:List Tq}{x:Tq}(s:Sorted (L.map ML))(b: ∀a∈L,(ML a).key≠(ML x).key):fh (L.map ML) (ML x)=(iG L x).map ML:=by
 have c:BF (ML x).key (L.map ML)=false:=by
  cases d:BF (ML x).key (L.map ML) with
  |false=>rfl
  |true=>
   obtain⟨a,j,e⟩:=(zx (ML x).key s).1 d;obtain⟨f,g⟩:=M.MN e;obtain⟨h,i,rfl⟩:=List.mem_map.1 g;exact absurd f (b h i)
 unfold fh iG;rw[c];simp only[Cp,if_false,Bm,P3,B9,List.map_drop,A3];rfl
def Kn(T:TT)(L:List Tq):List Tq:=L++((T 0).map (λt=>(0,t))++((T 1).map (λt=>(1,t))++(T 2).map λt=>(2,t)))
theorem Uf {T:TT}{c:Nat}{l:List (Nat×A2P)}:dB T c l c=l:=if_pos rfl
theorem tA {c:Nat}{t:Nat×A2P}{T:TT}{l:List (Nat×A2P)}{L:List Tq}(g:c<3)(d:T c=t::l):(Kn T L).Perm ((c,t)::Kn (dB T c l) L):=by
 have a: ∀b,b≠c->dB T c l b=T b:=λb f=>if_neg f
 have e:dB T c l c=l:=Uf;unfold Kn;rcases(by omega:c=0\/c=1\/c=2) with rfl|rfl|rfl
 ·rw[a 1 (by decide),a 2 (by decide),e,d,B9,Dd];exact Hh
 ·rw[a 0 (by decide),a 2 (by decide),e,d,B9,Dd];rw[<- A3,<-A3];exact Hh
 ·rw[a 0 (by decide),a 1 (by decide),e,d,B9];rw[<- A3,<-A3,<-A3,<-A3];exact Hh
theorem tB {c:Nat}{t:Nat×A2P}{T:TT}{l:List (Nat×A2P)}{L:List Tq}(a:c<3)(b:T c=t::l):(Kn (dB T c l) (iG L (c,t))).Perm (Kn T L):=by refine List.Perm.trans ?_ (tA (L:=L) a b).symm;unfold Kn;exact(ANf L (c,t)).append_right _
theorem tC {c:Nat}{t:Nat×A2P}{T:TT}{L:List Tq}(f:c<3):(Kn (dB T c (T c++ [t])) L).Perm ((c,t)::Kn T L):=by
 have a: ∀b,b≠c->dB T c (T c++ [t]) b=T b:=λb e=>if_neg e
 have d:dB T c (T c++ [t]) c=T c++ [t]:=Uf;unfold Kn;rcases(by omega:c=0\/c=1\/c=2) with rfl|rfl|rfl
 ·rw[a 1 (by decide),a 2 (by decide),d,Bm,A3,<-A3 L];refine List.Perm.trans Hh ?_;rw[A3];exact FF _
 ·rw[a 0 (by decide),a 2 (by decide),d,Bm,A3,<-A3,<-A3];refine List.Perm.trans Hh ?_;rw[A3,A3];exact FF _
 ·rw[a 0 (by decide),a 1 (by decide),d,Bm,<-A3,<-A3,<-A3];refine List.Perm.trans Hh ?_;rw[show([]:List (Nat×A2P)).map (λt=>(2,t))= [] from rfl,AK,A3,A3]
theorem tD {c:Nat}{t:Nat×A2P}{T:TT}{L:List Tq}(b:c<3)(a:t∈T c):(c,t)∈Kn T L:=by unfold Kn;rcases(by omega:c=0\/c=1\/c=2) with rfl|rfl|rfl<;>simp[a]
theorem pT {a:Tq}{T:TT}{L:List Tq}(b:a∈L):a∈Kn T L:=Hc _ b
def Started(b:cA)(wid:A2P):Prop:=Ak wid=true/\ ∃p a,b wid=some a/\Bv a=cL p 0
structure Uk (fl:cA) (y:Hs) (l:List Tq):Prop where
 one: ∀q∈l,q.1<3/\Au q.2.2 3=q.1/\q.2.1<=16777216+y.u q.1/\Started fl q.2.2
 keys:(l.map λq=>(q.1,q.2.1)).Nodup
 gA:(l.map λq=>q.2.2).Nodup
theorem Uk.perm {c:cA}{d:Hs}{l e:List Tq}(a:Uk c d l)(b:e.Perm l):Uk c d e:=
 ⟨λf g=>a.one f (b.mem_iff.1 g),(b.map _).nodup_iff.2 a.keys,(b.map _).nodup_iff.2 a.gA⟩
theorem Uk.ak {b:cA}{c d:Hs}{l:List Tq}(a:Uk b c l)(f: ∀m,c.u m<=d.u m):Uk b d l:=
 ⟨λe g=>by obtain⟨h,i,j,k⟩:=a.one e g;exact⟨h,i,AE j (by have:=f e.1;omega),k⟩,a.keys,a.gA⟩
theorem Uk.tail {c:cA}{d:Hs}{q:Tq}{l:List Tq}{x:List Ev}(a:Uk c d (q::l)):Uk (du c q.2.2 x) d l:=by
 have e:=List.nodup_cons.1 a.gA;refine⟨λb f=>?_,(List.nodup_cons.1 a.keys).2,e.2⟩;obtain⟨g,h,i,j,p,k,m,n⟩:=a.one b (AF _ f);have ne:b.2.2≠q.2.2:=λo=>e.1 (List.mem_map.2 ⟨b,f,o⟩)
 exact⟨g,h,i,j,p,k,by rw[NJ ne];exact m,n⟩
theorem Uk.more {f:cA}{g h:Hs}{q:Tq}{l:List Tq}{x:List Ev}{p:ck}(d:Uk f g l)(o: ∀m,g.u m<=h.u m)(k:q.1<3/\Au q.2.2 3=q.1)(r:16777216+g.u q.1<q.2.1/\q.2.1<=16777216+h.u q.1)(s:Ak q.2.2=true)(t:f q.2.2=none)(u:Bv x=cL p 0):Uk (du f q.2.2 x) h (q::l):=by
 have ne: ∀a∈l,a.2.2≠q.2.2:=λa b c=>by
  obtain⟨_,_,_,_,p,n,e,_⟩:=d.one a b;rw[c,t] at e;cases e
 refine⟨λa b=>?_,List.nodup_cons.2 ⟨λi=>?_,d.keys⟩,List.nodup_cons.2 ⟨λi=>?_,d.gA⟩⟩
 ·rcases List.mem_cons.1 b with rfl|b
  ·exact⟨k.1,k.2,r.2,s,p,x,Jq,u⟩
  ·obtain⟨v,w,j,y,p,n,e,z⟩:=d.one a b;exact⟨v,w,AE j (by have:=o a.1;omega),y,p,n,by rw[NJ (ne a b)];exact e,z⟩
 ·obtain⟨a,b,c⟩:=List.mem_map.1 i;have j:=(d.one a b).2.2.1;simp only[LO] at c;rw[c.1,c.2] at j;omega
 ·obtain⟨a,b,c⟩:=List.mem_map.1 i;exact ne a b c
theorem Uk.fresh {e:cA}{b:Hs}{x:Tq}{l:List Tq}(c:Uk e b (x::l))(i:b.u x.1<1000000){a:Tq}(d:a∈l)(j:b.u a.1<1000000):(ML a).key≠(ML x).key:=λf=>by
 obtain⟨k,m,n,o⟩:=c.one x (Cl);obtain⟨p,q,r,s⟩:=c.one a (AF _ d);obtain⟨g,h⟩:=ANk (by omega) (by omega) (by show a.2.1<18446744073709551616;omega) (by show x.2.1<18446744073709551616;omega) f;refine(List.nodup_cons.1 c.keys).1 (List.mem_map.2 ⟨a,d,?_⟩);show(a.1,a.2.1)=(x.1,x.2.1);rw[g,h]
section
variable {A : ar} {g h : aa} {s k : Nat} {y y0 y1 : Hs} {mp : List Pr} {fl : cA} {an : cP} {O : Nat -> Prop} {R : A2O} {T : TT} {L : List Tq}
theorem ARb {a:Nat}(t:bZ g)(b:EW g h s a 3 [y,y1] mp (λ_=>none) (λ_=>none) O)(u:a<3)(e:jO mp y a)(v:Ak y.name=true)
  (w: ∀c f,EW g c s (a+1) 3 [y.mO a 1,y1] f (λ_=>none) (λ_=>none) O->jO f (y.mO a 1) (a+1)->Mod (bq g O) h c->f=cz mp [⟨CE a,Jn 1 y.name,false⟩]->R (J1 #[J6 J9 1,J6 J9 0]) c):
  AA A P FD #[Aq y.p,J6 J9 (a:Int)] h R:=by
 have F:Uj.C=32000:=rfl;have hA:Uj.A=1600:=rfl;have d:=b.w.sorted;refine b.w.acquire (i:=0) (x:=y) (r:=0) (nm:=⟨#[]⟩) t rfl u ((e.iu a (A0 _)).2 (by omega)) (by decide) (by omega) (by omega) (by omega) (by omega) λc B C=>?_
 refine w c _ ⟨B.put (A0 _) (by omega) (by omega) (by omega),b.m.aN d (λp D=>?_),λz j m=>?_⟩ ⟨λm E=>?_,λm E=>?_⟩ C rfl
 ·rw[List.mem_singleton.1 D];show BL (CE a)≠104/\BL (CE a)≠119/\BL (CE a)≠114;rw[Rh];decide
 ·rcases List.mem_cons.1 j with rfl|j
  ·have:=b.all y (by simp) m;show dD y.u a 0 m<=_/\dD y.f a 1 m<=_;unfold dD;constructor<;>split<;>omega
  ·have:=b.all z (AF _ j) m;omega
 ·show dD y.f a 1 m=1/\_;unfold dD;by_cases l:m=a
  ·subst l;rw[if_pos rfl];exact⟨rfl,GI.laid d (by decide) (by decide) v⟩
  ·rw[if_neg l];obtain⟨n,o⟩:=e.has m (by omega);exact⟨n,o.other d λq=>l (zG (by omega) (by omega) q).symm⟩
 ·show dD y.f a 1 m=0/\_;unfold dD;rw[if_neg (by omega)];obtain⟨n,o⟩:=e.iu m (by omega);exact⟨n,λh=>(o h).other d λq=>by have:=zG (by omega) h q;omega⟩
structure QW (g h:aa) (s k:Nat) (y0 y1:Hs) (mp:List Pr) (fl:cA) (an:cP) (O:Nat->Prop) (T:TT) (L:List Tq):Prop where
 w:EW g h s k 3 [y0,y1] mp fl an O
 q:fj mp T (L.map ML)
 own: ∀n,n<3->iF mp y0 n/\y0.f n=1
 ok:Uk fl y0 (Kn T L)
theorem QW.cS {b:aa}{O':Nat->Prop}(a:QW g h s k y0 y1 mp fl an O T L)(d:Mod O h b)(e: ∀c,O' c->O c\/(h.size<=c/\c<b.size)):QW g b s k y0 y1 mp fl an O' T L:=⟨a.w.own d e,a.q,a.own,a.ok⟩
theorem QW.on {b:aa}(a:QW g h s k y0 y1 mp fl an O T L)(x:Ext h b):QW g b s k y0 y1 mp fl an O T L:=⟨a.w.on x,a.q,a.own,a.ok⟩
theorem QW.less {O':Nat->Prop}(a:QW g h s k y0 y1 mp fl an O T L)(b: ∀c,O' c->O c):QW g h s k y0 y1 mp fl an O' T L:=⟨a.w.less b,a.q,a.own,a.ok⟩
theorem QW.up {b:Nat}(a:QW g h s k y0 y1 mp fl an O T L)(c:k<=b)(d:b<=500):QW g h s b y0 y1 mp fl an O T L:=⟨a.w.up c d,a.q,a.own,a.ok⟩
theorem QW.ub(b:QW g h s k y0 y1 mp fl an O T L)(a:Nat):y0.u a<=3*k/\y0.f a<=k:=b.w.all y0 (by simp) a
theorem QW.start {x:ct}{p:ck}{J:J0}(K:bZ g)(a:QW g h s k y0 y1 mp fl an O T L)(M:k+1<=490)(r:x.kind=1)(V:View QP h x.steps p.steps)(N:x.aA=p.aA)(Q:p.aA=0)(len:p.steps.length<=1099511627776)(z:PM x p=0)(S:an x.bA=none)(f:fl x.wid=none)(j:Ak x.wid=true)
  (U: ∀d b B C,QW g d s (k+1) b y1 B (du fl x.wid [⟨1,1,0,0,0,0,false,AX (Ci p)⟩,⟨2,2,0,0,0,0,false,⟨#[]⟩⟩]) (du an x.bA (MB x p,0,3)) O (dB T (Au x.wid 3) (T (Au x.wid 3)++ [(C,x.wid)])) L->b.p=y0.p->Mod (bq g O) h d->(∀ q∈Kn T L,q.1=Au x.wid 3->q.2.1<C)->R (dR 0 0 3).v d):
  AA A P Dg #[Aq y0.p,J,J6 J9 0,x.v] h R:=by
 have c:=Re x.wid (n:=3) (by decide);have W:=a.w.w.sorted;have ub:=a.ub (Au x.wid 3);refine a.w.iq (i:=0) K rfl M (a.own _ c).1 V N len (by decide) λd b B aj ak D st nx w e X Y Z aa=>?_
 obtain⟨rfl,rfl,rfl,rfl,rfl,ab⟩:=Z.start r z S f (by decide);obtain⟨ac,al,am,ao⟩:=ZY z;rcases aa with rfl|⟨n0,n1,n2,l,E,ap,rfl,-,F⟩
 ·exfalso;have G:=w.m.fS x.wid j;rw[a.w.m.fS x.wid j,f,Jq] at G;cases G
 rw[f] at E F;obtain⟨ad,v,w2⟩:=AI3 (n:=Au x.wid 3) (n0:=n0) (n1:=n1) (n2:=n2) (now:=0) r (ac r) j (by decide) Q;rw[<- E] at w2;obtain⟨u,aq,ar,ae⟩:=F ad;rw[(a.own _ c).2,IS] at ae;have H: ∀q∈Kn T L,q.1=Au x.wid 3->q.2.1<n1:=λq o D=>by
  have:=(a.ok.one q o).2.2.1;rw[D] at this;omega
 have au:=(w.all b (Cl) (Au x.wid 3)).1;refine U d b _ n1 ⟨w,?_,λn af=>?_,?_⟩ e.p Y H
 ·have ag:EA l++l.au=(EA l++ [⟨Ka x.bA,v,false⟩])++dc (Au x.wid 3) (n1,x.wid):: []:=by rw[w2,A3];rfl
  rw[ag];refine a.q.made W c (λq o=>?_) (by show n1<18446744073709551616;omega) λt ah=>H _ (tD c ah) rfl
  rw[AK] at o;rcases List.mem_append.1 o with h|h
  ·exact lL.iS l q h
  ·rw[List.mem_singleton.1 h];show BL (Ka x.bA)≠116/\BL (Ka x.bA)≠113;rw[LH];decide
 ·obtain⟨I,ai⟩:=a.own n af;refine⟨?_,by rw[e.f];exact ai⟩;unfold iF at I ⊢;rw[e.f,e.name,X];exact I
 ·refine Uk.perm ?_ (tC (t:=(n1,x.wid)) (L:=L) c);exact a.ok.more (q:=(Au x.wid 3,n1,x.wid)) (λm=>(e.u m).1) ⟨c,rfl⟩ ⟨by show 16777216+y0.u (Au x.wid 3)<n1;omega,by show n1<=16777216+b.u (Au x.wid 3);omega⟩ j f ab
end
def jQ(c:Nat)(l:List (Nat×A2P))(L:List Tq):List Tq:=l.foldl (λL t=>iG L (c,t)) L
theorem AM4 {c:Nat}{l:List (Nat×A2P)}{L:List Tq}{t:Nat×A2P}:jQ c (l++ [t]) L=iG (jQ c l L) (c,t):=by unfold jQ;rw[Hi];rfl
theorem tF {T:TT}{c:Nat}{l a:List (Nat×A2P)}:dB (dB T c l) c a=dB T c a:=by funext b;unfold dB;split<;>rfl
theorem tG {T:TT}{c:Nat}:dB T c (T c)=T:=by
 funext b;unfold dB;split
 ·rename_i a;rw[a]
 ·rfl
theorem tH {c:Nat}(b:c<3): ∀ {l r:List (Nat×A2P)} {T:TT} {L:List Tq},T c=l++r->(Kn (dB T c r) (jQ c l L)).Perm (Kn T L)
 | [],r,T,L,a=>by
  rw[show r=T c from a.symm,tG];exact FF _
 |t::l,r,T,L,a=>by
  have e:=tB (L:=L) b a;have d:=tH b (l:=l) (r:=r) (T:=dB T c (l++r)) (L:=iG L (c,t)) Uf;rw[tF] at d;exact d.trans e
theorem AHY {a:List Ev}{p:ck}(c:Ru a)(d:Bv a=cL p 0):a.length=2/\Dc (cL p 0) 3:=by
 have b:=c.next.1;rw[d] at b;have b:(3:Int)=a.length+1:=b;have e:a.length=2:=by omega
 have f:=UN Dc.zero c.ok;rw[d,e] at f;exact⟨e,f.up (by omega)⟩
section
variable {A : ar} {g h : aa} {s k : Nat} {y0 y1 : Hs} {mp : List Pr} {fl : cA} {an : cP} {O : Nat -> Prop} {R : A2O} {T : TT} {L : List Tq}
theorem ARZ {wid:A2P}{c v:Nat}{G:List Ev}{p:ck}{I a b J:Sl}(E:bZ g)(w:QW g h s k y0 y1 mp fl an (λc=>O c\/Tk (cL p 0) a b J c) T ((c,v,wid)::L))(cm:k+1<=490)(V:View dU h I G)(a1: ∀c,I.ai=some c->O c)(a2:JK h (cL p 0) a b J)(no: ∀c,Tk (cL p 0) a b J c-> ¬O c)(aD:fl wid=some G)(aE:Bv G=cL p 0)
  (bt: ∀B a3 ar a4,QW g B s (k+1) a3 y1 ar (du fl wid (G++ [gN])) an O T L->a3.p=y0.p->Mod (bq g O) h B->a4.len=3->R (J1 #[(⟨0,0,0,⟨1,wid,3,0⟩,⟨#[]⟩,a4⟩:bo).v,J3 true]) B):
  AA A P RS #[Aq y0.p,(⟨wid,(c:Int),⟨0,3,false⟩,I,(cL p 0).V a b J⟩:bT).v,(⟨1,wid,2,0⟩:cn).v,.agg #[J7 (Ee c v),J7 (dZ wid),J3 false],J6 J9 0] h R:=by
 obtain⟨bu,co,-,aG,-⟩:=w.ok.one (c,v,wid) (pT (by simp));obtain⟨bv,a5⟩:=AHY (w.w.m.dH _ _ aD) aE;have cp:Uj.C=32000:=rfl;have ub:=w.ub c;have cq:=FE aG;refine AEM ?_;unfold Yh;refine ao.mk λaH _ au bw W=>ao.mk λbx _ aI a6 cr=>ao.mk λbz _ aJ aK cs=>ao.mk λad _ a7 av ct=>?_
 have ae:Ext h ad:=((bw.trans a6).trans aK).trans av;have au:=(a6.trans (aK.trans av)).ai au λh=>h
 have aI:=(aK.trans av).ai aI λh=>h
 have aJ:=av.ai aJ λh=>h
 generalize cu:h.size=aw at*
 generalize cv:aH.size=bA at*
 generalize cw:bx.size=cx at*
 generalize cy:bz.size=cz at*
 have cB:=Ah a7;refine F5.mk (⟨wid,(c:Int),⟨0,3,false⟩,I,(cL p 0).V a b J⟩:bT) (OW au) ?_
 let F:Nat->Prop:=λq=>O q\/(h.size<=q/\q<ad.size)
 have aL: ∀q,aw<=q->q<ad.size->F q:=λq cC aH=> .inr ⟨by omega,aH⟩
 have bB: ∀q,Tk (cL p 0) a b J q->q<h.size:=λq d=>a2.lt d
 have cD:=ae.size;refine u7 (l:= [y0,y1]) (i:=0) (y:=y0) (O:=F) (aq:=c) (now:=0) (w.w.w.own ae.mod λq d=>?_) (by simp) (a2.ext ae) (λq d aM=>?_) λcE bC z cF bD N=>⟨_,rfl,?_⟩
 ·rcases d with(h|h)|h
  ·exact .inl (.inl h)
  ·exact .inr h
  ·exact .inl (.inr h)
 ·have:=bB q d;rcases aM with h|h
  ·exact no q d h
  ·omega
 have r:=N.ai au λh=>h
 have o:=N.ai aI λh=>h
 have aO:=N.ai aJ λh=>h
 have u:=N.ai a7 λh=>h
 refine AJ.mk (n:=Ee c v) (AO aO rfl) (AJ.mk (n:=dZ wid) (AB aO rfl) (Ac.mk (n:=false) (AB aO rfl) ?_));refine APV bD (by show 0<1000;decide) (by show 0<1000;decide) λcG cH cI bE X=>⟨rfl,?_⟩
 have aN: ∀ {q:Nat} {a8:Obj} {B M:aa},B[q]? =some a8->aw<=q->q<ad.size->Mod (bq g F) B M->M[q]? =some a8:=λbF bG bH m=>bq.aN m bF (aL _ bG bH)
 have r:=aN r (by omega) (by omega) X;have o:=aN o (by omega) (by omega) X;have u:=aN u (by omega) (by omega) X;refine F5.mk (⟨wid,(c:Int),⟨0,3,false⟩,I,(cL p 0).V a b J⟩:bT) (OW r) (JC.mk (⟨1,wid,2,0⟩:cn) (Cr o rfl) ?_);refine tn (f:=(⟨wid,(c:Int),⟨0,3,false⟩,I,(cL p 0).V a b J⟩:bT)) (t:=⟨1,wid,2,0⟩) rfl λcJ Q=>⟨_,_,rfl,?_⟩
 have r:=Q.ai r λh=>h
 have o:=Q.ai o λh=>h
 have u:=Q.ai u λh=>h
 have bI:=bE.on Q;refine aj.mk λK bJ=>ag.no rfl (AC.mk (n:=1) (AO o rfl) (ag.yes rfl (AC.mk (n:=2) (AB o rfl) ?_)))
 refine ZF (n:=3) (e:=UB 2) bI a5 (by decide) (by show 0<1099511627776;decide) (by show 0<1000;decide) λcK cM cN a9 Y=>⟨rfl,?_⟩
 have r:=aN r (by omega) (by omega) Y;have o:=aN o (by omega) (by omega) Y;have u:=aN u (by omega) (by omega) Y;have ba:=take_add (C:=iM (Hy wid c 0 3 false (cL p 0) 0) (Ee c v) (dZ wid)) (p:=p) (t:=0) rfl rfl (by decide:(0:Int)<=0/\(0:Int)<=1099511627776);have bb:(Dn (iM (Hy wid c 0 3 false (cL p 0) 0) (Ee c v) (dZ wid)) (UB 2)).st=j4 p 0:=by rw[ba]
 have bK:Sa (Dn (iM (Hy wid c 0 3 false (cL p 0) 0) (Ee c v) (dZ wid)) (UB 2))=3:=by unfold Sa;rw[bb];rfl
 refine u9 a9 (by rw[bb];exact(by decide:(0:Int)<=4/\(4:Int)<=501)) ⟨_,rfl,?_⟩;rw[bK];refine af.bM (j:=2) (dJ:=(⟨1,wid,3,0⟩:cn).c) o (of_decide_eq_true rfl) rfl λcO bc ah cP=>AC.mk (n:=3) (AB bc rfl) ?_
 have r:=ah.ai r (by omega);have u:=ah.ai u (by omega);have bL:=a9.wider (O':=F) (ah.ak λq _ d=>by subst d;exact aL _ (by omega) (by omega)) λq d=> .inl d
 rw[show J8 J9 ((0:Int)+5)=5 from by decide];have ax:(Dn (iM (Hy wid c 0 3 false (cL p 0) 0) (Ee c v) (dZ wid)) (UB 2)).aq=c/\(Dn (iM (Hy wid c 0 3 false (cL p 0) 0) (Ee c v) (dZ wid)) (UB 2)).au.length=1:=by rw[ba];exact⟨rfl,rfl⟩
 refine qe (t:=⟨4,⟨#[]⟩,3,0⟩) (tick:=5) bL (by rw[ax.1];omega) (by rw[ax.1];omega) (by rw[ax.1];omega) (by omega) (by omega) (by rw[ax.2];decide) (by decide) λbM bN bO bP num aP bQ cQ Z=>⟨rfl,bJ _ _ ?_⟩
 have r:=aN r (by omega) (by omega) Z;have o:=aN bc (by omega) (by omega) Z;have u:=aN u (by omega) (by omega) Z;have bR:=AJw (key:=Ee c v) (c:=c) (num:=num) (p:=p) aG;have bS:(Du (Dn (iM (Hy wid c 0 3 false (cL p 0) 0) (Ee c v) (dZ wid)) (UB 2)) ⟨4,3,0⟩ 5 num).fits G:=Uv (PG (by
  show El Sy (G++ [])=some (cL p 0);rw[AK];exact(w.w.m.dH _ _ aD).ok.trans (congrArg some aE)))
 have aP:CW Uj g bM s k (3*k+1) 3 [y0,y1] 0 bP mp F bC bN bO (Du (Dn (iM (Hy wid c 0 3 false (cL p 0) 0) (Ee c v) (dZ wid)) (UB 2)) ⟨4,3,0⟩ 5 num):=aP;refine AHQ E aP w.w.m w.w.all w.ub bQ (by omega) (w.own c bu).1 (by omega) bR bS aG aD aE a5 w.q λS bd ar be ay bU bV ju bW ab=>⟨_,rfl,ag.no rfl (ag.no rfl ?_)⟩
 have r:=aN r (by omega) (by omega) ab;have o:=aN o (by omega) (by omega) ab;have u:=aN u (by omega) (by omega) ab;have cR:ad.size<=S.size:=by have:=N.size;have:=X.size;have:=Q.size;have:=Y.size;have:=Z.size;have:=ab.size;omega
 have bX:QW g S s (k+1) bd y1 ar (du fl wid (G++ [gN])) an F T L:=⟨be,bW,λn bY=>by
  obtain⟨bf,b0⟩:=w.own n bY;refine⟨?_,by rw[ay.2.2];exact b0⟩;unfold iF at bf ⊢;rw[ay.2.2,ay.2.1,bV];exact bf,(Uk.tail (q:=(c,v,wid)) (l:=Kn T L) w.ok).ak bU⟩
 have aQ:=be.m.dH wid _ Jq;have bg:View dU S I G:=by
  have H: ∀ {B M:aa},Mod (bq g F) B M->Mod (λq=>bq g F q\/q=bA) B M:=λm=>m.ak λq _ d=> .inl d
  refine((V.ext ae).ext N).dx ((H X).trans (Q.mod.trans ((H Y).trans ((ah.ak λq _ d=> .inr d).trans ((H Z).trans (H ab)))))) λ_ q d az=>?_
  have:=(w.w.w.out (.inl (a1 q d))).1;rcases az with az|az
  ·exact az.2 (.inl (a1 q d))
  ·omega
 refine JC.mk (⟨1,wid,3,0⟩:cn) (Cr o rfl) (th (x:=⟨0,0,0,⟨1,wid,3,0⟩,⟨#[]⟩,⟨none,0,0⟩⟩) λai aR U=>?_);have ac:=U.ai r λh=>h
 have aA:=U.ai o λh=>h
 have cS:=U.ai u λh=>h
 refine aj.mk λcT b1=>AC.mk (n:=1) (AO aA rfl) (ag.yes rfl (aj.mk λb2 b3=>?_))
 have fin: ∀(ak:aa) (sl:Sl),Ext S ak->ak[S.size]? =some (J2 (⟨0,0,0,⟨1,wid,3,0⟩,⟨#[]⟩,sl⟩:bo).c Ad (0,0))->View dU ak sl (G++ [gN])->b2 () ak:=λak sl bh aS bi=>by
  refine b3 _ _ (AZ.mk (s:=sl) (AB aS rfl) (tY bi aQ.len (λe b4=>?_) aQ.ok λcU cV cW cX aC cY cZ=>Gl.mk _ ⟨_,_,rfl,ao.mk λc0 _ b5 bj c1=>aF.mk b5 (A0 12) λb6 c2 bk c3=>ag.no rfl (b1 _ _ ?_)⟩))
  ·obtain⟨i,b7⟩:=E0 b4;have:=U0 (aQ.next.2 i e b7).2;omega
  have aT:Ext S b6:=(bh.trans (aC.trans bj)).more bk λq d=>by subst d;exact(bh.trans aC).size
  have c4:=Ah aS;have b8:=bk.ai ((aC.trans bj).ai aS λh=>h) (by have:=aC.size;omega);have b9:=aT.ai u λh=>h
  refine Dr.mk (⟨0,0,0,⟨1,wid,3,0⟩,⟨#[]⟩,sl⟩:bo) (Kj b8) (aF.mk b9 (A0 9) λbm bn bp c5=>?_);rw[Kz] at bn;refine Dr.mk (⟨0,0,0,⟨1,wid,3,0⟩,⟨#[]⟩,sl⟩:bo) (Kj bn) ?_;have ca:=bX.cS (O':=F) (aT.mod.trans (bp.ak λq _ d=>by subst d;exact aL _ (by omega) (by omega))) λq d=> .inl d
  refine bt bm bd ar sl (ca.less λq d=> .inl d) ay.1 ?_ (by rw[bi.len,A1,bv];rfl);have H: ∀ {B M:aa},Mod (bq g F) B M->Mod (λq=>bq g O q\/aw<=q) B M:=λm=>m.ak λq _ d=> .inl (bq.less d λq aM=> .inl aM)
  have cb:Mod (λq=>bq g O q\/aw<=q) h bm:=ae.mod.trans (N.mod.trans ((H X).trans (Q.mod.trans ((H Y).trans ((ah.ak λq _ d=> .inr (by omega)).trans ((H Z).trans ((H ab).trans (aT.mod.trans (bp.ak λq _ d=> .inr (by omega))))))))));exact cb.ak λq cc d=>d.elim id λh=>absurd cc (by omega)
 have c6:S.size<ai.size:=Ah aR;refine AZ.mk (s:=I) (AB ac rfl) (AC.mk (n:=3) (AB aA rfl) (AC.mk (n:=2) (by rw[add_add];exact AB ac rfl) ⟨?_,?_⟩))
 ·refine tq (bg.ext U) (by omega) λaU cd ce br D=>⟨_,rfl,by rw[add_add];exact AB (D.ai ac λh=>h) rfl,AB (D.ai aA λh=>h) rfl,?_⟩
  refine ao.jr (λB cf=>AB (cf.ai (D.ai ac λh=>h) λh=>h) rfl) ?_;refine ao.aZ (E:=dU) (x:=gN) (s:=aU) rfl mD ce (by omega) (by simp only[maxLen];omega) λW aV aW aX aY _=>?_
  have al:Ext ai aV:=D.more aX br;refine af.bM (j:=8) (dJ:=(⟨0,0,0,⟨1,wid,3,0⟩,⟨#[]⟩,W⟩:bo).c) (al.ai aR λh=>h) (of_decide_eq_true rfl) rfl λaZ a0 am cg=>?_
  refine fin aZ W ((U.trans al).more am λq d=>by subst d;exact A0 _) a0 (aW.view.mod am λq d e=>?_);rcases aY q d with h|h
  ·have:=br q h;omega
  ·have:=D.size;omega
 ·refine ao.mk λcd _ ch D c7=>⟨AB (D.ai ac λh=>h) rfl,?_⟩
  have ci:=(bg.ext U).ext D;refine tq ci (by omega) λaU cj cl bs ap=>⟨_,rfl,by rw[add_add];exact AB (ap.ai (D.ai ac λh=>h) λh=>h) rfl,AB (ap.ai (D.ai aA λh=>h) λh=>h) rfl,?_⟩
  have src:View dU cj ⟨some ⟨ai.size,0,none⟩,1,1⟩ [gN]:=(Own.lit (E:=dU) (l:= [gN]) (ap.ai ch λh=>h) rfl (by simp[maxLen])).view;refine Fx (E:=dU) (s:=aU) (src:=⟨some ⟨ai.size,0,none⟩,1,1⟩) mD cl src (by simp only[Cd];omega) (by simp only[Cd,maxLen];omega) λW aV aW aX aY _=>?_
  have al:Ext ai aV:=(D.trans ap).more aX λq d=>by have:=bs q d;have:=D.size;omega
  refine af.bM (j:=8) (dJ:=(⟨0,0,0,⟨1,wid,3,0⟩,⟨#[]⟩,W⟩:bo).c) (al.ai aR λh=>h) (of_decide_eq_true rfl) rfl λaZ a0 am cg=>?_
  refine fin aZ W ((U.trans al).more am λq d=>by subst d;exact A0 _) a0 (aW.view.mod am λq d e=>?_);have c8:=D.size;have c9:=ap.size;rcases aY q d with h|h
  ·have:=bs q h;omega
  ·omega
end
abbrev Sq(b:Int):bo:=⟨b,0,0,⟨0,⟨#[]⟩,0,0⟩,⟨#[]⟩,⟨none,0,0⟩⟩
theorem ATJ {h:aa}{b:Nat}{d:Int}{K:bo->aa->Prop}(i:h[b]? =some (J2 bo.z.c Ad (0,0)))(j: ∀e,Mod (· =b) h e->K (Sq d) e):aF h ⟨b,0,none⟩ (Sq d).l λc=>Dr c ⟨b,0,none⟩ λl=>K l c:=
 aF.mk i (A0 9) λc f m n=>Dr.mk (Sq d) (Kj (by rw[Kz] at f;exact f)) (j c m)
section
variable {A : ar} {g h : aa} {s k : Nat} {y0 y1 : Hs} {mp : List Pr} {fl : cA} {an : cP} {O : Nat -> Prop} {R : A2O} {T : TT} {L : List Tq} {a : Q2}
theorem tI {p:Q6}{name:A2P}(b:name=⟨#[]⟩\/Ak name=true){K:Bool×Unit->aa->Prop}(d:K (false,()) h):
  ag ((some p).isNone) (K (true,()) h) (ag (!bR name (⟨#[]⟩:A2P)) (AA A P Bg #[J7 name] h λi j=> ∃e:Bool,i=J3 e/\(K ((!e),()) j)) (K (false,()) h)):=by
 refine ag.no rfl ?_;by_cases c:name=⟨#[]⟩
 ·refine ag.no ?_ d;rw[Ca,c];rfl
 ·have b:=b.resolve_left c;refine ag.yes ?_ (FL ⟨_,rfl,by rw[b];exact d⟩);cases f:bR name ⟨#[]⟩ with
  |false=>rfl
  |true=>rw[Ca] at f;exact absurd (of_decide_eq_true f) c
theorem tJ {p:Int}{name:A2P}{i:Nat}{l:List Hs}{y:Hs}(q:EW g h s k 3 l mp fl an O)(r:l[i]? =some y)(b:name=⟨#[]⟩\/Ak name=true)(t:Kk (K9 name) mp= [])(u: ∀d,Ext h d->R (Sq 200).v d):AA A P BN #[Aq y.p,J5 a,J6 J9 p,J7 name] h R:=by
 have I:name.size<=16:=by
  rcases b with h|h
  ·rw[h];decide
  ·exact FE h
 refine WK ?_;unfold R7;refine ao.mk λv _ w e J=>aj.mk λK z=>tI b (z _ _ (ag.no rfl ?_))
 refine Loop.rule (λm x B=>m=0/\x=((⟨#[]⟩:A2P),())/\v=B) ?_ ⟨rfl,rfl,rfl⟩;rintro M m _ _ ⟨rfl,rfl,rfl⟩ N;refine aj.mk λQ S=>?_
 have f:=q.on e;refine f.w.store r ⟨_,rfl,pP (by omega) λU j=>⟨_,rfl,?_⟩⟩;have C:=f.on j;refine C.w.scan (by have:=RI (name:=name) (by omega);omega) λps V n W D=>⟨_,_,rfl,ag.no rfl ?_⟩
 rw[pQ,t] at n;have E:=n.len;refine ag.yes (by rw[E];rfl) ?_;have o:=j.trans D;exact ATJ (o.ai w λh=>h) λF G=>u F ((e.trans o).more G λc H=>by subst H;exact A0 _)
theorem ZL {c n0:Nat}{wid:A2P}(ay:bZ g)(e:QW g h s k y0 y1 mp fl an O T ((c,n0,wid)::L))(az:k+1<=490)
  (aA: ∀E z F ac f,QW g E s (k+1) z y1 F ac an O T L->z.p=y0.p->(∀ B,B≠wid->ac B=fl B)->Mod (bq g O) h E->f.len=3->R (⟨0,0,0,⟨1,wid,3,0⟩,⟨#[]⟩,f⟩:bo).v E):
  AA A P BN #[Aq y0.p,J5 a,J6 J9 0,J7 ⟨#[]⟩] h R:=by
 obtain⟨aC,G,-,C,p,aD,t,ad⟩:=e.ok.one (c,n0,wid) (pT (by simp));have C:Ak wid=true:=C;have t:fl wid=some aD:=t;have G:Au wid 3=c:=G;refine WK ?_;unfold R7;refine ao.mk λH _ I j bb=>aj.mk λK aE=>tI (.inl rfl) (aE _ _ (ag.no rfl ?_))
 refine Loop.rule (λm x aG=>m=0/\x=((⟨#[]⟩:A2P),())/\H=aG) ?_ ⟨rfl,rfl,rfl⟩;rintro bc m _ _ ⟨rfl,rfl,rfl⟩ bd;refine aj.mk λbe bf=>?_
 have J:=e.on j;refine J.w.w.store (i:=0) rfl ⟨_,rfl,pP (by decide) λbg M=>⟨_,rfl,?_⟩⟩;have aH:=J.on M;refine aH.w.w.scan (by have:=RI (name:=⟨#[]⟩) (by decide);omega) λps aI u bh ae=>⟨_,_,rfl,ag.no rfl ?_⟩
 rw[pQ,e.q.li] at u;have u:Own BQ AR aI ps [ML (c,n0,wid)]:=u;have aJ:ps.len=1:=u.len;refine ag.no (by rw[aJ];rfl) (u.view.idx (i:=0) rfl λbi _ aK=>?_);obtain⟨aL,aM,aN⟩:=aK.pair;refine AJ.mk aL (AJ.mk aM (Ac.mk aN (ao.pair λbj aO bk N af bm=>AJ.mk (n:=Ee c n0) (AO N rfl) ⟨?_,AJ.mk (n:=dZ wid) (AB N rfl) ?_⟩)))
 ·rw[R9,max_i64];decide
 have aP:Gx ⟨1,2,0⟩ wid=true:=O7 (by decide) C (by decide);refine tj aP λbn D=>kY.mk _ ⟨_,rfl,ao.mk λbp _ aQ ah br=>aF.mk aQ (A0 4) λQ ai ak bs=>ag.no rfl (AJ.mk (n:=wid) (AB ai rfl) ?_)⟩
 have l:Ext H Q:=((((M.trans ae).trans af).trans D).trans ah).more ak λb d=>by subst d;exact(((M.trans ae).trans af).trans D).size
 have aR:Ext aO Q:=(D.trans ah).more ak λb d=>by subst d;exact D.size
 have al:=J.on l;refine sN (i:=0) al.w.w rfl al.w.m C t λam aS o q r aT V S fr aU aV=>SS.mk _ ⟨_,rfl,ao.mk λbt _ aW aX bu=>aF.mk aW (A0 18) λv w aY bv=>ag.no rfl ?_⟩
 rw[ZW] at w;rw[ad] at w S;rw[G] at w;have y:Ext am v:=aX.more aY λb d=>by subst d;exact A0 _
 have U:=aT.trans y;have W:=l.trans U;have ap:=j.trans W;have aZ:=S.ext y;have lt: ∀b,Tk (cL p 0) o q r b->Q.size<=b/\b<am.size:=λb d=>⟨fr b (by rcases d with⟨_,h⟩|⟨_,h⟩|⟨_,h⟩<;>simp[h]),S.lt d⟩
 have aq:QW g v s k y0 y1 mp fl an (λb=>(O b\/(h.size<=b/\b<v.size/\ ¬Tk (cL p 0) o q r b))\/Tk (cL p 0) o q r b) T ((c,n0,wid)::L):=e.cS ap.mod λb d=>by
  have bw:=(j.trans l).size;have bx:=y.size;rcases d with(h|h)|h
  ·exact .inl h
  ·exact .inr ⟨h.1,h.2.1⟩
  ·have:=lt b h;exact .inr ⟨by omega,by omega⟩
 have own:=e.own c aC;refine AC.mk (n:=(c:Int)) (AB w rfl) (aq.w.w.holds (i:=0) rfl ⟨_,rfl,ag.no (by rw[own.2];rfl) ?_⟩);have X:=(aR.trans U).ai N λh=>h
 have a0:=U.ai ai λh=>h
 refine F5.mk (⟨wid,(c:Int),⟨0,3,false⟩,aS,(cL p 0).V o q r⟩:bT) (OW w) (JC.mk (⟨1,wid,2,0⟩:cn) (Cr a0 rfl) (AJ.mk (n:=Ee c n0) (AO X rfl) (AJ.mk (n:=dZ wid) (AB X rfl) (Ac.mk (n:=false) (AB X rfl) ?_))));have bz:=e.w.w.on j;refine ARZ ay aq az (V.ext y) (λb d=>?_) aZ (λb d Y=>?_) t ad λbA z F f a1 a2 ar a3=>EC.mk _ ⟨_,rfl,th (x:=⟨0,0,0,⟨1,wid,3,0⟩,⟨#[]⟩,f⟩) λbB a4 Z=>aj.mk λbC a5=>ag.yes rfl (a5 _ _ (ag.yes rfl ?_))⟩
 ·have bD:=aU b d;have H:=(j.trans l).size;refine .inr ⟨by omega,?_,λaa=>?_⟩
  ·have:=V.mP (λab=>by
    have:=(e.w.m.dH _ _ t).ne;exact this ab) d
   have:=y.size;omega
  ·have:=aV b b d (by rcases aa with⟨_,h⟩|⟨_,h⟩|⟨_,h⟩<;>simp[h]);omega
 ·have:=lt b d;rcases Y with h|h
  ·have:=(e.w.w.out h).1;have:=(j.trans l).size;omega
  ·exact h.2.2 d
 have au: ∀ {b:Nat},b=h.size->(O b\/(h.size<=b/\b<v.size/\ ¬Tk (cL p 0) o q r b)):=λ{b} ab=>by
  subst ab;refine .inr ⟨A0 _,?_,λaa=>?_⟩
  ·have:=Ah I;have:=W.size;omega
  ·have:=lt _ aa;have:=Ah I;have:=l.size;omega
 have a6:=Z.ai (bq.aN ar (W.ai I λh=>h) (au rfl)) λh=>h
 refine Dr.mk (⟨0,0,0,⟨1,wid,3,0⟩,⟨#[]⟩,f⟩:bo) (Kj a4) (aF.mk a6 (A0 9) λav aw ax bE=>?_);rw[Kz] at aw;refine Dr.mk (⟨0,0,0,⟨1,wid,3,0⟩,⟨#[]⟩,f⟩:bo) (Kj aw) ?_;have a7:=a1.cS (O':=λb=>O b\/(h.size<=b/\b<v.size/\ ¬Tk (cL p 0) o q r b)) (Z.mod.trans (ax.ak λb _ d=>au d)) λb d=> .inl d
 refine aA av z F _ f (a7.less λb d=> .inl d) a2 (λB a8=>NJ a8) ?_ a3;have a9:Mod (λb=>bq g O b\/h.size<=b) h av:=ap.mod.trans ((ar.ak λb _ d=> .inl (bq.less d λb Y=> .inl Y)).trans (Z.mod.trans (ax.ak λb _ d=> .inr (by omega))));exact a9.ak λb ba d=>d.elim id λh=>absurd ba (by omega)
end
theorem AK6 {mp b:List Pr}(s:Sorted mp)(h: ∀p∈b,BL p.key≠108)(c d:Nat)(e:A2P):Bd (cz mp b) (FY c d e)=Bd mp (FY c d e):=by
 have f:Af (CE c) (cz mp b)=Af (CE c) mp:=KF s λi j l=>h i j ((congrArg BL l).trans (Rh c))
 rw[OG,OG];unfold Iy;rw[f]
abbrev kK(c:Nat)(t:Nat×A2P):List Pr:= [⟨DF c t.1,⟨#[]⟩,true⟩,ML (c,t)]
theorem APX(c:Nat)(t:Nat×A2P): ∀p∈kK c t,BL p.key=116\/BL p.key=113:=by
 intro p b;simp only[GB,IH,or_false] at b;rcases b with rfl|rfl
 ·exact .inl (R5 _ _)
 ·exact .inr (Qb _ _)
theorem ATp {mp:List Pr}{c:Nat}{t:Nat×A2P}{b:Pr}(f:Bd mp b=true)(i:Ak t.2=true)(j:Af (DF c t.1) mp=some (dc c t)):dw mp (b:: [⟨DF c t.1,dZ t.2,false⟩]) (kK c t)=0:=by
 have m:=Ms c t.1;have n:=R9 c t.1;have o:=xA (kind:=1) (wid:=t.2) (ref:=2) (turn:=0) (by decide) (FE i) (by decide) (by decide);have l:EX (kK c t)=0:=pH (by simp) (by simp) λp d=>by
  simp only[GB,IH,or_false] at d;rcases d with rfl|rfl
  ·exact sP (PV (by omega)) (by omega)
  ·exact OP (k:=Ee c t.1) (v:=mq 1 t.2 2 0) (PV (by omega)) (by omega) (by omega)
 unfold dw;rw[if_neg (by simp),if_neg (by rw[l];decide),if_pos];refine List.all_eq_true.2 λq e=>?_
 simp only[GB,IH,or_false] at e;rcases e with rfl|rfl
 ·exact f
 ·exact tz (r:=dc c t) j rfl
section
variable {A : ar} {g h : aa} {s k : Nat} {y0 y1 : Hs} {mp : List Pr} {fl : cA} {an : cP} {O : Nat -> Prop} {R : A2O} {T : TT} {L : List Tq} {a : Q2}
theorem QW.go {o:aa}{c:Nat}{t:Nat×A2P}{l:List (Nat×A2P)}(b:QW g h s k y0 y1 mp fl an O T L)(i:c<3)(j:T c=t::l)(E:k+1<=490)(v:LW Uj g o s (k+1) (3*k) 3 [y0,y1] (cz mp (kK c t)) O):QW g o s (k+1) y0 y1 (cz mp (kK c t)) fl an O (dB T c l) (iG L (c,t)):=by
 have F:Uj.C=32000:=rfl;have e:=b.w.w.sorted;have q:=APX c t;refine⟨⟨v.put (A0 _) (by omega) (by omega) (by omega),b.w.m.aN e λp m=>?_,λw y n=>by have:=b.w.all w y n;omega⟩,?_,λn z=>?_,b.ok.perm (tB i j)⟩
 ·rcases q p m with d|d<;>rw[d]<;>decide
 ·have f:=b.q.oV e i j;have r:=H7 (P:=K9 ⟨#[]⟩) e;rw[b.q.li] at r;have B:=b.ok.perm (tA (L:=L) i j).symm;rw[show fh (L.map ML) (gM c t)=(iG L (c,t)).map ML from AP1 (x:=(c,t)) r λf C=>B.fresh (by have:=b.ub c;show y0.u c<1000000;omega) (pT C) (by have:=b.ub f.1;omega)] at f;exact f
 ·obtain⟨u,D⟩:=b.own n z;refine⟨?_,D⟩;unfold iF at u ⊢;rw[AK6 e λp m=>by rcases q p m with d|d<;>rw[d]<;>decide];exact u
theorem tK {c:Nat}(E:bZ g)(j:QW g h s k y0 y1 mp fl an O T L)(r:c<3)(bw:k+8<=490)
  (aI: ∀u G,QW g u s (k+8) y0 y1 G fl an O (dB T c ((T c).drop 8)) (jQ c ((T c).take 8) L)->Mod (bq g O) h u->h.size<=u.size->R (J1 #[J6 J9 ((((T c).take 8).length:Nat):Int),J6 J9 0]) u):
  AA A P OC #[Aq y0.p,J5 a,J6 J9 (c:Int)] h R:=by
 have bx:Uj.C=32000:=rfl;have hA:Uj.A=1600:=rfl;have own:=j.own c r;refine AEN ?_;unfold YL;refine aj.mk λK aJ=>ag.no rfl (ag.no (decide_eq_false (by omega)) (j.w.w.aH (i:=0) rfl ⟨_,rfl,aJ _ _ (ag.no (decide_eq_false (by show ¬(3:Int)<=(c:Int);omega)) ?_)⟩))
 refine j.w.w.holds (i:=0) rfl ⟨_,rfl,ag.no (by rw[own.2];rfl) (j.w.w.store (i:=0) rfl ⟨_,rfl,ANx (by omega) λbz H=>⟨_,rfl,?_⟩⟩)⟩;refine(j.on H).w.w.scan (by unfold Lp;rw[AP];show 2<=1099511627776;decide) λps o v aK aL=>⟨_,_,rfl,ag.no rfl ?_⟩
 rw[pQ,j.q.tr c r,<-P3] at v;have v:Own BQ AR o ps (((T c).take 8).map (dc c)):=v;have B:ps.len=((T c).take 8).length:=by rw[v.len,Bs]
 have bA:((T c).take 8).length<=8:=by rw[Ax];omega
 have I:=H.trans aL;have aM:=j.cS (O':=λb=>O b\/(h.size<=b/\b<o.size)) I.mod λb d=>d
 refine Loop.rule (λm x q=> ∃(e:Nat) (G:List Pr),x=((e:Int),())/\m=8-e/\e<=ps.len/\QW g q s (k+e) y0 y1 G fl an (λb=>O b\/(h.size<=b/\b<o.size)) (dB T c ((T c).drop e)) (jQ c ((T c).take e) L)/\Mod (bq g λb=>O b\/(h.size<=b/\b<o.size)) o q/\o.size<=q.size) ?_
  ⟨0,mp,rfl,rfl,An _,by rw[IT,tG];exact aM,Mod.refl,A0 _⟩
 rintro bB m _ q ⟨e,mp,rfl,rfl,bC,j,J,bD⟩ aN;dsimp only;have aO: ∀ {u:aa},Mod (bq g λb=>O b\/(h.size<=b/\b<o.size)) q u->Mod (bq g O) h u:=λm=>I.mod.trans ((J.trans m).ak λb _ d=>bq.less d λb N=> .inl N)
 refine ag.intro (λd=>?_) (λd=>?_);rotate_left
 ·have aP:e=ps.len:=by have:=of_decide_eq_false d;omega
  subst aP;have aQ:(T c).drop ps.len=(T c).drop 8:=by
   rw[B,Ax];rcases Nat.le_total 8 (T c).length with h|h
   ·rw[Fk h]
   ·rw[LS h,Mb,P4 h]
  have aR:(T c).take ps.len=(T c).take 8:=by
   rw[B,Ax];rcases Nat.le_total 8 (T c).length with h|h
   ·rw[Fk h]
   ·rw[LS h,BT,AG h]
  rw[aQ,aR] at j;rw[B];exact aI q mp ((j.up (by omega) (by omega)).less λb d=> .inl d) (aO Mod.refl) (by have:=I.size;omega)
 have ah:e<ps.len:=by have:=of_decide_eq_true d;omega
 have Q:e<(T c).length:=by rw[B,Ax] at ah;omega
 obtain⟨t,C⟩: ∃t,(T c)[e]? =some t:=⟨_,A2 Q⟩;have hd:(T c).drop e=t::(T c).drop (e+1):=by rw[DP Q];rw[A2 Q] at C;cases C;rfl
 have aS:(T c).take (e+1)=(T c).take e++ [t]:=by rw[AD,C];rfl
 have S:dB T c ((T c).drop e) c=t::(T c).drop (e+1):=by rw[Uf,hd]
 have aT:(c,t)∈Kn (dB T c ((T c).drop e)) (jQ c ((T c).take e) L):=tD r (by rw[S];simp);obtain⟨-,U,-,y,p,aU,W,aV⟩:=j.ok.one _ aT;have y:Ak t.2=true:=y;have W:fl t.2=some aU:=W;have U:Au t.2 3=c:=U;have aW:=j.w.w.sorted;have aX: ∀b,ps.ai=some b->h.size<=b/\b<o.size:=λb d=>⟨by have:=aK b d;have:=H.size;omega,v.lt d⟩
 have aY:View BQ q ps (((T c).take 8).map (dc c)):=v.view.mod J λb d aZ=>aZ.2 (.inr (aX b d))
 refine aY.idx (i:=e) (x:=dc c t) (by rw[C2,Ek,if_pos (by omega),C];rfl) λbE _ a0=>?_
 obtain⟨a1,a2,a3⟩:=a0.pair;refine AJ.mk a1 (AJ.mk a2 (Ac.mk a3 (ao.pair λa4 a5 bF ai a6 bG=>AJ.mk (n:=dZ t.2) (AB ai rfl) ?_)));have a7:Gx ⟨1,2,0⟩ t.2=true:=O7 (by decide) y (by decide);refine tj a7 λbH ak=>kY.mk _ ⟨_,rfl,ao.mk λbI _ a8 a9 bJ=>aF.mk a8 (A0 4) λal am ba bK=>ag.no rfl (AJ.mk (n:=t.2) (AB am rfl) ?_)⟩
 have ap:Ext a5 al:=(ak.trans a9).more ba λb d=>by subst d;exact ak.size
 have X:=a6.trans ap;refine sO (i:=0) (j.on X).w.w rfl j.w.m y W λbL aq ar au av bb V bM fr bN=>SS.mk _ ⟨_,rfl,ao.mk λbO _ bc bd bP=>aF.mk bc (A0 18) λw Y be bQ=>ag.no rfl ?_⟩
 rw[ZW] at Y;rw[aV,U] at Y;have D:Ext al w:=bb.trans (bd.more be λb d=>by subst d;exact A0 _);have Z:=(ap.trans D).ai ai λh=>h
 have bf:=D.ai am λh=>h
 refine AJ.mk (n:=DF c t.1) (AO Z rfl) (ao.mk λbR _ bg z bS=>aj.mk λbU bh=>?_);have bi:=z.ai Z λh=>h
 refine F5.mk (⟨t.2,(c:Int),⟨0,3,false⟩,aq,(cL p 0).V ar au av⟩:bT) (OW (z.ai Y λh=>h)) (JC.mk (⟨1,t.2,2,0⟩:cn) (Cr (z.ai bf λh=>h) rfl) ?_);refine tn (f:=(⟨t.2,(c:Int),⟨0,3,false⟩,aq,(cL p 0).V ar au av⟩:bT)) (t:=⟨1,t.2,2,0⟩) rfl λbV aw=>⟨_,_,rfl,ag.yes rfl ?_⟩
 have F:=aw.ai bi λh=>h
 refine AJ.mk (n:=DF c t.1) (AO F rfl) ⟨⟨by decide,by rw[Ms];decide⟩,AJ.mk (n:=dZ t.2) (AB F rfl) ?_⟩;have bj:(DF c t.1).extract ((1:Int).toNat) (DF c t.1).size=AX (Bq c::IY 8 t.1):=by show(DF c t.1).extract 1 (DF c t.1).size=_;unfold DF;rw[VJ];rfl
 rw[bj];refine AMq (by decide) (by rw[AP];show 9<=1000000;decide) λbk ab=>⟨_,rfl,AB (ab.ai F λh=>h) rfl,?_⟩
 rw[AP0];have ac:=aw.trans ab;have bm:Own BQ AR bk ⟨some ⟨w.size,0,none⟩,1,1⟩ [⟨DF c t.1,⟨#[]⟩,true⟩]:=Own.lit (E:=BQ) (l:= [⟨DF c t.1,⟨#[]⟩,true⟩]) (ac.ai bg λh=>h) rfl (by simp[maxLen]);refine ao.aZ (E:=BQ) (x:=ML (c,t)) (s:=⟨some ⟨w.size,0,none⟩,1,1⟩) rfl M.G5 bm (by simp only[Cd];decide) (by simp only[Cd,maxLen];decide) λbn ad ax ae bo _=>bh _ _ ?_
 have bW:=X.size;have bX:=D.size;have bY:=z.size;have b0:=ac.size;have b1:=ae.size;have bp:Ext q ad:=(X.trans (D.trans (z.trans ac))).more ae λb d=>by
  have d:w.size=b:=by simpa [Sl.ai] using d
  omega
 have b2:=Ah Z;have ay:=ae.ai (ab.ai F λh=>h) λaz=>by
  have az:w.size=a4:=by simpa [Sl.ai] using az
  omega
 refine AJ.mk (n:=DF c t.1) (AO ay rfl) (AJ.mk (n:=dZ t.2) (AB ay rfl) (ao.mk λaA _ br af b3=>?_));have bs:View BQ aA ⟨some ⟨ad.size,0,none⟩,1,1⟩ [⟨DF c t.1,dZ t.2,false⟩]:=(Own.lit (E:=BQ) (l:= [⟨DF c t.1,dZ t.2,false⟩]) br rfl (by simp[maxLen])).view;have aC:=bp.trans af;have aD:=j.cS (O':=λb=>(O b\/(h.size<=b/\b<o.size))\/(q.size<=b/\b<aA.size)) aC.mod λb d=>d
 have b4:=af.size;have ub:=j.ub c;have row:=j.q.dc aW r (t:=t) (by rw[S];simp);have bt:=ATp (c:=c) (t:=t) (j.own c r).1.2 y row;refine aD.w.w.change (i:=0) (x:=y0) (conds:=⟨some ⟨ad.size,0,none⟩,1,1⟩) (sl:=bn) (cl:= [⟨DF c t.1,dZ t.2,false⟩]) (lp:=kK c t) E rfl (by omega) (by omega) (by omega) (by omega) (by omega) bs (by simp) (ax.view.ext af) (λ_ b d=> .inr (.inr ?_)) (λb d=>by
  rw[List.mem_singleton.1 d];show(DF c t.1).size<=_;rw[Ms];decide) (λbu=>absurd bu (j.own c r).1.1) (λ_ aE=>by rw[(j.own c r).1.2] at aE;cases aE) (λ_ _ hd=>absurd bt hd) λ_ _ _ b5 bv aG=>⟨_,rfl,ag.no rfl ?_⟩
 ·have:=ax.lt d;refine⟨?_,by omega⟩;rcases bo b d with h|h
  ·have h:w.size=b:=by simpa [Sl.ai] using h
   omega
  ·omega
 rw[Aa (by omega)];have aH:=(aD.go r S (by omega) bv).less (O':=λb=>O b\/(h.size<=b/\b<o.size)) λb d=> .inl d
 rw[tF,<-AM4,<-aS] at aH;refine aN (8-(e+1)) _ _ (by omega) ⟨e+1,_,rfl,rfl,ah,aH,J.trans (aC.mod.trans (aG.ak λb _ d=>bq.less d λb N=> .inl N)),?_⟩;have:=aG.size;omega
end
section
variable {A : ar} {g h : aa} {s k : Nat} {mp : List Pr} {fl : cA} {an : cP} {O : Nat -> Prop} {R : A2O} {a : Q2}
theorem LW.js {B:cI}{sh b:Nat}{Sb:Nat->Prop}{m:Bx}(l:bZ g)(n:Cu h b Sb m)(d:Ext g h)(o: ∀c,Sb c->g.size<=c)(hd:m.down=false)(p:m.fuel= -1)(q: ∀f,ff m (aD nl f)=none)(r: ∀f,ff m (aD nn f)=none)(t: ∀x,ff m x≠none->(bl x).head? ≠some 116)(hA:1<=B.A)(u:bj m.files<=B.W0)(v: ∀c,O c->g.size<=c/\c<h.size/\ ¬Sb c)
  (w: ∀e s,LW B g e s 0 0 sh [] [] O->Mod (λc=>Sb c\/h.size<=c) h e->h.size<=s->R (J1 #[Aq s,J6 J9 0]) e):AA A P SA #[Aq b] h R:=
 ANI (B:=B) l n d o hd p q r t hA u λe s y z C D E M F mp j G H=>w e s ⟨y,z,C,D,E,0,F,A0 _,mp,⟨λi x d=>by simp at d,λi N x Q d=>by simp at d⟩,by omega,λc I=>by
  obtain⟨J,S,K⟩:=v c I;refine⟨Decidable.byContradiction λL=>?_,by have:=j.size;omega,J,by omega,λx d=>by cases d⟩;rcases G c L with h|h
  ·exact K h
  ·omega⟩ j H
end
def lN(i:Nat):A2P:=AX [104,111,115,116,Bq (48+i)]
abbrev tL(l:List Hs)(i:Nat):J0:=J5 ((l[i]?).map λb=>⟨b.p,0,none⟩)
abbrev SB(b s:Nat)(l:List Hs)(a:Nat):Array J0:= #[Aq b,Aq s,tL l 0,tL l 1,Aq a,J4 none 0 0,J4 none 0 0,J4 none 0 0,J4 none 0 0,J6 J9 0]
section
variable {A : ar} {g h : aa} {R : A2O}
theorem tM(E:bZ g)(x:Ext g h)(am: ∀J f b s t r u mp,EW g J s 3 3 [t,r] mp (λ_=>none) (λ_=>none) (λe=>e=f)->jO mp t 3->r.f=(λ_=>0)->J[f]? =some (J2 (SB b s [t,r] u) Ap (0,0))->Ext g J->h.size<=J.size->(∀ e,BL e≠108->Af e mp=none)->R (Aq f) J):AA A P Gm #[] h R:=by
 refine UY ?_;unfold Nc;refine AQw λb ap Sb ab ac aq=>⟨_,rfl,ao.mk λaV _ W X aW=>AY.mk (AO W rfl) ?_⟩
 have aX:=x.size;have aY:=ac.size;have aZ:=X.size;generalize a0:ap.size=f at*
 have lw:=Ah W;have ad: ∀c,Sb c->c<f:=λc D=>by have:=ab.lt D;omega
 refine LW.js (B:=Uj) (sh:=3) (O:=λe=>e=f) E (ab.ext X) ((x.trans ac).trans X) (λc D=>by have:=aq c D;omega) rfl rfl (λn=>rfl) (λn=>rfl) (λx ar=>absurd rfl ar) (by decide) (by decide) (λc D=>by subst D;exact⟨by omega,lw,λT=>by have:=ad _ T;omega⟩) λau s av ae T=>⟨_,_,rfl,ag.no rfl ?_⟩
 have ah:=ae.ai W λD=>D.elim (λT=>by have:=ad _ T;omega) λh=>by omega
 refine AY.mk (AO ah rfl) ?_;refine ACq ?_;unfold WE;refine ao.mk λa1 _ a2 Y a3=>⟨_,rfl,?_⟩
 generalize a4:au.size=u at*
 have aw:=Y.ai ah λh=>h
 refine af.bM (j:=1) aw (of_decide_eq_true rfl) rfl λa5 ax ay a6=>af.bM (j:=4) (dJ:=SB b s [] u) ax (of_decide_eq_true rfl) rfl λaz aA aC a7=>?_
 have aD:=av.own (O':=λe=>e=f) (Y.mod.trans (ay.trans aC)) λe d=> .inl d
 have a8:=ae.size;have a9:=Y.size;refine Loop.rule (λL x F=> ∃(l:List Hs),x=((l.length:Int),())/\L=2-l.length/\l.length<=2/\LW Uj g F s 0 0 3 l [] (λe=>e=f)/\(∀ (i:Nat) o,l[i]? =some o->o.name=lN i/\o.f=(λ_=>0)/\o.u=λ_=>0)/\F[f]? =some (J2 (SB b s l u) Ap (0,0))/\az.size<=F.size) ?_
  ⟨[],rfl,rfl,by decide,aD,λi o q=>by simp at q,aA,A0 _⟩
 rintro K L _ F ⟨l,rfl,rfl,aE,y,G,U,ba⟩ aF;dsimp only;refine ag.intro (λd=>?_) (λd=>?_)
 ·have d:l.length<2:=by have:=of_decide_eq_true d;omega
  rw[show((48:Int)+(l.length:Int))=((48+l.length:Nat):Int) from by omega,Fa (by omega)];refine ao.mk λaG _ aH Z bb=>?_
  have v1:View GL aG ⟨some ⟨F.size,0,none⟩,1,1⟩ [Bq (48+l.length)]:=(Own.lit (E:=GL) (l:= [Bq (48+l.length)]) aH (by
   show [Value.int .u8 (J8 .u8 ((48+l.length:Nat):Int))]= [Value.int .u8 ((Bq (48+l.length)).toNat:Int)];rw[wrap_u8,DR (by omega),As (by omega)]) (by simp[maxLen])).view
  refine JQ (s:=⟨some ⟨F.size,0,none⟩,1,1⟩) Ws kq Ll v1 ⟨_,rfl,⟨by rw[AP,max_i64];show((5:Nat):Int)<=9223372036854775807;decide,?_⟩⟩;rw[show(⟨#[104,111,115,116]⟩:A2P)++AX [Bq (48+l.length)]=lN l.length from by
   rw[show(⟨#[104,111,115,116]⟩:A2P)=AX [104,111,115,116] from rfl,Aj];rfl]
  refine(y.on Z).host (name:=lN l.length) (by rcases(by omega:l.length=0\/l.length=1) with H|H<;>rw[H]<;>decide) (by decide) λaI p aJ aK aL ai=>⟨_,_,rfl,⟨by omega,by omega⟩,?_⟩
  have M:=(Z.trans ai).ai U λh=>h
  have aM:=(Z.trans ai).size;have aN: ∀j:Nat,((⟨f,0,none⟩:Q6).add 2).add (((j:Nat):Int).toNat*1)=(⟨f,0,none⟩:Q6).add (2+j):=λj=>by rw[add_add,A6,Bk]
  rw[aN];have fin: ∀C,Mod (· =f) aI C->C[f]? =some (J2 (SB b s (l++ [⟨p,aJ,aK,lN l.length,λ_=>0,λ_=>0⟩]) u) Ap (0,0))->K ((J8 J9 ((l.length:Int)+(1:Int))),()) C:=λC I N=>by
   rw[Aa (by omega)];have aO:=aL.own (O':=λe=>e=f) I λe d=> .inl d
   refine aF (2-(l.length+1)) _ _ (by omega) ⟨_,by rw[A1];rfl,by rw[A1];rfl,by rw[A1];exact d,aO,λi o q=>?_,N,by have:=I.size;omega⟩;rw[Pa] at q;split at q
   ·exact G i o q
   ·rw[Pc] at q;split at q
    ·cases q;rw[show i=l.length by omega];exact⟨rfl,rfl,rfl⟩
    ·cases q
  match l,aE,d,M,fin with
  | [],_,_,M,fin=>exact af.bM (j:=2) M (of_decide_eq_true rfl) rfl λC N I aP=>ag.no rfl (fin C I N)
  | [z],_,_,M,fin=>exact af.bM (j:=3) M (of_decide_eq_true rfl) rfl λC N I aP=>ag.no rfl (fin C I N)
  |_::_::_,_,d,_,_=>exact absurd d (by simp)
 ·have d:l.length=2:=by have:=of_decide_eq_false d;omega
  match l,d,G,y,U with
  | [t,r],_,G,y,U=>
   have V:=G 0 t rfl;have aa:=G 1 r rfl;refine Loop.rule (λL x w=> ∃(n:Nat) (o:Hs) (mp:List Pr),x=((n:Int),())/\L=3-n/\n<=3/\EW g w s n 3 [o,r] mp (λ_=>none) (λ_=>none) (λe=>e=f)/\jO mp o n/\o.p=t.p/\o.name=lN 0/\w[f]? =some (J2 (SB b s [t,r] u) Ap (0,0))/\F.size<=w.size/\ ∀e,BL e≠108->Af e mp=none) ?_
    ⟨0,t,[],rfl,rfl,by omega,⟨y,Jj.empty,λz w m=>by
     rcases List.mem_cons.1 w with rfl|w
     ·rw[V.2.1,V.2.2];exact⟨A0 _,A0 _⟩
     ·rw[List.mem_singleton.1 w,aa.2.1,aa.2.2];exact⟨A0 _,A0 _⟩⟩,⟨λn G=>by omega,λn _=>⟨by rw[V.2.1],λ_=>GI.empty⟩⟩,rfl,V.1,U,A0 _,λ_ _=>rfl⟩
   rintro bc L _ w ⟨n,o,mp,rfl,rfl,G,y,aj,Q,q,S,aM,ak⟩ aQ;dsimp only;refine ag.intro (λd=>⟨by decide,AY.mk (n:=some ⟨o.p,0,none⟩) ?_ ?_⟩) (λd=>?_)
   ·have:=AB (j:=2) (v:=Aq t.p) S rfl;rw[Q];exact this
   ·have d:n<3:=by have:=of_decide_eq_true d;omega
    refine ARb E y d aj (by rw[q];decide) λbd aR aS aT al aU=>⟨_,_,rfl,ag.no rfl ?_⟩
    rw[Aa (by omega)];exact aQ (3-(n+1)) _ _ (by omega) ⟨n+1,_,aR,rfl,rfl,d,aS,aT,Q,q,bq.aN al S rfl,by have:=al.size;omega,λe d=>by rw[aU,KF y.w.sorted λp Q H=>d (by rw[<- H,List.mem_singleton.1 Q];exact Rh n)];exact ak e d⟩
   ·have d:n=3:=by have:=of_decide_eq_false d;omega
    subst d;have S:w[f]? =some (J2 (SB b s [o,r] u) Ap (0,0)):=by
     have H:SB b s [o,r] u=SB b s [t,r] u:=by simp[SB,Q]
     rw[H];exact S
    exact am w f b s o r u mp y aj aa.2.1 S y.w.ext (by omega) ak
end
theorem pre_nil {b:List Pr}{a:UInt8}{q:List UInt8}(s:Sorted b)(h: ∀q,BL q≠108->Af q b=none)(c:a≠108):Kk (AX (a::q)) b= []:=by
 refine List.filter_eq_nil_iff.2 λp d e=>?_
 have:=h p.key (by rw[tw e];exact c);rw[s.find d] at this;cases this
theorem QW.first {g h:aa}{s:Nat}{b e:Hs}{a:List Pr}{f:Nat->Prop}(d:EW g h s 3 3 [b,e] a (λ_=>none) (λ_=>none) f)(i:jO a b 3)(j: ∀q,BL q≠108->Af q a=none):QW g h s 3 b e a (λ_=>none) (λ_=>none) f (λ_=> []) []:=
 ⟨d,⟨λc _=>pre_nil d.w.sorted j (by decide),by rw[Qj];exact pre_nil d.w.sorted j (by decide)⟩,λl k=>⟨i.owns k,(i.has l k).1⟩,⟨λq m=>(by cases m),Pl,Pl⟩⟩
abbrev KI(b s p0 p1 a:Nat):Array J0:= #[Aq b,Aq s,Aq p0,Aq p1,Aq a,J4 none 0 0,J4 none 0 0,J4 none 0 0,J4 none 0 0,J6 J9 0]
structure dv (g:aa) (s wb bb ab rb p0 p1:Nat) (q:Tq) (ph:Nat) (es:Sl) (B:List Nat) (hh:aa):Prop where
 w: ∃k y0 y1 mp fl an T,QW g hh s k y0 y1 mp fl an (λq=>q=wb\/q=rb\/q∈B) T (if ph=0 then [q] else [])/\y0.p=p0/\k<=100+ph
 cw:hh[wb]? =some (J2 (KI bb s p0 p1 ab) Ap (0,0))
 cr:hh[rb]? =some (J2 (dR 0 0 3).c Ad (0,0))
 bs: ∀b∈B,hh[b]? =some (J2 bo.z.c Ad (0,0))/\b≠rb
 nd:B.Nodup
 el:ph≠0->es.len=3
abbrev iH(q:Tq)(es:Sl):bo:=⟨0,0,0,⟨1,q.2.2,3,0⟩,⟨#[]⟩,es⟩
section
variable {A : ar} {g hh : aa} {s wb bb ab rb p0 p1 : Nat} {q : Tq} {ph : Nat} {es : Sl} {B : List Nat} {R : A2O}
theorem dv.c4(a:dv g s wb bb ab rb p0 p1 q ph es B hh):ah hh ((⟨wb,0,none⟩:Q6).add 4)=some (Aq ab):=AB a.cw rfl
theorem dv.c2(a:dv g s wb bb ab rb p0 p1 q ph es B hh):ah hh (((⟨wb,0,none⟩:Q6).add 2).add ((0:Int).toNat*1))=some (Aq p0):=AB (j:=2) a.cw rfl
theorem dv.new {K:Nat->aa->Prop}(f:dv g s wb bb ab rb p0 p1 q ph es B hh)(i: ∀b a,dv g s wb bb ab rb p0 p1 q ph es (b::B) a->K b a):ao hh (J2 bo.z.c Ad) K:=by
 refine ao.mk λa _ j x D=>i hh.size a ?_
 obtain⟨⟨k,l,m,n,o,p,T,r,t,u⟩,v,e,d,nd,w⟩:=f;refine⟨⟨k,l,m,n,o,p,T,r.cS x.mod λc y=>?_,t,u⟩,x.ai v λh=>h,x.ai e λh=>h,λb z=>?_,List.nodup_cons.2 ⟨λC=>?_,nd⟩,w⟩
 ·rcases y with h|h|h
  ·exact .inl (.inl h)
  ·exact .inl (.inr (.inl h))
  ·rcases List.mem_cons.1 h with h|h
   ·exact .inr (by omega)
   ·exact .inl (.inr (.inr h))
 ·rcases List.mem_cons.1 z with rfl|h
  ·exact⟨j,λE=>by have:=Ah e;omega⟩
  ·exact⟨x.ai (d b h).1 λh=>h,(d b h).2⟩
 ·have:=Ah (d _ C).1;omega
theorem dv.move {c:Nat}{f:Sl}{d:aa}(a:dv g s wb bb ab rb p0 p1 q ph es B hh)(m:Mod (bq g λq=>q=wb\/q=rb\/q∈B) hh d)(k: ∃i j l n o p T,QW g d s i j l n o p (λq=>q=wb\/q=rb\/q∈B) T (if c=0 then [q] else [])/\j.p=p0/\i<=100+c)(r:c≠0->f.len=3):dv g s wb bb ab rb p0 p1 q c f B d:=
 ⟨k,bq.aN m a.cw (.inl rfl),bq.aN m a.cr (.inr (.inl rfl)),λb e=>⟨bq.aN m (a.bs b e).1 (.inr (.inr e)),(a.bs b e).2⟩,a.nd,r⟩
theorem dv.one(e:bZ g)(d:dv g s wb bb ab rb p0 p1 q 0 es B hh)(f: ∀a b,dv g s wb bb ab rb p0 p1 q 1 b B a->R (iH q b).v a):AA A P BN #[Aq p0,Aq ab,J6 J9 0,J7 ⟨#[]⟩] hh R:=by obtain⟨i,v,j,w,x,k,T,l,rfl,y⟩:=d.w;refine ZL (c:=q.1) (n0:=q.2.1) (wid:=q.2.2) (L:= []) e l (by omega) λa m n o b p r _ t u=>f a b (d.move t ⟨i+1,m,j,n,o,k,T,p,r,by omega⟩ λ_=>u)
theorem dv.two(b:dv g s wb bb ab rb p0 p1 q 1 es B hh)(f: ∀a,dv g s wb bb ab rb p0 p1 q 2 es B a->R (Sq 200).v a):AA A P BN #[Aq p0,Aq ab,J6 J9 0,J7 ⟨#[]⟩] hh R:=by obtain⟨j,d,k,l,m,n,T,c,rfl,o⟩:=b.w;exact tJ (i:=0) (y:=d) c.w rfl (.inl rfl) c.q.li λa e=>f a (b.move e.mod ⟨j,d,k,l,m,n,T,c.on e,rfl,by omega⟩ λ_=>b.el (by decide))
theorem dv.fin {d e:Nat}{n:aa->Prop}(a:dv g s wb bb ab rb p0 p1 q 2 es B hh)(j:d∈B)(b:e∈B)(o:d≠e)
  (u: ∀f,f[d]? =some (J2 (iH q es).c Ad (0,0))->f[e]? =some (J2 (Sq 200).c Ad (0,0))->f[rb]? =some (J2 (dR 0 0 3).c Ad (0,0))->es.len=3->Ext g f->n f):
  aF hh ⟨d,0,none⟩ (iH q es).l λp=>aF p ⟨e,0,none⟩ (Sq 200).l λk=>n k:=by
 obtain⟨x,y,z,C,D,E,T,v,rfl,F⟩:=a.w;refine aF.mk (a.bs d j).1 (A0 9) λp r l G=>aF.mk (l.ai (a.bs e b).1 λi=>o i.symm) (A0 9) λk t m H=>?_
 rw[Kz] at r t;have w:=v.cS (O':=λq=>q=wb\/q=rb\/q∈B) ((l.ak λc _ b=>by subst b;exact .inr (.inr j)).trans (m.ak λc _ h=>by subst h;exact .inr (.inr b))) λc b=> .inl b
 exact u k (m.ai r o) t (m.ai (l.ai a.cr λi=>(a.bs d j).2 i.symm) λi=>(a.bs e b).2 i.symm) (a.el (by decide)) w.w.w.ext
theorem dv.oW {b c:Nat}{d:aa->Prop}(e:dv g s wb bb ab rb p0 p1 q 2 es [c,b] hh)
  (f: ∀a,a[b]? =some (J2 (iH q es).c Ad (0,0))->a[c]? =some (J2 (Sq 200).c Ad (0,0))->a[rb]? =some (J2 (dR 0 0 3).c Ad (0,0))->es.len=3->Ext g a->d a):
  aF hh ⟨b,0,none⟩ (iH q es).l λi=>aF i ⟨c,0,none⟩ (Sq 200).l λj=>d j:=e.fin (by simp) (by simp) (λk=>by have:=e.nd;simp[k] at this) f
theorem dv.iv {b c:Nat}{d:aa->Prop}(e:dv g s wb bb ab rb p0 p1 q 2 es [b,c] hh)
  (f: ∀a,a[b]? =some (J2 (iH q es).c Ad (0,0))->a[c]? =some (J2 (Sq 200).c Ad (0,0))->a[rb]? =some (J2 (dR 0 0 3).c Ad (0,0))->es.len=3->Ext g a->d a):
  aF hh ⟨b,0,none⟩ (iH q es).l λi=>aF i ⟨c,0,none⟩ (Sq 200).l λj=>d j:=e.fin (by simp) (by simp) (λk=>by have:=e.nd;simp[k] at this) f
end
section
variable {A : ar} {g h : aa} {R : A2O}
theorem AJ1(E:bZ g)(x:Ext g h)(aO: ∀z,Ext g z->R (J3 true) z):AA A P Jg #[] h R:=by
 refine Tp ?_;unfold Nh;refine tM E x λF wb bb s r t ab S aP aQ bg C bh bi aR=>⟨_,rfl,ag.no rfl ?_⟩
 have X:=QW.first aP aQ aR;have C:F[wb]? =some (J2 (KI bb s r.p t.p ab) Ap (0,0)):=C;have v: ∀ {hh:aa},hh[wb]? =some (J2 (KI bb s r.p t.p ab) Ap (0,0))->ah hh (((⟨wb,0,none⟩:Q6).add 2).add ((0:Int).toNat*1))=some (Aq r.p):=λG=>AB (j:=2) G rfl
 have w: ∀ {hh:aa},hh[wb]? =some (J2 (KI bb s r.p t.p ab) Ap (0,0))->ah hh ((⟨wb,0,none⟩:Q6).add 4)=some (Aq ab):=λG=>AB (j:=4) G rfl
 have aS:=Re (⟨#[119]⟩:A2P) (n:=3) (by decide);have lw:=Ah C;refine aj.mk λK aT=>?_
 have key: ∀(a:aa) (rb H e:Nat) (f:Hs) (S:List Pr) (i:cA) (k:cP) (o:Nat->Prop),QW g a s H f t S i k o (dB (λ_=> []) (Au (⟨#[119]⟩:A2P) 3) [(e,⟨#[119]⟩)]) []->f.p=r.p->H<=4->o wb->o rb->a[wb]? =some (J2 (KI bb s r.p t.p ab) Ap (0,0))->a[rb]? =some (J2 (dR 0 0 3).c Ad (0,0))->K (some ⟨rb,0,none⟩,()) a:=λa rb H e f S i k o Y u bj au av Z aU=>by
  refine aT _ _ (R3 (by decide) (by decide) (by decide) ⟨_,_,rfl,aE ⟨by decide,AY.mk (v Z) (aE (AY.mk (w Z) ?_))⟩⟩);rw[<- u];refine tK E Y aS (by omega) λaw ax T ay bk=>⟨_,_,rfl,aj.mk λaV az=>?_⟩
  rw[Uf] at T az;have T:QW g aw s (H+8) f t ax i k o _ [(Au (⟨#[119]⟩:A2P) 3,e,⟨#[119]⟩)]:=T;have I:=bq.aN ay Z au;have aW:=bq.aN ay aU av;refine aE ⟨by decide,AY.mk (v I) (aE (AY.mk (w I) (aE ⟨by decide,AY.mk (v I) (aE (AY.mk (w I) ?_))⟩)))⟩;have aX: ∀c,(c=wb\/c=rb\/c∈([]:List Nat))->o c:=λc d=>by
   rcases d with h|h|h
   ·subst h;exact au
   ·subst h;exact av
   ·cases h
  have bm:dv g s wb bb ab rb r.p t.p (Au (⟨#[119]⟩:A2P) 3,e,⟨#[119]⟩) 0 ga [] aw:=⟨⟨H+8,f,t,ax,i,k,_,T.less aX,u,by omega⟩,I,aW,λb G=>(by cases G),Pl,λh=>absurd rfl h⟩;have fin: ∀(ac ad:Nat) (es:Sl) (a:aa),a[ac]? =some (J2 (iH (Au (⟨#[119]⟩:A2P) 3,e,⟨#[119]⟩) es).c Ad (0,0))->a[ad]? =some (J2 (Sq 200).c Ad (0,0))->a[rb]? =some (J2 (dR 0 0 3).c Ad (0,0))->es.len=3->Ext g a->aV (some ⟨ac,0,none⟩,some ⟨ad,0,none⟩,()) a:=λac ad es a D J L M N=>by
   refine az _ _ (aE (AC.mk (n:=0) (AO L rfl) (ag.yes rfl (ag.yes rfl (ag.yes rfl (aE (AC.mk (n:=0) (AO D rfl) (ag.yes rfl (aE ?_)))))))));refine AC.mk (n:=3) (by rw[add_add];exact AB D rfl) (ag.yes rfl (aE (AZ.mk (s:=es) (AB D rfl) (ag.yes (by rw[M];rfl) (aE (AC.mk (n:=200) (AO J rfl) ?_))))));exact aO a N
  repeat' (first
   |exact dv.c4 (by assumption)
   |exact dv.c2 (by assumption)
   |exact dv.oW (by assumption) λa D J L M N=>fin _ _ _ a D J L M N
   |exact dv.iv (by assumption) λa D J L M N=>fin _ _ _ a D J L M N
   |refine dv.new (by assumption) λ_ _ _=>?_
   |refine dv.one E (by assumption) λ_ _ _=>EC.mk _ ⟨rfl,?_⟩
   |refine dv.two (by assumption) λ_ _=>EC.mk _ ⟨rfl,?_⟩
   |refine And.intro ?_ ?_)
 have aY: ∀sl:Sl,PM (pL sl ⟨#[114]⟩) ⟨[jP],0⟩=0:=λsl=>by
  unfold PM;rw[if_neg (λh=>by have aZ:=h.2;exact absurd aZ (by decide)),if_neg];rintro(h|h|h)
  ·exact absurd h.1 (show ¬(1:Int)=2 by decide)
  ·exact absurd h (show ¬Ak ⟨#[119]⟩=false by decide)
  ·exact absurd h (show ¬Ak ⟨#[114]⟩=false by decide)
 have ae: ∀ {hh:aa} {O:Nat} {o:Nat->Prop} {af:A2O},QW g hh s 3 r t S (λ_=>none) (λ_=>none) o (λ_=> []) []->hh[O]? =some (J2 jP.c Bn (0,0))->
   (∀ z f y i k e,QW g z s 4 f t y i k o (dB (λ_=> []) (Au (⟨#[119]⟩:A2P) 3) [(e,⟨#[119]⟩)]) []->f.p=r.p->Mod (bq g o) hh z->af (dR 0 0 3).v z)->
   AA A P Dg #[Aq r.p,.iface Dq (Aq ab),J6 J9 0,(pL ⟨some ⟨O,0,none⟩,1,1⟩ ⟨#[114]⟩).v] hh af:=λ{hh O o af} Y a0 a1=>by
  have V:View QP hh ⟨some ⟨O,0,none⟩,1,1⟩ [jP]:=(Own.lit (E:=QP) (l:= [jP]) a0 rfl (by decide)).view;exact QW.start (x:=pL ⟨some ⟨O,0,none⟩,1,1⟩ ⟨#[114]⟩) (p:=⟨[jP],0⟩) E Y (by decide) rfl V rfl rfl (by decide) (aY _) rfl rfl (by show Ak ⟨#[119]⟩=true;decide) λz a2 y e a3 u m _=>a1 z a2 y _ _ e a3 u m
 refine aE ⟨by decide,AY.mk (v C) (aE (AY.mk (w C) ⟨?_,?_⟩))⟩
 ·refine ao.mk λU _ aA ai bn=>?_
  have Q:=ai.ai C λh=>h
  refine⟨w Q,v Q,?_,?_⟩
  ·refine ae (X.on ai) aA λak f y i k e a4 u a5=>EC.mk _ ⟨rfl,?_⟩
   have aC:=bq.aN a5 Q rfl;refine ao.mk λbo _ a6 aD bp=>?_
   have al:=aD.ai aC λh=>h
   refine⟨w al,v al,aF.mk a6 (A0 9) λa7 aG am br=>?_⟩;have bs:=Ah aC;exact key a7 ak.size 4 e f y i k (λc=>c=wb\/c=ak.size) (a4.cS (O':=λc=>c=wb\/c=ak.size) (aD.more am λc d=>by subst d;exact A0 _).mod λc d=>d.imp id λh=>by have:=am.size;omega) u (by decide) (.inl rfl) (.inr rfl) (am.ai al (by omega)) (by rw[Kz] at aG;exact aG)
  ·refine ao.mk λbt _ a8 an bu=>?_
   have ap:=an.ai Q λh=>h
   have bv:=Ah Q;refine⟨w ap,v ap,ae ((X.on ai).cS (O':=λc=>c=wb\/c=U.size) an.mod λc d=>d.imp id λh=>by omega) (an.ai aA λh=>h) λbw f y i k e a9 u aH=>EC.mk _ ⟨rfl,?_⟩⟩;refine aF.mk (bq.aN aH a8 (.inr rfl)) (A0 9) λba aI aJ bx=>?_
   exact key ba U.size 4 e f y i k (λc=>c=wb\/c=U.size) (a9.cS (O':=λc=>c=wb\/c=U.size) (aJ.ak λc _ d=> .inr d) λc d=> .inl d) u (by decide) (.inl rfl) (.inr rfl) (aJ.ai (bq.aN aH ap (.inl rfl)) (by omega)) (by rw[Kz] at aI;exact aI)
 ·refine ao.mk λbz _ bc aK bA=>?_
  have aq:=aK.ai C λh=>h
  refine⟨w aq,v aq,ao.mk λbB _ bd W bC=>?_⟩;have ar:=W.ai aq λh=>h
  refine⟨w ar,v ar,ae (X.cS (O':=λc=>c=wb\/c=F.size) (aK.trans W).mod λc d=>d.imp id λh=>by have:=W.size;omega) bd λbD f y i k e be u aL=>EC.mk _ ⟨rfl,?_⟩⟩;refine aF.mk (bq.aN aL (W.ai bc λh=>h) (.inr rfl)) (A0 9) λbf aM aN bE=>?_
  exact key bf F.size 4 e f y i k (λc=>c=wb\/c=F.size) (be.cS (O':=λc=>c=wb\/c=F.size) (aN.ak λc _ d=> .inr d) λc d=> .inl d) u (by decide) (.inl rfl) (.inr rfl) (aN.ai (bq.aN aL ar (.inl rfl)) (by omega)) (by rw[Kz] at aM;exact aM)
end
section
variable {A : ar} {g h : aa} {s k : Nat} {y0 y1 : Hs} {mp : List Pr} {fl : cA} {an : cP} {O : Nat -> Prop} {R : A2O} {T : TT} {L : List Tq} {wb bb ab p0 p1 : Nat}
theorem w4(a:h[wb]? =some (J2 (KI bb s p0 p1 ab) Ap (0,0))):ah h ((⟨wb,0,none⟩:Q6).add 4)=some (Aq ab):=AB a rfl
theorem w2(a:h[wb]? =some (J2 (KI bb s p0 p1 ab) Ap (0,0))):ah h (((⟨wb,0,none⟩:Q6).add 2).add ((0:Int).toNat*1))=some (Aq p0):=AB (j:=2) a rfl
theorem w3(a:h[wb]? =some (J2 (KI bb s p0 p1 ab) Ap (0,0))):ah h (((⟨wb,0,none⟩:Q6).add 2).add ((1:Int).toNat*1))=some (Aq p1):=AB (j:=3) a rfl
theorem AKv {a:Tq}{K:Q2×Unit->aa->Prop}(F:bZ g)(G:QW g h s k y0 y1 mp fl an O T (a::L))(H:k+1<=490)(X:y0.p=p0)(I:O wb)(u:h[wb]? =some (J2 (KI bb s p0 p1 ab) Ap (0,0)))
  (J: ∀i b e j f l,QW g i s (k+1) e y1 j f an O T L->e.p=p0->i[wb]? =some (J2 (KI bb s p0 p1 ab) Ap (0,0))->(∀ w,w≠a.2.2->f w=fl w)->Mod (bq g O) h i->i[b]? =some (J2 (iH a l).c Ad (0,0))->h.size<=b->K (some ⟨b,0,none⟩,()) i):
  And (AA A P BN #[Aq p0,Aq ab,J6 J9 0,J7 ⟨#[]⟩] h λv x=>EC λt=>v=t.v/\(
    ao x (J2 bo.z.c Ad) λM m=>
    And (ah m ((⟨wb,0,none⟩:Q6).add 4)=some (Aq ab))<|
    And (ah m (((⟨wb,0,none⟩:Q6).add 2).add ((0:Int).toNat*1))=some (Aq p0))<|
    aF m (⟨M,0,none⟩:Q6) t.l λn=>K ((some (⟨M,0,none⟩:Q6)),()) n))<|
   ao h (J2 bo.z.c Ad) λN o=>
   And (ah o ((⟨wb,0,none⟩:Q6).add 4)=some (Aq ab))<|
   And (ah o (((⟨wb,0,none⟩:Q6).add 2).add ((0:Int).toNat*1))=some (Aq p0))<|
   AA A P BN #[Aq p0,Aq ab,J6 J9 0,J7 ⟨#[]⟩] o λv Q=>EC λt=>v=t.v/\(
    aF Q (⟨N,0,none⟩:Q6) t.l λp=>K ((some (⟨N,0,none⟩:Q6)),()) p):=by
 subst X;have lw:=Ah u;constructor
 ·refine ZL F G H λx e j f l Y Z ac y ad=>EC.mk _ ⟨rfl,ao.mk λm _ ae S ar=>?_⟩
  have z:=bq.aN y u I;have U:=S.ai z λh=>h
  have ad:=Ah z;refine⟨w4 U,w2 U,aF.mk ae (A0 9) λn V af au=>?_⟩;rw[Kz] at V;have B:Ext x n:=S.more af λc d=>by subst d;exact A0 _
  exact J n _ e j f l (Y.on B) Z (B.ai z λh=>h) ac (y.trans B.mod) V y.size
 ·refine ao.mk λo _ ag q av=>?_
  have C:=q.ai u λh=>h
  have aw:=q.size;refine⟨w4 C,w2 C,ZL F (G.cS (O':=λc=>O c\/c=h.size) q.mod λc d=>d.imp id λh=>by omega) H λQ e j f l ai aj ak D ax=>EC.mk _ ⟨rfl,aF.mk (bq.aN D ag (.inr rfl)) (A0 9) λp W E ay=>?_⟩⟩;rw[Kz] at W;have al:=ai.cS (O':=λc=>O c\/c=h.size) (E.ak λc _ d=> .inr d) λc d=> .inl d
  refine J p _ e j f l (al.less λc d=> .inl d) aj (E.ai (bq.aN D C (.inl I)) (by omega)) ak ?_ W (A0 _);have am:Mod (λa=>bq g O a\/h.size<=a) h p:=q.mod.trans ((D.ak λa _ r=> .inl (bq.less r λa ap=> .inl ap)).trans (E.ak λa _ r=> .inr (by omega)));exact am.ak λa aq r=>r.elim id λh=>absurd aq (by omega)
end
def PL(i:Nat):A2P:=AX [119,Bq (97+i)]
theorem ARC(i:Nat):(⟨#[119]⟩:A2P)++AX [Bq (97+i)]=PL i:=by rw[show(⟨#[119]⟩:A2P)=AX [119] from rfl,Aj];rfl
theorem tN: ∀ {i:Nat},i<20->Ak (PL i)=true:=by
 have h: ∀i:Fin 20,Ak (PL i.val)=true:=by decide
 intro i a;exact h ⟨i,a⟩
theorem tO {i a:Nat}(c:i<20)(d:a<20)(h:i≠a):PL i≠PL a:=λb=>by
 have:=Mj.1 b;simp only[G3,true_and,and_true] at this;have:=VA (by omega) (by omega) this;omega
theorem ANX(i:Nat):(PL i).size=2:=by unfold PL;rw[AP];rfl
abbrev lO(i:Nat):ct:=⟨1,PL i,PL i,⟨#[]⟩,ga,0,ga,0,0,0,0,false⟩
abbrev tP:ck:=⟨[],0⟩
theorem AQk {i:Nat}(b:i<20):PM (lO i) tP=0:=by
 have a:=tN b;unfold PM;rw[if_neg (λh=>by have c:=h.2;exact absurd c (by decide)),if_neg];rintro(h|h|h)
 ·exact absurd h.1 (show ¬(1:Int)=2 by decide)
 ·rw[show(lO i).wid=PL i from rfl,a] at h;cases h
 ·rw[show(lO i).bA=PL i from rfl,a] at h;cases h
def iI(fl:cA)(an:cP)(i:Nat):Prop:= ∀a,i<=a->a<20->fl (PL a)=none/\an (PL a)=none
theorem iI.next {fl:cA}{an:cP}{i:Nat}{x:List Ev}{c:List UInt8×Int×Int}(d:iI fl an i)(b:i<20):iI (du fl (PL i) x) (du an (PL i) c) (i+1):=λe f a=>by
 rw[NJ (tO a b (by omega)),NJ (tO a b (by omega))];exact d e (by omega) a
theorem iI.skip {fl:cA}{an:cP}{i:Nat}(a:iI fl an i):iI fl an (i+1):=λb d c=>a b (by omega) c
theorem ANa {x:Int}{n m:Nat}(c:0<n)(i:n<=1000)(d:m<=1000): ∃b:Nat,b<n/\J8 J9 (((J8 J9 ((x.tmod ((n:Nat):Int))+((n:Nat):Int))).tmod ((n:Nat):Int))+((m:Nat):Int))=((b+m:Nat):Int):=by have d:x.tmod (n:Int)<n:=Int.tmod_lt_of_pos x (by omega);have j: -(n:Int)<x.tmod n:=Int.lt_tmod_of_pos _ (by omega);rw[show J8 J9 ((x.tmod ((n:Nat):Int))+((n:Nat):Int))=x.tmod ((n:Nat):Int)+((n:Nat):Int) from wrap_i64 (by omega) (by omega)];obtain⟨a,e⟩: ∃a:Nat,x.tmod (n:Int)+n=(a:Int):=⟨(x.tmod (n:Int)+n).toNat,by omega⟩;have f:=CA a c;rw[e,AOH,show(((a % n:Nat):Int)+(m:Int))=((a % n+m:Nat):Int) from by omega,Fa (by omega)];exact⟨a % n,f,rfl⟩
section
variable {A : ar} {g h : aa} {s k : Nat} {y0 y1 : Hs} {mp : List Pr} {fl : cA} {an : cP} {O : Nat -> Prop} {R : A2O} {T : TT} {L : List Tq}
theorem AT2 {i:Nat}(o:i<20){K:A2P->aa->Prop}(e: ∀a,Ext h a->K (AX [Bq (97+i)]) a):
  ao h (J2 #[.int .u8 (J8 .u8 (J8 J9 ((97:Int)+(i:Int))))] Di) λb f=>BI A P (convert Cs BC (J4 (some (⟨b,0,none⟩:Q6)) 1 1)) f λv2 j=> ∃c:A2P,v2=J7 c/\K c j:=by
 rw[show((97:Int)+(i:Int))=((97+i:Nat):Int) from by omega,Fa (by omega)];refine ao.mk λd _ m n p=>?_
 have v1:View GL d ⟨some ⟨h.size,0,none⟩,1,1⟩ [Bq (97+i)]:=(Own.lit (E:=GL) (l:= [Bq (97+i)]) m (by
  show [Value.int .u8 (J8 .u8 ((97+i:Nat):Int))]= [Value.int .u8 ((Bq (97+i)).toNat:Int)];rw[wrap_u8,DR (by omega),As (by omega)]) (by simp[maxLen])).view
 exact JQ (s:=⟨some ⟨h.size,0,none⟩,1,1⟩) Ws kq Ll v1 ⟨_,rfl,e d n⟩
theorem QW.jt {i:Nat}{n:J0}(o:bZ g)(q:QW g h s k y0 y1 mp fl an O T L)(r:k+1<=490)(b:i<20)(N:iI fl an i)
  (t: ∀a c e f j d,QW g a s (k+1) c y1 e f j O (dB T (Au (PL i) 3) (T (Au (PL i) 3)++ [(d,PL i)])) L->iI f j (i+1)->c.p=y0.p->Mod (bq g O) h a->(∀ l∈Kn T L,l.1=Au (PL i) 3->l.2.1<d)->R (dR 0 0 3).v a):
  AA A P Dg #[Aq y0.p,n,J6 J9 0,(lO i).v] h R:=by
 obtain⟨u,v⟩:=N i (A0 _) b;exact QW.start (x:=lO i) (p:=tP) o q r rfl View.nil rfl rfl (by decide) (AQk b) v u (tN b) λa c e d w y m z=>t a c e _ _ d w (N.next b) y m z
end
theorem qH:P.underlying Io=some (.map BC lY):=by kernel_rfl
theorem ASh:(zeroValue lY).calc P=some (J3 false):=by kernel_rfl
theorem ANE {a c:A2P}{m:List (A2P×J0)}(h:a≠c):Mx c (gT a m)=Mx c m:=by
 unfold Mx gT;rw[List.find?_filter];congr 1
 induction m with
 |nil=>rfl
 |cons p m d=>
  rw[DE,DE,d];by_cases b:p.1=c
  ·simp[b,Ne.symm h]
  ·simp[b]
theorem vS {k:A2P}{v:J0}: ∀ {m:List (A2P×J0)},(Rw k v m).length<=m.length+1
 | []=>by simp[Rw]
 |q::m=>by
  unfold Rw;split
  ·simp
  ·have:=vS (k:=k) (v:=v) (m:=m);simp only[A5];omega
def Left(m:List (A2P×J0))(l:List Tq):Prop:= ∀a∈l,Mx a.2.2 m=some (J3 true)
section
variable {A : ar} {h : aa} {R : A2O}
theorem ABv {n:Int}(O:bZ h)(aH: ∀am,Ext h am->R (J3 true) am):AA A P Je #[J6 J9 n] h R:=by
 refine OY ?_;unfold Jf;refine AJ1 O Mod.refl λZ aI=>⟨_,rfl,ag.no rfl ?_⟩
 obtain⟨k,bb,an⟩:=ANa (x:=n) (n:=20) (m:=1) (by decide) (by decide) (by decide);rw[show((20:Nat):Int)=20 from rfl,show((1:Nat):Int)=1 from rfl] at an;rw[an];refine tM O aI λap p Q s G C S f a aJ bc X bd be aK=>⟨_,rfl,ag.no rfl ?_⟩
 have X:ap[p]? =some (J2 (KI Q s G.p C.p S) Ap (0,0)):=X;have aL:=QW.first a aJ aK;refine ao.mk λbf _ aq ar bg=>?_
 have lw:=Ah X;generalize bh:ap.size=r at*
 have bi:=Ah aq;refine Loop.rule (λm x Y=> ∃(i:Nat) (z:Hs) (f:List Pr) (D:cA) (B:cP) (T:TT) (o:List (A2P×J0)),x=((i:Int),())/\m=k+1-i/\i<=k+1/\QW h Y s (3+i) z C f D B (λc=>c=p\/c=r) T []/\z.p=G.p/\Y[p]? =some (J2 (KI Q s G.p C.p S) Ap (0,0))/\PK Y r o/\iI D B i/\(Kn T []).length=i/\Left o (Kn T [])/\o.length<=i/\ ∀c,(T c).length<=i) ?_
  ⟨0,G,f,_,_,λ_=> [],[],rfl,rfl,An _,aL.cS (O':=λc=>c=p\/c=r) ar.mod λc u=>u.imp id λh=>by omega,rfl,ar.ai X λh=>h,PK.empty aq,λk _ _=>⟨rfl,rfl⟩,rfl,λq d=>(by cases d),A0 _,λc=>A0 _⟩
 rintro K m _ Y ⟨i,z,f,D,B,T,o,rfl,rfl,bj,a,E,e,M,N,hA,H,bk,v⟩ au;dsimp only;refine ag.intro (λd=>?_) (λd=>?_)
 ·have aM:i<k+1:=by have:=of_decide_eq_true d;omega
  refine AT2 (by omega) λbm aa=>⟨by rw[AP,max_i64];show((2:Nat):Int)<=9223372036854775807;decide,?_⟩
  rw[ARC];refine w6 qH Ll (M.mod aa λh=>h) (by rw[ANX];simp only[maxLen];omega) (by simp only[maxLen];omega) λbn aN av bo=>?_
  have ab:=av.ai (aa.ai e λh=>h) (by omega);have aO:=a.cS (O':=λc=>c=p\/c=r) (aa.mod.trans (av.ak λc _ u=> .inr u)) λc u=> .inl u
  refine aE ⟨by decide,AY.mk (w2 ab) (aE (AY.mk (w4 ab) ?_))⟩;rw[<- E];refine aO.jt O (by omega) (by omega) N λbp ac U ad aP aQ aR aS aT aw br=>EC.mk _ ⟨rfl,ag.no rfl ?_⟩
  have w:=tC (T:=T) (L:= []) (t:=(aQ,PL i)) (Re (PL i) (n:=3) (by decide));rw[Aa (by omega)];refine au (k+1-(i+1)) _ _ (by omega) ⟨i+1,ac,U,ad,aP,_,_,rfl,rfl,aM,aR,aT.trans E,bq.aN aw ab (.inl rfl),aN.mod aw λV=>V.2 (.inr rfl),aS,by rw[w.length_eq];show(Kn T []).length+1=_;omega,λq d=>?_,AE vS (by omega),λc=>?_⟩
  ·rw[vY];split
   ·rfl
   ·rename_i aU;rcases List.mem_cons.1 (w.mem_iff.1 d) with h|h
    ·subst h;exact absurd rfl aU
    ·exact H q h
  ·show(if c=_ then _ else T c).length<=i+1;split
   ·have:=v (Au (PL i) 3);rw[A1];show _+1<=_;omega
   ·have:=v c;omega
 ·have aV:i=k+1:=by have:=of_decide_eq_false d;omega
  refine Loop.rule (λm x y=> ∃(g j:Nat) (f:List Pr) (I:TT) (L:List Tq),x=((g:Int),())/\m=4-g/\g<=4/\j<=24+24*g/\QW h y s j z C f D B (λc=>c=p\/c=r) I L/\y[p]? =some (J2 (KI Q s G.p C.p S) Ap (0,0))/\PK y r o/\(Kn I L).Perm (Kn T [])/\ ∀c,c<3->(I c).length<=20-8*g) ?_
   ⟨0,3+i,f,T,[],rfl,rfl,An _,by omega,a,e,M,FF _,λc _=>by have:=v c;omega⟩
  clear au a e M v;rintro bs m _ y ⟨g,j,f,F,L,rfl,rfl,ae,ax,a,e,M,w,v⟩ ay;dsimp only;refine ag.intro (λd=>?_) (λd=>?_)
  ·have af:g<4:=by have:=of_decide_eq_true d;omega
   refine Loop.rule (λm x y=> ∃(c j:Nat) (f:List Pr) (I:TT) (L:List Tq),x=((c:Int),())/\m=3-c/\c<=3/\j<=24+24*g+8*c/\QW h y s j z C f D B (λc=>c=p\/c=r) I L/\y[p]? =some (J2 (KI Q s G.p C.p S) Ap (0,0))/\PK y r o/\(Kn I L).Perm (Kn T [])/\ ∀l,l<3->(I l).length<=20-8*g/\(l<c->(I l).length<=20-8*(g+1))) ?_
    ⟨0,j,f,F,L,rfl,rfl,An _,by omega,a,e,M,w,λl hd=>⟨v l hd,λh=>by omega⟩⟩
   clear a e M v w;rintro aW m _ aX ⟨c,j,f,F,L,rfl,rfl,u,ax,a,e,M,w,v⟩ ah;dsimp only;refine ag.intro (λd=>?_) (λd=>?_)
   ·have W:c<3:=by have:=of_decide_eq_true d;omega
    refine aE ⟨by decide,AY.mk (w2 e) (aE (AY.mk (w4 e) ?_))⟩;rw[<- E];refine tK O a W (by omega) λbt U aY az bu=>⟨_,_,rfl,ag.no rfl ?_⟩
    rw[Aa (by omega)];refine ah (3-(c+1)) _ _ (by omega) ⟨c+1,j+8,U,_,_,rfl,rfl,W,by omega,aY,by rw[E] at *;exact bq.aN az e (.inl rfl),M.mod az λV=>V.2 (.inr rfl),(tH W (CN 8 (F c)).symm).trans w,λl hd=>?_⟩;have Z:=v l hd;show(if l=c then _ else F l).length<=_/\(_->(if l=c then _ else F l).length<=_);split
    ·rename_i ai;subst ai;rw[DG];omega
    ·exact⟨Z.1,λh=>Z.2 (by omega)⟩
   ·have W:c=3:=by have:=of_decide_eq_false d;omega
    subst W;rw[Aa (by omega)];exact ay (4-(g+1)) _ _ (by omega) ⟨g+1,j,f,F,L,rfl,rfl,af,by omega,a,e,M,w,λl hd=>(v l hd).2 hd⟩
  ·have af:g=4:=by have:=of_decide_eq_false d;omega
   subst af;have ak: ∀c,c<3->F c= []:=λc u=>CC (by have:=v c u;omega)
   have aA: ∀L,Kn F L=L:=λL=>by
    unfold Kn;rw[ak 0 (by decide),ak 1 (by decide),ak 2 (by decide)];simp
   rw[aA] at w;have J:L.length=k+1:=by rw[w.length_eq,hA,aV]
   have aC:Left o L:=λq d=>H q (w.mem_iff.1 d)
   refine Loop.rule (λm x y=> ∃(t j:Nat) (z:Hs) (f:List Pr) (D:cA) (B:cP) (L:List Tq) (o:List (A2P×J0)),x=((t:Int),())/\m=k+1-t/\t<=k+1/\j<=130+t/\QW h y s j z C f D B (λc=>c=p\/c=r) F L/\z.p=G.p/\y[p]? =some (J2 (KI Q s G.p C.p S) Ap (0,0))/\PK y r o/\L.length=k+1-t/\Left o L) ?_
    ⟨0,j,z,f,D,B,L,o,rfl,rfl,An _,by omega,a,E,e,M,J,aC⟩
   clear ay a e M H aC J w v E;rintro aW m _ aX ⟨t,j,z,f,D,B,L,o,rfl,rfl,bv,ax,a,E,e,M,J,H⟩ ah;dsimp only;refine ag.intro (λd=>?_) (λd=>?_)
   ·have aD:t<k+1:=by have:=of_decide_eq_true d;omega
    match L,J,a,H with
    | [],J,_,_=>exact absurd J (by show ¬(0=_);omega)
    |q::L,J,a,H=>
     have aZ:=H q (by simp);have nd:=List.nodup_cons.1 (by have:=a.ok.gA;rw[aA] at this;exact this);refine aj.mk λbw a0=>aE ⟨by decide,AY.mk (w2 e) (aE (AY.mk (w4 e) ?_))⟩
     refine AKv O a (by omega) E (.inl rfl) e λa1 b ac U ad bx a2 a3 a4 bz a5 al bA=>a0 _ _ (aj.mk λbB a6=>aE (AC.mk (n:=0) (AO al rfl) (ag.no rfl (aE (AJ.mk (n:=q.2.2) (by rw[add_add];exact AB al rfl) ?_)))))
     have aF:PK a1 r o:=M.mod a5 λV=>V.2 (.inr rfl)
     refine OO qH Ll ASh aF ?_;rw[aZ];refine⟨true,rfl,a6 _ _ (ag.no rfl (aE (AJ.mk (n:=q.2.2) (by rw[add_add];exact AB al rfl) ?_)))⟩;refine w7 qH Ll aF λbC a7 aG bD=>⟨rfl,?_⟩
     rw[Aa (by omega)];refine ah (k+1-(t+1)) _ _ (by omega) ⟨t+1,j+1,ac,U,ad,B,L,_,rfl,rfl,aD,by omega,a2.cS (O':=λc=>c=p\/c=r) (aG.ak λc _ u=> .inr u) λc u=> .inl u,a3,aG.ai a4 (by omega),a7,by have:L.length+1=k+1-t:=J;omega,λg ae=>?_⟩;rw[ANE λai=>nd.1 (List.mem_map.2 ⟨g,ae,ai.symm⟩)];exact H g (AF _ ae)
   ·have aD:t=k+1:=by have:=of_decide_eq_false d;omega
    have a8:L= []:=CC (by omega);subst a8;refine aE ⟨by decide,AY.mk (w2 e) (aE (AY.mk (w4 e) ?_))⟩;rw[<- E];exact tJ (i:=0) a.w rfl (.inl rfl) a.q.li λa9 ba=>EC.mk _ ⟨rfl,aH a9 (a.w.w.ext.trans ba)⟩
end
end Go.Lf.G
