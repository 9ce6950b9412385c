/-
 Contract: a client's request (chapter 19).
-/
import Derived.Test.YtgpmoonnachoaaaGreatDoorLfZ28ToE13
import Derived.Test.YtgpmoonnachoaaaGreatDoorLfKToGA
import Derived.Test.YtgpmoonnachoaaaGreatDoorLfZ11ToU32
set_option maxRecDepth 100000
set_option linter.unusedVariables false
set_option linter.unusedSimpArgs false
open Go.IntKind renaming i64→J9,wrap→J8
open Go.Value renaming string→J7,int→J6,pointer→J5,slice→J4,bool→J3,tuple→J1
open Go.Obj renaming cells→J2
open Go renaming Value→J0,Addr→Q6,TypeId→Q7,FuncId→Q8,Program→Q1
open Go.Addr renaming add→Q9,mk→Q5
namespace Go.Lf.G
open Go
open M (Sorted Af CZ A8 Ag Aq BU Ah bA BG aO BC)
structure Hs.dd (y y':Hs):Prop where
 p:y'.p=y.p
 name:y'.name=y.name
 f:y'.f=y.f
 u: ∀m,y.u m<=y'.u m/\y'.u m<=y.u m+3
theorem bB.less {g:aa}{O O':Nat->Prop}{c:Nat}(h:bB g O' c)(b: ∀c,O c->O' c):bB g O c:=⟨h.1,λd=>h.2 (b c d)⟩
theorem XE(wid:A2L){n:Nat}(h:1<=n):Av wid n<n:=CC _ h
section
variable {A : aq} {B : cH} {g h : aa} {s a N sh : Nat} {l : List Hs} {mp : List Pr} {O : Nat -> Prop} {i : Nat} {y : Hs} {fl : cG} {an : dk} {R : A2K}
def pD(b:br):Option (List Ev)->Prop
 |none=>b.bW=0
 |some l=>b.cq=(Bu l).status/\b.bW=(Bu l).next/\b.kept=false/\0<b.bW
theorem ARg {b:Option (List Ev)}{wid:A2L}{n:Nat}{now:Int}(h: ∀l,b=some l->R3 l):(0<=(Bt b wid n now).cq/\(Bt b wid n now).cq<=4)/\(0<=(Bt b wid n now).bW/\(Bt b wid n now).bW<=501)/\pD (Bt b wid n now) b:=by
 cases b with
 |none=>exact⟨⟨(by decide:(0:Int)<=0),(by decide:(0:Int)<=4)⟩,⟨(by decide:(0:Int)<=0),(by decide:(0:Int)<=501)⟩,rfl⟩
 |some l=>
  have c:=h l rfl;have st:=c.st;have nx:=c.next.1;have d:=c.len;exact⟨st,⟨by show 0<=(Bu l).next;omega,by show(Bu l).next<=501;omega⟩,rfl,rfl,rfl,by show 0<(Bu l).next;omega⟩
theorem AKa {b c:br}{e d f:Nat}(G:b.grown c e d f)(h:b.more= []):c.more.length<=d:=by have:=G.more;rw[h] at this;simpa using this
theorem AM3 {x:cu}{p:ck}{cX:J0}{now:Int}(cY:bZ g)(ac:LW B g h s a N sh l mp O)(ah:l[i]? =some y)(aj:Jk mp fl an)(V:View QT h x.steps p.steps)(a3:x.az=p.az)(len:p.steps.length<=1099511627776)
  (d4: -4611686018427300000<=now/\now<=4611686018427300000) (ch: ∀n,y.f n<=2147483647) (ci: ∀n,y.u n+3<16777216) (d5:N+3<=1000000) (hA:4+3*a<=B.A) (cZ:64*a+64<=B.C) (c0:a+1<=1000000)
  (aM: ∀f e st nx,Oa fl an (y.f (Av x.wid sh)) x p=some (e,st,nx)->Ext h f->R (dX e st nx).v f)
  (c1: ∀f C aV r u,Oa fl an (y.f (Av x.wid sh)) x p=none->y.dd C->(A9 (F3 x p (Bt (fl x.wid) x.wid (Av x.wid sh) now) aV) r u).err≠0->LW B g f s a (N+3) sh (l.set i C) mp O->Mod (bB g O) h f->R (dX (A9 (F3 x p (Bt (fl x.wid) x.wid (Av x.wid sh) now) aV) r u).err 0 0).v f)
  (c2: ∀f C,Oa fl an (y.f (Av x.wid sh)) x p=none->y.dd C->Bd mp (Ff (Av x.wid sh) (y.f (Av x.wid sh)) y.name)=false->LW B g f s a (N+3) sh (l.set i (C.lost (Av x.wid sh))) mp O->Mod (bB g O) h f->R (dX 170 0 0).v f)
  (c3: ∀f C aV r u D,D=A9 (F3 x p (Bt (fl x.wid) x.wid (Av x.wid sh) now) aV) r u->Oa fl an (y.f (Av x.wid sh)) x p=none->y.dd C->(EH (F3 x p (Bt (fl x.wid) x.wid (Av x.wid sh) now) aV)=true->dQ y C (Av x.wid sh) r)->D.err=0->LW B g f s (a+1) (N+3) sh (l.set i C) (cy mp (EA D++D.ar)) O->
   Jk (cy mp (EA D++D.ar)) (dB fl x.wid ((fl x.wid).getD []++D.more)) (dB an x.bz (MC x p,D.st.status,D.st.next))->Bu ((fl x.wid).getD []++D.more)=D.st->(∀ n bu cj,Bd (cy mp (EA D++D.ar)) (Ff n bu cj)=Bd mp (Ff n bu cj))->Mod (bB g O) h f->R (dX 0 D.st.status D.st.next).v f):
  AA A P Ea #[Am y.p,cX,J6 J9 now,x.v] h R:=by
 obtain⟨-,cl,c4⟩:=ac.eF ah;have cm:=(List.getElem?_eq_some_iff.1 ah).1;have da:l.set i y=l:=by rw[<- (List.getElem?_eq_some_iff.1 ah).2];exact P0 cm
 have d6:=XE x.wid cl;refine Zr ?_;unfold Su;refine ao.mk λak _ al bv d7=>ao.mk λaw _ a4 cn d8=>?_
 have ad:Ext h aw:=bv.trans cn;have al:aw[h.size]? =some (J2 x.c MX (0,0)):=cn.ah al λh=>h
 have d9:=Ai a4;have aN: ∀ {U:aa} (e st nx:Int),Ext aw U->(∀ f,Ext h f->R (dX e st nx).v f)->aF U ⟨ak.size,0,none⟩ (dX e st nx).l λa5=>Dq a5 ⟨ak.size,0,none⟩ λc5=>R (c5.v) a5:=λ{U} e st nx I c6=>
  kH (I.ah a4 λh=>h) λf bw=>c6 f ((ad.trans I).more bw λc d=>by subst d;exact bv.size)
 refine ai.mk λK c7=>?_
 have co: ∀a6:Bool,(a6=true↔x.kind<1\/4<x.kind)->K (a6,()) aw:=λa6 cp=>by
  refine c7 _ _ (af.intro (λk=>aN 1 0 0 Mod.refl λf I=>aM f 1 0 0 (by unfold Oa;rw[if_pos (cp.1 k)]) I) (λk=>?_));have k:a6=false:=k;have bx: ¬(x.kind<1\/4<x.kind):=λh=>by rw[cp.2 h] at k;cases k
  have cq:1<=x.kind/\x.kind<=4:=by omega
  refine oh.mk x (Cu al rfl) (ANP (V.ext ad) a3 len cq λea aW=>⟨_,_,rfl,?_⟩);by_cases ae:QY x p=0;rotate_left
  ·refine af.yes (by simp[ae]) (aN (QY x p) 0 0 aW λf I=>aM f _ 0 0 (by unfold Oa;rw[if_neg bx,if_pos ae]) I)
  rw[if_pos ae];refine af.no (by simp[ae]) (af.no rfl ?_);obtain⟨bz,c8,ax,aX⟩:=Ze ae;have eb:=FK ax;have ec:=FK aX;have dl:=APR ae cq;have bA:=ac.on (ad.trans aW);have bD:=aW.ah al λh=>h
  refine AJ.mk (n:=x.wid) (AB bD rfl) (bA.aE ah ⟨_,rfl,⟨AB bD rfl,R8 (by omega) cl c4 ⟨_,_,rfl,bA.holds ah ⟨_,rfl,?_⟩⟩⟩⟩);refine af.intro (λk=>aN 170 0 0 aW λf I=>aM f 170 0 0 (by unfold Oa;rw[if_neg bx,if_neg (by simp[ae]),if_pos (by simpa using k)]) I) (λk=>?_);have bE:y.f (Av x.wid sh)≠0:=by simpa using k
  have q:Oa fl an (y.f (Av x.wid sh)) x p=match an x.bz with
    |some F=>if F.1≠MC x p then some (184,0,0) else some (0,F.2.1,F.2.2)
    |none=>match fl x.wid with
     |none=>if x.kind=1 then none else some (180,0,0)
     |some l=>if x.kind=1 then some (181,0,0) else if(Bu l).status≠0 then some (182,0,0) else none:=by
   unfold Oa;rw[if_neg bx,if_neg (by simp[ae]),if_neg bE];try rfl
  refine AJ.mk (n:=x.bz) (AB bD rfl) (AIG bA ah aj aX λed c9=>?_);have a7:=aW.trans c9;cases bF:an x.bz with
  |some F=>
   rw[bF] at q;refine⟨_,EL.mk (dX 0 F.2.1 F.2.2) ⟨_,_,rfl,ao.mk λa5 _ bG bH db=>aF.mk bG (A0 9) λbI bJ bK dc=>af.no rfl ?_⟩⟩;rw[KP] at bJ;have ay:Ext aw bI:=(a7.trans bH).more bK λc d=>by subst d;exact a7.size
   refine ai.mk λde bL=>af.yes rfl (bL _ _ ?_)
   rw[Bw];refine af.intro (λk=>aN 184 0 0 ay λf I=>aM f 184 0 0 (by
    have k: ¬(AY F.1=AY (MC x p)):=by simpa using k
    rw[q];show(if F.1≠MC x p then _ else _)=_;rw[if_pos λh=>k (by rw[h])]) I) (λk=>af.yes rfl (Dq.mk (dX 0 F.2.1 F.2.2) (Kr bJ) (aN 0 F.2.1 F.2.2 ay λf I=>aM f 0 F.2.1 F.2.2 (by
    have k:AY F.1=AY (MC x p):=by simpa using k
    rw[q];show(if F.1≠MC x p then _ else _)=_;rw[if_neg (by rw[Ob.1 k];simp)]) I)))
  |none=>
   rw[bF] at q;refine⟨_,EL.mk bg.z ⟨_,_,rfl,ao.mk λa5 _ bG bH db=>aF.mk bG (A0 9) λbI bJ bK dc=>af.no rfl ?_⟩⟩;have ay:Ext aw bI:=(a7.trans bH).more bK λc d=>by subst d;exact a7.size
   refine ai.mk λde bL=>af.no rfl (bL _ _ (af.no rfl (af.no rfl ?_)))
   have df:=ac.on (ad.trans ay);refine AJ.mk (n:=x.wid) (AB (ay.ah al λh=>h) rfl) (sM df ah aj (λh=>by rw[ax] at h;cases h) λ_ aY cr=>QZ.mk _ ⟨_,rfl,ao.mk λee _ dg dh ef=>aF.mk dg (A0 18) λbM az di eg=>?_⟩);rw[Zc] at az;have cs:Ext aY bM:=dh.more di λc d=>by subst d;exact A0 _
   have aA:Ext aw bM:=(ay.trans cr).trans cs;have eh:=(ay.trans cr).size;have a8:=aA.ah al λh=>h
   refine ai.mk λct cv=>?_
   have bN: ∀(e:Int),e≠0->Oa fl an (y.f (Av x.wid sh)) x p=some (e,0,0)->ct (e,()) bM:=λe J d=>
    cv _ _ (af.yes (by simp[J]) (aN e 0 0 aA λf I=>aM f e 0 0 d I))
   have cw: ∀l,fl x.wid=some l->R3 l:=λl aC=>aj.dE _ _ aC
   obtain⟨aZ,bO,bP,cx,bQ,cz,cB,dj⟩:=AJe (wid:=x.wid) (n:=Av x.wid sh) (now:=now) cw;obtain⟨ei,dk,aO⟩:=ARg (wid:=x.wid) (n:=Av x.wid sh) (now:=now) cw;have go: ∀ {U:aa} {es:Sl} {a' b' c':Sl},Oa fl an (y.f (Av x.wid sh)) x p=none->Ext h U->U[h.size]? =some (J2 x.c MX (0,0))->U[ak.size]? =some (J2 bg.z.c Ab (0,0))->
     (∃ fv:bS,U[aY.size]? =some (J2 fv.c Cm (0,0))/\fv=⟨x.wid,(Av x.wid sh:Int),⟨(Bt (fl x.wid) x.wid (Av x.wid sh) now).cq,(Bt (fl x.wid) x.wid (Av x.wid sh) now).bW,false⟩,es,(Bt (fl x.wid) x.wid (Av x.wid sh) now).st.V a' b' c'⟩)->
     JO U (Bt (fl x.wid) x.wid (Av x.wid sh) now).st a' b' c'->(∀ c,a'.ah=some c\/b'.ah=some c\/c'.ah=some c->aY.size<c)->(∀ a9:br,a9=IA x.wid (Av x.wid sh) (Bt (fl x.wid) x.wid (Av x.wid sh) now).cq (Bt (fl x.wid) x.wid (Av x.wid sh) now).bW false (Bt (fl x.wid) x.wid (Av x.wid sh) now).st now->a9=Bt (fl x.wid) x.wid (Av x.wid sh) now)->
     ct (0,()) U:=λ{U es a' b' c'} dm bR dn dp a0 ba fr bT=>by
    have bT:=bT _ rfl;have bb:=dm;generalize ej:Bt (fl x.wid) x.wid (Av x.wid sh) now=b at*
    obtain⟨fv,a0,rfl⟩:=a0;refine cv _ _ (af.no rfl (Fp.mk _ (OW a0) ?_));have ek:=Ai a0
    let Q:Nat->Prop:=λc=>O c\/c=h.size\/c=ak.size\/c=aY.size
    have cC: ∀c,Tv b.st a' b' c' c->aY.size<c:=λc d=>fr c (by
     rcases d with⟨_,h⟩|⟨_,h⟩|⟨_,h⟩
     ·exact .inl h
     ·exact .inr (.inl h)
     ·exact .inr (.inr h))
    have el:=bv.size;have cD: ∀c,O c->c<h.size:=λc d=>(ac.out d).1
    have dq:LW B g U s a N sh (l.set i y) mp (λc=>Q c\/Tv b.st a' b' c' c):=by
     rw[da];refine ac.own bR.mod λc d=>?_
     rcases d with(h|h|h|h)|h
     ·exact .inl h
     ·exact .inr (by omega)
     ·exact .inr (by omega)
     ·exact .inr (by omega)
     ·exact .inr ⟨by have:=cC c h;omega,ba.lt h⟩
    refine tZ (O:=Q) (now:=now) dq cm ba (λc d S=>?_) λaD bc z cE aP Y=>⟨_,rfl,?_⟩
    ·have:=cC c d;rcases S with h|h|h|h
     ·have:=cD c h;omega
     ·omega
     ·omega
     ·omega
    rw[bT] at aP;have bU: ∀ {c:Nat} {w:aa} {o:Obj},w[c]? =some o-> ∀ {T:aa},Q c->Mod (bB g Q) w T->T[c]? =some o:=λ{c w o} bV {T} S m=>m.ah bV λbW=>bW.2 S
    have cF:Q h.size:= .inr (.inl rfl);have bd:Q ak.size:= .inr (.inr (.inl rfl));have aQ:=Y.ah dn λh=>h
    have dr:=Y.ah dp λh=>h
    have ds: ∀e∈b.more,Em e=true/\e.data.size<1099511627776:=λe J=>by rw[bO] at J;cases J
    refine AC.mk (n:=x.kind) (AO aQ rfl) (ai.mk λcG dt=>?_);have bX: ∀ {L:aa} {z':Nat->Nat} {hG:eE} {C:Hs} (num:Nat),CW B g L s a (N+1) sh l i C mp Q bc z' hG (DI x p b num)->y.dj C->Mod (bB g Q) aD L->cG () L:=λ{L z' hG C} num aR M bY=>by
     have G:=ANA (num:=num) ae ds aZ;have du:=AKa G bO;have b0:=G.ar;rw[bP] at b0;have nx:=G.st.next;have dv:=bU aQ cF bY;have dw:=bU dr bd bY;refine dt _ _ (AQ8 aR nx λaE aG=>EL.mk (dX 0 (Di (DI x p b num)).1 (Di (DI x p b num)).2) ⟨rfl,ao.mk λdx _ dy b1 en=>aF.mk dy (A0 9) λb2 am dz eo=>?_⟩);rw[KP] at am;have be:Ext L b2:=(aG.trans b1).more dz λc d=>by subst d;exact aG.size
     have bf:=aG.size;have ep:=Ai am
     let aH:Nat->Prop:=λc=>Q c\/c=aE.size
     have dA:CW B g b2 s a (N+1) sh l i C mp aH bc z' hG (DI x p b num):=aR.wider (O':=aH) be.mod λc d=>d.imp id λh=>by omega
     have cH:0<=(Di (DI x p b num)).1/\(Di (DI x p b num)).1<=4:=G.st.st;have cI:0<=(Di (DI x p b num)).2/\(Di (DI x p b num)).2<=502:=by unfold Di;dsimp only;split<;>omega
     have b3:=Fg (n:=(Di (DI x p b num)).1.toNat) (by omega);have eq:=Fg (n:=(Di (DI x p b num)).2.toNat) (by omega);have er:=AV (n:=(MC x p).length) (by omega);have et:(BQ (MC x p)).length<=2010:=by unfold BQ;rw[A1];omega
     refine AJ.mk (n:=x.bz) (AB (be.ah dv λh=>h) rfl) (AC.mk (n:=(Di (DI x p b num)).1) (AB am rfl) (AC.mk (n:=(Di (DI x p b num)).2) (AB am rfl) (tQ (by omega) ⟨_,rfl,AB am rfl,AB am rfl,RB (l:=MC x p) (by omega) λeu cJ=>⟨_,rfl,?_⟩⟩)));have b4:=cJ.ah am λh=>h
     refine⟨AB b4 rfl,AB b4 rfl,?_⟩;rw[Od (by omega) (by omega)];refine Cc (by omega) λev cK=>⟨_,rfl,?_⟩
     rw[Ak];have dD:=cK.ah b4 λh=>h
     refine⟨AB dD rfl,by rw[AP,AP,max_i64];omega,?_⟩;rw[Od (by omega) (by omega)];refine Cc (by omega) λew dE=>⟨_,rfl,⟨by rw[AP,AP,A1,max_i64];omega,?_⟩⟩
     rw[Ak,A3];have bh:=(cJ.trans cK).trans dE;have dF:=dA.on bh;refine ANw (key:=Kk x.bz) (val:=iI (MC x p) (Di (DI x p b num)).1.toNat (Di (DI x p b num)).2.toNat) dF (by rw[G.conds,cx];decide) (by simp at b0;omega) λb5 ex ey cL b6=>⟨rfl,?_⟩
     have bi: ∀ {c:Nat} {w:aa} {o:Obj},w[c]? =some o-> ∀ {T:aa},aH c->Mod (bB g aH) w T->T[c]? =some o:=λ{c w o} bV {T} S m=>m.ah bV λbW=>bW.2 S
     have cM:aH aE.size:= .inr rfl;have dG:=bi (bh.ah am λh=>h) cM b6;have dH:=bi (bh.ah (be.ah dw λh=>h) λh=>h) (.inl bd) b6;have dI:nZ (DI x p b num) (Kk x.bz) (iI (MC x p) (Di (DI x p b num)).1.toNat (Di (DI x p b num)).2.toNat)=F3 x p b num:=rfl;rw[dI] at cL;have ap:(F3 x p b num).conds= [⟨Kk x.bz,⟨#[]⟩,true⟩]:=by show(DI x p b num).conds++_=_;rw[G.conds,cx];rfl
     have aI:(F3 x p b num).ak=Av x.wid sh:=G.ak.trans cz;have b7:(F3 x p b num).wid=x.wid:=G.wid.trans bQ;have ez:(F3 x p b num).ar.length<=2:=by show((DI x p b num).ar++ [_]).length<=2;rw[A1,Cd];simp at b0;omega
     have fin: ∀ {w:aa},Mod (bB g aH) b5 w->w[ak.size]? =some (J2 bg.z.c Ab (0,0))/\Mod (bB g O) h w:=λ{w} m=>⟨bi dH (.inl bd) m,by
      have bj:Mod (bB g O) h aD:=(bR.trans Y).mod;have dJ:Mod (bB g O) aD L:=bY.aj λc _ d=>bB.less d λc S=> .inl S
      have dK:Mod (bB g O) b2 b5:=bh.mod.trans (b6.aj λc _ d=>bB.less d λc S=> .inl (.inl S));have dL:Mod (bB g O) b5 w:=m.aj λc _ d=>bB.less d λc S=> .inl (.inl S)
      exact(((bj.trans dJ).trans be.mod).trans dK).trans dL⟩
     have b8: ∀ {w T:aa} {bj cN:Nat} {b3:List Hs} {cO:List Pr},LW B g w s bj cN sh b3 cO aH->Mod (· =ak.size) w T->LW B g T s bj cN sh b3 cO O:=λdM m=>dM.own (m.aj λc _ d=>by subst d;exact .inl bd) λc d=> .inl (.inl (.inl d))
     have b9: ∀ {w T:aa},Mod (bB g O) h w->Mod (· =ak.size) w T->Mod (bB g O) h T:=λm bw=>m.trans (bw.aj λc _ d=>by
      subst d;have:=ac.ext.size;exact⟨by omega,λS=>by have:=cD _ S;omega⟩)
     have dd: ∀ {Z:Hs},C.dh Z->y.dd Z:=λ{Z} W=>⟨W.p.trans M.p,W.name.trans M.name,W.f.trans M.f,λm=>by have:=M.u m;have:=W.u m;omega⟩
     have dN:Ff (F3 x p b num).ak (C.f (F3 x p b num).ak) C.name=Ff (Av x.wid sh) (y.f (Av x.wid sh)) y.name:=by rw[aI,M.f,M.name]
     have dO:bC (F3 x p b num)=bC b:=by show bC (DI x p b num)=_;unfold bC;rw[G.bW,G.cq,G.kept,G.wid]
     have dP:Bd mp (bC (F3 x p b num))=true:=by
      rw[dO];refine sU aj (by rw[bQ];exact ax) ?_;rw[bQ];unfold pD at aO;split at aO
      ·rename_i E;first|exact aO|(rw[E];exact aO)
      ·rename_i E;first|exact aO|(rw[E];exact aO)
     have cP:De (F3 x p b num).st (500+1):=G.st;have cQ: ∀e∈(F3 x p b num).more,Em e=true/\e.data.size<1099511627776:=G.ok;refine u9 cY cL cP (by omega) (by rw[b7];exact ax) cQ (by rw[aI];omega) (by rw[aI,M.f];exact ch _) (by have:=M.u (F3 x p b num).ak;have:=ci (F3 x p b num).ak;omega) (by omega) hA cZ c0 (by show(DI x p b num).more.length<=_;omega) (by omega) (by rw[ap];simp) (λH k=>by
       rw[ap] at k;rw[List.mem_singleton.1 k];show(Kk x.bz).size<=_;rw[VT];omega) (by show 0<=(DI x p b num).cq/\(DI x p b num).cq<128;rw[G.cq];omega) (by show 0<=(DI x p b num).bW/\(DI x p b num).bW<=501;rw[G.bW];exact dk) (by show -_<=(DI x p b num).now/\(DI x p b num).now<=_;rw[G.now,cB];omega)
      (λdR=>absurd dR (by rw[aI,M.f];exact bE)) (λr u Z ca W J aJ aK=>⟨_,rfl,?_⟩) (λr u Z ca W J aC aJ aK=>⟨_,rfl,?_⟩) (λr u Z ca W J aC hd aJ aK=>?_) (λr u Z ca W dS J aC hd aJ aK=>⟨_,rfl,?_⟩)
     ·obtain⟨aS,aT⟩:=fin aK;refine af.yes (by simpa using J) (kH (x:=dX (A9 (F3 x p b num) r u).err 0 0) aS λa1 aq=>?_);exact c1 a1 Z num r u bb (dd W) J (b8 aJ aq) (b9 aT aq)
     ·obtain⟨aS,aT⟩:=fin aK;rw[dN] at aC;refine af.yes rfl (kH (x:=dX 170 0 0) aS λa1 aq=>?_);rw[aI] at aJ;exact c2 a1 Z bb (dd W) aC (b8 aJ aq) (b9 aT aq)
     all_goals
      have X:=Ub (n:=500+1) cQ cP r u;have cb:(A9 (F3 x p b num) r u).beside (some (x.bz,(MC x p,(Di (DI x p b num)).1,(Di (DI x p b num)).2))):=by have vc:=(tc J).2;have:=X.st.next;refine YL (AIZ (x:=(MC x p,(Di (DI x p b num)).1,(Di (DI x p b num)).2)) (AKQ bP) aX cH ?_ dl) r u;have dT:(Di (F3 x p b num)).2=(Di (DI x p b num)).2:=rfl;rw[dT] at vc;exact⟨cI.1,by show(Di (DI x p b num)).2<=501;omega⟩
      have mem:YZ x.bz (MC x p,(Di (DI x p b num)).1,(Di (DI x p b num)).2)∈(A9 (F3 x p b num) r u).ar:=AMc (ID _ (by simp[YZ])) r u
     ·exfalso;refine hd (sX (by rw[X.wid,b7];exact ax) X.ok X.st cb ?_ (λh=>?_) ?_ λc d=>?_)
      ·have aS:=X.more;have aT:=X.ar;have eA:(F3 x p b num).more.length<=1:=du;omega
      ·rw[TX] at h;rw[h.2] at mem;cases mem
      ·rw[ap];simp
      ·rw[ap] at d;rcases List.mem_cons.1 d with rfl|d
       ·exact aC
       ·rcases List.mem_append.1 d with d|d
        ·rw[List.mem_singleton.1 d];exact AMx aj aX bF
        ·rw[List.mem_singleton.1 d];exact dP
     ·obtain⟨aS,aT⟩:=fin aK;obtain⟨bk,bm⟩:=tc J;have bk:(A9 (F3 x p b num) r u).st.status=(Di (DI x p b num)).1:=bk;have bm:(A9 (F3 x p b num) r u).st.next=(Di (DI x p b num)).2:=bm;have dU:=bi dG cM aK;refine af.no rfl (Dq.mk (dX 0 (Di (DI x p b num)).1 (Di (DI x p b num)).2) (Kr dU) (kH aS λa1 aq=>?_));rw[<- bk,<-bm];have cR:(A9 (F3 x p b num) r u).fits ((fl x.wid).getD []):=sR (AP0 dj);have bn:(A9 (F3 x p b num) r u).wid=x.wid:=X.wid.trans b7;have cS:(fl x.wid).getD []++(A9 (F3 x p b num) r u).more≠ []:=by
       intro h;rw[TX] at h;have bo:x.kind=1:=by
        cases E:fl x.wid with
        |some l=>
         rw[E] at h;exact absurd h.1 (aj.dE _ _ E).ne
        |none=>
         rw[E] at q;rw[bb] at q;by_cases bo:x.kind=1
         ·exact bo
         ·have q:(none:Option (Int×Int×Int))=if x.kind=1 then none else some (180,0,0):=q;rw[if_neg bo] at q;cases q
       have ar:(F3 x p b num).err=0:=AOm (VV J);have ar:(DI x p b num).err=0:=ar;refine X.none (λag=>?_) h.2;have ag:(DI x p b num).more= []:=ag;unfold DI at ag ar;rw[if_pos bo] at ag ar;split at ag
       ·rename_i cc;rw[if_pos cc] at ar;rw[(Gz _ _ _ _).2,(pC (Xn ar)).1] at ag;simp at ag
       ·rename_i cc;rw[if_neg cc] at ar;rw[(pC ar).1] at ag;simp at ag
      have a2:=aj.done ac.sorted (D:=A9 (F3 x p b num) r u) (o:=some (x.bz,(MC x p,(Di (DI x p b num)).1,(Di (DI x p b num)).2))) (by rw[bn];exact ax) (by rw[bn];exact cR) (by rw[bn];exact cS) X.st cb (λbu eB cd=>by
       cases cd;have:=X.st.next;exact⟨mem,aX,cH,⟨cI.1,by show(Di (DI x p b num)).2<=501;omega⟩,dl⟩)
      rw[bn] at a2;have a2:Jk _ _ (dB an x.bz (MC x p,(Di (DI x p b num)).1,(Di (DI x p b num)).2)):=a2;rw[<- bk,<-bm] at a2;exact c3 a1 Z num r u _ rfl bb (dd W) (λcd=>by
       obtain⟨v,v1,v2,cT⟩:=dS cd (by rw[aI,M.f];exact bE);rw[aI] at v1 v2 cT;exact⟨v,by have:=M.u (Av x.wid sh);omega,v2,by rw[cT,M.f]⟩) J (b8 aJ aq) a2 (ZV cR cS X.st).2 (sY ac.sorted cb) (b9 aT aq)
    have dV:CW B g aD s a (N+1) sh l i y mp Q bc z cE b:=aP.put (by omega) (by omega) (by omega);have bp: ∀ {L z' hG} (e:Ev) (D:br),D=Dm b e->CW B g L s a N sh l i y mp Q bc z' hG D->Mod (bB g Q) aD L->(∀ num,DI x p b num=D)->cG () L:=λ{L z' hG} e D eC aR aU d=>bX (z':=z') (hG:=hG) 0 (by rw[d];exact aR.put (by omega) (by omega) (by omega)) (Hs.dj.refl y) aU
    have cU:(⟨#[]⟩:A2L).size<1099511627776:=by decide
    have bq:b.more.length<1000:=by rw[bO];decide
    refine af.intro (λj=>?_) (λj=>?_)
    ·have j:x.kind=1:=by simpa using j
     refine AZ.mk (s:=x.steps) (AB aQ rfl) (AC.mk (n:=x.az) (Cn (by exact aQ) rfl) ?_);rw[a3];refine tW (V.ext (bR.trans Y)) len λL bs=>?_
     have aR:=aP.on bs;unfold YA;rw[bz j];have eD:=RV (bz j);refine⟨_,_,rfl,ZK (e:=dC 1 (AY (Ci p))) aR aZ (by omega) (by show(AY (Ci p)).size<_;rw[AP];omega) bq λaE bf aG au aL=>⟨rfl,?_⟩⟩;have ce:Mod (bB g Q) aD aE:=bs.mod.trans aL;have cV:=bU aQ cF ce;refine AC.mk (n:=x.az) (Cn (by exact cV) rfl) ?_;rw[a3];refine af.intro (λk=>?_) (λk=>?_)
     ·have k:0<p.az:=by simpa using k
      have eF:=(xu (bz j)).2.1;refine AC.mk (n:=x.az) (Cn (by exact cV) rfl) ?_;rw[a3,wrap_i64 (by omega) (by omega)];have dW:(Dm b (dC 1 (AY (Ci p)))).ak=Av x.wid sh:=(OI _ _).2.1.trans cz;refine pW (t:=⟨6,⟨#[]⟩,0,0⟩) au (by rw[dW];omega) (ch _) (by have:=ci (Dm b (dC 1 (AY (Ci p)))).ak;omega) (by omega) (by omega) (by rw[sS,bP];decide) (by omega) λdx dY b1 C num dZ M _ d0=>⟨rfl,?_⟩
      refine bX (z':=dY) (hG:=b1) num ?_ M (ce.trans d0);have ap:DI x p b num=Dt (Dm b (dC 1 (AY (Ci p)))) ⟨6,0,0⟩ (if(0:Int)>now+p.az then 0 else now+p.az) num:=by unfold DI sZ;rw[if_pos j,if_pos k,cB]
      rw[ap];exact dZ
     ·have k: ¬0<p.az:=by simpa using k
      exact bp (dC 1 (AY (Ci p))) _ rfl au ce λnum=>by unfold DI;rw[if_pos j,if_neg k]
    have j:x.kind≠1:=by simpa using j
    refine af.intro (λab=>?_) (λab=>?_)
    ·have ab:x.kind=2:=by simpa using ab
     refine AJ.mk (n:=x.name) (AB aQ rfl) (ZK (e:=dC 12 x.name) aP aZ (by omega) (by have:=FK (c8 ab);show x.name.size<_;omega) bq λaE bf aG au aL=>⟨rfl,?_⟩);exact bp (dC 12 x.name) _ rfl au aL λnum=>by unfold DI;rw[if_neg j,if_pos ab]
    have ab:x.kind≠2:=by simpa using ab
    refine af.intro (λav=>?_) (λav=>?_)
    ·have av:x.kind=3:=by simpa using av
     have d1:=Y.ah a0 λh=>h
     refine Aa.mk (n:=b.st.cancel) (Cn (by exact d1) rfl) (af.intro (λd=>?_) (λd=>?_))
     ·have d: ¬b.st.cancel=true:=by simpa using d
      refine ZK (e:=dC 13 ⟨#[]⟩) aP aZ (by omega) cU bq λaE bf aG au aL=>⟨rfl,?_⟩
      exact bp (dC 13 ⟨#[]⟩) _ rfl au aL λnum=>by unfold DI;rw[if_neg j,if_neg ab,if_pos av,if_neg d]
     ·have d:b.st.cancel=true:=by simpa using d
      refine bX (z':=z) (hG:=cE) 0 ?_ (Hs.dj.refl y) Mod.refl;have ap:DI x p b 0=b:=by unfold DI;rw[if_neg j,if_neg ab,if_pos av,if_pos d]
      rw[ap];exact dV
    have av:x.kind≠3:=by simpa using av
    refine af.yes (by simp;omega) (ZK (e:=dC 18 ⟨#[]⟩) aP aZ (by omega) cU bq λaE bf aG au aL=>⟨rfl,?_⟩);exact bp (dC 18 ⟨#[]⟩) _ rfl au aL λnum=>by unfold DI;rw[if_neg j,if_neg ab,if_neg av]
   refine AC.mk (n:=x.kind) (AO a8 rfl) ?_;cases E:fl x.wid with
   |none=>
    rw[E] at q az;refine af.intro (λj=>?_) (λj=>?_)
    ·have j:x.kind=1:=by simpa using j
     have q:Oa fl an (y.f (Av x.wid sh)) x p=if x.kind=1 then none else some (180,0,0):=q;rw[if_pos j] at q;refine af.no rfl (af.yes rfl (go (es:=gK) (a':=gK) (b':=gK) (c':=gK) q (ad.trans aA) a8 (aA.ah a4 λh=>h) ⟨_,az,by rw[E];rfl⟩ ?_ (λc d=>by simp[Sl.ah] at d) (λa9 cf=>by rw[cf,E];rfl)));rw[E];exact⟨View.nil,View.nil,View.nil⟩
    ·have j:x.kind≠1:=by simpa using j
     have q:Oa fl an (y.f (Av x.wid sh)) x p=if x.kind=1 then none else some (180,0,0):=q;rw[if_neg j] at q;exact ai.mk λd2 cg=>af.no rfl (cg _ _ (af.no rfl (af.no rfl (bN 180 (by decide) q))))
   |some bt=>
    rw[E] at q az;have q:Oa fl an (y.f (Av x.wid sh)) x p=if x.kind=1 then some (181,0,0) else if(Bu bt).status≠0 then some (182,0,0) else none:=q;refine af.intro (λj=>?_) (λj=>?_)
    ·have j:x.kind=1:=by simpa using j
     rw[if_pos j] at q;exact af.yes rfl (bN 181 (by decide) q)
    have j:x.kind≠1:=by simpa using j
    rw[if_neg j] at q;refine ai.mk λd2 cg=>af.yes rfl (AC.mk (n:=(Bu bt).status) (Ce (by exact az) rfl) (cg _ _ (af.intro (λH=>?_) (λH=>?_))))
    ·have H:(Bu bt).status≠0:=by simpa using H
     rw[if_pos H] at q;exact bN 182 (by decide) q
    have H:(Bu bt).status=0:=by simpa using H
    rw[if_neg (by simp[H])] at q;have d3:=ac.on (ad.trans aA);refine af.yes rfl (AJ.mk (n:=x.wid) (AB a8 rfl) (sO d3 ah aj ax E λaD es a' b' c' Y eG ba fr eH=>QZ.mk _ ⟨_,rfl,aF.mk (Y.ah az λh=>h) (A0 18) λL cW aU eI=>?_⟩));rw[Zc] at cW;have eJ:=cs.size;have eK:=Ai az;have bs:Ext h L:=((ad.trans aA).trans Y).more aU λc d=>by subst d;have:=ad.size;omega
    refine go q bs (aU.ah (Y.ah a8 λh=>h) (by have:=ad.size;omega)) (aU.ah (Y.ah (aA.ah a4 λh=>h) λh=>h) (by omega)) ⟨_,cW,by rw[E];rfl⟩ ?_ (λc d=>by have:=fr c d;omega) (λa9 cf=>by rw[cf,E];rfl);rw[E];exact ba.fresh aU fr λc d=>by subst d;omega
 refine AC.mk (n:=x.kind) (AO al rfl) (af.intro (λH=>co true ?_) (λH=>AC.mk (n:=x.kind) (AO al rfl) (co _ ?_)))
 ·have H:x.kind<1:=by simpa using H
  simp[H]
 ·have H: ¬x.kind<1:=by simpa using H
  simp[H]
end
section
variable {x x' : cu} {p p' : ck}
end
section
variable {A : aq} {h : aa} {R : A2K}
end
def Uq:cH:=⟨32000,0,1600,by decide,by decide,by decide⟩
structure EW (g h:aa) (s k sh:Nat) (l:List Hs) (mp:List Pr) (fl:cG) (an:dk) (O:Nat->Prop):Prop where
 w:LW Uq g h s k (3*k) sh l mp O
 m:Jk mp fl an
 all: ∀y∈l,∀n,y.u n<=3*k/\y.f n<=k
def iE(mp:List Pr)(y:Hs)(a:Nat):Prop:=y.f a≠0/\Bd mp (Ff a (y.f a) y.name)=true
def pE(fl:cG)(an:dk)(f:Nat)(x:cu)(p:ck)(j:Int)(b st nx:Int)(m:cG)(n:dk):Prop:=
 (m=fl/\n=an/\(Oa fl an 1 x p=some (b,st,nx)\/(Oa fl an 1 x p=none/\b≠0/\st=0/\nx=0/\ ∃c d e,b=(A9 (F3 x p (Bt (fl x.wid) x.wid f j) c) d e).err)))\/
 (Oa fl an 1 x p=none/\b=0/\ ∃c d e a,a=A9 (F3 x p (Bt (fl x.wid) x.wid f j) c) d e/\a.err=0/\m=dB fl x.wid ((fl x.wid).getD []++a.more)/\n=dB an x.bz (MC x p,a.st.status,a.st.next)/\st=a.st.status/\nx=a.st.next/\Bu ((fl x.wid).getD []++a.more)=a.st)
def ASb(mp c:List Pr)(fl j:cG)(b:Nat)(x:cu)(p:ck)(d:Int)(y m:Hs):Prop:=c=mp\/ ∃e f n a,a=A9 (F3 x p (Bt (fl x.wid) x.wid b d) e) f n/\a.err=0/\c=cy mp (EA a++a.ar)/\j=dB fl x.wid ((fl x.wid).getD []++a.more)/\
 (EH (F3 x p (Bt (fl x.wid) x.wid b d) e)=true->dQ y m b f)
theorem AMk {fl:cG}{an:dk}{k:Nat}{x:cu}{p:ck}(h:k≠0):Oa fl an k x p=Oa fl an 1 x p:=by unfold Oa;rw[if_neg h,if_neg (show ¬(1:Nat)=0 by decide)]
theorem td {l:List Hs}{i:Nat}{b:Hs}{Q:Hs->Prop}(h: ∀y∈l,Q y)(c:Q b): ∀y∈l.set i b,Q y:=λy d=>by
 rcases Up d with a|a
 ·exact h y a
 ·rw[a];exact c
section
variable {A : aq} {g h : aa} {s k sh : Nat} {l : List Hs} {mp : List Pr} {O : Nat -> Prop} {i : Nat} {y : Hs} {fl : cG} {an : dk} {R : A2K}
theorem EW.own {a:aa}{O':Nat->Prop}(b:EW g h s k sh l mp fl an O)(d:Mod O h a)(e: ∀c,O' c->O c\/(h.size<=c/\c<a.size)):EW g a s k sh l mp fl an O':=⟨b.w.own d e,b.m,b.all⟩
theorem EW.on {b:aa}(a:EW g h s k sh l mp fl an O)(x:Ext h b):EW g b s k sh l mp fl an O:=⟨a.w.on x,a.m,a.all⟩
theorem EW.up {a:Nat}(b:EW g h s k sh l mp fl an O)(c:k<=a)(f:a<=500):EW g h s a sh l mp fl an O:=
 ⟨b.w.put c (by show 64*a<=32000;omega) (by omega) (by omega),b.m,λy d e=>by have:=b.all y d e;omega⟩
theorem EW.ik {x:cu}{p:ck}{T:J0}{n:Int}(U:bZ g)(d:EW g h s k sh l mp fl an O)(o:l[i]? =some y)(ad:k+1<=490)(I:iE mp y (Av x.wid sh))(V:View QT h x.steps p.steps)(W:x.az=p.az)(len:p.steps.length<=1099511627776)(X: -4611686018427300000<=n/\n<=4611686018427300000)
  (D: ∀c b E F J q st nx,EW g c s (k+1) sh (l.set i b) E F J O->y.dd b->(∀ a K r,Bd E (Ff a K r)=Bd mp (Ff a K r))->Mod (bB g O) h c->pE fl an (Av x.wid sh) x p n q st nx F J->ASb mp E fl F (Av x.wid sh) x p n y b->R (dX q st nx).v c):
  AA A P Ea #[Am y.p,T,J6 J9 n,x.v] h R:=by
 have G:=AK o;have ae:Uq.C=32000:=rfl;have hA:Uq.A=1600:=rfl;have Y:=(List.getElem?_eq_some_iff.1 o).1;have da:l.set i y=l:=by rw[<- (List.getElem?_eq_some_iff.1 o).2];exact P0 Y
 have H:=AMk (fl:=fl) (an:=an) (x:=x) (p:=p) I.1;have f: ∀ {b:Hs},y.dd b-> ∀z∈l.set i b,∀a,z.u a<=3*(k+1)/\z.f a<=k+1:=λ{b} f=>td (Q:=λz=> ∀a,z.u a<=3*(k+1)/\z.f a<=k+1) (λz Z a=>by have:=d.all z Z a;omega) λa=>by
  have:=d.all y G a;have:=f.u a;rw[f.f];omega
 refine AM3 U d.w o d.m V W len X (λa=>by have:=(d.all y G a).2;omega) (λa=>by have:=(d.all y G a).1;omega) (by omega) (by omega) (by omega) (by omega)
  (λc q st nx e L=>?_) (λc b t u v e j w B C=>?_) (λc b e j M B C=>?_) λc b t u v N S e j r w B aa ab ac C=>?_
 ·rw[H] at e;refine D c y mp fl an q st nx ⟨?_,d.m,f ⟨rfl,rfl,rfl,λm=>by omega⟩⟩ ⟨rfl,rfl,rfl,λm=>by omega⟩ (λ_ _ _=>rfl) L.mod (.inl ⟨rfl,rfl,.inl e⟩) (.inl rfl);rw[da];exact(d.w.on L).put (by omega) (by omega) (by omega) (by omega)
 ·rw[H] at e;exact D c b mp fl an _ 0 0 ⟨B.put (by omega) (by omega) (by omega) (by omega),d.m,f j⟩ j (λ_ _ _=>rfl) C (.inl ⟨rfl,rfl,.inr ⟨e,w,rfl,rfl,t,u,v,rfl⟩⟩) (.inl rfl)
 ·rw[I.2] at M;cases M
 ·rw[H] at e;exact D c b _ _ _ 0 _ _ ⟨B.put (by omega) (by omega) (by omega) (by omega),aa,f j⟩ j ac C (.inr ⟨e,rfl,t,u,v,N,S,w,rfl,rfl,rfl,rfl,ab⟩) (.inr ⟨t,u,v,N,S,w,rfl,rfl,r⟩)
end
structure jM (mp:List Pr) (y:Hs) (sh:Nat):Prop where
 has: ∀n,n<sh->y.f n=1/\GJ mp n 1 y.name
 ir: ∀n,sh<=n->y.f n=0/\(n<256->GJ mp n 0 ⟨#[]⟩)
theorem jM.owns {mp:List Pr}{y:Hs}{sh a:Nat}(b:jM mp y sh)(c:a<sh):iE mp y a:=by obtain⟨d,e⟩:=b.has a c;refine⟨by omega,?_⟩;rw[d];exact e.holds (A0 _)
section
variable {A : aq} {g h : aa} {s k sh : Nat} {y : Hs} {mp : List Pr} {O : Nat -> Prop} {R : A2K}
end
theorem AN2 {id tick k:Int}(a:1<=id/\id<=500)(b:0<=tick/\tick<=1099511627776)(c:k=2\/k=13\/k=18):Em ⟨id,k,tick,0,0,0,false,⟨#[]⟩⟩=true:=by have d:bV id 1 500=true:=Ba.2 a;have e:bV tick 0 1099511627776=true:=Ba.2 b;have f:bV k 1 18=true:=Ba.2 (by omega);unfold Em Ef KG;rw[d,e,f];rcases c with rfl|rfl|rfl<;>rfl
theorem ANx {id tick:Int}{p:ck}(a:1<=id/\id<=500)(b:0<=tick/\tick<=1099511627776)(c:F4 p=true):Em ⟨id,1,tick,0,0,0,false,AY (Ci p)⟩=true:=by
 have d:bV id 1 500=true:=Ba.2 a;have e:bV tick 0 1099511627776=true:=Ba.2 b;unfold Em Ef KG;dsimp only;rw[d,e,EN,vZ c];have:dZ 1=true:=by decide
 rw[this,IF];rfl
theorem O8 {a:Int}{wid:A2L}{b:Int}(c:1<=a/\a<=7)(d:Aj wid=true)(e:0<=b/\b<=500):Gy ⟨a,b,0⟩ wid=true:=by unfold Gy;rw[Ba.2 c,d,Ba.2 e];rfl
theorem Zq {a:br}{t:fM}{tick:Int}{c:Nat}(b:a.err=0)(d:Gy t a.wid=true):(Dt a t tick c).err=0:=by unfold Dt;rw[if_neg (by simp[b]),if_neg (by simp[d])];exact b
theorem AHy {a:br}(b:EH a=true):a.more≠ []/\a.st.status=0/\a.st.fresh=true/\a.st.asked=0/\a.st.taken=0:=by unfold EH at b;simpa [and_assoc] using b
theorem APq {a:br}(d:a.err=0)(e:EH a=true)(i:2<=a.st.next/\a.st.next<=500)(f:0<=a.now/\a.now<=1099511627776):
  Dm a QU= {a with st:= {a.st with asked:=a.st.next,next:=a.st.next+1},more:=a.more++ [⟨a.st.next,2,a.now,0,0,0,false,⟨#[]⟩⟩]}:=by
 obtain⟨g,w2,w3,w4,h⟩:=AHy e;have b:Ct a QU=⟨a.st.next,2,a.now,0,0,0,false,⟨#[]⟩⟩:=by unfold Ct;rw[if_neg (by omega)];rfl
 have ok:=AN2 (id:=a.st.next) (tick:=a.now) (k:=2) (by omega) f (.inl rfl);have c:Bo a.st (Ct a QU)=(0,{a.st with asked:=a.st.next,next:=a.st.next+1}):=by rw[b];unfold Bo;rw[if_neg (by simp[ok]),if_neg (by omega),if_neg (by simp[w2]),if_neg (by simp)];unfold Ph Dv;rw[if_pos (show(2:Int)<=2/\(2:Int)<=5 by decide),if_pos rfl,if_pos ⟨w4,h,w3⟩];rfl
 rw[qX d (.inl g) (by rw[c]),c,b]
theorem ANd {a:br}{n1:Nat}(c:a.err=0)(e:2<=a.st.next/\a.st.next<=500)(f:0<=a.now/\a.now<=1099511627776)(g:Aj a.wid=true):(Ee a n1).err=0/\(Ee a n1).wid=a.wid/\(Ee a n1).now=a.now/\(Ee a n1).st=(if EH a=true then {a.st with asked:=a.st.next,next:=a.st.next+1} else a.st)/\(Ee a n1).more=(if EH a=true then a.more++ [⟨a.st.next,2,a.now,0,0,0,false,⟨#[]⟩⟩] else a.more):=by
 unfold Ee;split
 ·rename_i h;have b:=APq c h e f;have i:Sj (Dm a QU)=a.st.next:=by rw[b];show a.st.next+1-1=_;omega
  have d:Gy ⟨1,Sj (Dm a QU),0⟩ (Dm a QU).wid=true:=by rw[i,b];exact O8 (by decide) g (by omega)
  refine⟨Zq (by rw[b];exact c) d,?_,?_,?_,?_⟩
  ·unfold Dt;rw[if_neg (by rw[b];simp[c]),if_neg (by simp[d]),b]
  ·unfold Dt;rw[if_neg (by rw[b];simp[c]),if_neg (by simp[d]),b]
  ·rw[(Gz _ _ _ _).1,b]
  ·rw[(Gz _ _ _ _).2,b]
 ·exact⟨c,rfl,rfl,rfl,rfl⟩
theorem tf {a:br}{n1 n2:Nat}(f:a.err=0)(g:2<=a.st.next/\a.st.next<=500)(h:0<=a.now/\a.now<=1099511627776)(b:Aj a.wid=true):(A9 a n1 n2).err=0/\(A9 a n1 n2).st=(if EH a=true then {a.st with asked:=a.st.next,next:=a.st.next+1} else a.st)/\(A9 a n1 n2).more=(if EH a=true then a.more++ [⟨a.st.next,2,a.now,0,0,0,false,⟨#[]⟩⟩] else a.more):=by
 obtain⟨c,i,j,d,e⟩:=ANd (n1:=n1) f g h b;unfold A9;split
 ·refine⟨Zq c (by rw[i];exact O8 (by decide) b (by decide)),?_,?_⟩
  ·rw[(Gz _ _ _ _).1,d]
  ·rw[(Gz _ _ _ _).2,e]
 ·exact⟨c,d,e⟩
theorem tg {x:cu}{p:ck}{n n0:Nat}{a:Int}(k:x.kind=1)(d:F4 p=true)(l:Aj x.wid=true)(r:0<=a/\a<=1099511611776):
  (DI x p (Bt none x.wid n a) n0).err=0/\(DI x p (Bt none x.wid n a) n0).st=⟨p,0,2,a,0,0,true,[],[],false,false⟩/\(DI x p (Bt none x.wid n a) n0).more= [⟨1,1,a,0,0,0,false,AY (Ci p)⟩]/\(DI x p (Bt none x.wid n a) n0).wid=x.wid/\(DI x p (Bt none x.wid n a) n0).now=a:=by
 have ok:=ANx (id:=1) (tick:=a) (p:=p) (by decide) (by omega) d;have f:(Bt none x.wid n a).err=0:=by show(if a<0\/1099511611776<a then(1:Int) else 0)=0;rw[if_neg (by omega)]
 have g:Ct (Bt none x.wid n a) (dC 1 (AY (Ci p)))=⟨1,1,a,0,0,0,false,AY (Ci p)⟩:=rfl;have h:Bo (Bt none x.wid n a).st (Ct (Bt none x.wid n a) (dC 1 (AY (Ci p))))=(0,⟨p,0,2,a,0,0,true,[],[],false,false⟩):=by rw[g];unfold Bo;rw[if_neg (by simp[ok]),if_pos (show(Bt none x.wid n a).st.next=0 from rfl),if_pos ⟨rfl,rfl⟩];unfold XR;dsimp only;rw[EN,vZ d];rfl
 have i:=qX f (e:=dC 1 (AY (Ci p))) (.inr (.inl (by show(0:Int)<=497;decide))) (by rw[h]);rw[h,g] at i;have base:(Dm (Bt none x.wid n a) (dC 1 (AY (Ci p)))).err=0/\(Dm (Bt none x.wid n a) (dC 1 (AY (Ci p)))).st=⟨p,0,2,a,0,0,true,[],[],false,false⟩/\(Dm (Bt none x.wid n a) (dC 1 (AY (Ci p)))).more= [⟨1,1,a,0,0,0,false,AY (Ci p)⟩]/\(Dm (Bt none x.wid n a) (dC 1 (AY (Ci p)))).wid=x.wid/\(Dm (Bt none x.wid n a) (dC 1 (AY (Ci p)))).now=a:=by rw[i];exact⟨f,rfl,rfl,rfl,rfl⟩
 unfold DI;rw[if_pos k];split
 ·obtain⟨b,m,o,j,q⟩:=base;have c:Gy ⟨6,0,0⟩ (Dm (Bt none x.wid n a) (dC 1 (AY (Ci p)))).wid=true:=by rw[j];exact O8 (by decide) l (by decide)
  refine⟨Zq b c,by rw[(Gz _ _ _ _).1,m],by rw[(Gz _ _ _ _).2,o],?_,?_⟩
  ·unfold Dt;rw[if_neg (by simp[b]),if_neg (by simp[c])];exact j
  ·unfold Dt;rw[if_neg (by simp[b]),if_neg (by simp[c])];exact q
 ·exact base
theorem XX {x:cu}{p:ck}{n n0 n1 n2:Nat}{a:Int}(g:x.kind=1)(h:F4 p=true)(b:Aj x.wid=true)(i:0<=a/\a<=1099511611776):
  (A9 (F3 x p (Bt none x.wid n a) n0) n1 n2).err=0/\(A9 (F3 x p (Bt none x.wid n a) n0) n1 n2).st=⟨p,0,3,a,2,0,true,[],[],false,false⟩/\(A9 (F3 x p (Bt none x.wid n a) n0) n1 n2).more= [⟨1,1,a,0,0,0,false,AY (Ci p)⟩,⟨2,2,a,0,0,0,false,⟨#[]⟩⟩]:=by
 obtain⟨j,k,l,m,o⟩:=tg (n:=n) (n0:=n0) g h b i;have q:(F3 x p (Bt none x.wid n a) n0).err=0:=j;have c2:(F3 x p (Bt none x.wid n a) n0).st=⟨p,0,2,a,0,0,true,[],[],false,false⟩:=k;have c:(F3 x p (Bt none x.wid n a) n0).more= [⟨1,1,a,0,0,0,false,AY (Ci p)⟩]:=l;have c4:(F3 x p (Bt none x.wid n a) n0).wid=x.wid:=m;have d:(F3 x p (Bt none x.wid n a) n0).now=a:=o;obtain⟨r,e,f⟩:=tf (n1:=n1) (n2:=n2) q (by rw[c2];exact⟨(by decide:(2:Int)<=2),(by decide:(2:Int)<=500)⟩) (by rw[d];omega) (by rw[c4];exact b);have s:EH (F3 x p (Bt none x.wid n a) n0)=true:=by unfold EH;rw[c2,c];rfl
 rw[s,if_pos rfl] at e f;refine⟨r,?_,?_⟩
 ·rw[e,c2];show(⟨p,0,2+1,a,2,0,true,[],[],false,false⟩:bd)=_;rfl
 ·rw[f,c2,c,d];rfl
structure AT7 (h:aa) (x:cu) (p:ck):Prop where
 V:View QT h x.steps p.steps
 lim:x.az=p.az
 len:p.steps.length<=1099511627776
 sz: ∀y∈p.steps,y.name.size<=1099511627776/\y.aL.size<=1099511627776
 name:x.name.size<=1099511627776
 wid:x.wid.size<=1099511627776
 bz:x.bz.size<=1099511627776
theorem tj {h:aa}{x:bg}{K:Nat->aa->Prop}(i: ∀a,a[h.size]? =some (J2 x.c Ab (0,0))->Ext h a->K h.size a):ao h (J2 bg.z.c Ab) λb e=>aF e ⟨b,0,none⟩ x.l λd=>K b d:=
 ao.mk λe _ j k n=>aF.mk j (A0 9) λd f l o=>i d (by rw[KP] at f;exact f) (k.more l λc m=>by subst m;exact A0 _)
theorem EW.less {g h:aa}{s b d:Nat}{l:List Hs}{e:List Pr}{f:cG}{i:dk}{j O':Nat->Prop}(a:EW g h s b d l e f i j)(k: ∀c,O' c->j c):EW g h s b d l e f i O':=⟨a.w.less k,a.m,a.all⟩
theorem bB.aR {g h a:aa}{b:Nat->Prop}{c:Nat}{d:Obj}(m:Mod (bB g b) h a)(e:h[c]? =some d)(f:b c):a[c]? =some d:=m.ah e λi=>i.2 f
abbrev jN:bP:=⟨1,⟨#[97]⟩,⟨#[]⟩,1,0,0⟩
abbrev pF(sl:Sl)(a:A2L):cu:=⟨1,a,⟨#[119]⟩,⟨#[]⟩,sl,0,gK,0,0,0,0,false⟩
theorem AO1 {a:cG}{b:dk}{x:cu}{p:ck}(e:1<=x.kind/\x.kind<=4)(c:QY x p=0)(d:b x.bz=none):Oa a b 1 x p=(match a x.wid with
   |none=>if x.kind=1 then none else some (180,0,0)
   |some l=>if x.kind=1 then some (181,0,0) else if(Bu l).status≠0 then some (182,0,0) else none):=by
 unfold Oa;rw[if_neg (by omega),if_neg (by simp[c]),if_neg (by decide),d]
 try rfl
theorem pE.start {c k:cG}{d l:dk}{n:Nat}{x:cu}{p:ck}{a m st nx:Int}(D:pE c d n x p a m st nx k l)(b:x.kind=1)(o:QY x p=0)(E:d x.bz=none)(f:c x.wid=none)(q:0<=a/\a<=1099511611776):
  m=0/\st=0/\nx=3/\k=dB c x.wid [⟨1,1,a,0,0,0,false,AY (Ci p)⟩,⟨2,2,a,0,0,0,false,⟨#[]⟩⟩]/\l=dB d x.bz (MC x p,0,3)/\Bu [⟨1,1,a,0,0,0,false,AY (Ci p)⟩,⟨2,2,a,0,0,0,false,⟨#[]⟩⟩]=⟨p,0,3,a,2,0,true,[],[],false,false⟩:=by
 obtain⟨r,H,s,I⟩:=Ze o;have F:Oa c d 1 x p=none:=by rw[AO1 (by omega) o E,f];show(if x.kind=1 then none else some (180,0,0))=none;rw[if_pos b]
 rcases D with⟨_,_,t|⟨_,i,_,_,n0,n1,n2,u⟩⟩|⟨_,i,n0,n1,n2,J,v,K,j,w,y,z,e⟩
 ·rw[F] at t;cases t
 ·exfalso;rw[f] at u;exact i (u.trans (XX b (r b) s q).1)
 ·rw[f] at v j e;obtain⟨G,B,C⟩:=XX (n:=n) (n0:=n0) (n1:=n1) (n2:=n2) b (r b) s q;rw[<- v] at G B C;rw[Option.getD_none,CM,C] at j e;rw[B] at w y z e;exact⟨i,y,z,j,w,e⟩
section
variable {A : aq} {g h : aa} {R : A2K}
end
section
variable {A : aq} {g h : aa} {s k N sh i : Nat} {l : List Hs} {mp : List Pr} {O : Nat -> Prop} {y : Hs} {fl : cG} {an : dk} {R : A2K} {cb : Nat} {z : Nat -> Nat} {x : eE} {C : br}
structure lI (mp:List Pr) (fl:cG) (C:br):Prop where
 wid:Aj C.wid=true
 fits:C.fits ((fl C.wid).getD [])
 more:C.more≠ []
 st:De C.st 500
 ok: ∀e∈C.more,Em e=true/\e.data.size<1099511627776
 len:C.more.length+C.ar.length<=50/\C.conds.length<=50
 keys: ∀p∈C.conds,p.key.size<=1099511627776
 base:pD C (fl C.wid)
 cq:0<=C.cq/\C.cq<=4
 bW:0<=C.bW/\C.bW<=501
 now:0<=C.now/\C.now<=1099511627776
 next:2<=C.st.next/\C.st.next<=500
 err:C.err=0
 bes:C.beside none
theorem EW.jn {k':Nat}(ac:bZ g)(S:CW Uq g h s k N sh l i y mp O cb z x C)(E:Jk mp fl an)(ad: ∀j∈l,∀n,j.u n<=3*k/\j.f n<=k)(F: ∀n,y.u n+2<=3*k'/\y.f n<=k)(ay:k+1<=k')(az:N+2<=3*k')(aA:k'<=490)(G:iE mp y C.ak)(ae:C.ak<256)(L:lI mp fl C)
  (af:(∀ c∈C.conds,Bd mp c=true)-> ∀f d a b D,D=A9 C a b->EW g f s k' sh (l.set i d) (cy mp (EA D++D.ar)) (dB fl C.wid ((fl C.wid).getD []++D.more)) an O->y.dh d->
   (∀ n H T,Bd (cy mp (EA D++D.ar)) (Ff n H T)=Bd mp (Ff n H T))->Bu ((fl C.wid).getD []++D.more)=D.st->Mod (bB g O) h f->R (J6 J9 0) f)
  (ag: ¬(∀ c∈C.conds,Bd mp c=true)-> ∀f d,EW g f s k' sh (l.set i d) mp fl an O->y.dh d->Mod (bB g O) h f->R (J6 J9 100) f):
  AA A P Cz #[Am cb] h R:=by
 have aC:Uq.C=32000:=rfl;have hA:Uq.A=1600:=rfl;have U:=S.w.sorted;obtain⟨q,ah,ai,V,W,aD,aj,ak,aE,al,am,ao,ap,aq⟩:=L;have ar: ∀a b,(A9 C a b).err=0:=λa b=>(tf ap ao am q).1
 have r: ∀ {d:Hs},y.dh d-> ∀j∈l.set i d,∀n,j.u n<=3*k'/\j.f n<=k':=λ{d} r=>td (Q:=λj=> ∀n,j.u n<=3*k'/\j.f n<=k') (λj I n=>by have:=ad j I n;omega) λn=>by
  have:=F n;have:=r.u n;rw[r.f];omega
 refine u9 ac S V (by omega) q W ae (by have:=F C.ak;omega) (by have:=F C.ak;omega) (by omega) (by omega) (by omega) (by omega) (by omega) (by omega) (by omega) aj (by omega) al (by omega)
  (λau=>absurd au G.1) (λa b d f n u=>absurd (ar a b) u) (λa b d f n u v=>by rw[G.2] at v;cases v) (λa b d f n _ v hd J K=>?_) λa b d f n _ _ v hd J K=>?_
 all_goals
  have e:=Ub (n:=500) W V a b;have w:=YL aq a b;have aF:=e.more;have aG:=e.ar;have X:=e.none ai;have Y:EA (A9 C a b)++(A9 C a b).ar≠ []:=λh=>by
   unfold EA at h;rw[if_neg X] at h;simp at h
  have av:Bd mp (bC C)=true:=sU E q ak
 ·have B: ¬(∀ c∈C.conds,Bd mp c=true):=λt=>hd (sX (by rw[e.wid];exact q) e.ok e.st w (by omega) Y (by simp;omega) λc m=>by
   rcases List.mem_cons.1 m with rfl|m
   ·exact G.2
   ·rcases List.mem_append.1 m with m|m
    ·exact t c m
    ·rw[List.mem_singleton.1 m];exact av)
  have u:EX (EA (A9 C a b)++(A9 C a b).ar)=0:=pB Y (by have:=sW (A9 C a b);rw[A1];omega) λp aw=>by
   rcases List.mem_append.1 aw with h|h
   ·exact sV (by rw[e.wid];exact q) e.ok e.st p h
   ·exact w.ok p h
  have ax:du mp (Ff C.ak (y.f C.ak) y.name::(C.conds++ [bC C])) (EA (A9 C a b)++(A9 C a b).ar)=100:=by unfold du;rw[if_neg (by simp;omega),if_neg (by rw[u];decide),if_neg λM=>B λc t=>List.all_eq_true.1 M c (by simp[t])]
  rw[ax];exact ag B f d ⟨J.put (by omega) (by omega) (by omega) (by omega),E,r n⟩ n K
 ·have B: ∀c∈C.conds,Bd mp c=true:=λc t=>by
   unfold du at hd;split at hd
   ·cases hd
   ·split at hd
    ·rename_i h;exact absurd hd h
    ·split at hd
     ·rename_i M;exact List.all_eq_true.1 M c (by simp[t])
     ·cases hd
  have Z:(A9 C a b).fits ((fl C.wid).getD []):=sR ah;have aa:(fl C.wid).getD []++(A9 C a b).more≠ []:=λh=>X (List.append_eq_nil_iff.1 h).2
  have ab:=E.done U (D:=A9 C a b) (o:=none) (by rw[e.wid];exact q) (by rw[e.wid];exact Z) (by rw[e.wid];exact aa) e.st w (λH j I=>by cases I);rw[e.wid] at ab;exact af B f d a b _ rfl ⟨J.put (by omega) (by omega) (by omega) (by omega),ab,r n⟩ n (sY U w) (ZV Z aa e.st).2 K
end
theorem ao.jq {h:aa}{c:Obj}{d:aa->Prop}{e:Nat->aa->Prop}(k: ∀f,Ext h f->d f)(m:ao h c e):ao h c λb j=>And (d j) (e b j):=⟨k _ (Mod.push h c),m⟩
section
variable {A : aq} {B : cH} {g h : aa} {s a N sh cb : Nat} {l : List Hs} {mp : List Pr} {O : Nat -> Prop} {i : Nat} {y : Hs} {z : Nat -> Nat} {x : eE} {C : br} {R : A2K}
theorem APY {key val:A2L}{r:Bool}(k:CW B g h s a N sh l i y mp O cb z x C)(t:C.conds.length<1000)(u:C.ar.length<1000)
  (v: ∀d w x',CW B g d s a N sh l i y mp O cb w x' (iJ C key val)->Mod (bB g O) h d->R (J1 #[]) d):AA A P Gq #[Am cb,.agg #[J7 key,J7 val,J3 r]] h R:=by
 refine Uj ?_;unfold Nh;dsimp only[At];refine ao.mk λQ _ e m S=>?_
 have b:=k.on m;refine AZ.mk (s:=x.conds) (Ce b.bE.ah rfl) (AJ.mk (n:=key) (AO e rfl) (AJ.mk (n:=val) (AB e rfl) ?_));refine ao.jq (λd f=>Ce (b.on f).bE.ah rfl) (b.bE.fJ (p:=⟨key,val,false⟩) b.fS t λT o U D j E=>?_);have c:=b.step (x':= {x with conds:=o}) j E rfl D;have F:=j.ah e λG=>by have:=k.fS _ G;omega
 refine AZ.mk (s:=x.ar) (Ce c.bE.ah rfl) (AJ.mk (n:=key) (AO F rfl) ?_);refine ao.jq (λd f=>Ce (c.on f).bE.ah rfl) (c.bE.eG (p:=⟨key,⟨#[]⟩,true⟩) c.fS u λH I J K q L=>?_);have M:=c.step (x':= {x with conds:=o,ar:=I}) q L rfl K;exact v H J _ M (m.mod.trans ((b.frame j).trans (c.frame q)))
end
section
variable {A : aq} {h : aa} {R : A2K}
theorem tt {f:bS}{t:cm}(j:t.kind=1)(k: ∀d,Ext h d->R (J1 #[J7 ⟨#[]⟩,J3 (decide (f.st.next<=497)&&(f.st.asked==t.ref))]) d):AA A P MV #[f.v,t.v] h R:=by
 refine ADF ?_;unfold WQ;refine ao.mk λq _ l m r=>ao.mk λs _ e g u=>?_
 have i:=g.ah l λh=>h
 refine Az.mk f.st (Cu (o:=6) i rfl) (tY λp a=>⟨_,rfl,?_⟩);have b:=k p ((m.trans g).trans a);refine af.intro (λc=>?_) (λc=>?_)
 ·rw[show decide (f.st.next<=497)=false by simpa using c] at b;exact b
 ·rw[show decide (f.st.next<=497)=true by simpa using c] at b;refine AC.mk (n:=t.kind) (AO (a.ah e λh=>h) rfl) (af.yes (by simp[j]) ?_);refine AC.mk (n:=f.st.asked) (by rw[add_add];exact AB (a.ah i λh=>h) rfl) (AC.mk (n:=t.ref) (AB (a.ah e λh=>h) rfl) ?_);exact b
end
theorem AJh {a:br}{t:fM}{tick:Int}{c:Nat}(b:(Dt a t tick c).err=0):(Dt a t tick c).ar=a.ar++ [⟨MG a.ak tick c,gf t a.wid,false⟩]:=by
 unfold Dt at b ⊢;split at b
 ·rename_i d;exact absurd b d
 ·rename_i d;rw[if_neg d];split at b
  ·exact absurd (show(1:Int)=0 from b) (by decide)
  ·rename_i e;rw[if_neg e]
theorem AI3 {x:cu}{p:ck}{n n0 n1 n2:Nat}{now:Int}(h:x.kind=1)(d:F4 p=true)(i:Aj x.wid=true)(j:0<=now/\now<=1099511611776)(v:p.az=0):
  EH (F3 x p (Bt none x.wid n now) n0)=true/\ ∃e,(A9 (F3 x p (Bt none x.wid n now) n0) n1 n2).ar= [⟨Kk x.bz,e,false⟩,⟨DF n n1,gf ⟨1,2,0⟩ x.wid,false⟩]:=by
 obtain⟨w,m,o,q,y⟩:=tg (n:=n) (n0:=n0) h d i j;obtain⟨k,c,z⟩:=XX (n:=n) (n0:=n0) (n1:=n1) (n2:=n2) h d i j;have l:DI x p (Bt none x.wid n now) n0=Dm (Bt none x.wid n now) (dC 1 (AY (Ci p))):=by unfold DI;rw[if_pos h,if_neg (by omega)]
 generalize f:F3 x p (Bt none x.wid n now) n0=b at*
 have e:EH b=true:=by subst f;unfold EH;rw[show(F3 x p (Bt none x.wid n now) n0).st=_ from m,show(F3 x p (Bt none x.wid n now) n0).more=_ from o];rfl
 refine⟨e,?_⟩;have a:=OI b QU;have r:A9 b n1 n2=Dt (Dm b QU) ⟨1,Sj (Dm b QU),0⟩ (-1) n1:=by
  have s:Ee b n1=Dt (Dm b QU) ⟨1,Sj (Dm b QU),0⟩ (-1) n1:=by unfold Ee;rw[if_pos e]
  unfold A9 at c ⊢;split
  ·rename_i g;exfalso;rw[if_pos g,(Gz _ _ _ _).1] at c;exact g.2 (by rw[c])
  ·exact s
 rw[r] at k c ⊢;rw[AJh k];rw[(Gz _ _ _ _).1] at c;have t:Sj (Dm b QU)=2:=by unfold Sj;rw[c];rfl
 rw[t];have d:b.ar= [⟨Kk x.bz,iI (MC x p) (Di (DI x p (Bt none x.wid n now) n0)).1.toNat (Di (DI x p (Bt none x.wid n now) n0)).2.toNat,false⟩]:=by rw[<- f];show(DI x p (Bt none x.wid n now) n0).ar++_=_;rw[l,(OI _ _).2.2.2.2.2.1];rfl
 have g:(Dm b QU).ak=n:=by rw[a.2.1,<-f];show(DI x p (Bt none x.wid n now) n0).ak=n;rw[l,(OI _ _).2.1];rfl
 have u:(Dm b QU).wid=x.wid:=by rw[a.1,<-f];exact q
 rw[a.2.2.2.2.2.1,d,g,u];exact⟨_,rfl⟩
def cK(p:ck)(t:Int):bd:=⟨p,0,3,t,2,0,true,[],[],false,false⟩
def iX(p:ck)(t:Int):bd:=⟨p,0,4,t,0,3,false,[],[],false,false⟩
abbrev UG(a:Int):Ev:=⟨0,3,0,a,0,0,false,⟨#[]⟩⟩
theorem take_add {C:br}{p:ck}{t:Int}(d:C.err=0)(a:C.st=cK p t)(e:0<=C.now/\C.now<=1099511627776):
  Dm C (UG 2)= {C with st:=iX p t,more:=C.more++ [⟨3,3,C.now,2,0,0,false,⟨#[]⟩⟩]}:=by
 have b:Ct C (UG 2)=⟨3,3,C.now,2,0,0,false,⟨#[]⟩⟩:=by unfold Ct;rw[a];rfl
 have ok:Em (⟨3,3,C.now,2,0,0,false,⟨#[]⟩⟩:Ev)=true:=by have f:bV C.now 0 1099511627776=true:=Ba.2 e;unfold Em Ef KG;rw[f];rfl
 have c:Bo C.st (Ct C (UG 2))=(0,iX p t):=by rw[b,a];unfold Bo;rw[if_neg (by simp[ok]),if_neg (by simp[cK]),if_neg (by simp[cK]),if_neg (by simp[cK])];rfl
 rw[qX d (.inr (.inl (by rw[a];exact(by decide:(3:Int)<=497)))) (by rw[c]),c,b]
section
variable {A : aq} {h : aa} {R : A2K}
theorem tu {x:Sl}{l:List Ev}(v:View dS h x l)(e:l.length<=1000)(d: ∀a b,Own dS A7 b a l->(∀ c,a.ah=some c->h.size<=c)->Ext h b->R (J4 a.p a.len a.cap) b):AA A P CU #[J4 x.p x.len x.cap] h R:=by refine Ic ?_;unfold Ey;exact VB mu v (by omega) (by simp only[maxLen];omega) d
end
def KN(P:A2L)(m:List Pr):List Pr:=m.filter λx=>Km P x.key
section
variable {P k : A2L} {m b : List Pr} {p x : Pr}
theorem AQa(k:A2L):aM k (⟨#[]⟩:A2L)=false:=by unfold aM;rw[ByteArray.toList_eq,ByteArray.toList_eq];cases k.data.toList<;>rfl
theorem UW(a:Int):jf m P ⟨#[]⟩ a=(KN P m).take a.toNat:=by unfold jf KN;rw[HG λx _=>by rw[AQa,Lq,Bool.and_true]]
theorem IC(s:Sorted m):Sorted (KN P m):=s.sublist G4
theorem ZE:Af k (KN P m)=if Km P k=true then Af k m else none:=lH (q:=Km P)
theorem ARZ(s:Sorted m):KN P (fg m p)=if Km P p.key=true then fg (KN P m) p else KN P m:=by
 split
 ·refine Sorted.ext (IC (KH s p)) (KH (IC s) p) λk=>?_
  rw[ZE,PK s,PK (IC s),ZE]
  grind
 ·refine Sorted.ext (IC (KH s p)) (IC s) λk=>?_
  rw[ZE,ZE,PK s]
  grind
theorem Oo:KN P (p::b)=if Km P p.key=true then p::KN P b else KN P b:=AS
theorem SK: ∀ {b m:List Pr},Sorted m->KN P (cy m b)=cy (KN P m) (KN P b)
 | [],_,_=>rfl
 |p::b,m,s=>by
  show KN P (cy (fg m p) b)=_;rw[SK (KH s p),ARZ s,Oo];split<;>rfl
theorem tv(a b:List Pr):KN P (a++b)=KN P a++KN P b:=OR _ _
theorem eZ(a: ∀p∈b,Km P p.key=false):KN P b= []:=List.filter_eq_nil_iff.2 λp c=>by rw[a p c];decide
theorem ARG(s:Sorted m)(e:p.gone=false)(d: ∀f∈m,aM f.key p.key=true):fg m p=m++ [p]:=by
 have g:Sorted (m++ [p]):=List.pairwise_append.2 ⟨s,P3 _ _,λa h b i=>by rw[List.mem_singleton.1 i];exact d a h⟩;refine Sorted.ext (KH s p) g λk=>?_
 rw[PK s,H7,e,M.LV,M.BB,M.QS];by_cases c:p.key=k
 ·subst c;rw[if_pos rfl,if_pos rfl,M.EI λx j=>M.Lp (d x j)];rfl
 ·rw[if_neg c,if_neg c];cases Af k m<;>rfl
theorem tw(s:Sorted (x::m))(a:p.key=x.key)(c:p.gone=true):fg (x::m) p=m:=by
 rw[rH s,c,if_pos rfl,a];unfold kp;rw[AS,if_neg (by simp)];refine List.filter_eq_self.2 λd e=>?_
 have:=M.Lp ((List.pairwise_cons.1 s).1 d e);simp[Ne.symm this]
end
theorem tx: ∀ {a b:List UInt8},a.length=b.length->a<b-> ∀x e:List UInt8,a++x<b++e
 | [],[],_,c,_,_=>absurd c (P4 _)
 | [],_::_,d,_,_,_=>by cases d
 |_::_,[],d,_,_,_=>by cases d
 |a::p,b::f,d,c,x,e=>by
  cases c with
  |rel c=>exact List.Lex.rel c
  |cons c=>exact List.Lex.cons (tx (by simpa using d) c x e)
theorem ng: ∀(k:Nat) {a b:Nat},b<256^k->a<b->Ia k a<Ia k b
 |0,a,b,c,d=>by simp at c;omega
 |k+1,a,b,c,d=>by
  rw[Ia,Ia];by_cases e:a / 256=b / 256
  ·rw[e];refine wY _ (List.Lex.rel ?_);rw[Qq a,Qq b,UInt8.lt_iff_toNat_lt,Dc (by omega),Dc (by omega)];omega
  ·have f:b / 256<256^k:=by rw[DH] at c;omega
   exact tx (by rw[Ko,Ko]) (ng k f (by omega)) _ _
theorem ANy {k a b:Nat}(e:a<256^k)(f:b<256^k)(d:Ia k a=Ia k b):a=b:=by
 rcases HK a b with c|c|c
 ·have:=ng k f c;rw[d] at this;exact absurd this (P4 _)
 ·exact c
 ·have:=ng k e c;rw[d] at this;exact absurd this (P4 _)
abbrev ni:Nat:=18446744073709551616
theorem ANJ {c a b:Nat}(d:b<ni)(e:a<b):aM (DF c a) (DF c b)=true:=by rw[VY,decide_eq_true_eq];unfold DF;rw[Bh,Bh];exact List.Lex.cons (List.Lex.cons (ng 8 d e))
def Eg(c a:Nat):A2L:=AY (113::0::CL c::Ia 8 a)
theorem Qp:LF ⟨#[]⟩=AY [113,0]:=by unfold LF BQ;rw[show bl (⟨#[]⟩:A2L)= [] from rfl,FX (by decide)];rfl
theorem AP3(c a:Nat):LF ⟨#[]⟩++AY (CL c::Ia 8 a)=Eg c a:=by rw[Qp,Ak];rfl
theorem SE(c a:Nat):(Eg c a).size=11:=by unfold Eg;rw[AP];rfl
theorem Qi(c a:Nat):BM (Eg c a)=113:=by unfold BM Eg;rw[EN];rfl
theorem ANk {c d a b:Nat}(e:c<256)(f:d<256)(g:a<ni)(h:b<ni)(i:Eg c a=Eg d b):c=d/\a=b:=by have:=Ob.1 i;simp only[Ge,true_and] at this;exact⟨Zg e f this.1,ANy g h this.2⟩
theorem tz {a:UInt8}{d:List UInt8}{k:A2L}(c:Km (AY (a::d)) k=true):BM k=a:=by rw[Og,Bh] at c;obtain⟨t,e⟩:=c;unfold BM;show(k.data.toList).headD 0=a;rw[<- e];rfl
theorem nj {a:UInt8}{c:List UInt8}{k:A2L}(d:BM k≠a):Km (AY (a::c)) k=false:=by
 cases e:Km (AY (a::c)) k with
 |false=>rfl
 |true=>exact absurd (tz e) d
theorem X0 {c a e:Nat}(f:c<256)(g:a<256):Km (KI c) (DF a e)=decide (c=a):=by
 rw[DS,Og,decide_eq_true_eq];unfold KI DF;rw[Bh,Bh];constructor
 ·rintro⟨t,d⟩;simp only[CN,CM,Ge,true_and] at d;exact Zg f g d.1
 ·rintro rfl;exact⟨_,rfl⟩
theorem ACM(c a:Nat):Km (LF ⟨#[]⟩) (Eg c a)=true:=by rw[Og,Qp];unfold Eg;rw[Bh,Bh];exact⟨_,rfl⟩
theorem pL {c:Nat}{b:List Pr}(a: ∀p∈b,BM p.key≠116):KN (KI c) b= []:=eZ λp d=>nj (a p d)
theorem pM {b:List Pr}(a: ∀p∈b,BM p.key≠113):KN (LF ⟨#[]⟩) b= []:=by rw[Qp];exact eZ λp c=>nj (a p c)
abbrev dY(wid:A2L):A2L:=gf ⟨1,2,0⟩ wid
def cY(c:Nat)(t:Nat×A2L):Pr:=⟨DF c t.1,dY t.2,false⟩
def gL(c:Nat)(t:Nat×A2L):Pr:=⟨Eg c t.1,dY t.2,false⟩
structure fi (mp:List Pr) (T:Nat->List (Nat×A2L)) (L:List Pr):Prop where
 tr: ∀c,c<3->KN (KI c) mp=(T c).map (cY c)
 li:KN (LF ⟨#[]⟩) mp=L
section
variable {mp b : List Pr} {T : Nat -> List (Nat × A2L)} {L : List Pr}
def dG(T:Nat->List (Nat×A2L))(c:Nat)(l:List (Nat×A2L)):Nat->List (Nat×A2L):=λa=>if a=c then l else T a
theorem fi.made {c f:Nat}{wid:A2L}{a g:List Pr}(l:fi mp T L)(s:Sorted mp)(v:c<3)(i: ∀p∈a++g,BM p.key≠116/\BM p.key≠113)(n:f<ni)(o: ∀t∈T c,t.1<f):fi (cy mp (a++cY c (f,wid)::g)) (dG T c (T c++ [(f,wid)])) L:=by
 have q: ∀d,d<3->KN (KI d) (a++cY c (f,wid)::g)=if d=c then [cY c (f,wid)] else []:=λd j=>by
  rw[tv,Oo,pL (b:=a) λp h=>(i p (by simp[h])).1,pL (b:=g) λp h=>(i p (by simp[h])).1,show Km (KI d) (cY c (f,wid)).key=decide (d=c) from X0 (by omega) (by omega)];by_cases e:d=c<;>simp[e]
 refine⟨λd j=>?_,?_⟩
 ·rw[SK s,q d j,l.tr d j];unfold dG;by_cases e:d=c
  ·subst e;rw[if_pos rfl,if_pos rfl,Bm];refine ARG (by rw[<- l.tr d j];exact IC s) rfl λw r=>?_
   obtain⟨t,u,rfl⟩:=List.mem_map.1 r;exact ANJ n (o t u)
  ·rw[if_neg e,if_neg e];rfl
 ·rw[SK s,pM (b:=a++cY c (f,wid)::g) λp h=>?_]
  ·exact l.li
  ·rcases List.mem_append.1 h with e|e
   ·exact(i p (by simp[e])).2
   ·rcases List.mem_cons.1 e with rfl|e
    ·show BM (DF c f)≠113;rw[SA];decide
    ·exact(i p (by simp[e])).2
theorem fi.oQ {c:Nat}{t:Nat×A2L}{l:List (Nat×A2L)}(f:fi mp T L)(s:Sorted mp)(q:c<3)(g:T c=t::l):fi (cy mp [⟨DF c t.1,⟨#[]⟩,true⟩,gL c t]) (dG T c l) (fg L (gL c t)):=by
 have j: ∀d:List UInt8,Km (AY (113::d)) (DF c t.1)=false:=λd=>nj (by rw[SA];decide)
 have n: ∀d:List UInt8,Km (AY (116::d)) (Eg c t.1)=false:=λd=>nj (by rw[Qi];decide)
 refine⟨λa h=>?_,?_⟩
 ·have o:KN (KI a) [⟨DF c t.1,⟨#[]⟩,true⟩,gL c t]=if a=c then [⟨DF c t.1,⟨#[]⟩,true⟩] else []:=by rw[Oo,Oo,show Km (KI a) (gL c t).key=false from n _,show Km (KI a) (DF c t.1)=decide (a=c) from X0 (by omega) (by omega)];by_cases e:a=c<;>simp[e,KN]
  rw[SK s,o,f.tr a h];unfold dG;by_cases e:a=c
  ·subst e;have i:=IC (P:=KI a) s;rw[f.tr a h,g] at i;rw[if_pos rfl,if_pos rfl,g];exact tw i rfl rfl
  ·rw[if_neg e,if_neg e];rfl
 ·rw[SK s,f.li,Oo,Oo,show Km (LF ⟨#[]⟩) (gL c t).key=true from ACM _ _];rw[show Km (LF ⟨#[]⟩) (DF c t.1)=false from by rw[Qp];exact j _];rfl
theorem fi.take {c d:Nat}{wid v:A2L}{a g:List Pr}(i:fi mp T (gL c (d,wid)::L))(s:Sorted mp)(h: ∀p∈a++g,BM p.key≠116/\BM p.key≠113):fi (cy mp (a++⟨Eg c d,v,true⟩::g)) T L:=by
 refine⟨λl n=>?_,?_⟩
 ·rw[SK s,pL (b:=a++⟨Eg c d,v,true⟩::g) λp e=>?_]
  ·exact i.tr l n
  ·rcases List.mem_append.1 e with f|f
   ·exact(h p (by simp[f])).1
   ·rcases List.mem_cons.1 f with rfl|f
    ·show BM (Eg c d)≠116;rw[Qi];decide
    ·exact(h p (by simp[f])).1
 ·have j:=IC (P:=LF ⟨#[]⟩) s;rw[i.li] at j;rw[SK s,i.li,tv,Oo,show Km (LF ⟨#[]⟩) (Eg c d)=true from ACM _ _,if_pos rfl,pM (b:=a) λp e=>(h p (by simp[e])).2,pM (b:=g) λp e=>(h p (by simp[e])).2];exact tw j rfl rfl
end
abbrev gM:Ev:=⟨3,3,0,2,0,0,false,⟨#[]⟩⟩
theorem ARL:Em gM=true/\gM.data.size<1099511627776:=by refine⟨?_,(by decide:(0:Nat)<1099511627776)⟩;unfold Em Ef KG;rfl
structure iY (C:br) (wid key:A2L) (c num:Nat) (p:ck):Prop where
 wd:C.wid=wid
 ak:C.ak=c
 mt:C.cq=0/\C.bW=3/\C.kept=false
 st:C.st=iX p 0
 more:C.more= [gM]
 err:C.err=0
 now:C.now=0
 conds:C.conds= [⟨key,dY wid,false⟩]
 ar:C.ar= [⟨key,⟨#[]⟩,true⟩,⟨R9 c 5 num,gf ⟨4,3,0⟩ wid,false⟩]
theorem AJw {wid key:A2L}{c num:Nat}{p:ck}(a:Aj wid=true):iY (Dt (Dm (iJ (IA wid c 0 3 false (cK p 0) 0) key (dY wid)) (UG 2)) ⟨4,3,0⟩ 5 num) wid key c num p:=by rw[take_add (p:=p) (t:=0) rfl rfl (by decide:(0:Int)<=0/\(0:Int)<=1099511627776)];have b:Gy ⟨4,3,0⟩ wid=true:=O8 (by decide) a (by decide);unfold Dt;rw[if_neg (by show ¬((0:Int)≠0);decide),if_neg (by show ¬(Gy ⟨4,3,0⟩ wid=false);rw[b];decide)];exact⟨rfl,rfl,⟨rfl,rfl,rfl⟩,rfl,rfl,rfl,rfl,rfl,rfl⟩
section
variable {C : br} {wid key : A2L} {c c' num n0 : Nat} {p : ck} {mp : List Pr} {fl : cG} {an : dk} {ev : List Ev}
theorem iY.beside(e:iY C wid (Eg c' n0) c num p)(f:Aj wid=true):C.beside none:=by
 have j:Gy ⟨4,3,0⟩ wid=true:=O8 (by decide) f (by decide);have b:=Xf (sh:=c) (num:=num) (tick:=5) j;have m:MG c 5 num=R9 c 5 num:=rfl;rw[m] at b;have o:=SE c' n0;have n:=sP (k:=Eg c' n0) (PU (by omega)) (by omega);refine⟨λd a=>?_,λd a=>?_,λd a=>?_⟩<;>rw[e.ar] at a<;>simp only[Gk,IH,or_false] at a<;>rcases a with rfl|rfl
 ·exact n
 ·exact b.1
 ·refine .inl ?_;show BM (Eg c' n0)≠104/\BM (Eg c' n0)≠119/\BM (Eg c' n0)≠114;rw[Qi];decide
 ·exact .inl b.2.1
 ·show BM (Eg c' n0)≠108;rw[Qi];decide
 ·exact b.2.2
theorem iY.close(a:iY C wid key c num p)(b d:Nat):A9 C b d=C:=by
 have e:EH C=false:=by unfold EH;rw[a.st];simp[iX]
 unfold A9 Ee;rw[e];simp[a.st,iX]
theorem ANM(a:De (cK p 0) 3):De (iX p 0) 3:=⟨AD _,AD _,a.steps,a.az,a.aZ,(by decide:(0:Int)<=4/\(4:Int)<=501),a.st,a.waits⟩
theorem iY.la(a:iY C wid (Eg c' n0) c num p)(t:Jk mp fl an)(b:Aj wid=true)(d:fl wid=some ev)(j:Bu ev=cK p 0)(m:C.fits ev)(n:De (cK p 0) 3):lI mp fl C:= {
 wid:=by rw[a.wd];exact b
 fits:=by rw[a.wd,d];exact m
 more:=by rw[a.more];simp
 st:=by rw[a.st];exact(ANM n).up (by omega)
 ok:=λu e=>by
  rw[a.more] at e;rw[List.mem_singleton.1 e];exact ARL
 len:=by rw[a.more,a.ar,a.conds];exact⟨(by decide:1+2<=50),(by decide:1<=50)⟩
 keys:=λv f=>by
  rw[a.conds] at f;rw[List.mem_singleton.1 f];show(Eg c' n0).size<=_;rw[SE];decide
 base:=by obtain⟨o,q,r⟩:=a.mt;rw[a.wd,d];show C.cq=(Bu ev).status/\C.bW=(Bu ev).next/\C.kept=false/\0<C.bW;rw[j,o,q];exact⟨rfl,rfl,r,(by decide:(0:Int)<3)⟩
 cq:=by rw[a.mt.1];decide
 bW:=by rw[a.mt.2.1];decide
 now:=by rw[a.now];decide
 next:=by rw[a.st];exact(by decide:(2:Int)<=4/\(4:Int)<=500)
 err:=a.err
 bes:=a.beside b}
theorem fi.row {T:Nat->List (Nat×A2L)}{L:List Pr}{r:Pr}(a:fi mp T L)(s:Sorted mp)(b:r∈L):Af r.key mp=some r/\Km (LF ⟨#[]⟩) r.key=true:=by
 have h:r∈KN (LF ⟨#[]⟩) mp:=by rw[a.li];exact b
 obtain⟨d,e⟩:=List.mem_filter.1 h;exact⟨s.find d,e⟩
theorem fi.cY {T:Nat->List (Nat×A2L)}{L:List Pr}{t:Nat×A2L}(a:fi mp T L)(s:Sorted mp)(b:c<3)(d:t∈T c):Af (DF c t.1) mp=some (cY c t):=by
 have h:Go.Lf.G.cY c t∈KN (KI c) mp:=by rw[a.tr c b];exact IN d
 exact s.find (List.mem_filter.1 h).1
theorem tA {r:Pr}(h:Af r.key mp=some r)(a:r.gone=false):Bd mp ⟨r.key,r.val,false⟩=true:=by unfold Bd I1;rw[if_neg (by simp),h];simp
theorem lI.iP(C:br): ∀a∈EA C,BM a.key≠116/\BM a.key≠113:=by
 intro a b;unfold EA at b;rcases List.mem_append.1 b with h|h
 ·obtain⟨d,_,rfl⟩:=List.mem_map.1 h;rw[show BM (Om C.wid d).key=104 from Yq _ _];decide
 ·split at h
  ·cases h
  ·rw[List.mem_singleton.1 h,show BM (Ki C.wid)=119 from GH _];decide
end
section
variable {A : aq} {g h : aa} {s k sh i : Nat} {l : List Hs} {mp : List Pr} {O : Nat -> Prop} {y y' : Hs} {fl : cG} {an : dk} {ev : List Ev} {R : A2K} {cb c num n0 : Nat} {z : Nat -> Nat} {x : eE} {C : br} {wid : A2L} {p : ck} {T : Nat -> List (Nat × A2L)} {L : List Pr}
theorem AHO(J:bZ g)(t:CW Uq g h s k (3*k+1) sh l i y' mp O cb z x C)(u:Jk mp fl an)(K: ∀v∈l,∀a,v.u a<=3*k/\v.f a<=k)(M: ∀a,y.u a<=3*k/\y.f a<=k)(d:y.dj y')(N:k+1<=490)(w:iE mp y c)(Q:c<256)(b:iY C wid (Eg c n0) c num p)(S:C.fits ev)(U:Aj wid=true)(B:fl wid=some ev)(V:Bu ev=cK p 0)(W:De (cK p 0) 3)(D:fi mp T (gL c (n0,wid)::L))
  (X: ∀f e o,EW g f s (k+1) sh (l.set i e) o (dB fl wid (ev++ [gM])) an O->e.p=y.p/\e.name=y.name/\e.f=y.f->(∀ m,y.u m<=e.u m)->(∀ a r E,Bd o (Ff a r E)=Bd mp (Ff a r E))->Bu (ev++ [gM])=iX p 0->fi o T L->Mod (bB g O) h f->R (J6 J9 0) f):
  AA A P Cz #[Am cb] h R:=by
 have Y:=b.la u U B V S W;have F:=t.w.sorted;have row:=D.row F (r:=gL c (n0,wid)) (by simp);refine EW.jn (k':=k+1) J t u K (λa=>by have:=M a;have:=d.u a;rw[d.f];omega) (by omega) (by omega) N (by rw[b.ak];unfold iE at w ⊢;rw[d.f,d.name];exact w) (by rw[b.ak];exact Q) Y (λ_ f e ad ae Z G H j aa q ab=>?_) λac=>?_
 ·rw[b.close] at G;subst G;rw[b.wd,B,HI,b.more] at H q;rw[b.st] at q;refine X f e _ H ⟨j.p.trans d.p,j.name.trans d.name,j.f.trans d.f⟩ (λm=>by have:=d.u m;have:=j.u m;omega) aa q ?_ ab;rw[b.ar];refine D.take F λI n=>?_
  rcases List.mem_append.1 n with h|h
  ·exact lI.iP Z I h
  ·rw[List.mem_singleton.1 h,show BM (R9 c 5 num)=109 from xo _ _ _];decide
 ·refine absurd (λI n=>?_) ac;rw[b.conds] at n;rw[List.mem_singleton.1 n];exact tA (r:=gL c (n0,wid)) row.1 rfl
end
abbrev Tq:=Nat×Nat×A2L
abbrev TT:=Nat->List (Nat×A2L)
def MM(a:Tq):Pr:=gL a.1 a.2
def iZ(L:List Tq)(x:Tq):List Tq:=L.take (aO (MM x).key (L.map MM))++x::L.drop (aO (MM x).key (L.map MM))
theorem ANe(L:List Tq)(x:Tq):(iZ L x).Perm (x::L):=by have:=Hh (a:=x) (l₁:=L.take (aO (MM x).key (L.map MM))) (l₂:=L.drop (aO (MM x).key (L.map MM)));rw[DA] at this;exact this
theorem AP4 {L:List Tq}{x:Tq}(s:Sorted (L.map MM))(b: ∀a∈L,(MM a).key≠(MM x).key):fg (L.map MM) (MM x)=(iZ L x).map MM:=by
 have c:BC (MM x).key (L.map MM)=false:=by
  cases d:BC (MM x).key (L.map MM) with
  |false=>rfl
  |true=>
   obtain⟨a,j,e⟩:=(zn (MM x).key s).1 d;obtain⟨f,g⟩:=M.MO e;obtain⟨h,i,rfl⟩:=List.mem_map.1 g;exact absurd f (b h i)
 unfold fg iZ;rw[c];simp only[Cp,if_false,Bm,Pa,B9,List.map_drop,A3];rfl
def Tt(T:TT)(L:List Tq):List Tq:=L++((T 0).map (λt=>(0,t))++((T 1).map (λt=>(1,t))++(T 2).map λt=>(2,t)))
theorem Y0 {T:TT}{c:Nat}{l:List (Nat×A2L)}:dG T c l c=l:=if_pos rfl
theorem tB {c:Nat}{t:Nat×A2L}{T:TT}{l:List (Nat×A2L)}{L:List Tq}(g:c<3)(d:T c=t::l):(Tt T L).Perm ((c,t)::Tt (dG T c l) L):=by
 have a: ∀b,b≠c->dG T c l b=T b:=λb f=>if_neg f
 have e:dG T c l c=l:=Y0;unfold Tt;rcases(by omega:c=0\/c=1\/c=2) with rfl|rfl|rfl
 ·rw[a 1 (by decide),a 2 (by decide),e,d,B9,CN];exact Hh
 ·rw[a 0 (by decide),a 2 (by decide),e,d,B9,CN];rw[<- A3,<-A3];exact Hh
 ·rw[a 0 (by decide),a 1 (by decide),e,d,B9];rw[<- A3,<-A3,<-A3,<-A3];exact Hh
theorem APT {c:Nat}{t:Nat×A2L}{T:TT}{l:List (Nat×A2L)}{L:List Tq}(a:c<3)(b:T c=t::l):(Tt (dG T c l) (iZ L (c,t))).Perm (Tt T L):=by refine List.Perm.trans ?_ (tB (L:=L) a b).symm;unfold Tt;exact(ANe L (c,t)).append_right _
theorem AQJ {c:Nat}{t:Nat×A2L}{T:TT}{L:List Tq}(f:c<3):(Tt (dG T c (T c++ [t])) L).Perm ((c,t)::Tt T L):=by
 have a: ∀b,b≠c->dG T c (T c++ [t]) b=T b:=λb e=>if_neg e
 have d:dG T c (T c++ [t]) c=T c++ [t]:=Y0;unfold Tt;rcases(by omega:c=0\/c=1\/c=2) with rfl|rfl|rfl
 ·rw[a 1 (by decide),a 2 (by decide),d,Bm,A3,<-A3 L];refine List.Perm.trans Hh ?_;rw[A3];exact GW _
 ·rw[a 0 (by decide),a 2 (by decide),d,Bm,A3,<-A3,<-A3];refine List.Perm.trans Hh ?_;rw[A3,A3];exact GW _
 ·rw[a 0 (by decide),a 1 (by decide),d,Bm,<-A3,<-A3,<-A3];refine List.Perm.trans Hh ?_;rw[show([]:List (Nat×A2L)).map (λt=>(2,t))= [] from rfl,AM,A3,A3]
theorem tC {c:Nat}{t:Nat×A2L}{T:TT}{L:List Tq}(b:c<3)(a:t∈T c):(c,t)∈Tt T L:=by unfold Tt;rcases(by omega:c=0\/c=1\/c=2) with rfl|rfl|rfl<;>simp[a]
theorem pN {a:Tq}{T:TT}{L:List Tq}(b:a∈L):a∈Tt T L:=Hc _ b
def Started(b:cG)(wid:A2L):Prop:=Aj wid=true/\ ∃p a,b wid=some a/\Bu a=cK p 0
structure Ur (fl:cG) (y:Hs) (l:List Tq):Prop where
 one: ∀q∈l,q.1<3/\Av q.2.2 3=q.1/\q.2.1<=16777216+y.u q.1/\Started fl q.2.2
 keys:(l.map λq=>(q.1,q.2.1)).Nodup
 iq:(l.map λq=>q.2.2).Nodup
theorem Ur.perm {c:cG}{d:Hs}{l e:List Tq}(a:Ur c d l)(b:e.Perm l):Ur c d e:=
 ⟨λf g=>a.one f (b.mem_iff.1 g),(b.map _).nodup_iff.2 a.keys,(b.map _).nodup_iff.2 a.iq⟩
theorem Ur.aj {b:cG}{c d:Hs}{l:List Tq}(a:Ur b c l)(f: ∀m,c.u m<=d.u m):Ur b d l:=
 ⟨λe g=>by obtain⟨h,i,j,k⟩:=a.one e g;exact⟨h,i,AE j (by have:=f e.1;omega),k⟩,a.keys,a.iq⟩
theorem Ur.tail {c:cG}{d:Hs}{q:Tq}{l:List Tq}{x:List Ev}(a:Ur c d (q::l)):Ur (dB c q.2.2 x) d l:=by
 have e:=List.nodup_cons.1 a.iq;refine⟨λb f=>?_,(List.nodup_cons.1 a.keys).2,e.2⟩;obtain⟨g,h,i,j,p,k,m,n⟩:=a.one b (AG _ f);have ne:b.2.2≠q.2.2:=λo=>e.1 (List.mem_map.2 ⟨b,f,o⟩)
 exact⟨g,h,i,j,p,k,by rw[Pt ne];exact m,n⟩
theorem Ur.more {f:cG}{g h:Hs}{q:Tq}{l:List Tq}{x:List Ev}{p:ck}(d:Ur f g l)(o: ∀m,g.u m<=h.u m)(k:q.1<3/\Av q.2.2 3=q.1)(r:16777216+g.u q.1<q.2.1/\q.2.1<=16777216+h.u q.1)(s:Aj q.2.2=true)(t:f q.2.2=none)(u:Bu x=cK p 0):Ur (dB f q.2.2 x) h (q::l):=by
 have ne: ∀a∈l,a.2.2≠q.2.2:=λa b c=>by
  obtain⟨_,_,_,_,p,n,e,_⟩:=d.one a b;rw[c,t] at e;cases e
 refine⟨λa b=>?_,List.nodup_cons.2 ⟨λi=>?_,d.keys⟩,List.nodup_cons.2 ⟨λi=>?_,d.iq⟩⟩
 ·rcases List.mem_cons.1 b with rfl|b
  ·exact⟨k.1,k.2,r.2,s,p,x,Ju,u⟩
  ·obtain⟨v,w,j,y,p,n,e,z⟩:=d.one a b;exact⟨v,w,AE j (by have:=o a.1;omega),y,p,n,by rw[Pt (ne a b)];exact e,z⟩
 ·obtain⟨a,b,c⟩:=List.mem_map.1 i;have j:=(d.one a b).2.2.1;simp only[LR] at c;rw[c.1,c.2] at j;omega
 ·obtain⟨a,b,c⟩:=List.mem_map.1 i;exact ne a b c
theorem Ur.fresh {e:cG}{b:Hs}{x:Tq}{l:List Tq}(c:Ur e b (x::l))(i:b.u x.1<1000000){a:Tq}(d:a∈l)(j:b.u a.1<1000000):(MM a).key≠(MM x).key:=λf=>by
 obtain⟨k,m,n,o⟩:=c.one x (Cl);obtain⟨p,q,r,s⟩:=c.one a (AG _ d);obtain⟨g,h⟩:=ANk (by omega) (by omega) (by show a.2.1<18446744073709551616;omega) (by show x.2.1<18446744073709551616;omega) f;refine(List.nodup_cons.1 c.keys).1 (List.mem_map.2 ⟨a,d,?_⟩);show(a.1,a.2.1)=(x.1,x.2.1);rw[g,h]
section
variable {A : aq} {g h : aa} {s k : Nat} {y y0 y1 : Hs} {mp : List Pr} {fl : cG} {an : dk} {O : Nat -> Prop} {R : A2K} {T : TT} {L : List Tq}
theorem ARf {a:Nat}(t:bZ g)(b:EW g h s a 3 [y,y1] mp (λ_=>none) (λ_=>none) O)(u:a<3)(e:jM mp y a)(v:Aj y.name=true)
  (w: ∀c f,EW g c s (a+1) 3 [y.mI a 1,y1] f (λ_=>none) (λ_=>none) O->jM f (y.mI a 1) (a+1)->Mod (bB g O) h c->f=cy mp [⟨CE a,Jq 1 y.name,false⟩]->R (J1 #[J6 J9 1,J6 J9 0]) c):
  AA A P FJ #[Am y.p,J6 J9 (a:Int)] h R:=by
 have F:Uq.C=32000:=rfl;have hA:Uq.A=1600:=rfl;have d:=b.w.sorted;refine b.w.acquire (i:=0) (x:=y) (r:=0) (nm:=⟨#[]⟩) t rfl u ((e.ir a (A0 _)).2 (by omega)) (by decide) (by omega) (by omega) (by omega) (by omega) λc B C=>?_
 refine w c _ ⟨B.put (A0 _) (by omega) (by omega) (by omega),b.m.aR d (λp D=>?_),λz j m=>?_⟩ ⟨λm E=>?_,λm E=>?_⟩ C rfl
 ·rw[List.mem_singleton.1 D];show BM (CE a)≠104/\BM (CE a)≠119/\BM (CE a)≠114;rw[Rn];decide
 ·rcases List.mem_cons.1 j with rfl|j
  ·have:=b.all y (by simp) m;show dA y.u a 0 m<=_/\dA y.f a 1 m<=_;unfold dA;constructor<;>split<;>omega
  ·have:=b.all z (AG _ j) m;omega
 ·show dA y.f a 1 m=1/\_;unfold dA;by_cases l:m=a
  ·subst l;rw[if_pos rfl];exact⟨rfl,GJ.laid d (by decide) (by decide) v⟩
  ·rw[if_neg l];obtain⟨n,o⟩:=e.has m (by omega);exact⟨n,o.other d λq=>l (zA (by omega) (by omega) q).symm⟩
 ·show dA y.f a 1 m=0/\_;unfold dA;rw[if_neg (by omega)];obtain⟨n,o⟩:=e.ir m (by omega);exact⟨n,λh=>(o h).other d λq=>by have:=zA (by omega) h q;omega⟩
structure QW (g h:aa) (s k:Nat) (y0 y1:Hs) (mp:List Pr) (fl:cG) (an:dk) (O:Nat->Prop) (T:TT) (L:List Tq):Prop where
 w:EW g h s k 3 [y0,y1] mp fl an O
 q:fi mp T (L.map MM)
 own: ∀n,n<3->iE mp y0 n/\y0.f n=1
 ok:Ur fl y0 (Tt T L)
theorem QW.dI {b:aa}{O':Nat->Prop}(a:QW g h s k y0 y1 mp fl an O T L)(d:Mod O h b)(e: ∀c,O' c->O c\/(h.size<=c/\c<b.size)):QW g b s k y0 y1 mp fl an O' T L:=⟨a.w.own d e,a.q,a.own,a.ok⟩
theorem QW.on {b:aa}(a:QW g h s k y0 y1 mp fl an O T L)(x:Ext h b):QW g b s k y0 y1 mp fl an O T L:=⟨a.w.on x,a.q,a.own,a.ok⟩
theorem QW.less {O':Nat->Prop}(a:QW g h s k y0 y1 mp fl an O T L)(b: ∀c,O' c->O c):QW g h s k y0 y1 mp fl an O' T L:=⟨a.w.less b,a.q,a.own,a.ok⟩
theorem QW.up {b:Nat}(a:QW g h s k y0 y1 mp fl an O T L)(c:k<=b)(d:b<=500):QW g h s b y0 y1 mp fl an O T L:=⟨a.w.up c d,a.q,a.own,a.ok⟩
theorem QW.ub(b:QW g h s k y0 y1 mp fl an O T L)(a:Nat):y0.u a<=3*k/\y0.f a<=k:=b.w.all y0 (by simp) a
theorem QW.start {x:cu}{p:ck}{J:J0}(K:bZ g)(a:QW g h s k y0 y1 mp fl an O T L)(M:k+1<=490)(r:x.kind=1)(V:View QT h x.steps p.steps)(N:x.az=p.az)(Q:p.az=0)(len:p.steps.length<=1099511627776)(z:QY x p=0)(S:an x.bz=none)(f:fl x.wid=none)(j:Aj x.wid=true)
  (U: ∀d b B C,QW g d s (k+1) b y1 B (dB fl x.wid [⟨1,1,0,0,0,0,false,AY (Ci p)⟩,⟨2,2,0,0,0,0,false,⟨#[]⟩⟩]) (dB an x.bz (MC x p,0,3)) O (dG T (Av x.wid 3) (T (Av x.wid 3)++ [(C,x.wid)])) L->b.p=y0.p->Mod (bB g O) h d->(∀ q∈Tt T L,q.1=Av x.wid 3->q.2.1<C)->R (dX 0 0 3).v d):
  AA A P Ea #[Am y0.p,J,J6 J9 0,x.v] h R:=by
 have c:=XE x.wid (n:=3) (by decide);have W:=a.w.w.sorted;have ub:=a.ub (Av x.wid 3);refine a.w.ik (i:=0) K rfl M (a.own _ c).1 V N len (by decide) λd b B aj ak D st nx w e X Y Z aa=>?_
 obtain⟨rfl,rfl,rfl,rfl,rfl,ab⟩:=Z.start r z S f (by decide);obtain⟨ac,al,am,ao⟩:=Ze z;rcases aa with rfl|⟨n0,n1,n2,l,E,ap,rfl,-,F⟩
 ·exfalso;have G:=w.m.fR x.wid j;rw[a.w.m.fR x.wid j,f,Ju] at G;cases G
 rw[f] at E F;obtain⟨ad,v,w2⟩:=AI3 (n:=Av x.wid 3) (n0:=n0) (n1:=n1) (n2:=n2) (now:=0) r (ac r) j (by decide) Q;rw[<- E] at w2;obtain⟨u,aq,ar,ae⟩:=F ad;rw[(a.own _ c).2,IS] at ae;have H: ∀q∈Tt T L,q.1=Av x.wid 3->q.2.1<n1:=λq o D=>by
  have:=(a.ok.one q o).2.2.1;rw[D] at this;omega
 have au:=(w.all b (Cl) (Av x.wid 3)).1;refine U d b _ n1 ⟨w,?_,λn af=>?_,?_⟩ e.p Y H
 ·have ag:EA l++l.ar=(EA l++ [⟨Kk x.bz,v,false⟩])++cY (Av x.wid 3) (n1,x.wid):: []:=by rw[w2,A3];rfl
  rw[ag];refine a.q.made W c (λq o=>?_) (by show n1<18446744073709551616;omega) λt ah=>H _ (tC c ah) rfl
  rw[AM] at o;rcases List.mem_append.1 o with h|h
  ·exact lI.iP l q h
  ·rw[List.mem_singleton.1 h];show BM (Kk x.bz)≠116/\BM (Kk x.bz)≠113;rw[LM];decide
 ·obtain⟨I,ai⟩:=a.own n af;refine⟨?_,by rw[e.f];exact ai⟩;unfold iE at I ⊢;rw[e.f,e.name,X];exact I
 ·refine Ur.perm ?_ (AQJ (t:=(n1,x.wid)) (L:=L) c);exact a.ok.more (q:=(Av x.wid 3,n1,x.wid)) (λm=>(e.u m).1) ⟨c,rfl⟩ ⟨by show 16777216+y0.u (Av x.wid 3)<n1;omega,by show n1<=16777216+b.u (Av x.wid 3);omega⟩ j f ab
end
def kI(c:Nat)(l:List (Nat×A2L))(L:List Tq):List Tq:=l.foldl (λL t=>iZ L (c,t)) L
theorem AM4 {c:Nat}{l:List (Nat×A2L)}{L:List Tq}{t:Nat×A2L}:kI c (l++ [t]) L=iZ (kI c l L) (c,t):=by unfold kI;rw[Hi];rfl
theorem ARi {T:TT}{c:Nat}{l a:List (Nat×A2L)}:dG (dG T c l) c a=dG T c a:=by funext b;unfold dG;split<;>rfl
theorem AO4 {T:TT}{c:Nat}:dG T c (T c)=T:=by
 funext b;unfold dG;split
 ·rename_i a;rw[a]
 ·rfl
theorem AHW {a:List Ev}{p:ck}(c:R3 a)(d:Bu a=cK p 0):a.length=2/\De (cK p 0) 3:=by
 have b:=c.next.1;rw[d] at b;have b:(3:Int)=a.length+1:=b;have e:a.length=2:=by omega
 have f:=UV De.zero c.ok;rw[d,e] at f;exact⟨e,f.up (by omega)⟩
section
variable {A : aq} {g h : aa} {s k : Nat} {y0 y1 : Hs} {mp : List Pr} {fl : cG} {an : dk} {O : Nat -> Prop} {R : A2K} {T : TT} {L : List Tq}
theorem ARd {wid:A2L}{c v:Nat}{G:List Ev}{p:ck}{I a b J:Sl}(E:bZ g)(w:QW g h s k y0 y1 mp fl an (λc=>O c\/Tv (cK p 0) a b J c) T ((c,v,wid)::L))(cn:k+1<=490)(V:View dS h I G)(a1: ∀c,I.ah=some c->O c)(a2:JO h (cK p 0) a b J)(no: ∀c,Tv (cK p 0) a b J c-> ¬O c)(aD:fl wid=some G)(aE:Bu G=cK p 0)
  (bs: ∀B a3 ar a4,QW g B s (k+1) a3 y1 ar (dB fl wid (G++ [gM])) an O T L->a3.p=y0.p->Mod (bB g O) h B->a4.len=3->R (J1 #[(⟨0,0,0,⟨1,wid,3,0⟩,⟨#[]⟩,a4⟩:bg).v,J3 true]) B):
  AA A P Rb #[Am y0.p,(⟨wid,(c:Int),⟨0,3,false⟩,I,(cK p 0).V a b J⟩:bS).v,(⟨1,wid,2,0⟩:cm).v,.agg #[J7 (Eg c v),J7 (dY wid),J3 false],J6 J9 0] h R:=by
 obtain⟨bt,co,-,aG,-⟩:=w.ok.one (c,v,wid) (pN (by simp));obtain⟨bu,a5⟩:=AHW (w.w.m.dE _ _ aD) aE;have cp:Uq.C=32000:=rfl;have ub:=w.ub c;have cq:=FK aG;refine AEP ?_;unfold Yl;refine ao.mk λaH _ au bv W=>ao.mk λbw _ aI a6 cr=>ao.mk λbx _ aJ aK cs=>ao.mk λad _ a7 av ct=>?_
 have ag:Ext h ad:=((bv.trans a6).trans aK).trans av;have au:=(a6.trans (aK.trans av)).ah au λh=>h
 have aI:=(aK.trans av).ah aI λh=>h
 have aJ:=av.ah aJ λh=>h
 generalize cu:h.size=aw at*
 generalize cv:aH.size=bz at*
 generalize cw:bw.size=cx at*
 generalize cy:bx.size=cz at*
 have cB:=Ai a7;refine Fp.mk (⟨wid,(c:Int),⟨0,3,false⟩,I,(cK p 0).V a b J⟩:bS) (OW au) ?_
 let F:Nat->Prop:=λq=>O q\/(h.size<=q/\q<ad.size)
 have aL: ∀q,aw<=q->q<ad.size->F q:=λq cC aH=> .inr ⟨by omega,aH⟩
 have bA: ∀q,Tv (cK p 0) a b J q->q<h.size:=λq d=>a2.lt d
 have cD:=ag.size;refine tZ (l:= [y0,y1]) (i:=0) (y:=y0) (O:=F) (ak:=c) (now:=0) (w.w.w.own ag.mod λq d=>?_) (by simp) (a2.ext ag) (λq d aM=>?_) λcE bC z cF bD N=>⟨_,rfl,?_⟩
 ·rcases d with(h|h)|h
  ·exact .inl (.inl h)
  ·exact .inr h
  ·exact .inl (.inr h)
 ·have:=bA q d;rcases aM with h|h
  ·exact no q d h
  ·omega
 have r:=N.ah au λh=>h
 have o:=N.ah aI λh=>h
 have aN:=N.ah aJ λh=>h
 have u:=N.ah a7 λh=>h
 refine AJ.mk (n:=Eg c v) (AO aN rfl) (AJ.mk (n:=dY wid) (AB aN rfl) (Aa.mk (n:=false) (AB aN rfl) ?_));refine APY bD (by show 0<1000;decide) (by show 0<1000;decide) λcG cH cI bE X=>⟨rfl,?_⟩
 have aR: ∀ {q:Nat} {a8:Obj} {B M:aa},B[q]? =some a8->aw<=q->q<ad.size->Mod (bB g F) B M->M[q]? =some a8:=λbF bG bH m=>bB.aR m bF (aL _ bG bH)
 have r:=aR r (by omega) (by omega) X;have o:=aR o (by omega) (by omega) X;have u:=aR u (by omega) (by omega) X;refine Fp.mk (⟨wid,(c:Int),⟨0,3,false⟩,I,(cK p 0).V a b J⟩:bS) (OW r) (Iq.mk (⟨1,wid,2,0⟩:cm) (Cu o rfl) ?_);refine tt (f:=(⟨wid,(c:Int),⟨0,3,false⟩,I,(cK p 0).V a b J⟩:bS)) (t:=⟨1,wid,2,0⟩) rfl λcJ Q=>⟨_,_,rfl,?_⟩
 have r:=Q.ah r λh=>h
 have o:=Q.ah o λh=>h
 have u:=Q.ah u λh=>h
 have bI:=bE.on Q;refine ai.mk λK bJ=>af.no rfl (AC.mk (n:=1) (AO o rfl) (af.yes rfl (AC.mk (n:=2) (AB o rfl) ?_)))
 refine ZK (n:=3) (e:=UG 2) bI a5 (by decide) (by show 0<1099511627776;decide) (by show 0<1000;decide) λcL cM cN a9 Y=>⟨rfl,?_⟩
 have r:=aR r (by omega) (by omega) Y;have o:=aR o (by omega) (by omega) Y;have u:=aR u (by omega) (by omega) Y;have ba:=take_add (C:=iJ (IA wid c 0 3 false (cK p 0) 0) (Eg c v) (dY wid)) (p:=p) (t:=0) rfl rfl (by decide:(0:Int)<=0/\(0:Int)<=1099511627776);have bb:(Dm (iJ (IA wid c 0 3 false (cK p 0) 0) (Eg c v) (dY wid)) (UG 2)).st=iX p 0:=by rw[ba]
 have bK:Sj (Dm (iJ (IA wid c 0 3 false (cK p 0) 0) (Eg c v) (dY wid)) (UG 2))=3:=by unfold Sj;rw[bb];rfl
 refine u0 a9 (by rw[bb];exact(by decide:(0:Int)<=4/\(4:Int)<=501)) ⟨_,rfl,?_⟩;rw[bK];refine ae.bL (j:=2) (dH:=(⟨1,wid,3,0⟩:cm).c) o (of_decide_eq_true rfl) rfl λcO bc ah cP=>AC.mk (n:=3) (AB bc rfl) ?_
 have r:=ah.ah r (by omega);have u:=ah.ah u (by omega);have bL:=a9.wider (O':=F) (ah.aj λq _ d=>by subst d;exact aL _ (by omega) (by omega)) λq d=> .inl d
 rw[show J8 J9 ((0:Int)+5)=5 from by decide];have ax:(Dm (iJ (IA wid c 0 3 false (cK p 0) 0) (Eg c v) (dY wid)) (UG 2)).ak=c/\(Dm (iJ (IA wid c 0 3 false (cK p 0) 0) (Eg c v) (dY wid)) (UG 2)).ar.length=1:=by rw[ba];exact⟨rfl,rfl⟩
 refine pW (t:=⟨4,⟨#[]⟩,3,0⟩) (tick:=5) bL (by rw[ax.1];omega) (by rw[ax.1];omega) (by rw[ax.1];omega) (by omega) (by omega) (by rw[ax.2];decide) (by decide) λbM bN bO bP num aO bQ cQ Z=>⟨rfl,bJ _ _ ?_⟩
 have r:=aR r (by omega) (by omega) Z;have o:=aR bc (by omega) (by omega) Z;have u:=aR u (by omega) (by omega) Z;have bR:=AJw (key:=Eg c v) (c:=c) (num:=num) (p:=p) aG;have bT:(Dt (Dm (iJ (IA wid c 0 3 false (cK p 0) 0) (Eg c v) (dY wid)) (UG 2)) ⟨4,3,0⟩ 5 num).fits G:=VA (PI (by
  show Eo TA (G++ [])=some (cK p 0);rw[AM];exact(w.w.m.dE _ _ aD).ok.trans (congrArg some aE)))
 have aO:CW Uq g bM s k (3*k+1) 3 [y0,y1] 0 bP mp F bC bN bO (Dt (Dm (iJ (IA wid c 0 3 false (cK p 0) 0) (Eg c v) (dY wid)) (UG 2)) ⟨4,3,0⟩ 5 num):=aO;refine AHO E aO w.w.m w.w.all w.ub bQ (by omega) (w.own c bt).1 (by omega) bR bT aG aD aE a5 w.q λS bd ar be ay bU bV js bW ab=>⟨_,rfl,af.no rfl (af.no rfl ?_)⟩
 have r:=aR r (by omega) (by omega) ab;have o:=aR o (by omega) (by omega) ab;have u:=aR u (by omega) (by omega) ab;have cR:ad.size<=S.size:=by have:=N.size;have:=X.size;have:=Q.size;have:=Y.size;have:=Z.size;have:=ab.size;omega
 have bX:QW g S s (k+1) bd y1 ar (dB fl wid (G++ [gM])) an F T L:=⟨be,bW,λn bY=>by
  obtain⟨bf,b0⟩:=w.own n bY;refine⟨?_,by rw[ay.2.2];exact b0⟩;unfold iE at bf ⊢;rw[ay.2.2,ay.2.1,bV];exact bf,(Ur.tail (q:=(c,v,wid)) (l:=Tt T L) w.ok).aj bU⟩
 have aP:=be.m.dE wid _ Ju;have bh:View dS S I G:=by
  have H: ∀ {B M:aa},Mod (bB g F) B M->Mod (λq=>bB g F q\/q=bz) B M:=λm=>m.aj λq _ d=> .inl d
  refine((V.ext ag).ext N).dv ((H X).trans (Q.mod.trans ((H Y).trans ((ah.aj λq _ d=> .inr d).trans ((H Z).trans (H ab)))))) λ_ q d az=>?_
  have:=(w.w.w.out (.inl (a1 q d))).1;rcases az with az|az
  ·exact az.2 (.inl (a1 q d))
  ·omega
 refine Iq.mk (⟨1,wid,3,0⟩:cm) (Cu o rfl) (tj (x:=⟨0,0,0,⟨1,wid,3,0⟩,⟨#[]⟩,⟨none,0,0⟩⟩) λaj aQ U=>?_);have ac:=U.ah r λh=>h
 have aA:=U.ah o λh=>h
 have cS:=U.ah u λh=>h
 refine ai.mk λcT b1=>AC.mk (n:=1) (AO aA rfl) (af.yes rfl (ai.mk λb2 b3=>?_))
 have fin: ∀(al:aa) (sl:Sl),Ext S al->al[S.size]? =some (J2 (⟨0,0,0,⟨1,wid,3,0⟩,⟨#[]⟩,sl⟩:bg).c Ab (0,0))->View dS al sl (G++ [gM])->b2 () al:=λal sl bi aS bj=>by
  refine b3 _ _ (AZ.mk (s:=sl) (AB aS rfl) (tU bj aP.len (λe b4=>?_) aP.ok λcU cV cW cX aC cY cZ=>Gl.mk _ ⟨_,_,rfl,ao.mk λc0 _ b5 bk c1=>aF.mk b5 (A0 12) λb6 c2 bm c3=>af.no rfl (b1 _ _ ?_)⟩))
  ·obtain⟨i,b7⟩:=F2 b4;have:=VF (aP.next.2 i e b7).2;omega
  have aT:Ext S b6:=(bi.trans (aC.trans bk)).more bm λq d=>by subst d;exact(bi.trans aC).size
  have c4:=Ai aS;have b8:=bm.ah ((aC.trans bk).ah aS λh=>h) (by have:=aC.size;omega);have b9:=aT.ah u λh=>h
  refine Dq.mk (⟨0,0,0,⟨1,wid,3,0⟩,⟨#[]⟩,sl⟩:bg) (Kr b8) (aF.mk b9 (A0 9) λbn bo bp c5=>?_);rw[KP] at bo;refine Dq.mk (⟨0,0,0,⟨1,wid,3,0⟩,⟨#[]⟩,sl⟩:bg) (Kr bo) ?_;have ca:=bX.dI (O':=F) (aT.mod.trans (bp.aj λq _ d=>by subst d;exact aL _ (by omega) (by omega))) λq d=> .inl d
  refine bs bn bd ar sl (ca.less λq d=> .inl d) ay.1 ?_ (by rw[bj.len,A1,bu];rfl);have H: ∀ {B M:aa},Mod (bB g F) B M->Mod (λq=>bB g O q\/aw<=q) B M:=λm=>m.aj λq _ d=> .inl (bB.less d λq aM=> .inl aM)
  have cb:Mod (λq=>bB g O q\/aw<=q) h bn:=ag.mod.trans (N.mod.trans ((H X).trans (Q.mod.trans ((H Y).trans ((ah.aj λq _ d=> .inr (by omega)).trans ((H Z).trans ((H ab).trans (aT.mod.trans (bp.aj λq _ d=> .inr (by omega))))))))));exact cb.aj λq cc d=>d.elim id λh=>absurd cc (by omega)
 have c6:S.size<aj.size:=Ai aQ;refine AZ.mk (s:=I) (AB ac rfl) (AC.mk (n:=3) (AB aA rfl) (AC.mk (n:=2) (by rw[add_add];exact AB ac rfl) ⟨?_,?_⟩))
 ·refine tu (bh.ext U) (by omega) λaU cd ce bq D=>⟨_,rfl,by rw[add_add];exact AB (D.ah ac λh=>h) rfl,AB (D.ah aA λh=>h) rfl,?_⟩
  refine ao.jq (λB cf=>AB (cf.ah (D.ah ac λh=>h) λh=>h) rfl) ?_;refine ao.aY (E:=dS) (x:=gM) (s:=aU) rfl mu ce (by omega) (by simp only[maxLen];omega) λW aV aW aX aY _=>?_
  have am:Ext aj aV:=D.more aX bq;refine ae.bL (j:=8) (dH:=(⟨0,0,0,⟨1,wid,3,0⟩,⟨#[]⟩,W⟩:bg).c) (am.ah aQ λh=>h) (of_decide_eq_true rfl) rfl λaZ a0 ap cg=>?_
  refine fin aZ W ((U.trans am).more ap λq d=>by subst d;exact A0 _) a0 (aW.view.mod ap λq d e=>?_);rcases aY q d with h|h
  ·have:=bq q h;omega
  ·have:=D.size;omega
 ·refine ao.mk λcd _ ch D c7=>⟨AB (D.ah ac λh=>h) rfl,?_⟩
  have ci:=(bh.ext U).ext D;refine tu ci (by omega) λaU cj cl br aq=>⟨_,rfl,by rw[add_add];exact AB (aq.ah (D.ah ac λh=>h) λh=>h) rfl,AB (aq.ah (D.ah aA λh=>h) λh=>h) rfl,?_⟩
  have src:View dS cj ⟨some ⟨aj.size,0,none⟩,1,1⟩ [gM]:=(Own.lit (E:=dS) (l:= [gM]) (aq.ah ch λh=>h) rfl (by simp[maxLen])).view;refine Fz (E:=dS) (s:=aU) (src:=⟨some ⟨aj.size,0,none⟩,1,1⟩) mu cl src (by simp only[Cd];omega) (by simp only[Cd,maxLen];omega) λW aV aW aX aY _=>?_
  have am:Ext aj aV:=(D.trans aq).more aX λq d=>by have:=br q d;have:=D.size;omega
  refine ae.bL (j:=8) (dH:=(⟨0,0,0,⟨1,wid,3,0⟩,⟨#[]⟩,W⟩:bg).c) (am.ah aQ λh=>h) (of_decide_eq_true rfl) rfl λaZ a0 ap cg=>?_
  refine fin aZ W ((U.trans am).more ap λq d=>by subst d;exact A0 _) a0 (aW.view.mod ap λq d e=>?_);have c8:=D.size;have c9:=aq.size;rcases aY q d with h|h
  ·have:=br q h;omega
  ·omega
end
abbrev PG(b:Int):bg:=⟨b,0,0,⟨0,⟨#[]⟩,0,0⟩,⟨#[]⟩,⟨none,0,0⟩⟩
theorem tE {h:aa}{b:Nat}{d:Int}{K:bg->aa->Prop}(i:h[b]? =some (J2 bg.z.c Ab (0,0)))(j: ∀e,Mod (· =b) h e->K (PG d) e):aF h ⟨b,0,none⟩ (PG d).l λc=>Dq c ⟨b,0,none⟩ λl=>K l c:=
 aF.mk i (A0 9) λc f m n=>Dq.mk (PG d) (Kr (by rw[KP] at f;exact f)) (j c m)
section
variable {A : aq} {g h : aa} {s k : Nat} {y0 y1 : Hs} {mp : List Pr} {fl : cG} {an : dk} {O : Nat -> Prop} {R : A2K} {T : TT} {L : List Tq} {a : Q2}
theorem tF {b:Q2}{i:Int}{name:A2L}(j:b=none\/(name≠⟨#[]⟩/\Aj name=false))(l: ∀e,Ext h e->R (PG 1).v e):AA A P BH #[J5 b,J5 a,J6 J9 i,J7 name] h R:=by
 refine QI ?_;unfold OE;refine ao.mk λd _ m n v=>ai.mk λK o=>?_
 have key:K (true,()) d:=o _ _ (af.yes rfl (tE m λq r=>l q (n.more r λc t=>by subst t;exact A0 _)));cases b with
 |none=>exact af.yes rfl key
 |some p=>
  obtain⟨u,d⟩:=j.resolve_left (by simp);refine af.no rfl (af.yes ?_ (Ep ⟨_,rfl,?_⟩))
  ·cases f:bO name ⟨#[]⟩ with
   |false=>rfl
   |true=>rw[Bw] at f;exact absurd (of_decide_eq_true f) u
  ·rw[d];exact key
theorem tG {p:Q6}{name:A2L}(b:name=⟨#[]⟩\/Aj name=true){K:Bool×Unit->aa->Prop}(d:K (false,()) h):
  af ((some p).isNone) (K (true,()) h) (af (!bO name (⟨#[]⟩:A2L)) (AA A P Bg #[J7 name] h λi j=> ∃e:Bool,i=J3 e/\(K ((!e),()) j)) (K (false,()) h)):=by
 refine af.no rfl ?_;by_cases c:name=⟨#[]⟩
 ·refine af.no ?_ d;rw[Bw,c];rfl
 ·have b:=b.resolve_left c;refine af.yes ?_ (Ep ⟨_,rfl,by rw[b];exact d⟩);cases f:bO name ⟨#[]⟩ with
  |false=>rfl
  |true=>rw[Bw] at f;exact absurd (of_decide_eq_true f) c
theorem tH {p:Int}{name:A2L}{i:Nat}{l:List Hs}{y:Hs}(q:EW g h s k 3 l mp fl an O)(r:l[i]? =some y)(b:name=⟨#[]⟩\/Aj name=true)(t:KN (LF name) mp= [])(u: ∀d,Ext h d->R (PG 200).v d):AA A P BH #[Am y.p,J5 a,J6 J9 p,J7 name] h R:=by
 have I:name.size<=16:=by
  rcases b with h|h
  ·rw[h];decide
  ·exact FK h
 refine QI ?_;unfold OE;refine ao.mk λv _ w e J=>ai.mk λK z=>tG b (z _ _ (af.no rfl ?_))
 refine Loop.rule (λm x B=>m=0/\x=((⟨#[]⟩:A2L),())/\v=B) ?_ ⟨rfl,rfl,rfl⟩;rintro M m _ _ ⟨rfl,rfl,rfl⟩ N;refine ai.mk λQ S=>?_
 have f:=q.on e;refine f.w.store r ⟨_,rfl,pK (by omega) λU j=>⟨_,rfl,?_⟩⟩;have C:=f.on j;refine C.w.scan (by have:=RS (name:=name) (by omega);omega) λps V n W D=>⟨_,_,rfl,af.no rfl ?_⟩
 rw[UW,t] at n;have E:=n.len;refine af.yes (by rw[E];rfl) ?_;have o:=j.trans D;exact tE (o.ah w λh=>h) λF G=>u F ((e.trans o).more G λc H=>by subst H;exact A0 _)
theorem AMb {c n0:Nat}{wid:A2L}(ay:bZ g)(e:QW g h s k y0 y1 mp fl an O T ((c,n0,wid)::L))(az:k+1<=490)
  (aA: ∀E z F ac f,QW g E s (k+1) z y1 F ac an O T L->z.p=y0.p->(∀ B,B≠wid->ac B=fl B)->Mod (bB g O) h E->f.len=3->R (⟨0,0,0,⟨1,wid,3,0⟩,⟨#[]⟩,f⟩:bg).v E):
  AA A P BH #[Am y0.p,J5 a,J6 J9 0,J7 ⟨#[]⟩] h R:=by
 obtain⟨aC,G,-,C,p,aD,t,ad⟩:=e.ok.one (c,n0,wid) (pN (by simp));have C:Aj wid=true:=C;have t:fl wid=some aD:=t;have G:Av wid 3=c:=G;refine QI ?_;unfold OE;refine ao.mk λH _ I j bb=>ai.mk λK aE=>tG (.inl rfl) (aE _ _ (af.no rfl ?_))
 refine Loop.rule (λm x aG=>m=0/\x=((⟨#[]⟩:A2L),())/\H=aG) ?_ ⟨rfl,rfl,rfl⟩;rintro bc m _ _ ⟨rfl,rfl,rfl⟩ bd;refine ai.mk λbe bf=>?_
 have J:=e.on j;refine J.w.w.store (i:=0) rfl ⟨_,rfl,pK (by decide) λbh M=>⟨_,rfl,?_⟩⟩;have aH:=J.on M;refine aH.w.w.scan (by have:=RS (name:=⟨#[]⟩) (by decide);omega) λps aI u bi ae=>⟨_,_,rfl,af.no rfl ?_⟩
 rw[UW,e.q.li] at u;have u:Own BR AR aI ps [MM (c,n0,wid)]:=u;have aJ:ps.len=1:=u.len;refine af.no (by rw[aJ];rfl) (u.view.idx (i:=0) rfl λbj _ aK=>?_);obtain⟨aL,aM,aN⟩:=aK.pair;refine AJ.mk aL (AJ.mk aM (Aa.mk aN (ao.pair λbk aO bm N ag bn=>AJ.mk (n:=Eg c n0) (AO N rfl) ⟨?_,AJ.mk (n:=dY wid) (AB N rfl) ?_⟩)))
 ·rw[SE,max_i64];decide
 have aP:Gy ⟨1,2,0⟩ wid=true:=O8 (by decide) C (by decide);refine tq aP λbo D=>kh.mk _ ⟨_,rfl,ao.mk λbp _ aQ ah bq=>aF.mk aQ (A0 4) λQ aj ak br=>af.no rfl (AJ.mk (n:=wid) (AB aj rfl) ?_)⟩
 have l:Ext H Q:=((((M.trans ae).trans ag).trans D).trans ah).more ak λb d=>by subst d;exact(((M.trans ae).trans ag).trans D).size
 have aR:Ext aO Q:=(D.trans ah).more ak λb d=>by subst d;exact D.size
 have al:=J.on l;refine sN (i:=0) al.w.w rfl al.w.m C t λam aS o q r aT V S fr aU aV=>QZ.mk _ ⟨_,rfl,ao.mk λbs _ aW aX bt=>aF.mk aW (A0 18) λv w aY bu=>af.no rfl ?_⟩
 rw[Zc] at w;rw[ad] at w S;rw[G] at w;have y:Ext am v:=aX.more aY λb d=>by subst d;exact A0 _
 have U:=aT.trans y;have W:=l.trans U;have ap:=j.trans W;have aZ:=S.ext y;have lt: ∀b,Tv (cK p 0) o q r b->Q.size<=b/\b<am.size:=λb d=>⟨fr b (by rcases d with⟨_,h⟩|⟨_,h⟩|⟨_,h⟩<;>simp[h]),S.lt d⟩
 have aq:QW g v s k y0 y1 mp fl an (λb=>(O b\/(h.size<=b/\b<v.size/\ ¬Tv (cK p 0) o q r b))\/Tv (cK p 0) o q r b) T ((c,n0,wid)::L):=e.dI ap.mod λb d=>by
  have bv:=(j.trans l).size;have bw:=y.size;rcases d with(h|h)|h
  ·exact .inl h
  ·exact .inr ⟨h.1,h.2.1⟩
  ·have:=lt b h;exact .inr ⟨by omega,by omega⟩
 have own:=e.own c aC;refine AC.mk (n:=(c:Int)) (AB w rfl) (aq.w.w.holds (i:=0) rfl ⟨_,rfl,af.no (by rw[own.2];rfl) ?_⟩);have X:=(aR.trans U).ah N λh=>h
 have a0:=U.ah aj λh=>h
 refine Fp.mk (⟨wid,(c:Int),⟨0,3,false⟩,aS,(cK p 0).V o q r⟩:bS) (OW w) (Iq.mk (⟨1,wid,2,0⟩:cm) (Cu a0 rfl) (AJ.mk (n:=Eg c n0) (AO X rfl) (AJ.mk (n:=dY wid) (AB X rfl) (Aa.mk (n:=false) (AB X rfl) ?_))));have bx:=e.w.w.on j;refine ARd ay aq az (V.ext y) (λb d=>?_) aZ (λb d Y=>?_) t ad λbz z F f a1 a2 ar a3=>EL.mk _ ⟨_,rfl,tj (x:=⟨0,0,0,⟨1,wid,3,0⟩,⟨#[]⟩,f⟩) λbA a4 Z=>ai.mk λbC a5=>af.yes rfl (a5 _ _ (af.yes rfl ?_))⟩
 ·have bD:=aU b d;have H:=(j.trans l).size;refine .inr ⟨by omega,?_,λaa=>?_⟩
  ·have:=V.mJ (λab=>by
    have:=(e.w.m.dE _ _ t).ne;exact this ab) d
   have:=y.size;omega
  ·have:=aV b b d (by rcases aa with⟨_,h⟩|⟨_,h⟩|⟨_,h⟩<;>simp[h]);omega
 ·have:=lt b d;rcases Y with h|h
  ·have:=(e.w.w.out h).1;have:=(j.trans l).size;omega
  ·exact h.2.2 d
 have au: ∀ {b:Nat},b=h.size->(O b\/(h.size<=b/\b<v.size/\ ¬Tv (cK p 0) o q r b)):=λ{b} ab=>by
  subst ab;refine .inr ⟨A0 _,?_,λaa=>?_⟩
  ·have:=Ai I;have:=W.size;omega
  ·have:=lt _ aa;have:=Ai I;have:=l.size;omega
 have a6:=Z.ah (bB.aR ar (W.ah I λh=>h) (au rfl)) λh=>h
 refine Dq.mk (⟨0,0,0,⟨1,wid,3,0⟩,⟨#[]⟩,f⟩:bg) (Kr a4) (aF.mk a6 (A0 9) λav aw ax bE=>?_);rw[KP] at aw;refine Dq.mk (⟨0,0,0,⟨1,wid,3,0⟩,⟨#[]⟩,f⟩:bg) (Kr aw) ?_;have a7:=a1.dI (O':=λb=>O b\/(h.size<=b/\b<v.size/\ ¬Tv (cK p 0) o q r b)) (Z.mod.trans (ax.aj λb _ d=>au d)) λb d=> .inl d
 refine aA av z F _ f (a7.less λb d=> .inl d) a2 (λB a8=>Pt a8) ?_ a3;have a9:Mod (λb=>bB g O b\/h.size<=b) h av:=ap.mod.trans ((ar.aj λb _ d=> .inl (bB.less d λb Y=> .inl Y)).trans (Z.mod.trans (ax.aj λb _ d=> .inr (by omega))));exact a9.aj λb ba d=>d.elim id λh=>absurd ba (by omega)
end
theorem AK7 {mp b:List Pr}(s:Sorted mp)(h: ∀p∈b,BM p.key≠108)(c d:Nat)(e:A2L):Bd (cy mp b) (Ff c d e)=Bd mp (Ff c d e):=by
 have f:Af (CE c) (cy mp b)=Af (CE c) mp:=KL s λi j l=>h i j ((congrArg BM l).trans (Rn c))
 rw[OH,OH];unfold I1;rw[f]
abbrev kJ(c:Nat)(t:Nat×A2L):List Pr:= [⟨DF c t.1,⟨#[]⟩,true⟩,MM (c,t)]
theorem APa(c:Nat)(t:Nat×A2L): ∀p∈kJ c t,BM p.key=116\/BM p.key=113:=by
 intro p b;simp only[Gk,IH,or_false] at b;rcases b with rfl|rfl
 ·exact .inl (SA _ _)
 ·exact .inr (Qi _ _)
theorem ATt {mp:List Pr}{c:Nat}{t:Nat×A2L}{b:Pr}(f:Bd mp b=true)(i:Aj t.2=true)(j:Af (DF c t.1) mp=some (cY c t)):du mp (b:: [⟨DF c t.1,dY t.2,false⟩]) (kJ c t)=0:=by
 have m:=Ms c t.1;have n:=SE c t.1;have o:=xp (kind:=1) (wid:=t.2) (ref:=2) (turn:=0) (by decide) (FK i) (by decide) (by decide);have l:EX (kJ c t)=0:=pB (by simp) (by simp) λp d=>by
  simp only[Gk,IH,or_false] at d;rcases d with rfl|rfl
  ·exact sP (PU (by omega)) (by omega)
  ·exact OP (k:=Eg c t.1) (v:=lY 1 t.2 2 0) (PU (by omega)) (by omega) (by omega)
 unfold du;rw[if_neg (by simp),if_neg (by rw[l];decide),if_pos];refine List.all_eq_true.2 λq e=>?_
 simp only[Gk,IH,or_false] at e;rcases e with rfl|rfl
 ·exact f
 ·exact tA (r:=cY c t) j rfl
section
variable {A : aq} {g h : aa} {s k : Nat} {y0 y1 : Hs} {mp : List Pr} {fl : cG} {an : dk} {O : Nat -> Prop} {R : A2K} {T : TT} {L : List Tq} {a : Q2}
theorem AOD {b:Int}(c:R (J1 #[J6 J9 0,J6 J9 1]) h):AA A P EF #[J5 none,J5 a,J6 J9 b] h R:=by refine Jp ?_;unfold JY;exact ai.mk λK d=>af.yes rfl (d _ _ (af.yes rfl c))
theorem tI {b:Int}{i:Nat}{l:List Hs}{d:Hs}(j:EW g h s k 3 l mp fl an O)(m:l[i]? =some d)(n:b<0\/3<=b)(e:R (J1 #[J6 J9 0,J6 J9 1]) h):AA A P EF #[Am d.p,J5 a,J6 J9 b] h R:=by
 refine Jp ?_;unfold JY;refine ai.mk λK f=>af.no rfl (af.intro (λc=>f _ _ (af.yes rfl e)) λc=>?_)
 have c: ¬b<0:=of_decide_eq_false c;refine j.w.aE m ⟨_,rfl,f _ _ (af.yes (decide_eq_true ?_) e)⟩;show(3:Int)<=b;omega
theorem AKj {c i:Nat}{l:List Hs}{b:Hs}(d:EW g h s k 3 l mp fl an O)(e:l[i]? =some b)(n:c<3)(f:b.f c=0)(j:R (J1 #[J6 J9 0,J6 J9 170]) h):AA A P EF #[Am b.p,J5 a,J6 J9 (c:Int)] h R:=by
 refine Jp ?_;unfold JY;refine ai.mk λK m=>af.no rfl (af.no (decide_eq_false (by omega)) (d.w.aE e ⟨_,rfl,m _ _ (af.no (decide_eq_false (by show ¬(3:Int)<=(c:Int);omega)) ?_)⟩))
 exact d.w.holds e ⟨_,rfl,af.yes (by rw[f];rfl) j⟩
theorem QW.go {o:aa}{c:Nat}{t:Nat×A2L}{l:List (Nat×A2L)}(b:QW g h s k y0 y1 mp fl an O T L)(i:c<3)(j:T c=t::l)(E:k+1<=490)(v:LW Uq g o s (k+1) (3*k) 3 [y0,y1] (cy mp (kJ c t)) O):QW g o s (k+1) y0 y1 (cy mp (kJ c t)) fl an O (dG T c l) (iZ L (c,t)):=by
 have F:Uq.C=32000:=rfl;have e:=b.w.w.sorted;have q:=APa c t;refine⟨⟨v.put (A0 _) (by omega) (by omega) (by omega),b.w.m.aR e λp m=>?_,λw y n=>by have:=b.w.all w y n;omega⟩,?_,λn z=>?_,b.ok.perm (APT i j)⟩
 ·rcases q p m with d|d<;>rw[d]<;>decide
 ·have f:=b.q.oQ e i j;have r:=IC (P:=LF ⟨#[]⟩) e;rw[b.q.li] at r;have B:=b.ok.perm (tB (L:=L) i j).symm;rw[show fg (L.map MM) (gL c t)=(iZ L (c,t)).map MM from AP4 (x:=(c,t)) r λf C=>B.fresh (by have:=b.ub c;show y0.u c<1000000;omega) (pN C) (by have:=b.ub f.1;omega)] at f;exact f
 ·obtain⟨u,D⟩:=b.own n z;refine⟨?_,D⟩;unfold iE at u ⊢;rw[AK7 e λp m=>by rcases q p m with d|d<;>rw[d]<;>decide];exact u
theorem ARo {c:Nat}(E:bZ g)(j:QW g h s k y0 y1 mp fl an O T L)(r:c<3)(bv:k+8<=490)
  (aI: ∀u G,QW g u s (k+8) y0 y1 G fl an O (dG T c ((T c).drop 8)) (kI c ((T c).take 8) L)->Mod (bB g O) h u->h.size<=u.size->R (J1 #[J6 J9 ((((T c).take 8).length:Nat):Int),J6 J9 0]) u):
  AA A P EF #[Am y0.p,J5 a,J6 J9 (c:Int)] h R:=by
 have bw:Uq.C=32000:=rfl;have hA:Uq.A=1600:=rfl;have own:=j.own c r;refine Jp ?_;unfold JY;refine ai.mk λK aJ=>af.no rfl (af.no (decide_eq_false (by omega)) (j.w.w.aE (i:=0) rfl ⟨_,rfl,aJ _ _ (af.no (decide_eq_false (by show ¬(3:Int)<=(c:Int);omega)) ?_)⟩))
 refine j.w.w.holds (i:=0) rfl ⟨_,rfl,af.no (by rw[own.2];rfl) (j.w.w.store (i:=0) rfl ⟨_,rfl,tn (by omega) λbx H=>⟨_,rfl,?_⟩⟩)⟩;refine(j.on H).w.w.scan (by unfold KI;rw[AP];show 2<=1099511627776;decide) λps o v aK aL=>⟨_,_,rfl,af.no rfl ?_⟩
 rw[UW,j.q.tr c r,<-Pa] at v;have v:Own BR AR o ps (((T c).take 8).map (cY c)):=v;have B:ps.len=((T c).take 8).length:=by rw[v.len,Bs]
 have bz:((T c).take 8).length<=8:=by rw[Ax];omega
 have I:=H.trans aL;have aM:=j.dI (O':=λb=>O b\/(h.size<=b/\b<o.size)) I.mod λb d=>d
 refine Loop.rule (λm x q=> ∃(e:Nat) (G:List Pr),x=((e:Int),())/\m=8-e/\e<=ps.len/\QW g q s (k+e) y0 y1 G fl an (λb=>O b\/(h.size<=b/\b<o.size)) (dG T c ((T c).drop e)) (kI c ((T c).take e) L)/\Mod (bB g λb=>O b\/(h.size<=b/\b<o.size)) o q/\o.size<=q.size) ?_
  ⟨0,mp,rfl,rfl,AD _,by rw[IT,AO4];exact aM,Mod.refl,A0 _⟩
 rintro bA m _ q ⟨e,mp,rfl,rfl,bC,j,J,bD⟩ aN;dsimp only;have aO: ∀ {u:aa},Mod (bB g λb=>O b\/(h.size<=b/\b<o.size)) q u->Mod (bB g O) h u:=λm=>I.mod.trans ((J.trans m).aj λb _ d=>bB.less d λb N=> .inl N)
 refine af.intro (λd=>?_) (λd=>?_);rotate_left
 ·have aP:e=ps.len:=by have:=of_decide_eq_false d;omega
  subst aP;have aQ:(T c).drop ps.len=(T c).drop 8:=by
   rw[B,Ax];rcases Nat.le_total 8 (T c).length with h|h
   ·rw[Fm h]
   ·rw[Mb h,Mn,Pc h]
  have aR:(T c).take ps.len=(T c).take 8:=by
   rw[B,Ax];rcases Nat.le_total 8 (T c).length with h|h
   ·rw[Fm h]
   ·rw[Mb h,BT,AF h]
  rw[aQ,aR] at j;rw[B];exact aI q mp ((j.up (by omega) (by omega)).less λb d=> .inl d) (aO Mod.refl) (by have:=I.size;omega)
 have ah:e<ps.len:=by have:=of_decide_eq_true d;omega
 have Q:e<(T c).length:=by rw[B,Ax] at ah;omega
 obtain⟨t,C⟩: ∃t,(T c)[e]? =some t:=⟨_,A2 Q⟩;have hd:(T c).drop e=t::(T c).drop (e+1):=by rw[E0 Q];rw[A2 Q] at C;cases C;rfl
 have aS:(T c).take (e+1)=(T c).take e++ [t]:=by rw[As,C];rfl
 have S:dG T c ((T c).drop e) c=t::(T c).drop (e+1):=by rw[Y0,hd]
 have aT:(c,t)∈Tt (dG T c ((T c).drop e)) (kI c ((T c).take e) L):=tC r (by rw[S];simp);obtain⟨-,U,-,y,p,aU,W,aV⟩:=j.ok.one _ aT;have y:Aj t.2=true:=y;have W:fl t.2=some aU:=W;have U:Av t.2 3=c:=U;have aW:=j.w.w.sorted;have aX: ∀b,ps.ah=some b->h.size<=b/\b<o.size:=λb d=>⟨by have:=aK b d;have:=H.size;omega,v.lt d⟩
 have aY:View BR q ps (((T c).take 8).map (cY c)):=v.view.mod J λb d aZ=>aZ.2 (.inr (aX b d))
 refine aY.idx (i:=e) (x:=cY c t) (by rw[C2,Fc,if_pos (by omega),C];rfl) λbE _ a0=>?_
 obtain⟨a1,a2,a3⟩:=a0.pair;refine AJ.mk a1 (AJ.mk a2 (Aa.mk a3 (ao.pair λa4 a5 bF aj a6 bG=>AJ.mk (n:=dY t.2) (AB aj rfl) ?_)));have a7:Gy ⟨1,2,0⟩ t.2=true:=O8 (by decide) y (by decide);refine tq a7 λbH ak=>kh.mk _ ⟨_,rfl,ao.mk λbI _ a8 a9 bJ=>aF.mk a8 (A0 4) λal am ba bK=>af.no rfl (AJ.mk (n:=t.2) (AB am rfl) ?_)⟩
 have ap:Ext a5 al:=(ak.trans a9).more ba λb d=>by subst d;exact ak.size
 have X:=a6.trans ap;refine sO (i:=0) (j.on X).w.w rfl j.w.m y W λbL aq ar au av bb V bM fr bN=>QZ.mk _ ⟨_,rfl,ao.mk λbO _ bc bd bP=>aF.mk bc (A0 18) λw Y be bQ=>af.no rfl ?_⟩
 rw[Zc] at Y;rw[aV,U] at Y;have D:Ext al w:=bb.trans (bd.more be λb d=>by subst d;exact A0 _);have Z:=(ap.trans D).ah aj λh=>h
 have bf:=D.ah am λh=>h
 refine AJ.mk (n:=DF c t.1) (AO Z rfl) (ao.mk λbR _ bg z bT=>ai.mk λbU bh=>?_);have bi:=z.ah Z λh=>h
 refine Fp.mk (⟨t.2,(c:Int),⟨0,3,false⟩,aq,(cK p 0).V ar au av⟩:bS) (OW (z.ah Y λh=>h)) (Iq.mk (⟨1,t.2,2,0⟩:cm) (Cu (z.ah bf λh=>h) rfl) ?_);refine tt (f:=(⟨t.2,(c:Int),⟨0,3,false⟩,aq,(cK p 0).V ar au av⟩:bS)) (t:=⟨1,t.2,2,0⟩) rfl λbV aw=>⟨_,_,rfl,af.yes rfl ?_⟩
 have F:=aw.ah bi λh=>h
 refine AJ.mk (n:=DF c t.1) (AO F rfl) ⟨⟨by decide,by rw[Ms];decide⟩,AJ.mk (n:=dY t.2) (AB F rfl) ?_⟩;have bj:(DF c t.1).extract ((1:Int).toNat) (DF c t.1).size=AY (CL c::Ia 8 t.1):=by show(DF c t.1).extract 1 (DF c t.1).size=_;unfold DF;rw[VO];rfl
 rw[bj];refine AMp (by decide) (by rw[AP];show 9<=1000000;decide) λbk ab=>⟨_,rfl,AB (ab.ah F λh=>h) rfl,?_⟩
 rw[AP3];have ac:=aw.trans ab;have bm:Own BR AR bk ⟨some ⟨w.size,0,none⟩,1,1⟩ [⟨DF c t.1,⟨#[]⟩,true⟩]:=Own.lit (E:=BR) (l:= [⟨DF c t.1,⟨#[]⟩,true⟩]) (ac.ah bg λh=>h) rfl (by simp[maxLen]);refine ao.aY (E:=BR) (x:=MM (c,t)) (s:=⟨some ⟨w.size,0,none⟩,1,1⟩) rfl M.G6 bm (by simp only[Cd];decide) (by simp only[Cd,maxLen];decide) λbn ad ax ae bo _=>bh _ _ ?_
 have bW:=X.size;have bX:=D.size;have bY:=z.size;have b0:=ac.size;have b1:=ae.size;have bp:Ext q ad:=(X.trans (D.trans (z.trans ac))).more ae λb d=>by
  have d:w.size=b:=by simpa [Sl.ah] using d
  omega
 have b2:=Ai Z;have ay:=ae.ah (ab.ah F λh=>h) λaz=>by
  have az:w.size=a4:=by simpa [Sl.ah] using az
  omega
 refine AJ.mk (n:=DF c t.1) (AO ay rfl) (AJ.mk (n:=dY t.2) (AB ay rfl) (ao.mk λaA _ bq ag b3=>?_));have br:View BR aA ⟨some ⟨ad.size,0,none⟩,1,1⟩ [⟨DF c t.1,dY t.2,false⟩]:=(Own.lit (E:=BR) (l:= [⟨DF c t.1,dY t.2,false⟩]) bq rfl (by simp[maxLen])).view;have aC:=bp.trans ag;have aD:=j.dI (O':=λb=>(O b\/(h.size<=b/\b<o.size))\/(q.size<=b/\b<aA.size)) aC.mod λb d=>d
 have b4:=ag.size;have ub:=j.ub c;have row:=j.q.cY aW r (t:=t) (by rw[S];simp);have bs:=ATt (c:=c) (t:=t) (j.own c r).1.2 y row;refine aD.w.w.change (i:=0) (x:=y0) (conds:=⟨some ⟨ad.size,0,none⟩,1,1⟩) (sl:=bn) (cl:= [⟨DF c t.1,dY t.2,false⟩]) (lp:=kJ c t) E rfl (by omega) (by omega) (by omega) (by omega) (by omega) br (by simp) (ax.view.ext ag) (λ_ b d=> .inr (.inr ?_)) (λb d=>by
  rw[List.mem_singleton.1 d];show(DF c t.1).size<=_;rw[Ms];decide) (λbt=>absurd bt (j.own c r).1.1) (λ_ aE=>by rw[(j.own c r).1.2] at aE;cases aE) (λ_ _ hd=>absurd bs hd) λ_ _ _ b5 bu aG=>⟨_,rfl,af.no rfl ?_⟩
 ·have:=ax.lt d;refine⟨?_,by omega⟩;rcases bo b d with h|h
  ·have h:w.size=b:=by simpa [Sl.ah] using h
   omega
  ·omega
 rw[Ae (by omega)];have aH:=(aD.go r S (by omega) bu).less (O':=λb=>O b\/(h.size<=b/\b<o.size)) λb d=> .inl d
 rw[ARi,<-AM4,<-aS] at aH;refine aN (8-(e+1)) _ _ (by omega) ⟨e+1,_,rfl,rfl,ah,aH,J.trans (aC.mod.trans (aG.aj λb _ d=>bB.less d λb N=> .inl N)),?_⟩;have:=aG.size;omega
end
section
variable {A : aq} {g h : aa} {s k : Nat} {mp : List Pr} {fl : cG} {an : dk} {O : Nat -> Prop} {R : A2K} {a : Q2}
theorem AO6 {b:Q2}{c d:Int}(e:b=none)(f:R (J1 #[J6 J9 0,J6 J9 1]) h):AA A P Hu #[J5 b,J5 a,J6 J9 c,J6 J9 d] h R:=by subst e;refine QL ?_;unfold Nr;exact ai.mk λK i=>af.yes rfl (i _ _ (af.yes rfl f))
theorem AOY {b c:Int}{i:Nat}{l:List Hs}{f:Hs}(n:EW g h s k 3 l mp fl an O)(o:l[i]? =some f)(t:b<0\/3<=b\/c<0\/1099511627776<c)(p:R (J1 #[J6 J9 0,J6 J9 1]) h):AA A P Hu #[Am f.p,J5 a,J6 J9 b,J6 J9 c] h R:=by
 refine QL ?_;unfold Nr;refine ai.mk λK q=>af.no rfl ?_
 have key: ∀e:Bool,e=true->K (e,()) h:=λe r=>by subst r;exact q _ _ (af.yes rfl p)
 refine af.intro (λd=>key _ rfl) λd=>n.w.aE o ⟨_,rfl,af.intro (λd=>key _ rfl) λj=>af.intro (λd=>key _ rfl) λm=>key _ (decide_eq_true ?_)⟩
 have d: ¬b<0:=of_decide_eq_false d;have j: ¬(3:Int)<=b:=of_decide_eq_false j;have m: ¬c<0:=of_decide_eq_false m;show 1099511627776<c;omega
theorem AMs {c i:Nat}{b:Int}{l:List Hs}{f:Hs}(d:EW g h s k 3 l mp fl an O)(j:l[i]? =some f)(y:c<3)(z:0<=b/\b<=1099511627776)(B:f.f c≠0)(q:KN (pJ c) mp= [])(r: ∀n,Ext h n->R (J1 #[J6 J9 0,J6 J9 0]) n):AA A P Hu #[Am f.p,J5 a,J6 J9 (c:Int),J6 J9 b] h R:=by
 refine QL ?_;unfold Nr;refine ai.mk λK t=>af.no rfl (af.no (decide_eq_false (by omega)) (d.w.aE j ⟨_,rfl,af.no (decide_eq_false (by show ¬(3:Int)<=(c:Int);omega)) (af.no (decide_eq_false (by omega)) (t _ _ (af.no (decide_eq_false (by show ¬1099511627776<b;omega)) ?_)))⟩))
 refine d.w.holds j ⟨_,rfl,af.no (by simp;omega) (d.w.store j ⟨_,rfl,ANa (by omega) λC o=>⟨_,rfl,?_⟩⟩)⟩;refine(d.on o).w.scan (by unfold pJ;rw[AP];show 2<=1099511627776;decide) λps u p D v=>⟨_,_,rfl,af.no rfl ?_⟩
 rw[UW,q] at p;have e:=p.len;refine Loop.rule (λm x w=>m=0/\x=((0:Int),())/\u=w) ?_ ⟨rfl,rfl,rfl⟩;rintro E m _ _ ⟨rfl,rfl,rfl⟩ F;have e:ps.len=0:=e;refine af.no (by rw[e];rfl) ?_;rw[e];exact r _ (o.trans v)
theorem LW.jr {B:cH}{sh b:Nat}{Sb:Nat->Prop}{m:Bx}(l:bZ g)(n:Cw h b Sb m)(d:Ext g h)(o: ∀c,Sb c->g.size<=c)(hd:m.down=false)(p:m.fuel= -1)(q: ∀f,ff m (aC nl f)=none)(r: ∀f,ff m (aC nn f)=none)(t: ∀x,ff m x≠none->(bl x).head? ≠some 116)(hA:1<=B.A)(u:bj m.files<=B.W0)(v: ∀c,O c->g.size<=c/\c<h.size/\ ¬Sb c)
  (w: ∀e s,LW B g e s 0 0 sh [] [] O->Mod (λc=>Sb c\/h.size<=c) h e->h.size<=s->R (J1 #[Am s,J6 J9 0]) e):AA A P SG #[Am b] h R:=
 ANI (B:=B) l n d o hd p q r t hA u λe s y z C D E M F mp j G H=>w e s ⟨y,z,C,D,E,0,F,A0 _,mp,⟨λi x d=>by simp at d,λi N x Q d=>by simp at d⟩,by omega,λc I=>by
  obtain⟨J,S,K⟩:=v c I;refine⟨Decidable.byContradiction λL=>?_,by have:=j.size;omega,J,by omega,λx d=>by cases d⟩;rcases G c L with h|h
  ·exact K h
  ·omega⟩ j H
end
def lK(i:Nat):A2L:=AY [104,111,115,116,CL (48+i)]
abbrev tJ(l:List Hs)(i:Nat):J0:=J5 ((l[i]?).map λb=>⟨b.p,0,none⟩)
abbrev SH(b s:Nat)(l:List Hs)(a:Nat):Array J0:= #[Am b,Am s,tJ l 0,tJ l 1,Am a,J4 none 0 0,J4 none 0 0,J4 none 0 0,J4 none 0 0,J6 J9 0]
section
variable {A : aq} {g h : aa} {R : A2K}
theorem tK(E:bZ g)(x:Ext g h)(am: ∀J f b s t r u mp,EW g J s 3 3 [t,r] mp (λ_=>none) (λ_=>none) (λe=>e=f)->jM mp t 3->r.f=(λ_=>0)->J[f]? =some (J2 (SH b s [t,r] u) BI (0,0))->Ext g J->h.size<=J.size->(∀ e,BM e≠108->Af e mp=none)->R (Am f) J):AA A P Gm #[] h R:=by
 refine Uf ?_;unfold Nb;refine AQ0 λb ap Sb ab ac aq=>⟨_,rfl,ao.mk λaV _ W X aW=>AX.mk (AO W rfl) ?_⟩
 have aX:=x.size;have aY:=ac.size;have aZ:=X.size;generalize a0:ap.size=f at*
 have lw:=Ai W;have ad: ∀c,Sb c->c<f:=λc D=>by have:=ab.lt D;omega
 refine LW.jr (B:=Uq) (sh:=3) (O:=λe=>e=f) E (ab.ext X) ((x.trans ac).trans X) (λc D=>by have:=aq c D;omega) rfl rfl (λn=>rfl) (λn=>rfl) (λx ar=>absurd rfl ar) (by decide) (by decide) (λc D=>by subst D;exact⟨by omega,lw,λT=>by have:=ad _ T;omega⟩) λau s av ag T=>⟨_,_,rfl,af.no rfl ?_⟩
 have ah:=ag.ah W λD=>D.elim (λT=>by have:=ad _ T;omega) λh=>by omega
 refine AX.mk (AO ah rfl) ?_;refine ACx ?_;unfold WL;refine ao.mk λa1 _ a2 Y a3=>⟨_,rfl,?_⟩
 generalize a4:au.size=u at*
 have aw:=Y.ah ah λh=>h
 refine ae.bL (j:=1) aw (of_decide_eq_true rfl) rfl λa5 ax ay a6=>ae.bL (j:=4) (dH:=SH b s [] u) ax (of_decide_eq_true rfl) rfl λaz aA aC a7=>?_
 have aD:=av.own (O':=λe=>e=f) (Y.mod.trans (ay.trans aC)) λe d=> .inl d
 have a8:=ag.size;have a9:=Y.size;refine Loop.rule (λL x F=> ∃(l:List Hs),x=((l.length:Int),())/\L=2-l.length/\l.length<=2/\LW Uq g F s 0 0 3 l [] (λe=>e=f)/\(∀ (i:Nat) o,l[i]? =some o->o.name=lK i/\o.f=(λ_=>0)/\o.u=λ_=>0)/\F[f]? =some (J2 (SH b s l u) BI (0,0))/\az.size<=F.size) ?_
  ⟨[],rfl,rfl,by decide,aD,λi o q=>by simp at q,aA,A0 _⟩
 rintro K L _ F ⟨l,rfl,rfl,aE,y,G,U,ba⟩ aF;dsimp only;refine af.intro (λd=>?_) (λd=>?_)
 ·have d:l.length<2:=by have:=of_decide_eq_true d;omega
  rw[show((48:Int)+(l.length:Int))=((48+l.length:Nat):Int) from by omega,GY (by omega)];refine ao.mk λaG _ aH Z bb=>?_
  have v1:View HY aG ⟨some ⟨F.size,0,none⟩,1,1⟩ [CL (48+l.length)]:=(Own.lit (E:=HY) (l:= [CL (48+l.length)]) aH (by
   show [Value.int .u8 (J8 .u8 ((48+l.length:Nat):Int))]= [Value.int .u8 ((CL (48+l.length)).toNat:Int)];rw[wrap_u8,Dc (by omega),An (by omega)]) (by simp[maxLen])).view
  refine Ka (s:=⟨some ⟨F.size,0,none⟩,1,1⟩) Za kX PW v1 ⟨_,rfl,⟨by rw[AP,max_i64];show((5:Nat):Int)<=9223372036854775807;decide,?_⟩⟩;rw[show(⟨#[104,111,115,116]⟩:A2L)++AY [CL (48+l.length)]=lK l.length from by
   rw[show(⟨#[104,111,115,116]⟩:A2L)=AY [104,111,115,116] from rfl,Ak];rfl]
  refine(y.on Z).host (name:=lK l.length) (by rcases(by omega:l.length=0\/l.length=1) with H|H<;>rw[H]<;>decide) (by decide) λaI p aJ aK aL ai=>⟨_,_,rfl,⟨by omega,by omega⟩,?_⟩
  have M:=(Z.trans ai).ah U λh=>h
  have aM:=(Z.trans ai).size;have aN: ∀j:Nat,((⟨f,0,none⟩:Q6).add 2).add (((j:Nat):Int).toNat*1)=(⟨f,0,none⟩:Q6).add (2+j):=λj=>by rw[add_add,A6,Bk]
  rw[aN];have fin: ∀C,Mod (· =f) aI C->C[f]? =some (J2 (SH b s (l++ [⟨p,aJ,aK,lK l.length,λ_=>0,λ_=>0⟩]) u) BI (0,0))->K ((J8 J9 ((l.length:Int)+(1:Int))),()) C:=λC I N=>by
   rw[Ae (by omega)];have aO:=aL.own (O':=λe=>e=f) I λe d=> .inl d
   refine aF (2-(l.length+1)) _ _ (by omega) ⟨_,by rw[A1];rfl,by rw[A1];rfl,by rw[A1];exact d,aO,λi o q=>?_,N,by have:=I.size;omega⟩;rw[Pl] at q;split at q
   ·exact G i o q
   ·rw[PA] at q;split at q
    ·cases q;rw[show i=l.length by omega];exact⟨rfl,rfl,rfl⟩
    ·cases q
  match l,aE,d,M,fin with
  | [],_,_,M,fin=>exact ae.bL (j:=2) M (of_decide_eq_true rfl) rfl λC N I aP=>af.no rfl (fin C I N)
  | [z],_,_,M,fin=>exact ae.bL (j:=3) M (of_decide_eq_true rfl) rfl λC N I aP=>af.no rfl (fin C I N)
  |_::_::_,_,d,_,_=>exact absurd d (by simp)
 ·have d:l.length=2:=by have:=of_decide_eq_false d;omega
  match l,d,G,y,U with
  | [t,r],_,G,y,U=>
   have V:=G 0 t rfl;have aa:=G 1 r rfl;refine Loop.rule (λL x w=> ∃(n:Nat) (o:Hs) (mp:List Pr),x=((n:Int),())/\L=3-n/\n<=3/\EW g w s n 3 [o,r] mp (λ_=>none) (λ_=>none) (λe=>e=f)/\jM mp o n/\o.p=t.p/\o.name=lK 0/\w[f]? =some (J2 (SH b s [t,r] u) BI (0,0))/\F.size<=w.size/\ ∀e,BM e≠108->Af e mp=none) ?_
    ⟨0,t,[],rfl,rfl,by omega,⟨y,Jk.empty,λz w m=>by
     rcases List.mem_cons.1 w with rfl|w
     ·rw[V.2.1,V.2.2];exact⟨A0 _,A0 _⟩
     ·rw[List.mem_singleton.1 w,aa.2.1,aa.2.2];exact⟨A0 _,A0 _⟩⟩,⟨λn G=>by omega,λn _=>⟨by rw[V.2.1],λ_=>GJ.empty⟩⟩,rfl,V.1,U,A0 _,λ_ _=>rfl⟩
   rintro bc L _ w ⟨n,o,mp,rfl,rfl,G,y,aj,Q,q,S,aM,ak⟩ aQ;dsimp only;refine af.intro (λd=>⟨by decide,AX.mk (n:=some ⟨o.p,0,none⟩) ?_ ?_⟩) (λd=>?_)
   ·have:=AB (j:=2) (v:=Am t.p) S rfl;rw[Q];exact this
   ·have d:n<3:=by have:=of_decide_eq_true d;omega
    refine ARf E y d aj (by rw[q];decide) λbd aR aS aT al aU=>⟨_,_,rfl,af.no rfl ?_⟩
    rw[Ae (by omega)];exact aQ (3-(n+1)) _ _ (by omega) ⟨n+1,_,aR,rfl,rfl,d,aS,aT,Q,q,bB.aR al S rfl,by have:=al.size;omega,λe d=>by rw[aU,KL y.w.sorted λp Q H=>d (by rw[<- H,List.mem_singleton.1 Q];exact Rn n)];exact ak e d⟩
   ·have d:n=3:=by have:=of_decide_eq_false d;omega
    subst d;have S:w[f]? =some (J2 (SH b s [o,r] u) BI (0,0)):=by
     have H:SH b s [o,r] u=SH b s [t,r] u:=by simp[SH,Q]
     rw[H];exact S
    exact am w f b s o r u mp y aj aa.2.1 S y.w.ext (by omega) ak
end
theorem pre_nil {b:List Pr}{a:UInt8}{q:List UInt8}(s:Sorted b)(h: ∀q,BM q≠108->Af q b=none)(c:a≠108):KN (AY (a::q)) b= []:=by
 refine List.filter_eq_nil_iff.2 λp d e=>?_
 have:=h p.key (by rw[tz e];exact c);rw[s.find d] at this;cases this
theorem QW.first {g h:aa}{s:Nat}{b e:Hs}{a:List Pr}{f:Nat->Prop}(d:EW g h s 3 3 [b,e] a (λ_=>none) (λ_=>none) f)(i:jM a b 3)(j: ∀q,BM q≠108->Af q a=none):QW g h s 3 b e a (λ_=>none) (λ_=>none) f (λ_=> []) []:=
 ⟨d,⟨λc _=>pre_nil d.w.sorted j (by decide),by rw[Qp];exact pre_nil d.w.sorted j (by decide)⟩,λl k=>⟨i.owns k,(i.has l k).1⟩,⟨λq m=>(by cases m),PB,PB⟩⟩
abbrev QA(b s p0 p1 a:Nat):Array J0:= #[Am b,Am s,Am p0,Am p1,Am a,J4 none 0 0,J4 none 0 0,J4 none 0 0,J4 none 0 0,J6 J9 0]
structure dt (g:aa) (s wb bb ab rb p0 p1:Nat) (q:Tq) (ph:Nat) (es:Sl) (B:List Nat) (hh:aa):Prop where
 w: ∃k y0 y1 mp fl an T,QW g hh s k y0 y1 mp fl an (λq=>q=wb\/q=rb\/q∈B) T (if ph=0 then [q] else [])/\y0.p=p0/\k<=100+ph
 cw:hh[wb]? =some (J2 (QA bb s p0 p1 ab) BI (0,0))
 cr:hh[rb]? =some (J2 (dX 0 0 3).c Ab (0,0))
 bs: ∀b∈B,hh[b]? =some (J2 bg.z.c Ab (0,0))/\b≠rb
 nd:B.Nodup
 el:ph≠0->es.len=3
abbrev j5(q:Tq)(es:Sl):bg:=⟨0,0,0,⟨1,q.2.2,3,0⟩,⟨#[]⟩,es⟩
section
variable {A : aq} {g hh : aa} {s wb bb ab rb p0 p1 : Nat} {q : Tq} {ph : Nat} {es : Sl} {B : List Nat} {R : A2K}
theorem dt.c4(a:dt g s wb bb ab rb p0 p1 q ph es B hh):ag hh ((⟨wb,0,none⟩:Q6).add 4)=some (Am ab):=AB a.cw rfl
theorem dt.c2(a:dt g s wb bb ab rb p0 p1 q ph es B hh):ag hh (((⟨wb,0,none⟩:Q6).add 2).add ((0:Int).toNat*1))=some (Am p0):=AB (j:=2) a.cw rfl
theorem dt.new {K:Nat->aa->Prop}(f:dt g s wb bb ab rb p0 p1 q ph es B hh)(i: ∀b a,dt g s wb bb ab rb p0 p1 q ph es (b::B) a->K b a):ao hh (J2 bg.z.c Ab) K:=by
 refine ao.mk λa _ j x D=>i hh.size a ?_
 obtain⟨⟨k,l,m,n,o,p,T,r,t,u⟩,v,e,d,nd,w⟩:=f;refine⟨⟨k,l,m,n,o,p,T,r.dI x.mod λc y=>?_,t,u⟩,x.ah v λh=>h,x.ah e λh=>h,λb z=>?_,List.nodup_cons.2 ⟨λC=>?_,nd⟩,w⟩
 ·rcases y with h|h|h
  ·exact .inl (.inl h)
  ·exact .inl (.inr (.inl h))
  ·rcases List.mem_cons.1 h with h|h
   ·exact .inr (by omega)
   ·exact .inl (.inr (.inr h))
 ·rcases List.mem_cons.1 z with rfl|h
  ·exact⟨j,λE=>by have:=Ai e;omega⟩
  ·exact⟨x.ah (d b h).1 λh=>h,(d b h).2⟩
 ·have:=Ai (d _ C).1;omega
theorem dt.move {c:Nat}{f:Sl}{d:aa}(a:dt g s wb bb ab rb p0 p1 q ph es B hh)(m:Mod (bB g λq=>q=wb\/q=rb\/q∈B) hh d)(k: ∃i j l n o p T,QW g d s i j l n o p (λq=>q=wb\/q=rb\/q∈B) T (if c=0 then [q] else [])/\j.p=p0/\i<=100+c)(r:c≠0->f.len=3):dt g s wb bb ab rb p0 p1 q c f B d:=
 ⟨k,bB.aR m a.cw (.inl rfl),bB.aR m a.cr (.inr (.inl rfl)),λb e=>⟨bB.aR m (a.bs b e).1 (.inr (.inr e)),(a.bs b e).2⟩,a.nd,r⟩
theorem dt.one(e:bZ g)(d:dt g s wb bb ab rb p0 p1 q 0 es B hh)(f: ∀a b,dt g s wb bb ab rb p0 p1 q 1 b B a->R (j5 q b).v a):AA A P BH #[Am p0,Am ab,J6 J9 0,J7 ⟨#[]⟩] hh R:=by obtain⟨i,v,j,w,x,k,T,l,rfl,y⟩:=d.w;refine AMb (c:=q.1) (n0:=q.2.1) (wid:=q.2.2) (L:= []) e l (by omega) λa m n o b p r _ t u=>f a b (d.move t ⟨i+1,m,j,n,o,k,T,p,r,by omega⟩ λ_=>u)
theorem dt.two(b:dt g s wb bb ab rb p0 p1 q 1 es B hh)(f: ∀a,dt g s wb bb ab rb p0 p1 q 2 es B a->R (PG 200).v a):AA A P BH #[Am p0,Am ab,J6 J9 0,J7 ⟨#[]⟩] hh R:=by obtain⟨j,d,k,l,m,n,T,c,rfl,o⟩:=b.w;exact tH (i:=0) (y:=d) c.w rfl (.inl rfl) c.q.li λa e=>f a (b.move e.mod ⟨j,d,k,l,m,n,T,c.on e,rfl,by omega⟩ λ_=>b.el (by decide))
theorem dt.fin {d e:Nat}{n:aa->Prop}(a:dt g s wb bb ab rb p0 p1 q 2 es B hh)(j:d∈B)(b:e∈B)(o:d≠e)
  (u: ∀f,f[d]? =some (J2 (j5 q es).c Ab (0,0))->f[e]? =some (J2 (PG 200).c Ab (0,0))->f[rb]? =some (J2 (dX 0 0 3).c Ab (0,0))->es.len=3->Ext g f->n f):
  aF hh ⟨d,0,none⟩ (j5 q es).l λp=>aF p ⟨e,0,none⟩ (PG 200).l λk=>n k:=by
 obtain⟨x,y,z,C,D,E,T,v,rfl,F⟩:=a.w;refine aF.mk (a.bs d j).1 (A0 9) λp r l G=>aF.mk (l.ah (a.bs e b).1 λi=>o i.symm) (A0 9) λk t m H=>?_
 rw[KP] at r t;have w:=v.dI (O':=λq=>q=wb\/q=rb\/q∈B) ((l.aj λc _ b=>by subst b;exact .inr (.inr j)).trans (m.aj λc _ h=>by subst h;exact .inr (.inr b))) λc b=> .inl b
 exact u k (m.ah r o) t (m.ah (l.ah a.cr λi=>(a.bs d j).2 i.symm) λi=>(a.bs e b).2 i.symm) (a.el (by decide)) w.w.w.ext
theorem dt.oR {b c:Nat}{d:aa->Prop}(e:dt g s wb bb ab rb p0 p1 q 2 es [c,b] hh)
  (f: ∀a,a[b]? =some (J2 (j5 q es).c Ab (0,0))->a[c]? =some (J2 (PG 200).c Ab (0,0))->a[rb]? =some (J2 (dX 0 0 3).c Ab (0,0))->es.len=3->Ext g a->d a):
  aF hh ⟨b,0,none⟩ (j5 q es).l λi=>aF i ⟨c,0,none⟩ (PG 200).l λj=>d j:=e.fin (by simp) (by simp) (λk=>by have:=e.nd;simp[k] at this) f
theorem dt.iu {b c:Nat}{d:aa->Prop}(e:dt g s wb bb ab rb p0 p1 q 2 es [b,c] hh)
  (f: ∀a,a[b]? =some (J2 (j5 q es).c Ab (0,0))->a[c]? =some (J2 (PG 200).c Ab (0,0))->a[rb]? =some (J2 (dX 0 0 3).c Ab (0,0))->es.len=3->Ext g a->d a):
  aF hh ⟨b,0,none⟩ (j5 q es).l λi=>aF i ⟨c,0,none⟩ (PG 200).l λj=>d j:=e.fin (by simp) (by simp) (λk=>by have:=e.nd;simp[k] at this) f
end
section
variable {A : aq} {g h : aa} {R : A2K}
theorem AJ1(E:bZ g)(x:Ext g h)(aO: ∀z,Ext g z->R (J3 true) z):AA A P Ji #[] h R:=by
 refine Tz ?_;unfold Ng;refine tK E x λF wb bb s r t ab S aP aQ bg C bh bi aR=>⟨_,rfl,af.no rfl ?_⟩
 have X:=QW.first aP aQ aR;have C:F[wb]? =some (J2 (QA bb s r.p t.p ab) BI (0,0)):=C;have v: ∀ {hh:aa},hh[wb]? =some (J2 (QA bb s r.p t.p ab) BI (0,0))->ag hh (((⟨wb,0,none⟩:Q6).add 2).add ((0:Int).toNat*1))=some (Am r.p):=λG=>AB (j:=2) G rfl
 have w: ∀ {hh:aa},hh[wb]? =some (J2 (QA bb s r.p t.p ab) BI (0,0))->ag hh ((⟨wb,0,none⟩:Q6).add 4)=some (Am ab):=λG=>AB (j:=4) G rfl
 have aS:=XE (⟨#[119]⟩:A2L) (n:=3) (by decide);have lw:=Ai C;refine ai.mk λK aT=>?_
 have key: ∀(a:aa) (rb H e:Nat) (f:Hs) (S:List Pr) (i:cG) (k:dk) (o:Nat->Prop),QW g a s H f t S i k o (dG (λ_=> []) (Av (⟨#[119]⟩:A2L) 3) [(e,⟨#[119]⟩)]) []->f.p=r.p->H<=4->o wb->o rb->a[wb]? =some (J2 (QA bb s r.p t.p ab) BI (0,0))->a[rb]? =some (J2 (dX 0 0 3).c Ab (0,0))->K (some ⟨rb,0,none⟩,()) a:=λa rb H e f S i k o Y u bj au av Z aU=>by
  refine aT _ _ (R8 (by decide) (by decide) (by decide) ⟨_,_,rfl,aD ⟨by decide,AX.mk (v Z) (aD (AX.mk (w Z) ?_))⟩⟩);rw[<- u];refine ARo E Y aS (by omega) λaw ax T ay bk=>⟨_,_,rfl,ai.mk λaV az=>?_⟩
  rw[Y0] at T az;have T:QW g aw s (H+8) f t ax i k o _ [(Av (⟨#[119]⟩:A2L) 3,e,⟨#[119]⟩)]:=T;have I:=bB.aR ay Z au;have aW:=bB.aR ay aU av;refine aD ⟨by decide,AX.mk (v I) (aD (AX.mk (w I) (aD ⟨by decide,AX.mk (v I) (aD (AX.mk (w I) ?_))⟩)))⟩;have aX: ∀c,(c=wb\/c=rb\/c∈([]:List Nat))->o c:=λc d=>by
   rcases d with h|h|h
   ·subst h;exact au
   ·subst h;exact av
   ·cases h
  have bm:dt g s wb bb ab rb r.p t.p (Av (⟨#[119]⟩:A2L) 3,e,⟨#[119]⟩) 0 gK [] aw:=⟨⟨H+8,f,t,ax,i,k,_,T.less aX,u,by omega⟩,I,aW,λb G=>(by cases G),PB,λh=>absurd rfl h⟩;have fin: ∀(ac ad:Nat) (es:Sl) (a:aa),a[ac]? =some (J2 (j5 (Av (⟨#[119]⟩:A2L) 3,e,⟨#[119]⟩) es).c Ab (0,0))->a[ad]? =some (J2 (PG 200).c Ab (0,0))->a[rb]? =some (J2 (dX 0 0 3).c Ab (0,0))->es.len=3->Ext g a->aV (some ⟨ac,0,none⟩,some ⟨ad,0,none⟩,()) a:=λac ad es a D J L M N=>by
   refine az _ _ (aD (AC.mk (n:=0) (AO L rfl) (af.yes rfl (af.yes rfl (af.yes rfl (aD (AC.mk (n:=0) (AO D rfl) (af.yes rfl (aD ?_)))))))));refine AC.mk (n:=3) (by rw[add_add];exact AB D rfl) (af.yes rfl (aD (AZ.mk (s:=es) (AB D rfl) (af.yes (by rw[M];rfl) (aD (AC.mk (n:=200) (AO J rfl) ?_))))));exact aO a N
  repeat' (first
   |exact dt.c4 (by assumption)
   |exact dt.c2 (by assumption)
   |exact dt.oR (by assumption) λa D J L M N=>fin _ _ _ a D J L M N
   |exact dt.iu (by assumption) λa D J L M N=>fin _ _ _ a D J L M N
   |refine dt.new (by assumption) λ_ _ _=>?_
   |refine dt.one E (by assumption) λ_ _ _=>EL.mk _ ⟨rfl,?_⟩
   |refine dt.two (by assumption) λ_ _=>EL.mk _ ⟨rfl,?_⟩
   |refine And.intro ?_ ?_)
 have aY: ∀sl:Sl,QY (pF sl ⟨#[114]⟩) ⟨[jN],0⟩=0:=λsl=>by
  unfold QY;rw[if_neg (λh=>by have aZ:=h.2;exact absurd aZ (by decide)),if_neg];rintro(h|h|h)
  ·exact absurd h.1 (show ¬(1:Int)=2 by decide)
  ·exact absurd h (show ¬Aj ⟨#[119]⟩=false by decide)
  ·exact absurd h (show ¬Aj ⟨#[114]⟩=false by decide)
 have ae: ∀ {hh:aa} {O:Nat} {o:Nat->Prop} {ah:A2K},QW g hh s 3 r t S (λ_=>none) (λ_=>none) o (λ_=> []) []->hh[O]? =some (J2 jN.c Bn (0,0))->
   (∀ z f y i k e,QW g z s 4 f t y i k o (dG (λ_=> []) (Av (⟨#[119]⟩:A2L) 3) [(e,⟨#[119]⟩)]) []->f.p=r.p->Mod (bB g o) hh z->ah (dX 0 0 3).v z)->
   AA A P Ea #[Am r.p,.iface Dp (Am ab),J6 J9 0,(pF ⟨some ⟨O,0,none⟩,1,1⟩ ⟨#[114]⟩).v] hh ah:=λ{hh O o ah} Y a0 a1=>by
  have V:View QT hh ⟨some ⟨O,0,none⟩,1,1⟩ [jN]:=(Own.lit (E:=QT) (l:= [jN]) a0 rfl (by decide)).view;exact QW.start (x:=pF ⟨some ⟨O,0,none⟩,1,1⟩ ⟨#[114]⟩) (p:=⟨[jN],0⟩) E Y (by decide) rfl V rfl rfl (by decide) (aY _) rfl rfl (by show Aj ⟨#[119]⟩=true;decide) λz a2 y e a3 u m _=>a1 z a2 y _ _ e a3 u m
 refine aD ⟨by decide,AX.mk (v C) (aD (AX.mk (w C) ⟨?_,?_⟩))⟩
 ·refine ao.mk λU _ aA aj bn=>?_
  have Q:=aj.ah C λh=>h
  refine⟨w Q,v Q,?_,?_⟩
  ·refine ae (X.on aj) aA λak f y i k e a4 u a5=>EL.mk _ ⟨rfl,?_⟩
   have aC:=bB.aR a5 Q rfl;refine ao.mk λbo _ a6 aE bp=>?_
   have al:=aE.ah aC λh=>h
   refine⟨w al,v al,aF.mk a6 (A0 9) λa7 aG am bq=>?_⟩;have br:=Ai aC;exact key a7 ak.size 4 e f y i k (λc=>c=wb\/c=ak.size) (a4.dI (O':=λc=>c=wb\/c=ak.size) (aE.more am λc d=>by subst d;exact A0 _).mod λc d=>d.imp id λh=>by have:=am.size;omega) u (by decide) (.inl rfl) (.inr rfl) (am.ah al (by omega)) (by rw[KP] at aG;exact aG)
  ·refine ao.mk λbs _ a8 an bt=>?_
   have ap:=an.ah Q λh=>h
   have bu:=Ai Q;refine⟨w ap,v ap,ae ((X.on aj).dI (O':=λc=>c=wb\/c=U.size) an.mod λc d=>d.imp id λh=>by omega) (an.ah aA λh=>h) λbv f y i k e a9 u aH=>EL.mk _ ⟨rfl,?_⟩⟩;refine aF.mk (bB.aR aH a8 (.inr rfl)) (A0 9) λba aI aJ bw=>?_
   exact key ba U.size 4 e f y i k (λc=>c=wb\/c=U.size) (a9.dI (O':=λc=>c=wb\/c=U.size) (aJ.aj λc _ d=> .inr d) λc d=> .inl d) u (by decide) (.inl rfl) (.inr rfl) (aJ.ah (bB.aR aH ap (.inl rfl)) (by omega)) (by rw[KP] at aI;exact aI)
 ·refine ao.mk λbx _ bc aK bz=>?_
  have aq:=aK.ah C λh=>h
  refine⟨w aq,v aq,ao.mk λbA _ bd W bC=>?_⟩;have ar:=W.ah aq λh=>h
  refine⟨w ar,v ar,ae (X.dI (O':=λc=>c=wb\/c=F.size) (aK.trans W).mod λc d=>d.imp id λh=>by have:=W.size;omega) bd λbD f y i k e be u aL=>EL.mk _ ⟨rfl,?_⟩⟩;refine aF.mk (bB.aR aL (W.ah bc λh=>h) (.inr rfl)) (A0 9) λbf aM aN bE=>?_
  exact key bf F.size 4 e f y i k (λc=>c=wb\/c=F.size) (be.dI (O':=λc=>c=wb\/c=F.size) (aN.aj λc _ d=> .inr d) λc d=> .inl d) u (by decide) (.inl rfl) (.inr rfl) (aN.ah (bB.aR aL ar (.inl rfl)) (by omega)) (by rw[KP] at aM;exact aM)
end
section
variable {A : aq} {g h : aa} {s k : Nat} {y0 y1 : Hs} {mp : List Pr} {fl : cG} {an : dk} {O : Nat -> Prop} {R : A2K} {T : TT} {L : List Tq} {wb bb ab p0 p1 : Nat}
theorem AOF {c i:Nat}{l:List Hs}{d:Hs}{a:Q2}(b:EW g h s k 3 l mp fl an O)(e:l[i]? =some d)(w:c<3)(y:d.f c≠0)(p:KN (KI c) mp= [])(q: ∀f,Ext h f->R (J1 #[J6 J9 0,J6 J9 0]) f):AA A P EF #[Am d.p,J5 a,J6 J9 (c:Int)] h R:=by
 refine Jp ?_;unfold JY;refine ai.mk λK r=>af.no rfl (af.no (decide_eq_false (by omega)) (b.w.aE e ⟨_,rfl,r _ _ (af.no (decide_eq_false (by show ¬(3:Int)<=(c:Int);omega)) ?_)⟩))
 refine b.w.holds e ⟨_,rfl,af.no (by simp;omega) (b.w.store e ⟨_,rfl,tn (by omega) λz j=>⟨_,rfl,?_⟩⟩)⟩;refine(b.on j).w.scan (by unfold KI;rw[AP];show 2<=1099511627776;decide) λps t n B u=>⟨_,_,rfl,af.no rfl ?_⟩
 rw[UW,p] at n;have o:ps.len=0:=n.len;refine Loop.rule (λm x v=>m=0/\x=((0:Int),())/\t=v) ?_ ⟨rfl,rfl,rfl⟩;rintro C m _ _ ⟨rfl,rfl,rfl⟩ D;refine af.no (by rw[o];rfl) ?_;rw[o];exact q _ (j.trans u)
theorem w4(a:h[wb]? =some (J2 (QA bb s p0 p1 ab) BI (0,0))):ag h ((⟨wb,0,none⟩:Q6).add 4)=some (Am ab):=AB a rfl
theorem w2(a:h[wb]? =some (J2 (QA bb s p0 p1 ab) BI (0,0))):ag h (((⟨wb,0,none⟩:Q6).add 2).add ((0:Int).toNat*1))=some (Am p0):=AB (j:=2) a rfl
theorem w3(a:h[wb]? =some (J2 (QA bb s p0 p1 ab) BI (0,0))):ag h (((⟨wb,0,none⟩:Q6).add 2).add ((1:Int).toNat*1))=some (Am p1):=AB (j:=3) a rfl
theorem tL {n e:Int}{name:A2L}{K:Q2×Unit->aa->Prop}(p:h[wb]? =some (J2 (QA bb s p0 p1 ab) BI (0,0)))
  (q: ∀f (R:A2K),Ext h f->(∀ r,Ext f r->R (PG n).v r)->AA A P BH #[Am p0,Am ab,J6 J9 e,J7 name] f R)
  (u: ∀i b,Ext h i->i[b]? =some (J2 (PG n).c Ab (0,0))->K (some ⟨b,0,none⟩,()) i):
  And (AA A P BH #[Am p0,Am ab,J6 J9 e,J7 name] h λv w=>EL λt=>v=t.v/\(
    ao w (J2 bg.z.c Ab) λx d=>
    And (ag d ((⟨wb,0,none⟩:Q6).add 4)=some (Am ab))<|
    And (ag d (((⟨wb,0,none⟩:Q6).add 2).add ((0:Int).toNat*1))=some (Am p0))<|
    aF d (⟨x,0,none⟩:Q6) t.l λj=>K ((some (⟨x,0,none⟩:Q6)),()) j))<|
   ao h (J2 bg.z.c Ab) λy a=>
   And (ag a ((⟨wb,0,none⟩:Q6).add 4)=some (Am ab))<|
   And (ag a (((⟨wb,0,none⟩:Q6).add 2).add ((0:Int).toNat*1))=some (Am p0))<|
   AA A P BH #[Am p0,Am ab,J6 J9 e,J7 name] a λv z=>EL λt=>v=t.v/\(
    aF z (⟨y,0,none⟩:Q6) t.l λl=>K ((some (⟨y,0,none⟩:Q6)),()) l):=by
 constructor
 ·refine q h _ Mod.refl λw B=>EL.mk _ ⟨rfl,ao.mk λd _ I C Q=>?_⟩
  have D:=(B.trans C).ah p λh=>h
  refine⟨w4 D,w2 D,aF.mk I (A0 9) λj E J S=>?_⟩;rw[KP] at E;exact u j _ (B.trans (C.more J λc m=>by subst m;exact A0 _)) E
 ·refine ao.mk λa _ M o U=>?_
  have F:=o.ah p λh=>h
  refine⟨w4 F,w2 F,q a _ o λz G=>EL.mk _ ⟨rfl,aF.mk (G.ah M λh=>h) (A0 9) λl H N V=>?_⟩⟩;rw[KP] at H;exact u l _ ((o.trans G).more N λc m=>by subst m;exact A0 _) H
end
section
variable {A : aq} {h : aa} {R : A2K}
theorem ABg {ak now:Int}{name:A2L}(W:bZ h)(X:name.size<=1099511627776)(Y: ∀f,Ext h f->R (J3 true) f):AA A P JL #[J6 J9 ak,J6 J9 now,J7 name] h R:=by
 refine Nv ?_;unfold I7;refine AJ1 W Mod.refl λF av=>⟨_,rfl,af.no rfl ?_⟩
 refine tK W av λp aw ax s G Z v aS r ab ay m ac aT H=>⟨_,rfl,af.no rfl ?_⟩
 have m:p[aw]? =some (J2 (QA ax s G.p Z.p v) BI (0,0)):=m;have I:=r.w.sorted;obtain⟨g,w⟩: ∃b:Bool,b=(decide (ak>=(0:Int))&&decide (ak<(3:Int))):=⟨_,rfl⟩;obtain⟨u,x⟩: ∃b:Bool,b=(decide (now>=(0:Int))&&decide (now<=(1099511627776:Int))):=⟨_,rfl⟩;have yes:g=true-> ∃c:Nat,c<3/\ak=(c:Int):=λh=>by
  rw[w] at h;simp only[A4,decide_eq_true_eq] at h;exact⟨ak.toNat,by omega,by omega⟩
 have not:g=false->ak<0\/3<=ak:=λh=>by
  rw[w] at h;simp only[Jx,decide_eq_false_iff_not] at h;omega
 have az: ∀(d:aa) (j:A2K),Ext p d->(∀ f n e,Ext d f->((e==(0:Int))=g)->j (J1 #[J6 J9 n,J6 J9 e]) f)->AA A P EF #[Am G.p,Am v,J6 J9 ak] d j:=λd j l k=>by
  cases a:g with
  |true=>
   obtain⟨c,o,rfl⟩:=yes a;exact AOF (i:=0) (r.on l) rfl o (ab.owns o).1 (pre_nil I H (by decide)) λf J=>k f _ _ J (by rw[a];rfl)
  |false=>exact tI (i:=0) (r.on l) rfl (not a) (k d _ _ Mod.refl (by rw[a];rfl))
 have aA: ∀(d:aa) (j:A2K),Ext p d->(∀ f n e,Ext d f->((e==(0:Int))=(g&&u))->j (J1 #[J6 J9 n,J6 J9 e]) f)->AA A P Hu #[Am G.p,Am v,J6 J9 ak,J6 J9 now] d j:=λd j l k=>by
  cases a:(g&&u) with
  |true=>
   simp only[A4] at a;obtain⟨c,o,rfl⟩:=yes a.1;have y:=a.2;rw[x] at y;simp only[A4,decide_eq_true_eq] at y;exact AMs (i:=0) (r.on l) rfl o ⟨y.1,y.2⟩ (ab.owns o).1 (pre_nil I H (by decide)) λf J=>k f _ _ J (by rw[a.1,a.2];rfl)
  |false=>
   refine AOY (i:=0) (r.on l) rfl ?_ (k d _ _ Mod.refl (by rw[a];rfl));rw[Jx] at a;rcases a with a|a
   ·have:=not a;omega
   ·rw[x] at a;simp only[Jx,decide_eq_false_iff_not] at a;omega
 have aC: ∀(d:aa) (j:A2K),Ext p d->(∀ f n e,Ext d f->((e==(170:Int))=g)->j (J1 #[J6 J9 n,J6 J9 e]) f)->AA A P EF #[Am Z.p,Am v,J6 J9 ak] d j:=λd j l k=>by
  cases a:g with
  |true=>
   obtain⟨c,o,rfl⟩:=yes a;exact AKj (i:=1) (r.on l) rfl o (by rw[ay]) (k d _ _ Mod.refl (by rw[a];rfl))
  |false=>exact tI (i:=1) (r.on l) rfl (not a) (k d _ _ Mod.refl (by rw[a];rfl))
 refine aD (AX.mk (w4 m) (AOD ⟨_,_,rfl,aD (AX.mk (w4 m) (AO6 rfl ⟨_,_,rfl,aD (AX.mk (w4 m) (tF (.inl rfl) λaU aE=>EL.mk _ ⟨rfl,?_⟩))⟩))⟩));refine ao.mk λaV _ aG aH aW=>aF.mk aG (A0 9) λad ae aI aX=>?_
 rw[KP] at ae;have L:Ext p ad:=aE.trans (aH.more aI λc o=>by subst o;exact A0 _);have ag:=L.ah m λh=>h
 refine aD ⟨by decide,AX.mk (w2 ag) (aD (AX.mk (w4 ag) (az ad _ L λaJ aY aZ ah aK=>⟨_,_,rfl,?_⟩)))⟩;have M:=L.trans ah;have aj:=M.ah m λh=>h
 refine aD ⟨by decide,AX.mk (w2 aj) (aD (AX.mk (w4 aj) (aA aJ _ M λaL a0 a1 al z=>⟨_,_,rfl,?_⟩)))⟩;have N:=M.trans al;have am:=N.ah m λh=>h
 refine aD ⟨by decide,AX.mk (w3 am) (aD (AX.mk (w4 am) (aC aL _ N λO a2 a3 an ap=>⟨_,_,rfl,?_⟩)))⟩;have B:=N.trans an;have C:=B.ah m λh=>h
 have aM:=(ah.trans (al.trans an)).ah ae λh=>h
 refine ai.mk λK aN=>?_
 have Q:K (g,()) O:=by
  refine aN _ _ (ai.mk λaO aP=>?_);have S:aO (u,()) O:=by
   refine aP _ _ (ai.mk λaQ aR=>?_);have aq:aQ (false,()) O:=by
    refine aR _ _ (af.no rfl (ai.mk λa4 ar=>aD ⟨by decide,AX.mk (w2 C) (aD (AX.mk (w4 C) ?_))⟩));by_cases D:name=⟨#[]⟩\/Aj name=true
    ·refine tL (n:=200) C (λd j l k=>tH (i:=0) (r.on (B.trans l)) rfl D (pre_nil (q:=BQ (bl name)) I H (by decide)) k) λE b T U=>ar _ _ (ai.mk λau V=>?_)
     have fin:au (true,()) E:=V _ _ (af.yes rfl (aD (AC.mk (n:=200) (AO U rfl) (Y E ((ac.trans B).trans T)))));by_cases e:name=⟨#[]⟩
     ·exact af.yes (by rw[Bw,e];rfl) fin
     ·exact af.no (by rw[Bw];exact decide_eq_false e) (yl X ⟨_,rfl,by rw[D.resolve_left e];exact fin⟩)
    ·have F:name≠⟨#[]⟩:=λe=>D (.inl e)
     have p:Aj name=false:=by
      cases e:Aj name with
      |false=>rfl
      |true=>exact absurd (.inr e) D
     refine tL (n:=1) C (λd j l k=>tF (.inr ⟨F,p⟩) k) λE b T U=>ar _ _ (ai.mk λau V=>?_)
     refine af.no (by rw[Bw];exact decide_eq_false F) (yl X ⟨_,rfl,?_⟩);rw[p];exact V _ _ (af.no rfl (aD (AC.mk (n:=1) (AO U rfl) (Y E ((ac.trans B).trans T)))))
   refine af.no rfl (af.no rfl (AC.mk (n:=1) (AO aM rfl) (af.no rfl (af.no (by rw[aK];simp) ?_))));refine af.intro (λa=>?_) (λa=>?_)
   ·have a:g=true:=a;rw[a,DB] at z;refine af.no (by rw[z];simp) ?_;rw[ap,a];exact aq
   ·have a:g=false:=a;rw[a,DG] at z;refine af.no (by rw[z];rfl) ?_;rw[ap,a];exact aq
  refine af.intro (λt=>?_) (λt=>?_)
  ·rw[show decide (now<=(1099511627776:Int))=u by rw[x,t,DB]];exact S
  ·rw[show u=false by rw[x,t,DG]] at S;exact S
 refine af.intro (λt=>?_) (λt=>?_)
 ·rw[show decide (ak<(3:Int))=g by rw[w,t,DB]];exact Q
 ·rw[show g=false by rw[w,t,DG]] at Q;exact Q
end
end Go.Lf.G
