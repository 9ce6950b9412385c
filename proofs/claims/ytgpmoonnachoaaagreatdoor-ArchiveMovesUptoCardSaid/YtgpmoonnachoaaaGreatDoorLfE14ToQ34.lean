/-
 Contract: a client's request (chapter 19).
-/
import Derived.Test.YtgpmoonnachoaaaGreatDoorLfZ28ToE13
import Derived.Test.YtgpmoonnachoaaaGreatDoorLfKToGA
import Derived.Test.YtgpmoonnachoaaaGreatDoorLfV3ToZ27
import Derived.Test.YtgpmoonnachoaaaGreatDoorLfU2ToS3
import Derived.Test.YtgpmoonnachoaaaGreatDoorLfU15ToZ10
import Derived.Test.YtgpmoonnachoaaaGreatDoorLfG1
set_option maxRecDepth 100000
set_option linter.unusedVariables false
set_option linter.unusedSimpArgs false
open Go.IntKind renaming i64→J9,wrap→J8
open Go.Value renaming string→J7,int→J6,pointer→J5,slice→J4,bool→J3,tuple→J1
open Go.Obj renaming cells→J2
open Go renaming Value→J0,Addr→Q6,TypeId→Q7,FuncId→Q8,Program→Q1
open Go.Addr renaming add→Q9,mk→Q5
namespace Go.Lf.G
open Go
open M (Sorted Ad Bu Ay Ae Am BL Ag bo A9 aM A8)
structure Hs.dm (y y':Hs):Prop where
 p:y'.p=y.p
 name:y'.name=y.name
 f:y'.f=y.f
 u: ∀m,y.u m<=y'.u m/\y'.u m<=y.u m+3
theorem bz.less {g:aa}{O O':Nat->Prop}{c:Nat}(h:bz g O' c)(b: ∀c,O c->O' c):bz g O c:=⟨h.1,λd=>h.2 (b c d)⟩
theorem XX(wid:A2M){n:Nat}(h:1<=n):BA wid n<n:=CC _ h
section
variable {A : al} {B : cu} {g h : aa} {s a N sh : Nat} {l : List Hs} {mp : List Pr} {O : Nat -> Prop} {i : Nat} {y : Hs} {fl : cK} {an : cO} {R : A2L}
def qd(b:bA):Option (List Ev)->Prop
 |none=>b.cj=0
 |some l=>b.cE=(Ai l).status/\b.cj=(Ai l).next/\b.kept=false/\0<b.cj
theorem AR1 {b:Option (List Ev)}{wid:A2M}{n:Nat}{now:Int}(h: ∀l,b=some l->KE l):(0<=(BR b wid n now).cE/\(BR b wid n now).cE<=4)/\(0<=(BR b wid n now).cj/\(BR b wid n now).cj<=501)/\qd (BR b wid n now) b:=by
 cases b with
 |none=>exact⟨⟨(by decide:(0:Int)<=0),(by decide:(0:Int)<=4)⟩,⟨(by decide:(0:Int)<=0),(by decide:(0:Int)<=501)⟩,rfl⟩
 |some l=>
  have c:=h l rfl;have st:=c.st;have nx:=c.next.1;have d:=c.len;exact⟨st,⟨by show 0<=(Ai l).next;omega,by show(Ai l).next<=501;omega⟩,rfl,rfl,rfl,by show 0<(Ai l).next;omega⟩
theorem AKu {b c:bA}{e d f:Nat}(G:b.grown c e d f)(h:b.more= []):c.more.length<=d:=by have:=G.more;rw[h] at this;simpa using this
theorem ANH {x:cp}{p:cn}{cZ:J0}{now:Int}(c0:cy g)(ac:LW B g h s a N sh l mp O)(ah:l[i]? =some y)(aj:KS mp fl an)(V:View Ql h x.steps p.steps)(a3:x.az=p.az)(len:p.steps.length<=1099511627776)
  (d4: -4611686018427300000<=now/\now<=4611686018427300000) (cg: ∀n,y.f n<=2147483647) (ch: ∀n,y.u n+3<16777216) (d5:N+3<=1000000) (hA:4+3*a<=B.A) (c1:64*a+64<=B.C) (c2:a+1<=1000000)
  (aM: ∀f e st nx,NY fl an (y.f (BA x.wid sh)) x p=some (e,st,nx)->Ext h f->R (fw e st nx).v f)
  (c3: ∀f C aV r u,NY fl an (y.f (BA x.wid sh)) x p=none->y.dm C->(BF (EP x p (BR (fl x.wid) x.wid (BA x.wid sh) now) aV) r u).err≠0->LW B g f s a (N+3) sh (l.set i C) mp O->Mod (bz g O) h f->R (fw (BF (EP x p (BR (fl x.wid) x.wid (BA x.wid sh) now) aV) r u).err 0 0).v f)
  (c4: ∀f C,NY fl an (y.f (BA x.wid sh)) x p=none->y.dm C->CG mp (F3 (BA x.wid sh) (y.f (BA x.wid sh)) y.name)=false->LW B g f s a (N+3) sh (l.set i (C.lost (BA x.wid sh))) mp O->Mod (bz g O) h f->R (fw 170 0 0).v f)
  (c5: ∀f C aV r u D,D=BF (EP x p (BR (fl x.wid) x.wid (BA x.wid sh) now) aV) r u->NY fl an (y.f (BA x.wid sh)) x p=none->y.dm C->(Dp (EP x p (BR (fl x.wid) x.wid (BA x.wid sh) now) aV)=true->dW y C (BA x.wid sh) r)->D.err=0->LW B g f s (a+1) (N+3) sh (l.set i C) (cq mp (Er D++D.ar)) O->
   KS (cq mp (Er D++D.ar)) (dH fl x.wid ((fl x.wid).getD []++D.more)) (dH an x.aV (NE x p,D.st.status,D.st.next))->Ai ((fl x.wid).getD []++D.more)=D.st->(∀ n bs ci,CG (cq mp (Er D++D.ar)) (F3 n bs ci)=CG mp (F3 n bs ci))->Mod (bz g O) h f->R (fw 0 D.st.status D.st.next).v f):
  AA A P Dg #[Ar y.p,cZ,J6 J9 now,x.v] h R:=by
 obtain⟨-,cj,c6⟩:=ac.dR ah;have ck:=(List.getElem?_eq_some_iff.1 ah).1;have dk:l.set i y=l:=by rw[<- (List.getElem?_eq_some_iff.1 ah).2];exact OR ck
 have d6:=XX x.wid cj;refine AAQ ?_;unfold TN;refine ao.mk λak _ al bt d7=>ao.mk λaw _ a4 cl d8=>?_
 have ad:Ext h aw:=bt.trans cl;have al:aw[h.size]? =some (J2 x.c Mj (0,0)):=cl.ag al λh=>h
 have d9:=Aj a4;have aN: ∀ {U:aa} (e st nx:Int),Ext aw U->(∀ f,Ext h f->R (fw e st nx).v f)->aL U ⟨ak.size,0,none⟩ (fw e st nx).l λa5=>GR a5 ⟨ak.size,0,none⟩ λc7=>R (c7.v) a5:=λ{U} e st nx I c8=>
  kN (I.ag a4 λh=>h) λf bu=>c8 f ((ad.trans I).more bu λc d=>by subst d;exact bt.size)
 refine ai.mk λK c9=>?_
 have cm: ∀a6:Bool,(a6=true↔x.kind<1\/4<x.kind)->K (a6,()) aw:=λa6 co=>by
  refine c9 _ _ (af.intro (λk=>aN 1 0 0 Mod.refl λf I=>aM f 1 0 0 (by unfold NY;rw[if_pos (co.1 k)]) I) (λk=>?_));have k:a6=false:=k;have bv: ¬(x.kind<1\/4<x.kind):=λh=>by rw[co.2 h] at k;cases k
  have cr:1<=x.kind/\x.kind<=4:=by omega
  refine oU.mk x (Dn al rfl) (ANd (V.ext ad) a3 len cr λea aW=>⟨_,_,rfl,?_⟩);by_cases ae:Pg x p=0;rotate_left
  ·refine af.yes (by simp[ae]) (aN (Pg x p) 0 0 aW λf I=>aM f _ 0 0 (by unfold NY;rw[if_neg bv,if_pos ae]) I)
  rw[if_pos ae];refine af.no (by simp[ae]) (af.no rfl ?_);obtain⟨bw,da,ax,aX⟩:=kO ae;have eb:=FB ax;have ec:=FB aX;have dl:=APc ae cr;have bx:=ac.on (ad.trans aW);have bB:=aW.ag al λh=>h
  refine AJ.mk (n:=x.wid) (AB bB rfl) (bx.aF ah ⟨_,rfl,⟨AB bB rfl,Sq (by omega) cj c6 ⟨_,_,rfl,bx.holds ah ⟨_,rfl,?_⟩⟩⟩⟩);refine af.intro (λk=>aN 170 0 0 aW λf I=>aM f 170 0 0 (by unfold NY;rw[if_neg bv,if_neg (by simp[ae]),if_pos (by simpa using k)]) I) (λk=>?_);have bC:y.f (BA x.wid sh)≠0:=by simpa using k
  have q:NY fl an (y.f (BA x.wid sh)) x p=match an x.aV with
    |some F=>if F.1≠NE x p then some (184,0,0) else some (0,F.2.1,F.2.2)
    |none=>match fl x.wid with
     |none=>if x.kind=1 then none else some (180,0,0)
     |some l=>if x.kind=1 then some (181,0,0) else if(Ai l).status≠0 then some (182,0,0) else none:=by
   unfold NY;rw[if_neg bv,if_neg (by simp[ae]),if_neg bC];try rfl
  refine AJ.mk (n:=x.aV) (AB bB rfl) (AIU bx ah aj aX λed db=>?_);have a7:=aW.trans db;cases bE:an x.aV with
  |some F=>
   rw[bE] at q;refine⟨_,KZ.mk (fw 0 F.2.1 F.2.2) ⟨_,_,rfl,ao.mk λa5 _ bF bG dc=>aL.mk bF (A0 9) λbH bI bJ dd=>af.no rfl ?_⟩⟩;rw[QU] at bI;have ay:Ext aw bH:=(a7.trans bG).more bJ λc d=>by subst d;exact a7.size
   refine ai.mk λde bK=>af.yes rfl (bK _ _ ?_)
   rw[Cn];refine af.intro (λk=>aN 184 0 0 ay λf I=>aM f 184 0 0 (by
    have k: ¬(AX F.1=AX (NE x p)):=by simpa using k
    rw[q];show(if F.1≠NE x p then _ else _)=_;rw[if_pos λh=>k (by rw[h])]) I) (λk=>af.yes rfl (GR.mk (fw 0 F.2.1 F.2.2) (UG bI) (aN 0 F.2.1 F.2.2 ay λf I=>aM f 0 F.2.1 F.2.2 (by
    have k:AX F.1=AX (NE x p):=by simpa using k
    rw[q];show(if F.1≠NE x p then _ else _)=_;rw[if_neg (by rw[Mx.1 k];simp)]) I)))
  |none=>
   rw[bE] at q;refine⟨_,KZ.mk bV.z ⟨_,_,rfl,ao.mk λa5 _ bF bG dc=>aL.mk bF (A0 9) λbH bI bJ dd=>af.no rfl ?_⟩⟩;have ay:Ext aw bH:=(a7.trans bG).more bJ λc d=>by subst d;exact a7.size
   refine ai.mk λde bK=>af.no rfl (bK _ _ (af.no rfl (af.no rfl ?_)))
   have df:=ac.on (ad.trans ay);refine AJ.mk (n:=x.wid) (AB (ay.ag al λh=>h) rfl) (tG df ah aj (λh=>by rw[ax] at h;cases h) λ_ aY cs=>Qo.mk _ ⟨_,rfl,ao.mk λee _ dg dh ef=>aL.mk dg (A0 18) λbL az di eg=>?_⟩);rw[XP] at az;have ct:Ext aY bL:=dh.more di λc d=>by subst d;exact A0 _
   have aA:Ext aw bL:=(ay.trans cs).trans ct;have eh:=(ay.trans cs).size;have a8:=aA.ag al λh=>h
   refine ai.mk λcu cv=>?_
   have bM: ∀(e:Int),e≠0->NY fl an (y.f (BA x.wid sh)) x p=some (e,0,0)->cu (e,()) bL:=λe J d=>
    cv _ _ (af.yes (by simp[J]) (aN e 0 0 aA λf I=>aM f e 0 0 d I))
   have cw: ∀l,fl x.wid=some l->KE l:=λl aC=>aj.cV _ _ aC
   obtain⟨aZ,bN,bO,cx,bP,cz,cB,dj⟩:=AJv (wid:=x.wid) (n:=BA x.wid sh) (now:=now) cw;obtain⟨ei,dn,aO⟩:=AR1 (wid:=x.wid) (n:=BA x.wid sh) (now:=now) cw;have cC: ∀ {U:aa} {es:Sl} {a' b' c':Sl},NY fl an (y.f (BA x.wid sh)) x p=none->Ext h U->U[h.size]? =some (J2 x.c Mj (0,0))->U[ak.size]? =some (J2 bV.z.c DJ (0,0))->
     (∃ fv:bX,U[aY.size]? =some (J2 fv.c DI (0,0))/\fv=⟨x.wid,(BA x.wid sh:Int),⟨(BR (fl x.wid) x.wid (BA x.wid sh) now).cE,(BR (fl x.wid) x.wid (BA x.wid sh) now).cj,false⟩,es,(BR (fl x.wid) x.wid (BA x.wid sh) now).st.V a' b' c'⟩)->
     KA U (BR (fl x.wid) x.wid (BA x.wid sh) now).st a' b' c'->(∀ c,a'.ag=some c\/b'.ag=some c\/c'.ag=some c->aY.size<c)->(∀ a9:bA,a9=PP x.wid (BA x.wid sh) (BR (fl x.wid) x.wid (BA x.wid sh) now).cE (BR (fl x.wid) x.wid (BA x.wid sh) now).cj false (BR (fl x.wid) x.wid (BA x.wid sh) now).st now->a9=BR (fl x.wid) x.wid (BA x.wid sh) now)->
     cu (0,()) U:=λ{U es a' b' c'} dp bQ dq dr a0 ba fr bR=>by
    have bR:=bR _ rfl;have bb:=dp;generalize ej:BR (fl x.wid) x.wid (BA x.wid sh) now=b at*
    obtain⟨fv,a0,rfl⟩:=a0;refine cv _ _ (af.no rfl (I7.mk _ (X6 a0) ?_));have ek:=Aj a0
    let Q:Nat->Prop:=λc=>O c\/c=h.size\/c=ak.size\/c=aY.size
    have cD: ∀c,iN b.st a' b' c' c->aY.size<c:=λc d=>fr c (by
     rcases d with⟨_,h⟩|⟨_,h⟩|⟨_,h⟩
     ·exact .inl h
     ·exact .inr (.inl h)
     ·exact .inr (.inr h))
    have el:=bt.size;have cE: ∀c,O c->c<h.size:=λc d=>(ac.out d).1
    have ds:LW B g U s a N sh (l.set i y) mp (λc=>Q c\/iN b.st a' b' c' c):=by
     rw[dk];refine ac.own bQ.mod λc d=>?_
     rcases d with(h|h|h|h)|h
     ·exact .inl h
     ·exact .inr (by omega)
     ·exact .inr (by omega)
     ·exact .inr (by omega)
     ·exact .inr ⟨by have:=cD c h;omega,ba.lt h⟩
    refine AQg (O:=Q) (now:=now) ds ck ba (λc d S=>?_) λaD bc z cF aP Y=>⟨_,rfl,?_⟩
    ·have:=cD c d;rcases S with h|h|h|h
     ·have:=cE c h;omega
     ·omega
     ·omega
     ·omega
    rw[bR] at aP;have bS: ∀ {c:Nat} {w:aa} {o:Obj},w[c]? =some o-> ∀ {T:aa},Q c->Mod (bz g Q) w T->T[c]? =some o:=λ{c w o} bT {T} S m=>m.ag bT λbU=>bU.2 S
    have cG:Q h.size:= .inr (.inl rfl);have bd:Q ak.size:= .inr (.inr (.inl rfl));have aQ:=Y.ag dq λh=>h
    have dt:=Y.ag dr λh=>h
    have du: ∀e∈b.more,Dl e=true/\e.data.size<1099511627776:=λe J=>by rw[bN] at J;cases J
    refine AC.mk (n:=x.kind) (AL aQ rfl) (ai.mk λcH dv=>?_);have bW: ∀ {L:aa} {z':Nat->Nat} {ie:eI} {C:Hs} (num:Nat),CW B g L s a (N+1) sh l i C mp Q bc z' ie (Cw x p b num)->y.dz C->Mod (bz g Q) aD L->cH () L:=λ{L z' ie C} num aR M bY=>by
     have G:=ANN (num:=num) ae du aZ;have dw:=AKu G bN;have bZ:=G.ar;rw[bO] at bZ;have nx:=G.st.next;have dx:=bS aQ cG bY;have dy:=bS dt bd bY;refine dv _ _ (ARW aR nx λaE aF=>KZ.mk (fw 0 (Di (Cw x p b num)).1 (Di (Cw x p b num)).2) ⟨rfl,ao.mk λdz _ dA b0 en=>aL.mk dA (A0 9) λb1 am dB eo=>?_⟩);rw[QU] at am;have be:Ext L b1:=(aF.trans b0).more dB λc d=>by subst d;exact aF.size
     have bf:=aF.size;have ep:=Aj am
     let aG:Nat->Prop:=λc=>Q c\/c=aE.size
     have dC:CW B g b1 s a (N+1) sh l i C mp aG bc z' ie (Cw x p b num):=aR.wider (O':=aG) be.mod λc d=>d.imp id λh=>by omega
     have cI:0<=(Di (Cw x p b num)).1/\(Di (Cw x p b num)).1<=4:=G.st.st;have cJ:0<=(Di (Cw x p b num)).2/\(Di (Cw x p b num)).2<=502:=by unfold Di;dsimp only;split<;>omega
     have b2:=G6 (n:=(Di (Cw x p b num)).1.toNat) (by omega);have eq:=G6 (n:=(Di (Cw x p b num)).2.toNat) (by omega);have er:=AV (n:=(NE x p).length) (by omega);have et:(BI (NE x p)).length<=2010:=by unfold BI;rw[A1];omega
     refine AJ.mk (n:=x.aV) (AB (be.ag dx λh=>h) rfl) (AC.mk (n:=(Di (Cw x p b num)).1) (AB am rfl) (AC.mk (n:=(Di (Cw x p b num)).2) (AB am rfl) (uf (by omega) ⟨_,rfl,AB am rfl,AB am rfl,PY (l:=NE x p) (by omega) λeu cK=>⟨_,rfl,?_⟩⟩)));have b3:=cK.ag am λh=>h
     refine⟨AB b3 rfl,AB b3 rfl,?_⟩;rw[Oy (by omega) (by omega)];refine CU (by omega) λev cL=>⟨_,rfl,?_⟩
     rw[Ao];have dD:=cL.ag b3 λh=>h
     refine⟨AB dD rfl,by rw[AP,AP,max_i64];omega,?_⟩;rw[Oy (by omega) (by omega)];refine CU (by omega) λew dE=>⟨_,rfl,⟨by rw[AP,AP,A1,max_i64];omega,?_⟩⟩
     rw[Ao,A4];have bg:=(cK.trans cL).trans dE;have dF:=dC.on bg;refine AOC (key:=JO x.aV) (val:=iT (NE x p) (Di (Cw x p b num)).1.toNat (Di (Cw x p b num)).2.toNat) dF (by rw[G.conds,cx];decide) (by simp at bZ;omega) λb4 ex ey cM b5=>⟨rfl,?_⟩
     have bh: ∀ {c:Nat} {w:aa} {o:Obj},w[c]? =some o-> ∀ {T:aa},aG c->Mod (bz g aG) w T->T[c]? =some o:=λ{c w o} bT {T} S m=>m.ag bT λbU=>bU.2 S
     have cN:aG aE.size:= .inr rfl;have dG:=bh (bg.ag am λh=>h) cN b5;have dI:=bh (bg.ag (be.ag dy λh=>h) λh=>h) (.inl bd) b5;have dJ:oQ (Cw x p b num) (JO x.aV) (iT (NE x p) (Di (Cw x p b num)).1.toNat (Di (Cw x p b num)).2.toNat)=EP x p b num:=rfl;rw[dJ] at cM;have ap:(EP x p b num).conds= [⟨JO x.aV,⟨#[]⟩,true⟩]:=by show(Cw x p b num).conds++_=_;rw[G.conds,cx];rfl
     have aH:(EP x p b num).aq=BA x.wid sh:=G.aq.trans cz;have b6:(EP x p b num).wid=x.wid:=G.wid.trans bP;have ez:(EP x p b num).ar.length<=2:=by show((Cw x p b num).ar++ [_]).length<=2;rw[A1,Ds];simp at bZ;omega
     have b7: ∀ {w:aa},Mod (bz g aG) b4 w->w[ak.size]? =some (J2 bV.z.c DJ (0,0))/\Mod (bz g O) h w:=λ{w} m=>⟨bh dI (.inl bd) m,by
      have bi:Mod (bz g O) h aD:=(bQ.trans Y).mod;have dK:Mod (bz g O) aD L:=bY.aj λc _ d=>bz.less d λc S=> .inl S
      have dL:Mod (bz g O) b1 b4:=bg.mod.trans (b5.aj λc _ d=>bz.less d λc S=> .inl (.inl S));have dM:Mod (bz g O) b4 w:=m.aj λc _ d=>bz.less d λc S=> .inl (.inl S)
      exact(((bi.trans dK).trans be.mod).trans dL).trans dM⟩
     have b8: ∀ {w T:aa} {bi cO:Nat} {b2:List Hs} {cP:List Pr},LW B g w s bi cO sh b2 cP aG->Mod (· =ak.size) w T->LW B g T s bi cO sh b2 cP O:=λdN m=>dN.own (m.aj λc _ d=>by subst d;exact .inl bd) λc d=> .inl (.inl (.inl d))
     have last: ∀ {w T:aa},Mod (bz g O) h w->Mod (· =ak.size) w T->Mod (bz g O) h T:=λm bu=>m.trans (bu.aj λc _ d=>by
      subst d;have:=ac.ext.size;exact⟨by omega,λS=>by have:=cE _ S;omega⟩)
     have dm: ∀ {Z:Hs},C.dS Z->y.dm Z:=λ{Z} W=>⟨W.p.trans M.p,W.name.trans M.name,W.f.trans M.f,λm=>by have:=M.u m;have:=W.u m;omega⟩
     have dO:F3 (EP x p b num).aq (C.f (EP x p b num).aq) C.name=F3 (BA x.wid sh) (y.f (BA x.wid sh)) y.name:=by rw[aH,M.f,M.name]
     have dP:bD (EP x p b num)=bD b:=by show bD (Cw x p b num)=_;unfold bD;rw[G.cj,G.cE,G.kept,G.wid]
     have dQ:CG mp (bD (EP x p b num))=true:=by
      rw[dP];refine AJ3 aj (by rw[bP];exact ax) ?_;rw[bP];unfold qd at aO;split at aO
      ·rename_i E;first|exact aO|(rw[E];exact aO)
      ·rename_i E;first|exact aO|(rw[E];exact aO)
     have cQ:Ea (EP x p b num).st (500+1):=G.st;have cR: ∀e∈(EP x p b num).more,Dl e=true/\e.data.size<1099511627776:=G.ok;refine AN3 c0 cM cQ (by omega) (by rw[b6];exact ax) cR (by rw[aH];omega) (by rw[aH,M.f];exact cg _) (by have:=M.u (EP x p b num).aq;have:=ch (EP x p b num).aq;omega) (by omega) hA c1 c2 (by show(Cw x p b num).more.length<=_;omega) (by omega) (by rw[ap];simp) (λH k=>by
       rw[ap] at k;rw[List.mem_singleton.1 k];show(JO x.aV).size<=_;rw[Vl];omega) (by show 0<=(Cw x p b num).cE/\(Cw x p b num).cE<128;rw[G.cE];omega) (by show 0<=(Cw x p b num).cj/\(Cw x p b num).cj<=501;rw[G.cj];exact dn) (by show -_<=(Cw x p b num).now/\(Cw x p b num).now<=_;rw[G.now,cB];omega)
      (λdR=>absurd dR (by rw[aH,M.f];exact bC)) (λr u Z b9 W J aI aJ=>⟨_,rfl,?_⟩) (λr u Z b9 W J aC aI aJ=>⟨_,rfl,?_⟩) (λr u Z b9 W J aC hd aI aJ=>?_) (λr u Z b9 W dS J aC hd aI aJ=>⟨_,rfl,?_⟩)
     ·obtain⟨aS,aT⟩:=b7 aJ;refine af.yes (by simpa using J) (kN (x:=fw (BF (EP x p b num) r u).err 0 0) aS λa1 aq=>?_);exact c3 a1 Z num r u bb (dm W) J (b8 aI aq) (last aT aq)
     ·obtain⟨aS,aT⟩:=b7 aJ;rw[dO] at aC;refine af.yes rfl (kN (x:=fw 170 0 0) aS λa1 aq=>?_);rw[aH] at aI;exact c4 a1 Z bb (dm W) aC (b8 aI aq) (last aT aq)
     all_goals
      have X:=uA (n:=500+1) cR cQ r u;have ca:(BF (EP x p b num) r u).beside (some (x.aV,(NE x p,(Di (Cw x p b num)).1,(Di (Cw x p b num)).2))):=by have vc:=(tQ J).2;have:=X.st.next;refine AG4 (AIt (x:=(NE x p,(Di (Cw x p b num)).1,(Di (Cw x p b num)).2)) (AKn bO) aX cI ?_ dl) r u;have dT:(Di (EP x p b num)).2=(Di (Cw x p b num)).2:=rfl;rw[dT] at vc;exact⟨cJ.1,by show(Di (Cw x p b num)).2<=501;omega⟩
      have mem:Yz x.aV (NE x p,(Di (Cw x p b num)).1,(Di (Cw x p b num)).2)∈(BF (EP x p b num) r u).ar:=AMq (IN _ (by simp[Yz])) r u
     ·exfalso;refine hd (AT7 (by rw[X.wid,b6];exact ax) X.ok X.st ca ?_ (λh=>?_) ?_ λc d=>?_)
      ·have aS:=X.more;have aT:=X.ar;have eA:(EP x p b num).more.length<=1:=dw;omega
      ·rw[Tl] at h;rw[h.2] at mem;cases mem
      ·rw[ap];simp
      ·rw[ap] at d;rcases List.mem_cons.1 d with rfl|d
       ·exact aC
       ·rcases List.mem_append.1 d with d|d
        ·rw[List.mem_singleton.1 d];exact ANC aj aX bE
        ·rw[List.mem_singleton.1 d];exact dQ
     ·obtain⟨aS,aT⟩:=b7 aJ;obtain⟨bj,bk⟩:=tQ J;have bj:(BF (EP x p b num) r u).st.status=(Di (Cw x p b num)).1:=bj;have bk:(BF (EP x p b num) r u).st.next=(Di (Cw x p b num)).2:=bk;have dU:=bh dG cN aJ;refine af.no rfl (GR.mk (fw 0 (Di (Cw x p b num)).1 (Di (Cw x p b num)).2) (UG dU) (kN aS λa1 aq=>?_));rw[<- bj,<-bk];have cS:(BF (EP x p b num) r u).fits ((fl x.wid).getD []):=AKE (AQC dj);have bm:(BF (EP x p b num) r u).wid=x.wid:=X.wid.trans b6;have cT:(fl x.wid).getD []++(BF (EP x p b num) r u).more≠ []:=by
       intro h;rw[Tl] at h;have bn:x.kind=1:=by
        cases E:fl x.wid with
        |some l=>
         rw[E] at h;exact absurd h.1 (aj.cV _ _ E).ne
        |none=>
         rw[E] at q;rw[bb] at q;by_cases bn:x.kind=1
         ·exact bn
         ·have q:(none:Option (Int×Int×Int))=if x.kind=1 then none else some (180,0,0):=q;rw[if_neg bn] at q;cases q
       have ar:(EP x p b num).err=0:=AO0 (Vo J);have ar:(Cw x p b num).err=0:=ar;refine X.none (λag=>?_) h.2;have ag:(Cw x p b num).more= []:=ag;unfold Cw at ag ar;rw[if_pos bn] at ag ar;split at ag
       ·rename_i cb;rw[if_pos cb] at ar;rw[(Ha _ _ _ _).2,(qc (YE ar)).1] at ag;simp at ag
       ·rename_i cb;rw[if_neg cb] at ar;rw[(qc ar).1] at ag;simp at ag
      have a2:=aj.done ac.sorted (D:=BF (EP x p b num) r u) (o:=some (x.aV,(NE x p,(Di (Cw x p b num)).1,(Di (Cw x p b num)).2))) (by rw[bm];exact ax) (by rw[bm];exact cS) (by rw[bm];exact cT) X.st ca (λbs eB cc=>by
       cases cc;have:=X.st.next;exact⟨mem,aX,cI,⟨cJ.1,by show(Di (Cw x p b num)).2<=501;omega⟩,dl⟩)
      rw[bm] at a2;have a2:KS _ _ (dH an x.aV (NE x p,(Di (Cw x p b num)).1,(Di (Cw x p b num)).2)):=a2;rw[<- bj,<-bk] at a2;exact c5 a1 Z num r u _ rfl bb (dm W) (λcc=>by
       obtain⟨v,v1,v2,cU⟩:=dS cc (by rw[aH,M.f];exact bC);rw[aH] at v1 v2 cU;exact⟨v,by have:=M.u (BA x.wid sh);omega,v2,by rw[cU,M.f]⟩) J (b8 aI aq) a2 (tN cS cT X.st).2 (AJK ac.sorted ca) (last aT aq)
    have dV:CW B g aD s a (N+1) sh l i y mp Q bc z cF b:=aP.put (by omega) (by omega) (by omega);have bo: ∀ {L z' ie} (e:Ev) (D:bA),D=EF b e->CW B g L s a N sh l i y mp Q bc z' ie D->Mod (bz g Q) aD L->(∀ num,Cw x p b num=D)->cH () L:=λ{L z' ie} e D eC aR aU d=>bW (z':=z') (ie:=ie) 0 (by rw[d];exact aR.put (by omega) (by omega) (by omega)) (Hs.dz.refl y) aU
    have cV:(⟨#[]⟩:A2M).size<1099511627776:=by decide
    have bp:b.more.length<1000:=by rw[bN];decide
    refine af.intro (λj=>?_) (λj=>?_)
    ·have j:x.kind=1:=by simpa using j
     refine Aa.mk (s:=x.steps) (AB aQ rfl) (AC.mk (n:=x.az) (Bz (by exact aQ) rfl) ?_);rw[a3];refine uv (V.ext (bQ.trans Y)) len λL bq=>?_
     have aR:=aP.on bq;unfold YU;rw[bw j];have eD:=Rs (bw j);refine⟨_,_,rfl,mo (e:=cX 1 (AX (Cq p))) aR aZ (by omega) (by show(AX (Cq p)).size<_;rw[AP];omega) bp λaE bf aF au aK=>⟨rfl,?_⟩⟩;have cd:Mod (bz g Q) aD aE:=bq.mod.trans aK;have cW:=bS aQ cG cd;refine AC.mk (n:=x.az) (Bz (by exact cW) rfl) ?_;rw[a3];refine af.intro (λk=>?_) (λk=>?_)
     ·have k:0<p.az:=by simpa using k
      have eE:=(xY (bw j)).2.1;refine AC.mk (n:=x.az) (Bz (by exact cW) rfl) ?_;rw[a3,wrap_i64 (by omega) (by omega)];have dX:(EF b (cX 1 (AX (Cq p)))).aq=BA x.wid sh:=(Od _ _).2.1.trans cz;refine uy (t:=⟨6,⟨#[]⟩,0,0⟩) au (by rw[dX];omega) (cg _) (by have:=ch (EF b (cX 1 (AX (Cq p)))).aq;omega) (by omega) (by omega) (by rw[tL,bO];decide) (by omega) λdz dY b0 C num dZ M _ d0=>⟨rfl,?_⟩
      refine bW (z':=dY) (ie:=b0) num ?_ M (cd.trans d0);have ap:Cw x p b num=ET (EF b (cX 1 (AX (Cq p)))) ⟨6,0,0⟩ (if(0:Int)>now+p.az then 0 else now+p.az) num:=by unfold Cw tO;rw[if_pos j,if_pos k,cB]
      rw[ap];exact dZ
     ·have k: ¬0<p.az:=by simpa using k
      exact bo (cX 1 (AX (Cq p))) _ rfl au cd λnum=>by unfold Cw;rw[if_pos j,if_neg k]
    have j:x.kind≠1:=by simpa using j
    refine af.intro (λab=>?_) (λab=>?_)
    ·have ab:x.kind=2:=by simpa using ab
     refine AJ.mk (n:=x.name) (AB aQ rfl) (mo (e:=cX 12 x.name) aP aZ (by omega) (by have:=FB (da ab);show x.name.size<_;omega) bp λaE bf aF au aK=>⟨rfl,?_⟩);exact bo (cX 12 x.name) _ rfl au aK λnum=>by unfold Cw;rw[if_neg j,if_pos ab]
    have ab:x.kind≠2:=by simpa using ab
    refine af.intro (λav=>?_) (λav=>?_)
    ·have av:x.kind=3:=by simpa using av
     have d1:=Y.ag a0 λh=>h
     refine AZ.mk (n:=b.st.cancel) (Bz (by exact d1) rfl) (af.intro (λd=>?_) (λd=>?_))
     ·have d: ¬b.st.cancel=true:=by simpa using d
      refine mo (e:=cX 13 ⟨#[]⟩) aP aZ (by omega) cV bp λaE bf aF au aK=>⟨rfl,?_⟩
      exact bo (cX 13 ⟨#[]⟩) _ rfl au aK λnum=>by unfold Cw;rw[if_neg j,if_neg ab,if_pos av,if_neg d]
     ·have d:b.st.cancel=true:=by simpa using d
      refine bW (z':=z) (ie:=cF) 0 ?_ (Hs.dz.refl y) Mod.refl;have ap:Cw x p b 0=b:=by unfold Cw;rw[if_neg j,if_neg ab,if_pos av,if_pos d]
      rw[ap];exact dV
    have av:x.kind≠3:=by simpa using av
    refine af.yes (by simp;omega) (mo (e:=cX 18 ⟨#[]⟩) aP aZ (by omega) cV bp λaE bf aF au aK=>⟨rfl,?_⟩);exact bo (cX 18 ⟨#[]⟩) _ rfl au aK λnum=>by unfold Cw;rw[if_neg j,if_neg ab,if_neg av]
   refine AC.mk (n:=x.kind) (AL a8 rfl) ?_;cases E:fl x.wid with
   |none=>
    rw[E] at q az;refine af.intro (λj=>?_) (λj=>?_)
    ·have j:x.kind=1:=by simpa using j
     have q:NY fl an (y.f (BA x.wid sh)) x p=if x.kind=1 then none else some (180,0,0):=q;rw[if_pos j] at q;refine af.no rfl (af.yes rfl (cC (es:=Xb) (a':=Xb) (b':=Xb) (c':=Xb) q (ad.trans aA) a8 (aA.ag a4 λh=>h) ⟨_,az,by rw[E];rfl⟩ ?_ (λc d=>by simp[Sl.ag] at d) (λa9 ce=>by rw[ce,E];rfl)));rw[E];exact⟨View.nil,View.nil,View.nil⟩
    ·have j:x.kind≠1:=by simpa using j
     have q:NY fl an (y.f (BA x.wid sh)) x p=if x.kind=1 then none else some (180,0,0):=q;rw[if_neg j] at q;exact ai.mk λd2 cf=>af.no rfl (cf _ _ (af.no rfl (af.no rfl (bM 180 (by decide) q))))
   |some br=>
    rw[E] at q az;have q:NY fl an (y.f (BA x.wid sh)) x p=if x.kind=1 then some (181,0,0) else if(Ai br).status≠0 then some (182,0,0) else none:=q;refine af.intro (λj=>?_) (λj=>?_)
    ·have j:x.kind=1:=by simpa using j
     rw[if_pos j] at q;exact af.yes rfl (bM 181 (by decide) q)
    have j:x.kind≠1:=by simpa using j
    rw[if_neg j] at q;refine ai.mk λd2 cf=>af.yes rfl (AC.mk (n:=(Ai br).status) (CJ (by exact az) rfl) (cf _ _ (af.intro (λH=>?_) (λH=>?_))))
    ·have H:(Ai br).status≠0:=by simpa using H
     rw[if_pos H] at q;exact bM 182 (by decide) q
    have H:(Ai br).status=0:=by simpa using H
    rw[if_neg (by simp[H])] at q;have d3:=ac.on (ad.trans aA);refine af.yes rfl (AJ.mk (n:=x.wid) (AB a8 rfl) (pZ d3 ah aj ax E λaD es a' b' c' Y eF ba fr eG=>Qo.mk _ ⟨_,rfl,aL.mk (Y.ag az λh=>h) (A0 18) λL cY aU eH=>?_⟩));rw[XP] at cY;have eJ:=ct.size;have eK:=Aj az;have bq:Ext h L:=((ad.trans aA).trans Y).more aU λc d=>by subst d;have:=ad.size;omega
    refine cC q bq (aU.ag (Y.ag a8 λh=>h) (by have:=ad.size;omega)) (aU.ag (Y.ag (aA.ag a4 λh=>h) λh=>h) (by omega)) ⟨_,cY,by rw[E];rfl⟩ ?_ (λc d=>by have:=fr c d;omega) (λa9 ce=>by rw[ce,E];rfl);rw[E];exact ba.fresh aU fr λc d=>by subst d;omega
 refine AC.mk (n:=x.kind) (AL al rfl) (af.intro (λH=>cm true ?_) (λH=>AC.mk (n:=x.kind) (AL al rfl) (cm _ ?_)))
 ·have H:x.kind<1:=by simpa using H
  simp[H]
 ·have H: ¬x.kind<1:=by simpa using H
  simp[H]
end
section
variable {x x' : cp} {p p' : cn}
end
section
variable {A : al} {h : aa} {R : A2L}
end
class Zc where
 bx:Nat
 zf:A2M->Option (A2M×A2M)
def gi [Zc]:cu:=⟨32000,0,1600,by decide,by decide,by decide,Zc.bx,Zc.zf⟩
structure EW [Zc] (g h:aa) (s k sh:Nat) (l:List Hs) (mp:List Pr) (fl:cK) (an:cO) (O:Nat->Prop):Prop where
 w:LW gi g h s k (3*k) sh l mp O
 m:KS mp fl an
 all: ∀y∈l,∀n,y.u n<=3*k/\y.f n<=k
def jP(mp:List Pr)(y:Hs)(a:Nat):Prop:=y.f a≠0/\CG mp (F3 a (y.f a) y.name)=true
def Xe(fl:cK)(an:cO)(f:Nat)(x:cp)(p:cn)(j:Int)(b st nx:Int)(m:cK)(n:cO):Prop:=
 (m=fl/\n=an/\(NY fl an 1 x p=some (b,st,nx)\/(NY fl an 1 x p=none/\b≠0/\st=0/\nx=0/\ ∃c d e,b=(BF (EP x p (BR (fl x.wid) x.wid f j) c) d e).err)))\/
 (NY fl an 1 x p=none/\b=0/\ ∃c d e a,a=BF (EP x p (BR (fl x.wid) x.wid f j) c) d e/\a.err=0/\m=dH fl x.wid ((fl x.wid).getD []++a.more)/\n=dH an x.aV (NE x p,a.st.status,a.st.next)/\st=a.st.status/\nx=a.st.next/\Ai ((fl x.wid).getD []++a.more)=a.st)
def lZ(mp c:List Pr)(fl d:cK)(b:Nat)(x:cp)(p:cn)(e:Int)(y m:Hs):Prop:=(c=mp/\d=fl)\/ ∃f j n a,a=BF (EP x p (BR (fl x.wid) x.wid b e) f) j n/\a.err=0/\c=cq mp (Er a++a.ar)/\d=dH fl x.wid ((fl x.wid).getD []++a.more)/\
 (Dp (EP x p (BR (fl x.wid) x.wid b e) f)=true->dW y m b j)
theorem AMz {fl:cK}{an:cO}{k:Nat}{x:cp}{p:cn}(h:k≠0):NY fl an k x p=NY fl an 1 x p:=by unfold NY;rw[if_neg h,if_neg (show ¬(1:Nat)=0 by decide)]
theorem ARA {l:List Hs}{i:Nat}{b:Hs}{Q:Hs->Prop}(h: ∀y∈l,Q y)(c:Q b): ∀y∈l.set i b,Q y:=λy d=>by
 rcases To d with a|a
 ·exact h y a
 ·rw[a];exact c
section
variable {A : al} {g h : aa} {s k sh : Nat} {l : List Hs} {mp : List Pr} {O : Nat -> Prop} {i : Nat} {y : Hs} {fl : cK} {an : cO} {R : A2L}
theorem EW.own [Zc]{a:aa}{O':Nat->Prop}(b:EW g h s k sh l mp fl an O)(d:Mod O h a)(e: ∀c,O' c->O c\/(h.size<=c/\c<a.size)):EW g a s k sh l mp fl an O':=⟨b.w.own d e,b.m,b.all⟩
theorem EW.on [Zc]{b:aa}(a:EW g h s k sh l mp fl an O)(x:Ext h b):EW g b s k sh l mp fl an O:=⟨a.w.on x,a.m,a.all⟩
theorem EW.iz [Zc]{x:cp}{p:cn}{T:J0}{n:Int}(U:cy g)(d:EW g h s k sh l mp fl an O)(o:l[i]? =some y)(ad:k+1<=490)(I:jP mp y (BA x.wid sh))(V:View Ql h x.steps p.steps)(W:x.az=p.az)(len:p.steps.length<=1099511627776)(X: -4611686018427300000<=n/\n<=4611686018427300000)
  (D: ∀c b E F J q st nx,EW g c s (k+1) sh (l.set i b) E F J O->y.dm b->(∀ a K r,CG E (F3 a K r)=CG mp (F3 a K r))->Mod (bz g O) h c->Xe fl an (BA x.wid sh) x p n q st nx F J->lZ mp E fl F (BA x.wid sh) x p n y b->R (fw q st nx).v c):
  AA A P Dg #[Ar y.p,T,J6 J9 n,x.v] h R:=by
 have G:=AM o;have ae:gi.C=32000:=rfl;have hA:gi.A=1600:=rfl;have Y:=(List.getElem?_eq_some_iff.1 o).1;have dk:l.set i y=l:=by rw[<- (List.getElem?_eq_some_iff.1 o).2];exact OR Y
 have H:=AMz (fl:=fl) (an:=an) (x:=x) (p:=p) I.1;have f: ∀ {b:Hs},y.dm b-> ∀z∈l.set i b,∀a,z.u a<=3*(k+1)/\z.f a<=k+1:=λ{b} f=>ARA (Q:=λz=> ∀a,z.u a<=3*(k+1)/\z.f a<=k+1) (λz Z a=>by have:=d.all z Z a;omega) λa=>by
  have:=d.all y G a;have:=f.u a;rw[f.f];omega
 refine ANH U d.w o d.m V W len X (λa=>by have:=(d.all y G a).2;omega) (λa=>by have:=(d.all y G a).1;omega) (by omega) (by omega) (by omega) (by omega)
  (λc q st nx e L=>?_) (λc b t u v e j w B C=>?_) (λc b e j M B C=>?_) λc b t u v N S e j r w B aa ab ac C=>?_
 ·rw[H] at e;refine D c y mp fl an q st nx ⟨?_,d.m,f ⟨rfl,rfl,rfl,λm=>by omega⟩⟩ ⟨rfl,rfl,rfl,λm=>by omega⟩ (λ_ _ _=>rfl) L.mod (.inl ⟨rfl,rfl,.inl e⟩) (.inl ⟨rfl,rfl⟩);rw[dk];exact(d.w.on L).put (by omega) (by omega) (by omega) (by omega)
 ·rw[H] at e;exact D c b mp fl an _ 0 0 ⟨B.put (by omega) (by omega) (by omega) (by omega),d.m,f j⟩ j (λ_ _ _=>rfl) C (.inl ⟨rfl,rfl,.inr ⟨e,w,rfl,rfl,t,u,v,rfl⟩⟩) (.inl ⟨rfl,rfl⟩)
 ·rw[I.2] at M;cases M
 ·rw[H] at e;exact D c b _ _ _ 0 _ _ ⟨B.put (by omega) (by omega) (by omega) (by omega),aa,f j⟩ j ac C (.inr ⟨e,rfl,t,u,v,N,S,w,rfl,rfl,rfl,rfl,ab⟩) (.inr ⟨t,u,v,N,S,w,rfl,rfl,r⟩)
end
abbrev mf:A2M:=⟨#[104,111,115,116,48]⟩
structure mg (mp:List Pr) (y:Hs) (sh:Nat):Prop where
 has: ∀n,n<sh->y.f n=1/\Ga mp n 1 y.name
 iA: ∀n,sh<=n->y.f n=0/\(n<256->Ga mp n 0 ⟨#[]⟩)
theorem mg.owns {mp:List Pr}{y:Hs}{sh a:Nat}(b:mg mp y sh)(c:a<sh):jP mp y a:=by obtain⟨d,e⟩:=b.has a c;refine⟨by omega,?_⟩;rw[d];exact e.holds (A0 _)
section
variable {A : al} {g h : aa} {s k sh : Nat} {y : Hs} {mp : List Pr} {O : Nat -> Prop} {R : A2L}
theorem LW.slt {b:cu}{a N:Nat}{l:List Hs}(c:LW b g h s a N sh l mp O):s<h.size:=by obtain⟨e,k,st,m,f,nn,d,_⟩:=c;exact d.lt
theorem ATU [Zc]{n:Nat}(t:cy g)(b:EW g h s n sh [y] mp (λ_=>none) (λ_=>none) O)(u:n<sh)(G:sh<=16)(d:mg mp y n)(v:Ak y.name=true)
  (w: ∀a e,EW g a s (n+1) sh [y.nh n 1] e (λ_=>none) (λ_=>none) O->mg e (y.nh n 1) (n+1)->Mod (bz g O) h a->e=cq mp [⟨CF n,KO 1 y.name,false⟩]->R (J1 #[J6 J9 1,J6 J9 0]) a):
  AA A P FV #[Ar y.p,J6 J9 (n:Int)] h R:=by
 have H:gi.C=32000:=rfl;have hA:gi.A=1600:=rfl;have c:=b.w.sorted;refine b.w.acquire (i:=0) (x:=y) (r:=0) (nm:=⟨#[]⟩) t rfl u ((d.iA n (A0 _)).2 (by omega)) (by decide) (by omega) (by omega) (by omega) (by omega) λa B C=>?_
 refine w a _ ⟨B.put (A0 _) (by omega) (by omega) (by omega),b.m.aS c (λp D=>?_),λz E m=>?_⟩ ⟨λm F=>?_,λm F=>?_⟩ C rfl
 ·rw[List.mem_singleton.1 D];show BH (CF n)≠104/\BH (CF n)≠119/\BH (CF n)≠114;rw[SB];decide
 ·rw[List.mem_singleton.1 E];have:=b.all y (by simp) m;show dG y.u n 0 m<=_/\dG y.f n 1 m<=_;unfold dG;constructor<;>split<;>omega
 ·show dG y.f n 1 m=1/\_;unfold dG;by_cases f:m=n
  ·subst f;rw[if_pos rfl];exact⟨rfl,Ga.laid c (by decide) (by decide) v⟩
  ·rw[if_neg f];obtain⟨j,o⟩:=d.has m (by omega);exact⟨j,o.other c λq=>f (ADU (by omega) (by omega) q).symm⟩
 ·show dG y.f n 1 m=0/\_;unfold dG;rw[if_neg (by omega)];obtain⟨j,o⟩:=d.iA m (by omega);exact⟨j,λh=>(o h).other c λq=>by have:=ADU (by omega) h q;omega⟩
end
theorem tT {id tick k:Int}(a:1<=id/\id<=500)(b:0<=tick/\tick<=1099511627776)(c:k=2\/k=13\/k=18):Dl ⟨id,k,tick,0,0,0,false,⟨#[]⟩⟩=true:=by have d:bU id 1 500=true:=Bd.2 a;have e:bU tick 0 1099511627776=true:=Bd.2 b;have f:bU k 1 18=true:=Bd.2 (by omega);unfold Dl En Ki;rw[d,e,f];rcases c with rfl|rfl|rfl<;>rfl
theorem ANk {id tick:Int}{data:A2M}(a:1<=id/\id<=500)(b:0<=tick/\tick<=1099511627776)(c:Ak data=true):Dl ⟨id,12,tick,0,0,0,false,data⟩=true:=by
 have d:bU id 1 500=true:=Bd.2 a;have e:bU tick 0 1099511627776=true:=Bd.2 b;unfold Dl En Ki;dsimp only;rw[d,e,c];have:dP 12=true:=by decide
 rw[this,HL];rfl
theorem AOD {id tick:Int}{p:cn}(a:1<=id/\id<=500)(b:0<=tick/\tick<=1099511627776)(c:GL p=true):Dl ⟨id,1,tick,0,0,0,false,AX (Cq p)⟩=true:=by
 have d:bU id 1 500=true:=Bd.2 a;have e:bU tick 0 1099511627776=true:=Bd.2 b;unfold Dl En Ki;dsimp only;rw[d,e,EJ,wE c];have:dP 1=true:=by decide
 rw[this,HL];rfl
theorem ZM {a:Int}{wid:A2M}{b:Int}(c:1<=a/\a<=7)(d:Ak wid=true)(e:0<=b/\b<=500):KN ⟨a,b,0⟩ wid=true:=by unfold KN;rw[Bd.2 c,d,Bd.2 e];rfl
theorem qe {a:bA}{t:gA}{tick:Int}{c:Nat}(b:a.err=0)(d:KN t a.wid=true):(ET a t tick c).err=0:=by unfold ET;rw[if_neg (by simp[b]),if_neg (by simp[d])];exact b
theorem AIE {a:bA}(b:Dp a=true):a.more≠ []/\a.st.status=0/\a.st.fresh=true/\a.st.asked=0/\a.st.taken=0:=by unfold Dp at b;simpa [and_assoc] using b
theorem APz {a:bA}(d:a.err=0)(e:Dp a=true)(m:2<=a.st.next/\a.st.next<=500)(f:0<=a.now/\a.now<=1099511627776):
  EF a Qm= {a with st:= {a.st with asked:=a.st.next,next:=a.st.next+1},more:=a.more++ [⟨a.st.next,2,a.now,0,0,0,false,⟨#[]⟩⟩]}:=by
 obtain⟨g,h,i,j,l⟩:=AIE e;have b:Cc a Qm=⟨a.st.next,2,a.now,0,0,0,false,⟨#[]⟩⟩:=by unfold Cc;rw[if_neg (by omega)];rfl
 have ok:=tT (id:=a.st.next) (tick:=a.now) (k:=2) (by omega) f (.inl rfl);have c:Bh a.st (Cc a Qm)=(0,{a.st with asked:=a.st.next,next:=a.st.next+1}):=by rw[b];unfold Bh;rw[if_neg (by simp[ok]),if_neg (by omega),if_neg (by simp[h]),if_neg (by simp)];unfold PM Dv;rw[if_pos (show(2:Int)<=2/\(2:Int)<=5 by decide),if_pos rfl,if_pos ⟨j,l,i⟩];rfl
 rw[oR d (.inl g) (by rw[c]),c,b]
theorem ANr {a:bA}{n1:Nat}(c:a.err=0)(e:2<=a.st.next/\a.st.next<=500)(f:0<=a.now/\a.now<=1099511627776)(g:Ak a.wid=true):(EZ a n1).err=0/\(EZ a n1).wid=a.wid/\(EZ a n1).now=a.now/\(EZ a n1).st=(if Dp a=true then {a.st with asked:=a.st.next,next:=a.st.next+1} else a.st)/\(EZ a n1).more=(if Dp a=true then a.more++ [⟨a.st.next,2,a.now,0,0,0,false,⟨#[]⟩⟩] else a.more):=by
 unfold EZ;split
 ·rename_i h;have b:=APz c h e f;have i:Wo (EF a Qm)=a.st.next:=by rw[b];show a.st.next+1-1=_;omega
  have d:KN ⟨1,Wo (EF a Qm),0⟩ (EF a Qm).wid=true:=by rw[i,b];exact ZM (by decide) g (by omega)
  refine⟨qe (by rw[b];exact c) d,?_,?_,?_,?_⟩
  ·unfold ET;rw[if_neg (by rw[b];simp[c]),if_neg (by simp[d]),b]
  ·unfold ET;rw[if_neg (by rw[b];simp[c]),if_neg (by simp[d]),b]
  ·rw[(Ha _ _ _ _).1,b]
  ·rw[(Ha _ _ _ _).2,b]
 ·exact⟨c,rfl,rfl,rfl,rfl⟩
theorem AJ9 {a:bA}{n1 n2:Nat}(f:a.err=0)(g:2<=a.st.next/\a.st.next<=500)(h:0<=a.now/\a.now<=1099511627776)(b:Ak a.wid=true):(BF a n1 n2).err=0/\(BF a n1 n2).st=(if Dp a=true then {a.st with asked:=a.st.next,next:=a.st.next+1} else a.st)/\(BF a n1 n2).more=(if Dp a=true then a.more++ [⟨a.st.next,2,a.now,0,0,0,false,⟨#[]⟩⟩] else a.more):=by
 obtain⟨c,i,j,d,e⟩:=ANr (n1:=n1) f g h b;unfold BF;split
 ·refine⟨qe c (by rw[i];exact ZM (by decide) b (by decide)),?_,?_⟩
  ·rw[(Ha _ _ _ _).1,d]
  ·rw[(Ha _ _ _ _).2,e]
 ·exact⟨c,d,e⟩
theorem tU {x:cp}{p:cn}{n n0:Nat}{a:Int}(k:x.kind=1)(d:GL p=true)(l:Ak x.wid=true)(r:0<=a/\a<=1099511611776):
  (Cw x p (BR none x.wid n a) n0).err=0/\(Cw x p (BR none x.wid n a) n0).st=⟨p,0,2,a,0,0,true,[],[],false,false⟩/\(Cw x p (BR none x.wid n a) n0).more= [⟨1,1,a,0,0,0,false,AX (Cq p)⟩]/\(Cw x p (BR none x.wid n a) n0).wid=x.wid/\(Cw x p (BR none x.wid n a) n0).now=a:=by
 have ok:=AOD (id:=1) (tick:=a) (p:=p) (by decide) (by omega) d;have f:(BR none x.wid n a).err=0:=by show(if a<0\/1099511611776<a then(1:Int) else 0)=0;rw[if_neg (by omega)]
 have g:Cc (BR none x.wid n a) (cX 1 (AX (Cq p)))=⟨1,1,a,0,0,0,false,AX (Cq p)⟩:=rfl;have h:Bh (BR none x.wid n a).st (Cc (BR none x.wid n a) (cX 1 (AX (Cq p))))=(0,⟨p,0,2,a,0,0,true,[],[],false,false⟩):=by rw[g];unfold Bh;rw[if_neg (by simp[ok]),if_pos (show(BR none x.wid n a).st.next=0 from rfl),if_pos ⟨rfl,rfl⟩];unfold Xm;dsimp only;rw[EJ,wE d];rfl
 have i:=oR f (e:=cX 1 (AX (Cq p))) (.inr (.inl (by show(0:Int)<=497;decide))) (by rw[h]);rw[h,g] at i;have base:(EF (BR none x.wid n a) (cX 1 (AX (Cq p)))).err=0/\(EF (BR none x.wid n a) (cX 1 (AX (Cq p)))).st=⟨p,0,2,a,0,0,true,[],[],false,false⟩/\(EF (BR none x.wid n a) (cX 1 (AX (Cq p)))).more= [⟨1,1,a,0,0,0,false,AX (Cq p)⟩]/\(EF (BR none x.wid n a) (cX 1 (AX (Cq p)))).wid=x.wid/\(EF (BR none x.wid n a) (cX 1 (AX (Cq p)))).now=a:=by rw[i];exact⟨f,rfl,rfl,rfl,rfl⟩
 unfold Cw;rw[if_pos k];split
 ·obtain⟨b,m,o,j,q⟩:=base;have c:KN ⟨6,0,0⟩ (EF (BR none x.wid n a) (cX 1 (AX (Cq p)))).wid=true:=by rw[j];exact ZM (by decide) l (by decide)
  refine⟨qe b c,by rw[(Ha _ _ _ _).1,m],by rw[(Ha _ _ _ _).2,o],?_,?_⟩
  ·unfold ET;rw[if_neg (by simp[b]),if_neg (by simp[c])];exact j
  ·unfold ET;rw[if_neg (by simp[b]),if_neg (by simp[c])];exact q
 ·exact base
theorem Xu {x:cp}{p:cn}{n n0 n1 n2:Nat}{a:Int}(f:x.kind=1)(g:GL p=true)(b:Ak x.wid=true)(h:0<=a/\a<=1099511611776):
  (BF (EP x p (BR none x.wid n a) n0) n1 n2).err=0/\(BF (EP x p (BR none x.wid n a) n0) n1 n2).st=⟨p,0,3,a,2,0,true,[],[],false,false⟩/\(BF (EP x p (BR none x.wid n a) n0) n1 n2).more= [⟨1,1,a,0,0,0,false,AX (Cq p)⟩,⟨2,2,a,0,0,0,false,⟨#[]⟩⟩]:=by
 obtain⟨i,j,k,l,m⟩:=tU (n:=n) (n0:=n0) f g b h;have c1:(EP x p (BR none x.wid n a) n0).err=0:=i;have c2:(EP x p (BR none x.wid n a) n0).st=⟨p,0,2,a,0,0,true,[],[],false,false⟩:=j;have c3:(EP x p (BR none x.wid n a) n0).more= [⟨1,1,a,0,0,0,false,AX (Cq p)⟩]:=k;have o:(EP x p (BR none x.wid n a) n0).wid=x.wid:=l;have c:(EP x p (BR none x.wid n a) n0).now=a:=m;obtain⟨q,d,e⟩:=AJ9 (n1:=n1) (n2:=n2) c1 (by rw[c2];exact⟨(by decide:(2:Int)<=2),(by decide:(2:Int)<=500)⟩) (by rw[c];omega) (by rw[o];exact b);have r:Dp (EP x p (BR none x.wid n a) n0)=true:=by unfold Dp;rw[c2,c3];rfl
 rw[r,if_pos rfl] at d e;refine⟨q,?_,?_⟩
 ·rw[d,c2];show(⟨p,0,2+1,a,2,0,true,[],[],false,false⟩:bg)=_;rfl
 ·rw[e,c2,c3,c];rfl
structure AUh (h:aa) (x:cp) (p:cn):Prop where
 V:View Ql h x.steps p.steps
 lim:x.az=p.az
 len:p.steps.length<=1099511627776
 sz: ∀y∈p.steps,y.name.size<=1099511627776/\y.aK.size<=1099511627776
 name:x.name.size<=1099511627776
 wid:x.wid.size<=1099511627776
 aV:x.aV.size<=1099511627776
theorem EW.less [Zc]{g h:aa}{s b d:Nat}{l:List Hs}{e:List Pr}{f:cK}{i:cO}{j O':Nat->Prop}(a:EW g h s b d l e f i j)(k: ∀c,O' c->j c):EW g h s b d l e f i O':=⟨a.w.less k,a.m,a.all⟩
theorem bz.aS {g h a:aa}{b:Nat->Prop}{c:Nat}{d:Obj}(m:Mod (bz g b) h a)(e:h[c]? =some d)(f:b c):a[c]? =some d:=m.ag e λi=>i.2 f
abbrev tV:bQ:=⟨1,⟨#[97]⟩,⟨#[]⟩,1,0,0⟩
theorem qf {a:cK}{b:cO}{x:cp}{p:cn}(e:1<=x.kind/\x.kind<=4)(c:Pg x p=0)(d:b x.aV=none):NY a b 1 x p=(match a x.wid with
   |none=>if x.kind=1 then none else some (180,0,0)
   |some l=>if x.kind=1 then some (181,0,0) else if(Ai l).status≠0 then some (182,0,0) else none):=by
 unfold NY;rw[if_neg (by omega),if_neg (by simp[c]),if_neg (by decide),d]
 try rfl
theorem Xe.start {c k:cK}{d l:cO}{n:Nat}{x:cp}{p:cn}{a m st nx:Int}(D:Xe c d n x p a m st nx k l)(b:x.kind=1)(o:Pg x p=0)(E:d x.aV=none)(f:c x.wid=none)(q:0<=a/\a<=1099511611776):
  m=0/\st=0/\nx=3/\k=dH c x.wid [⟨1,1,a,0,0,0,false,AX (Cq p)⟩,⟨2,2,a,0,0,0,false,⟨#[]⟩⟩]/\l=dH d x.aV (NE x p,0,3)/\Ai [⟨1,1,a,0,0,0,false,AX (Cq p)⟩,⟨2,2,a,0,0,0,false,⟨#[]⟩⟩]=⟨p,0,3,a,2,0,true,[],[],false,false⟩:=by
 obtain⟨r,H,s,I⟩:=kO o;have F:NY c d 1 x p=none:=by rw[qf (by omega) o E,f];show(if x.kind=1 then none else some (180,0,0))=none;rw[if_pos b]
 rcases D with⟨_,_,t|⟨_,i,_,_,n0,n1,n2,u⟩⟩|⟨_,i,n0,n1,n2,J,v,K,j,w,y,z,e⟩
 ·rw[F] at t;cases t
 ·exfalso;rw[f] at u;exact i (u.trans (Xu b (r b) s q).1)
 ·rw[f] at v j e;obtain⟨G,B,C⟩:=Xu (n:=n) (n0:=n0) (n1:=n1) (n2:=n2) b (r b) s q;rw[<- v] at G B C;rw[Option.getD_none,CN,C] at j e;rw[B] at w y z e;exact⟨i,y,z,j,w,e⟩
section
variable {A : al} {g h : aa} {R : A2L}
end
section
variable {A : al} {g h : aa} {s k N sh i : Nat} {l : List Hs} {mp : List Pr} {O : Nat -> Prop} {y : Hs} {fl : cK} {an : cO} {R : A2L} {cb : Nat} {z : Nat -> Nat} {x : eI} {C : bA}
structure AUf (mp:List Pr) (fl:cK) (C:bA):Prop where
 wid:Ak C.wid=true
 fits:C.fits ((fl C.wid).getD [])
 more:C.more≠ []
 st:Ea C.st 500
 ok: ∀e∈C.more,Dl e=true/\e.data.size<1099511627776
 len:C.more.length+C.ar.length<=50/\C.conds.length<=50
 keys: ∀p∈C.conds,p.key.size<=1099511627776
 base:qd C (fl C.wid)
 cE:0<=C.cE/\C.cE<=4
 cj:0<=C.cj/\C.cj<=501
 now:0<=C.now/\C.now<=1099511627776
 next:2<=C.st.next/\C.st.next<=500
 err:C.err=0
 bes:C.beside none
end
theorem ANv {p:al}{f:aa}{a b:Sl}{c d:List Ev}{o:A2L}(j:View cw f a c)(k:View cw f b d)(L:c.length<=1099511627776)
  (l:o (J3 (decide (c=d))) f):AA p P DU #[J4 a.p a.len a.cap,J4 b.p b.len b.cap] f o:=by
 refine Il ?_;unfold FJ;rw[j.len,k.len];refine af.intro (λe=>?_) (λe=>?_)
 ·have:c≠d:=by rintro rfl;simp at e
  simpa [this] using l
 ·have M:c.length=d.length:=by simp at e;omega
  refine Loop.rule (λm x q=> ∃i:Nat,x=((i:Int),())/\q=f/\m=c.length-i/\i<=c.length/\c.take i=d.take i) ?_ ⟨0,rfl,rfl,rfl,by omega,by simp⟩;rintro K m _ _ ⟨i,rfl,rfl,rfl,N,n⟩ r;refine af.intro (λe=>?_) (λe=>?_)
  ·have h:i<c.length:=by simpa using e
   rw[<- j.len];refine j.idx (A2 h) λO _ c1=>?_
   obtain⟨s,t,u,v,w,y,z,A⟩:=kq c1;refine AC.mk s (AC.mk t (AC.mk u (AC.mk v (AC.mk w (AC.mk y (AZ.mk z (AJ.mk A ?_)))))));rw[<- k.len];refine k.idx (A2 (by omega)) λQ _ c2=>?_
   obtain⟨B,C,D,E,F,G,H,I⟩:=kq c2;refine AC.mk B (AC.mk C (AC.mk D (AC.mk E (AC.mk F (AC.mk G (AZ.mk H (AJ.mk I ?_)))))));refine yS ⟨_,rfl,?_⟩;refine af.intro (λg=>?_) (λg=>?_)
   ·have g:c[i]≠d[i]'(by omega):=by simpa using g
    have:c≠d:=by rintro rfl;exact g rfl
    simpa [this] using l
   ·have J:c[i]=d[i]'(by omega):=by simpa using g
    dsimp only;rw[Ab (by omega)];refine r (c.length-(i+1)) _ _ (by omega) ⟨i+1,rfl,rfl,rfl,h,?_⟩;rw[LS h,LS (show i<d.length by omega),n,J]
  ·have h:i=c.length:=by simp at e;omega
   have:c=d:=by rw[Ax (by omega),Ax (by omega)] at n;exact n
   simpa [this] using l
theorem AOV {C:al}{d:aa}{s:Sl}{l:List Ev}{u:A2L}(v:View cw d s l)(Z:l.length<=1099511627776)(hd: ∀e∈l,e.data.size<=4194304)(o: ∀w,Ext d w->u (p9 l) w):AA C P SY #[J4 s.p s.len s.cap] d u:=by
 refine AFC ?_;unfold Za;rw[v.len];refine af.intro (λp=>?_) (λp=>?_)
 ·have q:500<l.length:=by simp at p;omega
  have:=o d Mod.refl;simp only[p9,EM,if_pos q] at this;exact this
 have q: ¬500<l.length:=by simp at p;omega
 have y:EM l=if l.all Dl then(0,Nl l) else(120,[]):=by unfold EM;rw[if_neg q]
 rw[Bt (by omega)];have ab:=AV (n:=l.length) (by omega);refine CU (by omega) λac D=>⟨_,rfl,?_⟩
 refine Loop.rule (λm x f=> ∃i:Nat,x=(AX (Bb l.length++(l.take i).flatMap λe=>BI (EL e)),(i:Int),())/\Ext d f/\m=l.length-i/\i<=l.length/\(l.take i).all Dl=true) ?_
  ⟨0,by simp,D,rfl,by omega,rfl⟩
 rintro K m _ f ⟨i,rfl,g,rfl,ad,h⟩ E;refine af.intro (λr=>?_) (λr=>?_)
 ·have t:i<l.length:=by simpa using r
  obtain⟨e,j⟩: ∃e,l[i]? =some e:=⟨_,A2 t⟩;have z:=AM j;have ag:=hd e z;rw[<- v.len];refine(v.ext g).idx j λa _ c=>?_
  rw[v.len];obtain⟨F,G,H,I,J,L,M,N⟩:=kq c;refine AC.mk F (AC.mk G (AC.mk H (AC.mk I (AC.mk J (AC.mk L (AZ.mk M (AJ.mk N ?_)))))));refine ao.mk λah _ O Q _=>ae.eight O λA b R ai=>?_
  have S:Ext d A:=(g.trans Q).more R λc T=>by subst T;exact g.size
  refine AC.mk (AL b rfl) (AC.mk (AB b rfl) (AC.mk (AB b rfl) (AC.mk (AB b rfl) (AC.mk (AB b rfl) (AC.mk (AB b rfl) (AZ.mk (AB b rfl) (AJ.mk (AB b rfl) ?_)))))));refine yN (e:=e) (by omega) λU V=>⟨_,_,rfl,?_⟩
  have B:=S.trans V;cases k:Dl e with
  |false=>
   refine af.yes rfl ?_;have:=o U B;rw[p9,y,if_neg] at this
   ·exact this
   ·intro f;rw[E0] at f;rw[f e z] at k;cases k
  |true=>
   refine af.no rfl ?_;have A:=MO (GY k) (by omega);have aj:=AV (n:=(EL e).length) (by omega);have ak:=yT h λx W=>hd x (Cd W)
   have X:(l.take i).length<=500:=by simp;omega
   have am:(l.take i).length*5000000<=500*5000000:=AN _ X;refine PY (l:=EL e) (by omega) λan Y=>⟨_,rfl,⟨?_,?_⟩⟩
   ·dsimp only;have ap:(BI (EL e)).length=(Bb (EL e).length).length+(EL e).length:=by simp[BI]
    rw[AP,AP,max_i64,A1];omega
   ·dsimp only;rw[Ab (by omega),Ao];refine E (l.length-(i+1)) _ _ (by omega) ⟨i+1,?_,B.trans Y,rfl,t,?_⟩
    ·rw[AD,j,CD,Ft,A4];simp
    ·rw[AD,j,CD,Ss,h];simpa using k
 ·have t:i=l.length:=by simp at r;omega
  rw[Ax (by omega)] at h;have:=o f g;rw[p9,y,if_pos h] at this;dsimp only;rw[Ax (by omega)];exact this
theorem AKB {R:al}{d:aa}{l:List UInt8}{t:A2L}(av:l.length<1099511627776)
  (D:Lp l=none-> ∀k,Ext d k->t (J1 #[J4 none 0 0,J6 J9 60]) k)
  (S: ∀e,Lp l=some e-> ∀k s,Ext d k->View cw k s e->(e.length<=500/\ ∀c,s.ag=some c->d.size<=c)->t (J1 #[J4 s.p s.len s.cap,J6 J9 0]) k):AA R P PX #[J7 (AX l)] d t:=by
 refine AB0 ?_;unfold UD;refine KP λu T U=>⟨_,rfl,?_⟩
 refine De (most:=500) T (by simp only;omega) (by decide) λV W X=>⟨_,rfl,?_⟩
 have Y:Ext d V:=U.more X λc a=>by omega
 have Z:=Hu 500 ⟨l,false⟩;have ab:(CE 500 ⟨l,false⟩).1<=500:=by
  unfold CE;split
  ·exact A5 _
  ·split
   ·exact A5 _
   ·omega
 have f:Lp l=match WT (CE 500 ⟨l,false⟩).1 (CE 500 ⟨l,false⟩).2 with|none=>none|some (q,b)=>if Sg b then some q else none:=rfl
 generalize ac:d.size=v at*
 refine Loop.rule (λm x n=> ∃(g:Nat) (s:Sl) (e:List Ev) (b:Rd),x=(s,(g:Int),())/\Ext d n/\Ir n v b/\Own cw Ah n s e/\(∀ c,s.ag=some c->d.size<=c/\c≠v)/\m=g/\b.rest.length<=l.length/\e.length+g<=500/\
  Lp l=match WT g b with|none=>none|some (q,r)=>if Sg r then some (e++q) else none) ?_ ⟨(CE 500 ⟨l,false⟩).1,⟨none,0,0⟩,[],(CE 500 ⟨l,false⟩).2,rfl,Y,W,Own.nil,λc a=>by simp[Sl.ag] at a,rfl,Z,by simpa using ab,f⟩
 rintro K m _ n ⟨g,s,e,b,rfl,w,F,G,fr,aw,ax,ay,f⟩ ad;refine af.intro (λy=>?_) (λy=>?_)
 ·have H:0<g:=by simp at y;omega
  obtain⟨h,rfl⟩: ∃h,g=h+1:=⟨g-1,by omega⟩;have az:=Q4 b;refine Hm F (by omega) λag ah I=>⟨_,rfl,?_⟩
  have ai:Ext d ag:=w.more I λc a=>by omega
  have aj:=G.mod I λc a=>(fr c a).2
  refine yP (by omega) λaA z=>⟨_,_,_,_,_,_,_,_,_,rfl,?_⟩
  have J:=ai.trans z;have L:=z.ag ah (λd=>d);have M:=aj.ext z;refine ao.mk λaC _ ak A aD=>ae.eight ak λN i B aE=>?_
  have aF:=J.size;have C:Ext d N:=(J.trans A).more B λc a=>by omega
  have O:=B.ag (A.ag L (λd=>d)) (by have:=Aj L;omega);have am:=(M.ext A).mod B λc a o=>by have:=M.lt a;omega
  have an:WT (h+1) b=match WK (FL b).1 with|none=>none|some o=>match WT h (FL b).2 with|none=>none|some (l,r)=>some (o::l,r):=rfl
  rw[an] at f;cases hd:WK (FL b).1 with
  |none=>
   rw[hd] at f;exact af.yes rfl (D f N C)
  |some o=>
   rw[hd] at f i;refine af.no rfl ?_;refine AC.mk (AL i rfl) (AC.mk (AB i rfl) (AC.mk (AB i rfl) (AC.mk (AB i rfl) (AC.mk (AB i rfl) (AC.mk (AB i rfl) (AZ.mk (AB i rfl) (AJ.mk (AB i rfl) ?_)))))));refine ao.aZ (E:=cw) (x:=o) (s:=s) (l:=e) rfl mU am (by omega) (by simp[maxLen];omega) λap k aq Q ar aG=>?_
   have au:s.ag≠some v:=λa=>(fr _ a).2 rfl
   dsimp only;rw[show((h+1:Nat):Int)-(1:Int)=((h:Nat):Int) by simp,ED (by omega)];refine ad h _ _ (by omega) ⟨h,ap,e++ [o],(FL b).2,rfl,C.more Q λc a=>(fr c a).1,Q.ag O au,aq,λc a=>?_,rfl,by omega,by simp;omega,?_⟩
   ·rcases ar c a with u|u
    ·exact fr c u
    ·have j:=Aj O;have aH:=C.size;omega
   ·rw[f];cases aI:WT h (FL b).2 with
    |none=>rfl
    |some p=>obtain⟨q,r⟩:=p;simp
 ·have H:g=0:=by simp at y;omega
  subst H;simp only[WT,AK] at f;refine Mg F ⟨_,rfl,?_⟩;refine af.intro (λj=>?_) (λj=>?_)
  ·have j:Sg b=false:=by simpa using j
   exact D (by rw[f,j];rfl) n w
  ·have j:Sg b=true:=by simpa using j
   exact S e (by rw[f,j];rfl) n s w G.view ⟨by omega,λc a=>ac▸(fr c a).1⟩
def zn(a:A2M):A2M:=(⟨#[122]⟩:A2M)++a
theorem ARV(a:A2M):(zn a).size=1+a.size:=by unfold zn;rw[HA];rfl
theorem ASl {a b:A2M}(c:zn a=zn b):a=b:=by have:=congrArg (λs:A2M=>s.data.toList) c;simp[zn,Hi] at this;apply On;exact Array.toList_inj.1 (by simpa using this)
theorem ARt {a:A2M}(b:Ak a=true):Jw (zn a)=false:=by have e:=Gn.1 b;have c:=ARV a;unfold Jw;rw[GS,decide_eq_false_iff_not,decide_eq_false_iff_not];refine⟨λd=>?_,by omega⟩;rw[d] at c;have:bq.size=0:=rfl;omega
def WL(m:Bx)(a:A2M):Int×List Ev:=
 if Ak a=true then
  if(FK m (zn a)).2≠0 then((FK m (zn a)).2,[])
  else if(Dh (bl (FK m (zn a)).1)).1≠0 then((Dh (bl (FK m (zn a)).1)).1,[])
  else if(Dh (bl (FK m (zn a)).1)).2.2≠ [] then(60,[])
  else match Lp (Dh (bl (FK m (zn a)).1)).2.1 with|none=>(60,[])|some l=>(0,l)
 else(1,[])
theorem Tt {d:al}{b:aa}{a:A2M}{c:A2L}(f:a.size<=1099511627776)(e:c (J7 (zn a)) b):AA d P GI #[J7 a] b c:=by refine AB7 ?_;unfold VH;exact⟨by have:(⟨#[122]⟩:A2M).size=1:=rfl;rw[max_i64];omega,e⟩
theorem AMx {m:Bx}(a:A2M):(FK m a).1.size<=ba m.files:=by
 unfold FK;split
 ·exact A5 _
 ·cases b:Cb a m.files with
  |none=>exact A5 _
  |some f=>
   have:=ZA (JP b).2;simp only[HA];exact this
theorem ANj {A:al}{h:aa}{s:A2M}{R:A2L}(b:s.size<=1099511627776)
  (c: ∀a,Ext h a->R (J1 #[J7 (AX (Dh (bl s)).2.1),J7 (AX (Dh (bl s)).2.2),J6 J9 ((Dh (bl s)).1:Int)]) a):AA A P Lm #[J7 s] h R:=by
 have:=rX (A:=A) (h:=h) (l:=bl s) (R:=R) (by rw[BB];exact AG b (by decide)) c;rwa [Le] at this
theorem AQJ(l:List UInt8):(Dh l).2.1.length<=l.length:=by
 unfold Dh;cases a:MR 0 0 l with
 |none=>dsimp only;split<;>exact A5 _
 |some p=>
  obtain⟨c,t⟩:=p;obtain⟨b,_⟩:=ly a;have d:t.length<=l.length:=by rw[b];simp
  dsimp only;split
  ·exact A5 _
  ·split
   ·exact A5 _
   ·split
    ·simp;omega
    ·exact A5 _
theorem Sk {B:al}{f:aa}{t b:Nat}{C:Nat->Prop}{m:Bx}{a:A2M}{T:Q7}{j:A2L}(u:f[t]? =some (J2 #[Ar b] T (0,0)))(D:Ce f b C m)(I:ba m.files<1099511627776)(E:a.size<=1099511627776)
  (w: ∀g s,Ext f g->View cw g s (WL m a).2->((WL m a).2.length<=500/\ ∀c,s.ag=some c->f.size<=c)->j (J1 #[J4 s.p s.len s.cap,J6 J9 (WL m a).1]) g):AA B P Cm #[Ar t,J7 a] f j:=by
 refine Pj ?_;unfold KY;have h: ∀g (k:Int),Ext f g->WL m a=(k,[])->j (J1 #[J4 none 0 0,J6 J9 k]) g:=λg k x n=>by
  have:=w g ⟨none,0,0⟩ x (by rw[n];exact View.nil) ⟨by rw[n];exact A5 _,λc o=>nomatch o⟩;rw[n] at this;exact this
 refine ai.mk λK F=>af.no rfl (Eg ⟨_,rfl,F _ _ ?_⟩)
 have e:WL m a=if Ak a=true then
  if(FK m (zn a)).2≠0 then((FK m (zn a)).2,[])
  else if(Dh (bl (FK m (zn a)).1)).1≠0 then((Dh (bl (FK m (zn a)).1)).1,[])
  else if(Dh (bl (FK m (zn a)).1)).2.2≠ [] then(60,[])
  else match Lp (Dh (bl (FK m (zn a)).1)).2.1 with|none=>(60,[])|some l=>(0,l)
  else(1,[]):=rfl
 cases y:Ak a with
 |false=>
  rw[y,if_neg (by decide)] at e;exact af.yes rfl (h f 1 Mod.refl e)
 |true=>
  rw[y,if_pos rfl] at e;refine af.no rfl (aD (AY.mk (AL u rfl) (Tt E ⟨_,rfl,AL u rfl,?_⟩)));refine Yi D ⟨_,_,rfl,?_⟩;refine af.intro (λd=>?_) (λd=>?_)
  ·have d:(FK m (zn a)).2≠0:=by simpa using d
   rw[if_pos d] at e;exact h f _ Mod.refl e
  have d: ¬(FK m (zn a)).2≠0:=by simpa using d
  rw[if_neg d] at e;have J:=AMx (m:=m) (zn a);refine ANj (by omega) λz i=>⟨_,_,_,rfl,?_⟩
  refine af.intro (λd=>?_) (λd=>?_)
  ·have d:(Dh (bl (FK m (zn a)).1)).1≠0:=by simp at d;omega
   rw[if_pos d] at e;exact h z _ i e
  have d: ¬(Dh (bl (FK m (zn a)).1)).1≠0:=by simp at d;omega
  rw[if_neg d] at e;rw[mS];have G:decide (AX (Dh (bl (FK m (zn a)).1)).2.2=HZ)=decide ((Dh (bl (FK m (zn a)).1)).2.2= []):=by rw[decide_eq_decide];exact Mx (b:= [])
  rw[G];refine af.intro (λd=>?_) (λd=>?_)
  ·have d:(Dh (bl (FK m (zn a)).1)).2.2≠ []:=by simpa using d
   rw[if_pos d] at e;exact h z _ i e
  have d: ¬(Dh (bl (FK m (zn a)).1)).2.2≠ []:=by simpa using d
  rw[if_neg d] at e;have H:=AQJ (bl (FK m (zn a)).1);rw[BB] at H;refine AKB (by omega) (λp q r=>⟨⟨none,0,0⟩,_,rfl,?_⟩) (λL p q s r v A=>⟨s,_,rfl,?_⟩)
  ·rw[p] at e;exact h q _ (i.trans r) e
  ·rw[p] at e;have:=w q s (i.trans r) (by rw[e];exact v) ⟨by rw[e];exact A.1,λc o=>AG i.size (A.2 c o)⟩;rw[e] at this;exact this
def PV(a:A2M)(l:List Ev):Int:=if Ak a=true then(if(EM l).1≠0 then(EM l).1 else if 1048576<(EM l).2.length then 2 else 0) else 1
def bK(l:List Ev):A2M:=AX (Ca (EM l).2)
theorem Vm {b:A2M}{l:List Ev}(a:PV b l=0):Ak b=true/\(EM l).1=0/\(EM l).2.length<=1048576:=by
 unfold PV at a;split at a
 ·rename_i c;split at a
  ·rename_i d;exact absurd a (by omega)
  ·split at a
   ·cases a
   ·rename_i d e;exact⟨c,by omega,by omega⟩
 ·cases a
theorem AM6 {l:List Ev}(a:(EM l).1=0):l.length<=500/\l.all Dl=true/\(EM l).2=Nl l:=by
 unfold EM at a ⊢;split at a
 ·cases a
 ·rename_i c;split at a
  ·rename_i b;rw[if_neg c,if_pos b];exact⟨by omega,b,rfl⟩
  ·cases a
theorem rT {m:Bx}(c:m.down=false){a:A2M}{l:List Ev}(g:PV a l=0)(hd: ∀b∈l,b.data.size<=4194304)(h:ff m (zn a)=some (bK l,bq)):WL m a=(0,l):=by
 obtain⟨i,j,k⟩:=Vm g;obtain⟨n,d,o⟩:=AM6 j;have p:FK m (zn a)=(bK l,0):=by rw[Yb c,h];simp[Vi]
 have e:=rQ (l:=(EM l).2) k [];rw[AK] at e;have q:Lp (EM l).2=some l:=by
  rw[o];refine fy n d λb f=>?_
  have:=hd b f;have:=MO (GY (List.all_eq_true.1 d b f)) (by omega);omega
 unfold WL;rw[if_pos i,p];simp only[bK,EJ,e,q];rfl
theorem AKM {a:A2M}{l:List Ev}(b:PV a l=0):(bK l).size<=1048590:=by obtain⟨_,_,c⟩:=Vm b;have:=AV (n:=(EM l).2.length) (by omega);simp only[bK,AP,Ca,A1,Jp];omega
theorem AN9 {f:al}{b:aa}{l:List UInt8}{d:A2L}(g:l.length<=1099511627776)
  (e: ∀a s c,Ext b a->(1048576<l.length->s=(⟨#[]⟩:A2M)/\c=(2:Int))->(l.length<=1048576->s=AX (Ca l)/\c=0)->d (J1 #[J7 s,J6 J9 c]) a):AA f P Fy #[J7 (AX l)] b d:=
 Yg g (λh=>e b _ _ Mod.refl (λ_=>⟨rfl,rfl⟩) λi=>by omega) λh a x=>e a _ _ x (λi=>by omega) λ_=>⟨rfl,rfl⟩
theorem AQd {l:List Ev}(c:l.length<=1099511627776)(hd: ∀a∈l,a.data.size<=4194304):(EM l).2.length<=1099511627776:=by
 unfold EM;split
 ·exact A5 _
 ·rename_i d;split
  ·rename_i b;have e:=yT b hd;have f:=AV (n:=l.length) (by omega);have g:l.length*5000000<=500*5000000:=AN _ (by omega);simp only[Nl,A1];omega
  ·exact A5 _
theorem yz {ar:al}{e:aa}{r b:Nat}{n:Nat->Prop}{m:Bx}{a:A2M}{s:Sl}{l:List Ev}{T:Q7}{A:A2L}(U:e[r]? =some (J2 #[Ar b] T (0,0)))(au:Ce e b n m)(c:Calm m)(V: ¬n r)
  (aX:ba m.files+2000000<1099511627776) (u:a.size<=1099511627776) (v:View cw e s l) (av: ∀h,Mod n e h->View cw h s l) (B:l.length<=1099511627776) (hd: ∀C∈l,C.data.size<=4194304)
  (D:PV a l≠0-> ∀h,Ext e h->A (J6 J9 (PV a l)) h)
  (aw:PV a l=0-> ∀h S' w,Ce h b S' w->Calm w->Mod n e h->(∀ c,S' c->n c\/e.size<=c)->(∀ x,ff w x=if x=zn a then some (bK l,bq) else ff m x)->ba w.files<=ba m.files+2000000->A (J6 J9 0) h):
  AA ar P Cv #[Ar r,J7 a,J4 s.p s.len s.cap] e A:=by
 refine Ra ?_;unfold LU;have aY:=Aj U;refine ai.mk λK ax=>af.no rfl (Eg ⟨_,rfl,ax _ _ ?_⟩)
 have g:PV a l=if Ak a=true then(if(EM l).1≠0 then((EM l).1:Int) else if 1048576<(EM l).2.length then 2 else 0) else 1:=rfl;cases E:Ak a with
 |false=>
  rw[E,if_neg (by decide)] at g;have:=D (by rw[g];decide) e Mod.refl;rw[g] at this;exact af.yes rfl this
 |true=>
  rw[E,if_pos rfl] at g;refine af.no rfl (AOV v B hd λF G=>⟨_,_,rfl,?_⟩);refine af.intro (λj=>?_) (λj=>?_)
  ·have j:(EM l).1≠0:=by simp at j;omega
   rw[if_pos j] at g;have:=D (by rw[g];omega) F G;rw[g] at this;exact this
  have j: ¬(EM l).1≠0:=by simp at j;omega
  rw[if_neg j] at g;refine AN9 (AQd B hd) λy aZ a0 W ay az=>⟨_,_,rfl,?_⟩
  by_cases H:1048576<(EM l).2.length
  ·obtain⟨rfl,rfl⟩:=ay H;rw[if_pos H] at g;have:=D (by rw[g];decide) y (G.trans W);rw[g] at this;exact af.yes rfl this
  ·obtain⟨rfl,rfl⟩:=az (by omega);rw[if_neg H] at g;refine af.no rfl ?_;have o:=G.trans W;have I:=o.ag U (λe=>e);have aA:=au.ext o;have v2:=v.ext o;refine aD (AY.mk (AL I rfl) (Tt u ⟨_,rfl,AL I rfl,?_⟩));obtain⟨t,X⟩:((Ci m (zn a)).1=0\/(Ci m (zn a)).1=31)/\ ∀x,ff (Ci m (zn a)).2 x=if x=zn a then none else ff m x:=by
    cases J:ff m (zn a) with
    |some p=>
     have:=wR c.goes (k:=zn a) (by rw[J];rfl);exact⟨.inl this.1,this.2⟩
    |none=>
     have C:Ci m (zn a)=(31,m):=by
      have F:Cb (zn a) m.files=none:=by
       have:=Sd (m:=m) (k:=zn a);rw[J] at this;cases y:Cb (zn a) m.files with
       |none=>rfl
       |some f=>rw[y] at this;cases this
      unfold Ci;rw[if_neg (by simp[c.1]),F];rfl
     rw[C];refine⟨.inr rfl,λx=>?_⟩;split
     ·rename_i e;rw[e];exact J
     ·rfl
   have Y:=AIW c (zn a);refine SK aA λaC aE Z L z=>⟨_,rfl,?_⟩
   have a1:=VZ (m:=m) (zn a);refine ai.mk λaF aG=>?_
   have ab:aF (false,()) aC:=by
    refine aG _ _ (af.no rfl ?_);have M:=L.ag I V;refine aD (AY.mk (AL M rfl) (Tt u ⟨_,rfl,AL M rfl,?_⟩));have a2:=AKM g;obtain⟨aH,ac⟩:=wP Y.goes (k:=zn a) (d:=bK l) (ARt E);have ad:=AIq Y (zn a) (bK l);refine Xt Z (by show ba (Ci m (zn a)).2.files+(bK l).size+1<=_;omega) λa3 N ae ag O=>⟨_,rfl,?_⟩
    have aI:=VY Z.aR (zn a) (bK l);have aJ:(CS (Ci m (zn a)).2 (zn a) (AX (Ca (EM l).2))).1=0:=aH;rw[aJ];refine af.no rfl ?_;have ah: ¬aE r:=λi=>V (z _ i)
    have Q:=ag.ag M ah;refine aD (AY.mk (AL Q rfl) (Tt u ⟨_,rfl,AL Q rfl,?_⟩));have aK:ff (CS (Ci m (zn a)).2 (zn a) (bK l)).2 (zn a)=some (bq,bK l):=by rw[ac,if_pos rfl,X,if_pos rfl];simp[Mh]
    obtain⟨aL,aj⟩:=wQ ad.goes aK;have ak:=AN5 ad (zn a);refine pL ae λR aM am=>⟨_,rfl,?_⟩
    have aN:=YW ae.aR (zn a);have aO:(FY (CS (Ci m (zn a)).2 (zn a) (AX (Ca (EM l).2))).2 (zn a)).1=0:=aL;rw[aO];refine af.no rfl ?_;have a4:=o.size;have a5:=L.size;have aP: ¬N r:=λi=>by rcases O _ i with e|e;exact ah e;omega
    have aQ:=am.ag Q aP;have an:Mod n y R:=(L.trans (ag.aj λc _ i=>z c i)).then (am.aj λc _ i=>by rcases O c i with e|e;exact .inl (z c e);exact .inr (by omega));have aR:ff (FY (CS (Ci m (zn a)).2 (zn a) (bK l)).2 (zn a)).2 (zn a)=some (bK l,bq):=by rw[aj,if_pos rfl];simp[Mh]
    have aS:=rT ak.1 g hd aR;have aT:ba (FY (CS (Ci m (zn a)).2 (zn a) (bK l)).2 (zn a)).2.files<=ba m.files+2000000:=by have a6:ba (CS (Ci m (zn a)).2 (zn a) (bK l)).2.files<=ba (Ci m (zn a)).2.files+(bK l).size+1:=aI;have a7:ba (FY (CS (Ci m (zn a)).2 (zn a) (bK l)).2 (zn a)).2.files<=ba (CS (Ci m (zn a)).2 (zn a) (bK l)).2.files:=aN;omega
    have ao:Ce R b N (FY (CS (Ci m (zn a)).2 (zn a) (bK l)).2 (zn a)).2:=aM;generalize a8:(FY (CS (Ci m (zn a)).2 (zn a) (bK l)).2 (zn a)).2=aU at*
    refine Sk aQ ao (by omega) u λap aV S aq a9=>⟨aV,_,rfl,?_⟩
    rw[aS] at aq ⊢;refine af.no rfl ?_;have aW:View cw ap s l:=(av R ((Ext.mod o).trans an)).ext S;refine ANv aq aW B ⟨_,rfl,?_⟩;rw[decide_eq_true rfl];refine af.no rfl ?_;refine aw g ap N aU (ao.ext S) ak ?_ ?_ ?_ aT
    ·exact((Ext.mod o).trans an).trans (Ext.mod S)
    ·intro c i;rcases O c i with e|e
     ·exact .inl (z c e)
     ·exact .inr (by omega)
    ·intro x;rw[aj];by_cases q:x=zn a
     ·rw[if_pos q,if_pos q];simp[Mh]
     ·rw[if_neg q,if_neg q,ac,if_neg q,X,if_neg q]
   rcases t with t|t
   ·rw[t];exact af.no rfl ab
   ·rw[t];exact af.yes rfl ab
def gv(id a:Int):Ev:=⟨id,a,0,0,0,0,false,HZ⟩
theorem ASn {id:Int}(a:1<=id/\id<=500):Dl (gv id 2)=true/\Dl (gv id 13)=true:=by constructor<;>simp[Dl,En,Ki,gv,da,dr,dF,dO,dP,dc,bU,a.1,a.2]
theorem AK4 {d:A2M}{l:List Ev}(f:Ak d=true)(g:l.length<=500)(e:l.all Dl=true)(hd: ∀a∈l,a.data.size=0):PV d l=0:=by
 have h:EM l=(0,Nl l):=by unfold EM;rw[if_neg (by omega),if_pos e]
 have i: ∀l:List Ev,l.all Dl=true->(∀ a∈l,a.data.size=0)->(l.flatMap λa=>BI (EL a)).length<=l.length*110:=by
  intro l
  induction l with
  |nil=>intro _ _;simp
  |cons a l j=>
   intro b c;simp only[DM,A3] at b;have k:=j b.2 λx m=>c x (AH _ m)
   have o:=c a (by simp);have p:=MO (GY b.1) (by omega);have q:=AV (n:=(EL a).length) (by omega);have r:(BI (EL a)).length=(Bb (EL a).length).length+(EL a).length:=by simp[BI]
   simp only[AF,A1,A6];omega
 have b:=i l e hd;have c:=AV (n:=l.length) (by omega);have k:(Nl l).length<=1048576:=by simp only[Nl,A1];have:l.length*110<=500*110:=AN _ g;omega
 unfold PV;rw[if_pos f,h];simp only;rw[if_neg (by simp),if_neg (by omega)]
theorem MZ {x:A2M}(h:cG x):(bl x).head? ≠some 122:=by
 rcases h with⟨b,rfl⟩|⟨b,rfl⟩|⟨b,rfl⟩
 ·rw[RN];decide
 ·rw[Tx];decide
 ·rw[YD];decide
theorem ub(b:A2M):(bl (zn b)).head? =some 122:=by unfold zn bl;rw[Hi,IS];rfl
theorem AR4(b:A2M): ¬cG (zn b):=λh=>MZ h (ub b)
theorem ASy {d G:bP}{e:Bn}(h:BJ d e)(c: ∀x,(bl x).head? ≠some 122->G x=d x):BJ G e:=by
 refine⟨h.log.aS h.cz.1 λb _ _=> .inl (c _ (MZ (.inl ⟨b,rfl⟩))),h.note.aS h.cz.2.2.1 λb _ _=> .inl (c _ (MZ (.inr (.inl ⟨b,rfl⟩)))),λb i=>?_,h.fX,h.dM,λx f hd=>?_,h.cz⟩
 ·rw[c _ (MZ (.inr (.inr ⟨b,rfl⟩)))];exact h.cS b i
 ·rw[c x (by rw[hd];decide)] at f;exact h.dp x f hd
theorem ATW {c G:bP}{st:Db}{e:Bn}(L:Ei c st e)(d: ∀x,(bl x).head? ≠some 122->G x=c x):Ei G st e:=by
 have f: ∀b,G (aC nl b)=c (aC nl b):=λb=>d _ (MZ (.inl ⟨b,rfl⟩))
 have i: ∀b,G (aC nn b)=c (aC nn b):=λb=>d _ (MZ (.inr (.inl ⟨b,rfl⟩)))
 have j: ∀b,G (aX b)=c (aX b):=λb=>d _ (MZ (.inr (.inr ⟨b,rfl⟩)))
 obtain⟨k,m,n,o,p,q,r,t,u,v,w,y,z⟩:=L;exact⟨ASy k d,m,n,o,p,q,r,λb=>by rw[f];exact t b,λh=>by rw[f];exact u h,λb=>by rw[i];exact v b,w,y,λb=>by rw[j];exact z b⟩
def jS(f:A2M->Option (A2M×A2M))(b:A2M)(l:List Ev):A2M->Option (A2M×A2M):=λx=>if x=zn b then some (bK l,bq) else f x
section
variable {A : al} {B : cu} {g h : aa} {s a N sh : Nat} {l : List Hs} {mp : List Pr} {O : Nat -> Prop} {R : A2L}
theorem LW.aS {w:Nat}{o:A2M}{p:Sl}{f:List Ev}{T:Q7}(J:LW B g h s a N sh l mp O)(C:h[w]? =some (J2 #[Ar B.bx] T (0,0)))(K:O w)(V:View cw h p f)(L: ∀c,p.ag=some c->O c)(D:PV o f=0)(hd: ∀q∈f,q.data.size<=4194304)(al:f.length<=500)(hA:4+3*a<=B.A)(am:64*a+64<=B.C)(an:B.W0+(1+3*a)*B.K+2000000<1099511627776)
  (M: ∀e,LW {B with zf:=jS B.zf o f} g e s (a+1) N sh l mp O->Mod (bz g O) h e->e[s]? =h[s]? ->R (J6 J9 0) e):AA A P Cv #[Ar w,J7 o,J4 p.p p.len p.cap] h R:=by
 obtain⟨r,i,st,m,E,nn,d,ao,q,Q,S,out⟩:=J;have k:=d.db;have U:=k.mem.box;have t: ∀c,r.Sb c->i c=2:=k.mem.kb;have own:=k.mem.own;have y: ∀c,r.Sb c-> ¬O c:=λc b W=>by have:=t c b;rw[(out c W).1] at this;cases this
 have ap:=k.wt;have aq:=FB (Vm D).1;have ar:10000000<=B.K:=by unfold cu.K lD;omega
 rw[<- d.bx] at C;refine yz C U ⟨k.up,d.fuel⟩ (λh=>y w h K) (by omega) (by omega) V (λe n=>V.mod n λc b u=>y c u (L c b)) (by omega) hd (λz=>absurd D z) λ_ e S' v X c1 n Y F au=>?_
 have G: ∀c,Js i h.size S' 2 c≠0->i c≠0\/h.size<=c:=λc b=>by
  unfold Js at b
  grind
 have H: ∀c,i c=0->c<h.size->Js i h.size S' 2 c=0:=λc z av=>Decidable.byContradiction λZ=>by
  rcases G c Z with h|h
  ·exact h z
  ·omega
 have aa:bL g e {r with Sb:=S'} (Js i h.size S' 2) st v:=k.mem.boxed (j:=0) (bH:=st) X (n.aj λc _ b=> .inl b) Y rfl rfl rfl rfl (.inl ⟨by decide,rfl,rfl⟩) (.inl ⟨by decide,rfl⟩);have ab: ∀x,(bl x).head? ≠some 122->ff v x=ff m x:=λx ac=>by
  rw[F,if_neg λq=>ac (by rw[q];exact ub o)]
 have ad:Bq {B with zf:=jS B.zf o f} g e {r with Sb:=S'} (Js i h.size S' 2) st v E (1+3*(a+1)) (64*(a+1)):=by
  refine⟨aa,c1.1,ATW k.eJ ab,k.lim.mono (by omega) (by omega),?_,by show 64*(a+1)<=B.C;omega⟩;show ba v.files<=B.W0+(1+3*(a+1))*B.K;have aw:(1+3*(a+1))*B.K=(1+3*a)*B.K+3*B.K:=by rw[show 1+3*(a+1)=(1+3*a)+3 from by omega,Bs]
  omega
 have ae:GK {B with zf:=jS B.zf o f} g e s {r with Sb:=S'} (Js i h.size S' 2) st v E (1+3*(a+1)) (64*(a+1)) nn:=by
  refine⟨ad,n.ag d.cell (λu=>by have:=t s u;rw[d.kz] at this;cases this),H s d.kz d.lt,d.base,c1.2,d.ct,d.bx,λI af=>?_⟩;rw[F];show _=jS B.zf o f I;unfold jS;split
  ·rfl
  ·exact d.dQ I af
 have ax:=n.size;refine M e ⟨_,_,_,_,_,nn,ae,by omega,q,Q.step n (λc b=> .inl (by rw[t c b];decide)) G,S,λc b=>?_⟩ (n.aj λc _ b=>⟨(own c (by rw[t c b];decide)).1,y c b⟩) (n.get s d.lt λu=>by have:=t s u;rw[d.kz] at this;cases this);obtain⟨ag,ah,ai,aj,ak⟩:=out c b;exact⟨H c ag ah,by omega,ai,aj,ak⟩
theorem LW.jx {B:cu}{sh b:Nat}{Sb:Nat->Prop}{m:Bx}(n:cy g)(o:Ce h b Sb m)(d:Ext g h)(p: ∀c,Sb c->g.size<=c)(hd:m.down=false)(q:m.fuel= -1)(r: ∀j,ff m (aC nl j)=none)(t: ∀j,ff m (aC nn j)=none)(u: ∀x,ff m x≠none->(bl x).head? ≠some 116)(hA:1<=B.A)(v:ba m.files<=B.W0)(w:b=B.bx)(y: ∀f,¬cG f->ff m f=B.zf f)(z: ∀c,O c->g.size<=c/\c<h.size/\ ¬Sb c)
  (C: ∀e s,LW B g e s 0 0 sh [] [] O->Mod (λc=>Sb c\/h.size<=c) h e->h.size<=s->R (J1 #[Ar s,J6 J9 0]) e):AA A P Sv #[Ar b] h R:=
 ANW (B:=B) n o d p hd q r t u hA v w y λe s D E F G H T I mp k J K=>C e s ⟨D,E,F,G,H,0,I,A0 _,mp,⟨λi x d=>by simp at d,λi U x f d=>by simp at d⟩,by omega,λc L=>by
  obtain⟨M,V,Q⟩:=z c L;refine⟨Decidable.byContradiction λS=>?_,by have:=k.size;omega,M,by omega,λx d=>by cases d⟩;rcases J c S with h|h
  ·exact Q h
  ·omega⟩ k K
end
def Zr(a:Nat):A2M:=AX [116,Bl a]
def IE(a:Nat):A2M:=AX [109,Bl a]
def jQ(name:A2M):A2M:=AX (113::BI (bl name))
section
variable {A : al} {h : aa} {R : A2L}
theorem tW {n:Nat}(b:n<256)(c: ∀a,Ext h a->R (J7 (IE n)) a):AA A P KT #[J6 J9 (n:Int)] h R:=by
 refine UF ?_;unfold Qc;refine qt b λd e=>⟨_,rfl,⟨by rw[AP,max_i64];show((2:Nat):Int)<=9223372036854775807;decide,?_⟩⟩
 rw[show(⟨#[109]⟩:A2M)=AX [109] from rfl,Ao];exact c d e
end
section
variable {A : al} {B : cu} {g h : aa} {s a N sh cb : Nat} {l : List Hs} {mp : List Pr} {O : Nat -> Prop} {i : Nat} {y : Hs} {z : Nat -> Nat} {x : eI} {C : bA} {R : A2L}
end
section
variable {A : al} {h : aa} {R : A2L}
end
theorem AJz {a:bA}{t:gA}{tick:Int}{c:Nat}(b:(ET a t tick c).err=0):(ET a t tick c).ar=a.ar++ [⟨La a.aq tick c,OX t a.wid,false⟩]:=by
 unfold ET at b ⊢;split at b
 ·rename_i d;exact absurd b d
 ·rename_i d;rw[if_neg d];split at b
  ·exact absurd (show(1:Int)=0 from b) (by decide)
  ·rename_i e;rw[if_neg e]
theorem AJL {x:cp}{p:cn}{n n0 n1 n2:Nat}{now:Int}(h:x.kind=1)(d:GL p=true)(i:Ak x.wid=true)(j:0<=now/\now<=1099511611776)(v:p.az=0):
  Dp (EP x p (BR none x.wid n now) n0)=true/\ ∃e,(BF (EP x p (BR none x.wid n now) n0) n1 n2).ar= [⟨JO x.aV,e,false⟩,⟨Ko n n1,OX ⟨1,2,0⟩ x.wid,false⟩]:=by
 obtain⟨w,m,o,q,y⟩:=tU (n:=n) (n0:=n0) h d i j;obtain⟨k,c,z⟩:=Xu (n:=n) (n0:=n0) (n1:=n1) (n2:=n2) h d i j;have l:Cw x p (BR none x.wid n now) n0=EF (BR none x.wid n now) (cX 1 (AX (Cq p))):=by unfold Cw;rw[if_pos h,if_neg (by omega)]
 generalize f:EP x p (BR none x.wid n now) n0=b at*
 have e:Dp b=true:=by subst f;unfold Dp;rw[show(EP x p (BR none x.wid n now) n0).st=_ from m,show(EP x p (BR none x.wid n now) n0).more=_ from o];rfl
 refine⟨e,?_⟩;have a:=Od b Qm;have r:BF b n1 n2=ET (EF b Qm) ⟨1,Wo (EF b Qm),0⟩ (-1) n1:=by
  have s:EZ b n1=ET (EF b Qm) ⟨1,Wo (EF b Qm),0⟩ (-1) n1:=by unfold EZ;rw[if_pos e]
  unfold BF at c ⊢;split
  ·rename_i g;exfalso;rw[if_pos g,(Ha _ _ _ _).1] at c;exact g.2 (by rw[c])
  ·exact s
 rw[r] at k c ⊢;rw[AJz k];rw[(Ha _ _ _ _).1] at c;have t:Wo (EF b Qm)=2:=by unfold Wo;rw[c];rfl
 rw[t];have d:b.ar= [⟨JO x.aV,iT (NE x p) (Di (Cw x p (BR none x.wid n now) n0)).1.toNat (Di (Cw x p (BR none x.wid n now) n0)).2.toNat,false⟩]:=by rw[<- f];show(Cw x p (BR none x.wid n now) n0).ar++_=_;rw[l,(Od _ _).2.2.2.2.2.1];rfl
 have g:(EF b Qm).aq=n:=by rw[a.2.1,<-f];show(Cw x p (BR none x.wid n now) n0).aq=n;rw[l,(Od _ _).2.1];rfl
 have u:(EF b Qm).wid=x.wid:=by rw[a.1,<-f];exact q
 rw[a.2.2.2.2.2.1,d,g,u];exact⟨_,rfl⟩
def stS(p:cn)(t:Int):bg:=⟨p,0,3,t,2,0,true,[],[],false,false⟩
def stT(p:cn)(t:Int):bg:=⟨p,0,4,t,0,3,false,[],[],false,false⟩
section
variable {A : al} {h : aa} {R : A2L}
theorem ANU {x:Sl}{l:List Ev}(v:View cw h x l)(e:l.length<=1000)(d: ∀a b,Own cw Ah b a l->(∀ c,a.ag=some c->h.size<=c)->Ext h b->R (J4 a.p a.len a.cap) b):AA A P DW #[J4 x.p x.len x.cap] h R:=by refine Iq ?_;unfold FH;exact VQ mU v (by omega) (by simp only[maxLen];omega) d
end
section
variable {A : al} {B : cu} {g h : aa} {s a N sh : Nat} {l : List Hs} {mp : List Pr} {O : Nat -> Prop} {i : Nat} {y : Hs} {fl : cK} {an : cO} {R : A2L}
def Uk(b:List Ev)(c:Nat):List Ev:=(b.drop c).take 32
theorem uh {wid:A2M}{e:List Ev}{v:J0}{w:Q2}{n:Nat}{I:Bool}{J:Int}(L:KE e)(M:n<=e.length)
  (ld: ∀(o:aa) (z:A2L),Ext h o->(∀ f d Q S T,Ext o f->View cw f d e->z (J1 #[(⟨wid,J,⟨(Ai e).status,(Ai e).next,I⟩,d,(Ai e).V Q S T⟩:bX).v,J6 J9 0]) f)->AA A P Dz #[J5 w,v,J7 wid] o z)
  (U: ∀f d,Ext h f->View cw f d (Uk e n)->(∀ c,d.ag=some c->h.size<=c)->R (⟨0,(Ai e).status,(Ai e).next,⟨0,⟨#[]⟩,0,0⟩,⟨#[]⟩,d⟩:bV).v f):
  AA A P F9 #[J5 w,v,J7 wid,J6 J9 ((n+1:Nat):Int)] h R:=by
 have ap:=L.len;refine ZH ?_;unfold Rb;refine ao.mk λo _ C q aq=>ld o _ q λW d a b c X V=>Qo.mk _ ⟨_,rfl,ao.mk λar _ Y Z au=>aL.mk Y (A0 18) λab j ac av=>af.no rfl ?_⟩
 rw[XP] at j;have D:Ext W ab:=Z.more ac λc k=>by subst k;exact A0 _
 have r:=X.trans D;have t:=V.ext D;have aw:=t.len;refine ai.mk λK ad=>af.no (decide_eq_false (by omega)) (Aa.mk (s:=d) (CJ j rfl) ?_)
 rw[Ab (by omega),show decide (((n+1:Nat):Int)>((d.len+1:Nat):Int))=false from decide_eq_false (by omega)];refine ad _ _ (af.no rfl (Aa.mk (s:=d) (CJ j rfl) ?_));rw[show J8 J9 (((n+1:Nat):Int)-(1:Int))=((n:Nat):Int) from by rw[show((n+1:Nat):Int)-1=((n:Nat):Int) by omega];exact ED (by omega),As];refine⟨⟨by omega,by omega⟩,AC.mk (n:=(Ai e).status) (CJ j rfl) (AC.mk (n:=(Ai e).next) (Bz j rfl) ?_)⟩;obtain⟨m,ae⟩: ∃m:Nat,m=min 32 (e.length-n):=⟨_,rfl⟩;have ag:(if(32:Int)<(((d.len-n):Nat):Int) then(32:Int) else(((d.len-n):Nat):Int))=((m:Nat):Int):=by split<;>omega
 rw[ag,As];have vc:=t.cap;refine⟨⟨by omega,by omega⟩,?_⟩;have E:=t.sub (lo:=n) (hi:=e.length) M (A0 _);rw[Bm] at E;have u:=E.sub (lo:=0) (hi:=m) (A5 _) (by rw[Cp];omega);rw[HP] at u;have ah:(e.drop n).take m=Uk e n:=by unfold Uk;rw[ae,<-Cp,TX];rw[Cp];omega
 rw[ah] at u;refine ANU (x:=⟨A7 (A7 d.p d.cap n 8) (d.cap-n) 0 8,m-0,d.cap-n-0⟩) u (by unfold Uk;rw[An];omega) λaj ax ak F p=>⟨_,rfl,Bz (p.ag j λh=>h) rfl,CJ (p.ag j λh=>h) rfl,?_⟩
 have al:=(r.trans p).ag C λh=>h
 refine aL.mk al (A0 9) λam G H ay=>?_
 rw[QU] at G;refine GR.mk _ (UG G) ?_;have az:=q.size;have aA:=r.size;refine U am aj ((q.trans (r.trans p)).more H λc k=>by subst k;exact A0 _) (ak.view.mod H λc k aC=>?_) λc k=>?_
 ·have:=F c k;have:=Aj C;omega
 ·have:=F c k;omega
theorem AJw {wid:A2M}{b:List Ev}{m:J0}{f:Nat}(n:LW B g h s a N sh l mp O)(o:l[i]? =some y)(j:KS mp fl an)(p:Ak wid=true)(k:fl wid=some b)(q:f<=b.length)
  (r: ∀d e,Ext h d->View cw d e (Uk b f)->(∀ c,e.ag=some c->h.size<=c)->R (⟨0,(Ai b).status,(Ai b).next,⟨0,⟨#[]⟩,0,0⟩,⟨#[]⟩,e⟩:bV).v d):
  AA A P F9 #[Ar y.p,m,J7 wid,J6 J9 ((f+1:Nat):Int)] h R:=
 uh (j.cV wid b k) q (λC D x t=>pZ (n.on x) o j p k λd e u v w z V _ _ _=>t d e u v w z V) r
end
def Ec(P:A2M)(m:List Pr):List Pr:=m.filter λx=>Md P x.key
section
variable {P k : A2M} {m b : List Pr} {p x : Pr}
theorem AQq(k:A2M):aO k (⟨#[]⟩:A2M)=false:=by unfold aO;rw[ByteArray.toList_eq,ByteArray.toList_eq];cases k.data.toList<;>rfl
theorem ZE(a:Int):jn m P ⟨#[]⟩ a=(Ec P m).take a.toNat:=by unfold jn Ec;rw[HI λx _=>by rw[AQq,Ln,Bool.and_true]]
theorem IU(s:Sorted m):Sorted (Ec P m):=s.sublist Gk
theorem PZ:Ad k (Ec P m)=if Md P k=true then Ad k m else none:=lX (q:=Md P)
theorem ARx(s:Sorted m):Ec P (fV m p)=if Md P p.key=true then fV (Ec P m) p else Ec P m:=by
 split
 ·refine Sorted.ext (IU (Kj s p)) (Kj (IU s) p) λk=>?_
  rw[PZ,Pd s,Pd (IU s),PZ]
  grind
 ·refine Sorted.ext (IU (Kj s p)) (IU s) λk=>?_
  rw[PZ,PZ,Pd s]
  grind
theorem Qv:Ec P (p::b)=if Md P p.key=true then p::Ec P b else Ec P b:=AT
theorem Mq: ∀ {b m:List Pr},Sorted m->Ec P (cq m b)=cq (Ec P m) (Ec P b)
 | [],_,_=>rfl
 |p::b,m,s=>by
  show Ec P (cq (fV m p) b)=_;rw[Mq (Kj s p),ARx s,Qv];split<;>rfl
theorem YZ(a b:List Pr):Ec P (a++b)=Ec P a++Ec P b:=OK _ _
theorem dC(a: ∀p∈b,Md P p.key=false):Ec P b= []:=List.filter_eq_nil_iff.2 λp c=>by rw[a p c];decide
theorem ARe(s:Sorted m)(e:p.gone=false)(d: ∀f∈m,aO f.key p.key=true):fV m p=m++ [p]:=by
 have g:Sorted (m++ [p]):=List.pairwise_append.2 ⟨s,LL _ _,λa h b i=>by rw[List.mem_singleton.1 i];exact d a h⟩;refine Sorted.ext (Kj s p) g λk=>?_
 rw[Pd s,IP,e,M.L6,M.BC,M.Qk];by_cases c:p.key=k
 ·subst c;rw[if_pos rfl,if_pos rfl,M.EO λx j=>M.NI (d x j)];rfl
 ·rw[if_neg c,if_neg c];cases Ad k m<;>rfl
theorem qj(s:Sorted (x::m))(a:p.key=x.key)(c:p.gone=true):fV (x::m) p=m:=by
 rw[sA s,c,if_pos rfl,a];unfold kA;rw[AT,if_neg (by simp)];refine List.filter_eq_self.2 λd e=>?_
 have:=M.NI ((List.pairwise_cons.1 s).1 d e);simp[Ne.symm this]
end
theorem tX: ∀ {a b:List UInt8},a.length=b.length->a<b-> ∀x e:List UInt8,a++x<b++e
 | [],[],_,c,_,_=>absurd c (List.lt_irrefl _)
 | [],_::_,d,_,_,_=>by cases d
 |_::_,[],d,_,_,_=>by cases d
 |a::p,b::f,d,c,x,e=>by
  cases c with
  |rel c=>exact List.Lex.rel c
  |cons c=>exact List.Lex.cons (tX (by simpa using d) c x e)
theorem tY: ∀(k:Nat) {a b:Nat},b<256^k->a<b->Jm k a<Jm k b
 |0,a,b,c,d=>by simp at c;omega
 |k+1,a,b,c,d=>by
  rw[Jm,Jm];by_cases e:a / 256=b / 256
  ·rw[e];refine xR _ (List.Lex.rel ?_);rw[RD a,RD b,UInt8.lt_iff_toNat_lt,Dc (by omega),Dc (by omega)];omega
  ·have f:b / 256<256^k:=by rw[DP] at c;omega
   exact tX (by rw[LM,LM]) (tY k f (by omega)) _ _
abbrev tZ:Nat:=18446744073709551616
theorem ANX {c a b:Nat}(d:b<tZ)(e:a<b):aO (Ko c a) (Ko c b)=true:=by rw[Vr,decide_eq_true_eq];unfold Ko;rw[BX,BX];exact List.Lex.cons (List.Lex.cons (tY 8 d e))
def Yr(c a:Nat):A2M:=AX (113::0::Bl c::Jm 8 a)
theorem u0:jQ ⟨#[]⟩=AX [113,0]:=by unfold jQ BI;rw[show bl (⟨#[]⟩:A2M)= [] from rfl,Fp (by decide)];rfl
theorem ANM(c a:Nat):BH (Yr c a)=113:=by unfold BH Yr;rw[EJ];rfl
theorem u5 {a:UInt8}{d:List UInt8}{k:A2M}(c:Md (AX (a::d)) k=true):BH k=a:=by rw[LV,BX] at c;obtain⟨t,e⟩:=c;unfold BH;show(k.data.toList).headD 0=a;rw[<- e];rfl
theorem nN {a:UInt8}{c:List UInt8}{k:A2M}(d:BH k≠a):Md (AX (a::c)) k=false:=by
 cases e:Md (AX (a::c)) k with
 |false=>rfl
 |true=>exact absurd (u5 e) d
theorem AGv {c a e:Nat}(f:c<256)(g:a<256):Md (Zr c) (Ko a e)=decide (c=a):=by
 rw[DS,LV,decide_eq_true_eq];unfold Zr Ko;rw[BX,BX];constructor
 ·rintro⟨t,d⟩;simp only[DH,CN,GC,true_and] at d;exact VV f g d.1
 ·rintro rfl;exact⟨_,rfl⟩
theorem AJ7(c a:Nat):Md (jQ ⟨#[]⟩) (Yr c a)=true:=by rw[LV,u0];unfold Yr;rw[BX,BX];exact⟨_,rfl⟩
theorem qk {c:Nat}{b:List Pr}(a: ∀p∈b,BH p.key≠116):Ec (Zr c) b= []:=dC λp d=>nN (a p d)
theorem ql {b:List Pr}(a: ∀p∈b,BH p.key≠113):Ec (jQ ⟨#[]⟩) b= []:=by rw[u0];exact dC λp c=>nN (a p c)
abbrev qm(wid:A2M):A2M:=OX ⟨1,2,0⟩ wid
def kP(c:Nat)(t:Nat×A2M):Pr:=⟨Ko c t.1,qm t.2,false⟩
def u6(c:Nat)(t:Nat×A2M):Pr:=⟨Yr c t.1,qm t.2,false⟩
structure jR (mp:List Pr) (T:Nat->List (Nat×A2M)) (L:List Pr):Prop where
 tr: ∀c,c<3->Ec (Zr c) mp=(T c).map (kP c)
 li:Ec (jQ ⟨#[]⟩) mp=L
section
variable {mp b : List Pr} {T : Nat -> List (Nat × A2M)} {L : List Pr}
def u7(T:Nat->List (Nat×A2M))(c:Nat)(l:List (Nat×A2M)):Nat->List (Nat×A2M):=λa=>if a=c then l else T a
theorem jR.made {c f:Nat}{wid:A2M}{a g:List Pr}(l:jR mp T L)(s:Sorted mp)(v:c<3)(i: ∀p∈a++g,BH p.key≠116/\BH p.key≠113)(n:f<tZ)(o: ∀t∈T c,t.1<f):jR (cq mp (a++kP c (f,wid)::g)) (u7 T c (T c++ [(f,wid)])) L:=by
 have q: ∀d,d<3->Ec (Zr d) (a++kP c (f,wid)::g)=if d=c then [kP c (f,wid)] else []:=λd j=>by
  rw[YZ,Qv,qk (b:=a) λp h=>(i p (by simp[h])).1,qk (b:=g) λp h=>(i p (by simp[h])).1,show Md (Zr d) (kP c (f,wid)).key=decide (d=c) from AGv (by omega) (by omega)];by_cases e:d=c<;>simp[e]
 refine⟨λd j=>?_,?_⟩
 ·rw[Mq s,q d j,l.tr d j];unfold u7;by_cases e:d=c
  ·subst e;rw[if_pos rfl,if_pos rfl,C2];refine ARe (by rw[<- l.tr d j];exact IU s) rfl λw r=>?_
   obtain⟨t,u,rfl⟩:=List.mem_map.1 r;exact ANX n (o t u)
  ·rw[if_neg e,if_neg e];rfl
 ·rw[Mq s,ql (b:=a++kP c (f,wid)::g) λp h=>?_]
  ·exact l.li
  ·rcases List.mem_append.1 h with e|e
   ·exact(i p (by simp[e])).2
   ·rcases List.mem_cons.1 e with rfl|e
    ·show BH (Ko c f)≠113;rw[Xq];decide
    ·exact(i p (by simp[e])).2
theorem jR.take {c d:Nat}{wid v:A2M}{a g:List Pr}(i:jR mp T (u6 c (d,wid)::L))(s:Sorted mp)(h: ∀p∈a++g,BH p.key≠116/\BH p.key≠113):jR (cq mp (a++⟨Yr c d,v,true⟩::g)) T L:=by
 refine⟨λl n=>?_,?_⟩
 ·rw[Mq s,qk (b:=a++⟨Yr c d,v,true⟩::g) λp e=>?_]
  ·exact i.tr l n
  ·rcases List.mem_append.1 e with f|f
   ·exact(h p (by simp[f])).1
   ·rcases List.mem_cons.1 f with rfl|f
    ·show BH (Yr c d)≠116;rw[ANM];decide
    ·exact(h p (by simp[f])).1
 ·have j:=IU (P:=jQ ⟨#[]⟩) s;rw[i.li] at j;rw[Mq s,i.li,YZ,Qv,show Md (jQ ⟨#[]⟩) (Yr c d)=true from AJ7 _ _,if_pos rfl,ql (b:=a) λp e=>(h p (by simp[e])).2,ql (b:=g) λp e=>(h p (by simp[e])).2];exact qj j rfl rfl
end
def UW(p:Pr):Pr:=⟨p.key,⟨#[]⟩,true⟩
def cD(wid:A2M)(b:List Ev)(c:Bool)(d e:A2M):List Pr:= [⟨Es wid,I1 (Ai b).status.toNat (Ai b).next.toNat c,false⟩,⟨d,e,false⟩]
def bN(wid:A2M)(b:List Ev)(c:A2M)(left:List Pr):List Pr:=(⟨Es wid,I1 (Ai b).status.toNat (Ai b).next.toNat true,false⟩::(left.take 40).map UW)++(if left.length<=40 then [⟨c,⟨#[]⟩,true⟩] else [])
section
variable {A : al} {B B' : cu} {g h : aa} {s a a' N sh : Nat} {l : List Hs} {mp : List Pr} {O : Nat -> Prop} {i : Nat} {y : Hs} {fl : cK} {an : cO} {R : A2L} {ap : Q2}
theorem AQ1 {wid tk tv:A2M}{a1 r:Bool}{d:List Ev}{a2:Nat}(aI:LW B g h s a N sh l mp O)(a3:l[i]? =some y)(Z:KE d)(a4:Ak wid=true)(a5:(Ai d).status≠0)(bW:ap=some ⟨a2,0,none⟩)(bY:tk.size<=1000000)
  (ld: ∀(q:aa) (T:A2L),Ext h q->(∀ o u a' a6 al,Ext q o->View cw o u d->(r=false-> ∀x,u.ag=some x->q.size<=x)->T (J1 #[(⟨wid,(BA wid sh:Int),⟨(Ai d).status,(Ai d).next,r⟩,u,(Ai d).V a' a6 al⟩:bX).v,J6 J9 0]) o)->AA A P Dz #[Ar y.p,.iface BU (J5 ap),J7 wid] q T)
  (a7: ∀(q:aa) (u:Sl) (U:Nat->Prop) (T:A2L),r=false->Ext h q->LW B g q s a N sh l mp U->(∀ c,O c->U c)->View cw q u d->(∀ c,u.ag=some c->U c)->(∀ o,LW B' g o s a' N sh l mp U->Mod (bz g U) q o->o[s]? =q[s]? ->T (J6 J9 0) o)->AA A P Cv #[J5 ap,J7 wid,J4 u.p u.len u.cap] q T)
  (same:r=true->B'=B/\a'=a)
  (aJ: ∀f conds sl am,LW B' g f s a' N sh l mp am->(∀ c,O c->am c)->View BO f conds (cD wid d r tk tv)->View BO f sl (bN wid d tk ((Ec (Gb wid) mp).take 41))->(∀ c,sl.ag=some c->am c)->Mod (bz g O) h f->f[s]? =h[s]? ->
   AA A P Fg #[Ar y.p,J6 J9 (BA wid sh:Int),J4 conds.p conds.len conds.cap,J4 sl.p sl.len sl.cap] f λv a8=> ∃t:Int,v=J6 J9 t/\R (J1 #[J3 (decide (((Ec (Gb wid) mp).take 41).length<=40)),J6 J9 t]) a8):
  AA A P JJ #[Ar y.p,J5 ap,J7 wid,.agg #[J7 tk,J7 tv,J3 a1]] h R:=by
 obtain⟨nx,bZ⟩:=Z.next;have b0:=Z.len;have b1:=Z.st;have a9:=FB a4;refine ABy ?_;unfold UU;refine ao.mk λq _ ab aq b2=>ld q _ aq λaK u b3 b4 c1 ar V ba=>Qo.mk _ ⟨_,rfl,ao.mk λb5 _ bb bc b6=>aL.mk bb (A0 18) λD J bd b7=>af.no rfl ?_⟩
 rw[XP] at J;have au:Ext aK D:=bc.more bd λc e=>by subst e;exact A0 _
 have L:=aq.trans (ar.trans au);have ab:=(ar.trans au).ag ab λh=>h
 have b8:=aq.size;have b9:=ar.size;have ca:=L.size;have cb:=Aj ab;have cc:=Aj J;have aM:=V.ext au;generalize cd:h.size=be at*
 generalize ce:aK.size=W at*
 let Q:Nat->Prop:=λw=>O w\/(h.size<=w/\w<D.size)
 have aN:LW B g D s a N sh l mp Q:=aI.own L.mod λw k=>k
 have bf: ∀o,Mod (bz g Q) D o->Mod (bz g O) h o:=λo m=>L.mod.trans (m.aj λc _ e=>bz.less e λc bg=> .inl bg)
 refine AC.mk (n:=(Ai d).status) (CJ J rfl) (af.no (by simpa using a5) (ai.mk λK bh=>?_));have slt:=aI.slt;have key: ∀f,LW B' g f s a' N sh l mp Q->Mod (bz g Q) D f->f[s]? =h[s]? ->K () f:=λf ac ad bi=>by
  have bj:f[be]? =_:=bz.aS ad ab (.inr ⟨by omega,by omega⟩);have aO:f[W]? =_:=bz.aS ad J (.inr ⟨by omega,by omega⟩);have cf:=ad.size;refine bh _ _ (ac.store a3 ⟨_,rfl,nR (by omega) λcg aP=>⟨_,rfl,?_⟩⟩);refine(ac.on aP).scan (by have:=rI a9;omega) λps av F ch bk=>⟨_,_,rfl,af.no rfl ?_⟩
  rw[ZE] at F;have F:Own BO AQ av ps ((Ec (Gb wid) mp).take 41):=F;generalize (Ec (Gb wid) mp).take 41=left at F aJ;have ag:=aP.trans bk;have aQ:=ag.ag bj λh=>h
  have aR:=ag.ag aO λh=>h
  have ci:=ag.size;have aw: ∀ {G:aa} {x:bX},G[W]? =some (J2 x.c DI (0,0))->Cells G ((⟨W,0,none⟩:Q6).add 2) x.me.l:=λbm=>by
   have H:(⟨W,0,none⟩:Q6).add 2=⟨W,2,none⟩:=rfl;rw[H];exact Dn bm rfl
  refine Jz.mk ⟨(Ai d).status,(Ai d).next,r⟩ (aw aR) (ao.mk λcj _ bn bo ck=>aL.mk bn (A0 3) λcl bp bq cm=>?_);refine ae.bJ (j:=2) (dK:=(⟨(Ai d).status,(Ai d).next,true⟩:cQ).c) bp (of_decide_eq_true rfl) rfl λbr bs bt cn=>?_
  have ah:Ext av br:=bo.more (bq.trans bt) λc e=>by subst e;exact A0 _
  have S:=ah.ag aQ λh=>h
  have aS:=ah.ag aR λh=>h
  refine Jz.mk ⟨(Ai d).status,(Ai d).next,r⟩ (aw aS) (AJ.mk (n:=tk) (AL S rfl) (AJ.mk (n:=tv) (AB S rfl) (R7 (by omega) ⟨_,rfl,AB S rfl,AL S rfl,(aw aS).nj,?_⟩)));refine nS (m:=⟨(Ai d).status,(Ai d).next,r⟩) (st:=(Ai d).status.toNat) (nx:=(Ai d).next.toNat) (by show(Ai d).status=_;omega) (by show(Ai d).next=_;omega) (by omega) (by omega) λaT ax=>⟨_,rfl,AB (ax.ag S λh=>h) rfl,AL (ax.ag S λh=>h) rfl,?_⟩
  refine ao.mk λbu _ bv bw co=>?_
  have ay:=ax.trans bw;have aU:Cells bu (⟨av.size,0,none⟩:Q6) (⟨(Ai d).status,(Ai d).next,true⟩:cQ).l:=Dn (ay.ag bs λh=>h) rfl;refine Jz.mk ⟨(Ai d).status,(Ai d).next,true⟩ aU (R7 (by omega) ⟨_,rfl,aU.nj,?_⟩);refine nS (m:=⟨(Ai d).status,(Ai d).next,true⟩) (st:=(Ai d).status.toNat) (nx:=(Ai d).next.toNat) (by show(Ai d).status=_;omega) (by show(Ai d).next=_;omega) (by omega) (by omega) λz az=>⟨_,rfl,ao.mk λbx _ bA bB cp=>?_⟩
  have bC:Own BO AQ z ⟨some ⟨aT.size,0,none⟩,2,2⟩ (cD wid d r tk tv):=Own.lit (E:=BO) (l:=cD wid d r tk tv) (az.ag bv λh=>h) rfl (by simp[maxLen,cD]);have bD:Own BO AQ bx ⟨some ⟨z.size,0,none⟩,1,1⟩ [⟨Es wid,I1 (Ai d).status.toNat (Ai d).next.toNat true,false⟩]:=Own.lit (E:=BO) (l:= [⟨Es wid,I1 (Ai d).status.toNat (Ai d).next.toNat true,false⟩]) bA rfl (by simp[maxLen]);have aA:=ah.trans (ay.trans az);have cq:=F.len;have cr:=F.view.cap;obtain⟨n,bE⟩: ∃n:Nat,n=min 40 left.length:=⟨_,rfl⟩;have bF:(if(40:Int)<((ps.len:Nat):Int) then(40:Int) else((ps.len:Nat):Int))=((n:Nat):Int):=by split<;>omega
  rw[bF,As];refine⟨⟨by omega,by omega⟩,?_⟩;have aV:=F.view.sub (lo:=0) (hi:=n) (A5 _) (by omega);rw[HP] at aV;have bG:left.take n=left.take 40:=by
   rw[bE];rcases Nat.le_total 40 left.length with h|h
   ·rw[Fm h]
   ·rw[OS h,Bm,Ax h]
  have cs:=aA.size;refine Loop.rule (λm x G=> ∃(j:Nat) (sl:Sl),x=(sl,(j:Int),())/\m=n-j/\j<=n/\Ext z G/\Own BO AQ G sl (⟨Es wid,I1 (Ai d).status.toNat (Ai d).next.toNat true,false⟩::(left.take j).map UW)/\ ∀c,sl.ag=some c->z.size<=c) ?_
   ⟨0,⟨some ⟨z.size,0,none⟩,1,1⟩,rfl,rfl,A5 _,bB,bD,λc e=>by have:z.size=c:=(by simpa [Sl.ag] using e);omega⟩
  rintro ct m _ G ⟨j,sl,rfl,rfl,cu,I,aj,X⟩ bH;dsimp only;refine af.intro (λk=>?_) (λk=>?_)
  ·have ak:j<n:=by have:=of_decide_eq_true k;omega
   obtain⟨p,aW⟩: ∃p,left[j]? =some p:=⟨_,A2 (by omega)⟩;refine(aV.ext (aA.trans I)).idx (i:=j) (x:=p) (by rw[Fc,if_pos ak];exact aW) λcv _ bI=>?_
   obtain⟨bJ,bK,bL⟩:=bI.pair;refine AJ.mk bJ (AJ.mk bK (AZ.mk bL (ao.pair λb cx cy bM aC cz=>AJ.mk (n:=p.key) (AL bM rfl) ?_)));refine ao.aZ (E:=BO) (x:=UW p) (s:=sl) rfl M.Gc (aj.ext aC) (by rw[A6,AS,An];omega) (by rw[A6,AS,An];simp only[maxLen];omega) λaD aX aE aF aG _=>?_
   rw[Ab (by omega)];have bO:=I.size;have cB:=aC.size;refine bH (n-(j+1)) _ _ (by omega) ⟨j+1,aD,rfl,rfl,ak,(I.trans aC).more aF X,?_,λc e=>?_⟩
   ·rw[AD,aW];rw[CD,C2,<-DH];exact aE
   ·rcases aG c e with h|h
    ·exact X c h
    ·omega
  ·have ak:j=n:=by have:=of_decide_eq_false k;omega
   subst ak;rw[bG] at aj;refine ai.mk λbP bQ=>?_
   have aY: ∀(C:aa) (sl:Sl),Ext z C->Own BO AQ C sl (bN wid d tk left)->(∀ c,sl.ag=some c->z.size<=c)->bP (sl,()) C:=λC sl aZ a0 bR=>by
    have Y:=ag.trans (aA.trans aZ);refine bQ _ _ (AC.mk (n:=(BA wid sh:Int)) (AB (Y.ag aO λh=>h) rfl) ?_);have bS:LW B' g C s a' N sh l mp (λw=>Q w\/(f.size<=w/\w<C.size)):=ac.own Y.mod λw k=>k
    have cC:=Y.size;have H:(decide (((ps.len:Nat):Int)<=(40:Int)))=decide (left.length<=40):=by rw[decide_eq_decide];omega
    rw[H];refine aJ C ⟨some ⟨aT.size,0,none⟩,2,2⟩ sl _ bS (λc e=> .inl (.inl e)) (bC.view.ext aZ) a0.view (λc e=> .inr ⟨by have:=bR c e;omega,a0.lt e⟩) (bf C (ad.trans Y.mod)) ?_;rw[<- bi];have:=ac.slt;exact Y.get s this (λh=>h)
   have H:(decide (((ps.len:Nat):Int)<=(40:Int)))=decide (left.length<=40):=by rw[decide_eq_decide];omega
   rw[H];refine af.intro (λk=>?_) (λk=>?_)
   ·have k:left.length<=40:=of_decide_eq_true k;have bT:=(ah.trans (ay.trans (az.trans I))).ag aQ λh=>h
    refine AJ.mk (n:=tk) (AL bT rfl) ?_;refine ao.aZ (E:=BO) (x:=⟨tk,⟨#[]⟩,true⟩) (s:=sl) rfl M.Gc aj (by rw[A6,AS,An];omega) (by rw[A6,AS,An];simp only[maxLen];omega) λaD aX aE aF aG _=>?_
    have bO:=I.size;refine aY aX aD (I.more aF X) ?_ λc e=>?_
    ·unfold bN;rw[if_pos k];exact aE
    ·rcases aG c e with h|h
     ·exact X c h
     ·omega
   ·have k: ¬left.length<=40:=of_decide_eq_false k;refine aY G sl I ?_ X;unfold bN;rw[if_neg k,AK];exact aj
 refine AZ.mk (n:=r) (Bz J rfl) ?_;cases aH:r with
 |true=>
  obtain⟨rfl,rfl⟩:=same aH;exact af.no rfl (key D aN Mod.refl (L.get s slt λh=>h))
 |false=>
  refine af.yes rfl (Aa.mk (s:=u) (CJ J rfl) ?_);refine a7 D u Q _ aH L aN (λc e=> .inl e) aM (λc e=> .inr ⟨by have:=ba aH c e;omega,?_⟩) λo bU bV al=>⟨_,rfl,af.no rfl (key o bU bV (al.trans (L.get s slt λh=>h)))⟩
  exact aM.kH (λH=>Z.ne H) e
end
def dL(p:cn)(k:Nat):bg:=⟨p,0,3+(k:Int),0,2,0,true,[],[],false,false⟩
def ir(p:cn)(k:Nat):bg:= {Zk (dL p k) 4 with next:=4+(k:Int)}
abbrev kQ(k:Nat)(x:A2M):Ev:=⟨3+(k:Int),12,0,0,0,0,false,x⟩
abbrev kR(k:Nat):Ev:=⟨3+(k:Int),18,7,0,0,0,false,⟨#[]⟩⟩
abbrev dI(a:Int)(aV wid name:A2M):cp:=⟨a,aV,wid,name,Xb,0,Xb,0,0,0,0,false⟩
section
variable {p : cn} {k n : Nat} {aV wid name : A2M} {fl fl' : cK} {an an' : cO} {ev : List Ev} {mp mp' : List Pr} {y y' : Hs} {e st nx : Int}
theorem ARB {a:bA}(f:a.err=0)(b:a.st=dL p k)(g:a.now=0)(h:a.more= [])(j:k<=400)(i:Ak name=true):
  EF a (cX 12 name)= {a with st:=dL p (k+1),more:= [kQ k name]}:=by
 have c:Cc a (cX 12 name)=kQ k name:=by unfold Cc;rw[b,g,if_neg (by show ¬(1:Int)>3+(k:Int);omega)];rfl
 have ok:=ANk (id:=3+(k:Int)) (tick:=0) (data:=name) (by omega) (by decide) i;have d:Bh a.st (Cc a (cX 12 name))=(0,dL p (k+1)):=by rw[c,b];unfold Bh;rw[if_neg (by simp[ok]),if_neg (by show ¬3+(k:Int)=0;omega),if_neg (by simp[dL]),if_neg (by simp[dL])];unfold PM KL;rw[if_neg (by simp),if_neg (by simp),if_neg (by simp),if_pos rfl];show((0:Int),({dL p k with fresh:=true,next:=3+(k:Int)+1}:bg))=_;simp only[dL,LR,true_and,bg.mk.injEq,and_true];omega
 rw[oR f (.inr (.inl (by rw[b];show 3+(k:Int)<=497;omega))) (by rw[d]),d,c,h];rfl
theorem AQn {a:bA}(f:a.err=0)(b:a.st=dL p k)(g:a.now=7)(h:a.more= [])(i:k<=400):
  EF a (cX 18 ⟨#[]⟩)= {a with st:=ir p k,more:= [kR k]}:=by
 have c:Cc a (cX 18 ⟨#[]⟩)=kR k:=by unfold Cc;rw[b,g,if_neg (by show ¬(1:Int)>3+(k:Int);omega)];rfl
 have ok:=tT (id:=3+(k:Int)) (tick:=7) (k:=18) (by omega) (by decide) (.inr (.inr rfl));have d:Bh a.st (Cc a (cX 18 ⟨#[]⟩))=(0,ir p k):=by rw[c,b];unfold Bh;rw[if_neg (by simp[ok]),if_neg (by show ¬3+(k:Int)=0;omega),if_neg (by simp[dL]),if_neg (by simp[dL])];show((0:Int),({Zk (dL p k) 4 with next:=3+(k:Int)+1}:bg))=(0,ir p k);unfold ir;rw[show 3+(k:Int)+1=4+(k:Int) by omega]
 rw[oR f (.inr (.inr rfl)) (by rw[d]),d,c,h];rfl
theorem ui {b:Int}(f:b=2/\Ak name=true\/b=4)(g:Ak wid=true)(h:Ak aV=true):Pg (dI b aV wid name) ⟨[],0⟩=0:=by
 unfold Pg;rw[if_neg (λa=>by have i:b=1:=a.1;omega),if_neg];rintro(a|a|a)
 ·have i:b=2:=a.1;have c:Ak name=false:=a.2;rcases f with⟨_,d⟩|d
  ·rw[d] at c;cases c
  ·omega
 ·rw[show(dI b aV wid name).wid=wid from rfl,g] at a;cases a
 ·rw[show(dI b aV wid name).aV=aV from rfl,h] at a;cases a
theorem AQy(K:k<=400)(D:Ak name=true)(L:Ak wid=true)(M:Ak aV=true)(N:an aV=none)(s:fl wid=some ev)(E:Ai ev=dL p k)
  (O:Xe fl an n (dI 2 aV wid name) ⟨[],0⟩ 0 e st nx fl' an') (P:lZ mp mp' fl fl' n (dI 2 aV wid name) ⟨[],0⟩ 0 y y'):
  e=0/\fl'=dH fl wid (ev++ [kQ k name])/\(∃ Q,an'=dH an aV Q)/\Ai (ev++ [kQ k name])=dL p (k+1)/\ ∃b,mp'=cq mp b/\ ∀t∈b,BH t.key≠109:=by
 have R:NY fl an 1 (dI 2 aV wid name) ⟨[],0⟩=none:=by rw[qf (by show(1:Int)<=2/\(2:Int)<=4;decide) (ui (.inl ⟨rfl,D⟩) L M) N];show(match fl wid with|none=>_|some l=>_)=none;rw[s];show(if(2:Int)=1 then some ((181:Int),(0:Int),(0:Int)) else if(Ai ev).status≠0 then some (182,0,0) else none)=none;rw[if_neg (by decide),E,if_neg (by simp[dL])]
 have u: ∀a d g,BF (EP (dI 2 aV wid name) ⟨[],0⟩ (BR (fl wid) wid n 0) a) d g=EP (dI 2 aV wid name) ⟨[],0⟩ (BR (fl wid) wid n 0) a/\(EP (dI 2 aV wid name) ⟨[],0⟩ (BR (fl wid) wid n 0) a).err=0/\
   (EP (dI 2 aV wid name) ⟨[],0⟩ (BR (fl wid) wid n 0) a).st=dL p (k+1)/\(EP (dI 2 aV wid name) ⟨[],0⟩ (BR (fl wid) wid n 0) a).more= [kQ k name]/\ ∃v,(EP (dI 2 aV wid name) ⟨[],0⟩ (BR (fl wid) wid n 0) a).ar= [⟨JO aV,v,false⟩]:=λa d g=>by
  rw[s];have F:Cw (dI 2 aV wid name) ⟨[],0⟩ (BR (some ev) wid n 0) a=EF (BR (some ev) wid n 0) (cX 12 name):=rfl;rw[ARB (p:=p) (k:=k) rfl E rfl rfl K D] at F;have S: ∀h:bA,h=EP (dI 2 aV wid name) ⟨[],0⟩ (BR (some ev) wid n 0) a->h.err=0/\h.st=dL p (k+1)/\h.more= [kQ k name]/\ ∃v,h.ar= [⟨JO aV,v,false⟩]:=λh w=>by
   unfold EP at w;rw[F] at w;subst w;exact⟨rfl,rfl,rfl,_,rfl⟩
  obtain⟨T,x,U,V⟩:=S _ rfl;refine⟨?_,T,x,U,V⟩;have W:Dp (EP (dI 2 aV wid name) ⟨[],0⟩ (BR (some ev) wid n 0) a)=false:=by unfold Dp;rw[x];simp[dL]
  unfold BF EZ;rw[W];simp[x,dL]
 rcases O with⟨_,_,G|⟨_,z,_,_,a,d,g,j⟩⟩|⟨_,z,a,d,g,m,o,ad,q,X,_,_,i⟩
 ·rw[R] at G;cases G
 ·have f:=u a d g;have j:e=(BF (EP (dI 2 aV wid name) ⟨[],0⟩ (BR (fl wid) wid n 0) a) d g).err:=j;rw[f.1] at j;exact absurd (j.trans f.2.1) z
 ·obtain⟨Y,ae,Z,aa,af⟩:=u a d g;have o:m=BF (EP (dI 2 aV wid name) ⟨[],0⟩ (BR (fl wid) wid n 0) a) d g:=o;rw[Y] at o;have q:fl'=dH fl wid ((fl wid).getD []++m.more):=q;have i:Ai ((fl wid).getD []++m.more)=m.st:=i;rw[s,GB,o,aa] at q i;rw[Z] at i;refine⟨z,q,⟨_,X⟩,i,?_⟩;rcases P with⟨A,ag⟩|⟨H,I,J,B,r,ah,A,_,_⟩
  ·exact⟨[],A,λt C=>by cases C⟩
  ·obtain⟨ab,ai,aj,ak,v,ac⟩:=u H I J;have r:B=BF (EP (dI 2 aV wid name) ⟨[],0⟩ (BR (fl wid) wid n 0) H) I J:=r;rw[ab] at r;refine⟨_,A,λt C=>?_⟩;rcases List.mem_append.1 C with c|c
   ·unfold Er at c;rcases List.mem_append.1 c with c|c
    ·obtain⟨e,_,rfl⟩:=List.mem_map.1 c;rw[show BH (Nc B.wid e).key=104 from Sn _ _];decide
    ·split at c
     ·cases c
     ·rw[List.mem_singleton.1 c,show BH (Es B.wid)=119 from Dw _];decide
   ·rw[r,ac] at c;rw[List.mem_singleton.1 c];show BH (JO aV)≠109;rw[JY];decide
theorem ARI(H:k<=400)(w:Ak wid=true)(I:Ak aV=true)(J:an aV=none)(o:fl wid=some ev)(x:Ai ev=dL p k)
  (K:Xe fl an n (dI 4 aV wid ⟨#[]⟩) ⟨[],0⟩ 7 e st nx fl' an') (L:lZ mp mp' fl fl' n (dI 4 aV wid ⟨#[]⟩) ⟨[],0⟩ 7 y y'):
  e=0/\fl'=dH fl wid (ev++ [kR k])/\Ai (ev++ [kR k])=ir p k/\ ∃a M,mp'=cq mp (a++ [⟨CZ n 27 M,OX ⟨7,0,0⟩ wid,false⟩])/\ ∀z∈a,BH z.key≠109:=by
 have N:NY fl an 1 (dI 4 aV wid ⟨#[]⟩) ⟨[],0⟩=none:=by rw[qf (by show(1:Int)<=4/\(4:Int)<=4;decide) (ui (.inr rfl) w I) J];show(match fl wid with|none=>_|some l=>_)=none;rw[o];show(if(4:Int)=1 then some ((181:Int),(0:Int),(0:Int)) else if(Ai ev).status≠0 then some (182,0,0) else none)=none;rw[if_neg (by decide),x,if_neg (by simp[dL])]
 have O:KN ⟨7,0,0⟩ wid=true:=ZM (by decide) w (by decide);have r: ∀g h d c,c=BF (EP (dI 4 aV wid ⟨#[]⟩) ⟨[],0⟩ (BR (fl wid) wid n 7) g) h d->c.err=0/\c.st=ir p k/\c.more= [kR k]/\ ∃v,c.ar= [⟨JO aV,v,false⟩,⟨CZ n 27 d,OX ⟨7,0,0⟩ wid,false⟩]:=λg h d c i=>by
  rw[o] at i;have A:Cw (dI 4 aV wid ⟨#[]⟩) ⟨[],0⟩ (BR (some ev) wid n 7) g=EF (BR (some ev) wid n 7) (cX 18 ⟨#[]⟩):=rfl;rw[AQn (p:=p) (k:=k) rfl x rfl rfl H] at A;have P: ∀b:bA,b=EP (dI 4 aV wid ⟨#[]⟩) ⟨[],0⟩ (BR (some ev) wid n 7) g->b.err=0/\b.st=ir p k/\b.more= [kR k]/\b.now=7/\b.wid=wid/\b.aq=n/\ ∃v,b.ar= [⟨JO aV,v,false⟩]:=λb s=>by
   unfold EP at s;rw[A] at s;subst s;exact⟨rfl,rfl,rfl,rfl,rfl,rfl,_,rfl⟩
  obtain⟨B,t,C,Q,D,R,v,S⟩:=P _ rfl;generalize EP (dI 4 aV wid ⟨#[]⟩) ⟨[],0⟩ (BR (some ev) wid n 7) g=b at*
  have T:Dp b=false:=by unfold Dp;rw[t];simp[ir,Zk]
  have U:BF b h d= {b with ar:=b.ar++ [⟨La b.aq (kT b) d,OX ⟨7,0,0⟩ b.wid,false⟩]}:=by
   have V:EZ b h=b:=by unfold EZ;rw[T];rfl
   unfold BF;rw[V,if_pos ⟨by rw[C];simp,by rw[t];simp[ir,Zk]⟩];unfold ET;rw[if_neg (by simp[B]),if_neg (by rw[D];simp[O])]
  rw[U] at i;subst i;refine⟨B,t,C,v,?_⟩;show b.ar++ [⟨La b.aq (kT b) d,OX ⟨7,0,0⟩ b.wid,false⟩]=_;have W:kT b=27:=by unfold kT;rw[Q];rfl
  rw[S,D,R,W];rfl
 rcases K with⟨_,_,E|⟨_,u,_,_,g,h,d,X⟩⟩|⟨_,u,g,h,d,c,i,ag,j,ah,_,_,m⟩
 ·rw[N] at E;cases E
 ·exact absurd (X.trans (r g h d _ rfl).1) u
 ·obtain⟨ai,Y,Z,aj⟩:=r g h d c i;have j:fl'=dH fl wid ((fl wid).getD []++c.more):=j;have m:Ai ((fl wid).getD []++c.more)=c.st:=m;rw[o,GB,Z] at j m;rw[Y] at m;refine⟨u,j,m,?_⟩;rcases L with⟨F,aa⟩|⟨ab,ac,G,q,ad,ak,F,_,_⟩
  ·exfalso;have:=congrFun (j.symm.trans aa) wid;rw[JV,o] at this;have:=congrArg List.length (BE this);simp at this
  ·obtain⟨al,am,ao,v,ae⟩:=r ab ac G q ad;refine⟨Er q++ [⟨JO aV,v,false⟩],G,by rw[F,ae,A4];rfl,λz af=>?_⟩;rcases List.mem_append.1 af with f|f
   ·unfold Er at f;rcases List.mem_append.1 f with f|f
    ·obtain⟨e,_,rfl⟩:=List.mem_map.1 f;rw[show BH (Nc q.wid e).key=104 from Sn _ _];decide
    ·split at f
     ·cases f
     ·rw[List.mem_singleton.1 f,show BH (Es q.wid)=119 from Dw _];decide
   ·rw[List.mem_singleton.1 f];show BH (JO aV)≠109;rw[JY];decide
end
theorem AJl {A:al}{h:aa}{a b:Sl}{c d:List Ev}{R:A2L}(k:View cw h a c)(l:View cw h b d)(L:c.length<=1099511627776)
  (n:R (J3 (decide (c=d))) h):AA A P Kq #[J4 a.p a.len a.cap,J4 b.p b.len b.cap] h R:=by
 refine Vv ?_;unfold PE;rw[k.len,l.len];refine af.intro (λe=>?_) (λe=>?_)
 ·have:c≠d:=by rintro rfl;simp at e
  simpa [this] using n
 ·have M:c.length=d.length:=by simp at e;omega
  refine Loop.rule (λm x p=> ∃i:Nat,x=((i:Int),())/\p=h/\m=c.length-i/\i<=c.length/\c.take i=d.take i) ?_ ⟨0,rfl,rfl,rfl,by omega,by simp⟩;rintro K m _ _ ⟨i,rfl,rfl,rfl,N,o⟩ q;refine af.intro (λe=>?_) (λe=>?_)
  ·have j:i<c.length:=by simpa using e
   rw[<- k.len];refine k.idx (A2 j) λO _ c1=>?_
   obtain⟨r,s,t,u,v,w,y,z⟩:=kq c1;refine AC.mk r (AC.mk s (AC.mk t (AC.mk u (AC.mk v (AC.mk w (AZ.mk y (AJ.mk z ?_)))))));rw[<- l.len];refine l.idx (A2 (by omega)) λQ _ c2=>?_
   obtain⟨B,C,D,E,F,G,H,I⟩:=kq c2;refine AC.mk B (AC.mk C (AC.mk D (AC.mk E (AC.mk F (AC.mk G (AZ.mk H (AJ.mk I ?_)))))));refine yS ⟨_,rfl,?_⟩;refine af.intro (λf=>?_) (λf=>?_)
   ·have f:c[i]≠d[i]'(by omega):=by simpa using f
    have:c≠d:=by rintro rfl;exact f rfl
    simpa [this] using n
   ·have J:c[i]=d[i]'(by omega):=by simpa using f
    dsimp only;rw[Ab (by omega)];refine q (c.length-(i+1)) _ _ (by omega) ⟨i+1,rfl,rfl,rfl,j,?_⟩;rw[LS j,LS (show i<d.length by omega),o,J]
  ·have j:i=c.length:=by simp at e;omega
   have:c=d:=by rw[Ax (by omega),Ax (by omega)] at o;exact o
   simpa [this] using n
theorem ASs {A:al}{h:aa}{c a:Nat}{R:A2L}(l:R (J6 J9 27) h):AA A P Xi #[J7 (CZ c 27 a)] h R:=by
 have b:=JN c 27 a;have j: ∀i:Nat,i<10->du (CZ c 27 a) (i:Int)=if i=0 then 109 else if i=1 then((Bl c).toNat:Int) else if i=9 then 27 else 0:=λi n=>by
  have d:(CZ c 27 a).data.toList=109::Bl c::0::0::0::0::0::0::0::27::Jm 8 a:=by unfold CZ;rw[BX];rfl
  rcases(by omega:i=0\/i=1\/i=2\/i=3\/i=4\/i=5\/i=6\/i=7\/i=8\/i=9) with rfl|rfl|rfl|rfl|rfl|rfl|rfl|rfl|rfl|rfl<;>rw[OH (by rw[d];rfl)]<;>rfl
 refine AIs ?_;unfold vd;refine ai.mk λK o=>af.no (by rw[b];rfl) ⟨⟨by omega,by rw[b];decide⟩,?_⟩
 have k:=j 0 (by decide);rw[show((0:Nat):Int)=0 from rfl] at k;rw[k];refine o _ _ (af.no rfl ?_);refine Loop.rule (λm x p=> ∃i:Nat,x=((if i=8 then(27:Int) else 0),(i:Int),())/\m=8-i/\i<=8/\h=p) ?_ ⟨0,rfl,rfl,by decide,rfl⟩;rintro s m _ _ ⟨i,rfl,rfl,n,rfl⟩ q;dsimp only;refine af.intro (λe=>?_) (λe=>?_)
 ·have f:i<8:=by have:=of_decide_eq_true e;omega
  rw[show((2:Int)+(i:Int))=((2+i:Nat):Int) from by omega,ED (by omega),j (2+i) (by omega),if_neg (show ¬i=8 by omega)];refine⟨⟨by omega,by rw[b];omega⟩,?_⟩;rw[Ab (by omega)];have d:dX .u64 (J8 .u64 ((0:Int)*((2:Int)^(8:Nat)))) (J8 .u64 (if 2+i=0 then 109 else if 2+i=1 then((Bl c).toNat:Int) else if 2+i=9 then 27 else 0))=if i+1=8 then(27:Int) else 0:=by
   rw[if_neg (by omega),if_neg (by omega)];by_cases r:i=7
   ·subst r;decide
   ·rw[if_neg (by omega),if_neg (by omega)];decide
  rw[d];exact q (8-(i+1)) _ _ (by omega) ⟨i+1,rfl,rfl,f,rfl⟩
 ·have f:i=8:=by have:=of_decide_eq_false e;omega
  subst f;exact l
abbrev nT(b s p a:Nat):Array J0:= #[Ar b,Ar s,Ar p,Ar a]
section
variable {A : al} {g h : aa} {R : A2L}
theorem AHf [Zc]{e d:Nat}{Sb:Nat->Prop}{D v1 v2 E:J0}(t:cy g)(F:Ce h e Sb hZ)(x:Ext g h)(G: ∀c,Sb c->g.size<=c)(f:h[d]? =some (J2 #[D,v1,v2,E] GM (0,0)))(u:g.size<=d)(nx: ¬Sb d)(H:Zc.bx=e)(I:Zc.zf=(λ_=>none))
  (J: ∀i s y k mp,EW g i s 1 1 [y] mp (λ_=>none) (λ_=>none) (λa=>a=d\/a=k)->mg mp y 1->y.name=mf->i[d]? =some (J2 (nT e s y.p k) GM (0,0))->i[k]? =some (J2 #[Ar e] Ff (0,0))->(∀ a,BH a≠108->Ad a mp=none)->R (J3 true) i):
  AA A P Hy #[Ar d,Ar e] h R:=by
 refine QR ?_;unfold LH;have au:=Aj f;refine aD (ae.bJ (j:=0) f (of_decide_eq_true rfl) rfl λK L l av=>?_);have aw:=l.size;have M:Ext g K:=x.more l λc b=>by subst b;exact u
 refine LW.jx (B:=gi) (sh:=1) (O:=λa=>a=d) t (F.mod l λc b o=>by subst o;exact nx b) M G rfl rfl (λn=>rfl) (λn=>rfl) (λx f=>absurd rfl f) (by show 1<=1600;decide) (by show ba hZ.files<=0;decide) H.symm (λy _=>by show _=Zc.zf y;rw[I];rfl) (λc b=>by subst b;exact⟨u,by omega,nx⟩) λax s N Q ay=>⟨_,_,rfl,af.no rfl ?_⟩
 have S:=Q.ag L λb=>b.elim nx λh=>by omega
 refine N.host (name:=mf) (by decide) (by decide) λaz v T U V W=>⟨_,_,rfl,af.no rfl ?_⟩
 have X:=W.ag S λh=>h
 refine ATU (n:=0) (y:=⟨v,T,U,mf,λ_=>0,λ_=>0⟩) (mp:= []) t ⟨V,KS.empty,λz Y m=>by rw[List.mem_singleton.1 Y];exact⟨A0 _,A0 _⟩⟩ (by decide) (by decide) ⟨λn aA=>by omega,λn _=>⟨rfl,λ_=>Ga.empty⟩⟩ (by show Ak mf=true;decide) λq mp Z aa ab ac=>⟨_,_,rfl,?_⟩
 have w:=bz.aS ab X rfl;refine UV ?_;unfold QQ;refine ao.mk λaC _ ad C aE=>⟨_,rfl,?_⟩
 have ag:=C.ag w λh=>h
 have aF:=Aj w;refine aD (ae.bJ (j:=1) ag (of_decide_eq_true rfl) rfl λaG ah ai aH=>aD (ae.bJ (j:=2) ah (of_decide_eq_true rfl) rfl λaI aj ak aJ=>aD (ae.bJ (j:=3) (dK:=nT e s v q.size) aj (of_decide_eq_true rfl) rfl λal am an aK=>?_)));have r:=ai.trans (ak.trans an);have ap:=Z.own (O':=λa=>a=d\/a=q.size) (C.mod.trans r) λc b=>b.imp id λh=>by have:=r.size;omega
 exact J al s _ q.size mp ap aa rfl am (r.ag ad (by omega)) λa aq=>by rw[ac,Km AEA λp ar o=>aq (by rw[<- o,List.mem_singleton.1 ar];exact SB 0)];rfl
theorem YT {o U s p u:Nat}{ev:List Ev}{st nx:Int}(V:h[o]? =some (J2 (nT U s p u) GM (0,0)))(ap:ev.length<=500)
  (D: ∀(d:aa) (n:Nat) (F:A2L),Ext h d->n<=ev.length->(∀ j a,Ext d j->View cw j a (Uk ev n)->(∀ c,a.ag=some c->d.size<=c)->F (⟨0,st,nx,⟨0,⟨#[]⟩,0,0⟩,⟨#[]⟩,a⟩:bV).v j)->AA A P F9 #[Ar p,.iface BU (Ar u),J7 ⟨#[119]⟩,J6 J9 ((n+1:Nat):Int)] d F)
  (W: ∀j sl,Ext h j->View cw j sl ev->(∀ c,sl.ag=some c->h.size<=c)->R (J1 #[J4 sl.p sl.len sl.cap,J3 true]) j):
  AA A P FZ #[Ar o] h R:=by
 refine QS ?_;unfold Kw;refine Loop.rule (λm x d=> ∃(n:Nat) (sl:Sl),x=(sl,())/\m=ev.length-n/\n<=ev.length/\Ext h d/\Own cw Ah d sl (ev.take n)/\ ∀c,sl.ag=some c->h.size<=c) ?_
  ⟨0,Xb,rfl,rfl,A5 _,Mod.refl,Own.nil,λc f=>by simp[Sl.ag] at f⟩
 rintro K m _ d ⟨n,sl,rfl,rfl,v,k,q,w⟩ X;dsimp only;have G:=q.len;rw[An,Fm v] at G;have H:=k.ag V λh=>h
 have c2: ∀ {e:aa},Ext d e->ah e ((⟨o,0,none⟩:Q6).add 2)=some (Ar p):=λi=>AB (i.ag H λh=>h) rfl
 have c3: ∀ {e:aa},Ext d e->ah e ((⟨o,0,none⟩:Q6).add 3)=some (Ar u):=λi=>AB (i.ag H λh=>h) rfl
 refine ai.mk λY Z=>aD (AY.mk (c2 Mod.refl) (aD (AY.mk (c3 Mod.refl) ?_)))
 rw[G,Ab (by omega)];have aq:=k.size;have I: ∀(e:aa) (b:Nat) (a:Sl),Ext d e->e[b]? =some (J2 (⟨0,st,nx,⟨0,⟨#[]⟩,0,0⟩,⟨#[]⟩,a⟩:bV).c DJ (0,0))->View cw e a (Uk ev n)->Y (some ⟨b,0,none⟩,()) e:=λe b a i y J=>by
  have ar:=J.len;have au:(Uk ev n).length=min 32 (ev.length-n):=by unfold Uk;rw[An,Cp]
  refine Z _ _ (aD (AC.mk (n:=0) (AL y rfl) (af.no rfl (aD (Aa.mk (s:=a) (AB y rfl) (af.intro (λl=>?_) (λl=>?_)))))))
  ·have l:a.len=0:=by simpa using l
   have z:n=ev.length:=by omega
   subst z;rw[Bm] at q;exact W e sl (k.trans i) (q.view.ext i) w
  ·have l:a.len≠0:=by simpa using l
   refine aD (Aa.mk (s:=a) (AB y rfl) ?_);refine GJ (E:=cw) (s:=sl) (src:=a) mU (q.ext i) J (by rw[An];omega) (by rw[An];simp only[maxLen];omega) λab av L ac ad _=>?_
   have B:ev.take n++Uk ev n=ev.take (n+min 32 (ev.length-n)):=by unfold Uk;rw[List.take_add];congr 1;rw[TX,Cp];omega
   rw[B] at L;have aw:=i.size;refine X (ev.length-(n+min 32 (ev.length-n))) _ _ (by omega) ⟨n+min 32 (ev.length-n),ab,rfl,rfl,by omega,(k.trans i).more ac w,L,λc f=>?_⟩;rcases ad c f with h|h
   ·exact w c h
   ·omega
 refine⟨D d n _ k v λax a C M _=>KZ.mk _ ⟨rfl,ao.mk λay _ ae r az=>⟨c3 (C.trans r),c2 (C.trans r),aL.mk ae (A0 9) λag N O aA=>?_⟩⟩,ao.mk λaj _ ak t aC=>⟨c3 t,c2 t,D aj n _ (k.trans t) v λaE a Q al am=>KZ.mk _ ⟨rfl,aL.mk (Q.ag ak λh=>h) (A0 9) λan S T aF=>?_⟩⟩⟩
 ·rw[QU] at N;refine I ag _ a (C.trans (r.more O λc f=>by subst f;exact A0 _)) N ((M.ext r).dA O λz c f B=>?_);have:=M.kH z f;omega
 ·rw[QU] at S;refine I an _ a ((t.trans Q).more T λc f=>by subst f;exact A0 _) S (al.mod T λc f B=>?_);have:=am c f;omega
end
theorem nU {c:Nat}{b:List Pr}(h: ∀p∈b,BH p.key≠109):Ec (IE c) b= []:=dC λp a=>nN (h p a)
abbrev wW:A2M:=⟨#[119]⟩
abbrev nV:bQ:=⟨3,⟨#[110,101,118,101,114]⟩,⟨#[]⟩,0,0,0⟩
abbrev kS:cn:=⟨[nV],0⟩
def iM(a:Nat):A2M:=AX [115,Bl (97+a % 26),Bl (97+a / 26)]
theorem ARg {i a:Nat}(b:i<120)(c:a<120)(h:iM i=iM a):i=a:=by have:=Mx.1 h;simp only[GC,true_and,and_true] at this;have d:=VV (by omega) (by omega) this.1;have e:=VV (by omega) (by omega) this.2;omega
theorem ATV: ∀ {i:Nat},i<120->Ak (iM i)=true:=by
 have h: ∀i:Fin 120,Ak (iM i.val)=true:=by decide
 intro i a;exact h ⟨i,a⟩
theorem uj {i:Nat}{b:A2M}(h:b.size≠3):iM i≠b:=λa=>h (by rw[<- a];unfold iM;rw[AP];rfl)
def nW(an:cO)(i:Nat):Prop:=an ⟨#[116]⟩=none/\ ∀a,i<=a->a<120->an (iM a)=none
theorem ANs {x:cp}{p:cn}{n:Nat}{fl c:cK}{an j:cO}{mp l:List Pr}{y w:Hs}{a st nx:Int}(d:x.kind=1)(m:Pg x p=0)(z:p.az=0)(B:an x.aV=none)(o:fl x.wid=none)
  (O:Xe fl an n x p 0 a st nx c j) (C:lZ mp l fl c n x p 0 y w):
  a=0/\st=0/\nx=3/\(∃ q,c=dH fl x.wid q/\Ai q=dL p 0)/\(∃ D,j=dH an x.aV D)/\ ∃b,l=cq mp b/\ ∀e∈b,BH e.key≠109:=by
 obtain⟨E,M,F,N⟩:=kO m;obtain⟨G,H,I,J,K,L⟩:=O.start d m B o (by decide);refine⟨G,H,I,⟨_,J,L⟩,⟨_,K⟩,?_⟩;rcases C with⟨f,P⟩|⟨n0,n1,n2,r,t,Q,f,_,_⟩
 ·exact⟨[],f,λe i=>by cases i⟩
 ·rw[o] at t;obtain⟨S,v,u⟩:=AJL (n:=n) (n0:=n0) (n1:=n1) (n2:=n2) (now:=0) d (E d) F (by decide) z;rw[<- t] at u;refine⟨_,f,λe i=>?_⟩;rcases List.mem_append.1 i with h|h
  ·unfold Er at h;rcases List.mem_append.1 h with h|h
   ·obtain⟨a,_,rfl⟩:=List.mem_map.1 h;rw[show BH (Nc r.wid a).key=104 from Sn _ _];decide
   ·split at h
    ·cases h
    ·rw[List.mem_singleton.1 h,show BH (Es r.wid)=119 from Dw _];decide
  ·rw[u] at h;simp only[HS,P0,or_false] at h;rcases h with rfl|rfl
   ·show BH (JO x.aV)≠109;rw[JY];decide
   ·show BH (Ko n n1)≠109;rw[Xq];decide
section
variable [Zc] {A : al} {g h : aa} {s k : Nat} {y : Hs} {mp : List Pr} {fl : cK} {an : cO} {O : Nat -> Prop} {R : A2L} {xb bb ab p0 : Nat}
structure dD (g h:aa) (s k:Nat) (y:Hs) (mp:List Pr) (fl:cK) (an:cO) (O:Nat->Prop) (xb bb ab p0:Nat):Prop where
 w:EW g h s k 1 [y] mp fl an O
 hp:y.p=p0
 nm:y.name=mf
 f1:y.f 0=1
 ow:jP mp y 0
 ox:O xb
 cx:h[xb]? =some (J2 (nT bb s p0 ab) GM (0,0))
theorem dD.c2(a:dD g h s k y mp fl an O xb bb ab p0):ah h ((⟨xb,0,none⟩:Q6).add 2)=some (Ar p0):=AB a.cx rfl
theorem dD.c3(a:dD g h s k y mp fl an O xb bb ab p0):ah h ((⟨xb,0,none⟩:Q6).add 3)=some (Ar ab):=AB a.cx rfl
theorem dD.c1(a:dD g h s k y mp fl an O xb bb ab p0):ah h ((⟨xb,0,none⟩:Q6).add 1)=some (Ar s):=AB a.cx rfl
theorem dD.own {b:aa}{O':Nat->Prop}(a:dD g h s k y mp fl an O xb bb ab p0)(d:Mod O h b)(e: ∀c,O' c->O c\/(h.size<=c/\c<b.size))(f:b[xb]? =h[xb]?)(i:O' xb):dD g b s k y mp fl an O' xb bb ab p0:=
 ⟨a.w.own d e,a.hp,a.nm,a.f1,a.ow,i,f.trans a.cx⟩
theorem dD.on {b:aa}(a:dD g h s k y mp fl an O xb bb ab p0)(x:Ext h b):dD g b s k y mp fl an O xb bb ab p0:=⟨a.w.on x,a.hp,a.nm,a.f1,a.ow,a.ox,x.ag a.cx λh=>h⟩
theorem dD.less {O':Nat->Prop}(a:dD g h s k y mp fl an O xb bb ab p0)(b: ∀c,O' c->O c)(d:O' xb):dD g h s k y mp fl an O' xb bb ab p0:=⟨a.w.less b,a.hp,a.nm,a.f1,a.ow,d,a.cx⟩
theorem dD.fC {x:cp}{p:cn}{u:J0}{b:Int}(v:cy g)(a:dD g h s k y mp fl an O xb bb ab p0)(w:k+1<=490)(V:View Ql h x.steps p.steps)(z:x.az=p.az)(len:p.steps.length<=1099511627776)(B: -4611686018427300000<=b/\b<=4611686018427300000)
  (C: ∀c f j d l m st nx,dD g c s (k+1) f j d l O xb bb ab p0->Mod (bz g O) h c->Xe fl an 0 x p b m st nx d l->lZ mp j fl d 0 x p b y f->R (fw m st nx).v c):
  AA A P Dg #[Ar p0,u,J6 J9 b,x.v] h R:=by
 have o:BA x.wid 1=0:=by have:=XX x.wid (n:=1) (by decide);omega
 rw[<- a.hp];refine a.w.iz (i:=0) v rfl w (by rw[o];exact a.ow) V z len B λc f j d l m st nx D e E q r t=>?_
 rw[o] at r t;refine C c f j d l m st nx ⟨D,e.p.trans a.hp,e.name.trans a.nm,by rw[e.f];exact a.f1,?_,a.ox,bz.aS q a.cx a.ox⟩ q r t;have:=a.ow;unfold jP at this ⊢;rw[e.f,e.name,E];exact this
end
abbrev eV(a:Nat):Pr:=⟨CZ 0 27 a,OX ⟨7,0,0⟩ wW,false⟩
section
variable [Zc] {A : al} {g h : aa} {s k : Nat} {y : Hs} {mp : List Pr} {fl : cK} {an : cO} {O : Nat -> Prop} {R : A2L} {xb bb ab p0 : Nat}
theorem AEx {n:Nat}(E:cy g)(u:dD g h s k y mp fl an O xb bb ab p0)(b7:n<=119)(b8:k<=100)(bj:fl wW=none)(bk:an ⟨#[114]⟩=none)(hA:nW an 0)(G:Ec (IE 0) mp= [])
  (bm: ∀v aX o q r t f z,dD g v s aX o q r t O xb bb ab p0->aX<=k+121->Mod (bz g O) h v->r wW=some f->Ai f=ir kS n->Ec (IE 0) q= [eV z]->R (J1 #[.agg #[J7 (eV z).key,J7 (eV z).val,J3 false],J3 true]) v):
  AA A P Gm #[Ar xb,J6 J9 (n:Int)] h R:=by
 refine Ph ?_;unfold KI;have b9:=(u.w.w.out u.ox).1;have ap:=u.ox;have aY: ∀m:Nat,m<256->J8 .u8 ((m:Nat):Int)=((Bl m).toNat:Int):=λm aZ=>by rw[wrap_u8,Dc aZ,AE aZ]
 refine ao.mk λD _ ay T ca=>ai.mk λK bn=>?_
 generalize cb:h.size=pb at*
 have H:dD g D s k y mp fl an (λd=>O d\/d=pb) xb bb ab p0:=u.own T.mod (λc e=>e.imp id λh=>by omega) (T.get xb (by omega) λh=>h) (.inl u.ox);have bo: ∀sl:Sl,Pg (⟨1,⟨#[114]⟩,wW,⟨#[]⟩,sl,0,Xb,0,0,0,0,false⟩:cp) kS=0:=λsl=>by
  unfold Pg;rw[if_neg (λh=>by have B:=h.2;exact absurd B (by decide)),if_neg];rintro(h|h|h)
  ·exact absurd h.1 (show ¬(1:Int)=2 by decide)
  ·exact absurd h (show ¬Ak ⟨#[119]⟩=false by decide)
  ·exact absurd h (show ¬Ak ⟨#[114]⟩=false by decide)
 have key: ∀(M:aa) (az:Nat) (o:Hs) (q:List Pr) (r:cK) (t:cO) (f:List Ev),dD g M s (k+1) o q r t (λd=>O d\/d=pb) xb bb ab p0->Mod (λd=>bz g O d\/pb<=d) h M->M[az]? =some (J2 (fw 0 0 3).c DJ (0,0))->M[pb]? =some (J2 #[J7 (⟨#[]⟩:A2M),J7 (⟨#[]⟩:A2M),J3 false] AQ (0,0))->r wW=some f->Ai f=dL kS 0->nW t 0->Ec (IE 0) q= []->K (some ⟨az,0,none⟩,()) M:=λM az o q r t f a0 a1 a2 U W I hA G=>by
  refine bn _ _ (aD (AC.mk (n:=0) (AL a2 rfl) (af.no rfl ?_)));refine Loop.rule (λm x w=> ∃(i:Nat) (y:Hs) (mp:List Pr) (fl:cK) (an:cO) (f:List Ev),x=((i:Int),())/\m=n-i/\i<=n/\dD g w s (k+1+i) y mp fl an (λd=>O d\/d=pb) xb bb ab p0/\Mod (λd=>bz g O d\/pb<=d) h w/\w[pb]? =some (J2 #[J7 (⟨#[]⟩:A2M),J7 (⟨#[]⟩:A2M),J3 false] AQ (0,0))/\fl wW=some f/\Ai f=dL kS i/\nW an i/\Ec (IE 0) mp= []) ?_
   ⟨0,o,q,r,t,f,rfl,rfl,A5 _,a0,a1,U,W,I,hA,G⟩
  clear a0 a1 U W I hA G a2;rintro cc m _ w ⟨i,y,mp,fl,an,f,rfl,rfl,cd,u,a3,U,W,I,hA,G⟩ bp;dsimp only;have N: ∀ {v X:aa},Mod (bz g λd=>O d\/d=pb) v X->Mod (λd=>bz g O d\/pb<=d) v X:=λm=>m.aj λd _ C=> .inl (bz.less C λc F=> .inl F)
  refine af.intro (λC=>?_) (λC=>?_)
  ·have aA:i<n:=by have:=of_decide_eq_true C;omega
   refine aD (AY.mk u.c2 (aD (AY.mk u.c3 ?_)));rw[show((i:Int).tmod (26:Int))=((i % 26:Nat):Int) from(Mb i 26).symm,show((i:Int).tdiv (26:Int))=((i / 26:Nat):Int) from(P2 i 26).symm,ED (by omega),show((97:Int)+((i % 26:Nat):Int))=((97+i % 26:Nat):Int) from by omega,show((97:Int)+((i / 26:Nat):Int))=((97+i / 26:Nat):Int) from by omega,ED (by omega),ED (by omega)];refine ao.mk λbq _ br aC ce=>?_
   have Y:=u.on aC;have v1:View Hr bq ⟨some ⟨w.size,0,none⟩,2,2⟩ [Bl (97+i % 26),Bl (97+i / 26)]:=(Own.lit (E:=Hr) (l:= [Bl (97+i % 26),Bl (97+i / 26)]) br (by
    show [Value.int .u8 (J8 .u8 ((97+i % 26:Nat):Int)),Value.int .u8 (J8 .u8 ((97+i / 26:Nat):Int))]= [Value.int .u8 ((Bl (97+i % 26)).toNat:Int),Value.int .u8 ((Bl (97+i / 26)).toNat:Int)];rw[aY _ (by omega),aY _ (by omega)]) (by simp[maxLen])).view
   refine⟨Y.c3,Y.c2,LA (s:=⟨some ⟨w.size,0,none⟩,2,2⟩) lA lz Pt v1 ⟨_,rfl,Y.c3,Y.c2,⟨by rw[AP,max_i64];show((3:Nat):Int)<=9223372036854775807;decide,?_⟩⟩⟩;rw[show(⟨#[115]⟩:A2M)++AX [Bl (97+i % 26),Bl (97+i / 26)]=iM i from by
    rw[show(⟨#[115]⟩:A2M)=AX [115] from rfl,Ao];rfl]
   have bs:=ATV (i:=i) (by omega);refine Y.fC (x:=dI 2 (iM i) wW ⟨#[103,111]⟩) (p:=⟨[],0⟩) E (by omega) View.nil rfl (by decide) (by decide) λcf o q r t Q st nx bt a4 Z ac=>KZ.mk _ ⟨rfl,?_⟩
   have ad:=u.w.w.sorted;obtain⟨rfl,rfl,⟨bu,rfl⟩,aE,b,rfl,aF⟩:=AQy (by omega) (by decide) (by decide) bs (hA.2 i (A0 _) (by omega)) W I Z ac;refine af.no rfl ?_;rw[Ab (by omega)];refine bp (n-(i+1)) _ _ (by omega) ⟨i+1,o,_,_,_,_,rfl,rfl,aA,bt,a3.trans (aC.mod.trans (N a4)),bz.aS a4 (aC.ag U λh=>h) (.inr rfl),JV,aE,⟨?_,λj D B=>?_⟩,?_⟩
   ·rw[Om λQ=>uj (i:=i) (by decide:(⟨#[116]⟩:A2M).size≠3) Q.symm];exact hA.1
   ·rw[Om λQ=>by have:=ARg B (by omega) Q;omega];exact hA.2 j (by omega) B
   ·rw[Mq ad,nU aF];exact G
  ·have aA:i=n:=by have:=of_decide_eq_false C;omega
   subst aA;refine aD (AY.mk u.c2 (aD (AY.mk u.c3 ?_)));refine u.fC (x:=dI 4 ⟨#[116]⟩ wW ⟨#[]⟩) (p:=⟨[],0⟩) E (by omega) View.nil rfl (by decide) (by decide) λcg o q r t Q st nx ag a5 Z ac=>KZ.mk _ ⟨rfl,?_⟩
   have ad:=u.w.w.sorted;obtain⟨rfl,rfl,aE,a,z,rfl,bv⟩:=ARI (by omega) (by decide) (by decide) hA.1 W I Z ac;have a6:Ec (IE 0) (cq mp (a++ [eV z]))= [eV z]:=by
    rw[Mq ad,G,YZ,nU bv,Qv,if_pos]
    ·rfl
    ·show Md (IE 0) (CZ 0 27 z)=true;rw[LV];unfold IE CZ;rw[BX,BX];exact⟨_,rfl⟩
   have aG:=bz.aS a5 U (.inr rfl);refine af.no rfl (aD (AY.mk ag.c1 (tW (n:=0) (by decide) λch aH=>⟨_,rfl,(ag.on aH).c1,?_⟩)));refine(ag.on aH).w.w.scan (by unfold IE;rw[AP];show 2<=1099511627776;decide) λps bw S ci bx=>⟨_,_,rfl,?_⟩
   rw[ZE,a6] at S;have S:Own BO AQ bw ps [eV z]:=S;have bA:ps.len=1:=S.len;have aq:=aH.trans bx;have aG:=aq.ag aG λh=>h
   refine ai.mk λcj bB=>af.no rfl (af.no (by rw[bA];rfl) (S.view.idx (i:=0) rfl λbC _ ah=>AJ.mk ah.pair.1 (ASs ⟨_,rfl,bB _ _ (af.no rfl ?_)⟩)))
   refine S.view.idx (i:=0) rfl λbC _ ah=>AJ.mk ah.pair.1 (AJ.mk ah.pair.2.1 (AZ.mk ah.pair.2.2 ?_))
   refine ae.bJ (j:=0) aG (of_decide_eq_true rfl) rfl λck bD bE cl=>ae.bJ (j:=1) bD (of_decide_eq_true rfl) rfl λcm bF bG cn=>ae.bJ (j:=2) (dK:=(eV z).cells) bF (of_decide_eq_true rfl) rfl λbH aI bI co=>?_
   refine AJ.mk (n:=(eV z).key) (AL aI rfl) (AJ.mk (n:=(eV z).val) (AB aI rfl) (AZ.mk (n:=false) (AB aI rfl) ?_));have aJ:=bE.trans (bG.trans bI);have bJ: ¬xb=pb:=by omega
   have bK:=(ag.on aq).own (O':=λd=>O d\/d=pb) (aJ.aj λc _ e=> .inr e) (λc e=> .inl e) (aJ.get xb (by have:=Aj (ag.on aq).cx;omega) bJ) (.inl ap);refine bm bH _ o _ _ _ _ z (bK.less (λc e=> .inl e) ap) (by omega) ?_ JV aE a6;exact(a3.trans ((N a5).trans (aq.mod.trans (aJ.aj λd _ C=> .inr (by omega))))).aj λd bL C=>C.elim id λh=>absurd bL (by omega)
 have N: ∀ {J:Nat->Prop} {v X:aa},(∀ d,O d->J d)->Mod (bz g J) v X->Mod (λd=>bz g O d\/pb<=d) v X:=λbM m=>m.aj λd _ C=> .inl (bz.less C λc F=>bM c F)
 have aK: ∀ {w:aa} {aj:Nat} {J:Nat->Prop} {aM:A2L},dD g w s k y mp fl an J xb bb ab p0->w[aj]? =some (J2 nV.c Bv (0,0))->
   (∀ v o q r t f,dD g v s (k+1) o q r t J xb bb ab p0->Mod (bz g J) w v->r wW=some f->Ai f=dL kS 0->nW t 0->Ec (IE 0) q= []->aM (fw 0 0 3).v v)->
   AA A P Dg #[Ar p0,.iface BU (Ar ab),J6 J9 0,(⟨1,⟨#[114]⟩,wW,⟨#[]⟩,⟨some ⟨aj,0,none⟩,1,1⟩,0,Xb,0,0,0,0,false⟩:cp).v] w aM:=λ{w aj J aM} u bN bO=>by
  have V:View Ql w ⟨some ⟨aj,0,none⟩,1,1⟩ [nV]:=(Own.lit (E:=Ql) (l:= [nV]) bN rfl (by decide)).view;have ad:=u.w.w.sorted;refine u.fC (x:=⟨1,⟨#[114]⟩,wW,⟨#[]⟩,⟨some ⟨aj,0,none⟩,1,1⟩,0,Xb,0,0,0,0,false⟩) (p:=kS) E (by omega) V rfl (by decide) (by decide) λv o q r t Q st nx bP bQ Z ac=>?_
  obtain⟨rfl,rfl,rfl,⟨f,rfl,I⟩,⟨bu,rfl⟩,b,rfl,aF⟩:=ANs rfl (bo _) rfl bk bj Z ac;refine bO v o _ _ _ f bP bQ JV I ⟨?_,λj D B=>?_⟩ (by rw[Mq ad,nU aF];exact G)
  ·exact(Om (by show(⟨#[116]⟩:A2M)≠⟨#[114]⟩;decide)).trans hA.1
  ·exact(Om (uj (by show(⟨#[114]⟩:A2M).size≠3;decide))).trans (hA.2 j D B)
 have lp:=Aj ay;have cr: ¬xb=pb:=by omega
 refine aD (AY.mk H.c2 (aD (AY.mk H.c3 ⟨?_,?_⟩)))
 ·refine ao.mk λaN _ a7 ar cs=>?_
  have L:=H.on ar;have aO:=ar.ag ay λh=>h
  refine⟨L.c3,L.c2,?_,?_⟩
  ·refine aK L a7 λa8 o q r t f a9 ba D B ak al=>KZ.mk _ ⟨rfl,ao.mk λct _ bR bc cu=>?_⟩
   have bd:=a9.on bc;have be:=bz.aS ba aO (.inr rfl);have cv:=Aj be;refine⟨bd.c3,bd.c2,aL.mk bR (A0 9) λbf bg bS cw=>?_⟩;rw[QU] at bg;have aP:Ext a8 bf:=bc.more bS λc e=>by subst e;exact A0 _
   exact key bf a8.size o q r t f (a9.on aP) (T.mod.trans (ar.mod.trans ((N (λc F=> .inl F) ba).trans aP.mod))) bg (aP.ag be λh=>h) D B ak al
  ·refine ao.mk λbT _ bU am cx=>?_
   have aQ:dD g bT s k y mp fl an (λd=>(O d\/d=pb)\/d=aN.size) xb bb ab p0:=L.own am.mod (λc e=>e.imp id λh=>by omega) (am.get xb (Aj L.cx) λh=>h) (.inl L.ox);refine⟨aQ.c3,aQ.c2,aK aQ (am.ag a7 λh=>h) λcz o q r t f aR aS D B ak al=>KZ.mk _ ⟨rfl,aL.mk (bz.aS aS bU (.inr rfl)) (A0 9) λbV bh au cB=>?_⟩⟩;rw[QU] at bh;have bW:=bz.aS aS (am.ag aO λh=>h) (.inl (.inr rfl));have cC:=Aj aO;have bX:=Aj L.cx;have bY:=(aR.own (O':=λd=>(O d\/d=pb)\/d=aN.size) (au.aj λc _ e=> .inr e) (λc e=> .inl e) (au.get xb (Aj aR.cx) (by omega)) aR.ox).less (O':=λd=>O d\/d=pb) (λc e=> .inl e) (.inl ap);exact key bV aN.size o q r t f bY (T.mod.trans (ar.mod.trans (am.mod.trans ((N (λc F=> .inl (.inl F)) aS).trans (au.aj λd _ C=> .inr (by omega)))))) bh (au.ag bW (by omega)) D B ak al
 ·refine ao.mk λbZ _ b0 av cD=>?_
  have aT:dD g bZ s k y mp fl an (λd=>(O d\/d=pb)\/d=D.size) xb bb ab p0:=H.own av.mod (λc e=>e.imp id λh=>by omega) (av.get xb (Aj H.cx) λh=>h) (.inl H.ox);refine⟨aT.c3,aT.c2,ao.mk λcE _ b1 aw cF=>?_⟩;have aU:=aT.on aw;have b2:=(av.trans aw).ag ay λh=>h
  refine⟨aU.c3,aU.c2,aK aU b1 λcG o q r t f aV aW b3 B ak al=>KZ.mk _ ⟨rfl,aL.mk (bz.aS aW (aw.ag b0 λh=>h) (.inr rfl)) (A0 9) λb4 bi ax cH=>?_⟩⟩;rw[QU] at bi;have b5:=bz.aS aW b2 (.inl (.inr rfl));have bX:=Aj H.cx;have b6:=(aV.own (O':=λd=>(O d\/d=pb)\/d=D.size) (ax.aj λc _ e=> .inr e) (λc e=> .inl e) (ax.get xb (Aj aV.cx) (by omega)) aV.ox).less (O':=λd=>O d\/d=pb) (λc e=> .inl e) (.inl ap);exact key b4 D.size o q r t f b6 (T.mod.trans (av.mod.trans (aw.mod.trans ((N (λc F=> .inl (.inl F)) aW).trans (ax.aj λd _ C=> .inr (by omega)))))) bi (ax.ag b5 (by omega)) b3 B ak al
end
section
variable {A : al} {B : cu} {g h : aa} {s a N sh : Nat} {l : List Hs} {mp : List Pr} {O : Nat -> Prop} {R : A2L}
end
theorem AKw {w:A2M}{l:List Ev}(e:Ak w=true)(f:KE l)(t:l.length<=400):PV w l=0/\ ∀b∈l,b.data.size<=4194304:=by
 have ok: ∀b∈l,Dl b=true:=λb d=>by
  obtain⟨i,j⟩:=DE d;exact(f.next.2 i b j).2
 have k:l.all Dl=true:=List.all_eq_true.2 ok;have m: ∀l:List Ev,(∀ b∈l,Dl b=true)->(l.flatMap λb=>BI (EL b)).length<=l.length*2110:=by
  intro l
  induction l with
  |nil=>intro _;simp
  |cons b l o=>
   intro c;have p:=o λx q=>c x (AH _ q)
   have u:=OZ (c b (by simp));have v:=MO (GY (c b (by simp))) (by omega);have y:=AV (n:=(EL b).length) (by omega);have z:(BI (EL b)).length=(Bb (EL b).length).length+(EL b).length:=by simp[BI]
   simp only[AF,A1,A6];omega
 have r:EM l=(0,Nl l):=by unfold EM;rw[if_neg (by omega),if_pos k]
 have c:=m l ok;have C:=AV (n:=l.length) (by omega);have p:(Nl l).length<=1048576:=by simp only[Nl,A1];omega
 refine⟨?_,λb d=>by have:=OZ (ok b d);omega⟩;unfold PV;rw[if_pos e,r,if_neg (by simp),if_neg (by simp;omega)]
section
variable {A : al} {B : cu} {g h : aa} {s a N sh : Nat} {l : List Hs} {mp : List Pr} {O : Nat -> Prop} {i : Nat} {y : Hs} {R : A2L} {ab : Nat} {wid : A2M} {ev : List Ev}
structure Kept (B:cu) (mp:List Pr) (wid:A2M) (ev:List Ev):Prop where
 cV:KE ev
 aS:PV wid ev=0/\ ∀e∈ev,e.data.size<=4194304
 file:B.zf (zn wid)=some (bK ev,bq)
 row:Ad (Es wid) mp=some ⟨Es wid,I1 (Ai ev).status.toNat (Ai ev).next.toNat true,false⟩
theorem ANo(j:LW B g h s a N sh l mp O)(d:l[i]? =some y)(k:Ak wid=true)(m:Kept B mp wid ev)
  (t: ∀n,Ext h n->R (J1 #[(⟨wid,(BA wid sh:Int),⟨(Ai ev).status,(Ai ev).next,true⟩,Xb,bF.z⟩:bX).v,J6 J9 0]) n):AA A P KR #[Ar y.p,J7 wid] h R:=by
 obtain⟨-,u,v⟩:=j.dR d;have b:=m.cV;have nx:=b.next.1;have M:=b.len;have st:=b.st;have Q:1<=ev.length:=List.length_pos_iff.2 b.ne;have S:=FB k;refine Tu ?_;unfold QK;refine ao.mk λT _ w o U=>ai.mk λK x=>af.no rfl (Eg ⟨_,rfl,x _ _ ?_⟩)
 rw[k];have e:=j.on o;refine af.no rfl (e.aF d ⟨_,rfl,Sq (by omega) u v ⟨_,_,rfl,af.no rfl (e.store d ⟨_,rfl,R7 (by omega) ⟨_,rfl,?_⟩⟩)⟩⟩);refine e.get (by rw[MV];omega) λz p=>?_
 have C:=p.ag w λh=>h
 have D:IQ mp (Es wid)=(I1 (Ai ev).status.toNat (Ai ev).next.toNat true,true):=by unfold IQ;rw[m.row]
 rw[D];refine⟨_,_,_,rfl,af.no rfl (af.no rfl (ug (by omega) (by omega) (by omega) λV q=>mN.mk _ ⟨_,rfl,?_⟩))⟩;refine ao.mk λW _ E F X=>aL.mk E (A0 3) λG H I Y=>?_
 have r:Ext z G:=(q.trans F).more I λc f=>by subst f;exact q.size
 refine Jz.mk _ (Dn H rfl) (kL (r.ag C λh=>h) λJ L=>?_);have:=t J ((o.trans (p.trans r)).more L λc f=>by subst f;exact A0 _);rw[show(((Ai ev).status.toNat:Nat):Int)=(Ai ev).status from by omega,show(((Ai ev).next.toNat:Nat):Int)=(Ai ev).next from by omega];exact this
theorem LW.iC(o:LW B g h s a N sh l mp O)(k:h[ab]? =some (J2 #[Ar B.bx] Ff (0,0)))(e:Kept B mp wid ev)(u:B.W0+(1+3*a)*B.K+2000000<1099511627776)
  (p: ∀d b,Ext h d->View cw d b ev->(∀ c,b.ag=some c->h.size<=c)->R (J1 #[J4 b.p b.len b.cap,J6 J9 0]) d):AA A P Cm #[Ar ab,J7 wid] h R:=by
 obtain⟨v,w,st,m,x,nn,f,z,C,D,E,out⟩:=o;have j:=f.db;have F:=FB (Vm e.aS.1).1;rw[<- f.bx] at k;have q:ff m (zn wid)=some (bK ev,bq):=(f.dQ _ (AR4 wid)).trans e.file;have r:=rT (m:=m) j.up e.aS.1 e.aS.2 q;have G:=j.wt;refine Sk k j.mem.box (by omega) (by omega) λd b t n fr=>?_
 rw[r] at n ⊢;exact p d b t n fr.2
theorem uk(F:LW B g h s a N sh l mp O)(Z:l[i]? =some y)(aa:h[ab]? =some (J2 #[Ar B.bx] Ff (0,0)))(ac:Ak wid=true)(t:Kept B mp wid ev)(ad:B.W0+(1+3*a)*B.K+2000000<1099511627776)
  (ag: ∀u d e k m,Ext h u->View cw u d ev->R (J1 #[(⟨wid,(BA wid sh:Int),⟨(Ai ev).status,(Ai ev).next,true⟩,d,(Ai ev).V e k m⟩:bX).v,J6 J9 0]) u):
  AA A P Dz #[Ar y.p,.iface BU (Ar ab),J7 wid] h R:=by
 have v:=t.cV;have ah:=v.len;obtain⟨nx,aj⟩:=v.next;refine UK ?_;unfold QM;refine ao.mk λak _ G w aJ=>ANo (F.on w) Z ac t λo H=>Qo.mk _ ⟨_,rfl,ao.mk λaK _ al am aM=>aL.mk al (A0 18) λI p an aN=>af.no rfl ?_⟩
 rw[XP] at p;have J:Ext o I:=am.more an λc b=>by subst b;exact A0 _
 have L:Ext ak I:=H.trans J;have x:=w.trans L;have aO:=Aj G;have aP:=H.size;have aQ:=J.size;refine ai.mk λK ap=>AZ.mk (n:=true) (Bz p rfl) (af.yes rfl ⟨trivial,af.no rfl ?_⟩)
 refine lR.mk (f:=Cm) (cT:= #[Ar ab,J7 wid]) (by kernel_rfl) ((F.on x).iC (x.ag aa λh=>h) t ad λaR d z aq M=>⟨d,_,rfl,?_⟩);have Q:=z.ag p λh=>h
 have ar:=(L.trans z).ag G λh=>h
 refine ae.bJ (j:=5) (dK:=(⟨wid,(BA wid sh:Int),⟨(Ai ev).status,(Ai ev).next,true⟩,d,bF.z⟩:bX).c) Q (of_decide_eq_true rfl) rfl λS T C aS=>af.no rfl ?_
 have aT:=Aj Q;have aU:=Aj p;have U:View cw S d ev:=aq.mod C λc b D=>by have:=M c b;omega
 have au:=C.ag ar (by omega);refine ap () S (Aa.mk (s:=d) (CJ T rfl) ?_);refine uu U ah (λD av=>by
   obtain⟨j,aw⟩:=DE av;have:=OZ (aj j D aw).2;omega) v.ok λax e k m ay aV aW=>Hw.mk _ ⟨_,_,rfl,?_⟩
 refine ao.mk λaX _ az aA aY=>aL.mk az (A0 12) λV q aC aZ=>?_
 rw[Nn] at q;have aD:Ext ax V:=aA.more aC λc b=>by subst b;exact A0 _
 have r:=ay.trans aD;have E:=r.ag T λh=>h
 have aE:=r.ag au λh=>h
 refine ai.mk λa0 aF=>af.no rfl (AC.mk (n:=(Ai ev).next) (AB q rfl) (AC.mk (n:=(Ai ev).next) (Bz E rfl) ?_))
 refine af.no (by simp) (AC.mk (n:=(Ai ev).status) (AB q rfl) (AC.mk (n:=(Ai ev).status) (CJ E rfl) (aF _ _ (af.no (by simp) ?_))));refine Az.mk _ (Ep q) ?_;have aG:(⟨o.size,0,none⟩:Q6).add 6=⟨o.size,6,none⟩:=rfl;rw[aG];refine aL.mk E (of_decide_eq_true rfl) λa1 aH W a2=>?_
 refine I7.mk ⟨wid,(BA wid sh:Int),⟨(Ai ev).status,(Ai ev).next,true⟩,d,(Ai ev).V e k m⟩ (X6 (by exact aH)) (kL (W.ag aE (by omega)) λX aI=>?_);have a3:=w.size;have Y:Mod (λc=>c=o.size\/c=h.size) V X:=(W.aj λc _ b=> .inl b).trans (aI.aj λc _ b=> .inr b);refine ag X d e k m ((((x.trans z).more C λc b=>by omega).trans r).more Y λc b=>by omega) ?_;exact(U.ext r).mod Y λc b D=>by have:=M c b;omega
end
abbrev AUe:Ev:=⟨3,3,0,2,0,0,false,⟨#[]⟩⟩
structure AUg (C:bA) (wid key:A2M) (c num:Nat) (p:cn):Prop where
 wd:C.wid=wid
 aq:C.aq=c
 mt:C.cE=0/\C.cj=3/\C.kept=false
 st:C.st=stT p 0
 more:C.more= [AUe]
 err:C.err=0
 now:C.now=0
 conds:C.conds= [⟨key,qm wid,false⟩]
 ar:C.ar= [⟨key,⟨#[]⟩,true⟩,⟨CZ c 5 num,OX ⟨4,3,0⟩ wid,false⟩]
section
variable {C : bA} {wid key : A2M} {c c' num n0 : Nat} {p : cn} {mp : List Pr} {fl : cK} {an : cO} {ev : List Ev}
theorem u9 {r:Pr}(h:Ad r.key mp=some r)(a:r.gone=false):CG mp ⟨r.key,r.val,false⟩=true:=by unfold CG IQ;rw[if_neg (by simp),h];simp
end
section
variable {A : al} {g h : aa} {s k sh i : Nat} {l : List Hs} {mp : List Pr} {O : Nat -> Prop} {y y' : Hs} {fl : cK} {an : cO} {ev : List Ev} {R : A2L} {cb c num n0 : Nat} {z : Nat -> Nat} {x : eI} {C : bA} {wid : A2M} {p : cn} {T : Nat -> List (Nat × A2M)} {L : List Pr}
end
abbrev Tq:=Nat×Nat×A2M
abbrev TT:=Nat->List (Nat×A2M)
def AUZ(a:Tq):Pr:=u6 a.1 a.2
def AUU(T:TT)(L:List Tq):List Tq:=L++((T 0).map (λt=>(0,t))++((T 1).map (λt=>(1,t))++(T 2).map λt=>(2,t)))
def Started(b:cK)(wid:A2M):Prop:=Ak wid=true/\ ∃p a,b wid=some a/\Ai a=stS p 0
structure AUd (fl:cK) (y:Hs) (l:List Tq):Prop where
 one: ∀q∈l,q.1<3/\BA q.2.2 3=q.1/\q.2.1<=16777216+y.u q.1/\Started fl q.2.2
 keys:(l.map λq=>(q.1,q.2.1)).Nodup
 wids:(l.map λq=>q.2.2).Nodup
section
variable {A : al} {g h : aa} {s k : Nat} {y y0 y1 : Hs} {mp : List Pr} {fl : cK} {an : cO} {O : Nat -> Prop} {R : A2L} {T : TT} {L : List Tq}
structure QW [Zc] (g h:aa) (s k:Nat) (y0 y1:Hs) (mp:List Pr) (fl:cK) (an:cO) (O:Nat->Prop) (T:TT) (L:List Tq):Prop where
 w:EW g h s k 3 [y0,y1] mp fl an O
 q:jR mp T (L.map AUZ)
 own: ∀n,n<3->jP mp y0 n/\y0.f n=1
 ok:AUd fl y0 (AUU T L)
end
section
variable {A : al} {g h : aa} {s k : Nat} {y0 y1 : Hs} {mp : List Pr} {fl : cK} {an : cO} {O : Nat -> Prop} {R : A2L} {T : TT} {L : List Tq}
end
section
variable {A : al} {g h : aa} {s k : Nat} {y0 y1 : Hs} {mp : List Pr} {fl : cK} {an : cO} {O : Nat -> Prop} {R : A2L} {T : TT} {L : List Tq} {a : Q2}
end
theorem ALR {mp b:List Pr}(s:Sorted mp)(h: ∀p∈b,BH p.key≠108)(c d:Nat)(e:A2M):CG (cq mp b) (F3 c d e)=CG mp (F3 c d e):=by
 have f:Ad (CF c) (cq mp b)=Ad (CF c) mp:=Km s λi j l=>h i j ((congrArg BH l).trans (SB c))
 rw[Oc,Oc];unfold IQ;rw[f]
section
variable {A : al} {g h : aa} {s k : Nat} {y0 y1 : Hs} {mp : List Pr} {fl : cK} {an : cO} {O : Nat -> Prop} {R : A2L} {T : TT} {L : List Tq} {a : Q2}
end
theorem uo: ∀ {n:Nat} {b:List Pr},Sorted b->cq b ((b.take n).map UW)=b.drop n
 |0,b,_=>by simp[cq]
 |n+1,[],_=>rfl
 |n+1,x::m,s=>by
  show cq (fV (x::m) (UW x)) ((m.take n).map UW)=m.drop n;rw[qj (p:=UW x) s rfl rfl];exact uo (List.pairwise_cons.1 s).2
theorem ARd {p:Pr}(h:Ag p=0):Ag (UW p)=0:=by
 have z:(⟨#[]⟩:A2M).size=0:=rfl;unfold Ag at h ⊢;unfold UW
 grind
structure fx (mp:List Pr) (y:Hs) (ev:List Ev) (num k:Nat) (kept:Bool) (tm:List Pr):Prop where
 rows:Ec (Gb wW) mp=(PL wW ev).drop k
 tm:Ec (IE 0) mp=tm
 ow:jP mp y 0
 eY:Ad (Es wW) mp=some ⟨Es wW,I1 (Ai ev).status.toNat (Ai ev).next.toNat kept,false⟩
section
variable {mp : List Pr} {y : Hs} {ev : List Ev} {num k : Nat} {kept : Bool} {tm : List Pr}
theorem Xj:Md (IE 0) (CZ 0 27 num)=true:=by rw[LV];unfold IE CZ;rw[BX,BX];exact⟨_,rfl⟩
theorem uq {b:A2M}(h:BH b≠104):Md (Gb wW) b=false:=nN h
theorem fx.first {f:cK}{m:cO}{num:Nat}(s:Sorted mp)(c:KS mp f m)(d:f wW=some ev)(n:jP mp y 0)(o:Ec (IE 0) mp=tm):fx mp y ev num 0 false tm:=by
 have e:=c.cV wW ev d;refine⟨Sorted.ext (IU s) (Rl e.len e.next.2) λk=>?_,o,n,by rw[c.eY wW (by decide),d];rfl⟩;have j:=c.cF wW (by decide) k;rw[PZ];rw[d,GB] at j;by_cases b:Md (Gb wW) k=true
 ·rw[if_pos b];exact j b
 ·rw[if_neg b]
  symm
  refine M.EO λx p q=>b ?_
  obtain⟨i,r⟩:=DE p;obtain⟨u,t,rfl⟩:=NV r;rw[<- q,Ov e.next.2 t];exact rJ _ _
theorem fx.iZ(M:fx mp y ev num k kept tm){d:Nat}: ∀c∈(((Ec (Gb wW) mp).take 41).take d).map UW,BH c.key=104:=by intro c e;obtain⟨p,b,rfl⟩:=List.mem_map.1 e;have b:=(List.mem_filter.1 (Cd (Cd b))).2;exact ZU b
theorem fx.cases(M:fx mp y ev num k kept tm){q:Pr}(b:q∈bN wW ev (CZ 0 27 num) ((Ec (Gb wW) mp).take 41)):q=⟨Es wW,I1 (Ai ev).status.toNat (Ai ev).next.toNat true,false⟩\/BH q.key=104\/q=⟨CZ 0 27 num,⟨#[]⟩,true⟩:=by
 unfold bN at b;rcases List.mem_append.1 b with h|h
 ·rcases List.mem_cons.1 h with h|h
  ·exact .inl h
  ·exact .inr (.inl (M.iZ q h))
 ·split at h
  ·exact .inr (.inr (List.mem_singleton.1 h))
  ·cases h
theorem fx.check(M:fx mp y ev num k kept tm)(c:KE ev):Eo (bN wW ev (CZ 0 27 num) ((Ec (Gb wW) mp).take 41))=0:=by
 obtain⟨nx,e⟩:=c.next;have st:=c.st;have n:=c.len;refine tI (by unfold bN;simp) ?_ λp d=>?_
 ·unfold bN;simp only[A1,A6,AS,An];split<;>simp<;>omega
 ·unfold bN at d;rcases List.mem_append.1 d with h|h
  ·rcases List.mem_cons.1 h with rfl|h
   ·exact tK (by decide) (by omega) (by omega)
   ·obtain⟨o,b,rfl⟩:=List.mem_map.1 h;have b:=Cd (Cd b);rw[M.rows] at b;obtain⟨i,f⟩:=DE (Hj b);obtain⟨j,m,rfl⟩:=NV f;exact ARd (tJ (by decide) (e i j m).2)
  ·split at h
   ·rw[List.mem_singleton.1 h];exact AK3 (VW (by rw[JN];omega)) (by rw[JN];omega)
   ·cases h
theorem fx.last(M:fx mp y ev num k kept [])(b:KE ev){c:Pr}:dt mp (c::cD wW ev kept (CZ 0 27 num) (OX ⟨7,0,0⟩ wW)) (bN wW ev (CZ 0 27 num) ((Ec (Gb wW) mp).take 41))=100:=by
 have d:Ad (CZ 0 27 num) mp=none:=by have:=PZ (P:=IE 0) (k:=CZ 0 27 num) (m:=mp);rw[M.tm,if_pos Xj] at this;exact this.symm
 have e:CG mp ⟨CZ 0 27 num,OX ⟨7,0,0⟩ wW,false⟩=false:=by unfold CG IQ;rw[if_neg (by simp),d];rfl
 unfold dt;rw[if_neg (by simp[cD]),if_neg (by rw[M.check b];decide),if_neg];unfold cD;rw[DM,DM,DM,e];simp
theorem fx.part [Zc](M:fx mp y ev num k kept [eV num])(s:Sorted mp)(n:KE ev):
  dt mp (F3 0 (y.f 0) y.name::cD wW ev kept (CZ 0 27 num) (OX ⟨7,0,0⟩ wW)) (bN wW ev (CZ 0 27 num) ((Ec (Gb wW) mp).take 41))=0/\
  decide (((Ec (Gb wW) mp).take 41).length<=40)=decide (ev.length<=k+40)/\
  fx (cq mp (bN wW ev (CZ 0 27 num) ((Ec (Gb wW) mp).take 41))) y ev num (k+40) true (if ev.length<=k+40 then [] else [eV num]):=by
 have o:Ad (CZ 0 27 num) mp=some (eV num):=by have:=PZ (P:=IE 0) (k:=CZ 0 27 num) (m:=mp);rw[M.tm,if_pos Xj] at this;rw[Go.Lf.G.M.BC,if_pos rfl] at this;exact this.symm
 have f:(((Ec (Gb wW) mp).take 41).length<=40)↔ev.length<=k+40:=by rw[M.rows,An,Cp];unfold PL;rw[AS];omega
 have t:((Ec (Gb wW) mp).take 41).take 40=(Ec (Gb wW) mp).take 40:=by rw[Mn];rfl
 have u: ∀q:Pr,q.key=CZ 0 27 num->BH q.key=109:=λq d=>by rw[d];exact O0 _ _ _
 have hd:=λq=>M.cases (q:=q)
 refine⟨?_,decide_eq_decide.2 f,⟨?_,?_,⟨M.ow.1,?_⟩,?_⟩⟩
 ·unfold dt;rw[if_neg (by simp[cD]),if_neg (by rw[M.check n];decide),if_pos];unfold cD;rw[DM,DM,DM,M.ow.2,u9 (r:=⟨Es wW,I1 (Ai ev).status.toNat (Ai ev).next.toNat kept,false⟩) M.eY rfl,u9 (r:=eV num) o rfl];rfl
 ·have d:Ec (Gb wW) (bN wW ev (CZ 0 27 num) ((Ec (Gb wW) mp).take 41))=((Ec (Gb wW) mp).take 40).map UW:=by
   unfold bN;rw[t,YZ,Qv,uq (show BH (Es wW)≠104 by rw[Dw];decide),if_neg (by simp),dC (P:=Gb wW) (b:=ite _ _ _),AK]
   ·refine List.filter_eq_self.2 λq j=>?_
    obtain⟨p,c,rfl⟩:=List.mem_map.1 j;exact(List.mem_filter.1 (Cd c)).2
   ·intro p c;split at c
    ·rw[List.mem_singleton.1 c];exact uq (by rw[O0];decide)
    ·cases c
  rw[Mq s,d,uo (IU s),M.rows,Hk]
 ·have d:Ec (IE 0) (bN wW ev (CZ 0 27 num) ((Ec (Gb wW) mp).take 41))=if ev.length<=k+40 then [⟨CZ 0 27 num,⟨#[]⟩,true⟩] else []:=by
   unfold bN;rw[YZ,nU (b:=_::_),CN]
   ·by_cases h:ev.length<=k+40
    ·rw[if_pos (f.2 h),if_pos h,Qv,Xj,if_pos rfl];rfl
    ·rw[if_neg λq=>h (f.1 q),if_neg h];rfl
   ·intro p c;rcases List.mem_cons.1 c with rfl|h
    ·rw[Dw];decide
    ·rw[M.iZ p h];decide
  rw[Mq s,d,M.tm];split
  ·exact qj (LL _ _) rfl rfl
  ·rfl
 ·rw[ALR s λp c=>?_]
  ·exact M.ow.2
  ·rcases hd p c with rfl|h|rfl
   ·rw[Dw];decide
   ·rw[h];decide
   ·rw[O0];decide
 ·refine(lY (p:=⟨Es wW,I1 (Ai ev).status.toNat (Ai ev).next.toNat true,false⟩) s (by unfold bN;simp) λq j d=>?_).trans rfl;have e:=congrArg BH d;rw[Dw] at e;rcases hd q j with rfl|h|rfl
  ·rfl
  ·rw[h] at e;cases e
  ·rw[O0] at e;cases e
end
section
variable {A : al} {B B' : cu} {g h : aa} {s a a' N : Nat} {l : List Hs} {mp : List Pr} {O : Nat -> Prop} {i k num ab : Nat} {y : Hs} {R : A2L} {ev : List Ev} {kept : Bool} {tm : List Pr}
theorem ur(u:cy g)(v:LW B g h s a N 1 l mp O)(q:l[i]? =some y)(w:KE ev)(z:(Ai ev).status≠0)(M:fx mp y ev num k kept tm)(C:y.f 0<=2147483647)(hA:4+3*a'<=B'.A)(D:64*a'+64<=B'.C)(E:a'+1<=1000000)
  (ld: ∀(e:aa) (j:A2L),Ext h e->(∀ d f a' F G,Ext e d->View cw d f ev->(kept=false-> ∀x,f.ag=some x->e.size<=x)->j (J1 #[(⟨wW,(BA wW 1:Int),⟨(Ai ev).status,(Ai ev).next,kept⟩,f,(Ai ev).V a' F G⟩:bX).v,J6 J9 0]) d)->AA A P Dz #[Ar y.p,.iface BU (Ar ab),J7 wW] e j)
  (H: ∀(e:aa) (f:Sl) (o:Nat->Prop) (j:A2L),kept=false->Ext h e->LW B g e s a N 1 l mp o->(∀ c,O c->o c)->View cw e f ev->(∀ c,f.ag=some c->o c)->(∀ d,LW B' g d s a' N 1 l mp o->Mod (bz g o) e d->d[s]? =e[s]? ->j (J6 J9 0) d)->AA A P Cv #[Ar ab,J7 wW,J4 f.p f.len f.cap] e j)
  (same:kept=true->B'=B/\a'=a)
  (I:dt mp (F3 0 (y.f 0) y.name::cD wW ev kept (CZ 0 27 num) (OX ⟨7,0,0⟩ wW)) (bN wW ev (CZ 0 27 num) ((Ec (Gb wW) mp).take 41))≠0-> ∀d J,Mod (bz g O) h d->R (J1 #[J3 J,J6 J9 (dt mp (F3 0 (y.f 0) y.name::cD wW ev kept (CZ 0 27 num) (OX ⟨7,0,0⟩ wW)) (bN wW ev (CZ 0 27 num) ((Ec (Gb wW) mp).take 41)))]) d)
  (K:dt mp (F3 0 (y.f 0) y.name::cD wW ev kept (CZ 0 27 num) (OX ⟨7,0,0⟩ wW)) (bN wW ev (CZ 0 27 num) ((Ec (Gb wW) mp).take 41))=0-> ∀d,LW B' g d s (a'+1) N 1 l (cq mp (bN wW ev (CZ 0 27 num) ((Ec (Gb wW) mp).take 41))) O->Mod (bz g O) h d->R (J1 #[J3 (decide (((Ec (Gb wW) mp).take 41).length<=40)),J6 J9 0]) d):
  AA A P JJ #[Ar y.p,Ar ab,J7 wW,.agg #[J7 (CZ 0 27 num),J7 (OX ⟨7,0,0⟩ wW),J3 false]] h R:=by
 have L:BA wW 1=0:=by have:=XX wW (n:=1) (by decide);omega
 refine AQ1 (tk:=CZ 0 27 num) (tv:=OX ⟨7,0,0⟩ wW) v q w (by decide) z rfl (by rw[JN];decide) ld H same λQ conds sl S T r vc U V W af=>?_
 rw[L];have t: ∀ {d},Mod (bz g S) Q d->Mod (bz g O) h d:=λm=>W.trans (m.aj λc _ X=>bz.less X r)
 refine T.change (i:=i) (x:=y) (n:=0) u q (by decide) C hA D E vc (by unfold cD;simp) U (λ_ b Y=> .inr (V b Y)) (λag p=>?_) (λh=>absurd h M.ow.1) (λ_ Z=>absurd M.ow.2 (by rw[Z];decide)) (λ_ _ hd d ac=>⟨_,rfl,I hd d _ (t ac.mod)⟩) λ_ _ hd d ad ae=>⟨_,rfl,K hd d (ad.less r) (t ae)⟩
 unfold cD at p;simp only[HS,P0,or_false] at p;rcases p with rfl|rfl
 ·show(Es wW).size<=_;rw[MV];decide
 ·show(CZ 0 27 num).size<=_;rw[JN];decide
end
theorem ARJ {e:al}{a:aa}{b:Nat}{d:A2L}(f: ∀c,c[a.size]? =some (J2 #[Ar b] Ff (0,0))->Ext a c->c.size=a.size+1->d (Ar a.size) c):AA e P Mk #[Ar b] a d:=by refine UV ?_;unfold QQ;exact ao.mk λg _ h x i=>f g h x i
abbrev sW:A2M:=⟨#[119]⟩
abbrev sX:A2M:=⟨#[120]⟩
theorem AUM:Ak sW=true:=by decide
theorem ATj:Ak sX=true:=by decide
theorem wx: ¬(zn sX=zn sW):=λa=>by have:=ASl a;revert this;decide
theorem AKX {K:al}{e:aa}{t:A2L}(L: ∀j,Ext e j->t (J3 true) j):AA K P KH #[] e t:=by
 refine UB ?_;unfold Nw;refine tz λb u v w y M=>⟨_,rfl,?_⟩
 refine ARJ λk N z aD=>⟨_,rfl,?_⟩
 refine ao.mk λA _ O m aE=>?_
 have Q:=(w.ext z).ext m;have B:=m.ag N (λe=>e);have f: ∀c,v c->c<u.size:=λc d=>w.lt d
 have n:Own cw Ah A ⟨some ⟨k.size,0,none⟩,1,1⟩ [gv 2 2]:=Own.lit (E:=cw) (l:= [gv 2 2]) O rfl (by simp[maxLen]);have C:PV sW [gv 2 2]=0:=AK4 AUM (by simp) (by simp[(ASn (id:=2) ⟨by decide,by decide⟩).1]) (by simp[gv];rfl);have hd: ∀g∈ [gv 2 2],g.data.size<=4194304:=λg R=>by
  obtain rfl:=List.mem_singleton.1 R;exact A5 _
 have aF:=y.size;refine yz (s:=⟨some ⟨k.size,0,none⟩,1,1⟩) (l:= [gv 2 2]) B Q AOR (λd=>by have:=f _ d;omega) (by simp[hZ,ba]) (by decide) n.view
  (λj S=>n.view.mod S λc d=>by simp[Sl.ag] at d;subst d;exact λd=>by have:=f _ d;omega) (by simp) hd (λT=>absurd C T) λ_ D aG o F G p aH H aI=>⟨_,rfl,?_⟩
 have U: ¬v u.size:=λd=>by have:=f _ d;omega
 have I:=p.ag B U;have V:View cw D ⟨some ⟨k.size,0,none⟩,1,1⟩ [gv 2 2]:=n.view.mod p λc d W=>by simp[Sl.ag] at d;subst d;have:=f _ W;omega
 have X:Ext e A:=(y.trans z).trans m;have Y:Ext e D:=X.more p λc d=>M c d
 have aJ:ba hZ.files=0:=rfl;have Z:WL o sW=(0,[gv 2 2]):=rT G.1 C hd (by rw[H,if_pos rfl]);refine Sk I F (by omega) (by decide) λaK J h q aL=>⟨J,_,rfl,?_⟩
 rw[Z] at q ⊢;have ab:=h.ag I (λe=>e);have ac:WL o sX=(31,[]):=by
  have:FK o (zn sX)=(bq,31):=by rw[Yb G.1,H,if_neg wx];rfl
  unfold WL;rw[if_pos ATj,this];rfl
 refine Sk ab (F.ext h) (by omega) (by decide) λad ae r ag aM=>⟨ae,_,rfl,?_⟩
 rw[ac] at ag ⊢;refine af.yes rfl (af.yes rfl (af.yes rfl ?_));have ah:J.len=1:=by rw[q.len];rfl
 refine af.yes (by rw[ah];rfl) ?_;refine(q.ext r).idx (i:=0) (x:=gv 2 2) rfl λa _ c1=>?_
 obtain⟨ai,aj,ak,am,an,ap,aq,ar⟩:=kq c1;refine AC.mk ai (AC.mk aj (AC.mk ak (AC.mk am (AC.mk an (AC.mk ap (AZ.mk aq (AJ.mk ar ?_)))))));refine((V.ext h).ext r).idx (i:=0) (x:=gv 2 2) rfl λaN _ c2=>?_
 obtain⟨au,av,aw,ax,ay,az,aA,aC⟩:=kq c2;refine AC.mk au (AC.mk av (AC.mk aw (AC.mk ax (AC.mk ay (AC.mk az (AZ.mk aA (AJ.mk aC ?_)))))));refine AUT ⟨_,rfl,?_⟩;refine af.yes (decide_eq_true rfl) ?_;refine Tt (by decide) ⟨_,rfl,?_⟩;have g:bR (zn ⟨#[119,49]⟩) (⟨#[122,119,49]⟩:A2M)=true:=by rw[Cn];decide
 rw[g];exact L ad ((Y.trans h).trans r)
theorem AP0 {x:Int}{n:Nat}(c:0<n)(e:n<=1000): ∃b:Nat,b<n/\(J8 J9 ((x.tmod ((n:Nat):Int))+((n:Nat):Int))).tmod ((n:Nat):Int)=(b:Int):=by have f:x.tmod (n:Int)<n:=Int.tmod_lt_of_pos x (by omega);have g: -(n:Int)<x.tmod n:=Int.lt_tmod_of_pos _ (by omega);rw[wrap_i64 (by omega) (by omega)];obtain⟨a,d⟩: ∃a:Nat,x.tmod (n:Int)+n=(a:Int):=⟨(x.tmod (n:Int)+n).toNat,by omega⟩;rw[d,<-Mb];exact⟨a % n,CC _ c,rfl⟩
theorem AQH {c:List Pr}{a:UInt8}{b:List UInt8}(s:Sorted c)(h: ∀b,BH b≠108->Ad b c=none)(d:a≠108):Ec (AX (a::b)) c= []:=by
 refine List.filter_eq_nil_iff.2 λp e f=>?_
 have:=h p.key (by rw[u5 f];exact d);rw[s.find e] at this;cases this
section
variable {A : al} {h : aa} {R : A2L}
end
end Go.Lf.G
