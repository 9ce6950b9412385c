/-
 Contract: a client's request (chapter 19).
-/
import Derived.Test.YtfiljlifdlfkkaaGreatDoorLfZ27ToE13
import Derived.Test.YtfiljlifdlfkkaaGreatDoorLfKToGA
import Derived.Test.YtfiljlifdlfkkaaGreatDoorLfC2ToZ26
import Derived.Test.YtfiljlifdlfkkaaGreatDoorLfU2ToX2
import Derived.Lib.SliceRun
set_option maxRecDepth 100000
set_option linter.unusedVariables false
set_option linter.unusedSimpArgs false
open Go.IntKind renaming i64→J9,wrap→J8
open Go.Value renaming string→J7,int→J6,pointer→J5,slice→J4,bool→J3,tuple→J1
open Go.Obj renaming cells→J2
open Go renaming Value→J0,Addr→Q6,TypeId→Q7,FuncId→Q8,Program→Q1
open Go.Addr renaming add→Q9,mk→Q5
namespace Go.Lf.G
open Go
open M (Sorted Ac Bt BF Ae Ak BH Ah aY A7 aF Aw)
structure Hs.cV (y y':Hs):Prop where
 p:y'.p=y.p
 name:y'.name=y.name
 f:y'.f=y.f
 u: ∀m,y.u m<=y'.u m/\y'.u m<=y.u m+3
theorem aR.less {g:aa}{O O':Nat->Prop}{c:Nat}(h:aR g O' c)(b: ∀c,O c->O' c):aR g O c:=⟨h.1,λd=>h.2 (b c d)⟩
theorem SX(wid:A31){n:Nat}(h:1<=n):Ao wid n<n:=By _ h
section
variable {A : ao} {B : cX} {g h : aa} {s a N sh : Nat} {l : List Hs} {mp : List Pr} {O : Nat -> Prop} {i : Nat} {y : Hs} {fl : cq} {an : cL} {R : A30}
def mO(b:ba):Option (List Ev)->Prop
 |none=>b.bO=0
 |some l=>b.bW=(BM l).status/\b.bO=(BM l).next/\b.kept=false/\0<b.bO
theorem ATM {b:Option (List Ev)}{wid:A31}{n:Nat}{now:Int}(h: ∀l,b=some l->Ng l):(0<=(Bz b wid n now).bW/\(Bz b wid n now).bW<=4)/\(0<=(Bz b wid n now).bO/\(Bz b wid n now).bO<=501)/\mO (Bz b wid n now) b:=by
 cases b with
 |none=>exact⟨⟨(by decide:(0:Int)<=0),(by decide:(0:Int)<=4)⟩,⟨(by decide:(0:Int)<=0),(by decide:(0:Int)<=501)⟩,rfl⟩
 |some l=>
  have c:=h l rfl;have st:=c.st;have nx:=c.next.1;have d:=c.len;exact⟨st,⟨by show 0<=(BM l).next;omega,by show(BM l).next<=501;omega⟩,rfl,rfl,rfl,by show 0<(BM l).next;omega⟩
theorem ALg {b c:ba}{e d f:Nat}(G:b.grown c e d f)(h:b.more= []):c.more.length<=d:=by have:=G.more;rw[h] at this;simpa using this
theorem AOV {x:bU}{p:bK}{c1:J0}{now:Int}(c2:bL g)(ac:LW B g h s a N sh l mp O)(ak:l[i]? =some y)(al:I4 mp fl an)(V:View UT h x.steps p.steps)(a6:x.aw=p.aw)(len:p.steps.length<=1099511627776)
  (d5: -4611686018427300000<=now/\now<=4611686018427300000) (cj: ∀n,y.f n<=2147483647) (ck: ∀n,y.u n+3<16777216) (d6:N+3<=1000000) (hA:4+3*a<=B.A) (c3:64*a+64<=B.C) (c4:a+1<=1000000)
  (aN: ∀f e st nx,Ox fl an (y.f (Ao x.wid sh)) x p=some (e,st,nx)->Ext h f->R (dD e st nx).v f)
  (c5: ∀f E aX u w,Ox fl an (y.f (Ao x.wid sh)) x p=none->y.cV E->(Az (Fz x p (Bz (fl x.wid) x.wid (Ao x.wid sh) now) aX) u w).err≠0->LW B g f s a (N+3) sh (l.set i E) mp O->Mod (aR g O) h f->R (dD (Az (Fz x p (Bz (fl x.wid) x.wid (Ao x.wid sh) now) aX) u w).err 0 0).v f)
  (c6: ∀f E,Ox fl an (y.f (Ao x.wid sh)) x p=none->y.cV E->Bc mp (FE (Ao x.wid sh) (y.f (Ao x.wid sh)) y.name)=false->LW B g f s a (N+3) sh (l.set i (E.lost (Ao x.wid sh))) mp O->Mod (aR g O) h f->R (dD 170 0 0).v f)
  (c7: ∀f E aX u w D,D=Az (Fz x p (Bz (fl x.wid) x.wid (Ao x.wid sh) now) aX) u w->Ox fl an (y.f (Ao x.wid sh)) x p=none->y.cV E->(ED (Fz x p (Bz (fl x.wid) x.wid (Ao x.wid sh) now) aX)=true->dJ y E (Ao x.wid sh) u)->D.err=0->LW B g f s (a+1) (N+3) sh (l.set i E) (cu mp (DW D++D.aq)) O->
   I4 (cu mp (DW D++D.aq)) (cT fl x.wid ((fl x.wid).getD []++D.more)) (cT an x.bg (Lp x p,D.st.status,D.st.next))->BM ((fl x.wid).getD []++D.more)=D.st->(∀ n bx cl,Bc (cu mp (DW D++D.aq)) (FE n bx cl)=Bc mp (FE n bx cl))->Mod (aR g O) h f->R (dD 0 D.st.status D.st.next).v f):
  AA A P GL #[Ar y.p,c1,J6 J9 now,x.v] h R:=by
 obtain⟨-,cm,c8⟩:=ac.dW ak;have cn:=(List.getElem?_eq_some_iff.1 ak).1;have cS:l.set i y=l:=by rw[<- (List.getElem?_eq_some_iff.1 ak).2];exact OR cn
 have d7:=SX x.wid cm;refine AAt ?_;unfold Tf;refine aj.mk λam _ ao bz d8=>aj.mk λax _ a7 co d9=>?_
 have af:Ext h ax:=bz.trans co;have ao:ax[h.size]? =some (J2 x.c Gf (0,0)):=co.ag ao λh=>h
 have ea:=Aj a7;have aO: ∀ {U:aa} (e st nx:Int),Ext ax U->(∀ f,Ext h f->R (dD e st nx).v f)->aD U ⟨am.size,0,none⟩ (dD e st nx).l λa8=>Bu a8 ⟨am.size,0,none⟩ λc9=>R (c9.v) a8:=λ{U} e st nx I da=>
  KX (I.ag a7 λh=>h) λf bA=>da f ((af.trans I).more bA λc d=>by subst d;exact bz.size)
 refine ah.mk λK db=>?_
 have cp: ∀a9:Bool,(a9=true↔x.kind<1\/4<x.kind)->K (a9,()) ax:=λa9 cq=>by
  refine db _ _ (ae.intro (λk=>aO 1 0 0 Mod.refl λf I=>aN f 1 0 0 (by unfold Ox;rw[if_pos (cq.1 k)]) I) (λk=>?_));have k:a9=false:=k;have bB: ¬(x.kind<1\/4<x.kind):=λh=>by rw[cq.2 h] at k;cases k
  have cr:1<=x.kind/\x.kind<=4:=by omega
  refine UU.mk x (Cr ao rfl) (AOt (V.ext af) a6 len cr λeb aY=>⟨_,_,rfl,?_⟩);by_cases ag:Qj x p=0;rotate_left
  ·refine ae.yes (by simp[ag]) (aO (Qj x p) 0 0 aY λf I=>aN f _ 0 0 (by unfold Ox;rw[if_neg bB,if_pos ag]) I)
  rw[if_pos ag];refine ae.no (by simp[ag]) (ae.no rfl ?_);obtain⟨g1,dc,ay,a0⟩:=ke ag;have ec:=FV ay;have ed:=FV a0;have cs:=AQ1 ag cr;have bC:=ac.on (af.trans aY);have bD:=aY.ag ao λh=>h
  refine AL.mk (n:=x.wid) (AB bD rfl) (bC.au ak ⟨_,rfl,⟨AB bD rfl,uM (by omega) cm c8 ⟨_,_,rfl,bC.holds ak ⟨_,rfl,?_⟩⟩⟩⟩);refine ae.intro (λk=>aO 170 0 0 aY λf I=>aN f 170 0 0 (by unfold Ox;rw[if_neg bB,if_neg (by simp[ag]),if_pos (by simpa using k)]) I) (λk=>?_);have bE:y.f (Ao x.wid sh)≠0:=by simpa using k
  have r:Ox fl an (y.f (Ao x.wid sh)) x p=match an x.bg with
    |some H=>if H.1≠Lp x p then some (184,0,0) else some (0,H.2.1,H.2.2)
    |none=>match fl x.wid with
     |none=>if x.kind=1 then none else some (180,0,0)
     |some l=>if x.kind=1 then some (181,0,0) else if(BM l).status≠0 then some (182,0,0) else none:=by
   unfold Ox;rw[if_neg bB,if_neg (by simp[ag]),if_neg bE];try rfl
  refine AL.mk (n:=x.bg) (AB bD rfl) (AJc bC ak al a0 λee dd=>?_);have bb:=aY.trans dd;cases bF:an x.bg with
  |some H=>
   rw[bF] at r;refine⟨_,Ez.mk (dD 0 H.2.1 H.2.2) ⟨_,_,rfl,aj.mk λa8 _ bH bI de=>aD.mk bH (A0 9) λbJ bM bN df=>ae.no rfl ?_⟩⟩;rw[MP] at bM;have az:Ext ax bJ:=(bb.trans bI).more bN λc d=>by subst d;exact bb.size
   refine ah.mk λdg bO=>ae.yes rfl (bO _ _ ?_)
   rw[Bj];refine ae.intro (λk=>aO 184 0 0 az λf I=>aN f 184 0 0 (by
    have k: ¬(Ad H.1=Ad (Lp x p)):=by simpa using k
    rw[r];show(if H.1≠Lp x p then _ else _)=_;rw[if_pos λh=>k (by rw[h])]) I) (λk=>ae.yes rfl (Bu.mk (dD 0 H.2.1 H.2.2) (Jq bM) (aO 0 H.2.1 H.2.2 az λf I=>aN f 0 H.2.1 H.2.2 (by
    have k:Ad H.1=Ad (Lp x p):=by simpa using k
    rw[r];show(if H.1≠Lp x p then _ else _)=_;rw[if_neg (by rw[Oy.1 k];simp)]) I)))
  |none=>
   rw[bF] at r;refine⟨_,Ez.mk aZ.z ⟨_,_,rfl,aj.mk λa8 _ bH bI de=>aD.mk bH (A0 9) λbJ bM bN df=>ae.no rfl ?_⟩⟩;have az:Ext ax bJ:=(bb.trans bI).more bN λc d=>by subst d;exact bb.size
   refine ah.mk λdg bO=>ae.no rfl (bO _ _ (ae.no rfl (ae.no rfl ?_)))
   have dh:=ac.on (af.trans az);refine AL.mk (n:=x.wid) (AB (az.ag ao λh=>h) rfl) (pG dh ak al (λh=>by rw[ay] at h;cases h) λ_ a1 ct=>LJ.mk _ ⟨_,rfl,aj.mk λef _ di dj eg=>aD.mk di (A0 18) λbP aA dk eh=>?_⟩);rw[Ud] at aA;have cv:Ext a1 bP:=dj.more dk λc d=>by subst d;exact A0 _
   have aC:Ext ax bP:=(az.trans ct).trans cv;have ei:=(az.trans ct).size;have bc:=aC.ag ao λh=>h
   refine ah.mk λcw cx=>?_
   have bQ: ∀(e:Int),e≠0->Ox fl an (y.f (Ao x.wid sh)) x p=some (e,0,0)->cw (e,()) bP:=λe J d=>
    cx _ _ (ae.yes (by simp[J]) (aO e 0 0 aC λf I=>aN f e 0 0 d I))
   have cy: ∀l,fl x.wid=some l->Ng l:=λl aE=>al.cJ _ _ aE
   obtain⟨a2,bR,bS,cz,bT,cB,cC,dl⟩:=AKo (wid:=x.wid) (n:=Ao x.wid sh) (now:=now) cy;obtain⟨ej,dm,aP⟩:=ATM (wid:=x.wid) (n:=Ao x.wid sh) (now:=now) cy;have go: ∀ {U:aa} {es:Sl} {a' b' c':Sl},Ox fl an (y.f (Ao x.wid sh)) x p=none->Ext h U->U[h.size]? =some (J2 x.c Gf (0,0))->U[am.size]? =some (J2 aZ.z.c A8 (0,0))->
     (∃ fv:bG,U[a1.size]? =some (J2 fv.c Bq (0,0))/\fv=⟨x.wid,(Ao x.wid sh:Int),⟨(Bz (fl x.wid) x.wid (Ao x.wid sh) now).bW,(Bz (fl x.wid) x.wid (Ao x.wid sh) now).bO,false⟩,es,(Bz (fl x.wid) x.wid (Ao x.wid sh) now).st.V a' b' c'⟩)->
     Ji U (Bz (fl x.wid) x.wid (Ao x.wid sh) now).st a' b' c'->(∀ c,a'.ag=some c\/b'.ag=some c\/c'.ag=some c->a1.size<c)->(∀ bd:ba,bd=Gh x.wid (Ao x.wid sh) (Bz (fl x.wid) x.wid (Ao x.wid sh) now).bW (Bz (fl x.wid) x.wid (Ao x.wid sh) now).bO false (Bz (fl x.wid) x.wid (Ao x.wid sh) now).st now->bd=Bz (fl x.wid) x.wid (Ao x.wid sh) now)->
     cw (0,()) U:=λ{U es a' b' c'} dn bV dq dr a3 be fr bW=>by
    have bW:=bW _ rfl;have bf:=dn;generalize ek:Bz (fl x.wid) x.wid (Ao x.wid sh) now=b at*
    obtain⟨fv,a3,rfl⟩:=a3;refine cx _ _ (ae.no rfl (EC.mk _ (Ml a3) ?_));have el:=Aj a3
    let Q:Nat->Prop:=λc=>O c\/c=h.size\/c=am.size\/c=a1.size
    have cD: ∀c,SK b.st a' b' c' c->a1.size<c:=λc d=>fr c (by
     rcases d with⟨_,h⟩|⟨_,h⟩|⟨_,h⟩
     ·exact .inl h
     ·exact .inr (.inl h)
     ·exact .inr (.inr h))
    have en:=bz.size;have cE: ∀c,O c->c<h.size:=λc d=>(ac.out d).1
    have ds:LW B g U s a N sh (l.set i y) mp (λc=>Q c\/SK b.st a' b' c' c):=by
     rw[cS];refine ac.own bV.mod λc d=>?_
     rcases d with(h|h|h|h)|h
     ·exact .inl h
     ·exact .inr (by omega)
     ·exact .inr (by omega)
     ·exact .inr (by omega)
     ·exact .inr ⟨by have:=cD c h;omega,be.lt h⟩
    refine pY (O:=Q) (now:=now) ds cn be (λc d S=>?_) λaF bg z cF aQ Y=>⟨_,rfl,?_⟩
    ·have:=cD c d;rcases S with h|h|h|h
     ·have:=cE c h;omega
     ·omega
     ·omega
     ·omega
    rw[bW] at aQ;have bX: ∀ {c:Nat} {C:aa} {o:Obj},C[c]? =some o-> ∀ {T:aa},Q c->Mod (aR g Q) C T->T[c]? =some o:=λ{c C o} bY {T} S m=>m.ag bY λbZ=>bZ.2 S
    have cG:Q h.size:= .inr (.inl rfl);have bh:Q am.size:= .inr (.inr (.inl rfl));have aS:=Y.ag dq λh=>h
    have dt:=Y.ag dr λh=>h
    have du: ∀e∈b.more,Ea e=true/\e.data.size<1099511627776:=λe J=>by rw[bR] at J;cases J
    refine AC.mk (n:=x.kind) (AO aS rfl) (ah.mk λcH dv=>?_);have b0: ∀ {L:aa} {z':Nat->Nat} {fG:dU} {E:Hs} (num:Nat),CW B g L s a (N+1) sh l i E mp Q bg z' fG (DF x p b num)->y.cY E->Mod (aR g Q) aF L->cH () L:=λ{L z' fG E} num aT M b1=>by
     have G:=AOc (num:=num) ag du a2;have dw:=ALg G bR;have b2:=G.aq;rw[bS] at b2;have nx:=G.st.next;have dx:=bX aS cG b1;have dy:=bX dt bh b1;refine dv _ _ (uT aT nx λaG aH=>Ez.mk (dD 0 (Cy (DF x p b num)).1 (Cy (DF x p b num)).2) ⟨rfl,aj.mk λdz _ dA b3 eo=>aD.mk dA (A0 9) λb4 ap dB ep=>?_⟩);rw[MP] at ap;have bi:Ext L b4:=(aH.trans b3).more dB λc d=>by subst d;exact aH.size
     have bj:=aH.size;have eq:=Aj ap
     let aI:Nat->Prop:=λc=>Q c\/c=aG.size
     have dC:CW B g b4 s a (N+1) sh l i E mp aI bg z' fG (DF x p b num):=aT.wider (O':=aI) bi.mod λc d=>d.imp id λh=>by omega
     have cI:0<=(Cy (DF x p b num)).1/\(Cy (DF x p b num)).1<=4:=G.st.st;have cJ:0<=(Cy (DF x p b num)).2/\(Cy (DF x p b num)).2<=502:=by unfold Cy;dsimp only;split<;>omega
     have b5:=Fa (n:=(Cy (DF x p b num)).1.toNat) (by omega);have er:=Fa (n:=(Cy (DF x p b num)).2.toNat) (by omega);have et:=AX (n:=(Lp x p).length) (by omega);have eu:(BU (Lp x p)).length<=2010:=by unfold BU;rw[A1];omega
     refine AL.mk (n:=x.bg) (AB (bi.ag dx λh=>h) rfl) (AC.mk (n:=(Cy (DF x p b num)).1) (AB ap rfl) (AC.mk (n:=(Cy (DF x p b num)).2) (AB ap rfl) (uK (by omega) ⟨_,rfl,AB ap rfl,AB ap rfl,Ro (l:=Lp x p) (by omega) λev cK=>⟨_,rfl,?_⟩⟩)));have b6:=cK.ag ap λh=>h
     refine⟨AB b6 rfl,AB b6 rfl,?_⟩;rw[O0 (by omega) (by omega)];refine Cf (by omega) λew cL=>⟨_,rfl,?_⟩
     rw[Aq];have dE:=cL.ag b6 λh=>h
     refine⟨AB dE rfl,by rw[AP,AP,max_i64];omega,?_⟩;rw[O0 (by omega) (by omega)];refine Cf (by omega) λex dF=>⟨_,rfl,⟨by rw[AP,AP,A1,max_i64];omega,?_⟩⟩
     rw[Aq,A4];have bk:=(cK.trans cL).trans dF;have dG:=dC.on bk;refine APM (key:=KS x.bg) (val:=iy (Lp x p) (Cy (DF x p b num)).1.toNat (Cy (DF x p b num)).2.toNat) dG (by rw[G.conds,cz];decide) (by simp at b2;omega) λb7 ey ez cM b8=>⟨rfl,?_⟩
     have bm: ∀ {c:Nat} {C:aa} {o:Obj},C[c]? =some o-> ∀ {T:aa},aI c->Mod (aR g aI) C T->T[c]? =some o:=λ{c C o} bY {T} S m=>m.ag bY λbZ=>bZ.2 S
     have cN:aI aG.size:= .inr rfl;have dH:=bm (bk.ag ap λh=>h) cN b8;have dI:=bm (bk.ag (bi.ag dy λh=>h) λh=>h) (.inl bh) b8;have dK:nZ (DF x p b num) (KS x.bg) (iy (Lp x p) (Cy (DF x p b num)).1.toNat (Cy (DF x p b num)).2.toNat)=Fz x p b num:=rfl;rw[dK] at cM;have aq:(Fz x p b num).conds= [⟨KS x.bg,⟨#[]⟩,true⟩]:=by show(DF x p b num).conds++_=_;rw[G.conds,cz];rfl
     have aJ:(Fz x p b num).ai=Ao x.wid sh:=G.ai.trans cB;have b9:(Fz x p b num).wid=x.wid:=G.wid.trans bT;have eA:(Fz x p b num).aq.length<=2:=by show((DF x p b num).aq++ [_]).length<=2;rw[A1,BE];simp at b2;omega
     have fin: ∀ {C:aa},Mod (aR g aI) b7 C->C[am.size]? =some (J2 aZ.z.c A8 (0,0))/\Mod (aR g O) h C:=λ{C} m=>⟨bm dI (.inl bh) m,by
      have bn:Mod (aR g O) h aF:=(bV.trans Y).mod;have dL:Mod (aR g O) aF L:=b1.ak λc _ d=>aR.less d λc S=> .inl S
      have dM:Mod (aR g O) b4 b7:=bk.mod.trans (b8.ak λc _ d=>aR.less d λc S=> .inl (.inl S));have dN:Mod (aR g O) b7 C:=m.ak λc _ d=>aR.less d λc S=> .inl (.inl S)
      exact(((bn.trans dL).trans bi.mod).trans dM).trans dN⟩
     have ca: ∀ {C T:aa} {bn cO:Nat} {b5:List Hs} {cP:List Pr},LW B g C s bn cO sh b5 cP aI->Mod (· =am.size) C T->LW B g T s bn cO sh b5 cP O:=λdO m=>dO.own (m.ak λc _ d=>by subst d;exact .inl bh) λc d=> .inl (.inl (.inl d))
     have cb: ∀ {C T:aa},Mod (aR g O) h C->Mod (· =am.size) C T->Mod (aR g O) h T:=λm bA=>m.trans (bA.ak λc _ d=>by
      subst d;have:=ac.ext.size;exact⟨by omega,λS=>by have:=cE _ S;omega⟩)
     have cV: ∀ {Z:Hs},E.cK Z->y.cV Z:=λ{Z} W=>⟨W.p.trans M.p,W.name.trans M.name,W.f.trans M.f,λm=>by have:=M.u m;have:=W.u m;omega⟩
     have dP:FE (Fz x p b num).ai (E.f (Fz x p b num).ai) E.name=FE (Ao x.wid sh) (y.f (Ao x.wid sh)) y.name:=by rw[aJ,M.f,M.name]
     have dQ:bo (Fz x p b num)=bo b:=by show bo (DF x p b num)=_;unfold bo;rw[G.bO,G.bW,G.kept,G.wid]
     have dR:Bc mp (bo (Fz x p b num))=true:=by
      rw[dQ];refine u7 al (by rw[bT];exact ay) ?_;rw[bT];unfold mO at aP;split at aP
      ·rename_i F;first|exact aP|(rw[F];exact aP)
      ·rename_i F;first|exact aP|(rw[F];exact aP)
     have cQ:Cz (Fz x p b num).st (500+1):=G.st;have cR: ∀e∈(Fz x p b num).more,Ea e=true/\e.data.size<1099511627776:=G.ok;refine uW c2 cM cQ (by omega) (by rw[b9];exact ay) cR (by rw[aJ];omega) (by rw[aJ,M.f];exact cj _) (by have:=M.u (Fz x p b num).ai;have:=ck (Fz x p b num).ai;omega) (by omega) hA c3 c4 (by show(DF x p b num).more.length<=_;omega) (by omega) (by rw[aq];simp) (λq k=>by
       rw[aq] at k;rw[List.mem_singleton.1 k];show(KS x.bg).size<=_;rw[WE];omega) (by show 0<=(DF x p b num).bW/\(DF x p b num).bW<128;rw[G.bW];omega) (by show 0<=(DF x p b num).bO/\(DF x p b num).bO<=501;rw[G.bO];exact dm) (by show -_<=(DF x p b num).now/\(DF x p b num).now<=_;rw[G.now,cC];omega)
      (λdS=>absurd dS (by rw[aJ,M.f];exact bE)) (λu w Z cc W J aK aL=>⟨_,rfl,?_⟩) (λu w Z cc W J aE aK aL=>⟨_,rfl,?_⟩) (λu w Z cc W J aE hd aK aL=>?_) (λu w Z cc W dT J aE hd aK aL=>⟨_,rfl,?_⟩)
     ·obtain⟨aU,aV⟩:=fin aL;refine ae.yes (by simpa using J) (KX (x:=dD (Az (Fz x p b num) u w).err 0 0) aU λa4 ar=>?_);exact c5 a4 Z num u w bf (cV W) J (ca aK ar) (cb aV ar)
     ·obtain⟨aU,aV⟩:=fin aL;rw[dP] at aE;refine ae.yes rfl (KX (x:=dD 170 0 0) aU λa4 ar=>?_);rw[aJ] at aK;exact c6 a4 Z bf (cV W) aE (ca aK ar) (cb aV ar)
     all_goals
      have X:=VO (n:=500+1) cR cQ u w;have cd:(Az (Fz x p b num) u w).beside (some (x.bg,(Lp x p,(Cy (DF x p b num)).1,(Cy (DF x p b num)).2))):=by have vc:=(ug J).2;have:=X.st.next;refine ZP (AJu (x:=(Lp x p,(Cy (DF x p b num)).1,(Cy (DF x p b num)).2)) (ALY bS) a0 cI ?_ cs) u w;have dV:(Cy (Fz x p b num)).2=(Cy (DF x p b num)).2:=rfl;rw[dV] at vc;exact⟨cJ.1,by show(Cy (DF x p b num)).2<=501;omega⟩
      have mem:Zh x.bg (Lp x p,(Cy (DF x p b num)).1,(Cy (DF x p b num)).2)∈(Az (Fz x p b num) u w).aq:=ANz (IT _ (by simp[Zh])) u w
     ·exfalso;refine hd (uc (by rw[X.wid,b9];exact ay) X.ok X.st cd ?_ (λh=>?_) ?_ λc d=>?_)
      ·have aU:=X.more;have aV:=X.aq;have eB:(Fz x p b num).more.length<=1:=dw;omega
      ·rw[Tr] at h;rw[h.2] at mem;cases mem
      ·rw[aq];simp
      ·rw[aq] at d;rcases List.mem_cons.1 d with rfl|d
       ·exact aE
       ·rcases List.mem_append.1 d with d|d
        ·rw[List.mem_singleton.1 d];exact AOP al a0 bF
        ·rw[List.mem_singleton.1 d];exact dR
     ·obtain⟨aU,aV⟩:=fin aL;obtain⟨bp,bq⟩:=ug J;have bp:(Az (Fz x p b num) u w).st.status=(Cy (DF x p b num)).1:=bp;have bq:(Az (Fz x p b num) u w).st.next=(Cy (DF x p b num)).2:=bq;have dW:=bm dH cN aL;refine ae.no rfl (Bu.mk (dD 0 (Cy (DF x p b num)).1 (Cy (DF x p b num)).2) (Jq dW) (KX aU λa4 ar=>?_));rw[<- bp,<-bq];have cU:(Az (Fz x p b num) u w).fits ((fl x.wid).getD []):=tY (ARe dl);have br:(Az (Fz x p b num) u w).wid=x.wid:=X.wid.trans b9;have cW:(fl x.wid).getD []++(Az (Fz x p b num) u w).more≠ []:=by
       intro h;rw[Tr] at h;have bs:x.kind=1:=by
        cases F:fl x.wid with
        |some l=>
         rw[F] at h;exact absurd h.1 (al.cJ _ _ F).ne
        |none=>
         rw[F] at r;rw[bf] at r;by_cases bs:x.kind=1
         ·exact bs
         ·have r:(none:Option (Int×Int×Int))=if x.kind=1 then none else some (180,0,0):=r;rw[if_neg bs] at r;cases r
       have au:(Fz x p b num).err=0:=AQA (WI J);have au:(DF x p b num).err=0:=au;refine X.none (λai=>?_) h.2;have ai:(DF x p b num).more= []:=ai;unfold DF at ai au;rw[if_pos bs] at ai au;split at ai
       ·rename_i ce;rw[if_pos ce] at au;rw[(HV _ _ _ _).2,(pK (Yi au)).1] at ai;simp at ai
       ·rename_i ce;rw[if_neg ce] at au;rw[(pK au).1] at ai;simp at ai
      have a5:=al.done ac.sorted (D:=Az (Fz x p b num) u w) (o:=some (x.bg,(Lp x p,(Cy (DF x p b num)).1,(Cy (DF x p b num)).2))) (by rw[br];exact ay) (by rw[br];exact cU) (by rw[br];exact cW) X.st cd (λbx eC cf=>by
       cases cf;have:=X.st.next;exact⟨mem,a0,cI,⟨cJ.1,by show(Cy (DF x p b num)).2<=501;omega⟩,cs⟩)
      rw[br] at a5;have a5:I4 _ _ (cT an x.bg (Lp x p,(Cy (DF x p b num)).1,(Cy (DF x p b num)).2)):=a5;rw[<- bp,<-bq] at a5;exact c7 a4 Z num u w _ rfl bf (cV W) (λcf=>by
       obtain⟨v,v1,v2,cX⟩:=dT cf (by rw[aJ,M.f];exact bE);rw[aJ] at v1 v2 cX;exact⟨v,by have:=M.u (Ao x.wid sh);omega,v2,by rw[cX,M.f]⟩) J (ca aK ar) a5 (pJ cU cW X.st).2 (ud ac.sorted cd) (cb aV ar)
    have dX:CW B g aF s a (N+1) sh l i y mp Q bg z cF b:=aQ.put (by omega) (by omega) (by omega);have bt: ∀ {L z' fG} (e:Ev) (D:ba),D=DX b e->CW B g L s a N sh l i y mp Q bg z' fG D->Mod (aR g Q) aF L->(∀ num,DF x p b num=D)->cH () L:=λ{L z' fG} e D eD aT aW d=>b0 (z':=z') (fG:=fG) 0 (by rw[d];exact aT.put (by omega) (by omega) (by omega)) (Hs.cY.refl y) aW
    have cY:(⟨#[]⟩:A31).size<1099511627776:=by decide
    have bu:b.more.length<1000:=by rw[bR];decide
    refine ae.intro (λj=>?_) (λj=>?_)
    ·have j:x.kind=1:=by simpa using j
     refine AV.mk (s:=x.steps) (AB aS rfl) (AC.mk (n:=x.aw) (Co (by exact aS) rfl) ?_);rw[a6];refine uO (V.ext (bV.trans Y)) len λL bv=>?_
     have aT:=aQ.on bv;unfold ZA;rw[g1 j];have eE:=R7 (g1 j);refine⟨_,_,rfl,UE (e:=dp 1 (Ad (Ca p))) aT a2 (by omega) (by show(Ad (Ca p)).size<_;rw[AP];omega) (.inl (show(1:Int)<6 by decide)) bu λaG bj aH av aM=>⟨rfl,?_⟩⟩;have cg:Mod (aR g Q) aF aG:=bv.mod.trans aM;have cZ:=bX aS cG cg;refine AC.mk (n:=x.aw) (Co (by exact cZ) rfl) ?_;rw[a6];refine ae.intro (λk=>?_) (λk=>?_)
     ·have k:0<p.aw:=by simpa using k
      have eF:=(yY (g1 j)).2.1;refine AC.mk (n:=x.aw) (Co (by exact cZ) rfl) ?_;rw[a6,wrap_i64 (by omega) (by omega)];have dY:(DX b (dp 1 (Ad (Ca p)))).ai=Ao x.wid sh:=(Oc _ _).2.1.trans cB;refine pZ (t:=⟨6,⟨#[]⟩,0,0⟩) av (by rw[dY];omega) (cj _) (by have:=ck (DX b (dp 1 (Ad (Ca p)))).ai;omega) (by omega) (by omega) (by rw[tZ,bS];decide) (by omega) λdz dZ b3 E num d0 M _ d1=>⟨rfl,?_⟩
      refine b0 (z':=dZ) (fG:=b3) num ?_ M (cg.trans d1);have aq:DF x p b num=Dq (DX b (dp 1 (Ad (Ca p)))) ⟨6,0,0⟩ (if(0:Int)>now+p.aw then 0 else now+p.aw) num:=by unfold DF ue;rw[if_pos j,if_pos k,cC]
      rw[aq];exact d0
     ·have k: ¬0<p.aw:=by simpa using k
      exact bt (dp 1 (Ad (Ca p))) _ rfl av cg λnum=>by unfold DF;rw[if_pos j,if_neg k]
    have j:x.kind≠1:=by simpa using j
    refine ae.intro (λab=>?_) (λab=>?_)
    ·have ab:x.kind=2:=by simpa using ab
     refine AL.mk (n:=x.name) (AB aS rfl) (UE (e:=dp 12 x.name) aQ a2 (by omega) (by have:=FV (dc ab);show x.name.size<_;omega) (.inr (show(12:Int)<=12 by decide)) bu λaG bj aH av aM=>⟨rfl,?_⟩);exact bt (dp 12 x.name) _ rfl av aM λnum=>by unfold DF;rw[if_neg j,if_pos ab]
    have ab:x.kind≠2:=by simpa using ab
    refine ae.intro (λaw=>?_) (λaw=>?_)
    ·have aw:x.kind=3:=by simpa using aw
     have d2:=Y.ag a3 λh=>h
     refine Aa.mk (n:=b.st.cancel) (Co (by exact d2) rfl) (ae.intro (λd=>?_) (λd=>?_))
     ·have d: ¬b.st.cancel=true:=by simpa using d
      refine UE (e:=dp 13 ⟨#[]⟩) aQ a2 (by omega) cY (.inr (show(12:Int)<=13 by decide)) bu λaG bj aH av aM=>⟨rfl,?_⟩
      exact bt (dp 13 ⟨#[]⟩) _ rfl av aM λnum=>by unfold DF;rw[if_neg j,if_neg ab,if_pos aw,if_neg d]
     ·have d:b.st.cancel=true:=by simpa using d
      refine b0 (z':=z) (fG:=cF) 0 ?_ (Hs.cY.refl y) Mod.refl;have aq:DF x p b 0=b:=by unfold DF;rw[if_neg j,if_neg ab,if_pos aw,if_pos d]
      rw[aq];exact dX
    have aw:x.kind≠3:=by simpa using aw
    refine ae.yes (by simp;omega) (UE (e:=dp 18 ⟨#[]⟩) aQ a2 (by omega) cY (.inr (show(12:Int)<=18 by decide)) bu λaG bj aH av aM=>⟨rfl,?_⟩);exact bt (dp 18 ⟨#[]⟩) _ rfl av aM λnum=>by unfold DF;rw[if_neg j,if_neg ab,if_neg aw]
   refine AC.mk (n:=x.kind) (AO bc rfl) ?_;cases F:fl x.wid with
   |none=>
    rw[F] at r aA;refine ae.intro (λj=>?_) (λj=>?_)
    ·have j:x.kind=1:=by simpa using j
     have r:Ox fl an (y.f (Ao x.wid sh)) x p=if x.kind=1 then none else some (180,0,0):=r;rw[if_pos j] at r;refine ae.no rfl (ae.yes rfl (go (es:=gP) (a':=gP) (b':=gP) (c':=gP) r (af.trans aC) bc (aC.ag a7 λh=>h) ⟨_,aA,by rw[F];rfl⟩ ?_ (λc d=>by simp[Sl.ag] at d) (λbd ch=>by rw[ch,F];rfl)));rw[F];exact⟨View.nil,View.nil,View.nil⟩
    ·have j:x.kind≠1:=by simpa using j
     have r:Ox fl an (y.f (Ao x.wid sh)) x p=if x.kind=1 then none else some (180,0,0):=r;rw[if_neg j] at r;exact ah.mk λd3 ci=>ae.no rfl (ci _ _ (ae.no rfl (ae.no rfl (bQ 180 (by decide) r))))
   |some bw=>
    rw[F] at r aA;have r:Ox fl an (y.f (Ao x.wid sh)) x p=if x.kind=1 then some (181,0,0) else if(BM bw).status≠0 then some (182,0,0) else none:=r;refine ae.intro (λj=>?_) (λj=>?_)
    ·have j:x.kind=1:=by simpa using j
     rw[if_pos j] at r;exact ae.yes rfl (bQ 181 (by decide) r)
    have j:x.kind≠1:=by simpa using j
    rw[if_neg j] at r;refine ah.mk λd3 ci=>ae.yes rfl (AC.mk (n:=(BM bw).status) (Cg (by exact aA) rfl) (ci _ _ (ae.intro (λq=>?_) (λq=>?_))))
    ·have q:(BM bw).status≠0:=by simpa using q
     rw[if_pos q] at r;exact bQ 182 (by decide) r
    have q:(BM bw).status=0:=by simpa using q
    rw[if_neg (by simp[q])] at r;have d4:=ac.on (af.trans aC);refine ae.yes rfl (AL.mk (n:=x.wid) (AB bc rfl) (tV d4 ak al ay F λaF es a' b' c' Y eG be fr eH=>LJ.mk _ ⟨_,rfl,aD.mk (Y.ag aA λh=>h) (A0 18) λL c0 aW eI=>?_⟩));rw[Ud] at c0;have eJ:=cv.size;have eK:=Aj aA;have bv:Ext h L:=((af.trans aC).trans Y).more aW λc d=>by subst d;have:=af.size;omega
    refine go r bv (aW.ag (Y.ag bc λh=>h) (by have:=af.size;omega)) (aW.ag (Y.ag (aC.ag a7 λh=>h) λh=>h) (by omega)) ⟨_,c0,by rw[F];rfl⟩ ?_ (λc d=>by have:=fr c d;omega) (λbd ch=>by rw[ch,F];rfl);rw[F];exact be.fresh aW fr λc d=>by subst d;omega
 refine AC.mk (n:=x.kind) (AO ao rfl) (ae.intro (λq=>cp true ?_) (λq=>AC.mk (n:=x.kind) (AO ao rfl) (cp _ ?_)))
 ·have q:x.kind<1:=by simpa using q
  simp[q]
 ·have q: ¬x.kind<1:=by simpa using q
  simp[q]
end
section
variable {x x' : bU} {p p' : bK}
end
section
variable {A : ao} {h : aa} {R : A30}
end
def Ni:cX:=⟨32000,0,1600,by decide,by decide,by decide⟩
structure EW (g h:aa) (s k sh:Nat) (l:List Hs) (mp:List Pr) (fl:cq) (an:cL) (O:Nat->Prop):Prop where
 w:LW Ni g h s k (3*k) sh l mp O
 m:I4 mp fl an
 all: ∀y∈l,∀n,y.u n<=3*k/\y.f n<=k
def gw(mp:List Pr)(y:Hs)(a:Nat):Prop:=y.f a≠0/\Bc mp (FE a (y.f a) y.name)=true
def pL(fl:cq)(an:cL)(f:Nat)(x:bU)(p:bK)(j:Int)(b st nx:Int)(m:cq)(n:cL):Prop:=
 (m=fl/\n=an/\(Ox fl an 1 x p=some (b,st,nx)\/(Ox fl an 1 x p=none/\b≠0/\st=0/\nx=0/\ ∃c d e,b=(Az (Fz x p (Bz (fl x.wid) x.wid f j) c) d e).err)))\/
 (Ox fl an 1 x p=none/\b=0/\ ∃c d e a,a=Az (Fz x p (Bz (fl x.wid) x.wid f j) c) d e/\a.err=0/\m=cT fl x.wid ((fl x.wid).getD []++a.more)/\n=cT an x.bg (Lp x p,a.st.status,a.st.next)/\st=a.st.status/\nx=a.st.next/\BM ((fl x.wid).getD []++a.more)=a.st)
def AUP(mp c:List Pr)(fl j:cq)(b:Nat)(x:bU)(p:bK)(d:Int)(y m:Hs):Prop:=c=mp\/ ∃e f n a,a=Az (Fz x p (Bz (fl x.wid) x.wid b d) e) f n/\a.err=0/\c=cu mp (DW a++a.aq)/\j=cT fl x.wid ((fl x.wid).getD []++a.more)/\
 (ED (Fz x p (Bz (fl x.wid) x.wid b d) e)=true->dJ y m b f)
theorem AN8 {fl:cq}{an:cL}{k:Nat}{x:bU}{p:bK}(h:k≠0):Ox fl an k x p=Ox fl an 1 x p:=by unfold Ox;rw[if_neg h,if_neg (show ¬(1:Nat)=0 by decide)]
theorem uh {l:List Hs}{i:Nat}{b:Hs}{Q:Hs->Prop}(h: ∀y∈l,Q y)(c:Q b): ∀y∈l.set i b,Q y:=λy d=>by
 rcases OS d with a|a
 ·exact h y a
 ·rw[a];exact c
section
variable {A : ao} {g h : aa} {s k sh : Nat} {l : List Hs} {mp : List Pr} {O : Nat -> Prop} {i : Nat} {y : Hs} {fl : cq} {an : cL} {R : A30}
theorem EW.own {a:aa}{O':Nat->Prop}(b:EW g h s k sh l mp fl an O)(d:Mod O h a)(e: ∀c,O' c->O c\/(h.size<=c/\c<a.size)):EW g a s k sh l mp fl an O':=⟨b.w.own d e,b.m,b.all⟩
theorem EW.on {b:aa}(a:EW g h s k sh l mp fl an O)(x:Ext h b):EW g b s k sh l mp fl an O:=⟨a.w.on x,a.m,a.all⟩
theorem EW.up {a:Nat}(b:EW g h s k sh l mp fl an O)(c:k<=a)(f:a<=500):EW g h s a sh l mp fl an O:=
 ⟨b.w.put c (by show 64*a<=32000;omega) (by omega) (by omega),b.m,λy d e=>by have:=b.all y d e;omega⟩
theorem EW.hG {x:bU}{p:bK}{S:J0}{n:Int}(T:bL g)(d:EW g h s k sh l mp fl an O)(o:l[i]? =some y)(ac:k+1<=490)(ow:gw mp y (Ao x.wid sh))(V:View UT h x.steps p.steps)(U:x.aw=p.aw)(len:p.steps.length<=1099511627776)(W: -4611686018427300000<=n/\n<=4611686018427300000)
  (D: ∀c b E F I q st nx,EW g c s (k+1) sh (l.set i b) E F I O->y.cV b->(∀ a J r,Bc E (FE a J r)=Bc mp (FE a J r))->Mod (aR g O) h c->pL fl an (Ao x.wid sh) x p n q st nx F I->AUP mp E fl F (Ao x.wid sh) x p n y b->R (dD q st nx).v c):
  AA A P GL #[Ar y.p,S,J6 J9 n,x.v] h R:=by
 have G:=AG o;have ae:Ni.C=32000:=rfl;have hA:Ni.A=1600:=rfl;have X:=(List.getElem?_eq_some_iff.1 o).1;have cS:l.set i y=l:=by rw[<- (List.getElem?_eq_some_iff.1 o).2];exact OR X
 have H:=AN8 (fl:=fl) (an:=an) (x:=x) (p:=p) ow.1;have f: ∀ {b:Hs},y.cV b-> ∀z∈l.set i b,∀a,z.u a<=3*(k+1)/\z.f a<=k+1:=λ{b} f=>uh (Q:=λz=> ∀a,z.u a<=3*(k+1)/\z.f a<=k+1) (λz Y a=>by have:=d.all z Y a;omega) λa=>by
  have:=d.all y G a;have:=f.u a;rw[f.f];omega
 refine AOV T d.w o d.m V U len W (λa=>by have:=(d.all y G a).2;omega) (λa=>by have:=(d.all y G a).1;omega) (by omega) (by omega) (by omega) (by omega)
  (λc q st nx e K=>?_) (λc b t u v e j w B C=>?_) (λc b e j L B C=>?_) λc b t u v M N e j r w B Z aa ab C=>?_
 ·rw[H] at e;refine D c y mp fl an q st nx ⟨?_,d.m,f ⟨rfl,rfl,rfl,λm=>by omega⟩⟩ ⟨rfl,rfl,rfl,λm=>by omega⟩ (λ_ _ _=>rfl) K.mod (.inl ⟨rfl,rfl,.inl e⟩) (.inl rfl);rw[cS];exact(d.w.on K).put (by omega) (by omega) (by omega) (by omega)
 ·rw[H] at e;exact D c b mp fl an _ 0 0 ⟨B.put (by omega) (by omega) (by omega) (by omega),d.m,f j⟩ j (λ_ _ _=>rfl) C (.inl ⟨rfl,rfl,.inr ⟨e,w,rfl,rfl,t,u,v,rfl⟩⟩) (.inl rfl)
 ·rw[ow.2] at L;cases L
 ·rw[H] at e;exact D c b _ _ _ 0 _ _ ⟨B.put (by omega) (by omega) (by omega) (by omega),Z,f j⟩ j ab C (.inr ⟨e,rfl,t,u,v,M,N,w,rfl,rfl,rfl,rfl,aa⟩) (.inr ⟨t,u,v,M,N,w,rfl,rfl,r⟩)
end
structure AV5 (mp:List Pr) (y:Hs) (sh:Nat):Prop where
 has: ∀n,n<sh->y.f n=1/\Gp mp n 1 y.name
 non: ∀n,sh<=n->y.f n=0/\(n<256->Gp mp n 0 ⟨#[]⟩)
section
variable {A : ao} {g h : aa} {s k sh : Nat} {y : Hs} {mp : List Pr} {O : Nat -> Prop} {R : A30}
end
theorem APU {id tick k:Int}(a:1<=id/\id<=500)(b:0<=tick/\tick<=1099511627776)(c:k=2\/k=13\/k=18):Ea ⟨id,k,tick,0,0,0,false,⟨#[]⟩⟩=true:=by have d:bP id 1 500=true:=Bb.2 a;have e:bP tick 0 1099511627776=true:=Bb.2 b;have f:bP k 1 18=true:=Bb.2 (by omega);unfold Ea Ej KN;rw[d,e,f];rcases c with rfl|rfl|rfl<;>rfl
theorem APO {id tick:Int}{p:bK}(a:1<=id/\id<=500)(b:0<=tick/\tick<=1099511627776)(c:F3 p=true):Ea ⟨id,1,tick,0,0,0,false,Ad (Ca p)⟩=true:=by
 have d:bP id 1 500=true:=Bb.2 a;have e:bP tick 0 1099511627776=true:=Bb.2 b;unfold Ea Ej KN;dsimp only;rw[d,e,FO,xW c];have:dQ 1=true:=by decide
 rw[this,JT];rfl
theorem Pd {a:Int}{wid:A31}{b:Int}(c:1<=a/\a<=7)(d:Am wid=true)(e:0<=b/\b<=500):G9 ⟨a,b,0⟩ wid=true:=by unfold G9;rw[Bb.2 c,d,Bb.2 e];rfl
theorem pM {a:ba}{t:fA}{tick:Int}{c:Nat}(b:a.err=0)(d:G9 t a.wid=true):(Dq a t tick c).err=0:=by unfold Dq;rw[if_neg (by simp[b]),if_neg (by simp[d])];exact b
theorem AJG {a:ba}(b:ED a=true):a.more≠ []/\a.st.status=0/\a.st.fresh=true/\a.st.asked=0/\a.st.taken=0:=by unfold ED at b;simpa [and_assoc] using b
theorem ARS {a:ba}(d:a.err=0)(e:ED a=true)(m:2<=a.st.next/\a.st.next<=500)(f:0<=a.now/\a.now<=1099511627776):
  DX a RB= {a with st:= {a.st with asked:=a.st.next,next:=a.st.next+1},more:=a.more++ [⟨a.st.next,2,a.now,0,0,0,false,⟨#[]⟩⟩]}:=by
 obtain⟨g,h,i,j,l⟩:=AJG e;have b:CG a RB=⟨a.st.next,2,a.now,0,0,0,false,⟨#[]⟩⟩:=by unfold CG;rw[if_neg (by omega)];rfl
 have ok:=APU (id:=a.st.next) (tick:=a.now) (k:=2) (by omega) f (.inl rfl);have c:Bf a.st (CG a RB)=(0,{a.st with asked:=a.st.next,next:=a.st.next+1}):=by rw[b];unfold Bf;rw[if_neg (by simp[ok]),if_neg (by omega),if_neg (by simp[h]),if_neg (by simp)];unfold Ta Dr;rw[if_pos (show(2:Int)<=2/\(2:Int)<=5 by decide),if_pos rfl,if_pos ⟨j,l,i⟩];rfl
 rw[Z0 d (.inl g) (by rw[c]),c,b]
theorem AO8 {a:ba}{n1:Nat}(c:a.err=0)(e:2<=a.st.next/\a.st.next<=500)(f:0<=a.now/\a.now<=1099511627776)(g:Am a.wid=true):(EZ a n1).err=0/\(EZ a n1).wid=a.wid/\(EZ a n1).now=a.now/\(EZ a n1).st=(if ED a=true then {a.st with asked:=a.st.next,next:=a.st.next+1} else a.st)/\(EZ a n1).more=(if ED a=true then a.more++ [⟨a.st.next,2,a.now,0,0,0,false,⟨#[]⟩⟩] else a.more):=by
 unfold EZ;split
 ·rename_i h;have b:=ARS c h e f;have i:TU (DX a RB)=a.st.next:=by rw[b];show a.st.next+1-1=_;omega
  have d:G9 ⟨1,TU (DX a RB),0⟩ (DX a RB).wid=true:=by rw[i,b];exact Pd (by decide) g (by omega)
  refine⟨pM (by rw[b];exact c) d,?_,?_,?_,?_⟩
  ·unfold Dq;rw[if_neg (by rw[b];simp[c]),if_neg (by simp[d]),b]
  ·unfold Dq;rw[if_neg (by rw[b];simp[c]),if_neg (by simp[d]),b]
  ·rw[(HV _ _ _ _).1,b]
  ·rw[(HV _ _ _ _).2,b]
 ·exact⟨c,rfl,rfl,rfl,rfl⟩
theorem uj {a:ba}{n1 n2:Nat}(f:a.err=0)(g:2<=a.st.next/\a.st.next<=500)(h:0<=a.now/\a.now<=1099511627776)(b:Am a.wid=true):(Az a n1 n2).err=0/\(Az a n1 n2).st=(if ED a=true then {a.st with asked:=a.st.next,next:=a.st.next+1} else a.st)/\(Az a n1 n2).more=(if ED a=true then a.more++ [⟨a.st.next,2,a.now,0,0,0,false,⟨#[]⟩⟩] else a.more):=by
 obtain⟨c,i,j,d,e⟩:=AO8 (n1:=n1) f g h b;unfold Az;split
 ·refine⟨pM c (by rw[i];exact Pd (by decide) b (by decide)),?_,?_⟩
  ·rw[(HV _ _ _ _).1,d]
  ·rw[(HV _ _ _ _).2,e]
 ·exact⟨c,d,e⟩
theorem uk {x:bU}{p:bK}{n n0:Nat}{a:Int}(k:x.kind=1)(d:F3 p=true)(l:Am x.wid=true)(r:0<=a/\a<=1099511611776):
  (DF x p (Bz none x.wid n a) n0).err=0/\(DF x p (Bz none x.wid n a) n0).st=⟨p,0,2,a,0,0,true,[],[],false,false⟩/\(DF x p (Bz none x.wid n a) n0).more= [⟨1,1,a,0,0,0,false,Ad (Ca p)⟩]/\(DF x p (Bz none x.wid n a) n0).wid=x.wid/\(DF x p (Bz none x.wid n a) n0).now=a:=by
 have ok:=APO (id:=1) (tick:=a) (p:=p) (by decide) (by omega) d;have f:(Bz none x.wid n a).err=0:=by show(if a<0\/1099511611776<a then(1:Int) else 0)=0;rw[if_neg (by omega)]
 have g:CG (Bz none x.wid n a) (dp 1 (Ad (Ca p)))=⟨1,1,a,0,0,0,false,Ad (Ca p)⟩:=rfl;have h:Bf (Bz none x.wid n a).st (CG (Bz none x.wid n a) (dp 1 (Ad (Ca p))))=(0,⟨p,0,2,a,0,0,true,[],[],false,false⟩):=by rw[g];unfold Bf;rw[if_neg (by simp[ok]),if_pos (show(Bz none x.wid n a).st.next=0 from rfl),if_pos ⟨rfl,rfl⟩];unfold YJ;dsimp only;rw[FO,xW d];rfl
 have i:=Z0 f (e:=dp 1 (Ad (Ca p))) (.inr (.inl (by show(0:Int)<=497;decide))) (by rw[h]);rw[h,g] at i;have base:(DX (Bz none x.wid n a) (dp 1 (Ad (Ca p)))).err=0/\(DX (Bz none x.wid n a) (dp 1 (Ad (Ca p)))).st=⟨p,0,2,a,0,0,true,[],[],false,false⟩/\(DX (Bz none x.wid n a) (dp 1 (Ad (Ca p)))).more= [⟨1,1,a,0,0,0,false,Ad (Ca p)⟩]/\(DX (Bz none x.wid n a) (dp 1 (Ad (Ca p)))).wid=x.wid/\(DX (Bz none x.wid n a) (dp 1 (Ad (Ca p)))).now=a:=by rw[i];exact⟨f,rfl,rfl,rfl,rfl⟩
 unfold DF;rw[if_pos k];split
 ·obtain⟨b,m,o,j,q⟩:=base;have c:G9 ⟨6,0,0⟩ (DX (Bz none x.wid n a) (dp 1 (Ad (Ca p)))).wid=true:=by rw[j];exact Pd (by decide) l (by decide)
  refine⟨pM b c,by rw[(HV _ _ _ _).1,m],by rw[(HV _ _ _ _).2,o],?_,?_⟩
  ·unfold Dq;rw[if_neg (by simp[b]),if_neg (by simp[c])];exact j
  ·unfold Dq;rw[if_neg (by simp[b]),if_neg (by simp[c])];exact q
 ·exact base
theorem YQ {x:bU}{p:bK}{n n0 n1 n2:Nat}{a:Int}(h:x.kind=1)(i:F3 p=true)(c:Am x.wid=true)(j:0<=a/\a<=1099511611776):
  (Az (Fz x p (Bz none x.wid n a) n0) n1 n2).err=0/\(Az (Fz x p (Bz none x.wid n a) n0) n1 n2).st=⟨p,0,3,a,2,0,true,[],[],false,false⟩/\(Az (Fz x p (Bz none x.wid n a) n0) n1 n2).more= [⟨1,1,a,0,0,0,false,Ad (Ca p)⟩,⟨2,2,a,0,0,0,false,⟨#[]⟩⟩]:=by
 obtain⟨k,l,m,o,q⟩:=uk (n:=n) (n0:=n0) h i c j;have r:(Fz x p (Bz none x.wid n a) n0).err=0:=k;have b:(Fz x p (Bz none x.wid n a) n0).st=⟨p,0,2,a,0,0,true,[],[],false,false⟩:=l;have d:(Fz x p (Bz none x.wid n a) n0).more= [⟨1,1,a,0,0,0,false,Ad (Ca p)⟩]:=m;have s:(Fz x p (Bz none x.wid n a) n0).wid=x.wid:=o;have e:(Fz x p (Bz none x.wid n a) n0).now=a:=q;obtain⟨t,f,g⟩:=uj (n1:=n1) (n2:=n2) r (by rw[b];exact⟨(by decide:(2:Int)<=2),(by decide:(2:Int)<=500)⟩) (by rw[e];omega) (by rw[s];exact c);have u:ED (Fz x p (Bz none x.wid n a) n0)=true:=by unfold ED;rw[b,d];rfl
 rw[u,if_pos rfl] at f g;refine⟨t,?_,?_⟩
 ·rw[f,b];show(⟨p,0,2+1,a,2,0,true,[],[],false,false⟩:bj)=_;rfl
 ·rw[g,b,d,e];rfl
structure AV4 (h:aa) (x:bU) (p:bK):Prop where
 V:View UT h x.steps p.steps
 lim:x.aw=p.aw
 len:p.steps.length<=1099511627776
 sz: ∀y∈p.steps,y.name.size<=1099511627776/\y.aK.size<=1099511627776
 name:x.name.size<=1099511627776
 wid:x.wid.size<=1099511627776
 bg:x.bg.size<=1099511627776
theorem uo {h:aa}{x:aZ}{K:Nat->aa->Prop}(i: ∀a,a[h.size]? =some (J2 x.c A8 (0,0))->Ext h a->K h.size a):aj h (J2 aZ.z.c A8) λb e=>aD e ⟨b,0,none⟩ x.l λd=>K b d:=
 aj.mk λe _ j k n=>aD.mk j (A0 9) λd f l o=>i d (by rw[MP] at f;exact f) (k.more l λc m=>by subst m;exact A0 _)
theorem EW.less {g h:aa}{s b d:Nat}{l:List Hs}{e:List Pr}{f:cq}{i:cL}{j O':Nat->Prop}(a:EW g h s b d l e f i j)(k: ∀c,O' c->j c):EW g h s b d l e f i O':=⟨a.w.less k,a.m,a.all⟩
theorem aR.aM {g h a:aa}{b:Nat->Prop}{c:Nat}{d:Obj}(m:Mod (aR g b) h a)(e:h[c]? =some d)(f:b c):a[c]? =some d:=m.ag e λi=>i.2 f
abbrev uq:bR:=⟨1,⟨#[97]⟩,⟨#[]⟩,1,0,0⟩
theorem AQS {a:cq}{b:cL}{x:bU}{p:bK}(e:1<=x.kind/\x.kind<=4)(c:Qj x p=0)(d:b x.bg=none):Ox a b 1 x p=(match a x.wid with
   |none=>if x.kind=1 then none else some (180,0,0)
   |some l=>if x.kind=1 then some (181,0,0) else if(BM l).status≠0 then some (182,0,0) else none):=by
 unfold Ox;rw[if_neg (by omega),if_neg (by simp[c]),if_neg (by decide),d]
 try rfl
theorem pL.start {c k:cq}{d l:cL}{n:Nat}{x:bU}{p:bK}{a m st nx:Int}(C:pL c d n x p a m st nx k l)(b:x.kind=1)(o:Qj x p=0)(D:d x.bg=none)(f:c x.wid=none)(q:0<=a/\a<=1099511611776):
  m=0/\st=0/\nx=3/\k=cT c x.wid [⟨1,1,a,0,0,0,false,Ad (Ca p)⟩,⟨2,2,a,0,0,0,false,⟨#[]⟩⟩]/\l=cT d x.bg (Lp x p,0,3)/\BM [⟨1,1,a,0,0,0,false,Ad (Ca p)⟩,⟨2,2,a,0,0,0,false,⟨#[]⟩⟩]=⟨p,0,3,a,2,0,true,[],[],false,false⟩:=by
 obtain⟨g1,G,r,H⟩:=ke o;have E:Ox c d 1 x p=none:=by rw[AQS (by omega) o D,f];show(if x.kind=1 then none else some (180,0,0))=none;rw[if_pos b]
 rcases C with⟨_,_,s|⟨_,i,_,_,n0,n1,n2,t⟩⟩|⟨_,i,n0,n1,n2,I,u,J,j,v,w,y,e⟩
 ·rw[E] at s;cases s
 ·exfalso;rw[f] at t;exact i (t.trans (YQ b (g1 b) r q).1)
 ·rw[f] at u j e;obtain⟨F,z,B⟩:=YQ (n:=n) (n0:=n0) (n1:=n1) (n2:=n2) b (g1 b) r q;rw[<- u] at F z B;rw[Option.getD_none,DG,B] at j e;rw[z] at v w y e;exact⟨i,w,y,j,v,e⟩
section
variable {A : ao} {g h : aa} {R : A30}
end
section
variable {A : ao} {g h : aa} {s k N sh i : Nat} {l : List Hs} {mp : List Pr} {O : Nat -> Prop} {y : Hs} {fl : cq} {an : cL} {R : A30} {cb : Nat} {z : Nat -> Nat} {x : dU} {C : ba}
structure Y9 (mp:List Pr) (fl:cq) (C:ba):Prop where
 wid:Am C.wid=true
 fits:C.fits ((fl C.wid).getD [])
 more:C.more≠ []
 st:Cz C.st 500
 ok: ∀e∈C.more,Ea e=true/\e.data.size<1099511627776
 len:C.more.length+C.aq.length<=50/\C.conds.length<=50
 keys: ∀p∈C.conds,p.key.size<=1099511627776
 base:mO C (fl C.wid)
 bW:0<=C.bW/\C.bW<=4
 bO:0<=C.bO/\C.bO<=501
 now:0<=C.now/\C.now<=1099511627776
 next:2<=C.st.next/\C.st.next<=500
 err:C.err=0
 bes:C.beside none
theorem EW.fZ {k':Nat}(aa:bL g)(L:CW Ni g h s k N sh l i y mp O cb z x C)(E:I4 mp fl an)(ab: ∀j∈l,∀n,j.u n<=3*k/\j.f n<=k)(F: ∀n,y.u n+2<=3*k'/\y.f n<=k)(ay:k+1<=k')(az:N+2<=3*k')(aA:k'<=490)(ow:gw mp y C.ai)(ac:C.ai<256)(ae:Y9 mp fl C)
  (af:(∀ c∈C.conds,Bc mp c=true)-> ∀f d a b D,D=Az C a b->EW g f s k' sh (l.set i d) (cu mp (DW D++D.aq)) (cT fl C.wid ((fl C.wid).getD []++D.more)) an O->y.cK d->
   (∀ n G M,Bc (cu mp (DW D++D.aq)) (FE n G M)=Bc mp (FE n G M))->BM ((fl C.wid).getD []++D.more)=D.st->Mod (aR g O) h f->R (J6 J9 0) f)
  (ag: ¬(∀ c∈C.conds,Bc mp c=true)-> ∀f d,EW g f s k' sh (l.set i d) mp fl an O->y.cK d->Mod (aR g O) h f->R (J6 J9 100) f):
  AA A P Ci #[Ar cb] h R:=by
 have aC:Ni.C=32000:=rfl;have hA:Ni.A=1600:=rfl;have S:=L.w.sorted;obtain⟨q,ah,ai,T,U,aD,aj,ak,aE,al,am,ao,ap,aq⟩:=ae;have ar: ∀a b,(Az C a b).err=0:=λa b=>(uj ap ao am q).1
 have r: ∀ {d:Hs},y.cK d-> ∀j∈l.set i d,∀n,j.u n<=3*k'/\j.f n<=k':=λ{d} r=>uh (Q:=λj=> ∀n,j.u n<=3*k'/\j.f n<=k') (λj H n=>by have:=ab j H n;omega) λn=>by
  have:=F n;have:=r.u n;rw[r.f];omega
 refine uW aa L T (by omega) q U ac (by have:=F C.ai;omega) (by have:=F C.ai;omega) (by omega) (by omega) (by omega) (by omega) (by omega) (by omega) (by omega) aj (by omega) al (by omega)
  (λau=>absurd au ow.1) (λa b d f n u=>absurd (ar a b) u) (λa b d f n u v=>by rw[ow.2] at v;cases v) (λa b d f n _ v hd I J=>?_) λa b d f n _ _ v hd I J=>?_
 all_goals
  have e:=VO (n:=500) U T a b;have w:=ZP aq a b;have aF:=e.more;have aG:=e.aq;have V:=e.none ai;have W:DW (Az C a b)++(Az C a b).aq≠ []:=λh=>by
   unfold DW at h;rw[if_neg V] at h;simp at h
  have av:Bc mp (bo C)=true:=u7 E q ak
 ·have B: ¬(∀ c∈C.conds,Bc mp c=true):=λt=>hd (uc (by rw[e.wid];exact q) e.ok e.st w (by omega) W (by simp;omega) λc m=>by
   rcases List.mem_cons.1 m with rfl|m
   ·exact ow.2
   ·rcases List.mem_append.1 m with m|m
    ·exact t c m
    ·rw[List.mem_singleton.1 m];exact av)
  have u:F5 (DW (Az C a b)++(Az C a b).aq)=0:=pI W (by have:=ua (Az C a b);rw[A1];omega) λp aw=>by
   rcases List.mem_append.1 aw with h|h
   ·exact u9 (by rw[e.wid];exact q) e.ok e.st p h
   ·exact w.ok p h
  have ax:df mp (FE C.ai (y.f C.ai) y.name::(C.conds++ [bo C])) (DW (Az C a b)++(Az C a b).aq)=100:=by unfold df;rw[if_neg (by simp;omega),if_neg (by rw[u];decide),if_neg λK=>B λc t=>List.all_eq_true.1 K c (by simp[t])]
  rw[ax];exact ag B f d ⟨I.put (by omega) (by omega) (by omega) (by omega),E,r n⟩ n J
 ·have B: ∀c∈C.conds,Bc mp c=true:=λc t=>by
   unfold df at hd;split at hd
   ·cases hd
   ·split at hd
    ·rename_i h;exact absurd hd h
    ·split at hd
     ·rename_i K;exact List.all_eq_true.1 K c (by simp[t])
     ·cases hd
  have X:(Az C a b).fits ((fl C.wid).getD []):=tY ah;have Y:(fl C.wid).getD []++(Az C a b).more≠ []:=λh=>V (List.append_eq_nil_iff.1 h).2
  have Z:=E.done S (D:=Az C a b) (o:=none) (by rw[e.wid];exact q) (by rw[e.wid];exact X) (by rw[e.wid];exact Y) e.st w (λG j H=>by cases H);rw[e.wid] at Z;exact af B f d a b _ rfl ⟨I.put (by omega) (by omega) (by omega) (by omega),Z,r n⟩ n (ud S w) (pJ X Y e.st).2 J
end
theorem aj.jb {h:aa}{c:Obj}{d:aa->Prop}{e:Nat->aa->Prop}(q: ∀f,Ext h f->d f)(k:aj h c e):aj h c λb j=>And (d j) (e b j):=⟨q _ (Mod.push h c),k⟩
section
variable {A : ao} {B : cX} {g h : aa} {s a N sh cb : Nat} {l : List Hs} {mp : List Pr} {O : Nat -> Prop} {i : Nat} {y : Hs} {z : Nat -> Nat} {x : dU} {C : ba} {R : A30}
theorem AQ6 {key val:A31}{r:Bool}(k:CW B g h s a N sh l i y mp O cb z x C)(t:C.conds.length<1000)(u:C.aq.length<1000)
  (v: ∀d w x',CW B g d s a N sh l i y mp O cb w x' (iz C key val)->Mod (aR g O) h d->R (J1 #[]) d):AA A P Gs #[Ar cb,.agg #[J7 key,J7 val,J3 r]] h R:=by
 refine VX ?_;unfold Nw;dsimp only[At];refine aj.mk λQ _ e m S=>?_
 have b:=k.on m;refine AV.mk (s:=x.conds) (Cg b.bq.ag rfl) (AL.mk (n:=key) (AO e rfl) (AL.mk (n:=val) (AB e rfl) ?_));refine aj.jb (λd f=>Cg (b.on f).bq.ag rfl) (b.bq.fi (p:=⟨key,val,false⟩) b.fH t λT o U D j E=>?_);have c:=b.step (x':= {x with conds:=o}) j E rfl D;have F:=j.ag e λG=>by have:=k.fH _ G;omega
 refine AV.mk (s:=x.aq) (Cg c.bq.ag rfl) (AL.mk (n:=key) (AO F rfl) ?_);refine aj.jb (λd f=>Cg (c.on f).bq.ag rfl) (c.bq.dX (p:=⟨key,⟨#[]⟩,true⟩) c.fH u λH I J K q L=>?_);have M:=c.step (x':= {x with conds:=o,aq:=I}) q L rfl K;exact v H J _ M (m.mod.trans ((b.frame j).trans (c.frame q)))
end
section
variable {A : ao} {h : aa} {R : A30}
theorem uv {f:bG}{t:bQ}(j:t.kind=1)(k: ∀d,Ext h d->R (J1 #[J7 ⟨#[]⟩,J3 (decide (f.st.next<=497)&&(f.st.asked==t.ref))]) d):AA A P Md #[f.v,t.v] h R:=by
 refine AD8 ?_;unfold XY;refine aj.mk λq _ l m r=>aj.mk λs _ e g u=>?_
 have i:=g.ag l λh=>h
 refine Bg.mk f.st (Cr (o:=6) i rfl) (uQ λp a=>⟨_,rfl,?_⟩);have b:=k p ((m.trans g).trans a);refine ae.intro (λc=>?_) (λc=>?_)
 ·rw[show decide (f.st.next<=497)=false by simpa using c] at b;exact b
 ·rw[show decide (f.st.next<=497)=true by simpa using c] at b;refine AC.mk (n:=t.kind) (AO (a.ag e λh=>h) rfl) (ae.yes (by simp[j]) ?_);refine AC.mk (n:=f.st.asked) (by rw[add_add];exact AB (a.ag i λh=>h) rfl) (AC.mk (n:=t.ref) (AB (a.ag e λh=>h) rfl) ?_);exact b
end
theorem AKs {a:ba}{t:fA}{tick:Int}{c:Nat}(b:(Dq a t tick c).err=0):(Dq a t tick c).aq=a.aq++ [⟨ML a.ai tick c,fR t a.wid,false⟩]:=by
 unfold Dq at b ⊢;split at b
 ·rename_i d;exact absurd b d
 ·rename_i d;rw[if_neg d];split at b
  ·exact absurd (show(1:Int)=0 from b) (by decide)
  ·rename_i e;rw[if_neg e]
theorem AKI {x:bU}{p:bK}{n n0 n1 n2:Nat}{now:Int}(h:x.kind=1)(d:F3 p=true)(i:Am x.wid=true)(j:0<=now/\now<=1099511611776)(v:p.aw=0):
  ED (Fz x p (Bz none x.wid n now) n0)=true/\ ∃e,(Az (Fz x p (Bz none x.wid n now) n0) n1 n2).aq= [⟨KS x.bg,e,false⟩,⟨Cw n n1,fR ⟨1,2,0⟩ x.wid,false⟩]:=by
 obtain⟨w,m,o,q,y⟩:=uk (n:=n) (n0:=n0) h d i j;obtain⟨k,c,z⟩:=YQ (n:=n) (n0:=n0) (n1:=n1) (n2:=n2) h d i j;have l:DF x p (Bz none x.wid n now) n0=DX (Bz none x.wid n now) (dp 1 (Ad (Ca p))):=by unfold DF;rw[if_pos h,if_neg (by omega)]
 generalize f:Fz x p (Bz none x.wid n now) n0=b at*
 have e:ED b=true:=by subst f;unfold ED;rw[show(Fz x p (Bz none x.wid n now) n0).st=_ from m,show(Fz x p (Bz none x.wid n now) n0).more=_ from o];rfl
 refine⟨e,?_⟩;have a:=Oc b RB;have r:Az b n1 n2=Dq (DX b RB) ⟨1,TU (DX b RB),0⟩ (-1) n1:=by
  have s:EZ b n1=Dq (DX b RB) ⟨1,TU (DX b RB),0⟩ (-1) n1:=by unfold EZ;rw[if_pos e]
  unfold Az at c ⊢;split
  ·rename_i g;exfalso;rw[if_pos g,(HV _ _ _ _).1] at c;exact g.2 (by rw[c])
  ·exact s
 rw[r] at k c ⊢;rw[AKs k];rw[(HV _ _ _ _).1] at c;have t:TU (DX b RB)=2:=by unfold TU;rw[c];rfl
 rw[t];have d:b.aq= [⟨KS x.bg,iy (Lp x p) (Cy (DF x p (Bz none x.wid n now) n0)).1.toNat (Cy (DF x p (Bz none x.wid n now) n0)).2.toNat,false⟩]:=by rw[<- f];show(DF x p (Bz none x.wid n now) n0).aq++_=_;rw[l,(Oc _ _).2.2.2.2.2.1];rfl
 have g:(DX b RB).ai=n:=by rw[a.2.1,<-f];show(DF x p (Bz none x.wid n now) n0).ai=n;rw[l,(Oc _ _).2.1];rfl
 have u:(DX b RB).wid=x.wid:=by rw[a.1,<-f];exact q
 rw[a.2.2.2.2.2.1,d,g,u];exact⟨_,rfl⟩
def bZ(p:bK)(t:Int):bj:=⟨p,0,3,t,2,0,true,[],[],false,false⟩
def dG(p:bK)(t:Int):bj:=⟨p,0,4,t,0,3,false,[],[],false,false⟩
abbrev Uu(a:Int):Ev:=⟨0,3,0,a,0,0,false,⟨#[]⟩⟩
theorem take_add {C:ba}{p:bK}{t:Int}(d:C.err=0)(a:C.st=bZ p t)(e:0<=C.now/\C.now<=1099511627776):
  DX C (Uu 2)= {C with st:=dG p t,more:=C.more++ [⟨3,3,C.now,2,0,0,false,⟨#[]⟩⟩]}:=by
 have b:CG C (Uu 2)=⟨3,3,C.now,2,0,0,false,⟨#[]⟩⟩:=by unfold CG;rw[a];rfl
 have ok:Ea (⟨3,3,C.now,2,0,0,false,⟨#[]⟩⟩:Ev)=true:=by have f:bP C.now 0 1099511627776=true:=Bb.2 e;unfold Ea Ej KN;rw[f];rfl
 have c:Bf C.st (CG C (Uu 2))=(0,dG p t):=by rw[b,a];unfold Bf;rw[if_neg (by simp[ok]),if_neg (by simp[bZ]),if_neg (by simp[bZ]),if_neg (by simp[bZ])];rfl
 rw[Z0 d (.inr (.inl (by rw[a];exact(by decide:(3:Int)<=497)))) (by rw[c]),c,b]
section
variable {A : ao} {h : aa} {R : A30}
theorem uw {x:Sl}{l:List Ev}(v:View de h x l)(e:l.length<=1000)(d: ∀a b,Own de BI b a l->(∀ c,a.ag=some c->h.size<=c)->Ext h b->R (J4 a.p a.len a.cap) b):AA A P CY #[J4 x.p x.len x.cap] h R:=by refine Im ?_;unfold Eo;exact Vq lU v (by omega) (by simp only[maxLen];omega) d
end
def F7(P:A31)(m:List Pr):List Pr:=m.filter λx=>Ky P x.key
section
variable {P k : A31} {m b : List Pr} {p x : Pr}
theorem ASP(k:A31):aG k (⟨#[]⟩:A31)=false:=by unfold aG;rw[ByteArray.toList_eq,ByteArray.toList_eq];cases k.data.toList<;>rfl
theorem pP(a:Int):iZ m P ⟨#[]⟩ a=(F7 P m).take a.toNat:=by unfold iZ F7;rw[HL λx _=>by rw[ASP,LI,Bool.and_true]]
theorem IK(s:Sorted m):Sorted (F7 P m):=s.sublist Hh
theorem mQ:Ac k (F7 P m)=if Ky P k=true then Ac k m else none:=kZ (q:=Ky P)
theorem ATH(s:Sorted m):F7 P (eL m p)=if Ky P p.key=true then eL (F7 P m) p else F7 P m:=by
 split
 ·refine Sorted.ext (IK (KO s p)) (KO (IK s) p) λk=>?_
  rw[mQ,Pn s,Pn (IK s),mQ]
  grind
 ·refine Sorted.ext (IK (KO s p)) (IK s) λk=>?_
  rw[mQ,mQ,Pn s]
  grind
theorem PH:F7 P (p::b)=if Ky P p.key=true then p::F7 P b else F7 P b:=AT
theorem Oa: ∀ {b m:List Pr},Sorted m->F7 P (cu m b)=cu (F7 P m) (F7 P b)
 | [],_,_=>rfl
 |p::b,m,s=>by
  show F7 P (cu (eL m p) b)=_;rw[Oa (KO s p),ATH s,PH];split<;>rfl
theorem ux(a b:List Pr):F7 P (a++b)=F7 P a++F7 P b:=Lz _ _
theorem eK(a: ∀p∈b,Ky P p.key=false):F7 P b= []:=List.filter_eq_nil_iff.2 λp c=>by rw[a p c];decide
theorem AS1(s:Sorted m)(e:p.gone=false)(d: ∀q∈m,aG q.key p.key=true):eL m p=m++ [p]:=by
 have f:Sorted (m++ [p]):=List.pairwise_append.2 ⟨s,Pa _ _,λa g b h=>by rw[List.mem_singleton.1 h];exact d a g⟩;refine Sorted.ext (KO s p) f λk=>?_
 rw[Pn s,IG,e,M.Ld,M.BB,M.RA];by_cases c:p.key=k
 ·subst c;rw[if_pos rfl,if_pos rfl,M.EE λx i=>M.Lu (d x i)];rfl
 ·rw[if_neg c,if_neg c];cases Ac k m<;>rfl
theorem uy(s:Sorted (x::m))(a:p.key=x.key)(c:p.gone=true):eL (x::m) p=m:=by
 rw[sw s,c,if_pos rfl,a];unfold jR;rw[AT,if_neg (by simp)];refine List.filter_eq_self.2 λd e=>?_
 have:=M.Lu ((List.pairwise_cons.1 s).1 d e);simp[Ne.symm this]
end
theorem uz: ∀ {a b:List UInt8},a.length=b.length->a<b-> ∀x e:List UInt8,a++x<b++e
 | [],[],_,c,_,_=>absurd c (Pc _)
 | [],_::_,d,_,_,_=>by cases d
 |_::_,[],d,_,_,_=>by cases d
 |a::p,b::q,d,c,x,e=>by
  cases c with
  |rel c=>exact List.Lex.rel c
  |cons c=>exact List.Lex.cons (uz (by simpa using d) c x e)
theorem mR: ∀(k:Nat) {a b:Nat},b<256^k->a<b->Ij k a<Ij k b
 |0,a,b,c,d=>by simp at c;omega
 |k+1,a,b,c,d=>by
  rw[Ij,Ij];by_cases e:a / 256=b / 256
  ·rw[e];refine yN _ (List.Lex.rel ?_);rw[Rc a,Rc b,UInt8.lt_iff_toNat_lt,Dk (by omega),Dk (by omega)];omega
  ·have f:b / 256<256^k:=by rw[D0] at c;omega
   exact uz (by rw[LB,LB]) (mR k f (by omega)) _ _
theorem APQ {k a b:Nat}(e:a<256^k)(f:b<256^k)(d:Ij k a=Ij k b):a=b:=by
 rcases HT a b with c|c|c
 ·have:=mR k f c;rw[d] at this;exact absurd this (Pc _)
 ·exact c
 ·have:=mR k e c;rw[d] at this;exact absurd this (Pc _)
abbrev mS:Nat:=18446744073709551616
theorem AOo {c a b:Nat}(d:b<mS)(e:a<b):aG (Cw c a) (Cw c b)=true:=by rw[WL,decide_eq_true_eq];unfold Cw;rw[Bw,Bw];exact List.Lex.cons (List.Lex.cons (mR 8 d e))
def Ee(c a:Nat):A31:=Ad (113::0::Cq c::Ij 8 a)
theorem Ra:MC ⟨#[]⟩=Ad [113,0]:=by unfold MC BU;rw[show bl (⟨#[]⟩:A31)= [] from rfl,FU (by decide)];rfl
theorem ARi(c a:Nat):MC ⟨#[]⟩++Ad (Cq c::Ij 8 a)=Ee c a:=by rw[Ra,Aq];rfl
theorem TG(c a:Nat):(Ee c a).size=11:=by unfold Ee;rw[AP];rfl
theorem RQ(c a:Nat):BG (Ee c a)=113:=by unfold BG Ee;rw[FO];rfl
theorem APC {c d a b:Nat}(e:c<256)(f:d<256)(g:a<mS)(h:b<mS)(i:Ee c a=Ee d b):c=d/\a=b:=by have:=Oy.1 i;simp only[Gk,true_and] at this;exact⟨rD e f this.1,APQ g h this.2⟩
theorem mT {a:UInt8}{q:List UInt8}{k:A31}(c:Ky (Ad (a::q)) k=true):BG k=a:=by rw[O7,Bw] at c;obtain⟨t,d⟩:=c;unfold BG;show(k.data.toList).headD 0=a;rw[<- d];rfl
theorem mU {a:UInt8}{q:List UInt8}{k:A31}(c:BG k≠a):Ky (Ad (a::q)) k=false:=by
 cases d:Ky (Ad (a::q)) k with
 |false=>rfl
 |true=>exact absurd (mT d) c
theorem Yx {c a e:Nat}(f:c<256)(g:a<256):Ky (MF c) (Cw a e)=decide (c=a):=by
 rw[DH,O7,decide_eq_true_eq];unfold MF Cw;rw[Bw,Bw];constructor
 ·rintro⟨t,d⟩;simp only[Dd,DG,Gk,true_and] at d;exact rD f g d.1
 ·rintro rfl;exact⟨_,rfl⟩
theorem uA(c a:Nat):Ky (MC ⟨#[]⟩) (Ee c a)=true:=by rw[O7,Ra];unfold Ee;rw[Bw,Bw];exact⟨_,rfl⟩
theorem pQ {c:Nat}{b:List Pr}(a: ∀p∈b,BG p.key≠116):F7 (MF c) b= []:=eK λp d=>mU (a p d)
theorem pR {b:List Pr}(a: ∀p∈b,BG p.key≠113):F7 (MC ⟨#[]⟩) b= []:=by rw[Ra];exact eK λp c=>mU (a p c)
abbrev dP(wid:A31):A31:=fR ⟨1,2,0⟩ wid
def cR(c:Nat)(t:Nat×A31):Pr:=⟨Cw c t.1,dP t.2,false⟩
def gy(c:Nat)(t:Nat×A31):Pr:=⟨Ee c t.1,dP t.2,false⟩
structure eN (mp:List Pr) (T:Nat->List (Nat×A31)) (L:List Pr):Prop where
 tr: ∀c,c<2->F7 (MF c) mp=(T c).map (cR c)
 li:F7 (MC ⟨#[]⟩) mp=L
section
variable {mp b : List Pr} {T : Nat -> List (Nat × A31)} {L : List Pr}
def cH(T:Nat->List (Nat×A31))(c:Nat)(l:List (Nat×A31)):Nat->List (Nat×A31):=λa=>if a=c then l else T a
theorem eN.made {c f:Nat}{wid:A31}{a g:List Pr}(l:eN mp T L)(s:Sorted mp)(w:c<2)(i: ∀p∈a++g,BG p.key≠116/\BG p.key≠113)(n:f<mS)(o: ∀t∈T c,t.1<f):eN (cu mp (a++cR c (f,wid)::g)) (cH T c (T c++ [(f,wid)])) L:=by
 have r: ∀d,d<2->F7 (MF d) (a++cR c (f,wid)::g)=if d=c then [cR c (f,wid)] else []:=λd j=>by
  rw[ux,PH,pQ (b:=a) λp h=>(i p (by simp[h])).1,pQ (b:=g) λp h=>(i p (by simp[h])).1,show Ky (MF d) (cR c (f,wid)).key=decide (d=c) from Yx (by omega) (by omega)];by_cases e:d=c<;>simp[e]
 refine⟨λd j=>?_,?_⟩
 ·rw[Oa s,r d j,l.tr d j];unfold cH;by_cases e:d=c
  ·subst e;rw[if_pos rfl,if_pos rfl,Bs];refine AS1 (by rw[<- l.tr d j];exact IK s) rfl λq u=>?_
   obtain⟨t,v,rfl⟩:=List.mem_map.1 u;exact AOo n (o t v)
  ·rw[if_neg e,if_neg e];rfl
 ·rw[Oa s,pR (b:=a++cR c (f,wid)::g) λp h=>?_]
  ·exact l.li
  ·rcases List.mem_append.1 h with e|e
   ·exact(i p (by simp[e])).2
   ·rcases List.mem_cons.1 e with rfl|e
    ·show BG (Cw c f)≠113;rw[Pj];decide
    ·exact(i p (by simp[e])).2
theorem eN.jc {c:Nat}{t:Nat×A31}{l:List (Nat×A31)}(e:eN mp T L)(s:Sorted mp)(o:c<2)(f:T c=t::l):eN (cu mp [⟨Cw c t.1,⟨#[]⟩,true⟩,gy c t]) (cH T c l) (eL L (gy c t)):=by
 have i: ∀q:List UInt8,Ky (Ad (113::q)) (Cw c t.1)=false:=λq=>mU (by rw[Pj];decide)
 have j: ∀q:List UInt8,Ky (Ad (116::q)) (Ee c t.1)=false:=λq=>mU (by rw[RQ];decide)
 refine⟨λa g=>?_,?_⟩
 ·have n:F7 (MF a) [⟨Cw c t.1,⟨#[]⟩,true⟩,gy c t]=if a=c then [⟨Cw c t.1,⟨#[]⟩,true⟩] else []:=by rw[PH,PH,show Ky (MF a) (gy c t).key=false from j _,show Ky (MF a) (Cw c t.1)=decide (a=c) from Yx (by omega) (by omega)];by_cases d:a=c<;>simp[d,F7]
  rw[Oa s,n,e.tr a g];unfold cH;by_cases d:a=c
  ·subst d;have h:=IK (P:=MF a) s;rw[e.tr a g,f] at h;rw[if_pos rfl,if_pos rfl,f];exact uy h rfl rfl
  ·rw[if_neg d,if_neg d];rfl
 ·rw[Oa s,e.li,PH,PH,show Ky (MC ⟨#[]⟩) (gy c t).key=true from uA _ _];rw[show Ky (MC ⟨#[]⟩) (Cw c t.1)=false from by rw[Ra];exact i _];rfl
theorem eN.take {c d:Nat}{wid v:A31}{a g:List Pr}(i:eN mp T (gy c (d,wid)::L))(s:Sorted mp)(h: ∀p∈a++g,BG p.key≠116/\BG p.key≠113):eN (cu mp (a++⟨Ee c d,v,true⟩::g)) T L:=by
 refine⟨λl n=>?_,?_⟩
 ·rw[Oa s,pQ (b:=a++⟨Ee c d,v,true⟩::g) λp e=>?_]
  ·exact i.tr l n
  ·rcases List.mem_append.1 e with f|f
   ·exact(h p (by simp[f])).1
   ·rcases List.mem_cons.1 f with rfl|f
    ·show BG (Ee c d)≠116;rw[RQ];decide
    ·exact(h p (by simp[f])).1
 ·have j:=IK (P:=MC ⟨#[]⟩) s;rw[i.li] at j;rw[Oa s,i.li,ux,PH,show Ky (MC ⟨#[]⟩) (Ee c d)=true from uA _ _,if_pos rfl,pR (b:=a) λp e=>(h p (by simp[e])).2,pR (b:=g) λp e=>(h p (by simp[e])).2];exact uy j rfl rfl
end
abbrev Ps:Ev:=⟨3,3,0,2,0,0,false,⟨#[]⟩⟩
theorem uB:Ea Ps=true/\Ps.data.size<1099511627776:=by refine⟨?_,(by decide:(0:Nat)<1099511627776)⟩;unfold Ea Ej KN;rfl
structure iN (C:ba) (wid key:A31) (c num:Nat) (p:bK):Prop where
 wd:C.wid=wid
 ai:C.ai=c
 mt:C.bW=0/\C.bO=3/\C.kept=false
 st:C.st=dG p 0
 more:C.more= [Ps]
 err:C.err=0
 now:C.now=0
 conds:C.conds= [⟨key,dP wid,false⟩]
 aq:C.aq= [⟨key,⟨#[]⟩,true⟩,⟨TD c 5 num,fR ⟨4,3,0⟩ wid,false⟩]
theorem AK3 {wid key:A31}{c num:Nat}{p:bK}(a:Am wid=true):iN (Dq (DX (iz (Gh wid c 0 3 false (bZ p 0) 0) key (dP wid)) (Uu 2)) ⟨4,3,0⟩ 5 num) wid key c num p:=by rw[take_add (p:=p) (t:=0) rfl rfl (by decide:(0:Int)<=0/\(0:Int)<=1099511627776)];have b:G9 ⟨4,3,0⟩ wid=true:=Pd (by decide) a (by decide);unfold Dq;rw[if_neg (by show ¬((0:Int)≠0);decide),if_neg (by show ¬(G9 ⟨4,3,0⟩ wid=false);rw[b];decide)];exact⟨rfl,rfl,⟨rfl,rfl,rfl⟩,rfl,rfl,rfl,rfl,rfl,rfl⟩
section
variable {C : ba} {wid key : A31} {c c' num n0 : Nat} {p : bK} {mp : List Pr} {fl : cq} {an : cL} {ev : List Ev}
theorem iN.beside(d:iN C wid (Ee c' n0) c num p)(e:Am wid=true):C.beside none:=by
 have f:G9 ⟨4,3,0⟩ wid=true:=Pd (by decide) e (by decide);have b:=Ya (sh:=c) (num:=num) (tick:=5) f;have j:ML c 5 num=TD c 5 num:=rfl;rw[j] at b;have n:=TG c' n0;have m:=tW (k:=Ee c' n0) (QC (by omega)) (by omega);refine⟨λq a=>?_,λq a=>?_,λq a=>?_⟩<;>rw[d.aq] at a<;>simp only[GB,Kd,or_false] at a<;>rcases a with rfl|rfl
 ·exact m
 ·exact b.1
 ·refine .inl ?_;show BG (Ee c' n0)≠104/\BG (Ee c' n0)≠119/\BG (Ee c' n0)≠114;rw[RQ];decide
 ·exact .inl b.2.1
 ·show BG (Ee c' n0)≠108;rw[RQ];decide
 ·exact b.2.2
theorem iN.close(a:iN C wid key c num p)(b d:Nat):Az C b d=C:=by
 have e:ED C=false:=by unfold ED;rw[a.st];simp[dG]
 unfold Az EZ;rw[e];simp[a.st,dG]
theorem AOq(a:Cz (bZ p 0) 3):Cz (dG p 0) 3:=⟨A6 _,A6 _,a.steps,a.aw,a.aP,(by decide:(0:Int)<=4/\(4:Int)<=501),a.st,a.waits⟩
theorem iN.kJ(a:iN C wid (Ee c' n0) c num p)(u:I4 mp fl an)(b:Am wid=true)(d:fl wid=some ev)(j:BM ev=bZ p 0)(m:C.fits ev)(n:Cz (bZ p 0) 3):Y9 mp fl C:= {
 wid:=by rw[a.wd];exact b
 fits:=by rw[a.wd,d];exact m
 more:=by rw[a.more];simp
 st:=by rw[a.st];exact(AOq n).up (by omega)
 ok:=λv e=>by
  rw[a.more] at e;rw[List.mem_singleton.1 e];exact uB
 len:=by rw[a.more,a.aq,a.conds];exact⟨(by decide:1+2<=50),(by decide:1<=50)⟩
 keys:=λq f=>by
  rw[a.conds] at f;rw[List.mem_singleton.1 f];show(Ee c' n0).size<=_;rw[TG];decide
 base:=by obtain⟨o,r,t⟩:=a.mt;rw[a.wd,d];show C.bW=(BM ev).status/\C.bO=(BM ev).next/\C.kept=false/\0<C.bO;rw[j,o,r];exact⟨rfl,rfl,t,(by decide:(0:Int)<3)⟩
 bW:=by rw[a.mt.1];decide
 bO:=by rw[a.mt.2.1];decide
 now:=by rw[a.now];decide
 next:=by rw[a.st];exact(by decide:(2:Int)<=4/\(4:Int)<=500)
 err:=a.err
 bes:=a.beside b}
theorem eN.row {T:Nat->List (Nat×A31)}{L:List Pr}{r:Pr}(a:eN mp T L)(s:Sorted mp)(b:r∈L):Ac r.key mp=some r/\Ky (MC ⟨#[]⟩) r.key=true:=by
 have h:r∈F7 (MC ⟨#[]⟩) mp:=by rw[a.li];exact b
 obtain⟨d,e⟩:=List.mem_filter.1 h;exact⟨s.find d,e⟩
theorem eN.cR {T:Nat->List (Nat×A31)}{L:List Pr}{t:Nat×A31}(a:eN mp T L)(s:Sorted mp)(b:c<2)(d:t∈T c):Ac (Cw c t.1) mp=some (cR c t):=by
 have h:Go.Lf.G.cR c t∈F7 (MF c) mp:=by rw[a.tr c b];exact Kf d
 exact s.find (List.mem_filter.1 h).1
theorem uC {r:Pr}(h:Ac r.key mp=some r)(a:r.gone=false):Bc mp ⟨r.key,r.val,false⟩=true:=by unfold Bc I5;rw[if_neg (by simp),h];simp
theorem Y9.iE(C:ba): ∀q∈DW C,BG q.key≠116/\BG q.key≠113:=by
 intro q a;unfold DW at a;rcases List.mem_append.1 a with h|h
 ·obtain⟨b,_,rfl⟩:=List.mem_map.1 h;rw[show BG (OI C.wid b).key=104 from WG _ _];decide
 ·split at h
  ·cases h
  ·rw[List.mem_singleton.1 h,show BG (KD C.wid)=119 from Fh _];decide
end
section
variable {A : ao} {g h : aa} {s k sh i : Nat} {l : List Hs} {mp : List Pr} {O : Nat -> Prop} {y y' : Hs} {fl : cq} {an : cL} {ev : List Ev} {R : A30} {cb c num n0 : Nat} {z : Nat -> Nat} {x : dU} {C : ba} {wid : A31} {p : bK} {T : Nat -> List (Nat × A31)} {L : List Pr}
theorem AIh(I:bL g)(u:CW Ni g h s k (3*k+1) sh l i y' mp O cb z x C)(v:I4 mp fl an)(J: ∀w∈l,∀a,w.u a<=3*k/\w.f a<=k)(K: ∀a,y.u a<=3*k/\y.f a<=k)(d:y.cY y')(M:k+1<=490)(ow:gw mp y c)(N:c<256)(b:iN C wid (Ee c n0) c num p)(Q:C.fits ev)(S:Am wid=true)(B:fl wid=some ev)(U:BM ev=bZ p 0)(V:Cz (bZ p 0) 3)(D:eN mp T (gy c (n0,wid)::L))
  (W: ∀f e o,EW g f s (k+1) sh (l.set i e) o (cT fl wid (ev++ [Ps])) an O->e.p=y.p/\e.name=y.name/\e.f=y.f->(∀ m,y.u m<=e.u m)->(∀ a r E,Bc o (FE a r E)=Bc mp (FE a r E))->BM (ev++ [Ps])=dG p 0->eN o T L->Mod (aR g O) h f->R (J6 J9 0) f):
  AA A P Ci #[Ar cb] h R:=by
 have X:=b.kJ v S B U Q V;have F:=u.w.sorted;have row:=D.row F (r:=gy c (n0,wid)) (by simp);refine EW.fZ (k':=k+1) I u v J (λa=>by have:=K a;have:=d.u a;rw[d.f];omega) (by omega) (by omega) M (by rw[b.ai];unfold gw at ow ⊢;rw[d.f,d.name];exact ow) (by rw[b.ai];exact N) X (λ_ f e ac ae Y G H j Z t aa=>?_) λab=>?_
 ·rw[b.close] at G;subst G;rw[b.wd,B,HR,b.more] at H t;rw[b.st] at t;refine W f e _ H ⟨j.p.trans d.p,j.name.trans d.name,j.f.trans d.f⟩ (λm=>by have:=d.u m;have:=j.u m;omega) Z t ?_ aa;rw[b.aq];refine D.take F λq n=>?_
  rcases List.mem_append.1 n with h|h
  ·exact Y9.iE Y q h
  ·rw[List.mem_singleton.1 h,show BG (TD c 5 num)=109 from yT _ _ _];decide
 ·refine absurd (λq n=>?_) ab;rw[b.conds] at n;rw[List.mem_singleton.1 n];exact uC (r:=gy c (n0,wid)) row.1 rfl
end
abbrev Tq:=Nat×Nat×A31
abbrev TT:=Nat->List (Nat×A31)
def MU(q:Tq):Pr:=gy q.1 q.2
def gQ(a:List Tq)(x:Tq):List Tq:=a.take (aF (MU x).key (a.map MU))++x::a.drop (aF (MU x).key (a.map MU))
theorem AO9(b:List Tq)(x:Tq):(gQ b x).Perm (x::b):=by have:=Kp (a:=x) (l₁:=b.take (aF (MU x).key (b.map MU))) (l₂:=b.drop (aF (MU x).key (b.map MU)));rw[F1] at this;exact this
theorem ARj {a:List Tq}{x:Tq}(s:Sorted (a.map MU))(b: ∀q∈a,(MU q).key≠(MU x).key):eL (a.map MU) (MU x)=(gQ a x).map MU:=by
 have c:Aw (MU x).key (a.map MU)=false:=by
  cases d:Aw (MU x).key (a.map MU) with
  |false=>rfl
  |true=>
   obtain⟨q,j,e⟩:=(ANR (MU x).key s).1 d;obtain⟨f,g⟩:=M.MW e;obtain⟨h,i,rfl⟩:=List.mem_map.1 g;exact absurd f (b h i)
 unfold eL gQ;rw[c];simp only[BW,if_false,Bs,PA,BY,List.map_drop,A4];rfl
def Uh(T:TT)(a:List Tq):List Tq:=a++((T 0).map (λt=>(0,t))++(T 1).map λt=>(1,t))
theorem pS {T:TT}{c:Nat}{l:List (Nat×A31)}:cH T c l c=l:=if_pos rfl
theorem uD {c:Nat}{t:Nat×A31}{T:TT}{l:List (Nat×A31)}{L:List Tq}(g:c<2)(b:T c=t::l):(Uh T L).Perm ((c,t)::Uh (cH T c l) L):=by
 have d: ∀a,a≠c->cH T c l a=T a:=λa f=>if_neg f
 have e:cH T c l c=l:=pS;unfold Uh;rcases(by omega:c=0\/c=1) with rfl|rfl
 ·rw[d 1 (by decide),e,b,BY,Dd];exact Kp
 ·rw[d 0 (by decide),e,b,BY];rw[<- A4,<-A4];exact Kp
theorem AQ2 {c:Nat}{t:Nat×A31}{T:TT}{l:List (Nat×A31)}{L:List Tq}(a:c<2)(b:T c=t::l):(Uh (cH T c l) (gQ L (c,t))).Perm (Uh T L):=by refine List.Perm.trans ?_ (uD (L:=L) a b).symm;unfold Uh;exact(AO9 L (c,t)).append_right _
theorem AR4 {c:Nat}{t:Nat×A31}{T:TT}{L:List Tq}(f:c<2):(Uh (cH T c (T c++ [t])) L).Perm ((c,t)::Uh T L):=by
 have b: ∀a,a≠c->cH T c (T c++ [t]) a=T a:=λa e=>if_neg e
 have d:cH T c (T c++ [t]) c=T c++ [t]:=pS;unfold Uh;rcases(by omega:c=0\/c=1) with rfl|rfl
 ·rw[b 1 (by decide),d,Bs,A4,<-A4 L];refine List.Perm.trans Kp ?_;rw[A4];exact HM _
 ·rw[b 0 (by decide),d,Bs,<-A4,<-A4];refine List.Perm.trans Kp ?_;rw[show([]:List (Nat×A31)).map (λt=>(1,t))= [] from rfl,AS,A4]
theorem uE {c:Nat}{t:Nat×A31}{T:TT}{a:List Tq}(d:c<2)(b:t∈T c):(c,t)∈Uh T a:=by unfold Uh;rcases(by omega:c=0\/c=1) with rfl|rfl<;>simp[b]
theorem Yf {q:Tq}{T:TT}{a:List Tq}(b:q∈a):q∈Uh T a:=Hj _ b
def Started(b:cq)(wid:A31):Prop:=Am wid=true/\ ∃p a,b wid=some a/\BM a=bZ p 0
structure Ve (fl:cq) (y:Hs) (l:List Tq):Prop where
 one: ∀q∈l,q.1<2/\Ao q.2.2 2=q.1/\q.2.1<=16777216+y.u q.1/\Started fl q.2.2
 keys:(l.map λq=>(q.1,q.2.1)).Nodup
 hU:(l.map λq=>q.2.2).Nodup
theorem Ve.perm {c:cq}{d:Hs}{l e:List Tq}(a:Ve c d l)(b:e.Perm l):Ve c d e:=
 ⟨λq f=>a.one q (b.mem_iff.1 f),(b.map _).nodup_iff.2 a.keys,(b.map _).nodup_iff.2 a.hU⟩
theorem Ve.ak {b:cq}{c d:Hs}{l:List Tq}(a:Ve b c l)(e: ∀m,c.u m<=d.u m):Ve b d l:=
 ⟨λq f=>by obtain⟨g,h,i,j⟩:=a.one q f;exact⟨g,h,AK i (by have:=e q.1;omega),j⟩,a.keys,a.hU⟩
theorem Ve.tail {c:cq}{d:Hs}{q:Tq}{l:List Tq}{x:List Ev}(a:Ve c d (q::l)):Ve (cT c q.2.2 x) d l:=by
 have e:=List.nodup_cons.1 a.hU;refine⟨λb f=>?_,(List.nodup_cons.1 a.keys).2,e.2⟩;obtain⟨g,h,i,j,p,k,m,n⟩:=a.one b (AI _ f);have ne:b.2.2≠q.2.2:=λo=>e.1 (List.mem_map.2 ⟨b,f,o⟩)
 exact⟨g,h,i,j,p,k,by rw[Rw ne];exact m,n⟩
theorem Ve.more {f:cq}{g h:Hs}{q:Tq}{l:List Tq}{x:List Ev}{p:bK}(d:Ve f g l)(o: ∀m,g.u m<=h.u m)(k:q.1<2/\Ao q.2.2 2=q.1)(r:16777216+g.u q.1<q.2.1/\q.2.1<=16777216+h.u q.1)(s:Am q.2.2=true)(t:f q.2.2=none)(u:BM x=bZ p 0):Ve (cT f q.2.2 x) h (q::l):=by
 have ne: ∀a∈l,a.2.2≠q.2.2:=λa b c=>by
  obtain⟨_,_,_,_,p,n,e,_⟩:=d.one a b;rw[c,t] at e;cases e
 refine⟨λa b=>?_,List.nodup_cons.2 ⟨λi=>?_,d.keys⟩,List.nodup_cons.2 ⟨λi=>?_,d.hU⟩⟩
 ·rcases List.mem_cons.1 b with rfl|b
  ·exact⟨k.1,k.2,r.2,s,p,x,Hm,u⟩
  ·obtain⟨v,w,j,y,p,n,e,z⟩:=d.one a b;exact⟨v,w,AK j (by have:=o a.1;omega),y,p,n,by rw[Rw (ne a b)];exact e,z⟩
 ·obtain⟨a,b,c⟩:=List.mem_map.1 i;have j:=(d.one a b).2.2.1;simp only[Mn] at c;rw[c.1,c.2] at j;omega
 ·obtain⟨a,b,c⟩:=List.mem_map.1 i;exact ne a b c
theorem Ve.fresh {d:cq}{a:Hs}{x:Tq}{l:List Tq}(b:Ve d a (x::l))(h:a.u x.1<1000000){q:Tq}(c:q∈l)(i:a.u q.1<1000000):(MU q).key≠(MU x).key:=λe=>by
 obtain⟨j,k,m,n⟩:=b.one x (B8);obtain⟨o,p,r,s⟩:=b.one q (AI _ c);obtain⟨f,g⟩:=APC (by omega) (by omega) (by show q.2.1<18446744073709551616;omega) (by show x.2.1<18446744073709551616;omega) e;refine(List.nodup_cons.1 b.keys).1 (List.mem_map.2 ⟨q,c,?_⟩);show(q.1,q.2.1)=(x.1,x.2.1);rw[f,g]
section
variable {A : ao} {g h : aa} {s k : Nat} {y y0 : Hs} {mp : List Pr} {fl : cq} {an : cL} {O : Nat -> Prop} {R : A30} {T : TT} {L : List Tq}
structure QW (g h:aa) (s k:Nat) (y0:Hs) (mp:List Pr) (fl:cq) (an:cL) (O:Nat->Prop) (T:TT) (L:List Tq):Prop where
 w:EW g h s k 2 [y0] mp fl an O
 q:eN mp T (L.map MU)
 own: ∀n,n<2->gw mp y0 n/\y0.f n=1
 ok:Ve fl y0 (Uh T L)
theorem QW.dA {b:aa}{O':Nat->Prop}(a:QW g h s k y0 mp fl an O T L)(d:Mod O h b)(e: ∀c,O' c->O c\/(h.size<=c/\c<b.size)):QW g b s k y0 mp fl an O' T L:=⟨a.w.own d e,a.q,a.own,a.ok⟩
theorem QW.on {b:aa}(a:QW g h s k y0 mp fl an O T L)(x:Ext h b):QW g b s k y0 mp fl an O T L:=⟨a.w.on x,a.q,a.own,a.ok⟩
theorem QW.less {O':Nat->Prop}(a:QW g h s k y0 mp fl an O T L)(b: ∀c,O' c->O c):QW g h s k y0 mp fl an O' T L:=⟨a.w.less b,a.q,a.own,a.ok⟩
theorem QW.up {b:Nat}(a:QW g h s k y0 mp fl an O T L)(c:k<=b)(d:b<=500):QW g h s b y0 mp fl an O T L:=⟨a.w.up c d,a.q,a.own,a.ok⟩
theorem QW.ub(b:QW g h s k y0 mp fl an O T L)(a:Nat):y0.u a<=3*k/\y0.f a<=k:=b.w.all y0 (by simp) a
theorem Y9.jd(a:ba): ∀q∈DW a,BG q.key≠109:=by
 intro q b;unfold DW at b;rcases List.mem_append.1 b with h|h
 ·obtain⟨c,_,rfl⟩:=List.mem_map.1 h;rw[show BG (OI a.wid c).key=104 from WG _ _];decide
 ·split at h
  ·cases h
  ·rw[List.mem_singleton.1 h,show BG (KD a.wid)=119 from Fh _];decide
theorem QW.start {x:bU}{p:bK}{Q:J0}(S:bL g)(b:QW g h s k y0 mp fl an O T L)(U:k+1<=490)(r:x.kind=1)(V:View UT h x.steps p.steps)(W:x.aw=p.aw)(X:p.aw=0)(len:p.steps.length<=1099511627776)(D:Qj x p=0)(Y:an x.bg=none)(l:fl x.wid=none)(o:Am x.wid=true)
  (Z: ∀f d w E,QW g f s (k+1) d w (cT fl x.wid [⟨1,1,0,0,0,0,false,Ad (Ca p)⟩,⟨2,2,0,0,0,0,false,⟨#[]⟩⟩]) (cT an x.bg (Lp x p,0,3)) O (cH T (Ao x.wid 2) (T (Ao x.wid 2)++ [(E,x.wid)])) L->d.p=y0.p->Mod (aR g O) h f->(∀ q∈Uh T L,q.1=Ao x.wid 2->q.2.1<E)->(∀ n,F7 (G8 n) mp= []->F7 (G8 n) w= [])->R (dD 0 0 3).v f):
  AA A P GL #[Ar y0.p,Q,J6 J9 0,x.v] h R:=by
 have e:=SX x.wid (n:=2) (by decide);have F:=b.w.w.sorted;have ub:=b.ub (Ao x.wid 2);refine b.w.hG (i:=0) S rfl U (b.own _ e).1 V W len (by decide) λf d w al am G st nx z j aa ab ac ae=>?_
 obtain⟨rfl,rfl,rfl,rfl,rfl,af⟩:=ac.start r D Y l (by decide);obtain⟨g1,ao,ap,aq⟩:=ke D;rcases ae with rfl|⟨n0,n1,n2,c,H,ar,rfl,-,I⟩
 ·exfalso;have J:=z.m.fF x.wid o;rw[b.w.m.fF x.wid o,l,Hm] at J;cases J
 rw[l] at H I;obtain⟨ag,v,B⟩:=AKI (n:=Ao x.wid 2) (n0:=n0) (n1:=n1) (n2:=n2) (now:=0) r (g1 r) o (by decide) X;rw[<- H] at B;obtain⟨u,au,av,ah⟩:=I ag;rw[(b.own _ e).2,Nat.one_mul] at ah;have K: ∀q∈Uh T L,q.1=Ao x.wid 2->q.2.1<n1:=λq a G=>by
  have:=(b.ok.one q a).2.2.1;rw[G] at this;omega
 have aw:=(z.all d (B8) (Ao x.wid 2)).1;refine Z f d _ n1 ⟨z,?_,λn C=>?_,?_⟩ j.p ab K λn C=>?_
 ·have ai:DW c++c.aq=(DW c++ [⟨KS x.bg,v,false⟩])++cR (Ao x.wid 2) (n1,x.wid):: []:=by rw[B,A4];rfl
  rw[ai];refine b.q.made F e (λq a=>?_) (by show n1<18446744073709551616;omega) λt aj=>K _ (uE e aj) rfl
  rw[AS] at a;rcases List.mem_append.1 a with h|h
  ·exact Y9.iE c q h
  ·rw[List.mem_singleton.1 h];show BG (KS x.bg)≠116/\BG (KS x.bg)≠113;rw[Jw];decide
 ·obtain⟨M,ak⟩:=b.own n C;refine⟨?_,by rw[j.f];exact ak⟩;unfold gw at M ⊢;rw[j.f,j.name,aa];exact M
 ·refine Ve.perm ?_ (AR4 (t:=(n1,x.wid)) (L:=L) e);exact b.ok.more (q:=(Ao x.wid 2,n1,x.wid)) (λm=>(j.u m).1) ⟨e,rfl⟩ ⟨by show 16777216+y0.u (Ao x.wid 2)<n1;omega,by show n1<=16777216+d.u (Ao x.wid 2);omega⟩ o l af
 ·rw[Oa F,C];have:F7 (G8 n) (DW c++c.aq)= []:=List.filter_eq_nil_iff.2 λp N a=>by
   have a:BG p.key=109:=mT a;rw[B] at N;rcases List.mem_append.1 N with h|h
   ·exact Y9.jd c p h a
   ·rcases List.mem_cons.1 h with rfl|h
    ·have:BG (KS x.bg)=109:=a;rw[Jw] at this;cases this
    ·rw[List.mem_singleton.1 h] at a;have:BG (Cw _ _)=109:=a;rw[Pj] at this;cases this
  rw[this];rfl
end
def Um(c:Nat)(l:List (Nat×A31))(a:List Tq):List Tq:=l.foldl (λa t=>gQ a (c,t)) a
theorem AOY {c:Nat}{l:List (Nat×A31)}{a:List Tq}{t:Nat×A31}:Um c (l++ [t]) a=gQ (Um c l a) (c,t):=by unfold Um;rw[G3];rfl
theorem ATN {T:TT}{c:Nat}{l a:List (Nat×A31)}:cH (cH T c l) c a=cH T c a:=by funext b;unfold cH;split<;>rfl
theorem AQV {T:TT}{c:Nat}:cH T c (T c)=T:=by
 funext b;unfold cH;split
 ·rename_i a;rw[a]
 ·rfl
theorem AIn {a:List Ev}{p:bK}(c:Ng a)(d:BM a=bZ p 0):a.length=2/\Cz (bZ p 0) 3:=by
 have b:=c.next.1;rw[d] at b;have b:(3:Int)=a.length+1:=b;have e:a.length=2:=by omega
 have f:=QP Cz.zero c.ok;rw[d,e] at f;exact⟨e,f.up (by omega)⟩
section
variable {A : ao} {g h : aa} {s k : Nat} {y0 : Hs} {mp : List Pr} {fl : cq} {an : cL} {O : Nat -> Prop} {R : A30} {T : TT} {L : List Tq}
theorem ATL {wid:A31}{c w:Nat}{F:List Ev}{p:bK}{I a b J:Sl}(E:bL g)(r:QW g h s k y0 mp fl an (λc=>O c\/SK (bZ p 0) a b J c) T ((c,w,wid)::L))(cq:k+1<=490)(V:View de h I F)(ba: ∀c,I.ag=some c->O c)(bb:Ji h (bZ p 0) a b J)(no: ∀c,SK (bZ p 0) a b J c-> ¬O c)(av:fl wid=some F)(aL:BM F=bZ p 0)
  (bx: ∀u bc aw ax,QW g u s (k+1) bc aw (cT fl wid (F++ [Ps])) an (λq=>O q\/ax.ag=some q) T L->bc.p=y0.p->Mod (aR g O) h u->View de u ax (F++ [Ps])->(∀ q,ax.ag=some q->h.size<=q)->R (J1 #[(⟨0,0,0,⟨1,wid,3,0⟩,⟨#[]⟩,ax⟩:aZ).v,J3 true]) u):
  AA A P SG #[Ar y0.p,(⟨wid,(c:Int),⟨0,3,false⟩,I,(bZ p 0).V a b J⟩:bG).v,(⟨1,wid,2,0⟩:bQ).v,.agg #[J7 (Ee c w),J7 (dP wid),J3 false],J6 J9 0] h R:=by
 obtain⟨bz,cr,-,aN,-⟩:=r.ok.one (c,w,wid) (Yf (by simp));obtain⟨cs,bd⟩:=AIn (r.w.m.cJ _ _ av) aL;have ct:Ni.C=32000:=rfl;have ub:=r.ub c;have cu:=FV aN;refine AFU ?_;unfold Zw;refine aj.mk λaO _ ay bA M=>aj.mk λbB _ aP be cv=>aj.mk λbC _ aQ aS cw=>aj.mk λak _ bf az cx=>?_
 have al:Ext h ak:=((bA.trans be).trans aS).trans az;have ay:=(be.trans (aS.trans az)).ag ay λh=>h
 have aP:=(aS.trans az).ag aP λh=>h
 have aQ:=az.ag aQ λh=>h
 generalize cy:h.size=aA at*
 generalize cz:aO.size=bD at*
 generalize cB:bB.size=cC at*
 generalize cD:bC.size=bE at*
 have cE:=Aj bf;refine EC.mk (⟨wid,(c:Int),⟨0,3,false⟩,I,(bZ p 0).V a b J⟩:bG) (Ml ay) ?_
 let G:Nat->Prop:=λq=>O q\/(h.size<=q/\q<ak.size)
 have aT: ∀q,aA<=q->q<ak.size->G q:=λq cF aO=> .inr ⟨by omega,aO⟩
 have bF: ∀q,SK (bZ p 0) a b J q->q<h.size:=λq d=>bb.lt d
 have cG:=al.size;refine pY (l:= [y0]) (i:=0) (y:=y0) (O:=G) (ai:=c) (now:=0) (r.w.w.own al.mod λq d=>?_) (by simp) (bb.ext al) (λq d aU=>?_) λcH bH z cI bI Q=>⟨_,rfl,?_⟩
 ·rcases d with(h|h)|h
  ·exact .inl (.inl h)
  ·exact .inr h
  ·exact .inl (.inr h)
 ·have:=bF q d;rcases aU with h|h
  ·exact no q d h
  ·omega
 have k0:=Q.ag ay λh=>h
 have o:=Q.ag aP λh=>h
 have aV:=Q.ag aQ λh=>h
 have v:=Q.ag bf λh=>h
 refine AL.mk (n:=Ee c w) (AO aV rfl) (AL.mk (n:=dP wid) (AB aV rfl) (Aa.mk (n:=false) (AB aV rfl) ?_));refine AQ6 bI (by show 0<1000;decide) (by show 0<1000;decide) λcJ cK cL bJ X=>⟨rfl,?_⟩
 have aM: ∀ {q:Nat} {bg:Obj} {u N:aa},u[q]? =some bg->aA<=q->q<ak.size->Mod (aR g G) u N->N[q]? =some bg:=λbM g1 bN m=>aR.aM m bM (aT _ g1 bN)
 have k0:=aM k0 (by omega) (by omega) X;have o:=aM o (by omega) (by omega) X;have v:=aM v (by omega) (by omega) X;refine EC.mk (⟨wid,(c:Int),⟨0,3,false⟩,I,(bZ p 0).V a b J⟩:bG) (Ml k0) (Ir.mk (⟨1,wid,2,0⟩:bQ) (Cr o rfl) ?_);refine uv (f:=(⟨wid,(c:Int),⟨0,3,false⟩,I,(bZ p 0).V a b J⟩:bG)) (t:=⟨1,wid,2,0⟩) rfl λcM S=>⟨_,_,rfl,?_⟩
 have k0:=S.ag k0 λh=>h
 have o:=S.ag o λh=>h
 have v:=S.ag v λh=>h
 have bO:=bJ.on S;refine ah.mk λK bP=>ae.no rfl (AC.mk (n:=1) (AO o rfl) (ae.yes rfl (AC.mk (n:=2) (AB o rfl) ?_)))
 refine UE (n:=3) (e:=Uu 2) bO bd (by decide) (by show 0<1099511627776;decide) (.inl (show(3:Int)<6 by decide)) (by show 0<1000;decide) λcN cO cP bh Y=>⟨rfl,?_⟩
 have k0:=aM k0 (by omega) (by omega) Y;have o:=aM o (by omega) (by omega) Y;have v:=aM v (by omega) (by omega) Y;have bi:=take_add (C:=iz (Gh wid c 0 3 false (bZ p 0) 0) (Ee c w) (dP wid)) (p:=p) (t:=0) rfl rfl (by decide:(0:Int)<=0/\(0:Int)<=1099511627776);have bj:(DX (iz (Gh wid c 0 3 false (bZ p 0) 0) (Ee c w) (dP wid)) (Uu 2)).st=dG p 0:=by rw[bi]
 have bR:TU (DX (iz (Gh wid c 0 3 false (bZ p 0) 0) (Ee c w) (dP wid)) (Uu 2))=3:=by unfold TU;rw[bj];rfl
 refine uR bh (by rw[bj];exact(by decide:(0:Int)<=4/\(4:Int)<=501)) ⟨_,rfl,?_⟩;rw[bR];refine ab.bT (j:=2) (dT:=(⟨1,wid,3,0⟩:bQ).c) o (of_decide_eq_true rfl) rfl λcQ bk am cR=>AC.mk (n:=3) (AB bk rfl) ?_
 have k0:=am.ag k0 (by omega);have v:=am.ag v (by omega);have bS:=bh.wider (O':=G) (am.ak λq _ d=>by subst d;exact aT _ (by omega) (by omega)) λq d=> .inl d
 rw[show J8 J9 ((0:Int)+5)=5 from by decide];have aC:(DX (iz (Gh wid c 0 3 false (bZ p 0) 0) (Ee c w) (dP wid)) (Uu 2)).ai=c/\(DX (iz (Gh wid c 0 3 false (bZ p 0) 0) (Ee c w) (dP wid)) (Uu 2)).aq.length=1:=by rw[bi];exact⟨rfl,rfl⟩
 refine pZ (t:=⟨4,⟨#[]⟩,3,0⟩) (tick:=5) bS (by rw[aC.1];omega) (by rw[aC.1];omega) (by rw[aC.1];omega) (by omega) (by omega) (by rw[aC.2];decide) (by decide) λbT bU bV bW num aW bX cS Z=>⟨rfl,bP _ _ ?_⟩
 have k0:=aM k0 (by omega) (by omega) Z;have o:=aM bk (by omega) (by omega) Z;have v:=aM v (by omega) (by omega) Z;have bY:=AK3 (key:=Ee c w) (c:=c) (num:=num) (p:=p) aN;have b0:(Dq (DX (iz (Gh wid c 0 3 false (bZ p 0) 0) (Ee c w) (dP wid)) (Uu 2)) ⟨4,3,0⟩ 5 num).fits F:=Vn (Lj (by
  show Eb SC (F++ [])=some (bZ p 0)/\ ∀e∈F++ [],_;rw[AS];exact⟨(r.w.m.cJ _ _ av).ok.trans (congrArg some aL),(r.w.m.cJ _ _ av).kd⟩) (.inl (show(3:Int)<6 by decide)))
 have aW:CW Ni g bT s k (3*k+1) 2 [y0] 0 bW mp G bH bU bV (Dq (DX (iz (Gh wid c 0 3 false (bZ p 0) 0) (Ee c w) (dP wid)) (Uu 2)) ⟨4,3,0⟩ 5 num):=aW;refine AIh E aW r.w.m r.w.all r.ub bX (by omega) (r.own c bz).1 (by omega) bY b0 aN av aL bd r.q λB bm aw bn aE b1 b2 je b3 ac=>⟨_,rfl,ae.no rfl (ae.no rfl ?_)⟩
 have k0:=aM k0 (by omega) (by omega) ac;have o:=aM o (by omega) (by omega) ac;have v:=aM v (by omega) (by omega) ac;have cU:ak.size<=B.size:=by have:=Q.size;have:=X.size;have:=S.size;have:=Y.size;have:=Z.size;have:=ac.size;omega
 have b4:QW g B s (k+1) bm aw (cT fl wid (F++ [Ps])) an G T L:=⟨bn,b3,λn b5=>by
  obtain⟨bo,b6⟩:=r.own n b5;refine⟨?_,by rw[aE.2.2];exact b6⟩;unfold gw at bo ⊢;rw[aE.2.2,aE.2.1,b2];exact bo,(Ve.tail (q:=(c,w,wid)) (l:=Uh T L) r.ok).ak b1⟩
 have aF:=bn.m.cJ wid _ Hm;have bp:View de B I F:=by
  have H: ∀ {u N:aa},Mod (aR g G) u N->Mod (λq=>aR g G q\/q=bD) u N:=λm=>m.ak λq _ d=> .inl d
  refine((V.ext al).ext Q).da ((H X).trans (S.mod.trans ((H Y).trans ((am.ak λq _ d=> .inr d).trans ((H Z).trans (H ac)))))) λ_ q d aG=>?_
  have:=(r.w.w.out (.inl (ba q d))).1;rcases aG with aG|aG
  ·exact aG.2 (.inl (ba q d))
  ·omega
 refine Ir.mk (⟨1,wid,3,0⟩:bQ) (Cr o rfl) (uo (x:=⟨0,0,0,⟨1,wid,3,0⟩,⟨#[]⟩,⟨none,0,0⟩⟩) λao aX U=>?_);have af:=U.ag k0 λh=>h
 have aH:=U.ag o λh=>h
 have cV:=U.ag v λh=>h
 refine ah.mk λcW b7=>AC.mk (n:=1) (AO aH rfl) (ae.yes rfl (ah.mk λb8 b9=>?_))
 have fin: ∀(ag:aa) (sl:Sl),Ext B ag->ag[B.size]? =some (J2 (⟨0,0,0,⟨1,wid,3,0⟩,⟨#[]⟩,sl⟩:aZ).c A8 (0,0))->View de ag sl (F++ [Ps])->(∀ q,sl.ag=some q->B.size<=q/\q≠B.size)->b8 () ag:=λag sl bq aY a0 a1=>by
  refine b9 _ _ (AV.mk (s:=sl) (AB aY rfl) (YA a0 aF.len (λe br=>?_) aF.ok λca cX cY cZ W c0 c1=>Gn.mk _ ⟨_,_,rfl,aj.mk λc2 _ cb aI c3=>aD.mk cb (A0 12) λcc c4 aJ c5=>ae.no rfl (b7 _ _ ?_)⟩))
  ·obtain⟨i,hi⟩:=DB br;have:=RI (aF.next.2 i e hi).2;exact⟨by omega,aF.kd e br⟩
  have a2:Ext B cc:=(bq.trans (W.trans aI)).more aJ λq d=>by subst d;exact(bq.trans W).size
  have c6:=Aj aY;have cd:=aJ.ag ((W.trans aI).ag aY λh=>h) (by have:=W.size;omega);have ce:=a2.ag v λh=>h
  refine Bu.mk (⟨0,0,0,⟨1,wid,3,0⟩,⟨#[]⟩,sl⟩:aZ) (Jq cd) (aD.mk ce (A0 9) λbs bt aK c7=>?_);rw[MP] at bt;refine Bu.mk (⟨0,0,0,⟨1,wid,3,0⟩,⟨#[]⟩,sl⟩:aZ) (Jq bt) ?_;have c8:=(W.trans aI).size;have bu: ∀q,sl.ag=some q->q<ag.size:=λq d=>a0.iF (by simp) d
  have cf:=b4.dA (O':=λq=>G q\/sl.ag=some q) (a2.mod.trans (aK.ak λq _ d=>by subst d;exact aT _ (by omega) (by omega))) λq d=>d.imp id λh=>⟨(a1 q h).1,by have:=bu q h;have:=aJ.size;have:=aK.size;omega⟩
  refine bx bs bm aw sl (cf.less λq d=>d.imp .inl id) aE.1 ?_ (((a0.ext (W.trans aI)).mod aJ λq d e=>?_).mod aK λq d e=>?_) λq d=>by have:=(a1 q d).1;omega
  rotate_left
  ·have:=bu q d;have:q=ca.size:=e;have:=W.size;omega
  ·have:=(a1 q d).1;have:q=bE:=e;omega
  have H: ∀ {u N:aa},Mod (aR g G) u N->Mod (λq=>aR g O q\/aA<=q) u N:=λm=>m.ak λq _ d=> .inl (aR.less d λq aU=> .inl aU)
  have cg:Mod (λq=>aR g O q\/aA<=q) h bs:=al.mod.trans (Q.mod.trans ((H X).trans (S.mod.trans ((H Y).trans ((am.ak λq _ d=> .inr (by omega)).trans ((H Z).trans ((H ac).trans (a2.mod.trans (aK.ak λq _ d=> .inr (by omega))))))))));exact cg.ak λq ch d=>d.elim id λh=>absurd ch (by omega)
 have c9:B.size<ao.size:=Aj aX;refine AV.mk (s:=I) (AB af rfl) (AC.mk (n:=3) (AB aH rfl) (AC.mk (n:=2) (by rw[add_add];exact AB af rfl) ⟨?_,?_⟩))
 ·refine uw (bp.ext U) (by omega) λa3 ci cj bv D=>⟨_,rfl,by rw[add_add];exact AB (D.ag af λh=>h) rfl,AB (D.ag aH λh=>h) rfl,?_⟩
  refine aj.jb (λu ck=>AB (ck.ag (D.ag af λh=>h) λh=>h) rfl) ?_;refine aj.aU (E:=de) (x:=Ps) (s:=a3) rfl lU cj (by omega) (by simp only[maxLen];omega) λM a4 a5 a6 a7 _=>?_
  have ap:Ext ao a4:=D.more a6 bv;refine ab.bT (j:=8) (dT:=(⟨0,0,0,⟨1,wid,3,0⟩,⟨#[]⟩,M⟩:aZ).c) (ap.ag aX λh=>h) (of_decide_eq_true rfl) rfl λa8 a9 aq cl=>?_
  have ar: ∀q,M.ag=some q->B.size<=q/\q≠B.size:=λq d=>by
   rcases a7 q d with h|h
   ·have:=bv q h;omega
   ·have:=D.size;omega
  exact fin a8 M ((U.trans ap).more aq λq d=>by subst d;exact A0 _) a9 (a5.view.mod aq λq d e=>(ar q d).2 e) ar
 ·refine aj.mk λci _ cm D da=>⟨AB (D.ag af λh=>h) rfl,?_⟩
  have cn:=(bp.ext U).ext D;refine uw cn (by omega) λa3 co cp bw au=>⟨_,rfl,by rw[add_add];exact AB (au.ag (D.ag af λh=>h) λh=>h) rfl,AB (au.ag (D.ag aH λh=>h) λh=>h) rfl,?_⟩
  have src:View de co ⟨some ⟨ao.size,0,none⟩,1,1⟩ [Ps]:=(Own.lit (E:=de) (l:= [Ps]) (au.ag cm λh=>h) rfl (by simp[maxLen])).view;refine II (E:=de) (s:=a3) (src:=⟨some ⟨ao.size,0,none⟩,1,1⟩) lU cp src (by simp only[BE];omega) (by simp only[BE,maxLen];omega) λM a4 a5 a6 a7 _=>?_
  have ap:Ext ao a4:=(D.trans au).more a6 λq d=>by have:=bw q d;have:=D.size;omega
  refine ab.bT (j:=8) (dT:=(⟨0,0,0,⟨1,wid,3,0⟩,⟨#[]⟩,M⟩:aZ).c) (ap.ag aX λh=>h) (of_decide_eq_true rfl) rfl λa8 a9 aq cl=>?_
  have db:=D.size;have dc:=au.size;have ar: ∀q,M.ag=some q->B.size<=q/\q≠B.size:=λq d=>by
   rcases a7 q d with h|h
   ·have:=bw q h;omega
   ·omega
  exact fin a8 M ((U.trans ap).more aq λq d=>by subst d;exact A0 _) a9 (a5.view.mod aq λq d e=>(ar q d).2 e) ar
end
section
variable {A : ao} {g h : aa} {s k : Nat} {y0 : Hs} {mp : List Pr} {fl : cq} {an : cL} {O : Nat -> Prop} {R : A30} {T : TT} {L : List Tq} {a : Q2}
theorem AO6 {p:Q6}{name:A31}(b:name=⟨#[]⟩\/Am name=true){K:Bool×Unit->aa->Prop}(d:K (false,()) h):
  ae ((some p).isNone) (K (true,()) h) (ae (!bD name (⟨#[]⟩:A31)) (AA A P Bl #[J7 name] h λi j=> ∃e:Bool,i=J3 e/\(K ((!e),()) j)) (K (false,()) h)):=by
 refine ae.no rfl ?_;by_cases c:name=⟨#[]⟩
 ·refine ae.no ?_ d;rw[Bj,c];rfl
 ·have b:=b.resolve_left c;refine ae.yes ?_ (FK ⟨_,rfl,by rw[b];exact d⟩);cases f:bD name ⟨#[]⟩ with
  |false=>rfl
  |true=>rw[Bj] at f;exact absurd (of_decide_eq_true f) c
theorem ANy {c f:Nat}{wid:A31}(az:bL g)(e:QW g h s k y0 mp fl an O T ((c,f,wid)::L))(aA:k+1<=490)
  (aC: ∀D E M j p d,fl wid=some j->BM j=bZ p 0->QW g D s (k+1) E M (cT fl wid (j++ [Ps])) an (λq=>O q\/d.ag=some q) T L->E.p=y0.p->Mod (aR g O) h D->View de D d (j++ [Ps])->(∀ q,d.ag=some q->h.size<=q)->R (⟨0,0,0,⟨1,wid,3,0⟩,⟨#[]⟩,d⟩:aZ).v D):
  AA A P OH #[Ar y0.p,J5 a,J6 J9 0,J7 ⟨#[]⟩] h R:=by
 obtain⟨aE,N,-,F,p,j,l,Q⟩:=e.ok.one (c,f,wid) (Yf (by simp));have F:Am wid=true:=F;have l:fl wid=some j:=l;have N:Ao wid 2=c:=N;refine AFx ?_;unfold w7;refine aj.mk λS _ G o bb=>ah.mk λK aF=>AO6 (.inl rfl) (aF _ _ (ae.no rfl ?_))
 refine Loop.rule (λm x aG=>m=0/\x=((⟨#[]⟩:A31),())/\S=aG) ?_ ⟨rfl,rfl,rfl⟩;rintro bc m _ _ ⟨rfl,rfl,rfl⟩ bd;refine ah.mk λbe bf=>?_
 have U:=e.on o;refine U.w.w.store (i:=0) rfl ⟨_,rfl,ur (by decide) λbg W=>⟨_,rfl,?_⟩⟩;have aH:=U.on W;refine aH.w.w.scan (by have:=Xo (name:=⟨#[]⟩) (by decide);omega) λps aI w bh ai=>⟨_,_,rfl,ae.no rfl ?_⟩
 rw[pP,e.q.li] at w;have w:Own Be AU aI ps [MU (c,f,wid)]:=w;have aJ:ps.len=1:=w.len;refine ae.no (by rw[aJ];rfl) (w.view.idx (i:=0) rfl λbi _ aK=>?_);obtain⟨aL,aM,aN⟩:=aK.pair;refine AL.mk aL (AL.mk aM (Aa.mk aN (aj.pair λbj aO bk X ak bm=>AL.mk (n:=Ee c f) (AO X rfl) ⟨?_,AL.mk (n:=dP wid) (AB X rfl) ?_⟩)))
 ·rw[TG,max_i64];decide
 have aP:G9 ⟨1,2,0⟩ wid=true:=Pd (by decide) F (by decide);refine uu aP λbn H=>jN.mk _ ⟨_,rfl,aj.mk λbo _ aQ al bp=>aD.mk aQ (A0 4) λY am ao bq=>ae.no rfl (AL.mk (n:=wid) (AB am rfl) ?_)⟩
 have r:Ext S Y:=((((W.trans ai).trans ak).trans H).trans al).more ao λq b=>by subst b;exact(((W.trans ai).trans ak).trans H).size
 have aS:Ext aO Y:=(H.trans al).more ao λq b=>by subst b;exact H.size
 have ap:=U.on r;refine pH (i:=0) ap.w.w rfl ap.w.m F l λaq aT t u v aU V Z fr aV aW=>LJ.mk _ ⟨_,rfl,aj.mk λbr _ aX aY bs=>aD.mk aX (A0 18) λy z a0 bt=>ae.no rfl ?_⟩
 rw[Ud] at z;rw[Q] at z Z;rw[N] at z;have B:Ext aq y:=aY.more a0 λq b=>by subst b;exact A0 _
 have aa:=aU.trans B;have I:=r.trans aa;have ab:=o.trans I;have a1:=Z.ext B;have lt: ∀q,SK (bZ p 0) t u v q->Y.size<=q/\q<aq.size:=λq b=>⟨fr q (by rcases b with⟨_,h⟩|⟨_,h⟩|⟨_,h⟩<;>simp[h]),Z.lt b⟩
 have ar:QW g y s k y0 mp fl an (λq=>(O q\/(h.size<=q/\q<y.size/\ ¬SK (bZ p 0) t u v q))\/SK (bZ p 0) t u v q) T ((c,f,wid)::L):=e.dA ab.mod λq b=>by
  have bu:=(o.trans r).size;have bv:=B.size;rcases b with(h|h)|h
  ·exact .inl h
  ·exact .inr ⟨h.1,h.2.1⟩
  ·have:=lt q h;exact .inr ⟨by omega,by omega⟩
 have own:=e.own c aE;refine AC.mk (n:=(c:Int)) (AB z rfl) (ar.w.w.holds (i:=0) rfl ⟨_,rfl,ae.no (by rw[own.2];rfl) ?_⟩);have ac:=(aS.trans aa).ag X λh=>h
 have a2:=aa.ag am λh=>h
 refine EC.mk (⟨wid,(c:Int),⟨0,3,false⟩,aT,(bZ p 0).V t u v⟩:bG) (Ml z) (Ir.mk (⟨1,wid,2,0⟩:bQ) (Cr a2 rfl) (AL.mk (n:=Ee c f) (AO ac rfl) (AL.mk (n:=dP wid) (AB ac rfl) (Aa.mk (n:=false) (AB ac rfl) ?_))));have bw:=e.w.w.on o;refine ATL az ar aA (V.ext B) (λq b=>?_) a1 (λq b af=>?_) l Q λbx E M d a3 a4 au a5 av=>Ez.mk _ ⟨_,rfl,uo (x:=⟨0,0,0,⟨1,wid,3,0⟩,⟨#[]⟩,d⟩) λbz a6 J=>ah.mk λbA a7=>ae.yes rfl (a7 _ _ (ae.yes rfl ?_))⟩
 ·have bB:=aV q b;have S:=(o.trans r).size;refine .inr ⟨by omega,?_,λhi=>?_⟩
  ·have:=V.iF (λC=>by
    have:=(e.w.m.cJ _ _ l).ne;exact this C) b
   have:=B.size;omega
  ·have:=aW q q b (by rcases hi with⟨_,h⟩|⟨_,h⟩|⟨_,h⟩<;>simp[h]);omega
 ·have:=lt q b;rcases af with h|h
  ·have:=(e.w.w.out h).1;have:=(o.trans r).size;omega
  ·exact h.2.2 b
 have aw: ∀ {q:Nat},q=h.size->(O q\/(h.size<=q/\q<y.size/\ ¬SK (bZ p 0) t u v q)):=λ{q} C=>by
  subst C;refine .inr ⟨A0 _,?_,λhi=>?_⟩
  ·have:=Aj G;have:=I.size;omega
  ·have:=lt _ hi;have:=Aj G;have:=r.size;omega
 have k0:=J.ag (aR.aM au (I.ag G λh=>h) (aw rfl)) λh=>h
 refine Bu.mk (⟨0,0,0,⟨1,wid,3,0⟩,⟨#[]⟩,d⟩:aZ) (Jq a6) (aD.mk k0 (A0 9) λax ay ag bC=>?_);rw[MP] at ay;refine Bu.mk (⟨0,0,0,⟨1,wid,3,0⟩,⟨#[]⟩,d⟩:aZ) (Jq ay) ?_;have a8:=a3.dA (O':=λq=>(O q\/(h.size<=q/\q<y.size/\ ¬SK (bZ p 0) t u v q))\/d.ag=some q) (J.mod.trans (ag.ak λq _ b=> .inl (aw b))) λq b=> .inl b
 refine aC ax E M _ _ d l Q (a8.less λq b=>b.imp .inl id) a4 ?_ ((a5.ext J).mod ag λq b C=>by have:=av q b;have:q=h.size:=C;have:=Aj G;have:=I.size;omega) λq b=>by have:=av q b;have:=ab.size;omega
 have a9:Mod (λq=>aR g O q\/h.size<=q) h ax:=ab.mod.trans ((au.ak λq _ b=> .inl (aR.less b λq af=> .inl af)).trans (J.mod.trans (ag.ak λq _ b=> .inr (by omega))));exact a9.ak λq ba b=>b.elim id λh=>absurd ba (by omega)
end
theorem AMH {mp b:List Pr}(s:Sorted mp)(h: ∀p∈b,BG p.key≠108)(c d:Nat)(e:A31):Bc (cu mp b) (FE c d e)=Bc mp (FE c d e):=by
 have f:Ac (CQ c) (cu mp b)=Ac (CQ c) mp:=KP s λq i j=>h q i ((congrArg BG j).trans (Sd c))
 rw[Ob,Ob];unfold I5;rw[f]
abbrev jx(c:Nat)(t:Nat×A31):List Pr:= [⟨Cw c t.1,⟨#[]⟩,true⟩,MU (c,t)]
theorem uF(c:Nat)(t:Nat×A31): ∀p∈jx c t,BG p.key=116\/BG p.key=113:=by
 intro p b;simp only[GB,Kd,or_false] at b;rcases b with rfl|rfl
 ·exact .inl (Pj _ _)
 ·exact .inr (RQ _ _)
theorem AVo {mp:List Pr}{c:Nat}{t:Nat×A31}{b:Pr}(f:Bc mp b=true)(i:Am t.2=true)(j:Ac (Cw c t.1) mp=some (cR c t)):df mp (b:: [⟨Cw c t.1,dP t.2,false⟩]) (jx c t)=0:=by
 have m:=ND c t.1;have n:=TG c t.1;have o:=yU (kind:=1) (wid:=t.2) (ref:=2) (turn:=0) (by decide) (FV i) (by decide) (by decide);have l:F5 (jx c t)=0:=pI (by simp) (by simp) λp d=>by
  simp only[GB,Kd,or_false] at d;rcases d with rfl|rfl
  ·exact tW (QC (by omega)) (by omega)
  ·exact Oh (k:=Ee c t.1) (v:=lL 1 t.2 2 0) (QC (by omega)) (by omega) (by omega)
 unfold df;rw[if_neg (by simp),if_neg (by rw[l];decide),if_pos];refine List.all_eq_true.2 λq e=>?_
 simp only[GB,Kd,or_false] at e;rcases e with rfl|rfl
 ·exact f
 ·exact uC (r:=cR c t) j rfl
section
variable {A : ao} {g h : aa} {s k : Nat} {y0 : Hs} {mp : List Pr} {fl : cq} {an : cL} {O : Nat -> Prop} {R : A30} {T : TT} {L : List Tq} {a : Q2}
theorem QW.go {n:aa}{c:Nat}{t:Nat×A31}{l:List (Nat×A31)}(b:QW g h s k y0 mp fl an O T L)(f:c<2)(i:T c=t::l)(E:k+1<=490)(v:LW Ni g n s (k+1) (3*k) 2 [y0] (cu mp (jx c t)) O):QW g n s (k+1) y0 (cu mp (jx c t)) fl an O (cH T c l) (gQ L (c,t)):=by
 have F:Ni.C=32000:=rfl;have e:=b.w.w.sorted;have o:=uF c t;refine⟨⟨v.put (A0 _) (by omega) (by omega) (by omega),b.w.m.aM e λp j=>?_,λw y m=>by have:=b.w.all w y m;omega⟩,?_,λm z=>?_,b.ok.perm (AQ2 f i)⟩
 ·rcases o p j with d|d<;>rw[d]<;>decide
 ·have q:=b.q.jc e f i;have r:=IK (P:=MC ⟨#[]⟩) e;rw[b.q.li] at r;have B:=b.ok.perm (uD (L:=L) f i).symm;rw[show eL (L.map MU) (gy c t)=(gQ L (c,t)).map MU from ARj (x:=(c,t)) r λq C=>B.fresh (by have:=b.ub c;show y0.u c<1000000;omega) (Yf C) (by have:=b.ub q.1;omega)] at q;exact q
 ·obtain⟨u,D⟩:=b.own m z;refine⟨?_,D⟩;unfold gw at u ⊢;rw[AMH e λp j=>by rcases o p j with d|d<;>rw[d]<;>decide];exact u
theorem ATT {c:Nat}(E:bL g)(e:QW g h s k y0 mp fl an O T L)(r:c<2)(bC:k+8<=490)
  (aM: ∀u y,QW g u s (k+8) y0 y fl an O (cH T c ((T c).drop 8)) (Um c ((T c).take 8) L)->Mod (aR g O) h u->h.size<=u.size->(∀ n,F7 (G8 n) mp= []->F7 (G8 n) y= [])->R (J1 #[J6 J9 ((((T c).take 8).length:Nat):Int),J6 J9 0]) u):
  AA A P OW #[Ar y0.p,J5 a,J6 J9 (c:Int)] h R:=by
 have bD:Ni.C=32000:=rfl;have hA:Ni.A=1600:=rfl;have own:=e.own c r;refine AFV ?_;unfold ZX;refine ah.mk λK aN=>ae.no rfl (ae.no (decide_eq_false (by omega)) (e.w.w.au (i:=0) rfl ⟨_,rfl,aN _ _ (ae.no (decide_eq_false (by show ¬(2:Int)<=(c:Int);omega)) ?_)⟩))
 refine e.w.w.holds (i:=0) rfl ⟨_,rfl,ae.no (by rw[own.2];rfl) (e.w.w.store (i:=0) rfl ⟨_,rfl,APN (by omega) λbE H=>⟨_,rfl,?_⟩⟩)⟩;refine(e.on H).w.w.scan (by unfold MF;rw[AP];show 2<=1099511627776;decide) λps j v aO aP=>⟨_,_,rfl,ae.no rfl ?_⟩
 rw[pP,e.q.tr c r,<-PA] at v;have v:Own Be AU j ps (((T c).take 8).map (cR c)):=v;have C:ps.len=((T c).take 8).length:=by rw[v.len,AF]
 have bF:((T c).take 8).length<=8:=by rw[AD];omega
 have I:=H.trans aP;have aQ:=e.dA (O':=λq=>O q\/(h.size<=q/\q<j.size)) I.mod λq b=>b
 refine Loop.rule (λm x o=> ∃(d:Nat) (y:List Pr),x=((d:Int),())/\m=8-d/\d<=ps.len/\QW g o s (k+d) y0 y fl an (λq=>O q\/(h.size<=q/\q<j.size)) (cH T c ((T c).drop d)) (Um c ((T c).take d) L)/\Mod (aR g λq=>O q\/(h.size<=q/\q<j.size)) j o/\j.size<=o.size/\ ∀n,F7 (G8 n) mp= []->F7 (G8 n) y= []) ?_
  ⟨0,mp,rfl,rfl,A6 _,by rw[HU,AQV];exact aQ,Mod.refl,A0 _,λn h=>h⟩
 rintro bH m _ o ⟨d,mp,rfl,rfl,bI,e,J,bJ,ak⟩ aS;dsimp only;have aT: ∀ {u:aa},Mod (aR g λq=>O q\/(h.size<=q/\q<j.size)) o u->Mod (aR g O) h u:=λm=>I.mod.trans ((J.trans m).ak λq _ b=>aR.less b λq N=> .inl N)
 refine ae.intro (λb=>?_) (λb=>?_);rotate_left
 ·have aU:d=ps.len:=by have:=of_decide_eq_false b;omega
  subst aU;have aV:(T c).drop ps.len=(T c).drop 8:=by
   rw[C,AD];rcases Nat.le_total 8 (T c).length with h|h
   ·rw[Ft h]
   ·rw[Mu h,PB,PC h]
  have aW:(T c).take ps.len=(T c).take 8:=by
   rw[C,AD];rcases Nat.le_total 8 (T c).length with h|h
   ·rw[Ft h]
   ·rw[Mu h,CD,As h]
  rw[aV,aW] at e;rw[C];exact aM o mp ((e.up (by omega) (by omega)).less λq b=> .inl b) (aT Mod.refl) (by have:=I.size;omega) ak
 have al:d<ps.len:=by have:=of_decide_eq_true b;omega
 have Q:d<(T c).length:=by rw[C,AD] at al;omega
 obtain⟨t,D⟩: ∃t,(T c)[d]? =some t:=⟨_,A2 Q⟩;have hd:(T c).drop d=t::(T c).drop (d+1):=by rw[FA Q];rw[A2 Q] at D;cases D;rfl
 have aX:(T c).take (d+1)=(T c).take d++ [t]:=by rw[AE,D];rfl
 have S:cH T c ((T c).drop d) c=t::(T c).drop (d+1):=by rw[pS,hd]
 have aY:(c,t)∈Uh (cH T c ((T c).drop d)) (Um c ((T c).take d) L):=uE r (by rw[S];simp);obtain⟨-,U,-,z,p,aZ,W,a0⟩:=e.ok.one _ aY;have z:Am t.2=true:=z;have W:fl t.2=some aZ:=W;have U:Ao t.2 2=c:=U;have am:=e.w.w.sorted;have a1: ∀q,ps.ag=some q->h.size<=q/\q<j.size:=λq b=>⟨by have:=aO q b;have:=H.size;omega,v.lt b⟩
 have a2:View Be o ps (((T c).take 8).map (cR c)):=v.view.mod J λq b a3=>a3.2 (.inr (a1 q b))
 refine a2.idx (i:=d) (x:=cR c t) (by rw[AN,Fo,if_pos (by omega),D];rfl) λbK _ a4=>?_
 obtain⟨a5,a6,a7⟩:=a4.pair;refine AL.mk a5 (AL.mk a6 (Aa.mk a7 (aj.pair λa8 a9 bM ao ba bN=>AL.mk (n:=dP t.2) (AB ao rfl) ?_)));have bb:G9 ⟨1,2,0⟩ t.2=true:=Pd (by decide) z (by decide);refine uu bb λbO ap=>jN.mk _ ⟨_,rfl,aj.mk λbP _ bc bd bR=>aD.mk bc (A0 4) λaq ar be bS=>ae.no rfl (AL.mk (n:=t.2) (AB ar rfl) ?_)⟩
 have au:Ext a9 aq:=(ap.trans bd).more be λq b=>by subst b;exact ap.size
 have X:=ba.trans au;refine tV (i:=0) (e.on X).w.w rfl e.w.m z W λbT av aw ax ay bf V bU fr bV=>LJ.mk _ ⟨_,rfl,aj.mk λbW _ bg bh bX=>aD.mk bg (A0 18) λw Y bi bY=>ae.no rfl ?_⟩
 rw[Ud] at Y;rw[a0,U] at Y;have F:Ext aq w:=bf.trans (bh.more bi λq b=>by subst b;exact A0 _);have Z:=(au.trans F).ag ao λh=>h
 have bj:=F.ag ar λh=>h
 refine AL.mk (n:=Cw c t.1) (AO Z rfl) (aj.mk λb0 _ bk B b1=>ah.mk λb2 bm=>?_);have bn:=B.ag Z λh=>h
 refine EC.mk (⟨t.2,(c:Int),⟨0,3,false⟩,av,(bZ p 0).V aw ax ay⟩:bG) (Ml (B.ag Y λh=>h)) (Ir.mk (⟨1,t.2,2,0⟩:bQ) (Cr (B.ag bj λh=>h) rfl) ?_);refine uv (f:=(⟨t.2,(c:Int),⟨0,3,false⟩,av,(bZ p 0).V aw ax ay⟩:bG)) (t:=⟨1,t.2,2,0⟩) rfl λb3 az=>⟨_,_,rfl,ae.yes rfl ?_⟩
 have G:=az.ag bn λh=>h
 refine AL.mk (n:=Cw c t.1) (AO G rfl) ⟨⟨by decide,by rw[ND];decide⟩,AL.mk (n:=dP t.2) (AB G rfl) ?_⟩;have bo:(Cw c t.1).extract ((1:Int).toNat) (Cw c t.1).size=Ad (Cq c::Ij 8 t.1):=by show(Cw c t.1).extract 1 (Cw c t.1).size=_;unfold Cw;rw[WB];rfl
 rw[bo];refine AOD (by decide) (by rw[AP];show 9<=1000000;decide) λbp ab=>⟨_,rfl,AB (ab.ag G λh=>h) rfl,?_⟩
 rw[ARi];have ac:=az.trans ab;have bq:Own Be AU bp ⟨some ⟨w.size,0,none⟩,1,1⟩ [⟨Cw c t.1,⟨#[]⟩,true⟩]:=Own.lit (E:=Be) (l:= [⟨Cw c t.1,⟨#[]⟩,true⟩]) (ac.ag bk λh=>h) rfl (by simp[maxLen]);refine aj.aU (E:=Be) (x:=MU (c,t)) (s:=⟨some ⟨w.size,0,none⟩,1,1⟩) rfl M.IR bq (by simp only[BE];decide) (by simp only[BE,maxLen];decide) λbr af aA ag bs _=>bm _ _ ?_
 have b4:=X.size;have b5:=F.size;have b6:=B.size;have b7:=ac.size;have b8:=ag.size;have bt:Ext o af:=(X.trans (F.trans (B.trans ac))).more ag λq b=>by
  have b:w.size=q:=by simpa [Sl.ag] using b
  omega
 have b9:=Aj Z;have aC:=ag.ag (ab.ag G λh=>h) λaE=>by
  have aE:w.size=a8:=by simpa [Sl.ag] using aE
  omega
 refine AL.mk (n:=Cw c t.1) (AO aC rfl) (AL.mk (n:=dP t.2) (AB aC rfl) (aj.mk λaF _ bu ai ca=>?_));have bv:View Be aF ⟨some ⟨af.size,0,none⟩,1,1⟩ [⟨Cw c t.1,dP t.2,false⟩]:=(Own.lit (E:=Be) (l:= [⟨Cw c t.1,dP t.2,false⟩]) bu rfl (by simp[maxLen])).view;have aG:=bt.trans ai;have aH:=e.dA (O':=λq=>(O q\/(h.size<=q/\q<j.size))\/(o.size<=q/\q<aF.size)) aG.mod λq b=>b
 have cb:=ai.size;have ub:=e.ub c;have row:=e.q.cR am r (t:=t) (by rw[S];simp);have bw:=AVo (c:=c) (t:=t) (e.own c r).1.2 z row;refine aH.w.w.change (i:=0) (x:=y0) (conds:=⟨some ⟨af.size,0,none⟩,1,1⟩) (sl:=br) (cl:= [⟨Cw c t.1,dP t.2,false⟩]) (lp:=jx c t) E rfl (by omega) (by omega) (by omega) (by omega) (by omega) bv (by simp) (aA.view.ext ai) (λ_ q b=> .inr (.inr ?_)) (λq b=>by
  rw[List.mem_singleton.1 b];show(Cw c t.1).size<=_;rw[ND];decide) (λbx=>absurd bx (e.own c r).1.1) (λ_ aI=>by rw[(e.own c r).1.2] at aI;cases aI) (λ_ _ hd=>absurd bw hd) λ_ _ _ cc bz aJ=>⟨_,rfl,ae.no rfl ?_⟩
 ·have:=aA.lt b;refine⟨?_,by omega⟩;rcases bs q b with h|h
  ·have h:w.size=q:=by simpa [Sl.ag] using h
   omega
  ·omega
 rw[Ab (by omega)];have aK:=(aH.go r S (by omega) bz).less (O':=λq=>O q\/(h.size<=q/\q<j.size)) λq b=> .inl b
 rw[ATN,<-AOY,<-aX] at aK;refine aS (8-(d+1)) _ _ (by omega) ⟨d+1,_,rfl,rfl,al,aK,J.trans (aG.mod.trans (aJ.ak λq _ b=>aR.less b λq N=> .inl N)),by have:=aJ.size;omega,λn bA=>?_⟩;rw[Oa am,ak n bA];have:F7 (G8 n) (jx c t)= []:=List.filter_eq_nil_iff.2 λp bB b=>by
  have aL:BG p.key=109:=mT b;rcases uF c t p bB with h|h<;>rw[h] at aL<;>cases aL
 rw[this];rfl
end
abbrev nF(p:Option Nat):J0:=J5 (p.map λq=>⟨q,0,none⟩)
structure fP where
 b:Nat
 s:Nat
 a:Nat
 hb:Nat
 sh:Nat
 nt:Nat
 now:Int
abbrev xw(x:fP)(a:Nat):Array J0:= #[Ar x.b,Ar x.s,Ar x.a,J4 (some ⟨x.hb,0,none⟩) a a,J6 J9 (x.sh:Int),J6 J9 x.now,Ar x.nt,J3 false]
structure Wo (h:aa) (w:Nat) (x:fP) (ps:List (Option Nat)):Prop where
 cell:h[w]? =some (J2 (xw x ps.length) Ib (0,0))
 host:h[x.hb]? =some (J2 (ps.map nF).toArray JA (0,0))
 ne:w≠x.hb
section
variable {A : ao} {g h h' : aa} {w : Nat} {x : fP} {ps : List (Option Nat)} {R : A30} {O : Nat -> Prop} {k N : Nat} {l : List Hs} {mp : List Pr}
theorem Wo.mod {a:Nat->Prop}(b:Wo h w x ps)(m:Mod a h h')(c: ¬a w)(d: ¬a x.hb):Wo h' w x ps:=⟨m.ag b.cell c,m.ag b.host d,b.ne⟩
theorem Wo.ext(a:Wo h w x ps)(m:Ext h h'):Wo h' w x ps:=a.mod m (λh=>h) λh=>h
theorem Wo.step(a:Wo h w x ps)(m:Mod (aR g O) h h')(b:O w)(c:O x.hb):Wo h' w x ps:=a.mod m (λh=>h.2 b) λh=>h.2 c
theorem Wo.at(a:Wo h w x ps){i:Nat}{p:Option Nat}(hi:ps[i]? =some p):af h ((⟨x.hb,0,none⟩:Q6).add (((i:Nat):Int).toNat*1))=some (nF p):=by rw[An,AM];exact AB a.host (by rw[Hn,AN,hi];rfl)
theorem Wo.sl(a:Wo h w x ps){K:Sl->Prop}(b:K ⟨some ⟨x.hb,0,none⟩,ps.length,ps.length⟩):AV h ((⟨w,0,none⟩:Q6).add 3) K:=AV.mk (s:=⟨some ⟨x.hb,0,none⟩,ps.length,ps.length⟩) (AB a.cell rfl) b
theorem Wo.ix(b:Wo h w x ps){i:Nat}{p:Option Nat}(hi:ps[i]? =some p){K:Q6->Prop}(a:K ⟨x.hb,0,none⟩):aS (some ⟨x.hb,0,none⟩) ps.length (i:Int) K:=
 ⟨_,rfl,⟨by omega,by have:=(List.getElem?_eq_some_iff.1 hi).1;omega⟩,a⟩
theorem Wo.put(W:Wo h w x ps){i:Nat}{p q:Option Nat}(hi:ps[i]? =some p){K:aa->Prop}(b: ∀h',Wo h' w x (ps.set i q)->Mod (· =x.hb) h h'->K h'):ab h ((⟨x.hb,0,none⟩:Q6).add (((i:Nat):Int).toNat*1)) (nF q) K:=by
 rw[An,AM];refine ab.dx W.host (by have:=(List.getElem?_eq_some_iff.1 hi).1;simpa using this) λc d a e=>b c ⟨?_,?_,W.ne⟩ a
 ·rw[G0];exact a.ag W.cell W.ne
 ·rw[d,Is];simp
theorem qL {i p:Nat}(a:Wo h w x ps)(hi:ps[i]? =some (some p))(b:R (J1 #[Ar p,J6 J9 0]) h):AA A P Gz #[Ar w,J6 J9 (i:Int)] h R:=by
 have d:=(List.getElem?_eq_some_iff.1 hi).1;refine AAQ ?_;unfold Qw;refine ah.mk λK c=>ae.no rfl (ae.no (decide_eq_false (by omega)) (aA (a.sl (ae.no (decide_eq_false (by show ¬((ps.length:Nat):Int)<=(i:Int);omega)) (aA (a.sl (a.ix hi (AY.mk (a.at hi) (c _ _ ?_)))))))))
 exact ae.no rfl (aA (Aa.mk (AB a.cell rfl) (ae.no rfl (aA (a.sl (a.ix hi (AY.mk (a.at hi) b)))))))
theorem qM(t:cW h){i:Nat}(hi:i<=1000)(b: ∀h',Ext h h'->R (J7 (cn i)) h'):AA A P La #[J6 J9 (i:Int)] h R:=by
 refine AFK ?_;unfold ZN;rw[if_neg (by omega)];refine WC t (by omega) (by omega) λc d=>⟨_,rfl,?_⟩
 rw[Lib.itoa_nonneg];have a:=pg i hi;unfold cn jY at a;rw[F0] at a;refine⟨by rw[max_i64];show(((⟨#[104,111,115,116]⟩:A31).size+(Ad (Lib.decDigits i)).size:Nat):Int)<=_;omega,?_⟩;exact b c d
theorem ARf {a:Int}(b:a≠30){w:Q2}(c:R (J6 J9 a) h):AA A P Fu #[J5 w,J6 J9 a] h R:=by refine Wn ?_;unfold Pe;exact ah.mk λK d=>ae.no (by simpa using b) (d _ _ c)
theorem xy {i:Nat}(hi:i<8):Am (cn i)=true:=by
 unfold cn;rw[Lib.decDigits_one (by omega)];have: ∀a,a<8->Am (jY++Ad [UInt8.ofNat (48+a)])=true:=by decide
 exact this i hi
theorem xA {i:Nat}(t:bL g)(n:LW Ni g h x.s k N x.sh l mp O)(a:Wo h w x ps)(hi:ps[i]? =some none)(u:1<=x.sh/\x.sh<=16)(F:ps.length<=8)(ow:O w)(v:O x.hb)
  (y: ∀h' p b d,LW Ni g h' x.s k N x.sh (l++ [⟨p,b,d,cn i,λ_=>0,λ_=>0⟩]) mp O->Wo h' w x (ps.set i (some p))->Mod (· =x.hb) h h'->R (J6 J9 0) h'):AA A P Fs #[Ar w,J6 J9 (i:Int)] h R:=by
 have G:=(List.getElem?_eq_some_iff.1 hi).1;refine Wy ?_;unfold PQ;refine ah.mk λK z=>ae.no rfl (ae.no (decide_eq_false (by omega)) (aA (a.sl (ae.no (decide_eq_false (by show ¬((ps.length:Nat):Int)<=(i:Int);omega)) (aA (a.sl (a.ix hi (AY.mk (a.at hi) (z _ _ ?_)))))))))
 refine ae.no rfl (aA (Aa.mk (AB a.cell rfl) (ae.no rfl (aA (AY.mk (AB a.cell rfl) (aA (AC.mk (AB a.cell rfl) (qM (t.ext n.ext).dB (by omega) λH e=>⟨_,rfl,?_⟩))))))));have f:=a.ext e;refine⟨AB f.cell rfl,AB f.cell rfl,(n.on e).host (xy (by omega)) u λB p b d C o=>⟨_,_,rfl,?_⟩⟩;have j:=f.ext o;refine aA (j.sl (j.ix hi (j.put (q:=some p) hi λr D s=>?_)));have E:Mod O B r:=s.ak λc _ m=>by subst m;exact v
 exact y r p b d (C.own E λc m=> .inl m) D ((e.mod.trans o.mod).trans s)
theorem AQY {i p:Nat}(a:Wo h w x ps)(hi:ps[i]? =some (some p))(b: ∀h',Wo h' w x (ps.set i none)->Mod (· =x.hb) h h'->R (J6 J9 0) h'):AA A P Gv #[Ar w,J6 J9 (i:Int)] h R:=by
 have d:=(List.getElem?_eq_some_iff.1 hi).1;refine UH ?_;unfold N7;refine ah.mk λK c=>ae.no rfl (ae.no (decide_eq_false (by omega)) (aA (a.sl (ae.no (decide_eq_false (by show ¬((ps.length:Nat):Int)<=(i:Int);omega)) (aA (a.sl (a.ix hi (AY.mk (a.at hi) (c _ _ ?_)))))))))
 exact ae.no rfl (aA (a.sl (a.ix hi (a.put (q:=none) hi b))))
theorem AOX {i p b c:Nat}{a:Hs}(d:LW Ni g h x.s k N x.sh l mp O)(e:Wo h w x ps)(hi:ps[i]? =some (some p))(f:l[c]? =some a)(j:a.p=p)(m:R (J6 J9 (a.f b:Int)) h):AA A P Gu #[Ar w,J6 J9 (i:Int),J6 J9 (b:Int)] h R:=by refine UN ?_;unfold Nn;refine qL e hi ⟨_,_,rfl,ae.no rfl ?_⟩;rw[<- j];exact d.holds f ⟨_,rfl,m⟩
end
abbrev bA(ps:List (Option Nat)):List Bool:=ps.map Option.isSome
def cD(l:List Hs)(ix:Nat->Nat)(i m:Nat):Nat:=match l[ix i]? with|some a=>a.f m|none=>0
abbrev dL:=Nat->Nat×A31
structure WW (g hh:aa) (w:Nat) (x:fP) (ps:List (Option Nat)) (k:Nat) (l:List Hs) (mp:List Pr) (O:Nat->Prop) (ix:Nat->Nat) (Ls:dL):Prop where
 lw:LW Ni g hh x.s k k x.sh l mp O
 wo:Wo hh w x ps
 own:O w/\O x.hb
 tie: ∀(i p:Nat),ps[i]? =some (some p)-> ∃y,l[ix i]? =some y/\y.p=p/\y.name=cn i
 ls: ∀m,m<x.sh->Gp mp m (Ls m).1 (Ls m).2
 le: ∀m,m<x.sh->(Ls m).1<=k
 sh:1<=x.sh/\x.sh<=16
 n:ps.length<=8
 all: ∀y∈l,∀m,y.u m<=3*k/\y.f m<=k
 em:I4 mp (λ_=>none) (λ_=>none)
 row: ∀q,BG q≠108->Ac q mp=none
def dv(up:List Bool)(ix:Nat->Nat)(l:List Hs)(Ls:dL)(m:Nat):Option Nat:=
 match Fx up m with
 |none=>none
 |some i=>if(Ls m).2=cn i/\(Ls m).1=cD l ix i m then none else some i
structure Sp (up:List Bool) (ix:Nat->Nat) (l l':List Hs) (Ls Ls':dL) (m:Nat):Prop where
 stay:dv up ix l Ls m=none->Ls' m=Ls m/\ ∀i,up[i]? =some true->cD l' ix i m=cD l ix i m
 goes: ∀i,dv up ix l Ls m=some i->Ls' m=((Ls m).1+1,cn i)/\cD l' ix i m=(Ls m).1+1
def Ku(up:List Bool)(ix:Nat->Nat)(l:List Hs)(Ls:dL)(a:Nat):Nat:=((List.range a).filter λm=>(dv up ix l Ls m).isSome).length
theorem MJ(up:List Bool)(ix:Nat->Nat)(l:List Hs)(Ls:dL)(n:Nat):Ku up ix l Ls (n+1)=Ku up ix l Ls n+if(dv up ix l Ls n).isSome then 1 else 0:=by unfold Ku;rw[N5,Lz,A1];congr 1;cases a:(dv up ix l Ls n).isSome<;>simp[a]
theorem qR(up:List Bool)(ix:Nat->Nat)(l:List Hs)(Ls:dL)(a:Nat):Ku up ix l Ls a<=a:=by unfold Ku;have:=Iv (λm=>(dv up ix l Ls m).isSome) (List.range a);rwa [Ix] at this
theorem Sa {ps:List (Option Nat)}{i:Nat}:(bA ps)[i]? =some true↔ ∃p,ps[i]? =some (some p):=by
 rw[AN];cases h:ps[i]? with
 |none=>simp
 |some a=>cases a<;>simp
section
variable {A : ao} {g h : aa} {w : Nat} {x : fP} {ps : List (Option Nat)} {R : A30} {O : Nat -> Prop} {k : Nat} {l : List Hs} {mp : List Pr} {ix : Nat -> Nat} {Ls : dL}
theorem WW.dA {a:aa}{O':Nat->Prop}(b:WW g h w x ps k l mp O ix Ls)(d:Mod O h a)(e:Wo a w x ps)(f: ∀c,O' c->O c\/(h.size<=c/\c<a.size))(i:O' w/\O' x.hb):WW g a w x ps k l mp O' ix Ls:=
 {b with lw:=b.lw.own d f,wo:=e,own:=i}
theorem WW.on {b:aa}(a:WW g h w x ps k l mp O ix Ls)(m:Ext h b):WW g b w x ps k l mp O ix Ls:= {a with lw:=a.lw.on m,wo:=a.wo.ext m}
theorem WW.less {O':Nat->Prop}(a:WW g h w x ps k l mp O ix Ls)(b: ∀c,O' c->O c)(d:O' w/\O' x.hb):WW g h w x ps k l mp O' ix Ls:= {a with lw:=a.lw.less b,own:=d}
theorem WW.up {a:Nat}(b:WW g h w x ps k l mp O ix Ls)(c:k<=a)(i:a<=500):WW g h w x ps a l mp O ix Ls:=
 {b with lw:=b.lw.put c (by show 64*a<=32000;omega) c (by omega),le:=λm d=>by have:=b.le m d;omega,all:=λe f m=>by have:=b.all e f m;omega}
theorem WW.acquire {i p m:Nat}(H:bL g)(b:WW g h w x ps k l mp O ix Ls)(hi:ps[i]? =some (some p))(v:m<x.sh)(Q:k+1<=490)
  (I: ∀n s J y,WW g n w x ps (k+1) s J O ix y->y m=((Ls m).1+1,cn i)->cD s ix i m=(Ls m).1+1->(∀ a,a≠m->y a=Ls a/\ ∀d,cD s ix d a=cD l ix d a)->s.length=l.length->Mod (aR g O) h n->R (J1 #[J6 J9 (((Ls m).1+1:Nat):Int),J6 J9 0]) n):
  AA A P Ey #[Ar p,J6 J9 (m:Int)] h R:=by
 obtain⟨f,o,rfl,C⟩:=b.tie i p hi;have D:=(List.getElem?_eq_some_iff.1 o).1;have t:=b.lw.sorted;have S:=b.le m v;have T:=b.sh;have K:Am f.name=true:=by rw[C];exact xy (by have:=(List.getElem?_eq_some_iff.1 hi).1;have:=b.n;omega)
 have U:Ni.A=1600:=rfl;have V:Ni.C=32000:=rfl;refine b.lw.acquire H o v (b.ls m v) (by omega) (by omega) (by omega) (by omega) (by omega) λn L E=>?_
 have F: ∀d a,cD (l.set (ix i) (f.mw m ((Ls m).1+1))) ix d a=if ix d=ix i/\a=m then(Ls m).1+1 else cD l ix d a:=λd a=>by
  unfold cD;by_cases c:ix d=ix i
  ·rw[c,DM D,o];show dw f.f m ((Ls m).1+1) a=_;unfold dw;by_cases e:a=m
   ·rw[if_pos e,if_pos ⟨rfl,e⟩]
   ·rw[if_neg e,if_neg λh=>e h.2]
  ·rw[DP λB=>c B.symm,if_neg λh=>c h.1]
 refine I n _ _ (λa=>if a=m then((Ls m).1+1,cn i) else Ls a) ⟨L,b.wo.step E b.own.1 b.own.2,b.own,λd q M=>?_,λa j=>?_,λa j=>?_,b.sh,b.n,λz r a=>?_,b.em.aM t λq u=>?_,λq u=>?_⟩ (if_pos rfl) ?_ (λa j=>⟨if_neg j,λd=>?_⟩) (G0 ..) E
 ·obtain⟨z,r,G,e⟩:=b.tie d q M;by_cases c:ix d=ix i
  ·rw[c,o] at r;cases r;exact⟨f.mw m ((Ls m).1+1),by rw[c];exact DM D,G,e⟩
  ·exact⟨z,by rw[DP λB=>c B.symm];exact r,G,e⟩
 ·by_cases c:a=m
  ·subst c;rw[if_pos rfl,<-C];exact Gp.laid t (by omega) (by omega) K
  ·rw[if_neg c];exact(b.ls a j).other t λe=>c (ALQ (by omega) (by omega) e).symm
 ·by_cases c:a=m
  ·subst c;rw[if_pos rfl];show(Ls a).1+1<=_;omega
  ·rw[if_neg c];have:=b.le a j;omega
 ·rcases OS r with h|rfl
  ·have:=b.all z h a;omega
  ·have:=b.all f (AG o) a;show dw f.u m 0 a<=_/\dw f.f m ((Ls m).1+1) a<=_;unfold dw;constructor<;>split<;>omega
 ·rw[List.mem_singleton.1 u];show BG (CQ m)≠104/\BG (CQ m)≠119/\BG (CQ m)≠114;rw[Sd];decide
 ·rw[KP t λp N c=>u (by rw[<- c,List.mem_singleton.1 N];exact Sd m)];exact b.row q u
 ·rw[F,if_pos ⟨rfl,rfl⟩]
 ·rw[F,if_neg λh=>j h.2]
theorem ASv {b:Nat}{e:A31}(j:Wo h w x ps)(E:ps.length<=8)(r:h[b]? =some (J2 #[J7 e] A9 (0,0)))
  (u:(∀ i:Nat,i<ps.length->ps[i]? =some none)->R (J6 J9 (-1)) h) (v:e≠⟨#[]⟩-> ∀i p:Nat,ps[i]? =some (some p)->(∀ a,a<i->ps[a]? =some none)->R (J6 J9 (i:Int)) h) (y:e=⟨#[]⟩-> ∀i p:Nat,ps[i]? ≠some (some p)):
  AA A P Cm #[J4 (some ⟨x.hb,0,none⟩) ps.length ps.length,(.func (.func IL) #[] #[J5 (some ⟨b,0,none⟩)])] h R:=by
 refine GD (s:=⟨some ⟨x.hb,0,none⟩,ps.length,ps.length⟩) ?_;unfold Dn;refine Loop.rule (λm z B=> ∃a:Nat,z=((a:Int),())/\m=ps.length-a/\a<=ps.length/\B=h/\ ∀t,t<a->ps[t]? =some none) ?_ ⟨0,rfl,rfl,A6 _,rfl,λt C=>by omega⟩;rintro K m _ _ ⟨a,rfl,rfl,F,rfl,f⟩ D;dsimp only;refine ae.intro (λc=>?_) (λc=>?_)
 ·have c:a<ps.length:=by have:=of_decide_eq_true c;omega
  have af:ps[a]? =some ps[a]:=A2 c;generalize ps[a]=n at af;refine j.ix af (AY.mk (j.at af) (Er.func (first:= #[]) (bN:= #[J5 (some ⟨b,0,none⟩)]) (by kernel_rfl) (RO (h1:=n.map λq=>⟨q,0,none⟩) ?_)));unfold LD;cases n with
  |none=>
   refine ae.no rfl ⟨_,rfl,ae.no rfl ?_⟩;rw[Ab (by omega)];refine D (ps.length-(a+1)) _ _ (by omega) ⟨a+1,rfl,rfl,c,rfl,λt C=>?_⟩;by_cases d:t=a
   ·rw[d];exact af
   ·exact f t (by omega)
  |some p=>
   have o:e≠⟨#[]⟩:=λd=>y d a p af
   refine ae.yes rfl (aA (AL.mk (AO r rfl) ⟨_,rfl,ae.yes ?_ (v o a p af f)⟩));cases d:bD e ⟨#[]⟩ with
   |false=>rfl
   |true=>rw[Bj] at d;exact absurd (of_decide_eq_true d) o
 ·have c:a=ps.length:=by have:=of_decide_eq_false c;omega
  subst c;exact u λi hi=>f i hi
end
theorem qS {up:List Bool}{ix:Nat->Nat}{l a:List Hs}{Ls b:dL}{m:Nat}(d:b m=Ls m)(e: ∀c,cD a ix c m=cD l ix c m):dv up ix a b m=dv up ix l Ls m:=by unfold dv;rw[d];simp only[e]
theorem Sp.then {up:List Bool}{ix:Nat->Nat}{l b c:List Hs}{Ls d e:dL}{m:Nat}(s:Sp up ix l b Ls d m)(f:e m=d m)(j: ∀n,cD c ix n m=cD b ix n m):Sp up ix l c Ls e m:=
 ⟨λa=>⟨f.trans (s.stay a).1,λi hi=>(j i).trans ((s.stay a).2 i hi)⟩,λi a=>⟨f.trans (s.goes i a).1,(j i).trans (s.goes i a).2⟩⟩
theorem Sp.from {up:List Bool}{ix:Nat->Nat}{l c d:List Hs}{Ls e f:dL}{m:Nat}(s:Sp up ix c d e f m)(a:e m=Ls m)(j: ∀n,cD c ix n m=cD l ix n m):Sp up ix l d Ls f m:=by
 have o:=qS (up:=up) a j;refine⟨λb=>?_,λi b=>?_⟩
 ·have:=s.stay (o.trans b);exact⟨this.1.trans a,λi hi=>(this.2 i hi).trans (j i)⟩
 ·have:=s.goes i (o.trans b);rw[a] at this;exact this
theorem Sp.oT {up:List Bool}{ix:Nat->Nat}{l:List Hs}{Ls:dL}{m:Nat}(h:dv up ix l Ls m=none):Sp up ix l l Ls Ls m:=
 ⟨λ_=>⟨rfl,λ_ _=>rfl⟩,λi a=>by rw[h] at a;cases a⟩
theorem AOu {up:List Bool}{ix:Nat->Nat}{l:List Hs}{Ls:dL}{n:Nat}: ∀ {m:Nat},m<n->Ku up ix l Ls (m+1)<=Ku up ix l Ls n:=by
 induction n with
 |zero=>intro m h;omega
 |succ n b=>
  intro m h;rcases CC m n with a|a
  ·have:=b a;rw[MJ (n:=n)];omega
  ·rw[show m=n by omega];exact A0 _
theorem ARs {ps:List (Option Nat)}{a:Nat}{b:Option Nat}(h:ps[a]? =some b):Kv ((bA ps).take (a+1))=Kv ((bA ps).take a)++if b.isSome then [a] else []:=by
 have d:=(List.getElem?_eq_some_iff.1 h).1;have c:(bA ps)[a]? =some b.isSome:=by rw[AN,h];rfl
 rw[AE,c];show Kv ((bA ps).take a++ [b.isSome])=_;rw[tN,AD,AF,Ft (by omega)]
section
variable {A : ao} {g h : aa} {w : Nat} {x : fP} {ps : List (Option Nat)} {R : A30} {O : Nat -> Prop} {k : Nat} {l : List Hs} {mp : List Pr} {ix : Nat -> Nat} {Ls : dL}
theorem qT(E:bL g)(z:WW g h w x ps k l mp O ix Ls)(bx:k+Ku (bA ps) ix l Ls x.sh<=490)
  (aX: ∀d ar aY aH,WW g d w x ps (k+Ku (bA ps) ix l Ls x.sh) ar aY O ix aH->(∀ m,m<x.sh->Sp (bA ps) ix l ar Ls aH m)->ar.length=l.length->Mod (aR g O) h d->R (J1 #[J6 J9 ((Ku (bA ps) ix l Ls x.sh:Nat):Int),J6 J9 0]) d):
  AA A P FC #[Ar w] h R:=by
 have bz:=z.sh;have X:=z.n;refine Tj ?_;unfold NM;refine ae.no rfl (aA (Aa.mk (AB z.wo.cell rfl) (ae.no rfl (aA (z.wo.sl ?_)))));refine Loop.rule (λF v t=> ∃(a:Nat) (s:Sl),v=(s,(a:Int),())/\F=ps.length-a/\a<=ps.length/\Own Ih A9 t s ((Kv ((bA ps).take a)).map cn)/\Ext h t/\ ∀b,s.ag=some b->h.size<=b) ?_ ⟨0,⟨none,0,0⟩,rfl,rfl,A6 _,Own.nil,Mod.refl,λb u=>by simp[Sl.ag] at u⟩;rintro K F _ t ⟨a,s,rfl,rfl,aZ,T,M,Y⟩ aI;dsimp only;have U:=z.on M;refine ae.intro (λf=>?_) (λf=>?_)
 ·have f:a<ps.length:=by have:=of_decide_eq_true f;omega
  have af:ps[a]? =some ps[a]:=A2 f;generalize ps[a]=a0 at af;have aJ:=ARs af;refine ah.mk λbB aK=>U.wo.ix af (AY.mk (U.wo.at af) ?_)
  cases a0 with
  |none=>
   refine ae.no rfl (aK _ _ ?_);dsimp only;rw[Ab (by omega)];exact aI (ps.length-(a+1)) _ _ (by omega) ⟨a+1,s,rfl,rfl,f,by rw[aJ];simpa using T,M,Y⟩
  |some p=>
   refine ae.yes rfl (qM (E.ext U.lw.ext).dB (by omega) λbC au=>⟨_,rfl,?_⟩);have bE:((Kv ((bA ps).take a)).map cn).length<=8:=by rw[AF];unfold Kv;rw[AF];have:=Iv (λx:Bool×Nat=>x.1) (((bA ps).take a).zipIdx);rw[RT,AD] at this;omega
   refine aj.aU (E:=Ih) (x:=cn a) (s:=s) rfl tB (T.ext au) (by omega) (by simp only[maxLen];omega) λa1 bF a2 a3 a4 _=>aK _ _ ?_
   dsimp only;rw[Ab (by omega)];refine aI (ps.length-(a+1)) _ _ (by omega) ⟨a+1,a1,rfl,rfl,f,by rw[aJ,Bs];exact a2,(M.trans au).more a3 λc y=>Y c y,λb u=>?_⟩;rcases a4 b u with o|o
   ·exact Y b o
   ·have:=M.size;have:=au.size;omega
 have a5:a=ps.length:=by have:=of_decide_eq_false f;omega
 subst a5;rw[As (by rw[AF];exact A0 _)] at T;have a6:WW g t w x ps k l mp (λc=>O c\/(h.size<=c/\c<t.size)) ix Ls:=z.dA (M.ak λ_ _ h=>h.elim) U.wo (λc y=>y) ⟨.inl z.own.1,.inl z.own.2⟩;have a7: ∀b,s.ag=some b->h.size<=b/\b<t.size:=λb u=>⟨Y b u,T.lt u⟩
 have nl: ∀v∈(Kv (bA ps)).map cn,v.size<=1099511627776:=λv a8=>by
  obtain⟨i,hi,rfl⟩:=List.mem_map.1 a8;obtain⟨p,V⟩:=Sa.1 (TB.1 hi);have:=pg i (by have:=(List.getElem?_eq_some_iff.1 V).1;omega);have:(24:Nat)<=1099511627776:=by decide
  omega
 have nn:((Kv (bA ps)).map cn).length<=1099511627776:=by
  rw[AF];unfold Kv;rw[AF];have:=Iv (λx:Bool×Nat=>x.1) ((bA ps).zipIdx);rw[RT,AF] at this;have:(8:Nat)<=1099511627776:=by decide
  omega
 refine aA (AC.mk (n:=(x.sh:Int)) (AB U.wo.cell rfl) ?_);refine Loop.rule (λF v d=> ∃(m:Nat) (j:List Hs) (Z:List Pr) (e:dL),v=(((Ku (bA ps) ix l Ls m:Nat):Int),(m:Int),())/\F=x.sh-m/\m<=x.sh/\WW g d w x ps (k+Ku (bA ps) ix l Ls m) j Z (λc=>O c\/(h.size<=c/\c<t.size)) ix e/\(∀ n,n<m->Sp (bA ps) ix l j Ls e n)/\(∀ n,m<=n->e n=Ls n/\ ∀a,cD j ix a n=cD l ix a n)/\j.length=l.length/\Mod (aR g (λc=>O c\/(h.size<=c/\c<t.size))) t d) ?_
  ⟨0,l,mp,Ls,rfl,rfl,A6 _,a6,λn X=>by omega,λn _=>⟨rfl,λ_=>rfl⟩,rfl,Mod.refl⟩
 rintro bG F _ ac ⟨m,j,Z,e,rfl,rfl,bH,av,aL,un,aM,aw⟩ a9;dsimp only;have y:=qR (bA ps) ix l Ls m;refine ae.intro (λf=>?_) (λf=>?_);rotate_left
 ·have ba:m=x.sh:=by have:=of_decide_eq_false f;omega
  subst ba;exact aX ac j Z e (av.less (λc y=> .inl y) z.own) aL aM (M.mod.trans (aw.ak λc _ y=>⟨y.1,λh=>y.2 (.inl h)⟩))
 have f:m<x.sh:=by have:=of_decide_eq_true f;omega
 refine ah.mk λaN bb=>?_
 have next: ∀ {d:aa} {G:List Hs} {ag:List Pr} {N:dL} {c:Nat},WW g d w x ps (k+c) G ag (λc=>O c\/(h.size<=c/\c<t.size)) ix N->Sp (bA ps) ix j G e N m->(∀ n,n≠m->N n=e n/\ ∀a,cD G ix a n=cD j ix a n)->G.length=j.length->Mod (aR g (λc=>O c\/(h.size<=c/\c<t.size))) ac d->c=Ku (bA ps) ix l Ls m+(if(dv (bA ps) ix j e m).isSome then 1 else 0)->aN (((c:Nat):Int),()) d:=λ{d G ag N c} ax S' W len ay aO=>by
  have H:=un m (A0 _);rw[qS H.1 H.2,<-MJ] at aO;subst aO;refine bb _ _ ?_;dsimp only;rw[Ab (by omega)];refine a9 (x.sh-(m+1)) _ _ (by omega) ⟨m+1,G,ag,N,rfl,rfl,f,ax,λn X=>?_,λn X=>?_,len.trans aM,aw.trans ay⟩
  ·by_cases B:n=m
   ·subst B;exact S'.from H.1 H.2
   ·exact(aL n (by omega)).then (W n B).1 (W n B).2
  ·have o:=W n (by omega);have I:=un n (by omega);exact⟨o.1.trans I.1,λa=>(o.2 a).trans (I.2 a)⟩
 have bc:View Ih ac s ((Kv (bA ps)).map cn):=T.view.mod aw λb u h=>h.2 (.inr (a7 b u))
 refine ATb (E.ext av.lw.ext).dB (by omega) λbI aP=>⟨_,rfl,AQr (bc.ext aP) nl nn ?_ λaQ bd=>⟨_,rfl,aj.mk λbJ _ be bf bK=>ab.mk be (by simp) λJ aS bg bM=>?_⟩⟩
 ·rw[if_neg (by omega)];have:=Lib.itoa_length_le (m:Int) (by omega) (by omega);rw[F0];show 6+(Lib.itoa (m:Int)).toArray.size<=1099511627776;have:(26:Nat)<=1099511627776:=by decide
  simp only[List.size_toArray];omega
 rw[if_neg (by omega)] at aS;have az:Ext ac J:=(aP.trans bd).trans (bf.more bg λc y=>by omega);have ai:J[aQ.size]? =some (J2 #[J7 (dC (bA ps) m)] A9 (0,0)):=by unfold dC ph;simpa using aS
 have Q:=av.on az;have bN:aQ.size<J.size:=by omega
 have ax: ∀ {d:aa},Ext J d->WW g d w x ps (k+Ku (bA ps) ix l Ls m) j Z (λc=>O c\/(h.size<=c/\c<t.size)) ix e:=λak=>Q.on ak
 have aT: ∀ {d:aa},Ext J d->dv (bA ps) ix j e m=none->aN (((Ku (bA ps) ix l Ls m:Nat):Int),()) d:=λ{d} ak D=>
  next (ax ak) (Sp.oT D) (λn _=>⟨rfl,λ_=>rfl⟩) rfl ((az.trans ak).mod) (by rw[D];rfl)
 have aU: ∀ {i p:Nat},ps[i]? =some (some p)-> ∃r S,Fx (bA ps) m=some r/\ps[r]? =some (some S)/\cn r=dC (bA ps) m:=λ{i p} hi=>by
  cases B:Fx (bA ps) m with
  |none=>
   have o:=Vv B;have I:=TB.2 (Sa.2 ⟨p,hi⟩);rw[o] at I;cases I
  |some r=>
   obtain⟨o,I⟩:=Gy B;obtain⟨S,C⟩:=Sa.1 o;exact⟨r,S,rfl,C,I⟩
 refine aA (Q.wo.sl (ASv Q.wo X ai (λbh=>⟨_,rfl,?_⟩) (λ_ i p hi first=>⟨_,rfl,?_⟩) λbi i p hi=>?_))
 ·refine Loop.rule (λ_ v d=>v=((-1:Int),())/\d=J) ?_ (m:=0) ⟨rfl,rfl⟩;rintro bj _ _ _ ⟨rfl,rfl⟩ aV;refine ah.mk λbk aC=>ae.no (by decide) (aC _ _ (ae.no rfl (ae.yes (by decide) (aT Mod.refl ?_))))
  have:Fx (bA ps) m=none:=tO (List.eq_nil_iff_forall_not_mem.2 λi hi=>by
   obtain⟨p,V⟩:=Sa.1 (TB.1 hi);rw[bh i (List.getElem?_eq_some_iff.1 V).1] at V;cases V)
  unfold dv;rw[this]
 ·obtain⟨r,S,aD,C,al⟩:=aU hi;have bO:=(List.getElem?_eq_some_iff.1 C).1;have bm:i<=r:=N6 λh=>by rw[first r h] at C;cases C
  refine Loop.rule (λF v d=> ∃a:Nat,v=((a:Int),())/\F=r-a/\a<=r/\Ext J d) ?_ ⟨i,rfl,rfl,bm,Mod.refl⟩;rintro bj _ _ bP ⟨a,rfl,rfl,aZ,am⟩ aV;have bn:=Q.on am;refine ah.mk λbk aC=>ae.yes (decide_eq_true (by show(0:Int)<=_;omega)) (AL.mk (AO (am.ag ai λh=>h) rfl) (qM (E.ext bn.lw.ext).dB (by omega) λbQ aW=>⟨_,rfl,AO ((am.trans aW).ag ai λh=>h) rfl,aC _ _ ?_⟩))
  have an:=am.trans aW;have L:=Q.on an;by_cases B:a=r
  ·subst B;refine ae.no (by show(!bD _ _)=false;rw[Bj,decide_eq_true al];rfl) (ae.no (decide_eq_false (by show ¬((a:Nat):Int)<0;omega)) (aA (L.wo.sl (L.wo.ix C (AY.mk (L.wo.at C) ?_)))));obtain⟨ao,aE,rfl,bR⟩:=L.tie a S C;have bo:cD j ix a m=ao.f m:=by unfold cD;rw[aE]
   have dn:dv (bA ps) ix j e m=if(e m).2=cn a/\(e m).1=ao.f m then none else some a:=by unfold dv;rw[aD,<-bo]
   refine L.lw.look aE f (L.ls m f) λbp aF=>⟨_,_,_,rfl,ae.no rfl (ah.mk λbq br=>AL.mk (AO ((an.trans aF).ag ai λh=>h) rfl) ?_)⟩
   have aG:=an.trans aF;have key: ∀ap:Bool,(ap=true↔(e m).2=cn a/\(e m).1=ao.f m)->bq (ap,()) bp:=λap u=>by
    refine br _ _ (ae.intro (λq=>?_) (λq=>?_))
    ·exact aT aG (by rw[dn,if_pos (u.1 q)])
    ·have q:ap=false:=q;have bs: ¬((e m).2=cn a/\(e m).1=ao.f m):=λh=>by rw[u.2 h] at q;cases q
     have aq:dv (bA ps) ix j e m=some a:=by rw[dn,if_neg bs]
     have bt:k+Ku (bA ps) ix l Ls m+1<=490:=by have o:=AOu (up:=bA ps) (ix:=ix) (l:=l) (Ls:=Ls) f;have H:=un m (A0 _);rw[MJ,<-qS H.1 H.2,aq] at o;have o:Ku (bA ps) ix l Ls m+1<=Ku (bA ps) ix l Ls x.sh:=o;omega
     refine(Q.on aG).acquire E C f bt λbS G ag N bu bv bw W len ay=>⟨_,_,rfl,ae.no rfl ?_⟩
     rw[Ab (by omega)];refine next bu ⟨λD=>(by rw[aq] at D;cases D),λi D=>?_⟩ W len (((az.trans aG).mod).trans ay) (by rw[aq];rfl)
     rw[aq] at D;cases D;exact⟨bv,bw⟩
   refine ae.intro (λq=>?_) (λq=>key false ?_)
   ·have q:bD (e m).2 (dC (bA ps) m)=true:=q;rw[Bj,<-al] at q;have q:=of_decide_eq_true q;refine(L.on aF).lw.holds aE ⟨_,rfl,key _ ?_⟩;rw[beq_iff_eq];exact⟨λh=>⟨q,by omega⟩,λh=>by rw[h.2]⟩
   ·have q:bD (e m).2 (dC (bA ps) m)=false:=q;rw[Bj,<-al] at q;have q:=of_decide_eq_false q;exact⟨λh=>(by cases h),λh=>absurd h.1 q⟩
  ·refine ae.yes (by show(!bD _ _)=true;rw[Bj,<-al,decide_eq_false λh=>B (pd h)];rfl) ?_;dsimp only;rw[Ab (by omega)];exact aV (r-(a+1)) _ _ (by omega) ⟨a+1,rfl,rfl,by omega,an⟩
 ·obtain⟨r,S,aD,-,-⟩:=aU hi;exact absurd bi (ASH aD)
end
section
variable {A : ao} {h : aa} {w : Q2} {i : Int} {R : A30}
end
def xG:cr (Option Nat) where
 w:=1
 enc p:= [nF p]
 len _:=rfl
 pos:=by decide
 one:=λx v a=>by rw[List.mem_singleton.1 a];rfl
theorem xH {z:J0}: ∀(n a:Nat) {b:Array J0},(∀ c,c<n->b[a+c]? =some z)->gW b a (List.replicate n z)=b
 |0,_,_,_=>rfl
 |n+1,a,b,h=>by
  have d:b[a]? =some z:=h 0 (by omega);have f:=(Array.getElem?_eq_some_iff.1 d).1;have e:b.setIfInBounds a z=b:=by
   apply Array.ext_getElem?;intro i;rw[Array.getElem?_setIfInBounds];split
   ·rename_i hi;subst hi;exact d.symm
   ·rfl
  rw[RW];show gW (b.setIfInBounds a z) (a+1) _=_;rw[e];exact xH n (a+1) λc j=>by have:=h (c+1) (by omega);rwa [show a+1+c=a+(c+1) by omega]
theorem AUz {A:ao}{t i T:Q7}{z:J0}(l:P.underlying t=some (.slice T))(m:(zeroValue T).calc P=some z)(o:z.cells= #[z])(p:MH z=true){h:aa}{b n j:Nat}{K:A30}(q:0<n)
  (c:h[b]? =some (J2 (List.replicate n z).toArray T (0,0))) (r: ∀a,a[b]? =some (J2 (List.replicate n z).toArray T (0,0))->Mod (· =b) h a->K (J1 #[]) a):
  Af A P (Builtin.clear_ #[t] i #[J4 (some ⟨b,0,none⟩) n j]) h K:=by
 intro d;have k:=Lib.run_clear_slice (P:=P) (A.at h d) t T i z l (De m) o (Uc p) b 0 n j q
  (λe f=>by
   show(af h ⟨b,0+e,none⟩).isSome=true;rw[JE c,Fl (by simp;omega)];rfl)
  (λe f=>Po c)
 obtain⟨a,s,u,v,w⟩:=cO (A:=A) (List.replicate n z) 0 (n:=d) c;rw[s] at k;refine⟨_,a,d,k,r a ?_ v⟩;rw[u,xH n 0 λe f=>by simp[f]]
section
variable {A : ao} {B : cX} {g h : aa} {R : A30} {O : Nat -> Prop}
theorem LW.jh {sh b:Nat}{Sb:Nat->Prop}{m:Bx}(j:bL g)(k:Dl h b Sb m)(a:Ext g h)(l: ∀c,Sb c->g.size<=c)(n:Calm m)(e:m.files= [])(o: ∀c,O c->g.size<=c/\c<h.size/\ ¬Sb c)
  (p: ∀d s,LW B g d s 0 0 sh [] [] O->Mod (λc=>Sb c\/h.size<=c) h d->h.size<=s->R (J1 #[Ar s,J6 J9 0]) d):AA A P TH #[Ar b] h R:=
 AOn (B:=B) j k a l n e λd s q r t u v G w y f z C=>p d s ⟨q,r,t,u,v,0,w,A0 _,y,⟨λi x a=>by simp at a,λi H x I a=>by simp at a⟩,by omega,λc D=>by
  obtain⟨E,J,F⟩:=o c D;refine⟨Decidable.byContradiction λe=>?_,by have:=f.size;omega,E,by omega,λx a=>by cases a⟩;rcases z c e with h|h
  ·exact F h
  ·omega⟩ f C
abbrev gU(a b:Nat):Nat->Prop:=λq=>q=a\/q=b
theorem ASQ {b f d i nt sh:Nat}{Sb:Nat->Prop}{m:Bx}{l:Int}{F G:Q2}{dn:Bool}(H:bL g)(x:Ext g h)(I:Dl h b Sb m)(J: ∀c,Sb c->g.size<=c)(K:Calm m)(L:m.files= [])
  (n:h[f]? =some (J2 #[Ar b,J5 F,J5 G,J4 (some ⟨d,0,none⟩) i i,J6 J9 (sh:Int),J6 J9 l,Ar nt,J3 dn] Ib (0,0)))
  (u:h[d]? =some (J2 (List.replicate i (J5 none)).toArray JA (0,0))) (ne:f≠d) (M:0<i) (o:g.size<=f/\ ¬Sb f) (p:g.size<=d/\ ¬Sb d)
  (N: ∀k s a,LW Ni g k s 0 0 sh [] [] (gU f d)->Wo k f ⟨b,s,a,d,sh,nt,l⟩ (List.replicate i none)->h.size<=k.size->R (J6 J9 0) k):AA A P KV #[Ar f] h R:=by
 have lw:=Aj n;have Q:=Aj u;refine Wx ?_;unfold PV;refine aA (AY.mk (AO n rfl) (LW.jh (B:=Ni) (sh:=sh) (O:=gU f d) H I x J K L (λc e=>?_) λq s S r ag=>⟨_,_,rfl,ae.no rfl ?_⟩))
 ·rcases e with rfl|rfl
  ·exact⟨o.1,lw,o.2⟩
  ·exact⟨p.1,Q,p.2⟩
 have v:=r.ag n λe=>e.elim o.2 λh=>by omega
 have T:=r.ag u λe=>e.elim p.2 λh=>by omega
 refine aA (AY.mk (AO v rfl) ?_);refine ADw ?_;unfold XV;refine aj.mk λah _ ai t ak=>⟨_,rfl,?_⟩
 have U:=t.ag v λh=>h
 refine aA (ab.bT (j:=1) U (of_decide_eq_true rfl) rfl λal V W am=>aA (ab.bT (j:=2) V (of_decide_eq_true rfl) rfl λan X Y ao=>aA (ab.bT (j:=7) (dT:=xw ⟨b,s,q.size,d,sh,nt,l⟩ i) X (of_decide_eq_true rfl) rfl λap w Z aq=>aA (AV.mk (s:=⟨some ⟨d,0,none⟩,i,i⟩) (AB w rfl) ?_))));have y:=(W.trans Y).trans Z;have aa:=y.ag (t.ag T λh=>h) λac=>ne ac.symm
 refine AUz (z:=J5 none) (by kernel_rfl) (by kernel_rfl) rfl rfl M aa λC af D=>⟨rfl,?_⟩
 have E:Mod (gU f d) q C:=(t.mod.trans (y.ak λc _ e=> .inl e)).trans (D.ak λc _ e=> .inr e);have ar:=r.size;have au:=E.size;refine N C s q.size (S.own E λc e=> .inl e) ⟨?_,?_,ne⟩ (by omega)
 ·rw[PF];exact D.ag w ne
 ·rw[af,List.map_replicate];rfl
theorem AO1 {T:Q7}{h:aa}{b a:Nat}(f:Own xG T h ⟨some ⟨b,0,none⟩,a,a⟩ (List.replicate a none)):h[b]? =some (J2 (List.replicate a (J5 none)).toArray T (0,0)):=by
 rcases f.row with⟨i,-⟩|⟨g,d,j,k,-,-,e,c⟩
 ·cases i
 ·cases j;rw[k];have e:d.size=a*1:=e;have c:d.toList.take (a*1)=_:=c;rw[As (by rw[FG];omega),Zq (v:=J5 none) rfl] at c;rw[<- c]
theorem xI {n sh:Nat}(E:bL h)(ao:1<=n/\n<=8)(ap:1<=sh/\sh<=16)
  (l: ∀d i b s a j nt,LW Ni h d s 0 0 sh [] [] (gU i j)->Wo d i ⟨b,s,a,j,sh,nt,0⟩ (List.replicate n none)->h.size<=d.size->R (J1 #[Ar i,J6 J9 0]) d):AA A P QX #[J6 J9 (n:Int),J6 J9 (sh:Int)] h R:=by
 refine AHO ?_;unfold vQ;refine ah.mk λK L=>ae.no (decide_eq_false (by omega)) (ae.no (decide_eq_false (by omega)) (ae.no (decide_eq_false (by omega)) ?_))
 rw[decide_eq_false (p:=((sh:Nat):Int)>16) (by omega)];refine L _ _ (ae.no rfl (ah.mk λM N=>?_));have fin: ∀ {k:aa} {b j nt i:Nat} {Sb:Nat->Prop},Ext h k->Dl k b Sb jM->(∀ c,Sb c->h.size<=c)->k[j]? =some (J2 (List.replicate n (J5 none)).toArray JA (0,0))->
   k[i]? =some (J2 #[Ar b,J5 none,J5 none,J4 (some ⟨j,0,none⟩) n n,J6 J9 (sh:Int),J6 J9 0,Ar nt,J3 false] Ib (0,0))->i≠j->h.size<=i/\ ¬Sb i->h.size<=j/\ ¬Sb j->M (some ⟨i,0,none⟩,()) k:=λ{k b j nt i Sb} x Q f S U ne V W=>
  N _ _ (ASQ E x Q f ⟨rfl,rfl⟩ rfl U S ne (by omega) V W λd s a X Y z=>⟨_,rfl,l d i b s a j nt X Y (by have:=x.size;omega)⟩)
 have mk: ∀ {e:aa} {K:Sl->aa->Prop},(∀ d,d[e.size]? =some (J2 (List.replicate n (J5 none)).toArray JA (0,0))->Ext e d->d.size=e.size+1->K ⟨some ⟨e.size,0,none⟩,n,n⟩ d)->Af A P (Instr.makeSlice GV (J6 J9 (n:Int)) (J6 J9 (n:Int))) e λv d=> ∃s:Sl,v=J4 s.p s.len s.cap/\K s d:=λ{e K} l=>
  Za (E:=xG) (x0:=none) (v:=J5 none) (z:=J5 none) (T:=JA) (B:=8) (by kernel_rfl) (by kernel_rfl) rfl rfl rfl (by omega) (by simp only[maxLen];omega) λd Z x z=>l d (AO1 Z) x z
 have q: ∀ {e:aa} {K:Q2->aa->Prop},(∀ d,Ext e d->d.size=e.size+1->K (some ⟨e.size,0,none⟩) d)->AA A P Oq #[] e λv d=> ∃p:Q2,v=J5 p/\K p d:=λ{e K} l=>by
  refine AKb ?_;unfold vT;exact aj.mk λd _ _ x z=>⟨_,rfl,l d x z⟩
 refine⟨tv λb aq Sb m o D=>⟨_,rfl,?_,?_⟩,?_⟩
 ·have ab:=o.size;have lt:=λc=>m.lt (c:=c)
  refine mk λar ac F au=>q λav r aw=>aj.mk λk _ af t ax=>fin (((o.trans F).trans r).trans t) (((m.ext F).ext r).ext t) D ((r.trans t).ag ac λh=>h) af (by omega) ⟨by omega,λh=>?_⟩ ⟨by omega,λh=>?_⟩
  ·have:=lt _ h;omega
  ·have:=lt _ h;omega
 ·have ab:=o.size;have lt:=λc=>m.lt (c:=c)
  refine q λay G az=>mk λaA ag H aC=>aj.mk λaD _ ai u aE=>fin (((o.trans G).trans H).trans u) (((m.ext G).ext H).ext u) D (u.ag ag λh=>h) ai (by omega) ⟨by omega,λh=>?_⟩ ⟨by omega,λh=>?_⟩
  ·have:=lt _ h;omega
  ·have:=lt _ h;omega
 ·refine mk λaF ak al aG=>tv λb aH Sb I w J=>⟨_,rfl,?_⟩
  have aI:=w.size;have lt:=λc=>I.lt (c:=c)
  refine q λaJ y aK=>aj.mk λaL _ am C aM=>fin (((al.trans w).trans y).trans C) ((I.ext y).ext C) (λc an=>by have:=J c an;omega) (((w.trans y).trans C).ag ak λh=>h) am (by omega) ⟨by omega,λh=>?_⟩ ⟨A0 _,λh=>?_⟩
  ·have:=lt _ h;omega
  ·have:=J _ h;omega
end
structure Rp (R:A30) (b:Nat) (r:aZ) (h:aa):Prop where
 cell:h[b]? =some (J2 aZ.z.c A8 (0,0))
 go: ∀h9,Mod (· =b) h h9->R r.v h9
section
variable {A : ao} {h : aa} {w p : Nat} {x : fP} {ps : List (Option Nat)} {q : bU} {R : A30}
theorem Zc {i:Nat}(r:Wo h w x ps)(hi:ps[i]? =some (some p))
  (s: ∀d b (l:A30),Ext h d->h.size<=b->d[b]? =some (J2 aZ.z.c A8 (0,0))->(∀ e a,a.err≠30->Rp R b a e->l a.v e)->AA A P Cb #[Ar w,Ar p,q.v] d l):
  AA A P CU #[Ar w,J6 J9 (i:Int),q.v] h R:=by
 refine WZ ?_;unfold Pi;refine aj.mk λt _ u f E=>aj.mk λd _ v g F=>qL ((r.ext f).ext g) hi ⟨_,_,rfl,ae.no rfl (UU.mk q (Cr (g.ag u λh=>h) rfl) ?_)⟩
 refine s d t.size _ (f.trans g) f.size v λe a y j=>?_
 refine Ez.mk a ⟨rfl,aj.mk λG _ z m H=>aD.mk z (A0 9) λI k o J=>?_⟩;rw[MP] at k;have lt:=Aj j.cell;refine AC.mk (n:=a.err) (AO k rfl) (ARf y ⟨_,rfl,Bu.mk a (Jq k) (KX (x:=a) (o.ag (m.ag j.cell λh=>h) (by omega)) λB C=>j.go B ((m.more o λc D=>by subst D;exact A0 _).mod.trans C))⟩)
theorem AQW(o:Wo h w x ps)(y:q.kind<5\/11<q.kind)
  (r: ∀a b (i:A30),Ext h a->h.size<=b->a[b]? =some (J2 aZ.z.c A8 (0,0))->(∀ e c,Rp R b c e->i c.v e)->AA A P GL #[Ar p,.iface Cs (Ar x.a),J6 J9 x.now,q.v] a i):
  AA A P Cb #[Ar w,Ar p,q.v] h R:=by
 refine Ef ?_;unfold EG;refine aj.mk λj _ s f z=>aj.mk λa _ t g B=>?_
 have k:=g.ag s λh=>h
 have l:=(o.ext f).ext g;have n: ∀d:Int,5<=d->d<=11->(q.kind==d)=false:=λd j a=>by simp;omega
 refine AC.mk (n:=q.kind) (AO k rfl) ?_;refine ae.no (n 5 (by decide) (by decide)) (ae.no (n 6 (by decide) (by decide)) (ae.no (n 7 (by decide) (by decide)) (ae.no (n 8 (by decide) (by decide)) (ae.no (n 9 (by decide) (by decide)) (ae.no (n 10 (by decide) (by decide)) (ae.no (n 11 (by decide) (by decide)) ?_))))));refine aA (AY.mk (AB l.cell rfl) (aA (AC.mk (n:=x.now) (AB l.cell rfl) (UU.mk q (Cr k rfl) ?_))));exact r a j.size _ (f.trans g) f.size t λe c m=>Ez.mk c ⟨rfl,KX (x:=c) m.cell λu v=>m.go u v⟩
theorem AT4(m:Wo h w x ps)(d:q.kind=7)
  (o: ∀a b (i:A30),Ext h a->h.size<=b->a[b]? =some (J2 aZ.z.c A8 (0,0))->(∀ e c,Rp R b c e->i c.v e)->AA A P OH #[Ar p,Ar x.a,J6 J9 x.now,J7 q.name] a i):
  AA A P Cb #[Ar w,Ar p,q.v] h R:=by
 refine Ef ?_;unfold EG;refine aj.mk λr _ s f y=>aj.mk λa _ t g z=>?_
 have j:=g.ag s λh=>h
 have k:=(m.ext f).ext g;refine AC.mk (n:=q.kind) (AO j rfl) (ae.no (by simp[d]) (ae.no (by simp[d]) (ae.yes (by simp[d]) ?_)));refine aA (AY.mk (AB k.cell rfl) (aA (AC.mk (n:=x.now) (AB k.cell rfl) (AL.mk (n:=q.name) (AB j rfl) ?_))));exact o a r.size _ (f.trans g) f.size t λe c l=>Ez.mk c ⟨rfl,KX (x:=c) l.cell λu v=>l.go u v⟩
theorem AOh(m:Wo h w x ps)(d:q.kind=8)
  (o: ∀a b (i:A30),Ext h a->h.size<=b->a[b]? =some (J2 aZ.z.c A8 (0,0))->(∀ e c,Rp R b c e->i c.v e)->AA A P Jd #[Ar p,.iface Cs (Ar x.a),J6 J9 x.now,q.v] a i):
  AA A P Cb #[Ar w,Ar p,q.v] h R:=by
 refine Ef ?_;unfold EG;refine aj.mk λr _ s f y=>aj.mk λa _ t g z=>?_
 have j:=g.ag s λh=>h
 have k:=(m.ext f).ext g;refine AC.mk (n:=q.kind) (AO j rfl) (ae.no (by simp[d]) (ae.no (by simp[d]) (ae.no (by simp[d]) (ae.yes (by simp[d]) ?_))));refine aA (AY.mk (AB k.cell rfl) (aA (AC.mk (n:=x.now) (AB k.cell rfl) (UU.mk q (Cr j rfl) ?_))));exact o a r.size _ (f.trans g) f.size t λe c l=>Ez.mk c ⟨rfl,KX (x:=c) l.cell λu v=>l.go u v⟩
abbrev gF(a b:Int):aZ:=⟨a,0,b,⟨0,⟨#[]⟩,0,0⟩,⟨#[]⟩,⟨none,0,0⟩⟩
theorem AUr(l:Wo h w x ps)(a:q.kind=10)
  (m: ∀c b (i:A30),Ext h c->h.size<=b->c[b]? =some (J2 aZ.z.c A8 (0,0))->(∀ e n d,Rp R b (gF d n) e->i (J1 #[J6 J9 n,J6 J9 d]) e)->AA A P OW #[Ar p,Ar x.a,J6 J9 q.ai] c i):
  AA A P Cb #[Ar w,Ar p,q.v] h R:=by
 refine Ef ?_;unfold EG;refine aj.mk λo _ r f y=>aj.mk λc _ s g z=>?_
 have j:=g.ag r λh=>h
 have t:=(l.ext f).ext g;refine AC.mk (n:=q.kind) (AO j rfl) (ae.no (by simp[a]) (ae.no (by simp[a]) (ae.no (by simp[a]) (ae.no (by simp[a]) (ae.no (by simp[a]) (ae.yes (by simp[a]) ?_))))));refine aA (AY.mk (AB t.cell rfl) (AC.mk (n:=q.ai) (AB j rfl) ?_));exact m c o.size _ (f.trans g) f.size s λe n d k=>⟨_,_,rfl,KX (x:=gF d n) k.cell λu v=>k.go u v⟩
theorem AUx(m:Wo h w x ps)(a:q.kind=11)
  (o: ∀c b (i:A30),Ext h c->h.size<=b->c[b]? =some (J2 aZ.z.c A8 (0,0))->(∀ e n d,Rp R b (gF d n) e->i (J1 #[J6 J9 n,J6 J9 d]) e)->AA A P OE #[Ar p,Ar x.a,J6 J9 q.ai,J6 J9 x.now] c i):
  AA A P Cb #[Ar w,Ar p,q.v] h R:=by
 refine Ef ?_;unfold EG;refine aj.mk λr _ s f y=>aj.mk λc _ t g z=>?_
 have j:=g.ag s λh=>h
 have k:=(m.ext f).ext g;refine AC.mk (n:=q.kind) (AO j rfl) (ae.no (by simp[a]) (ae.no (by simp[a]) (ae.no (by simp[a]) (ae.no (by simp[a]) (ae.no (by simp[a]) (ae.no (by simp[a]) (ae.yes (by simp[a]) ?_)))))));refine aA (AY.mk (AB k.cell rfl) (AC.mk (n:=q.ai) (AB j rfl) (aA (AC.mk (n:=x.now) (AB k.cell rfl) ?_))));exact o c r.size _ (f.trans g) f.size t λe n d l=>⟨_,_,rfl,KX (x:=gF d n) l.cell λu v=>l.go u v⟩
end
theorem AOJ {A:ao}{g h:aa}{s k:Nat}{mp:List Pr}{fl:cq}{an:cL}{O:Nat->Prop}{R:A30}{a:Q2}{c i:Nat}{d:Int}{l:List Hs}{y:Hs}(e:EW g h s k 2 l mp fl an O)(j:l[i]? =some y)(C:c<2)(D:0<=d/\d<=1099511627776)(E:y.f c≠0)(r:F7 (G8 c) mp= [])(t: ∀n,Ext h n->R (J1 #[J6 J9 0,J6 J9 0]) n):AA A P OE #[Ar y.p,J5 a,J6 J9 (c:Int),J6 J9 d] h R:=by
 refine AF5 ?_;unfold Yr;refine ah.mk λK u=>ae.no rfl (ae.no (decide_eq_false (by omega)) (e.w.au j ⟨_,rfl,ae.no (decide_eq_false (by show ¬(2:Int)<=(c:Int);omega)) (ae.no (decide_eq_false (by omega)) (u _ _ (ae.no (decide_eq_false (by show ¬1099511627776<d;omega)) ?_)))⟩))
 refine e.w.holds j ⟨_,rfl,ae.no (by simp;omega) (e.w.store j ⟨_,rfl,AO4 (by omega) λF o=>⟨_,rfl,?_⟩⟩)⟩;refine(e.on o).w.scan (by unfold G8;rw[AP];show 2<=1099511627776;decide) λps v p G z=>⟨_,_,rfl,ae.no rfl ?_⟩
 rw[pP,r] at p;have f:=p.len;refine Loop.rule (λm x B=>m=0/\x=((0:Int),())/\v=B) ?_ ⟨rfl,rfl,rfl⟩;rintro H m _ _ ⟨rfl,rfl,rfl⟩ I;have f:ps.len=0:=f;refine ae.no (by rw[f];rfl) ?_;rw[f];exact t _ (o.trans z)
structure WQ (g hh:aa) (w:Nat) (x:fP) (k:Nat) (y:Hs) (mp:List Pr) (fl:cq) (an:cL) (O:Nat->Prop) (T:TT) (L:List Tq):Prop where
 q:QW g hh x.s k y mp fl an O T L
 wo:Wo hh w x [some y.p]
 ow:O w/\O x.hb
 sh:x.sh=2
 now:x.now=0
section
variable {A : ao} {g h h2 h3 h4 : aa} {w b : Nat} {x : fP} {k : Nat} {y : Hs} {mp : List Pr} {fl : cq} {an : cL} {O : Nat -> Prop} {T : TT} {L : List Tq} {R : A30} {q : bU}
theorem WQ.lt(a:WQ g h w x k y mp fl an O T L){c:Nat}(d:O c):c<h.size:=(a.q.w.w.out d).1
theorem WQ.ext(a:WQ g h w x k y mp fl an O T L):Ext g h:=a.q.w.w.ext
theorem WQ.on(a:WQ g h w x k y mp fl an O T L)(m:Ext h h2):WQ g h2 w x k y mp fl an O T L:= {a with q:=a.q.on m,wo:=a.wo.ext m}
theorem WQ.less {O':Nat->Prop}(a:WQ g h w x k y mp fl an O T L)(d: ∀c,O' c->O c)(ow:O' w/\O' x.hb):WQ g h w x k y mp fl an O' T L:= {a with q:=a.q.less d,ow:=ow}
theorem WQ.wider(a:WQ g h w x k y mp fl an O T L)(m:Ext h h2)(d:h.size<=b/\b<h2.size):WQ g h2 w x k y mp fl an (λc=>O c\/c=b) T L:=
 {a with q:=a.q.dA m.mod λc e=>e.imp id λf=>(by subst f;exact d),wo:=a.wo.ext m,ow:=⟨.inl a.ow.1,.inl a.ow.2⟩}
theorem WQ.bz(a:WQ g h w x k y mp fl an O T L)(m:Mod (· =b) h h2)(d:O b)(ne:w≠b/\x.hb≠b):WQ g h2 w x k y mp fl an O T L:=
 {a with q:=a.q.dA (m.ak λc _ h=>by subst h;exact d) λc e=> .inl e,wo:=a.wo.mod m ne.1 ne.2}
theorem PN(d:Ext h h2)(e:Mod (aR g λc=>O c\/c=b) h2 h3)(f:Mod (· =b) h3 h4)(i:h.size<=b)(lt: ∀c,O c->c<h.size)(j:Ext g h):Mod (aR g O) h h4:=
 d.mod.trans ((e.ak λc _ a=>⟨a.1,λh=>a.2 (.inl h)⟩).trans (f.ak λc _ a=>by subst a;exact⟨AK j.size i,λh=>by have:=lt _ h;omega⟩))
theorem WQ.call(a:WQ g h w x k y mp fl an O T L)
  (C: ∀h2 b (f:A30),WQ g h2 w x k y mp fl an (λc=>O c\/c=b) T L->(∀ h3 (d:aZ) j l m n o p r,d.err≠30->WQ g h3 w x j l m n o (λc=>O c\/c=b) p r->Mod (aR g λc=>O c\/c=b) h2 h3->
   (∀ e,WQ g e w x j l m n o O p r->Mod (aR g O) h e->R d.v e)->f d.v h3)->AA A P Cb #[Ar w,Ar y.p,q.v] h2 f):
  AA A P CU #[Ar w,J6 J9 0,q.v] h R:=by
 refine Zc (i:=0) a.wo rfl λh2 b f t u v D=>?_
 have E:=Aj v;have ne:w≠b/\x.hb≠b:=⟨λF=>by have:=a.lt a.ow.1;omega,λF=>by have:=a.lt a.ow.2;omega⟩;refine C h2 b f (a.wider t ⟨u,E⟩) λh3 d j l m n o p r G H z I=>D h3 d G ⟨aR.aM z v (.inr rfl),λe B=>I e ?_ ?_⟩
 ·exact(H.bz B (.inr rfl) ne).less (λc s=> .inl s) a.ow
 ·exact PN t z B u (λc s=>a.lt s) a.ext
theorem WQ.jc {c:Nat}(s:bL g)(t:WQ g h w x k y mp fl an O T L)(e:c<2)(u:k+8<=490)(v:q.kind=10)(z:q.ai=(c:Int))
  (B: ∀i f,WQ g i w x (k+8) y f fl an O (cH T c ((T c).drop 8)) (Um c ((T c).take 8) L)->Mod (aR g O) h i->(∀ l,F7 (G8 l) mp= []->F7 (G8 l) f= [])->R (gF 0 (((T c).take 8).length:Nat)).v i):AA A P CU #[Ar w,J6 J9 0,q.v] h R:=by
 refine t.call λh2 b Q a C=>AUr a.wo v λh3 m S n o p D=>?_
 have E:=Aj p;have ne:w≠m/\x.hb≠m:=⟨λF=>by have:=a.lt a.ow.1;omega,λF=>by have:=a.lt a.ow.2;omega⟩;have d:=a.wider n ⟨o,E⟩;rw[z];refine ATT s d.q e u λh4 f G j U H=>D h4 _ 0 ⟨aR.aM j p (.inr rfl),λI r=>?_⟩
 have J:WQ g h4 w x (k+8) y f fl an _ (cH T c ((T c).drop 8)) (Um c ((T c).take 8) L):=⟨G,d.wo.step j d.ow.1 d.ow.2,d.ow,d.sh,d.now⟩;exact C I (gF 0 _) _ _ _ _ _ _ _ (show(0:Int)≠30 by decide) ((J.bz r (.inr rfl) ne).less (λc e=> .inl e) a.ow) (PN n j r o (λc e=>a.lt e) a.ext) λK M N=>B K f M N H
theorem WQ.tick {c:Nat}(e:WQ g h w x k y mp fl an O T L)(d:c<2)(s:F7 (G8 c) mp= [])(t:q.kind=11)(u:q.ai=(c:Int))
  (v: ∀f,WQ g f w x k y mp fl an O T L->Mod (aR g O) h f->R (gF 0 0).v f):AA A P CU #[Ar w,J6 J9 0,q.v] h R:=by
 refine e.call λh2 b I a z=>AUx a.wo t λh3 l J m n o B=>?_
 have C:=Aj o;have ne:w≠l/\x.hb≠l:=⟨λD=>by have:=a.lt a.ow.1;omega,λD=>by have:=a.lt a.ow.2;omega⟩;have p:=a.wider m ⟨n,C⟩;rw[u,e.now];refine AOJ (i:=0) p.q.w rfl d (by decide) (by rw[(e.q.own c d).2];decide) s λh4 j=>B h4 0 0 ⟨j.ag o λh=>h,λE r=>?_⟩
 exact z E (gF 0 0) _ _ _ _ _ _ _ (show(0:Int)≠30 by decide) (((p.on j).bz r (.inr rfl) ne).less (λc d=> .inl d) a.ow) (PN m j.mod r n (λc d=>a.lt d) a.ext) λF G H=>v F G H
theorem WQ.start {p:bK}(H:bL g)(a:WQ g h w x k y mp fl an O T L)(I:k+1<=490)(J:q.kind=1)(V:View UT h q.steps p.steps)(K:q.aw=p.aw)(M:p.aw=0)(len:p.steps.length<=1099511627776)(N:Qj q p=0)(Q:an q.bg=none)(S:fl q.wid=none)(U:Am q.wid=true)
  (W: ∀o j l r,WQ g o w x (k+1) j l (cT fl q.wid [⟨1,1,0,0,0,0,false,Ad (Ca p)⟩,⟨2,2,0,0,0,0,false,⟨#[]⟩⟩]) (cT an q.bg (Lp q p,0,3)) O (cH T (Ao q.wid 2) (T (Ao q.wid 2)++ [(r,q.wid)])) L->j.p=y.p->Mod (aR g O) h o->(∀ v,F7 (G8 v) mp= []->F7 (G8 v) l= [])->R (dD 0 0 3).v o):
  AA A P CU #[Ar w,J6 J9 0,q.v] h R:=by
 refine Zc (i:=0) a.wo rfl λh2 b al s z B X=>?_
 have Y:=Aj B;have Z:w≠b/\x.hb≠b:=⟨λt=>by have:=a.lt a.ow.1;omega,λt=>by have:=a.lt a.ow.2;omega⟩;have d:=a.wider s ⟨z,Y⟩;refine AQW d.wo (.inl (by omega)) λh3 C am m D E aa=>?_
 have ab:=Aj E;have ac:w≠C/\x.hb≠C:=⟨λt=>by have:=d.lt d.ow.1;omega,λt=>by have:=d.lt d.ow.2;omega⟩;have e:=d.wider m ⟨D,ab⟩;rw[a.now];refine e.q.start H I J ((V.ext s).ext m) K M len N Q S U λh4 j l r ae F n _ af=>aa h4 _ ⟨aR.aM n E (.inr rfl),λag u=>X ag _ (show(0:Int)≠30 by decide) ⟨u.ag (aR.aM n (m.ag B λh=>h) (.inl (.inr rfl))) (by omega),λah G=>?_⟩⟩
 have ai:WQ g h4 w x (k+1) j l _ _ _ _ L:=⟨ae,by rw[F];exact e.wo.step n e.ow.1 e.ow.2,e.ow,e.sh,e.now⟩;have aj:=(ai.bz u (.inr rfl) ac).less (O':=λc=>O c\/c=b) (λc f=> .inl f) d.ow;have ak:=PN m n u D (λc f=>d.lt f) d.ext;exact W ah j l r ((aj.bz G (.inr rfl) Z).less (λc f=> .inl f) a.ow) F (PN s ak G z (λc f=>a.lt f) a.ext) af
theorem WQ.oS {c J:Nat}{wid:A31}(K:bL g)(a:WQ g h w x k y mp fl an O T ((c,J,wid)::L))(M:k+1<=490)(l:q.kind=7)(N:q.name=⟨#[]⟩)
  (Q: ∀r m s j p n,fl wid=some j->BM j=bZ p 0->WQ g r w x (k+1) m s (cT fl wid (j++ [Ps])) an (λq=>O q\/n.ag=some q) T L->m.p=y.p->Mod (aR g O) h r->View de r n (j++ [Ps])->R (⟨0,0,0,⟨1,wid,3,0⟩,⟨#[]⟩,n⟩:aZ).v r):
  AA A P CU #[Ar w,J6 J9 0,q.v] h R:=by
 refine Zc (i:=0) a.wo rfl λh2 b ai C D E S=>?_
 have U:=Aj E;have W:w≠b/\x.hb≠b:=⟨λf=>by have:=a.lt a.ow.1;omega,λf=>by have:=a.lt a.ow.2;omega⟩;have d:=a.wider C ⟨D,U⟩;refine AT4 d.wo l λh3 z aj t F G X=>?_
 have Y:=Aj G;have Z:w≠z/\x.hb≠z:=⟨λf=>by have:=d.lt d.ow.1;omega,λf=>by have:=d.lt d.ow.2;omega⟩;have e:=d.wider t ⟨F,Y⟩;rw[a.now,N];refine ANy K e.q M λh4 m s j p n aa ab ac H u V I=>X h4 _ ⟨aR.aM u G (.inr rfl),λae v=>S ae _ (show(0:Int)≠30 by decide) ⟨v.ag (aR.aM u (t.ag E λh=>h) (.inl (.inr rfl))) (by omega),λaf B=>?_⟩⟩
 have ag:WQ g h4 w x (k+1) m s _ an _ T L:=⟨ac,by rw[H];exact e.wo.step u e.ow.1 e.ow.2,⟨.inl e.ow.1,.inl e.ow.2⟩,e.sh,e.now⟩;have ah:=PN t u v F (λc o=>d.lt o) d.ext;exact Q af m s j p n aa ab (((ag.bz v (.inl (.inr rfl)) Z).bz B (.inl (.inl (.inr rfl))) W).less (λc o=>o.imp (λh=> .inl (.inl h)) id) ⟨.inl a.ow.1,.inl a.ow.2⟩) H (PN C ah B D (λc o=>a.lt o) a.ext)
  ((V.mod v λq l f=>by have:=I q l;have:q=z:=f;omega).mod B λq l f=>by have:=I q l;have:q=b:=f;have:=t.size;omega)
end
theorem AUK {K:J0->Prop}{a:Nat}(d:a<2)(c:K (J6 J9 (if a=0 then 11 else 10))):Nr P (Instr.index nC (.agg #[J6 J9 11,J6 J9 10]) (J6 J9 (a:Int))) K:=by
 rcases(by omega:a=0\/a=1) with rfl|rfl
 ·have b:(Instr.index nC (.agg #[J6 J9 11,J6 J9 10]) (J6 J9 ((0:Nat):Int))).calc P=some (J6 J9 11):=by kernel_rfl
  unfold Nr;rw[b];exact c
 ·have b:(Instr.index nC (.agg #[J6 J9 11,J6 J9 10]) (J6 J9 ((1:Nat):Int))).calc P=some (J6 J9 10):=by kernel_rfl
  unfold Nr;rw[b];exact c
def iT(T:TT)(m:Nat):TT:=λa=>if a<m then(T a).drop 8 else T a
def iU(T:TT)(L:List Tq):Nat->List Tq
 |0=>L
 |m+1=>Um m ((T m).take 8) (iU T L m)
def eO(T:TT):Nat->Nat
 |0=>0
 |m+1=>eO T m+((T m).take 8).length
theorem AUQ {T:TT}{m:Nat}:iT T m m=T m:=if_neg (by omega)
theorem AP4 {T:TT}{m:Nat}:cH (iT T m) m ((T m).drop 8)=iT T (m+1):=by
 funext a;unfold cH iT;by_cases b:a=m
 ·subst b;rw[if_pos rfl,if_pos (by omega)]
 ·rw[if_neg b];by_cases h:a<m
  ·rw[if_pos h,if_pos (by omega)]
  ·rw[if_neg h,if_neg (by omega)]
theorem AU6 {T:TT}{m:Nat}:eO T m<=8*m:=by
 induction m with
 |zero=>exact A0 _
 |succ m a=>
  unfold eO;have:((T m).take 8).length<=8:=by rw[AD];omega
  omega
section
variable {A : ao} {g h : aa} {w : Nat} {x : fP} {k : Nat} {y : Hs} {mp : List Pr} {fl : cq} {an : cL} {O : Nat -> Prop} {T : TT} {L : List Tq} {R : A30}
theorem WQ.turn(W:bL g)(e:WQ g h w x k y mp fl an O T L)(au:k+16<=490)(f: ∀n,F7 (G8 n) mp= [])
  (X: ∀p d,WQ g p w x (k+16) y d fl an O (iT T 2) (iU T L 2)->Mod (aR g O) h p->(∀ n,F7 (G8 n) d= [])->R (J1 #[J6 J9 ((eO T 2:Nat):Int),J6 J9 0]) p):AA A P KZ #[Ar w,J6 J9 0] h R:=by
 refine Wv ?_;unfold Ph;refine qL (i:=0) e.wo rfl ⟨_,_,rfl,ae.no rfl (aA (AC.mk (n:=(x.sh:Int)) (AB e.wo.cell rfl) ?_))⟩;rw[e.sh];refine Loop.rule (λt s z=> ∃(m:Nat) (d:List Pr),s=(((eO T m:Nat):Int),(m:Int),())/\t=2-m/\m<=2/\WQ g z w x (k+8*m) y d fl an O (iT T m) (iU T L m)/\Mod (aR g O) h z/\ ∀n,F7 (G8 n) d= []) ?_
  ⟨0,mp,rfl,rfl,A6 _,e,Mod.refl,f⟩
 rintro K t _ z ⟨m,mp,rfl,rfl,av,e,M,f⟩ Y;dsimp only;refine ae.intro (λl=>?_) (λl=>?_);rotate_left
 ·have r:m=2:=by have:=of_decide_eq_false l;omega
  subst r;exact X z mp e M f
 have r:m<2:=by have:=of_decide_eq_true l;omega
 have nl:=AU6 (T:=T) (m:=m);refine ah.mk λaw Z=>e.q.w.w.holds (i:=0) rfl ⟨_,rfl,ae.no (by rw[(e.q.own m r).2];rfl) ?_⟩
 refine Loop.rule (λt s B=> ∃(a:Nat) (d:List Pr),s=((if a=2 then((eO T (m+1):Nat):Int) else((eO T m:Nat):Int)),(a:Int),())/\t=2-a/\a<=2/\(if a=2 then WQ g B w x (k+8*(m+1)) y d fl an O (iT T (m+1)) (iU T L (m+1)) else WQ g B w x (k+8*m) y d fl an O (iT T m) (iU T L m))/\Mod (aR g O) h B/\ ∀n,F7 (G8 n) d= []) ?_
  ⟨0,mp,rfl,rfl,A6 _,e,M,f⟩
 rintro N t _ B ⟨a,mp,rfl,rfl,ax,C,E,f⟩ Q;dsimp only;refine ae.intro (λl=>?_) (λl=>?_);rotate_left
 ·have F:a=2:=by have:=of_decide_eq_false l;omega
  subst F;rw[if_pos rfl];refine Z _ _ ?_;dsimp only;rw[Ab (by omega)];exact Y (2-(m+1)) _ _ (by omega) ⟨m+1,mp,rfl,rfl,r,by simpa using C,E,f⟩
 have F:a<2:=by have:=of_decide_eq_true l;omega
 have S: ¬a=2:=by omega
 rw[if_neg S] at C;rw[if_neg S];have U: ∀(n:Nat) (G:Int×Int×Unit->aa->Prop) (o:aa),n<=8->(∀ p,Ext o p->G (((eO T m+n:Nat):Int),((a+1:Nat):Int),()) p)->
   aj o (J2 aZ.z.c A8) λb V=>aD V (ad b) (gF 0 (n:Int)).l λj=>ah (λ(ab:Bool×Unit) D=>ae ab.1 (AC J9 D (ad b) λac=>R (J1 #[J6 J9 ((eO T m:Nat):Int),J6 J9 ac]) D) (AC J9 D ((ad b).add 2) λaf=>G ((J8 J9 (((eO T m:Nat):Int)+af)),(J8 J9 ((a:Int)+(1:Int))),()) D)) λH=>
    AC J9 j (ad b) λag=>ae (ag != (0:Int)) (AC J9 j (ad b) λai=>H ((ai != (170:Int)),()) j) (H (false,()) j):=λn G o ay ak=>by
  refine aj.mk λV _ al am az=>aD.mk al (A0 9) λj I ao aC=>ah.mk λH ap=>?_
  rw[MP] at I;refine AC.mk (n:=0) (AO I rfl) (ae.no rfl (ap _ _ (ae.no rfl (AC.mk (n:=(n:Int)) (AB I rfl) ?_))));rw[show((eO T m:Nat):Int)+(n:Int)=((eO T m+n:Nat):Int) by omega,FD (by omega),Ab (by omega)];exact ak j (am.more ao λc aq=>by subst aq;exact A0 _)
 refine AUK F ?_;rcases(by omega:a=0\/a=1) with rfl|rfl
 ·refine C.tick (q:=⟨11,⟨#[]⟩,⟨#[]⟩,⟨#[]⟩,⟨none,0,0⟩,0,⟨none,0,0⟩,0,0,0,(m:Int),false⟩) r (f m) rfl rfl λo u J=>Ez.mk (gF 0 0) ⟨rfl,U 0 N o (by omega) λj v=>?_⟩
  exact Q 1 _ _ (by omega) ⟨1,mp,rfl,rfl,by omega,u.on v,(E.trans J).trans v.mod,f⟩
 ·refine C.jc W (q:=⟨10,⟨#[]⟩,⟨#[]⟩,⟨#[]⟩,⟨none,0,0⟩,0,⟨none,0,0⟩,0,0,0,(m:Int),false⟩) r (by omega) rfl rfl λo d u J ar=>?_
  rw[AUQ] at u ⊢;rw[AP4] at u;refine Ez.mk (gF 0 _) ⟨rfl,U ((T m).take 8).length N o (by rw[AD];omega) λj v=>?_⟩;exact Q 0 _ _ (by omega) ⟨2,d,rfl,rfl,A0 _,u.on v,(E.trans J).trans v.mod,λn=>ar n (f n)⟩
end
end Go.Lf.G
