/-
 Contract: a client's request (chapter 19).
-/
import Derived.Test.YtgpmoonnachoaaaGreatDoorLfZ28ToE13
import Derived.Test.YtgpmoonnachoaaaGreatDoorLfKToGA
import Derived.Test.YtgpmoonnachoaaaGreatDoorLfV3ToZ27
import Derived.Test.YtgpmoonnachoaaaGreatDoorLfU2ToS3
import Derived.Test.YtgpmoonnachoaaaGreatDoorLfU15ToZ10
import Derived.Test.YtgpmoonnachoaaaGreatDoorLfZ11ToU32
set_option maxRecDepth 100000
set_option linter.unusedVariables false
set_option linter.unusedSimpArgs false
open Go.IntKind renaming i64→J9,wrap→J8
open Go.Value renaming string→J7,int→J6,pointer→J5,slice→J4,bool→J3,tuple→J1
open Go.Obj renaming cells→J2
open Go renaming Value→J0,Addr→Q6,TypeId→Q7,FuncId→Q8,Program→Q1
open Go.Addr renaming add→Q9,mk→Q5
namespace Go.Lf.G
open Go
open M (Sorted Af CZ A7 Ah Ar BV Aj bB BC aR BH)
structure Hs.di (y y':Hs):Prop where
 p:y'.p=y.p
 name:y'.name=y.name
 f:y'.f=y.f
 u: ∀m,y.u m<=y'.u m/\y'.u m<=y.u m+3
theorem br.less {g:aa}{O O':Nat->Prop}{c:Nat}(h:br g O' c)(b: ∀c,O c->O' c):br g O c:=⟨h.1,λd=>h.2 (b c d)⟩
theorem XI(wid:A2K){n:Nat}(h:1<=n):BJ wid n<n:=Cp _ h
section
variable {A : al} {B : cz} {g h : aa} {s a N sh : Nat} {l : List Hs} {mp : List Pr} {O : Nat -> Prop} {i : Nat} {y : Hs} {fl : dd} {an : dm} {R : A2J}
def pR(b:bA):Option (List Ev)->Prop
 |none=>b.bZ=0
 |some l=>b.cA=(Av l).status/\b.bZ=(Av l).next/\b.kept=false/\0<b.bZ
theorem ARh {b:Option (List Ev)}{wid:A2K}{n:Nat}{now:Int}(h: ∀l,b=some l->QN l):(0<=(BQ b wid n now).cA/\(BQ b wid n now).cA<=4)/\(0<=(BQ b wid n now).bZ/\(BQ b wid n now).bZ<=501)/\pR (BQ b wid n now) b:=by
 cases b with
 |none=>exact⟨⟨(by decide:(0:Int)<=0),(by decide:(0:Int)<=4)⟩,⟨(by decide:(0:Int)<=0),(by decide:(0:Int)<=501)⟩,rfl⟩
 |some l=>
  have c:=h l rfl;have st:=c.st;have nx:=c.next.1;have d:=c.len;exact⟨st,⟨by show 0<=(Av l).next;omega,by show(Av l).next<=501;omega⟩,rfl,rfl,rfl,by show 0<(Av l).next;omega⟩
theorem AKX {b c:bA}{e d f:Nat}(G:b.grown c e d f)(h:b.more= []):c.more.length<=d:=by have:=G.more;rw[h] at this;simpa using this
theorem AMu {x:bY}{p:cu}{c0:J0}{now:Int}(c1:cp g)(ac:LW B g h s a N sh l mp O)(ah:l[i]? =some y)(aj:JP mp fl an)(V:View Qb h x.steps p.steps)(a3:x.az=p.az)(len:p.steps.length<=1099511627776)
  (d5: -4611686018427300000<=now/\now<=4611686018427300000) (ch: ∀n,y.f n<=2147483647) (ci: ∀n,y.u n+3<16777216) (d6:N+3<=1000000) (hA:4+3*a<=B.A) (c2:64*a+64<=B.C) (c3:a+1<=1000000)
  (aM: ∀f e st nx,NN fl an (y.f (BJ x.wid sh)) x p=some (e,st,nx)->Ext h f->R (eN e st nx).v f)
  (c4: ∀f C aV r u,NN fl an (y.f (BJ x.wid sh)) x p=none->y.di C->(BA (EL x p (BQ (fl x.wid) x.wid (BJ x.wid sh) now) aV) r u).err≠0->LW B g f s a (N+3) sh (l.set i C) mp O->Mod (br g O) h f->R (eN (BA (EL x p (BQ (fl x.wid) x.wid (BJ x.wid sh) now) aV) r u).err 0 0).v f)
  (c5: ∀f C,NN fl an (y.f (BJ x.wid sh)) x p=none->y.di C->CG mp (F6 (BJ x.wid sh) (y.f (BJ x.wid sh)) y.name)=false->LW B g f s a (N+3) sh (l.set i (C.lost (BJ x.wid sh))) mp O->Mod (br g O) h f->R (eN 170 0 0).v f)
  (c6: ∀f C aV r u D,D=BA (EL x p (BQ (fl x.wid) x.wid (BJ x.wid sh) now) aV) r u->NN fl an (y.f (BJ x.wid sh)) x p=none->y.di C->(Dk (EL x p (BQ (fl x.wid) x.wid (BJ x.wid sh) now) aV)=true->dR y C (BJ x.wid sh) r)->D.err=0->LW B g f s (a+1) (N+3) sh (l.set i C) (cy mp (Ej D++D.ar)) O->
   JP (cy mp (Ej D++D.ar)) (dC fl x.wid ((fl x.wid).getD []++D.more)) (dC an x.aV (Mo x p,D.st.status,D.st.next))->Av ((fl x.wid).getD []++D.more)=D.st->(∀ n bt cj,CG (cy mp (Ej D++D.ar)) (F6 n bt cj)=CG mp (F6 n bt cj))->Mod (br g O) h f->R (eN 0 D.st.status D.st.next).v f):
  AA A P Ca #[Ap y.p,c0,J6 J9 now,x.v] h R:=by
 obtain⟨-,cl,c7⟩:=ac.eB ah;have cm:=(List.getElem?_eq_some_iff.1 ah).1;have dc:l.set i y=l:=by rw[<- (List.getElem?_eq_some_iff.1 ah).2];exact OF cm
 have d7:=XI x.wid cl;refine AAN ?_;unfold TE;refine ao.mk λak _ al bu d8=>ao.mk λaw _ a4 cn d9=>?_
 have ad:Ext h aw:=bu.trans cn;have al:aw[h.size]? =some (J2 x.c MX (0,0)):=cn.ag al λh=>h
 have ea:=Ai a4;have aN: ∀ {U:aa} (e st nx:Int),Ext aw U->(∀ f,Ext h f->R (eN e st nx).v f)->aL U ⟨ak.size,0,none⟩ (eN e st nx).l λa5=>GM a5 ⟨ak.size,0,none⟩ λc8=>R (c8.v) a5:=λ{U} e st nx I c9=>
  kC (I.ag a4 λh=>h) λf bv=>c9 f ((ad.trans I).more bv λc d=>by subst d;exact bu.size)
 refine ai.mk λK da=>?_
 have co: ∀a6:Bool,(a6=true↔x.kind<1\/4<x.kind)->K (a6,()) aw:=λa6 cq=>by
  refine da _ _ (af.intro (λk=>aN 1 0 0 Mod.refl λf I=>aM f 1 0 0 (by unfold NN;rw[if_pos (cq.1 k)]) I) (λk=>?_));have k:a6=false:=k;have bw: ¬(x.kind<1\/4<x.kind):=λh=>by rw[cq.2 h] at k;cases k
  have cr:1<=x.kind/\x.kind<=4:=by omega
  refine oJ.mk x (Dw al rfl) (ANE (V.ext ad) a3 len cr λeb aW=>⟨_,_,rfl,?_⟩);by_cases ae:Nz x p=0;rotate_left
  ·refine af.yes (by simp[ae]) (aN (Nz x p) 0 0 aW λf I=>aM f _ 0 0 (by unfold NN;rw[if_neg bw,if_pos ae]) I)
  rw[if_pos ae];refine af.no (by simp[ae]) (af.no rfl ?_);obtain⟨bx,db,ax,aX⟩:=Z0 ae;have ec:=Fe ax;have ed:=Fe aX;have dl:=APM ae cr;have bz:=ac.on (ad.trans aW);have bB:=aW.ag al λh=>h
  refine AJ.mk (n:=x.wid) (AB bB rfl) (bz.aF ah ⟨_,rfl,⟨AB bB rfl,ZL (by omega) cl c7 ⟨_,_,rfl,bz.holds ah ⟨_,rfl,?_⟩⟩⟩⟩);refine af.intro (λk=>aN 170 0 0 aW λf I=>aM f 170 0 0 (by unfold NN;rw[if_neg bw,if_neg (by simp[ae]),if_pos (by simpa using k)]) I) (λk=>?_);have bC:y.f (BJ x.wid sh)≠0:=by simpa using k
  have q:NN fl an (y.f (BJ x.wid sh)) x p=match an x.aV with
    |some F=>if F.1≠Mo x p then some (184,0,0) else some (0,F.2.1,F.2.2)
    |none=>match fl x.wid with
     |none=>if x.kind=1 then none else some (180,0,0)
     |some l=>if x.kind=1 then some (181,0,0) else if(Av l).status≠0 then some (182,0,0) else none:=by
   unfold NN;rw[if_neg bw,if_neg (by simp[ae]),if_neg bC];try rfl
  refine AJ.mk (n:=x.aV) (AB bB rfl) (AH8 bz ah aj aX λee dd=>?_);have a7:=aW.trans dd;cases bE:an x.aV with
  |some F=>
   rw[bE] at q;refine⟨_,Ia.mk (eN 0 F.2.1 F.2.2) ⟨_,_,rfl,ao.mk λa5 _ bF bG de=>aL.mk bF (A0 9) λbH bI bJ df=>af.no rfl ?_⟩⟩;rw[NZ] at bI;have ay:Ext aw bH:=(a7.trans bG).more bJ λc d=>by subst d;exact a7.size
   refine ai.mk λdg bK=>af.yes rfl (bK _ _ ?_)
   rw[Cn];refine af.intro (λk=>aN 184 0 0 ay λf I=>aM f 184 0 0 (by
    have k: ¬(AY F.1=AY (Mo x p)):=by simpa using k
    rw[q];show(if F.1≠Mo x p then _ else _)=_;rw[if_pos λh=>k (by rw[h])]) I) (λk=>af.yes rfl (GM.mk (eN 0 F.2.1 F.2.2) (Tv bI) (aN 0 F.2.1 F.2.2 ay λf I=>aM f 0 F.2.1 F.2.2 (by
    have k:AY F.1=AY (Mo x p):=by simpa using k
    rw[q];show(if F.1≠Mo x p then _ else _)=_;rw[if_neg (by rw[K9.1 k];simp)]) I)))
  |none=>
   rw[bE] at q;refine⟨_,Ia.mk bS.z ⟨_,_,rfl,ao.mk λa5 _ bF bG de=>aL.mk bF (A0 9) λbH bI bJ df=>af.no rfl ?_⟩⟩;have ay:Ext aw bH:=(a7.trans bG).more bJ λc d=>by subst d;exact a7.size
   refine ai.mk λdg bK=>af.no rfl (bK _ _ (af.no rfl (af.no rfl ?_)))
   have dh:=ac.on (ad.trans ay);refine AJ.mk (n:=x.wid) (AB (ay.ag al λh=>h) rfl) (pO dh ah aj (λh=>by rw[ax] at h;cases h) λ_ aY cs=>Oi.mk _ ⟨_,rfl,ao.mk λef _ dj dk eg=>aL.mk dj (A0 18) λbL az dm eh=>?_⟩);rw[XB] at az;have ct:Ext aY bL:=dk.more dm λc d=>by subst d;exact A0 _
   have aA:Ext aw bL:=(ay.trans cs).trans ct;have ei:=(ay.trans cs).size;have a8:=aA.ag al λh=>h
   refine ai.mk λcv cw=>?_
   have bM: ∀(e:Int),e≠0->NN fl an (y.f (BJ x.wid sh)) x p=some (e,0,0)->cv (e,()) bL:=λe J d=>
    cw _ _ (af.yes (by simp[J]) (aN e 0 0 aA λf I=>aM f e 0 0 d I))
   have cx: ∀l,fl x.wid=some l->QN l:=λl aC=>aj.dv _ _ aC
   obtain⟨aZ,bN,bO,cz,bP,cB,cC,dn⟩:=AJW (wid:=x.wid) (n:=BJ x.wid sh) (now:=now) cx;obtain⟨ej,dp,aO⟩:=ARh (wid:=x.wid) (n:=BJ x.wid sh) (now:=now) cx;have cD: ∀ {U:aa} {es:Sl} {a' b' c':Sl},NN fl an (y.f (BJ x.wid sh)) x p=none->Ext h U->U[h.size]? =some (J2 x.c MX (0,0))->U[ak.size]? =some (J2 bS.z.c Cb (0,0))->
     (∃ fv:ck,U[aY.size]? =some (J2 fv.c DF (0,0))/\fv=⟨x.wid,(BJ x.wid sh:Int),⟨(BQ (fl x.wid) x.wid (BJ x.wid sh) now).cA,(BQ (fl x.wid) x.wid (BJ x.wid sh) now).bZ,false⟩,es,(BQ (fl x.wid) x.wid (BJ x.wid sh) now).st.V a' b' c'⟩)->
     Jv U (BQ (fl x.wid) x.wid (BJ x.wid sh) now).st a' b' c'->(∀ c,a'.ag=some c\/b'.ag=some c\/c'.ag=some c->aY.size<c)->(∀ a9:bA,a9=PD x.wid (BJ x.wid sh) (BQ (fl x.wid) x.wid (BJ x.wid sh) now).cA (BQ (fl x.wid) x.wid (BJ x.wid sh) now).bZ false (BQ (fl x.wid) x.wid (BJ x.wid sh) now).st now->a9=BQ (fl x.wid) x.wid (BJ x.wid sh) now)->
     cv (0,()) U:=λ{U es a' b' c'} dq bQ dr ds a0 ba fr bR=>by
    have bR:=bR _ rfl;have bb:=dq;generalize ek:BQ (fl x.wid) x.wid (BJ x.wid sh) now=b at*
    obtain⟨fv,a0,rfl⟩:=a0;refine cw _ _ (af.no rfl (Jt.mk _ (ACM a0) ?_));have el:=Ai a0
    let Q:Nat->Prop:=λc=>O c\/c=h.size\/c=ak.size\/c=aY.size
    have cE: ∀c,iI b.st a' b' c' c->aY.size<c:=λc d=>fr c (by
     rcases d with⟨_,h⟩|⟨_,h⟩|⟨_,h⟩
     ·exact .inl h
     ·exact .inr (.inl h)
     ·exact .inr (.inr h))
    have en:=bu.size;have cF: ∀c,O c->c<h.size:=λc d=>(ac.out d).1
    have dt:LW B g U s a N sh (l.set i y) mp (λc=>Q c\/iI b.st a' b' c' c):=by
     rw[dc];refine ac.own bQ.mod λc d=>?_
     rcases d with(h|h|h|h)|h
     ·exact .inl h
     ·exact .inr (by omega)
     ·exact .inr (by omega)
     ·exact .inr (by omega)
     ·exact .inr ⟨by have:=cE c h;omega,ba.lt h⟩
    refine AQL (O:=Q) (now:=now) dt cm ba (λc d S=>?_) λaD bc z cG aP Y=>⟨_,rfl,?_⟩
    ·have:=cE c d;rcases S with h|h|h|h
     ·have:=cF c h;omega
     ·omega
     ·omega
     ·omega
    rw[bR] at aP;have bT: ∀ {c:Nat} {w:aa} {o:Obj},w[c]? =some o-> ∀ {T:aa},Q c->Mod (br g Q) w T->T[c]? =some o:=λ{c w o} bU {T} S m=>m.ag bU λbV=>bV.2 S
    have cH:Q h.size:= .inr (.inl rfl);have bd:Q ak.size:= .inr (.inr (.inl rfl));have aQ:=Y.ag dr λh=>h
    have du:=Y.ag ds λh=>h
    have dv: ∀e∈b.more,Di e=true/\e.data.size<1099511627776:=λe J=>by rw[bN] at J;cases J
    refine AC.mk (n:=x.kind) (AL aQ rfl) (ai.mk λcI dw=>?_);have bW: ∀ {L:aa} {z':Nat->Nat} {hG:eO} {C:Hs} (num:Nat),CW B g L s a (N+1) sh l i C mp Q bc z' hG (Cv x p b num)->y.dw C->Mod (br g Q) aD L->cI () L:=λ{L z' hG C} num aR M bX=>by
     have G:=AM0 (num:=num) ae dv aZ;have dx:=AKX G bN;have bZ:=G.ar;rw[bO] at bZ;have nx:=G.st.next;have dy:=bT aQ cH bX;have dz:=bT du bd bX;refine dw _ _ (ARA aR nx λaE aF=>Ia.mk (eN 0 (De (Cv x p b num)).1 (De (Cv x p b num)).2) ⟨rfl,ao.mk λdA _ dB b0 eo=>aL.mk dB (A0 9) λb1 am dD ep=>?_⟩);rw[NZ] at am;have be:Ext L b1:=(aF.trans b0).more dD λc d=>by subst d;exact aF.size
     have bf:=aF.size;have eq:=Ai am
     let aG:Nat->Prop:=λc=>Q c\/c=aE.size
     have dE:CW B g b1 s a (N+1) sh l i C mp aG bc z' hG (Cv x p b num):=aR.wider (O':=aG) be.mod λc d=>d.imp id λh=>by omega
     have cJ:0<=(De (Cv x p b num)).1/\(De (Cv x p b num)).1<=4:=G.st.st;have cK:0<=(De (Cv x p b num)).2/\(De (Cv x p b num)).2<=502:=by unfold De;dsimp only;split<;>omega
     have b2:=Gy (n:=(De (Cv x p b num)).1.toNat) (by omega);have er:=Gy (n:=(De (Cv x p b num)).2.toNat) (by omega);have et:=AV (n:=(Mo x p).length) (by omega);have eu:(BF (Mo x p)).length<=2010:=by unfold BF;rw[A1];omega
     refine AJ.mk (n:=x.aV) (AB (be.ag dy λh=>h) rfl) (AC.mk (n:=(De (Cv x p b num)).1) (AB am rfl) (AC.mk (n:=(De (Cv x p b num)).2) (AB am rfl) (tU (by omega) ⟨_,rfl,AB am rfl,AB am rfl,PO (l:=Mo x p) (by omega) λev cL=>⟨_,rfl,?_⟩⟩)));have b3:=cL.ag am λh=>h
     refine⟨AB b3 rfl,AB b3 rfl,?_⟩;rw[Oj (by omega) (by omega)];refine CU (by omega) λew cM=>⟨_,rfl,?_⟩
     rw[Ak];have dF:=cM.ag b3 λh=>h
     refine⟨AB dF rfl,by rw[AP,AP,max_i64];omega,?_⟩;rw[Oj (by omega) (by omega)];refine CU (by omega) λex dG=>⟨_,rfl,⟨by rw[AP,AP,A1,max_i64];omega,?_⟩⟩
     rw[Ak,A4];have bg:=(cL.trans cM).trans dG;have dH:=dE.on bg;refine ANr (key:=JI x.aV) (val:=iO (Mo x p) (De (Cv x p b num)).1.toNat (De (Cv x p b num)).2.toNat) dH (by rw[G.conds,cz];decide) (by simp at bZ;omega) λb4 ey ez cN b5=>⟨rfl,?_⟩
     have bh: ∀ {c:Nat} {w:aa} {o:Obj},w[c]? =some o-> ∀ {T:aa},aG c->Mod (br g aG) w T->T[c]? =some o:=λ{c w o} bU {T} S m=>m.ag bU λbV=>bV.2 S
     have cO:aG aE.size:= .inr rfl;have dI:=bh (bg.ag am λh=>h) cO b5;have dJ:=bh (bg.ag (be.ag dz λh=>h) λh=>h) (.inl bd) b5;have dK:oE (Cv x p b num) (JI x.aV) (iO (Mo x p) (De (Cv x p b num)).1.toNat (De (Cv x p b num)).2.toNat)=EL x p b num:=rfl;rw[dK] at cN;have ap:(EL x p b num).conds= [⟨JI x.aV,⟨#[]⟩,true⟩]:=by show(Cv x p b num).conds++_=_;rw[G.conds,cz];rfl
     have aH:(EL x p b num).aq=BJ x.wid sh:=G.aq.trans cB;have b6:(EL x p b num).wid=x.wid:=G.wid.trans bP;have eA:(EL x p b num).ar.length<=2:=by show((Cv x p b num).ar++ [_]).length<=2;rw[A1,CN];simp at bZ;omega
     have b7: ∀ {w:aa},Mod (br g aG) b4 w->w[ak.size]? =some (J2 bS.z.c Cb (0,0))/\Mod (br g O) h w:=λ{w} m=>⟨bh dJ (.inl bd) m,by
      have bi:Mod (br g O) h aD:=(bQ.trans Y).mod;have dL:Mod (br g O) aD L:=bX.aj λc _ d=>br.less d λc S=> .inl S
      have dM:Mod (br g O) b1 b4:=bg.mod.trans (b5.aj λc _ d=>br.less d λc S=> .inl (.inl S));have dN:Mod (br g O) b4 w:=m.aj λc _ d=>br.less d λc S=> .inl (.inl S)
      exact(((bi.trans dL).trans be.mod).trans dM).trans dN⟩
     have b8: ∀ {w T:aa} {bi cP:Nat} {b2:List Hs} {cQ:List Pr},LW B g w s bi cP sh b2 cQ aG->Mod (· =ak.size) w T->LW B g T s bi cP sh b2 cQ O:=λdO m=>dO.own (m.aj λc _ d=>by subst d;exact .inl bd) λc d=> .inl (.inl (.inl d))
     have b9: ∀ {w T:aa},Mod (br g O) h w->Mod (· =ak.size) w T->Mod (br g O) h T:=λm bv=>m.trans (bv.aj λc _ d=>by
      subst d;have:=ac.ext.size;exact⟨by omega,λS=>by have:=cF _ S;omega⟩)
     have di: ∀ {Z:Hs},C.dM Z->y.di Z:=λ{Z} W=>⟨W.p.trans M.p,W.name.trans M.name,W.f.trans M.f,λm=>by have:=M.u m;have:=W.u m;omega⟩
     have dP:F6 (EL x p b num).aq (C.f (EL x p b num).aq) C.name=F6 (BJ x.wid sh) (y.f (BJ x.wid sh)) y.name:=by rw[aH,M.f,M.name]
     have dQ:bD (EL x p b num)=bD b:=by show bD (Cv x p b num)=_;unfold bD;rw[G.bZ,G.cA,G.kept,G.wid]
     have dS:CG mp (bD (EL x p b num))=true:=by
      rw[dQ];refine AJd aj (by rw[bP];exact ax) ?_;rw[bP];unfold pR at aO;split at aO
      ·rename_i E;first|exact aO|(rw[E];exact aO)
      ·rename_i E;first|exact aO|(rw[E];exact aO)
     have cS:EU (EL x p b num).st (500+1):=G.st;have cT: ∀e∈(EL x p b num).more,Di e=true/\e.data.size<1099511627776:=G.ok;refine ANi c1 cN cS (by omega) (by rw[b6];exact ax) cT (by rw[aH];omega) (by rw[aH,M.f];exact ch _) (by have:=M.u (EL x p b num).aq;have:=ci (EL x p b num).aq;omega) (by omega) hA c2 c3 (by show(Cv x p b num).more.length<=_;omega) (by omega) (by rw[ap];simp) (λH k=>by
       rw[ap] at k;rw[List.mem_singleton.1 k];show(JI x.aV).size<=_;rw[VW];omega) (by show 0<=(Cv x p b num).cA/\(Cv x p b num).cA<128;rw[G.cA];omega) (by show 0<=(Cv x p b num).bZ/\(Cv x p b num).bZ<=501;rw[G.bZ];exact dp) (by show -_<=(Cv x p b num).now/\(Cv x p b num).now<=_;rw[G.now,cC];omega)
      (λdT=>absurd dT (by rw[aH,M.f];exact bC)) (λr u Z ca W J aI aJ=>⟨_,rfl,?_⟩) (λr u Z ca W J aC aI aJ=>⟨_,rfl,?_⟩) (λr u Z ca W J aC hd aI aJ=>?_) (λr u Z ca W dU J aC hd aI aJ=>⟨_,rfl,?_⟩)
     ·obtain⟨aS,aT⟩:=b7 aJ;refine af.yes (by simpa using J) (kC (x:=eN (BA (EL x p b num) r u).err 0 0) aS λa1 aq=>?_);exact c4 a1 Z num r u bb (di W) J (b8 aI aq) (b9 aT aq)
     ·obtain⟨aS,aT⟩:=b7 aJ;rw[dP] at aC;refine af.yes rfl (kC (x:=eN 170 0 0) aS λa1 aq=>?_);rw[aH] at aI;exact c5 a1 Z bb (di W) aC (b8 aI aq) (b9 aT aq)
     all_goals
      have X:=u9 (n:=500+1) cT cS r u;have cb:(BA (EL x p b num) r u).beside (some (x.aV,(Mo x p,(De (Cv x p b num)).1,(De (Cv x p b num)).2))):=by have vc:=(tD J).2;have:=X.st.next;refine AGo (AIU (x:=(Mo x p,(De (Cv x p b num)).1,(De (Cv x p b num)).2)) (AKP bO) aX cJ ?_ dl) r u;have dV:(De (EL x p b num)).2=(De (Cv x p b num)).2:=rfl;rw[dV] at vc;exact⟨cK.1,by show(De (Cv x p b num)).2<=501;omega⟩
      have mem:Yq x.aV (Mo x p,(De (Cv x p b num)).1,(De (Cv x p b num)).2)∈(BA (EL x p b num) r u).ar:=AMT (IH _ (by simp[Yq])) r u
     ·exfalso;refine hd (ATr (by rw[X.wid,b6];exact ax) X.ok X.st cb ?_ (λh=>?_) ?_ λc d=>?_)
      ·have aS:=X.more;have aT:=X.ar;have eB:(EL x p b num).more.length<=1:=dx;omega
      ·rw[SW] at h;rw[h.2] at mem;cases mem
      ·rw[ap];simp
      ·rw[ap] at d;rcases List.mem_cons.1 d with rfl|d
       ·exact aC
       ·rcases List.mem_append.1 d with d|d
        ·rw[List.mem_singleton.1 d];exact AMq aj aX bE
        ·rw[List.mem_singleton.1 d];exact dS
     ·obtain⟨aS,aT⟩:=b7 aJ;obtain⟨bj,bk⟩:=tD J;have bj:(BA (EL x p b num) r u).st.status=(De (Cv x p b num)).1:=bj;have bk:(BA (EL x p b num) r u).st.next=(De (Cv x p b num)).2:=bk;have dW:=bh dI cO aJ;refine af.no rfl (GM.mk (eN 0 (De (Cv x p b num)).1 (De (Cv x p b num)).2) (Tv dW) (kC aS λa1 aq=>?_));rw[<- bj,<-bk];have cU:(BA (EL x p b num) r u).fits ((fl x.wid).getD []):=AJo (APt dn);have bm:(BA (EL x p b num) r u).wid=x.wid:=X.wid.trans b6;have cV:(fl x.wid).getD []++(BA (EL x p b num) r u).more≠ []:=by
       intro h;rw[SW] at h;have bn:x.kind=1:=by
        cases E:fl x.wid with
        |some l=>
         rw[E] at h;exact absurd h.1 (aj.dv _ _ E).ne
        |none=>
         rw[E] at q;rw[bb] at q;by_cases bn:x.kind=1
         ·exact bn
         ·have q:(none:Option (Int×Int×Int))=if x.kind=1 then none else some (180,0,0):=q;rw[if_neg bn] at q;cases q
       have ar:(EL x p b num).err=0:=AOh (VY J);have ar:(Cv x p b num).err=0:=ar;refine X.none (λag=>?_) h.2;have ag:(Cv x p b num).more= []:=ag;unfold Cv at ag ar;rw[if_pos bn] at ag ar;split at ag
       ·rename_i cc;rw[if_pos cc] at ar;rw[(HY _ _ _ _).2,(pQ (Xy ar)).1] at ag;simp at ag
       ·rename_i cc;rw[if_neg cc] at ar;rw[(pQ ar).1] at ag;simp at ag
      have a2:=aj.done ac.sorted (D:=BA (EL x p b num) r u) (o:=some (x.aV,(Mo x p,(De (Cv x p b num)).1,(De (Cv x p b num)).2))) (by rw[bm];exact ax) (by rw[bm];exact cU) (by rw[bm];exact cV) X.st cb (λbt eC cd=>by
       cases cd;have:=X.st.next;exact⟨mem,aX,cJ,⟨cK.1,by show(De (Cv x p b num)).2<=501;omega⟩,dl⟩)
      rw[bm] at a2;have a2:JP _ _ (dC an x.aV (Mo x p,(De (Cv x p b num)).1,(De (Cv x p b num)).2)):=a2;rw[<- bj,<-bk] at a2;exact c6 a1 Z num r u _ rfl bb (di W) (λcd=>by
       obtain⟨v,v1,v2,cW⟩:=dU cd (by rw[aH,M.f];exact bC);rw[aH] at v1 v2 cW;exact⟨v,by have:=M.u (BJ x.wid sh);omega,v2,by rw[cW,M.f]⟩) J (b8 aI aq) a2 (tA cU cV X.st).2 (AIv ac.sorted cb) (b9 aT aq)
    have dX:CW B g aD s a (N+1) sh l i y mp Q bc z cG b:=aP.put (by omega) (by omega) (by omega);have bo: ∀ {L z' hG} (e:Ev) (D:bA),D=EA b e->CW B g L s a N sh l i y mp Q bc z' hG D->Mod (br g Q) aD L->(∀ num,Cv x p b num=D)->cI () L:=λ{L z' hG} e D eD aR aU d=>bW (z':=z') (hG:=hG) 0 (by rw[d];exact aR.put (by omega) (by omega) (by omega)) (Hs.dw.refl y) aU
    have cX:(⟨#[]⟩:A2K).size<1099511627776:=by decide
    have bp:b.more.length<1000:=by rw[bN];decide
    refine af.intro (λj=>?_) (λj=>?_)
    ·have j:x.kind=1:=by simpa using j
     refine Aa.mk (s:=x.steps) (AB aQ rfl) (AC.mk (n:=x.az) (CK (by exact aQ) rfl) ?_);rw[a3];refine tZ (V.ext (bQ.trans Y)) len λL bq=>?_
     have aR:=aP.on bq;unfold YM;rw[bx j];have eE:=Rh (bx j);refine⟨_,_,rfl,lT (e:=cR 1 (AY (Cq p))) aR aZ (by omega) (by show(AY (Cq p)).size<_;rw[AP];omega) bp λaE bf aF au aK=>⟨rfl,?_⟩⟩;have ce:Mod (br g Q) aD aE:=bq.mod.trans aK;have cY:=bT aQ cH ce;refine AC.mk (n:=x.az) (CK (by exact cY) rfl) ?_;rw[a3];refine af.intro (λk=>?_) (λk=>?_)
     ·have k:0<p.az:=by simpa using k
      have eF:=(xE (bx j)).2.1;refine AC.mk (n:=x.az) (CK (by exact cY) rfl) ?_;rw[a3,wrap_i64 (by omega) (by omega)];have dY:(EA b (cR 1 (AY (Cq p)))).aq=BJ x.wid sh:=(OQ _ _).2.1.trans cB;refine u6 (t:=⟨6,⟨#[]⟩,0,0⟩) au (by rw[dY];omega) (ch _) (by have:=ci (EA b (cR 1 (AY (Cq p)))).aq;omega) (by omega) (by omega) (by rw[tx,bO];decide) (by omega) λdA dZ b0 C num d0 M _ d1=>⟨rfl,?_⟩
      refine bW (z':=dZ) (hG:=b0) num ?_ M (ce.trans d1);have ap:Cv x p b num=EP (EA b (cR 1 (AY (Cq p)))) ⟨6,0,0⟩ (if(0:Int)>now+p.az then 0 else now+p.az) num:=by unfold Cv tB;rw[if_pos j,if_pos k,cC]
      rw[ap];exact d0
     ·have k: ¬0<p.az:=by simpa using k
      exact bo (cR 1 (AY (Cq p))) _ rfl au ce λnum=>by unfold Cv;rw[if_pos j,if_neg k]
    have j:x.kind≠1:=by simpa using j
    refine af.intro (λab=>?_) (λab=>?_)
    ·have ab:x.kind=2:=by simpa using ab
     refine AJ.mk (n:=x.name) (AB aQ rfl) (lT (e:=cR 12 x.name) aP aZ (by omega) (by have:=Fe (db ab);show x.name.size<_;omega) bp λaE bf aF au aK=>⟨rfl,?_⟩);exact bo (cR 12 x.name) _ rfl au aK λnum=>by unfold Cv;rw[if_neg j,if_pos ab]
    have ab:x.kind≠2:=by simpa using ab
    refine af.intro (λav=>?_) (λav=>?_)
    ·have av:x.kind=3:=by simpa using av
     have d2:=Y.ag a0 λh=>h
     refine AZ.mk (n:=b.st.cancel) (CK (by exact d2) rfl) (af.intro (λd=>?_) (λd=>?_))
     ·have d: ¬b.st.cancel=true:=by simpa using d
      refine lT (e:=cR 13 ⟨#[]⟩) aP aZ (by omega) cX bp λaE bf aF au aK=>⟨rfl,?_⟩
      exact bo (cR 13 ⟨#[]⟩) _ rfl au aK λnum=>by unfold Cv;rw[if_neg j,if_neg ab,if_pos av,if_neg d]
     ·have d:b.st.cancel=true:=by simpa using d
      refine bW (z':=z) (hG:=cG) 0 ?_ (Hs.dw.refl y) Mod.refl;have ap:Cv x p b 0=b:=by unfold Cv;rw[if_neg j,if_neg ab,if_pos av,if_pos d]
      rw[ap];exact dX
    have av:x.kind≠3:=by simpa using av
    refine af.yes (by simp;omega) (lT (e:=cR 18 ⟨#[]⟩) aP aZ (by omega) cX bp λaE bf aF au aK=>⟨rfl,?_⟩);exact bo (cR 18 ⟨#[]⟩) _ rfl au aK λnum=>by unfold Cv;rw[if_neg j,if_neg ab,if_neg av]
   refine AC.mk (n:=x.kind) (AL a8 rfl) ?_;cases E:fl x.wid with
   |none=>
    rw[E] at q az;refine af.intro (λj=>?_) (λj=>?_)
    ·have j:x.kind=1:=by simpa using j
     have q:NN fl an (y.f (BJ x.wid sh)) x p=if x.kind=1 then none else some (180,0,0):=q;rw[if_pos j] at q;refine af.no rfl (af.yes rfl (cD (es:=Vn) (a':=Vn) (b':=Vn) (c':=Vn) q (ad.trans aA) a8 (aA.ag a4 λh=>h) ⟨_,az,by rw[E];rfl⟩ ?_ (λc d=>by simp[Sl.ag] at d) (λa9 cf=>by rw[cf,E];rfl)));rw[E];exact⟨View.nil,View.nil,View.nil⟩
    ·have j:x.kind≠1:=by simpa using j
     have q:NN fl an (y.f (BJ x.wid sh)) x p=if x.kind=1 then none else some (180,0,0):=q;rw[if_neg j] at q;exact ai.mk λd3 cg=>af.no rfl (cg _ _ (af.no rfl (af.no rfl (bM 180 (by decide) q))))
   |some bs=>
    rw[E] at q az;have q:NN fl an (y.f (BJ x.wid sh)) x p=if x.kind=1 then some (181,0,0) else if(Av bs).status≠0 then some (182,0,0) else none:=q;refine af.intro (λj=>?_) (λj=>?_)
    ·have j:x.kind=1:=by simpa using j
     rw[if_pos j] at q;exact af.yes rfl (bM 181 (by decide) q)
    have j:x.kind≠1:=by simpa using j
    rw[if_neg j] at q;refine ai.mk λd3 cg=>af.yes rfl (AC.mk (n:=(Av bs).status) (CJ (by exact az) rfl) (cg _ _ (af.intro (λH=>?_) (λH=>?_))))
    ·have H:(Av bs).status≠0:=by simpa using H
     rw[if_pos H] at q;exact bM 182 (by decide) q
    have H:(Av bs).status=0:=by simpa using H
    rw[if_neg (by simp[H])] at q;have d4:=ac.on (ad.trans aA);refine af.yes rfl (AJ.mk (n:=x.wid) (AB a8 rfl) (nB d4 ah aj ax E λaD es a' b' c' Y eG ba fr eH=>Oi.mk _ ⟨_,rfl,aL.mk (Y.ag az λh=>h) (A0 18) λL cZ aU eI=>?_⟩));rw[XB] at cZ;have eJ:=ct.size;have eK:=Ai az;have bq:Ext h L:=((ad.trans aA).trans Y).more aU λc d=>by subst d;have:=ad.size;omega
    refine cD q bq (aU.ag (Y.ag a8 λh=>h) (by have:=ad.size;omega)) (aU.ag (Y.ag (aA.ag a4 λh=>h) λh=>h) (by omega)) ⟨_,cZ,by rw[E];rfl⟩ ?_ (λc d=>by have:=fr c d;omega) (λa9 cf=>by rw[cf,E];rfl);rw[E];exact ba.fresh aU fr λc d=>by subst d;omega
 refine AC.mk (n:=x.kind) (AL al rfl) (af.intro (λH=>co true ?_) (λH=>AC.mk (n:=x.kind) (AL al rfl) (co _ ?_)))
 ·have H:x.kind<1:=by simpa using H
  simp[H]
 ·have H: ¬x.kind<1:=by simpa using H
  simp[H]
end
section
variable {x x' : bY} {p p' : cu}
end
section
variable {A : al} {h : aa} {R : A2J}
end
class Zc where
 bx:Nat
 zf:A2K->Option (A2K×A2K)
def Us [Zc]:cz:=⟨32000,0,1600,by decide,by decide,by decide,Zc.bx,Zc.zf⟩
structure EW [Zc] (g h:aa) (s k sh:Nat) (l:List Hs) (mp:List Pr) (fl:dd) (an:dm) (O:Nat->Prop):Prop where
 w:LW Us g h s k (3*k) sh l mp O
 m:JP mp fl an
 all: ∀y∈l,∀n,y.u n<=3*k/\y.f n<=k
def nC(mp:List Pr)(y:Hs)(a:Nat):Prop:=y.f a≠0/\CG mp (F6 a (y.f a) y.name)=true
def XP(fl:dd)(an:dm)(f:Nat)(x:bY)(p:cu)(j:Int)(b st nx:Int)(m:dd)(n:dm):Prop:=
 (m=fl/\n=an/\(NN fl an 1 x p=some (b,st,nx)\/(NN fl an 1 x p=none/\b≠0/\st=0/\nx=0/\ ∃c d e,b=(BA (EL x p (BQ (fl x.wid) x.wid f j) c) d e).err)))\/
 (NN fl an 1 x p=none/\b=0/\ ∃c d e a,a=BA (EL x p (BQ (fl x.wid) x.wid f j) c) d e/\a.err=0/\m=dC fl x.wid ((fl x.wid).getD []++a.more)/\n=dC an x.aV (Mo x p,a.st.status,a.st.next)/\st=a.st.status/\nx=a.st.next/\Av ((fl x.wid).getD []++a.more)=a.st)
def lQ(mp c:List Pr)(fl d:dd)(b:Nat)(x:bY)(p:cu)(e:Int)(y m:Hs):Prop:=(c=mp/\d=fl)\/ ∃f j n a,a=BA (EL x p (BQ (fl x.wid) x.wid b e) f) j n/\a.err=0/\c=cy mp (Ej a++a.ar)/\d=dC fl x.wid ((fl x.wid).getD []++a.more)/\
 (Dk (EL x p (BQ (fl x.wid) x.wid b e) f)=true->dR y m b j)
theorem AMb {fl:dd}{an:dm}{k:Nat}{x:bY}{p:cu}(h:k≠0):NN fl an k x p=NN fl an 1 x p:=by unfold NN;rw[if_neg h,if_neg (show ¬(1:Nat)=0 by decide)]
theorem AQr {l:List Hs}{i:Nat}{b:Hs}{Q:Hs->Prop}(h: ∀y∈l,Q y)(c:Q b): ∀y∈l.set i b,Q y:=λy d=>by
 rcases SZ d with a|a
 ·exact h y a
 ·rw[a];exact c
section
variable {A : al} {g h : aa} {s k sh : Nat} {l : List Hs} {mp : List Pr} {O : Nat -> Prop} {i : Nat} {y : Hs} {fl : dd} {an : dm} {R : A2J}
theorem EW.own [Zc]{a:aa}{O':Nat->Prop}(b:EW g h s k sh l mp fl an O)(d:Mod O h a)(e: ∀c,O' c->O c\/(h.size<=c/\c<a.size)):EW g a s k sh l mp fl an O':=⟨b.w.own d e,b.m,b.all⟩
theorem EW.on [Zc]{b:aa}(a:EW g h s k sh l mp fl an O)(x:Ext h b):EW g b s k sh l mp fl an O:=⟨a.w.on x,a.m,a.all⟩
theorem EW.ir [Zc]{x:bY}{p:cu}{T:J0}{n:Int}(U:cp g)(d:EW g h s k sh l mp fl an O)(o:l[i]? =some y)(ad:k+1<=490)(I:nC mp y (BJ x.wid sh))(V:View Qb h x.steps p.steps)(W:x.az=p.az)(len:p.steps.length<=1099511627776)(X: -4611686018427300000<=n/\n<=4611686018427300000)
  (D: ∀c b E F J q st nx,EW g c s (k+1) sh (l.set i b) E F J O->y.di b->(∀ a K r,CG E (F6 a K r)=CG mp (F6 a K r))->Mod (br g O) h c->XP fl an (BJ x.wid sh) x p n q st nx F J->lQ mp E fl F (BJ x.wid sh) x p n y b->R (eN q st nx).v c):
  AA A P Ca #[Ap y.p,T,J6 J9 n,x.v] h R:=by
 have G:=AK o;have ae:Us.C=32000:=rfl;have hA:Us.A=1600:=rfl;have Y:=(List.getElem?_eq_some_iff.1 o).1;have dc:l.set i y=l:=by rw[<- (List.getElem?_eq_some_iff.1 o).2];exact OF Y
 have H:=AMb (fl:=fl) (an:=an) (x:=x) (p:=p) I.1;have f: ∀ {b:Hs},y.di b-> ∀z∈l.set i b,∀a,z.u a<=3*(k+1)/\z.f a<=k+1:=λ{b} f=>AQr (Q:=λz=> ∀a,z.u a<=3*(k+1)/\z.f a<=k+1) (λz Z a=>by have:=d.all z Z a;omega) λa=>by
  have:=d.all y G a;have:=f.u a;rw[f.f];omega
 refine AMu U d.w o d.m V W len X (λa=>by have:=(d.all y G a).2;omega) (λa=>by have:=(d.all y G a).1;omega) (by omega) (by omega) (by omega) (by omega)
  (λc q st nx e L=>?_) (λc b t u v e j w B C=>?_) (λc b e j M B C=>?_) λc b t u v N S e j r w B aa ab ac C=>?_
 ·rw[H] at e;refine D c y mp fl an q st nx ⟨?_,d.m,f ⟨rfl,rfl,rfl,λm=>by omega⟩⟩ ⟨rfl,rfl,rfl,λm=>by omega⟩ (λ_ _ _=>rfl) L.mod (.inl ⟨rfl,rfl,.inl e⟩) (.inl ⟨rfl,rfl⟩);rw[dc];exact(d.w.on L).put (by omega) (by omega) (by omega) (by omega)
 ·rw[H] at e;exact D c b mp fl an _ 0 0 ⟨B.put (by omega) (by omega) (by omega) (by omega),d.m,f j⟩ j (λ_ _ _=>rfl) C (.inl ⟨rfl,rfl,.inr ⟨e,w,rfl,rfl,t,u,v,rfl⟩⟩) (.inl ⟨rfl,rfl⟩)
 ·rw[I.2] at M;cases M
 ·rw[H] at e;exact D c b _ _ _ 0 _ _ ⟨B.put (by omega) (by omega) (by omega) (by omega),aa,f j⟩ j ac C (.inr ⟨e,rfl,t,u,v,N,S,w,rfl,rfl,rfl,rfl,ab⟩) (.inr ⟨t,u,v,N,S,w,rfl,rfl,r⟩)
end
abbrev kD:A2K:=⟨#[104,111,115,116,48]⟩
structure lR (mp:List Pr) (y:Hs) (sh:Nat):Prop where
 has: ∀n,n<sh->y.f n=1/\ED mp n 1 y.name
 iu: ∀n,sh<=n->y.f n=0/\(n<256->ED mp n 0 ⟨#[]⟩)
theorem lR.owns {mp:List Pr}{y:Hs}{sh a:Nat}(b:lR mp y sh)(c:a<sh):nC mp y a:=by obtain⟨d,e⟩:=b.has a c;refine⟨by omega,?_⟩;rw[d];exact e.holds (A0 _)
section
variable {A : al} {g h : aa} {s k sh : Nat} {y : Hs} {mp : List Pr} {O : Nat -> Prop} {R : A2J}
theorem LW.slt {b:cz}{a N:Nat}{l:List Hs}(c:LW b g h s a N sh l mp O):s<h.size:=by obtain⟨e,k,st,m,f,nn,d,_⟩:=c;exact d.lt
theorem ATC [Zc]{n:Nat}(t:cp g)(b:EW g h s n sh [y] mp (λ_=>none) (λ_=>none) O)(u:n<sh)(G:sh<=16)(d:lR mp y n)(v:Ag y.name=true)
  (w: ∀a e,EW g a s (n+1) sh [y.mR n 1] e (λ_=>none) (λ_=>none) O->lR e (y.mR n 1) (n+1)->Mod (br g O) h a->e=cy mp [⟨Bg n,HV 1 y.name,false⟩]->R (J1 #[J6 J9 1,J6 J9 0]) a):
  AA A P EN #[Ap y.p,J6 J9 (n:Int)] h R:=by
 have H:Us.C=32000:=rfl;have hA:Us.A=1600:=rfl;have c:=b.w.sorted;refine b.w.acquire (i:=0) (x:=y) (r:=0) (nm:=⟨#[]⟩) t rfl u ((d.iu n (A0 _)).2 (by omega)) (by decide) (by omega) (by omega) (by omega) (by omega) λa B C=>?_
 refine w a _ ⟨B.put (A0 _) (by omega) (by omega) (by omega),b.m.aS c (λp D=>?_),λz E m=>?_⟩ ⟨λm F=>?_,λm F=>?_⟩ C rfl
 ·rw[List.mem_singleton.1 D];show BP (Bg n)≠104/\BP (Bg n)≠119/\BP (Bg n)≠114;rw[Rz];decide
 ·rw[List.mem_singleton.1 E];have:=b.all y (by simp) m;show cX y.u n 0 m<=_/\cX y.f n 1 m<=_;unfold cX;constructor<;>split<;>omega
 ·show cX y.f n 1 m=1/\_;unfold cX;by_cases f:m=n
  ·subst f;rw[if_pos rfl];exact⟨rfl,ED.laid c (by decide) (by decide) v⟩
  ·rw[if_neg f];obtain⟨j,o⟩:=d.has m (by omega);exact⟨j,o.other c λq=>f (zM (by omega) (by omega) q).symm⟩
 ·show cX y.f n 1 m=0/\_;unfold cX;rw[if_neg (by omega)];obtain⟨j,o⟩:=d.iu m (by omega);exact⟨j,λh=>(o h).other c λq=>by have:=zM (by omega) h q;omega⟩
end
theorem tE {id tick k:Int}(a:1<=id/\id<=500)(b:0<=tick/\tick<=1099511627776)(c:k=2\/k=13\/k=18):Di ⟨id,k,tick,0,0,0,false,⟨#[]⟩⟩=true:=by have d:bU id 1 500=true:=Bc.2 a;have e:bU tick 0 1099511627776=true:=Bc.2 b;have f:bU k 1 18=true:=Bc.2 (by omega);unfold Di Ei KV;rw[d,e,f];rcases c with rfl|rfl|rfl<;>rfl
theorem ANL {id tick:Int}{data:A2K}(a:1<=id/\id<=500)(b:0<=tick/\tick<=1099511627776)(c:Ag data=true):Di ⟨id,12,tick,0,0,0,false,data⟩=true:=by
 have d:bU id 1 500=true:=Bc.2 a;have e:bU tick 0 1099511627776=true:=Bc.2 b;unfold Di Ei KV;dsimp only;rw[d,e,c];have:dK 12=true:=by decide
 rw[this,HI];rfl
theorem ANs {id tick:Int}{p:cu}(a:1<=id/\id<=500)(b:0<=tick/\tick<=1099511627776)(c:GI p=true):Di ⟨id,1,tick,0,0,0,false,AY (Cq p)⟩=true:=by
 have d:bU id 1 500=true:=Bc.2 a;have e:bU tick 0 1099511627776=true:=Bc.2 b;unfold Di Ei KV;dsimp only;rw[d,e,EF,vZ c];have:dK 1=true:=by decide
 rw[this,HI];rfl
theorem ZE {a:Int}{wid:A2K}{b:Int}(c:1<=a/\a<=7)(d:Ag wid=true)(e:0<=b/\b<=500):KH ⟨a,b,0⟩ wid=true:=by unfold KH;rw[Bc.2 c,d,Bc.2 e];rfl
theorem pS {a:bA}{t:gl}{tick:Int}{c:Nat}(b:a.err=0)(d:KH t a.wid=true):(EP a t tick c).err=0:=by unfold EP;rw[if_neg (by simp[b]),if_neg (by simp[d])];exact b
theorem AHt {a:bA}(b:Dk a=true):a.more≠ []/\a.st.status=0/\a.st.fresh=true/\a.st.asked=0/\a.st.taken=0:=by unfold Dk at b;simpa [and_assoc] using b
theorem APh {a:bA}(d:a.err=0)(e:Dk a=true)(m:2<=a.st.next/\a.st.next<=500)(f:0<=a.now/\a.now<=1099511627776):
  EA a Qc= {a with st:= {a.st with asked:=a.st.next,next:=a.st.next+1},more:=a.more++ [⟨a.st.next,2,a.now,0,0,0,false,⟨#[]⟩⟩]}:=by
 obtain⟨g,h,i,j,l⟩:=AHt e;have b:Ce a Qc=⟨a.st.next,2,a.now,0,0,0,false,⟨#[]⟩⟩:=by unfold Ce;rw[if_neg (by omega)];rfl
 have ok:=tE (id:=a.st.next) (tick:=a.now) (k:=2) (by omega) f (.inl rfl);have c:Bh a.st (Ce a Qc)=(0,{a.st with asked:=a.st.next,next:=a.st.next+1}):=by rw[b];unfold Bh;rw[if_neg (by simp[ok]),if_neg (by omega),if_neg (by simp[h]),if_neg (by simp)];unfold O7 Dq;rw[if_pos (show(2:Int)<=2/\(2:Int)<=5 by decide),if_pos rfl,if_pos ⟨j,l,i⟩];rfl
 rw[oF d (.inl g) (by rw[c]),c,b]
theorem ANV {a:bA}{n1:Nat}(c:a.err=0)(e:2<=a.st.next/\a.st.next<=500)(f:0<=a.now/\a.now<=1099511627776)(g:Ag a.wid=true):(ET a n1).err=0/\(ET a n1).wid=a.wid/\(ET a n1).now=a.now/\(ET a n1).st=(if Dk a=true then {a.st with asked:=a.st.next,next:=a.st.next+1} else a.st)/\(ET a n1).more=(if Dk a=true then a.more++ [⟨a.st.next,2,a.now,0,0,0,false,⟨#[]⟩⟩] else a.more):=by
 unfold ET;split
 ·rename_i h;have b:=APh c h e f;have i:WS (EA a Qc)=a.st.next:=by rw[b];show a.st.next+1-1=_;omega
  have d:KH ⟨1,WS (EA a Qc),0⟩ (EA a Qc).wid=true:=by rw[i,b];exact ZE (by decide) g (by omega)
  refine⟨pS (by rw[b];exact c) d,?_,?_,?_,?_⟩
  ·unfold EP;rw[if_neg (by rw[b];simp[c]),if_neg (by simp[d]),b]
  ·unfold EP;rw[if_neg (by rw[b];simp[c]),if_neg (by simp[d]),b]
  ·rw[(HY _ _ _ _).1,b]
  ·rw[(HY _ _ _ _).2,b]
 ·exact⟨c,rfl,rfl,rfl,rfl⟩
theorem AJj {a:bA}{n1 n2:Nat}(f:a.err=0)(g:2<=a.st.next/\a.st.next<=500)(h:0<=a.now/\a.now<=1099511627776)(b:Ag a.wid=true):(BA a n1 n2).err=0/\(BA a n1 n2).st=(if Dk a=true then {a.st with asked:=a.st.next,next:=a.st.next+1} else a.st)/\(BA a n1 n2).more=(if Dk a=true then a.more++ [⟨a.st.next,2,a.now,0,0,0,false,⟨#[]⟩⟩] else a.more):=by
 obtain⟨c,i,j,d,e⟩:=ANV (n1:=n1) f g h b;unfold BA;split
 ·refine⟨pS c (by rw[i];exact ZE (by decide) b (by decide)),?_,?_⟩
  ·rw[(HY _ _ _ _).1,d]
  ·rw[(HY _ _ _ _).2,e]
 ·exact⟨c,d,e⟩
theorem tF {x:bY}{p:cu}{n n0:Nat}{a:Int}(k:x.kind=1)(d:GI p=true)(l:Ag x.wid=true)(r:0<=a/\a<=1099511611776):
  (Cv x p (BQ none x.wid n a) n0).err=0/\(Cv x p (BQ none x.wid n a) n0).st=⟨p,0,2,a,0,0,true,[],[],false,false⟩/\(Cv x p (BQ none x.wid n a) n0).more= [⟨1,1,a,0,0,0,false,AY (Cq p)⟩]/\(Cv x p (BQ none x.wid n a) n0).wid=x.wid/\(Cv x p (BQ none x.wid n a) n0).now=a:=by
 have ok:=ANs (id:=1) (tick:=a) (p:=p) (by decide) (by omega) d;have f:(BQ none x.wid n a).err=0:=by show(if a<0\/1099511611776<a then(1:Int) else 0)=0;rw[if_neg (by omega)]
 have g:Ce (BQ none x.wid n a) (cR 1 (AY (Cq p)))=⟨1,1,a,0,0,0,false,AY (Cq p)⟩:=rfl;have h:Bh (BQ none x.wid n a).st (Ce (BQ none x.wid n a) (cR 1 (AY (Cq p))))=(0,⟨p,0,2,a,0,0,true,[],[],false,false⟩):=by rw[g];unfold Bh;rw[if_neg (by simp[ok]),if_pos (show(BQ none x.wid n a).st.next=0 from rfl),if_pos ⟨rfl,rfl⟩];unfold XX;dsimp only;rw[EF,vZ d];rfl
 have i:=oF f (e:=cR 1 (AY (Cq p))) (.inr (.inl (by show(0:Int)<=497;decide))) (by rw[h]);rw[h,g] at i;have base:(EA (BQ none x.wid n a) (cR 1 (AY (Cq p)))).err=0/\(EA (BQ none x.wid n a) (cR 1 (AY (Cq p)))).st=⟨p,0,2,a,0,0,true,[],[],false,false⟩/\(EA (BQ none x.wid n a) (cR 1 (AY (Cq p)))).more= [⟨1,1,a,0,0,0,false,AY (Cq p)⟩]/\(EA (BQ none x.wid n a) (cR 1 (AY (Cq p)))).wid=x.wid/\(EA (BQ none x.wid n a) (cR 1 (AY (Cq p)))).now=a:=by rw[i];exact⟨f,rfl,rfl,rfl,rfl⟩
 unfold Cv;rw[if_pos k];split
 ·obtain⟨b,m,o,j,q⟩:=base;have c:KH ⟨6,0,0⟩ (EA (BQ none x.wid n a) (cR 1 (AY (Cq p)))).wid=true:=by rw[j];exact ZE (by decide) l (by decide)
  refine⟨pS b c,by rw[(HY _ _ _ _).1,m],by rw[(HY _ _ _ _).2,o],?_,?_⟩
  ·unfold EP;rw[if_neg (by simp[b]),if_neg (by simp[c])];exact j
  ·unfold EP;rw[if_neg (by simp[b]),if_neg (by simp[c])];exact q
 ·exact base
theorem Xf {x:bY}{p:cu}{n n0 n1 n2:Nat}{a:Int}(f:x.kind=1)(g:GI p=true)(b:Ag x.wid=true)(h:0<=a/\a<=1099511611776):
  (BA (EL x p (BQ none x.wid n a) n0) n1 n2).err=0/\(BA (EL x p (BQ none x.wid n a) n0) n1 n2).st=⟨p,0,3,a,2,0,true,[],[],false,false⟩/\(BA (EL x p (BQ none x.wid n a) n0) n1 n2).more= [⟨1,1,a,0,0,0,false,AY (Cq p)⟩,⟨2,2,a,0,0,0,false,⟨#[]⟩⟩]:=by
 obtain⟨i,j,k,l,m⟩:=tF (n:=n) (n0:=n0) f g b h;have c1:(EL x p (BQ none x.wid n a) n0).err=0:=i;have c2:(EL x p (BQ none x.wid n a) n0).st=⟨p,0,2,a,0,0,true,[],[],false,false⟩:=j;have c3:(EL x p (BQ none x.wid n a) n0).more= [⟨1,1,a,0,0,0,false,AY (Cq p)⟩]:=k;have o:(EL x p (BQ none x.wid n a) n0).wid=x.wid:=l;have c:(EL x p (BQ none x.wid n a) n0).now=a:=m;obtain⟨q,d,e⟩:=AJj (n1:=n1) (n2:=n2) c1 (by rw[c2];exact⟨(by decide:(2:Int)<=2),(by decide:(2:Int)<=500)⟩) (by rw[c];omega) (by rw[o];exact b);have r:Dk (EL x p (BQ none x.wid n a) n0)=true:=by unfold Dk;rw[c2,c3];rfl
 rw[r,if_pos rfl] at d e;refine⟨q,?_,?_⟩
 ·rw[d,c2];show(⟨p,0,2+1,a,2,0,true,[],[],false,false⟩:bg)=_;rfl
 ·rw[e,c2,c3,c];rfl
structure AUM (h:aa) (x:bY) (p:cu):Prop where
 V:View Qb h x.steps p.steps
 lim:x.az=p.az
 len:p.steps.length<=1099511627776
 sz: ∀y∈p.steps,y.name.size<=1099511627776/\y.aK.size<=1099511627776
 name:x.name.size<=1099511627776
 wid:x.wid.size<=1099511627776
 aV:x.aV.size<=1099511627776
theorem EW.less [Zc]{g h:aa}{s b d:Nat}{l:List Hs}{e:List Pr}{f:dd}{i:dm}{j O':Nat->Prop}(a:EW g h s b d l e f i j)(k: ∀c,O' c->j c):EW g h s b d l e f i O':=⟨a.w.less k,a.m,a.all⟩
theorem br.aS {g h a:aa}{b:Nat->Prop}{c:Nat}{d:Obj}(m:Mod (br g b) h a)(e:h[c]? =some d)(f:b c):a[c]? =some d:=m.ag e λi=>i.2 f
abbrev tG:bP:=⟨1,⟨#[97]⟩,⟨#[]⟩,1,0,0⟩
theorem pT {a:dd}{b:dm}{x:bY}{p:cu}(e:1<=x.kind/\x.kind<=4)(c:Nz x p=0)(d:b x.aV=none):NN a b 1 x p=(match a x.wid with
   |none=>if x.kind=1 then none else some (180,0,0)
   |some l=>if x.kind=1 then some (181,0,0) else if(Av l).status≠0 then some (182,0,0) else none):=by
 unfold NN;rw[if_neg (by omega),if_neg (by simp[c]),if_neg (by decide),d]
 try rfl
theorem XP.start {c k:dd}{d l:dm}{n:Nat}{x:bY}{p:cu}{a m st nx:Int}(D:XP c d n x p a m st nx k l)(b:x.kind=1)(o:Nz x p=0)(E:d x.aV=none)(f:c x.wid=none)(q:0<=a/\a<=1099511611776):
  m=0/\st=0/\nx=3/\k=dC c x.wid [⟨1,1,a,0,0,0,false,AY (Cq p)⟩,⟨2,2,a,0,0,0,false,⟨#[]⟩⟩]/\l=dC d x.aV (Mo x p,0,3)/\Av [⟨1,1,a,0,0,0,false,AY (Cq p)⟩,⟨2,2,a,0,0,0,false,⟨#[]⟩⟩]=⟨p,0,3,a,2,0,true,[],[],false,false⟩:=by
 obtain⟨r,H,s,I⟩:=Z0 o;have F:NN c d 1 x p=none:=by rw[pT (by omega) o E,f];show(if x.kind=1 then none else some (180,0,0))=none;rw[if_pos b]
 rcases D with⟨_,_,t|⟨_,i,_,_,n0,n1,n2,u⟩⟩|⟨_,i,n0,n1,n2,J,v,K,j,w,y,z,e⟩
 ·rw[F] at t;cases t
 ·exfalso;rw[f] at u;exact i (u.trans (Xf b (r b) s q).1)
 ·rw[f] at v j e;obtain⟨G,B,C⟩:=Xf (n:=n) (n0:=n0) (n1:=n1) (n2:=n2) b (r b) s q;rw[<- v] at G B C;rw[Option.getD_none,DA,C] at j e;rw[B] at w y z e;exact⟨i,y,z,j,w,e⟩
section
variable {A : al} {g h : aa} {R : A2J}
end
section
variable {A : al} {g h : aa} {s k N sh i : Nat} {l : List Hs} {mp : List Pr} {O : Nat -> Prop} {y : Hs} {fl : dd} {an : dm} {R : A2J} {cb : Nat} {z : Nat -> Nat} {x : eO} {C : bA}
structure AUL (mp:List Pr) (fl:dd) (C:bA):Prop where
 wid:Ag C.wid=true
 fits:C.fits ((fl C.wid).getD [])
 more:C.more≠ []
 st:EU C.st 500
 ok: ∀e∈C.more,Di e=true/\e.data.size<1099511627776
 len:C.more.length+C.ar.length<=50/\C.conds.length<=50
 keys: ∀p∈C.conds,p.key.size<=1099511627776
 base:pR C (fl C.wid)
 cA:0<=C.cA/\C.cA<=4
 bZ:0<=C.bZ/\C.bZ<=501
 now:0<=C.now/\C.now<=1099511627776
 next:2<=C.st.next/\C.st.next<=500
 err:C.err=0
 bes:C.beside none
end
theorem ANZ {p:al}{f:aa}{a b:Sl}{c d:List Ev}{o:A2J}(j:View cG f a c)(k:View cG f b d)(L:c.length<=1099511627776)
  (l:o (J3 (decide (c=d))) f):AA p P DN #[J4 a.p a.len a.cap,J4 b.p b.len b.cap] f o:=by
 refine Ij ?_;unfold FC;rw[j.len,k.len];refine af.intro (λe=>?_) (λe=>?_)
 ·have:c≠d:=by rintro rfl;simp at e
  simpa [this] using l
 ·have M:c.length=d.length:=by simp at e;omega
  refine Loop.rule (λm x q=> ∃i:Nat,x=((i:Int),())/\q=f/\m=c.length-i/\i<=c.length/\c.take i=d.take i) ?_ ⟨0,rfl,rfl,rfl,by omega,by simp⟩;rintro K m _ _ ⟨i,rfl,rfl,rfl,N,n⟩ r;refine af.intro (λe=>?_) (λe=>?_)
  ·have h:i<c.length:=by simpa using e
   rw[<- j.len];refine j.idx (A2 h) λO _ c1=>?_
   obtain⟨s,t,u,v,w,y,z,A⟩:=jX c1;refine AC.mk s (AC.mk t (AC.mk u (AC.mk v (AC.mk w (AC.mk y (AZ.mk z (AJ.mk A ?_)))))));rw[<- k.len];refine k.idx (A2 (by omega)) λQ _ c2=>?_
   obtain⟨B,C,D,E,F,G,H,I⟩:=jX c2;refine AC.mk B (AC.mk C (AC.mk D (AC.mk E (AC.mk F (AC.mk G (AZ.mk H (AJ.mk I ?_)))))));refine yA ⟨_,rfl,?_⟩;refine af.intro (λg=>?_) (λg=>?_)
   ·have g:c[i]≠d[i]'(by omega):=by simpa using g
    have:c≠d:=by rintro rfl;exact g rfl
    simpa [this] using l
   ·have J:c[i]=d[i]'(by omega):=by simpa using g
    dsimp only;rw[Ab (by omega)];refine r (c.length-(i+1)) _ _ (by omega) ⟨i+1,rfl,rfl,rfl,h,?_⟩;rw[LN h,LN (show i<d.length by omega),n,J]
  ·have h:i=c.length:=by simp at e;omega
   have:c=d:=by rw[Ax (by omega),Ax (by omega)] at n;exact n
   simpa [this] using l
theorem AOD {C:al}{d:aa}{s:Sl}{l:List Ev}{u:A2J}(v:View cG d s l)(Z:l.length<=1099511627776)(hd: ∀e∈l,e.data.size<=4194304)(o: ∀w,Ext d w->u (oP l) w):AA C P SG #[J4 s.p s.len s.cap] d u:=by
 refine AEz ?_;unfold ZV;rw[v.len];refine af.intro (λp=>?_) (λp=>?_)
 ·have q:500<l.length:=by simp at p;omega
  have:=o d Mod.refl;simp only[oP,EJ,if_pos q] at this;exact this
 have q: ¬500<l.length:=by simp at p;omega
 have y:EJ l=if l.all Di then(0,Nc l) else(120,[]):=by unfold EJ;rw[if_neg q]
 rw[Bu (by omega)];have ab:=AV (n:=l.length) (by omega);refine CU (by omega) λac D=>⟨_,rfl,?_⟩
 refine Loop.rule (λm x f=> ∃i:Nat,x=(AY (BU l.length++(l.take i).flatMap λe=>BF (EH e)),(i:Int),())/\Ext d f/\m=l.length-i/\i<=l.length/\(l.take i).all Di=true) ?_
  ⟨0,by simp,D,rfl,by omega,rfl⟩
 rintro K m _ f ⟨i,rfl,g,rfl,ad,h⟩ E;refine af.intro (λr=>?_) (λr=>?_)
 ·have t:i<l.length:=by simpa using r
  obtain⟨e,j⟩: ∃e,l[i]? =some e:=⟨_,A2 t⟩;have z:=AK j;have ag:=hd e z;rw[<- v.len];refine(v.ext g).idx j λa _ c=>?_
  rw[v.len];obtain⟨F,G,H,I,J,L,M,N⟩:=jX c;refine AC.mk F (AC.mk G (AC.mk H (AC.mk I (AC.mk J (AC.mk L (AZ.mk M (AJ.mk N ?_)))))));refine ao.mk λah _ O Q _=>ae.eight O λA b R ai=>?_
  have S:Ext d A:=(g.trans Q).more R λc T=>by subst T;exact g.size
  refine AC.mk (AL b rfl) (AC.mk (AB b rfl) (AC.mk (AB b rfl) (AC.mk (AB b rfl) (AC.mk (AB b rfl) (AC.mk (AB b rfl) (AZ.mk (AB b rfl) (AJ.mk (AB b rfl) ?_)))))));refine yu (e:=e) (by omega) λU V=>⟨_,_,rfl,?_⟩
  have B:=S.trans V;cases k:Di e with
  |false=>
   refine af.yes rfl ?_;have:=o U B;rw[oP,y,if_neg] at this
   ·exact this
   ·intro f;rw[DO] at f;rw[f e z] at k;cases k
  |true=>
   refine af.no rfl ?_;have A:=MF (GU k) (by omega);have aj:=AV (n:=(EH e).length) (by omega);have ak:=yB h λx W=>hd x (DB W)
   have X:(l.take i).length<=500:=by simp;omega
   have am:(l.take i).length*5000000<=500*5000000:=AN _ X;refine PO (l:=EH e) (by omega) λan Y=>⟨_,rfl,⟨?_,?_⟩⟩
   ·dsimp only;have ap:(BF (EH e)).length=(BU (EH e).length).length+(EH e).length:=by simp[BF]
    rw[AP,AP,max_i64,A1];omega
   ·dsimp only;rw[Ab (by omega),Ak];refine E (l.length-(i+1)) _ _ (by omega) ⟨i+1,?_,B.trans Y,rfl,t,?_⟩
    ·rw[AD,j,CA,Fm,A4];simp
    ·rw[AD,j,CA,Se,h];simpa using k
 ·have t:i=l.length:=by simp at r;omega
  rw[Ax (by omega)] at h;have:=o f g;rw[oP,y,if_pos h] at this;dsimp only;rw[Ax (by omega)];exact this
theorem AJl {R:al}{d:aa}{l:List UInt8}{t:A2J}(au:l.length<1099511627776)
  (D:LZ l=none-> ∀k,Ext d k->t (J1 #[J4 none 0 0,J6 J9 60]) k)
  (S: ∀e,LZ l=some e-> ∀k s,Ext d k->View cG k s e->e.length<=500->t (J1 #[J4 s.p s.len s.cap,J6 J9 0]) k):AA R P PN #[J7 (AY l)] d t:=by
 refine ABn ?_;unfold Tq;refine KI λu T U=>⟨_,rfl,?_⟩
 refine DY (most:=500) T (by simp only;omega) (by decide) λV W X=>⟨_,rfl,?_⟩
 have Y:Ext d V:=U.more X λc b=>by omega
 have Z:=Ht 500 ⟨l,false⟩;have ab:(CB 500 ⟨l,false⟩).1<=500:=by
  unfold CB;split
  ·exact A5 _
  ·split
   ·exact A5 _
   ·omega
 have f:LZ l=match WC (CB 500 ⟨l,false⟩).1 (CB 500 ⟨l,false⟩).2 with|none=>none|some (q,a)=>if SK a then some q else none:=rfl
 generalize av:d.size=v at*
 refine Loop.rule (λm x n=> ∃(g:Nat) (s:Sl) (e:List Ev) (a:Rd),x=(s,(g:Int),())/\Ext d n/\Ip n v a/\Own cG Ae n s e/\(∀ c,s.ag=some c->d.size<=c/\c≠v)/\m=g/\a.rest.length<=l.length/\e.length+g<=500/\
  LZ l=match WC g a with|none=>none|some (q,r)=>if SK r then some (e++q) else none) ?_ ⟨(CB 500 ⟨l,false⟩).1,⟨none,0,0⟩,[],(CB 500 ⟨l,false⟩).2,rfl,Y,W,Own.nil,λc b=>by simp[Sl.ag] at b,rfl,Z,by simpa using ab,f⟩
 rintro K m _ n ⟨g,s,e,a,rfl,w,F,G,fr,aw,ax,ay,f⟩ ac;refine af.intro (λy=>?_) (λy=>?_)
 ·have H:0<g:=by simp at y;omega
  obtain⟨h,rfl⟩: ∃h,g=h+1:=⟨g-1,by omega⟩;have az:=Qs a;refine Hg F (by omega) λad ag I=>⟨_,rfl,?_⟩
  have ah:Ext d ad:=w.more I λc b=>by omega
  have ai:=G.mod I λc b=>(fr c b).2
  refine yx (by omega) λaA z=>⟨_,_,_,_,_,_,_,_,_,rfl,?_⟩
  have J:=ah.trans z;have L:=z.ag ag (λd=>d);have M:=ai.ext z;refine ao.mk λaC _ aj A aD=>ae.eight aj λN i B aE=>?_
  have aF:=J.size;have C:Ext d N:=(J.trans A).more B λc b=>by omega
  have O:=B.ag (A.ag L (λd=>d)) (by have:=Ai L;omega);have ak:=(M.ext A).mod B λc b o=>by have:=M.lt b;omega
  have am:WC (h+1) a=match Vv (FE a).1 with|none=>none|some o=>match WC h (FE a).2 with|none=>none|some (l,r)=>some (o::l,r):=rfl
  rw[am] at f;cases hd:Vv (FE a).1 with
  |none=>
   rw[hd] at f;exact af.yes rfl (D f N C)
  |some o=>
   rw[hd] at f i;refine af.no rfl ?_;refine AC.mk (AL i rfl) (AC.mk (AB i rfl) (AC.mk (AB i rfl) (AC.mk (AB i rfl) (AC.mk (AB i rfl) (AC.mk (AB i rfl) (AZ.mk (AB i rfl) (AJ.mk (AB i rfl) ?_)))))));refine ao.aZ (E:=cG) (x:=o) (s:=s) (l:=e) rfl mH ak (by omega) (by simp[maxLen];omega) λan k ap Q aq aG=>?_
   have ar:s.ag≠some v:=λb=>(fr _ b).2 rfl
   dsimp only;rw[show((h+1:Nat):Int)-(1:Int)=((h:Nat):Int) by simp,Eb (by omega)];refine ac h _ _ (by omega) ⟨h,an,e++ [o],(FE a).2,rfl,C.more Q λc b=>(fr c b).1,Q.ag O ar,ap,λc b=>?_,rfl,by omega,by simp;omega,?_⟩
   ·rcases aq c b with u|u
    ·exact fr c u
    ·have j:=Ai O;have aH:=C.size;omega
   ·rw[f];cases aI:WC h (FE a).2 with
    |none=>rfl
    |some p=>obtain⟨q,r⟩:=p;simp
 ·have H:g=0:=by simp at y;omega
  subst H;simp only[WC,AM] at f;refine MU F ⟨_,rfl,?_⟩;refine af.intro (λj=>?_) (λj=>?_)
  ·have j:SK a=false:=by simpa using j
   exact D (by rw[f,j];rfl) n w
  ·have j:SK a=true:=by simpa using j
   exact S e (by rw[f,j];rfl) n s w G.view (by omega)
def zn(a:A2K):A2K:=(⟨#[122]⟩:A2K)++a
theorem AQ9(a:A2K):(zn a).size=1+a.size:=by unfold zn;rw[Hk];rfl
theorem AST {a b:A2K}(c:zn a=zn b):a=b:=by have:=congrArg (λs:A2K=>s.data.toList) c;simp[zn,Hb] at this;apply NO;exact Array.toList_inj.1 (by simpa using this)
theorem ARZ {a:A2K}(b:Ag a=true):Jr (zn a)=false:=by have e:=Gi.1 b;have c:=AQ9 a;unfold Jr;rw[GC,decide_eq_false_iff_not,decide_eq_false_iff_not];refine⟨λd=>?_,by omega⟩;rw[d] at c;have:bq.size=0:=rfl;omega
def Vw(m:Bx)(a:A2K):Int×List Ev:=
 if Ag a=true then
  if(FD m (zn a)).2≠0 then((FD m (zn a)).2,[])
  else if(Dc (bl (FD m (zn a)).1)).1≠0 then((Dc (bl (FD m (zn a)).1)).1,[])
  else if(Dc (bl (FD m (zn a)).1)).2.2≠ [] then(60,[])
  else match LZ (Dc (bl (FD m (zn a)).1)).2.1 with|none=>(60,[])|some l=>(0,l)
 else(1,[])
theorem Te {d:al}{b:aa}{a:A2K}{c:A2J}(f:a.size<=1099511627776)(e:c (J7 (zn a)) b):AA d P GD #[J7 a] b c:=by refine ABs ?_;unfold Uv;exact⟨by have:(⟨#[122]⟩:A2K).size=1:=rfl;rw[max_i64];omega,e⟩
theorem AMZ {m:Bx}(a:A2K):(FD m a).1.size<=ba m.files:=by
 unfold FD;split
 ·exact A5 _
 ·cases b:Cc a m.files with
  |none=>exact A5 _
  |some f=>
   have:=Yv (JJ b).2;simp only[Hk];exact this
theorem ANK {A:al}{h:aa}{s:A2K}{R:A2J}(b:s.size<=1099511627776)
  (c: ∀a,Ext h a->R (J1 #[J7 (AY (Dc (bl s)).2.1),J7 (AY (Dc (bl s)).2.2),J6 J9 ((Dc (bl s)).1:Int)]) a):AA A P LY #[J7 s] h R:=by
 have:=rO (A:=A) (h:=h) (l:=bl s) (R:=R) (by rw[A8];exact AH b (by decide)) c;rwa [LP] at this
theorem AP0(l:List UInt8):(Dc l).2.1.length<=l.length:=by
 unfold Dc;cases a:MK 0 0 l with
 |none=>dsimp only;split<;>exact A5 _
 |some p=>
  obtain⟨c,t⟩:=p;obtain⟨b,_⟩:=kZ a;have d:t.length<=l.length:=by rw[b];simp
  dsimp only;split
  ·exact A5 _
  ·split
   ·exact A5 _
   ·split
    ·simp;omega
    ·exact A5 _
theorem XZ {y:al}{f:aa}{q b:Nat}{z:Nat->Prop}{m:Bx}{a:A2K}{T:Q7}{i:A2J}(r:f[q]? =some (J2 #[Ap b] T (0,0)))(A:Cf f b z m)(G:ba m.files<1099511627776)(B:a.size<=1099511627776)
  (t: ∀e s,Ext f e->View cG e s (Vw m a).2->(Vw m a).2.length<=500->i (J1 #[J4 s.p s.len s.cap,J6 J9 (Vw m a).1]) e):AA y P Dt #[Ap q,J7 a] f i:=by
 refine PV ?_;unfold KP;have g: ∀e (j:Int),Ext f e->Vw m a=(j,[])->i (J1 #[J4 none 0 0,J6 J9 j]) e:=λe j x k=>by
  have:=t e ⟨none,0,0⟩ x (by rw[k];exact View.nil) (by rw[k];exact A5 _);rw[k] at this;exact this
 refine ai.mk λK C=>af.no rfl (Er ⟨_,rfl,C _ _ ?_⟩)
 have d:Vw m a=if Ag a=true then
  if(FD m (zn a)).2≠0 then((FD m (zn a)).2,[])
  else if(Dc (bl (FD m (zn a)).1)).1≠0 then((Dc (bl (FD m (zn a)).1)).1,[])
  else if(Dc (bl (FD m (zn a)).1)).2.2≠ [] then(60,[])
  else match LZ (Dc (bl (FD m (zn a)).1)).2.1 with|none=>(60,[])|some l=>(0,l)
  else(1,[]):=rfl
 cases u:Ag a with
 |false=>
  rw[u,if_neg (by decide)] at d;exact af.yes rfl (g f 1 Mod.refl d)
 |true=>
  rw[u,if_pos rfl] at d;refine af.no rfl (aD (AX.mk (AL r rfl) (Te B ⟨_,rfl,AL r rfl,?_⟩)));refine YZ A ⟨_,_,rfl,?_⟩;refine af.intro (λc=>?_) (λc=>?_)
  ·have c:(FD m (zn a)).2≠0:=by simpa using c
   rw[if_pos c] at d;exact g f _ Mod.refl d
  have c: ¬(FD m (zn a)).2≠0:=by simpa using c
  rw[if_neg c] at d;have H:=AMZ (m:=m) (zn a);refine ANK (by omega) λw h=>⟨_,_,_,rfl,?_⟩
  refine af.intro (λc=>?_) (λc=>?_)
  ·have c:(Dc (bl (FD m (zn a)).1)).1≠0:=by simp at c;omega
   rw[if_pos c] at d;exact g w _ h d
  have c: ¬(Dc (bl (FD m (zn a)).1)).1≠0:=by simp at c;omega
  rw[if_neg c] at d;rw[mF];have D:decide (AY (Dc (bl (FD m (zn a)).1)).2.2=G9)=decide ((Dc (bl (FD m (zn a)).1)).2.2= []):=by rw[decide_eq_decide];exact K9 (b:= [])
  rw[D];refine af.intro (λc=>?_) (λc=>?_)
  ·have c:(Dc (bl (FD m (zn a)).1)).2.2≠ []:=by simpa using c
   rw[if_pos c] at d;exact g w _ h d
  have c: ¬(Dc (bl (FD m (zn a)).1)).2.2≠ []:=by simpa using c
  rw[if_neg c] at d;have E:=AP0 (bl (FD m (zn a)).1);rw[A8] at E;refine AJl (by omega) (λn o p=>⟨⟨none,0,0⟩,_,rfl,?_⟩) (λI n o s p v F=>⟨s,_,rfl,?_⟩)
  ·rw[n] at d;exact g o _ (h.trans p) d
  ·rw[n] at d;have:=t o s (h.trans p) (by rw[d];exact v) (by rw[d];exact F);rw[d] at this;exact this
def Ps(a:A2K)(l:List Ev):Int:=if Ag a=true then(if(EJ l).1≠0 then(EJ l).1 else if 1048576<(EJ l).2.length then 2 else 0) else 1
def bN(l:List Ev):A2K:=AY (CY (EJ l).2)
theorem rK {b:A2K}{l:List Ev}(a:Ps b l=0):Ag b=true/\(EJ l).1=0/\(EJ l).2.length<=1048576:=by
 unfold Ps at a;split at a
 ·rename_i c;split at a
  ·rename_i d;exact absurd a (by omega)
  ·split at a
   ·cases a
   ·rename_i d e;exact⟨c,by omega,by omega⟩
 ·cases a
theorem AMj {l:List Ev}(a:(EJ l).1=0):l.length<=500/\l.all Di=true/\(EJ l).2=Nc l:=by
 unfold EJ at a ⊢;split at a
 ·cases a
 ·rename_i c;split at a
  ·rename_i b;rw[if_neg c,if_pos b];exact⟨by omega,b,rfl⟩
  ·cases a
theorem yc {m:Bx}(c:m.down=false){a:A2K}{l:List Ev}(g:Ps a l=0)(hd: ∀b∈l,b.data.size<=4194304)(h:ff m (zn a)=some (bN l,bq)):Vw m a=(0,l):=by
 obtain⟨i,j,k⟩:=rK g;obtain⟨n,d,o⟩:=AMj j;have p:FD m (zn a)=(bN l,0):=by rw[YS c,h];simp[VT]
 have e:=rH (l:=(EJ l).2) k [];rw[AM] at e;have q:LZ (EJ l).2=some l:=by
  rw[o];refine fg n d λb f=>?_
  have:=hd b f;have:=MF (GU (List.all_eq_true.1 d b f)) (by omega);omega
 unfold Vw;rw[if_pos i,p];simp only[bN,EF,e,q];rfl
theorem AJy {a:A2K}{l:List Ev}(b:Ps a l=0):(bN l).size<=1048590:=by obtain⟨_,_,c⟩:=rK b;have:=AV (n:=(EJ l).2.length) (by omega);simp only[bN,AP,CY,A1,Jj];omega
theorem ANo {f:al}{b:aa}{l:List UInt8}{d:A2J}(g:l.length<=1099511627776)
  (e: ∀a s c,Ext b a->(1048576<l.length->s=(⟨#[]⟩:A2K)/\c=(2:Int))->(l.length<=1048576->s=AY (CY l)/\c=0)->d (J1 #[J7 s,J6 J9 c]) a):AA f P Fp #[J7 (AY l)] b d:=
 YX g (λh=>e b _ _ Mod.refl (λ_=>⟨rfl,rfl⟩) λi=>by omega) λh a x=>e a _ _ x (λi=>by omega) λ_=>⟨rfl,rfl⟩
theorem AQI {l:List Ev}(c:l.length<=1099511627776)(hd: ∀a∈l,a.data.size<=4194304):(EJ l).2.length<=1099511627776:=by
 unfold EJ;split
 ·exact A5 _
 ·rename_i d;split
  ·rename_i b;have e:=yB b hd;have f:=AV (n:=l.length) (by omega);have g:l.length*5000000<=500*5000000:=AN _ (by omega);simp only[Nc,A1];omega
  ·exact A5 _
theorem yd {ar:al}{e:aa}{r b:Nat}{n:Nat->Prop}{m:Bx}{a:A2K}{s:Sl}{l:List Ev}{T:Q7}{A:A2J}(U:e[r]? =some (J2 #[Ap b] T (0,0)))(au:Cf e b n m)(c:Calm m)(V: ¬n r)
  (aX:ba m.files+2000000<1099511627776) (u:a.size<=1099511627776) (v:View cG e s l) (av: ∀h,Mod n e h->View cG h s l) (B:l.length<=1099511627776) (hd: ∀C∈l,C.data.size<=4194304)
  (D:Ps a l≠0-> ∀h,Ext e h->A (J6 J9 (Ps a l)) h)
  (aw:Ps a l=0-> ∀h S' w,Cf h b S' w->Calm w->Mod n e h->(∀ c,S' c->n c\/e.size<=c)->(∀ x,ff w x=if x=zn a then some (bN l,bq) else ff m x)->ba w.files<=ba m.files+2000000->A (J6 J9 0) h):
  AA ar P Df #[Ap r,J7 a,J4 s.p s.len s.cap] e A:=by
 refine RL ?_;unfold LD;have aY:=Ai U;refine ai.mk λK ax=>af.no rfl (Er ⟨_,rfl,ax _ _ ?_⟩)
 have g:Ps a l=if Ag a=true then(if(EJ l).1≠0 then((EJ l).1:Int) else if 1048576<(EJ l).2.length then 2 else 0) else 1:=rfl;cases E:Ag a with
 |false=>
  rw[E,if_neg (by decide)] at g;have:=D (by rw[g];decide) e Mod.refl;rw[g] at this;exact af.yes rfl this
 |true=>
  rw[E,if_pos rfl] at g;refine af.no rfl (AOD v B hd λF G=>⟨_,_,rfl,?_⟩);refine af.intro (λj=>?_) (λj=>?_)
  ·have j:(EJ l).1≠0:=by simp at j;omega
   rw[if_pos j] at g;have:=D (by rw[g];omega) F G;rw[g] at this;exact this
  have j: ¬(EJ l).1≠0:=by simp at j;omega
  rw[if_neg j] at g;refine ANo (AQI B hd) λy aZ a0 W ay az=>⟨_,_,rfl,?_⟩
  by_cases H:1048576<(EJ l).2.length
  ·obtain⟨rfl,rfl⟩:=ay H;rw[if_pos H] at g;have:=D (by rw[g];decide) y (G.trans W);rw[g] at this;exact af.yes rfl this
  ·obtain⟨rfl,rfl⟩:=az (by omega);rw[if_neg H] at g;refine af.no rfl ?_;have o:=G.trans W;have I:=o.ag U (λe=>e);have aA:=au.ext o;have v2:=v.ext o;refine aD (AX.mk (AL I rfl) (Te u ⟨_,rfl,AL I rfl,?_⟩));obtain⟨t,X⟩:((Cj m (zn a)).1=0\/(Cj m (zn a)).1=31)/\ ∀x,ff (Cj m (zn a)).2 x=if x=zn a then none else ff m x:=by
    cases J:ff m (zn a) with
    |some p=>
     have:=wq c.goes (k:=zn a) (by rw[J];rfl);exact⟨.inl this.1,this.2⟩
    |none=>
     have C:Cj m (zn a)=(31,m):=by
      have F:Cc (zn a) m.files=none:=by
       have:=SI (m:=m) (k:=zn a);rw[J] at this;cases y:Cc (zn a) m.files with
       |none=>rfl
       |some f=>rw[y] at this;cases this
      unfold Cj;rw[if_neg (by simp[c.1]),F];rfl
     rw[C];refine⟨.inr rfl,λx=>?_⟩;split
     ·rename_i e;rw[e];exact J
     ·rfl
   have Y:=AIA c (zn a);refine R8 aA λaC aE Z L z=>⟨_,rfl,?_⟩
   have a1:=VL (m:=m) (zn a);refine ai.mk λaF aG=>?_
   have ab:aF (false,()) aC:=by
    refine aG _ _ (af.no rfl ?_);have M:=L.ag I V;refine aD (AX.mk (AL M rfl) (Te u ⟨_,rfl,AL M rfl,?_⟩));have a2:=AJy g;obtain⟨aH,ac⟩:=wm Y.goes (k:=zn a) (d:=bN l) (ARZ E);have ad:=AIR Y (zn a) (bN l);refine Xe Z (by show ba (Cj m (zn a)).2.files+(bN l).size+1<=_;omega) λa3 N ae ag O=>⟨_,rfl,?_⟩
    have aI:=VK Z.aQ (zn a) (bN l);have aJ:(CS (Cj m (zn a)).2 (zn a) (AY (CY (EJ l).2))).1=0:=aH;rw[aJ];refine af.no rfl ?_;have ah: ¬aE r:=λi=>V (z _ i)
    have Q:=ag.ag M ah;refine aD (AX.mk (AL Q rfl) (Te u ⟨_,rfl,AL Q rfl,?_⟩));have aK:ff (CS (Cj m (zn a)).2 (zn a) (bN l)).2 (zn a)=some (bq,bN l):=by rw[ac,if_pos rfl,X,if_pos rfl];simp[MV]
    obtain⟨aL,aj⟩:=wo ad.goes aK;have ak:=ANk ad (zn a);refine pA ae λR aM am=>⟨_,rfl,?_⟩
    have aN:=YO ae.aQ (zn a);have aO:(FR (CS (Cj m (zn a)).2 (zn a) (AY (CY (EJ l).2))).2 (zn a)).1=0:=aL;rw[aO];refine af.no rfl ?_;have a4:=o.size;have a5:=L.size;have aP: ¬N r:=λi=>by rcases O _ i with e|e;exact ah e;omega
    have aQ:=am.ag Q aP;have an:Mod n y R:=(L.trans (ag.aj λc _ i=>z c i)).then (am.aj λc _ i=>by rcases O c i with e|e;exact .inl (z c e);exact .inr (by omega));have aR:ff (FR (CS (Cj m (zn a)).2 (zn a) (bN l)).2 (zn a)).2 (zn a)=some (bN l,bq):=by rw[aj,if_pos rfl];simp[MV]
    have aS:=yc ak.1 g hd aR;have aT:ba (FR (CS (Cj m (zn a)).2 (zn a) (bN l)).2 (zn a)).2.files<=ba m.files+2000000:=by have a6:ba (CS (Cj m (zn a)).2 (zn a) (bN l)).2.files<=ba (Cj m (zn a)).2.files+(bN l).size+1:=aI;have a7:ba (FR (CS (Cj m (zn a)).2 (zn a) (bN l)).2 (zn a)).2.files<=ba (CS (Cj m (zn a)).2 (zn a) (bN l)).2.files:=aN;omega
    have ao:Cf R b N (FR (CS (Cj m (zn a)).2 (zn a) (bN l)).2 (zn a)).2:=aM;generalize a8:(FR (CS (Cj m (zn a)).2 (zn a) (bN l)).2 (zn a)).2=aU at*
    refine XZ aQ ao (by omega) u λap aV S aq a9=>⟨aV,_,rfl,?_⟩
    rw[aS] at aq ⊢;refine af.no rfl ?_;have aW:View cG ap s l:=(av R ((Ext.mod o).trans an)).ext S;refine ANZ aq aW B ⟨_,rfl,?_⟩;rw[decide_eq_true rfl];refine af.no rfl ?_;refine aw g ap N aU (ao.ext S) ak ?_ ?_ ?_ aT
    ·exact((Ext.mod o).trans an).trans (Ext.mod S)
    ·intro c i;rcases O c i with e|e
     ·exact .inl (z c e)
     ·exact .inr (by omega)
    ·intro x;rw[aj];by_cases q:x=zn a
     ·rw[if_pos q,if_pos q];simp[MV]
     ·rw[if_neg q,if_neg q,ac,if_neg q,X,if_neg q]
   rcases t with t|t
   ·rw[t];exact af.no rfl ab
   ·rw[t];exact af.yes rfl ab
def gh(id a:Int):Ev:=⟨id,a,0,0,0,0,false,G9⟩
theorem ASV {id:Int}(a:1<=id/\id<=500):Di (gh id 2)=true/\Di (gh id 13)=true:=by constructor<;>simp[Di,Ei,KV,gh,cU,dp,dB,dJ,dK,cV,bU,a.1,a.2]
theorem AKf {d:A2K}{l:List Ev}(f:Ag d=true)(g:l.length<=500)(e:l.all Di=true)(hd: ∀a∈l,a.data.size=0):Ps d l=0:=by
 have h:EJ l=(0,Nc l):=by unfold EJ;rw[if_neg (by omega),if_pos e]
 have i: ∀l:List Ev,l.all Di=true->(∀ a∈l,a.data.size=0)->(l.flatMap λa=>BF (EH a)).length<=l.length*110:=by
  intro l
  induction l with
  |nil=>intro _ _;simp
  |cons a l j=>
   intro b c;simp only[Hi,A3] at b;have k:=j b.2 λx m=>c x (AG _ m)
   have o:=c a (by simp);have p:=MF (GU b.1) (by omega);have q:=AV (n:=(EH a).length) (by omega);have r:(BF (EH a)).length=(BU (EH a).length).length+(EH a).length:=by simp[BF]
   simp only[AF,A1,A6];omega
 have b:=i l e hd;have c:=AV (n:=l.length) (by omega);have k:(Nc l).length<=1048576:=by simp only[Nc,A1];have:l.length*110<=500*110:=AN _ g;omega
 unfold Ps;rw[if_pos f,h];simp only;rw[if_neg (by simp),if_neg (by omega)]
theorem OX {x:A2K}(h:cF x):(bl x).head? ≠some 122:=by
 rcases h with⟨b,rfl⟩|⟨b,rfl⟩|⟨b,rfl⟩
 ·rw[Q3];decide
 ·rw[Ti];decide
 ·rw[Xx];decide
theorem ARB(b:A2K):(bl (zn b)).head? =some 122:=by unfold zn bl;rw[Hb,IN];rfl
theorem ASg {d G:bO}{e:Bo}(h:BG d e)(c: ∀x,(bl x).head? ≠some 122->G x=d x):BG G e:=by
 refine⟨h.log.aS h.cq.1 λb _ _=> .inl (c _ (OX (.inl ⟨b,rfl⟩))),h.note.aS h.cq.2.2.1 λb _ _=> .inl (c _ (OX (.inr (.inl ⟨b,rfl⟩)))),λb i=>?_,h.fQ,h.dI,λx f hd=>?_,h.cq⟩
 ·rw[c _ (OX (.inr (.inr ⟨b,rfl⟩)))];exact h.cO b i
 ·rw[c x (by rw[hd];decide)] at f;exact h.dj x f hd
theorem ATF {c G:bO}{st:Db}{e:Bo}(L:Ee c st e)(d: ∀x,(bl x).head? ≠some 122->G x=c x):Ee G st e:=by
 have f: ∀b,G (aC nl b)=c (aC nl b):=λb=>d _ (OX (.inl ⟨b,rfl⟩))
 have i: ∀b,G (aC nn b)=c (aC nn b):=λb=>d _ (OX (.inr (.inl ⟨b,rfl⟩)))
 have j: ∀b,G (aX b)=c (aX b):=λb=>d _ (OX (.inr (.inr ⟨b,rfl⟩)))
 obtain⟨k,m,n,o,p,q,r,t,u,v,w,y,z⟩:=L;exact⟨ASg k d,m,n,o,p,q,r,λb=>by rw[f];exact t b,λh=>by rw[f];exact u h,λb=>by rw[i];exact v b,w,y,λb=>by rw[j];exact z b⟩
def jL(f:A2K->Option (A2K×A2K))(b:A2K)(l:List Ev):A2K->Option (A2K×A2K):=λx=>if x=zn b then some (bN l,bq) else f x
section
variable {A : al} {B : cz} {g h : aa} {s a N sh : Nat} {l : List Hs} {mp : List Pr} {O : Nat -> Prop} {R : A2J}
theorem LW.aS {w:Nat}{o:A2K}{p:Sl}{f:List Ev}{T:Q7}(J:LW B g h s a N sh l mp O)(C:h[w]? =some (J2 #[Ap B.bx] T (0,0)))(K:O w)(V:View cG h p f)(L: ∀c,p.ag=some c->O c)(D:Ps o f=0)(hd: ∀q∈f,q.data.size<=4194304)(al:f.length<=500)(hA:4+3*a<=B.A)(am:64*a+64<=B.C)(an:B.W0+(1+3*a)*B.K+2000000<1099511627776)
  (M: ∀e,LW {B with zf:=jL B.zf o f} g e s (a+1) N sh l mp O->Mod (br g O) h e->e[s]? =h[s]? ->R (J6 J9 0) e):AA A P Df #[Ap w,J7 o,J4 p.p p.len p.cap] h R:=by
 obtain⟨r,i,st,m,E,nn,d,ao,q,Q,S,out⟩:=J;have k:=d.db;have U:=k.mem.box;have t: ∀c,r.Sb c->i c=2:=k.mem.kb;have own:=k.mem.own;have y: ∀c,r.Sb c-> ¬O c:=λc b W=>by have:=t c b;rw[(out c W).1] at this;cases this
 have ap:=k.wt;have aq:=Fe (rK D).1;have ar:10000000<=B.K:=by unfold cz.K ll;omega
 rw[<- d.bx] at C;refine yd C U ⟨k.up,d.fuel⟩ (λh=>y w h K) (by omega) (by omega) V (λe n=>V.mod n λc b u=>y c u (L c b)) (by omega) hd (λz=>absurd D z) λ_ e S' v X c1 n Y F au=>?_
 have G: ∀c,Jm i h.size S' 2 c≠0->i c≠0\/h.size<=c:=λc b=>by
  unfold Jm at b
  grind
 have H: ∀c,i c=0->c<h.size->Jm i h.size S' 2 c=0:=λc z av=>Decidable.byContradiction λZ=>by
  rcases G c Z with h|h
  ·exact h z
  ·omega
 have aa:bK g e {r with Sb:=S'} (Jm i h.size S' 2) st v:=k.mem.boxed (j:=0) (bH:=st) X (n.aj λc _ b=> .inl b) Y rfl rfl rfl rfl (.inl ⟨by decide,rfl,rfl⟩) (.inl ⟨by decide,rfl⟩);have ab: ∀x,(bl x).head? ≠some 122->ff v x=ff m x:=λx ac=>by
  rw[F,if_neg λq=>ac (by rw[q];exact ARB o)]
 have ad:Br {B with zf:=jL B.zf o f} g e {r with Sb:=S'} (Jm i h.size S' 2) st v E (1+3*(a+1)) (64*(a+1)):=by
  refine⟨aa,c1.1,ATF k.eE ab,k.lim.mono (by omega) (by omega),?_,by show 64*(a+1)<=B.C;omega⟩;show ba v.files<=B.W0+(1+3*(a+1))*B.K;have aw:(1+3*(a+1))*B.K=(1+3*a)*B.K+3*B.K:=by rw[show 1+3*(a+1)=(1+3*a)+3 from by omega,Bm]
  omega
 have ae:GH {B with zf:=jL B.zf o f} g e s {r with Sb:=S'} (Jm i h.size S' 2) st v E (1+3*(a+1)) (64*(a+1)) nn:=by
  refine⟨ad,n.ag d.cell (λu=>by have:=t s u;rw[d.kz] at this;cases this),H s d.kz d.lt,d.base,c1.2,d.cn,d.bx,λI af=>?_⟩;rw[F];show _=jL B.zf o f I;unfold jL;split
  ·rfl
  ·exact d.dV I af
 have ax:=n.size;refine M e ⟨_,_,_,_,_,nn,ae,by omega,q,Q.step n (λc b=> .inl (by rw[t c b];decide)) G,S,λc b=>?_⟩ (n.aj λc _ b=>⟨(own c (by rw[t c b];decide)).1,y c b⟩) (n.get s d.lt λu=>by have:=t s u;rw[d.kz] at this;cases this);obtain⟨ag,ah,ai,aj,ak⟩:=out c b;exact⟨H c ag ah,by omega,ai,aj,ak⟩
theorem LW.jr {B:cz}{sh b:Nat}{Sb:Nat->Prop}{m:Bx}(n:cp g)(o:Cf h b Sb m)(d:Ext g h)(p: ∀c,Sb c->g.size<=c)(hd:m.down=false)(q:m.fuel= -1)(r: ∀j,ff m (aC nl j)=none)(t: ∀j,ff m (aC nn j)=none)(u: ∀x,ff m x≠none->(bl x).head? ≠some 116)(hA:1<=B.A)(v:ba m.files<=B.W0)(w:b=B.bx)(y: ∀f,¬cF f->ff m f=B.zf f)(z: ∀c,O c->g.size<=c/\c<h.size/\ ¬Sb c)
  (C: ∀e s,LW B g e s 0 0 sh [] [] O->Mod (λc=>Sb c\/h.size<=c) h e->h.size<=s->R (J1 #[Ap s,J6 J9 0]) e):AA A P SY #[Ap b] h R:=
 AM8 (B:=B) n o d p hd q r t u hA v w y λe s D E F G H T I mp k J K=>C e s ⟨D,E,F,G,H,0,I,A0 _,mp,⟨λi x d=>by simp at d,λi U x f d=>by simp at d⟩,by omega,λc L=>by
  obtain⟨M,V,Q⟩:=z c L;refine⟨Decidable.byContradiction λS=>?_,by have:=k.size;omega,M,by omega,λx d=>by cases d⟩;rcases J c S with h|h
  ·exact Q h
  ·omega⟩ k K
end
def tH(a:Nat):A2K:=AY [116,Bn a]
def MJ(a:Nat):A2K:=AY [109,Bn a]
def jK(name:A2K):A2K:=AY (113::BF (bl name))
section
variable {A : al} {h : aa} {R : A2J}
theorem ANR {n:Nat}(b:n<256)(c: ∀a,Ext h a->R (J7 (MJ n)) a):AA A P Mf #[J6 J9 (n:Int)] h R:=by
 refine Tu ?_;unfold QS;refine qg b λd e=>⟨_,rfl,⟨by rw[AP,max_i64];show((2:Nat):Int)<=9223372036854775807;decide,?_⟩⟩
 rw[show(⟨#[109]⟩:A2K)=AY [109] from rfl,Ak];exact c d e
end
section
variable {A : al} {B : cz} {g h : aa} {s a N sh cb : Nat} {l : List Hs} {mp : List Pr} {O : Nat -> Prop} {i : Nat} {y : Hs} {z : Nat -> Nat} {x : eO} {C : bA} {R : A2J}
end
section
variable {A : al} {h : aa} {R : A2J}
end
theorem AJZ {a:bA}{t:gl}{tick:Int}{c:Nat}(b:(EP a t tick c).err=0):(EP a t tick c).ar=a.ar++ [⟨LK a.aq tick c,Xc t a.wid,false⟩]:=by
 unfold EP at b ⊢;split at b
 ·rename_i d;exact absurd b d
 ·rename_i d;rw[if_neg d];split at b
  ·exact absurd (show(1:Int)=0 from b) (by decide)
  ·rename_i e;rw[if_neg e]
theorem AIw {x:bY}{p:cu}{n n0 n1 n2:Nat}{now:Int}(h:x.kind=1)(d:GI p=true)(i:Ag x.wid=true)(j:0<=now/\now<=1099511611776)(v:p.az=0):
  Dk (EL x p (BQ none x.wid n now) n0)=true/\ ∃e,(BA (EL x p (BQ none x.wid n now) n0) n1 n2).ar= [⟨JI x.aV,e,false⟩,⟨Rv n n1,Xc ⟨1,2,0⟩ x.wid,false⟩]:=by
 obtain⟨w,m,o,q,y⟩:=tF (n:=n) (n0:=n0) h d i j;obtain⟨k,c,z⟩:=Xf (n:=n) (n0:=n0) (n1:=n1) (n2:=n2) h d i j;have l:Cv x p (BQ none x.wid n now) n0=EA (BQ none x.wid n now) (cR 1 (AY (Cq p))):=by unfold Cv;rw[if_pos h,if_neg (by omega)]
 generalize f:EL x p (BQ none x.wid n now) n0=b at*
 have e:Dk b=true:=by subst f;unfold Dk;rw[show(EL x p (BQ none x.wid n now) n0).st=_ from m,show(EL x p (BQ none x.wid n now) n0).more=_ from o];rfl
 refine⟨e,?_⟩;have a:=OQ b Qc;have r:BA b n1 n2=EP (EA b Qc) ⟨1,WS (EA b Qc),0⟩ (-1) n1:=by
  have s:ET b n1=EP (EA b Qc) ⟨1,WS (EA b Qc),0⟩ (-1) n1:=by unfold ET;rw[if_pos e]
  unfold BA at c ⊢;split
  ·rename_i g;exfalso;rw[if_pos g,(HY _ _ _ _).1] at c;exact g.2 (by rw[c])
  ·exact s
 rw[r] at k c ⊢;rw[AJZ k];rw[(HY _ _ _ _).1] at c;have t:WS (EA b Qc)=2:=by unfold WS;rw[c];rfl
 rw[t];have d:b.ar= [⟨JI x.aV,iO (Mo x p) (De (Cv x p (BQ none x.wid n now) n0)).1.toNat (De (Cv x p (BQ none x.wid n now) n0)).2.toNat,false⟩]:=by rw[<- f];show(Cv x p (BQ none x.wid n now) n0).ar++_=_;rw[l,(OQ _ _).2.2.2.2.2.1];rfl
 have g:(EA b Qc).aq=n:=by rw[a.2.1,<-f];show(Cv x p (BQ none x.wid n now) n0).aq=n;rw[l,(OQ _ _).2.1];rfl
 have u:(EA b Qc).wid=x.wid:=by rw[a.1,<-f];exact q
 rw[a.2.2.2.2.2.1,d,g,u];exact⟨_,rfl⟩
section
variable {A : al} {h : aa} {R : A2J}
theorem AM6 {x:Sl}{l:List Ev}(v:View cG h x l)(e:l.length<=1000)(d: ∀a b,Own cG Ae b a l->(∀ c,a.ag=some c->h.size<=c)->Ext h b->R (J4 a.p a.len a.cap) b):AA A P DR #[J4 x.p x.len x.cap] h R:=by refine Io ?_;unfold Ez;exact VD mH v (by omega) (by simp only[maxLen];omega) d
end
section
variable {A : al} {B : cz} {g h : aa} {s a N sh : Nat} {l : List Hs} {mp : List Pr} {O : Nat -> Prop} {i : Nat} {y : Hs} {fl : dd} {an : dm} {R : A2J}
theorem ANN {wid:A2K}{k:J0}(m:LW B g h s a N sh l mp O)(n:l[i]? =some y)(o:JP mp fl an)(p:Ag wid=true)(q:fl wid=none)
  (r: ∀d,Ext h d->R (J1 #[ck.z.v,J6 J9 180]) d):AA A P Fu #[Ap y.p,k,J7 wid] h R:=by
 refine T9 ?_;unfold QC;refine ao.mk λt _ u e E=>?_
 refine pO (m.on e) n o (λh=>by rw[p] at h;cases h) λ_ F f=>?_
 rw[q];refine Oi.mk _ ⟨_,rfl,ao.mk λG _ v w H=>aL.mk v (A0 18) λx I z J=>af.yes rfl ?_⟩;have j:Ext t x:=(f.trans w).more z λc b=>by subst b;exact f.size
 exact lP (j.ag u λh=>h) λC D=>r C ((e.trans j).more D λc b=>by subst b;exact A0 _)
def WV(b:List Ev)(c:Nat):List Ev:=(b.drop c).take 32
theorem tV {wid:A2K}{e:List Ev}{G:J0}{n:Nat}(H:LW B g h s a N sh l mp O)(I:l[i]? =some y)(u:JP mp fl an)(J:Ag wid=true)(v:fl wid=some e)(L:n<=e.length)
  (M: ∀o d,Ext h o->View cG o d (WV e n)->(∀ c,d.ag=some c->h.size<=c)->R (⟨0,(Av e).status,(Av e).next,⟨0,⟨#[]⟩,0,0⟩,⟨#[]⟩,d⟩:bS).v o):
  AA A P Hr #[Ap y.p,G,J7 wid,J6 J9 ((n+1:Nat):Int)] h R:=by
 have Q:=u.dv wid e v;have aj:=Q.len;refine Y0 ?_;unfold RN;refine ao.mk λak _ w p al=>nB (H.on p) I u J v λS d a b c T V am fr ap=>Oi.mk _ ⟨_,rfl,ao.mk λaq _ U W ar=>aL.mk U (A0 18) λX f Y au=>af.no rfl ?_⟩
 rw[XB] at f;have z:Ext S X:=W.more Y λc j=>by subst j;exact A0 _
 have q:=T.trans z;have r:=V.ext z;have av:=r.len;refine ai.mk λK Z=>af.no (decide_eq_false (by omega)) (Aa.mk (s:=d) (CJ f rfl) ?_)
 rw[Ab (by omega),show decide (((n+1:Nat):Int)>((d.len+1:Nat):Int))=false from decide_eq_false (by omega)];refine Z _ _ (af.no rfl (Aa.mk (s:=d) (CJ f rfl) ?_));rw[show J8 J9 (((n+1:Nat):Int)-(1:Int))=((n:Nat):Int) from by rw[show((n+1:Nat):Int)-1=((n:Nat):Int) by omega];exact Eb (by omega),An];refine⟨⟨by omega,by omega⟩,AC.mk (n:=(Av e).status) (CJ f rfl) (AC.mk (n:=(Av e).next) (CK f rfl) ?_)⟩;obtain⟨k,aa⟩: ∃k:Nat,k=min 32 (e.length-n):=⟨_,rfl⟩;have ab:(if(32:Int)<(((d.len-n):Nat):Int) then(32:Int) else(((d.len-n):Nat):Int))=((k:Nat):Int):=by split<;>omega
 rw[ab,An];have vc:=r.cap;refine⟨⟨by omega,by omega⟩,?_⟩;have C:=r.sub (lo:=n) (hi:=e.length) L (A0 _);rw[Bk] at C;have t:=C.sub (lo:=0) (hi:=k) (A5 _) (by rw[Cl];omega);rw[HL] at t;have ac:(e.drop n).take k=WV e n:=by unfold WV;rw[aa,<-Cl,To];rw[Cl];omega
 rw[ac] at t;refine AM6 (x:=⟨Az (Az d.p d.cap n 8) (d.cap-n) 0 8,k-0,d.cap-n-0⟩) t (by unfold WV;rw[As];omega) λad aw ae D m=>⟨_,rfl,CK (m.ag f λh=>h) rfl,CJ (m.ag f λh=>h) rfl,?_⟩
 have ag:=(q.trans m).ag w λh=>h
 refine aL.mk ag (A0 9) λah E F ax=>?_
 rw[NZ] at E;refine GM.mk _ (Tv E) ?_;have ay:=p.size;have az:=q.size;refine M ah ad ((p.trans (q.trans m)).more F λc j=>by subst j;exact A0 _) (ae.view.mod F λc j aA=>?_) λc j=>?_
 ·have:=D c j;have:=Ai w;omega
 ·have:=D c j;omega
end
def JC(P:A2K)(m:List Pr):List Pr:=m.filter λx=>PU P x.key
section
variable {P k : A2K} {m b : List Pr} {p x : Pr}
theorem AQV(k:A2K):aN k (⟨#[]⟩:A2K)=false:=by unfold aN;rw[ByteArray.toList_eq,ByteArray.toList_eq];cases k.data.toList<;>rfl
theorem tI(a:Int):jh m P ⟨#[]⟩ a=(JC P m).take a.toNat:=by unfold jh JC;rw[HD λx _=>by rw[AQV,KK,Bool.and_true]]
theorem MP(s:Sorted m):Sorted (JC P m):=s.sublist G4
theorem Zd:Af k (JC P m)=if PU P k=true then Af k m else none:=lO (q:=PU P)
theorem ARd(s:Sorted m):JC P (gv m p)=if PU P p.key=true then gv (JC P m) p else JC P m:=by
 split
 ·refine Sorted.ext (MP (L9 s p)) (L9 (MP s) p) λk=>?_
  rw[Zd,RV s,RV (MP s),Zd]
  grind
 ·refine Sorted.ext (MP (L9 s p)) (MP s) λk=>?_
  rw[Zd,Zd,RV s]
  grind
theorem pX:JC P (p::b)=if PU P p.key=true then p::JC P b else JC P b:=AS
theorem Sd: ∀ {b m:List Pr},Sorted m->JC P (cy m b)=cy (JC P m) (JC P b)
 | [],_,_=>rfl
 |p::b,m,s=>by
  show JC P (cy (gv m p) b)=_;rw[Sd (L9 s p),ARd s,pX];split<;>rfl
theorem tJ(a b:List Pr):JC P (a++b)=JC P a++JC P b:=Of _ _
theorem dQ(a: ∀p∈b,PU P p.key=false):JC P b= []:=List.filter_eq_nil_iff.2 λp c=>by rw[a p c];decide
theorem AS4(s:Sorted (x::m))(a:p.key=x.key)(c:p.gone=true):gv (x::m) p=m:=by
 rw[sk s,c,if_pos rfl,a];unfold jZ;rw[AS,if_neg (by simp)];refine List.filter_eq_self.2 λd e=>?_
 have:=M.Nl ((List.pairwise_cons.1 s).1 d e);simp[Ne.symm this]
end
def Yj(c a:Nat):A2K:=AY (113::0::Bn c::Kv 8 a)
theorem tK:jK ⟨#[]⟩=AY [113,0]:=by unfold jK BF;rw[show bl (⟨#[]⟩:A2K)= [] from rfl,Fb (by decide)];rfl
theorem AMz(c a:Nat):BP (Yj c a)=113:=by unfold BP Yj;rw[EF];rfl
theorem tL {a:UInt8}{d:List UInt8}{k:A2K}(c:PU (AY (a::d)) k=true):BP k=a:=by rw[Om,Bl] at c;obtain⟨t,e⟩:=c;unfold BP;show(k.data.toList).headD 0=a;rw[<- e];rfl
theorem pY {a:UInt8}{c:List UInt8}{k:A2K}(d:BP k≠a):PU (AY (a::c)) k=false:=by
 cases e:PU (AY (a::c)) k with
 |false=>rfl
 |true=>exact absurd (tL e) d
theorem AJh(c a:Nat):PU (jK ⟨#[]⟩) (Yj c a)=true:=by rw[Om,tK];unfold Yj;rw[Bl,Bl];exact⟨_,rfl⟩
theorem ARv {c:Nat}{b:List Pr}(a: ∀p∈b,BP p.key≠116):JC (tH c) b= []:=dQ λp d=>pY (a p d)
theorem tM {b:List Pr}(a: ∀p∈b,BP p.key≠113):JC (jK ⟨#[]⟩) b= []:=by rw[tK];exact dQ λp c=>pY (a p c)
abbrev tN(wid:A2K):A2K:=Xc ⟨1,2,0⟩ wid
def AUC(c:Nat)(t:Nat×A2K):Pr:=⟨Rv c t.1,tN t.2,false⟩
def AUH(c:Nat)(t:Nat×A2K):Pr:=⟨Yj c t.1,tN t.2,false⟩
structure pZ (mp:List Pr) (T:Nat->List (Nat×A2K)) (L:List Pr):Prop where
 tr: ∀c,c<3->JC (tH c) mp=(T c).map (AUC c)
 li:JC (jK ⟨#[]⟩) mp=L
section
variable {mp b : List Pr} {T : Nat -> List (Nat × A2K)} {L : List Pr}
theorem pZ.take {c d:Nat}{wid v:A2K}{a g:List Pr}(i:pZ mp T (AUH c (d,wid)::L))(s:Sorted mp)(h: ∀p∈a++g,BP p.key≠116/\BP p.key≠113):pZ (cy mp (a++⟨Yj c d,v,true⟩::g)) T L:=by
 refine⟨λl n=>?_,?_⟩
 ·rw[Sd s,ARv (b:=a++⟨Yj c d,v,true⟩::g) λp e=>?_]
  ·exact i.tr l n
  ·rcases List.mem_append.1 e with f|f
   ·exact(h p (by simp[f])).1
   ·rcases List.mem_cons.1 f with rfl|f
    ·show BP (Yj c d)≠116;rw[AMz];decide
    ·exact(h p (by simp[f])).1
 ·have j:=MP (P:=jK ⟨#[]⟩) s;rw[i.li] at j;rw[Sd s,i.li,tJ,pX,show PU (jK ⟨#[]⟩) (Yj c d)=true from AJh _ _,if_pos rfl,tM (b:=a) λp e=>(h p (by simp[e])).2,tM (b:=g) λp e=>(h p (by simp[e])).2];exact AS4 j rfl rfl
end
def qh(p:Pr):Pr:=⟨p.key,⟨#[]⟩,true⟩
def eA(wid:A2K)(b:List Ev)(c:Bool)(d e:A2K):List Pr:= [⟨Gt wid,Lu (Av b).status.toNat (Av b).next.toNat c,false⟩,⟨d,e,false⟩]
def fK(wid:A2K)(b:List Ev)(c:A2K)(left:List Pr):List Pr:=(⟨Gt wid,Lu (Av b).status.toNat (Av b).next.toNat true,false⟩::(left.take 40).map qh)++(if left.length<=40 then [⟨c,⟨#[]⟩,true⟩] else [])
section
variable {A : al} {B B' : cz} {g h : aa} {s a a' N sh : Nat} {l : List Hs} {mp : List Pr} {O : Nat -> Prop} {i : Nat} {y : Hs} {fl : dd} {an : dm} {R : A2J} {ap : Q2}
theorem AMh {wid f j:A2K}{k:Bool}(m:LW B g h s a N sh l mp O)(n:l[i]? =some y)(o:JP mp fl an)(p:Ag wid=true)(q:fl wid=none)
  (r: ∀d,Ext h d->R (J1 #[J3 false,J6 J9 180]) d):AA A P F7 #[Ap y.p,J5 ap,J7 wid,.agg #[J7 f,J7 j,J3 k]] h R:=by
 refine Na ?_;unfold LH;refine ao.mk λz _ C b D=>ANN (m.on b) n o p q λE e=>Oi.mk _ ⟨_,rfl,ao.mk λF _ t u G=>aL.mk t (A0 18) λv H w I=>af.yes rfl ?_⟩
 exact r v ((b.trans (e.trans u)).more w λc x=>by subst x;exact(b.trans e).size)
theorem AMo {wid m o:A2K}{p:Bool}{d:List Ev}(q:LW B g h s a N sh l mp O)(r:l[i]? =some y)(t:JP mp fl an)(u:Ag wid=true)(v:fl wid=some d)(w:(Av d).status=0)
  (x: ∀f,Ext h f->R (J1 #[J3 false,J6 J9 183]) f):AA A P F7 #[Ap y.p,J5 ap,J7 wid,.agg #[J7 m,J7 o,J3 p]] h R:=by
 refine Na ?_;unfold LH;refine ao.mk λG _ H e I=>nB (q.on e) r t u v λJ K a b c j V L fr M=>Oi.mk _ ⟨_,rfl,ao.mk λQ _ z C S=>aL.mk z (A0 18) λD k E T=>af.no rfl ?_⟩
 rw[XB] at k;exact AC.mk (n:=(Av d).status) (CJ k rfl) (af.yes (by rw[w];rfl) (x D ((e.trans (j.trans C)).more E λc F=>by subst F;exact(e.trans j).size)))
theorem AQi {wid u T:A2K}{a3 kept:Bool}{d:List Ev}{ab:Nat}(aJ:LW B g h s a N sh l mp O)(a4:l[i]? =some y)(ac:QN d)(a5:Ag wid=true)(a6:(Av d).status≠0)(bW:ap=some ⟨ab,0,none⟩)(bX:u.size<=1000000)
  (ld: ∀(q:aa) (U:A2J),Ext h q->(∀ o r a' a7 aq,Ext q o->View cG o r d->(∀ x,r.ag=some x->q.size<=x)->U (J1 #[(⟨wid,(BJ wid sh:Int),⟨(Av d).status,(Av d).next,kept⟩,r,(Av d).V a' a7 aq⟩:ck).v,J6 J9 0]) o)->AA A P Fu #[Ap y.p,.iface BR (J5 ap),J7 wid] q U)
  (a8: ∀(q:aa) (r:Sl) (W:Nat->Prop) (U:A2J),kept=false->Ext h q->LW B g q s a N sh l mp W->(∀ c,O c->W c)->View cG q r d->(∀ c,r.ag=some c->W c)->(∀ o,LW B' g o s a' N sh l mp W->Mod (br g W) q o->o[s]? =q[s]? ->U (J6 J9 0) o)->AA A P Df #[J5 ap,J7 wid,J4 r.p r.len r.cap] q U)
  (same:kept=true->B'=B/\a'=a)
  (aK: ∀f conds sl ar,LW B' g f s a' N sh l mp ar->(∀ c,O c->ar c)->View BM f conds (eA wid d kept u T)->View BM f sl (fK wid d u ((JC (Ro wid) mp).take 41))->(∀ c,sl.ag=some c->ar c)->Mod (br g O) h f->f[s]? =h[s]? ->
   AA A P Ec #[Ap y.p,J6 J9 (BJ wid sh:Int),J4 conds.p conds.len conds.cap,J4 sl.p sl.len sl.cap] f λv a9=> ∃t:Int,v=J6 J9 t/\R (J1 #[J3 (decide (((JC (Ro wid) mp).take 41).length<=40)),J6 J9 t]) a9):
  AA A P F7 #[Ap y.p,J5 ap,J7 wid,.agg #[J7 u,J7 T,J3 a3]] h R:=by
 obtain⟨nx,bY⟩:=ac.next;have bZ:=ac.len;have b0:=ac.st;have ba:=Fe a5;refine Na ?_;unfold LH;refine ao.mk λq _ ad au b1=>ld q _ au λaM r b2 b3 c1 av V bb=>Oi.mk _ ⟨_,rfl,ao.mk λb4 _ bc bd b5=>aL.mk bc (A0 18) λD J be b6=>af.no rfl ?_⟩
 rw[XB] at J;have aw:Ext aM D:=bd.more be λc e=>by subst e;exact A0 _
 have L:=au.trans (av.trans aw);have ad:=(av.trans aw).ag ad λh=>h
 have b7:=au.size;have b8:=av.size;have b9:=L.size;have ca:=Ai ad;have cb:=Ai J;have aN:=V.ext aw;generalize cc:h.size=bf at*
 generalize cd:aM.size=X at*
 let Q:Nat->Prop:=λw=>O w\/(h.size<=w/\w<D.size)
 have aO:LW B g D s a N sh l mp Q:=aJ.own L.mod λw k=>k
 have bg: ∀o,Mod (br g Q) D o->Mod (br g O) h o:=λo m=>L.mod.trans (m.aj λc _ e=>br.less e λc bh=> .inl bh)
 refine AC.mk (n:=(Av d).status) (CJ J rfl) (af.no (by simpa using a6) (ai.mk λK bi=>?_));have slt:=aJ.slt;have key: ∀f,LW B' g f s a' N sh l mp Q->Mod (br g Q) D f->f[s]? =h[s]? ->K () f:=λf ag ah bj=>by
  have bk:f[bf]? =_:=br.aS ah ad (.inr ⟨by omega,by omega⟩);have aP:f[X]? =_:=br.aS ah J (.inr ⟨by omega,by omega⟩);have ce:=ah.size;refine bi _ _ (ag.store a4 ⟨_,rfl,qf (by omega) λcf aQ=>⟨_,rfl,?_⟩⟩);refine(ag.on aQ).scan (by have:=xq ba;omega) λps ax F cg bm=>⟨_,_,rfl,af.no rfl ?_⟩
  rw[tI] at F;have F:Own BM AQ ax ps ((JC (Ro wid) mp).take 41):=F;generalize (JC (Ro wid) mp).take 41=left at F aK;have aj:=aQ.trans bm;have aR:=aj.ag bk λh=>h
  have aS:=aj.ag aP λh=>h
  have ch:=aj.size;have ay: ∀ {G:aa} {x:ck},G[X]? =some (J2 x.c DF (0,0))->Cells G ((⟨X,0,none⟩:Q6).add 2) x.me.l:=λbn=>by
   have H:(⟨X,0,none⟩:Q6).add 2=⟨X,2,none⟩:=rfl;rw[H];exact Dw bn rfl
  refine KD.mk ⟨(Av d).status,(Av d).next,kept⟩ (ay aS) (ao.mk λci _ bo bp cj=>aL.mk bo (A0 3) λcl bq bs cm=>?_);refine ae.bJ (j:=2) (dH:=(⟨(Av d).status,(Av d).next,true⟩:cM).c) bq (of_decide_eq_true rfl) rfl λbt bu bv cn=>?_
  have ak:Ext ax bt:=bp.more (bs.trans bv) λc e=>by subst e;exact A0 _
  have S:=ak.ag aR λh=>h
  have aT:=ak.ag aS λh=>h
  refine KD.mk ⟨(Av d).status,(Av d).next,kept⟩ (ay aT) (AJ.mk (n:=u) (AL S rfl) (AJ.mk (n:=T) (AB S rfl) (VI (by omega) ⟨_,rfl,AB S rfl,AL S rfl,(ay aT).mT,?_⟩)));refine nF (m:=⟨(Av d).status,(Av d).next,kept⟩) (st:=(Av d).status.toNat) (nx:=(Av d).next.toNat) (by show(Av d).status=_;omega) (by show(Av d).next=_;omega) (by omega) (by omega) λaU az=>⟨_,rfl,AB (az.ag S λh=>h) rfl,AL (az.ag S λh=>h) rfl,?_⟩
  refine ao.mk λbw _ bx bz co=>?_
  have aA:=az.trans bz;have aV:Cells bw (⟨ax.size,0,none⟩:Q6) (⟨(Av d).status,(Av d).next,true⟩:cM).l:=Dw (aA.ag bu λh=>h) rfl;refine KD.mk ⟨(Av d).status,(Av d).next,true⟩ aV (VI (by omega) ⟨_,rfl,aV.mT,?_⟩);refine nF (m:=⟨(Av d).status,(Av d).next,true⟩) (st:=(Av d).status.toNat) (nx:=(Av d).next.toNat) (by show(Av d).status=_;omega) (by show(Av d).next=_;omega) (by omega) (by omega) λz aC=>⟨_,rfl,ao.mk λbA _ bB bC cp=>?_⟩
  have bD:Own BM AQ z ⟨some ⟨aU.size,0,none⟩,2,2⟩ (eA wid d kept u T):=Own.lit (E:=BM) (l:=eA wid d kept u T) (aC.ag bx λh=>h) rfl (by simp[maxLen,eA]);have bE:Own BM AQ bA ⟨some ⟨z.size,0,none⟩,1,1⟩ [⟨Gt wid,Lu (Av d).status.toNat (Av d).next.toNat true,false⟩]:=Own.lit (E:=BM) (l:= [⟨Gt wid,Lu (Av d).status.toNat (Av d).next.toNat true,false⟩]) bB rfl (by simp[maxLen]);have aD:=ak.trans (aA.trans aC);have cq:=F.len;have cr:=F.view.cap;obtain⟨n,bF⟩: ∃n:Nat,n=min 40 left.length:=⟨_,rfl⟩;have bG:(if(40:Int)<((ps.len:Nat):Int) then(40:Int) else((ps.len:Nat):Int))=((n:Nat):Int):=by split<;>omega
  rw[bG,An];refine⟨⟨by omega,by omega⟩,?_⟩;have aW:=F.view.sub (lo:=0) (hi:=n) (A5 _) (by omega);rw[HL] at aW;have bH:left.take n=left.take 40:=by
   rw[bF];rcases Nat.le_total 40 left.length with h|h
   ·rw[Fk h]
   ·rw[OK h,Bk,Ax h]
  have cs:=aD.size;refine Loop.rule (λm x G=> ∃(j:Nat) (sl:Sl),x=(sl,(j:Int),())/\m=n-j/\j<=n/\Ext z G/\Own BM AQ G sl (⟨Gt wid,Lu (Av d).status.toNat (Av d).next.toNat true,false⟩::(left.take j).map qh)/\ ∀c,sl.ag=some c->z.size<=c) ?_
   ⟨0,⟨some ⟨z.size,0,none⟩,1,1⟩,rfl,rfl,A5 _,bC,bE,λc e=>by have:z.size=c:=(by simpa [Sl.ag] using e);omega⟩
  rintro ct m _ G ⟨j,sl,rfl,rfl,cu,I,al,Y⟩ bI;dsimp only;refine af.intro (λk=>?_) (λk=>?_)
  ·have am:j<n:=by have:=of_decide_eq_true k;omega
   obtain⟨p,aX⟩: ∃p,left[j]? =some p:=⟨_,A2 (by omega)⟩;refine(aW.ext (aD.trans I)).idx (i:=j) (x:=p) (by rw[F0,if_pos am];exact aX) λcv _ bJ=>?_
   obtain⟨bK,bL,bM⟩:=bJ.pair;refine AJ.mk bK (AJ.mk bL (AZ.mk bM (ao.pair λb cw cx bN aE cy=>AJ.mk (n:=p.key) (AL bN rfl) ?_)));refine ao.aZ (E:=BM) (x:=qh p) (s:=sl) rfl M.GX (al.ext aE) (by rw[A6,B9,As];omega) (by rw[A6,B9,As];simp only[maxLen];omega) λaF aY aG aH aI _=>?_
   rw[Ab (by omega)];have bO:=I.size;have cz:=aE.size;refine bI (n-(j+1)) _ _ (by omega) ⟨j+1,aF,rfl,rfl,am,(I.trans aE).more aH Y,?_,λc e=>?_⟩
   ·rw[AD,aX];rw[CA,C2,<-DG];exact aG
   ·rcases aI c e with h|h
    ·exact Y c h
    ·omega
  ·have am:j=n:=by have:=of_decide_eq_false k;omega
   subst am;rw[bH] at al;refine ai.mk λbP bQ=>?_
   have aZ: ∀(C:aa) (sl:Sl),Ext z C->Own BM AQ C sl (fK wid d u left)->(∀ c,sl.ag=some c->z.size<=c)->bP (sl,()) C:=λC sl a0 a1 bR=>by
    have Z:=aj.trans (aD.trans a0);refine bQ _ _ (AC.mk (n:=(BJ wid sh:Int)) (AB (Z.ag aP λh=>h) rfl) ?_);have bS:LW B' g C s a' N sh l mp (λw=>Q w\/(f.size<=w/\w<C.size)):=ag.own Z.mod λw k=>k
    have cB:=Z.size;have H:(decide (((ps.len:Nat):Int)<=(40:Int)))=decide (left.length<=40):=by rw[decide_eq_decide];omega
    rw[H];refine aK C ⟨some ⟨aU.size,0,none⟩,2,2⟩ sl _ bS (λc e=> .inl (.inl e)) (bD.view.ext a0) a1.view (λc e=> .inr ⟨by have:=bR c e;omega,a1.lt e⟩) (bg C (ah.trans Z.mod)) ?_;rw[<- bj];have:=ag.slt;exact Z.get s this (λh=>h)
   have H:(decide (((ps.len:Nat):Int)<=(40:Int)))=decide (left.length<=40):=by rw[decide_eq_decide];omega
   rw[H];refine af.intro (λk=>?_) (λk=>?_)
   ·have k:left.length<=40:=of_decide_eq_true k;have bT:=(ak.trans (aA.trans (aC.trans I))).ag aR λh=>h
    refine AJ.mk (n:=u) (AL bT rfl) ?_;refine ao.aZ (E:=BM) (x:=⟨u,⟨#[]⟩,true⟩) (s:=sl) rfl M.GX al (by rw[A6,B9,As];omega) (by rw[A6,B9,As];simp only[maxLen];omega) λaF aY aG aH aI _=>?_
    have bO:=I.size;refine aZ aY aF (I.more aH Y) ?_ λc e=>?_
    ·unfold fK;rw[if_pos k];exact aG
    ·rcases aI c e with h|h
     ·exact Y c h
     ·omega
   ·have k: ¬left.length<=40:=of_decide_eq_false k;refine aZ G sl I ?_ Y;unfold fK;rw[if_neg k,AM];exact al
 refine AZ.mk (n:=kept) (CK J rfl) ?_;cases a2:kept with
 |true=>
  obtain⟨rfl,rfl⟩:=same a2;exact af.no rfl (key D aO Mod.refl (L.get s slt λh=>h))
 |false=>
  refine af.yes rfl (Aa.mk (s:=r) (CJ J rfl) ?_);refine a8 D r Q _ a2 L aO (λc e=> .inl e) aN (λc e=> .inr ⟨by have:=bb c e;omega,?_⟩) λo bU bV aq=>⟨_,rfl,af.no rfl (key o bU bV (aq.trans (L.get s slt λh=>h)))⟩
  exact aN.js (λH=>ac.ne H) e
end
def dD(p:cu)(k:Nat):bg:=⟨p,0,3+(k:Int),0,2,0,true,[],[],false,false⟩
def ie(p:cu)(k:Nat):bg:= {Zh (dD p k) 4 with next:=4+(k:Int)}
abbrev kF(k:Nat)(x:A2K):Ev:=⟨3+(k:Int),12,0,0,0,0,false,x⟩
abbrev kG(k:Nat):Ev:=⟨3+(k:Int),18,7,0,0,0,false,⟨#[]⟩⟩
abbrev dE(a:Int)(aV wid name:A2K):bY:=⟨a,aV,wid,name,Vn,0,Vn,0,0,0,0,false⟩
section
variable {p : cu} {k n : Nat} {aV wid name : A2K} {fl fl' : dd} {an an' : dm} {ev : List Ev} {mp mp' : List Pr} {y y' : Hs} {e st nx : Int}
theorem AQs {a:bA}(f:a.err=0)(b:a.st=dD p k)(g:a.now=0)(h:a.more= [])(j:k<=400)(i:Ag name=true):
  EA a (cR 12 name)= {a with st:=dD p (k+1),more:= [kF k name]}:=by
 have c:Ce a (cR 12 name)=kF k name:=by unfold Ce;rw[b,g,if_neg (by show ¬(1:Int)>3+(k:Int);omega)];rfl
 have ok:=ANL (id:=3+(k:Int)) (tick:=0) (data:=name) (by omega) (by decide) i;have d:Bh a.st (Ce a (cR 12 name))=(0,dD p (k+1)):=by rw[c,b];unfold Bh;rw[if_neg (by simp[ok]),if_neg (by show ¬3+(k:Int)=0;omega),if_neg (by simp[dD]),if_neg (by simp[dD])];unfold O7 KE;rw[if_neg (by simp),if_neg (by simp),if_neg (by simp),if_pos rfl];show((0:Int),({dD p k with fresh:=true,next:=3+(k:Int)+1}:bg))=_;simp only[dD,LL,true_and,bg.mk.injEq,and_true];omega
 rw[oF f (.inr (.inl (by rw[b];show 3+(k:Int)<=497;omega))) (by rw[d]),d,c,h];rfl
theorem AQS {a:bA}(f:a.err=0)(b:a.st=dD p k)(g:a.now=7)(h:a.more= [])(i:k<=400):
  EA a (cR 18 ⟨#[]⟩)= {a with st:=ie p k,more:= [kG k]}:=by
 have c:Ce a (cR 18 ⟨#[]⟩)=kG k:=by unfold Ce;rw[b,g,if_neg (by show ¬(1:Int)>3+(k:Int);omega)];rfl
 have ok:=tE (id:=3+(k:Int)) (tick:=7) (k:=18) (by omega) (by decide) (.inr (.inr rfl));have d:Bh a.st (Ce a (cR 18 ⟨#[]⟩))=(0,ie p k):=by rw[c,b];unfold Bh;rw[if_neg (by simp[ok]),if_neg (by show ¬3+(k:Int)=0;omega),if_neg (by simp[dD]),if_neg (by simp[dD])];show((0:Int),({Zh (dD p k) 4 with next:=3+(k:Int)+1}:bg))=(0,ie p k);unfold ie;rw[show 3+(k:Int)+1=4+(k:Int) by omega]
 rw[oF f (.inr (.inr rfl)) (by rw[d]),d,c,h];rfl
theorem tW {b:Int}(f:b=2/\Ag name=true\/b=4)(g:Ag wid=true)(h:Ag aV=true):Nz (dE b aV wid name) ⟨[],0⟩=0:=by
 unfold Nz;rw[if_neg (λa=>by have i:b=1:=a.1;omega),if_neg];rintro(a|a|a)
 ·have i:b=2:=a.1;have c:Ag name=false:=a.2;rcases f with⟨_,d⟩|d
  ·rw[d] at c;cases c
  ·omega
 ·rw[show(dE b aV wid name).wid=wid from rfl,g] at a;cases a
 ·rw[show(dE b aV wid name).aV=aV from rfl,h] at a;cases a
theorem AQf(K:k<=400)(D:Ag name=true)(L:Ag wid=true)(M:Ag aV=true)(N:an aV=none)(s:fl wid=some ev)(E:Av ev=dD p k)
  (O:XP fl an n (dE 2 aV wid name) ⟨[],0⟩ 0 e st nx fl' an') (P:lQ mp mp' fl fl' n (dE 2 aV wid name) ⟨[],0⟩ 0 y y'):
  e=0/\fl'=dC fl wid (ev++ [kF k name])/\(∃ Q,an'=dC an aV Q)/\Av (ev++ [kF k name])=dD p (k+1)/\ ∃b,mp'=cy mp b/\ ∀t∈b,BP t.key≠109:=by
 have R:NN fl an 1 (dE 2 aV wid name) ⟨[],0⟩=none:=by rw[pT (by show(1:Int)<=2/\(2:Int)<=4;decide) (tW (.inl ⟨rfl,D⟩) L M) N];show(match fl wid with|none=>_|some l=>_)=none;rw[s];show(if(2:Int)=1 then some ((181:Int),(0:Int),(0:Int)) else if(Av ev).status≠0 then some (182,0,0) else none)=none;rw[if_neg (by decide),E,if_neg (by simp[dD])]
 have u: ∀a d g,BA (EL (dE 2 aV wid name) ⟨[],0⟩ (BQ (fl wid) wid n 0) a) d g=EL (dE 2 aV wid name) ⟨[],0⟩ (BQ (fl wid) wid n 0) a/\(EL (dE 2 aV wid name) ⟨[],0⟩ (BQ (fl wid) wid n 0) a).err=0/\
   (EL (dE 2 aV wid name) ⟨[],0⟩ (BQ (fl wid) wid n 0) a).st=dD p (k+1)/\(EL (dE 2 aV wid name) ⟨[],0⟩ (BQ (fl wid) wid n 0) a).more= [kF k name]/\ ∃v,(EL (dE 2 aV wid name) ⟨[],0⟩ (BQ (fl wid) wid n 0) a).ar= [⟨JI aV,v,false⟩]:=λa d g=>by
  rw[s];have F:Cv (dE 2 aV wid name) ⟨[],0⟩ (BQ (some ev) wid n 0) a=EA (BQ (some ev) wid n 0) (cR 12 name):=rfl;rw[AQs (p:=p) (k:=k) rfl E rfl rfl K D] at F;have S: ∀h:bA,h=EL (dE 2 aV wid name) ⟨[],0⟩ (BQ (some ev) wid n 0) a->h.err=0/\h.st=dD p (k+1)/\h.more= [kF k name]/\ ∃v,h.ar= [⟨JI aV,v,false⟩]:=λh w=>by
   unfold EL at w;rw[F] at w;subst w;exact⟨rfl,rfl,rfl,_,rfl⟩
  obtain⟨T,x,U,V⟩:=S _ rfl;refine⟨?_,T,x,U,V⟩;have W:Dk (EL (dE 2 aV wid name) ⟨[],0⟩ (BQ (some ev) wid n 0) a)=false:=by unfold Dk;rw[x];simp[dD]
  unfold BA ET;rw[W];simp[x,dD]
 rcases O with⟨_,_,G|⟨_,z,_,_,a,d,g,j⟩⟩|⟨_,z,a,d,g,m,o,ad,q,X,_,_,i⟩
 ·rw[R] at G;cases G
 ·have f:=u a d g;have j:e=(BA (EL (dE 2 aV wid name) ⟨[],0⟩ (BQ (fl wid) wid n 0) a) d g).err:=j;rw[f.1] at j;exact absurd (j.trans f.2.1) z
 ·obtain⟨Y,ae,Z,aa,af⟩:=u a d g;have o:m=BA (EL (dE 2 aV wid name) ⟨[],0⟩ (BQ (fl wid) wid n 0) a) d g:=o;rw[Y] at o;have q:fl'=dC fl wid ((fl wid).getD []++m.more):=q;have i:Av ((fl wid).getD []++m.more)=m.st:=i;rw[s,GS,o,aa] at q i;rw[Z] at i;refine⟨z,q,⟨_,X⟩,i,?_⟩;rcases P with⟨A,ag⟩|⟨H,I,J,B,r,ah,A,_,_⟩
  ·exact⟨[],A,λt C=>by cases C⟩
  ·obtain⟨ab,ai,aj,ak,v,ac⟩:=u H I J;have r:B=BA (EL (dE 2 aV wid name) ⟨[],0⟩ (BQ (fl wid) wid n 0) H) I J:=r;rw[ab] at r;refine⟨_,A,λt C=>?_⟩;rcases List.mem_append.1 C with c|c
   ·unfold Ej at c;rcases List.mem_append.1 c with c|c
    ·obtain⟨e,_,rfl⟩:=List.mem_map.1 c;rw[show BP (NS B.wid e).key=104 from SS _ _];decide
    ·split at c
     ·cases c
     ·rw[List.mem_singleton.1 c,show BP (Gt B.wid)=119 from FV _];decide
   ·rw[r,ac] at c;rw[List.mem_singleton.1 c];show BP (JI aV)≠109;rw[JS];decide
theorem AQx(H:k<=400)(w:Ag wid=true)(I:Ag aV=true)(J:an aV=none)(o:fl wid=some ev)(x:Av ev=dD p k)
  (K:XP fl an n (dE 4 aV wid ⟨#[]⟩) ⟨[],0⟩ 7 e st nx fl' an') (L:lQ mp mp' fl fl' n (dE 4 aV wid ⟨#[]⟩) ⟨[],0⟩ 7 y y'):
  e=0/\fl'=dC fl wid (ev++ [kG k])/\Av (ev++ [kG k])=ie p k/\ ∃a M,mp'=cy mp (a++ [⟨JV n 27 M,Xc ⟨7,0,0⟩ wid,false⟩])/\ ∀z∈a,BP z.key≠109:=by
 have N:NN fl an 1 (dE 4 aV wid ⟨#[]⟩) ⟨[],0⟩=none:=by rw[pT (by show(1:Int)<=4/\(4:Int)<=4;decide) (tW (.inr rfl) w I) J];show(match fl wid with|none=>_|some l=>_)=none;rw[o];show(if(4:Int)=1 then some ((181:Int),(0:Int),(0:Int)) else if(Av ev).status≠0 then some (182,0,0) else none)=none;rw[if_neg (by decide),x,if_neg (by simp[dD])]
 have O:KH ⟨7,0,0⟩ wid=true:=ZE (by decide) w (by decide);have r: ∀g h d c,c=BA (EL (dE 4 aV wid ⟨#[]⟩) ⟨[],0⟩ (BQ (fl wid) wid n 7) g) h d->c.err=0/\c.st=ie p k/\c.more= [kG k]/\ ∃v,c.ar= [⟨JI aV,v,false⟩,⟨JV n 27 d,Xc ⟨7,0,0⟩ wid,false⟩]:=λg h d c i=>by
  rw[o] at i;have A:Cv (dE 4 aV wid ⟨#[]⟩) ⟨[],0⟩ (BQ (some ev) wid n 7) g=EA (BQ (some ev) wid n 7) (cR 18 ⟨#[]⟩):=rfl;rw[AQS (p:=p) (k:=k) rfl x rfl rfl H] at A;have P: ∀b:bA,b=EL (dE 4 aV wid ⟨#[]⟩) ⟨[],0⟩ (BQ (some ev) wid n 7) g->b.err=0/\b.st=ie p k/\b.more= [kG k]/\b.now=7/\b.wid=wid/\b.aq=n/\ ∃v,b.ar= [⟨JI aV,v,false⟩]:=λb s=>by
   unfold EL at s;rw[A] at s;subst s;exact⟨rfl,rfl,rfl,rfl,rfl,rfl,_,rfl⟩
  obtain⟨B,t,C,Q,D,R,v,S⟩:=P _ rfl;generalize EL (dE 4 aV wid ⟨#[]⟩) ⟨[],0⟩ (BQ (some ev) wid n 7) g=b at*
  have T:Dk b=false:=by unfold Dk;rw[t];simp[ie,Zh]
  have U:BA b h d= {b with ar:=b.ar++ [⟨LK b.aq (kJ b) d,Xc ⟨7,0,0⟩ b.wid,false⟩]}:=by
   have V:ET b h=b:=by unfold ET;rw[T];rfl
   unfold BA;rw[V,if_pos ⟨by rw[C];simp,by rw[t];simp[ie,Zh]⟩];unfold EP;rw[if_neg (by simp[B]),if_neg (by rw[D];simp[O])]
  rw[U] at i;subst i;refine⟨B,t,C,v,?_⟩;show b.ar++ [⟨LK b.aq (kJ b) d,Xc ⟨7,0,0⟩ b.wid,false⟩]=_;have W:kJ b=27:=by unfold kJ;rw[Q];rfl
  rw[S,D,R,W];rfl
 rcases K with⟨_,_,E|⟨_,u,_,_,g,h,d,X⟩⟩|⟨_,u,g,h,d,c,i,ag,j,ah,_,_,m⟩
 ·rw[N] at E;cases E
 ·exact absurd (X.trans (r g h d _ rfl).1) u
 ·obtain⟨ai,Y,Z,aj⟩:=r g h d c i;have j:fl'=dC fl wid ((fl wid).getD []++c.more):=j;have m:Av ((fl wid).getD []++c.more)=c.st:=m;rw[o,GS,Z] at j m;rw[Y] at m;refine⟨u,j,m,?_⟩;rcases L with⟨F,aa⟩|⟨ab,ac,G,q,ad,ak,F,_,_⟩
  ·exfalso;have:=congrFun (j.symm.trans aa) wid;rw[IW,o] at this;have:=congrArg List.length (By this);simp at this
  ·obtain⟨al,am,ao,v,ae⟩:=r ab ac G q ad;refine⟨Ej q++ [⟨JI aV,v,false⟩],G,by rw[F,ae,A4];rfl,λz af=>?_⟩;rcases List.mem_append.1 af with f|f
   ·unfold Ej at f;rcases List.mem_append.1 f with f|f
    ·obtain⟨e,_,rfl⟩:=List.mem_map.1 f;rw[show BP (NS q.wid e).key=104 from SS _ _];decide
    ·split at f
     ·cases f
     ·rw[List.mem_singleton.1 f,show BP (Gt q.wid)=119 from FV _];decide
   ·rw[List.mem_singleton.1 f];show BP (JI aV)≠109;rw[JS];decide
end
theorem AJM {A:al}{h:aa}{a b:Sl}{c d:List Ev}{R:A2J}(k:View cG h a c)(l:View cG h b d)(L:c.length<=1099511627776)
  (n:R (J3 (decide (c=d))) h):AA A P KY #[J4 a.p a.len a.cap,J4 b.p b.len b.cap] h R:=by
 refine Vf ?_;unfold Ov;rw[k.len,l.len];refine af.intro (λe=>?_) (λe=>?_)
 ·have:c≠d:=by rintro rfl;simp at e
  simpa [this] using n
 ·have M:c.length=d.length:=by simp at e;omega
  refine Loop.rule (λm x p=> ∃i:Nat,x=((i:Int),())/\p=h/\m=c.length-i/\i<=c.length/\c.take i=d.take i) ?_ ⟨0,rfl,rfl,rfl,by omega,by simp⟩;rintro K m _ _ ⟨i,rfl,rfl,rfl,N,o⟩ q;refine af.intro (λe=>?_) (λe=>?_)
  ·have j:i<c.length:=by simpa using e
   rw[<- k.len];refine k.idx (A2 j) λO _ c1=>?_
   obtain⟨r,s,t,u,v,w,y,z⟩:=jX c1;refine AC.mk r (AC.mk s (AC.mk t (AC.mk u (AC.mk v (AC.mk w (AZ.mk y (AJ.mk z ?_)))))));rw[<- l.len];refine l.idx (A2 (by omega)) λQ _ c2=>?_
   obtain⟨B,C,D,E,F,G,H,I⟩:=jX c2;refine AC.mk B (AC.mk C (AC.mk D (AC.mk E (AC.mk F (AC.mk G (AZ.mk H (AJ.mk I ?_)))))));refine yA ⟨_,rfl,?_⟩;refine af.intro (λf=>?_) (λf=>?_)
   ·have f:c[i]≠d[i]'(by omega):=by simpa using f
    have:c≠d:=by rintro rfl;exact f rfl
    simpa [this] using n
   ·have J:c[i]=d[i]'(by omega):=by simpa using f
    dsimp only;rw[Ab (by omega)];refine q (c.length-(i+1)) _ _ (by omega) ⟨i+1,rfl,rfl,rfl,j,?_⟩;rw[LN j,LN (show i<d.length by omega),o,J]
  ·have j:i=c.length:=by simp at e;omega
   have:c=d:=by rw[Ax (by omega),Ax (by omega)] at o;exact o
   simpa [this] using n
theorem ASa {A:al}{h:aa}{c a:Nat}{R:A2J}(l:R (J6 J9 27) h):AA A P XU #[J7 (JV c 27 a)] h R:=by
 have b:=Ms c 27 a;have j: ∀i:Nat,i<10->dq (JV c 27 a) (i:Int)=if i=0 then 109 else if i=1 then((Bn c).toNat:Int) else if i=9 then 27 else 0:=λi n=>by
  have d:(JV c 27 a).data.toList=109::Bn c::0::0::0::0::0::0::0::27::Kv 8 a:=by unfold JV;rw[Bl];rfl
  rcases(by omega:i=0\/i=1\/i=2\/i=3\/i=4\/i=5\/i=6\/i=7\/i=8\/i=9) with rfl|rfl|rfl|rfl|rfl|rfl|rfl|rfl|rfl|rfl<;>rw[N8 (by rw[d];rfl)]<;>rfl
 refine AIT ?_;unfold uG;refine ai.mk λK o=>af.no (by rw[b];rfl) ⟨⟨by omega,by rw[b];decide⟩,?_⟩
 have k:=j 0 (by decide);rw[show((0:Nat):Int)=0 from rfl] at k;rw[k];refine o _ _ (af.no rfl ?_);refine Loop.rule (λm x p=> ∃i:Nat,x=((if i=8 then(27:Int) else 0),(i:Int),())/\m=8-i/\i<=8/\h=p) ?_ ⟨0,rfl,rfl,by decide,rfl⟩;rintro s m _ _ ⟨i,rfl,rfl,n,rfl⟩ q;dsimp only;refine af.intro (λe=>?_) (λe=>?_)
 ·have f:i<8:=by have:=of_decide_eq_true e;omega
  rw[show((2:Int)+(i:Int))=((2+i:Nat):Int) from by omega,Eb (by omega),j (2+i) (by omega),if_neg (show ¬i=8 by omega)];refine⟨⟨by omega,by rw[b];omega⟩,?_⟩;rw[Ab (by omega)];have d:dS .u64 (J8 .u64 ((0:Int)*((2:Int)^(8:Nat)))) (J8 .u64 (if 2+i=0 then 109 else if 2+i=1 then((Bn c).toNat:Int) else if 2+i=9 then 27 else 0))=if i+1=8 then(27:Int) else 0:=by
   rw[if_neg (by omega),if_neg (by omega)];by_cases r:i=7
   ·subst r;decide
   ·rw[if_neg (by omega),if_neg (by omega)];decide
  rw[d];exact q (8-(i+1)) _ _ (by omega) ⟨i+1,rfl,rfl,f,rfl⟩
 ·have f:i=8:=by have:=of_decide_eq_false e;omega
  subst f;exact l
abbrev nG(b s p a:Nat):Array J0:= #[Ap b,Ap s,Ap p,Ap a]
section
variable {A : al} {g h : aa} {R : A2J}
theorem AHM [Zc]{e d:Nat}{Sb:Nat->Prop}{D v1 v2 E:J0}(t:cp g)(F:Cf h e Sb gW)(x:Ext g h)(G: ∀c,Sb c->g.size<=c)(f:h[d]? =some (J2 #[D,v1,v2,E] GJ (0,0)))(u:g.size<=d)(nx: ¬Sb d)(H:Zc.bx=e)(I:Zc.zf=(λ_=>none))
  (J: ∀i s y k mp,EW g i s 1 1 [y] mp (λ_=>none) (λ_=>none) (λa=>a=d\/a=k)->lR mp y 1->y.name=kD->i[d]? =some (J2 (nG e s y.p k) GJ (0,0))->i[k]? =some (J2 #[Ap e] Gf (0,0))->(∀ a,BP a≠108->Af a mp=none)->R (J3 true) i):
  AA A P Hu #[Ap d,Ap e] h R:=by
 refine QI ?_;unfold Kr;have au:=Ai f;refine aD (ae.bJ (j:=0) f (of_decide_eq_true rfl) rfl λK L l av=>?_);have aw:=l.size;have M:Ext g K:=x.more l λc b=>by subst b;exact u
 refine LW.jr (B:=Us) (sh:=1) (O:=λa=>a=d) t (F.mod l λc b o=>by subst o;exact nx b) M G rfl rfl (λn=>rfl) (λn=>rfl) (λx f=>absurd rfl f) (by show 1<=1600;decide) (by show ba gW.files<=0;decide) H.symm (λy _=>by show _=Zc.zf y;rw[I];rfl) (λc b=>by subst b;exact⟨u,by omega,nx⟩) λax s N Q ay=>⟨_,_,rfl,af.no rfl ?_⟩
 have S:=Q.ag L λb=>b.elim nx λh=>by omega
 refine N.host (name:=kD) (by decide) (by decide) λaz v T U V W=>⟨_,_,rfl,af.no rfl ?_⟩
 have X:=W.ag S λh=>h
 refine ATC (n:=0) (y:=⟨v,T,U,kD,λ_=>0,λ_=>0⟩) (mp:= []) t ⟨V,JP.empty,λz Y m=>by rw[List.mem_singleton.1 Y];exact⟨A0 _,A0 _⟩⟩ (by decide) (by decide) ⟨λn aA=>by omega,λn _=>⟨rfl,λ_=>ED.empty⟩⟩ (by show Ag kD=true;decide) λq mp Z aa ab ac=>⟨_,_,rfl,?_⟩
 have w:=br.aS ab X rfl;refine UH ?_;unfold QG;refine ao.mk λaC _ ad C aE=>⟨_,rfl,?_⟩
 have ag:=C.ag w λh=>h
 have aF:=Ai w;refine aD (ae.bJ (j:=1) ag (of_decide_eq_true rfl) rfl λaG ah ai aH=>aD (ae.bJ (j:=2) ah (of_decide_eq_true rfl) rfl λaI aj ak aJ=>aD (ae.bJ (j:=3) (dH:=nG e s v q.size) aj (of_decide_eq_true rfl) rfl λal am an aK=>?_)));have r:=ai.trans (ak.trans an);have ap:=Z.own (O':=λa=>a=d\/a=q.size) (C.mod.trans r) λc b=>b.imp id λh=>by have:=r.size;omega
 exact J al s _ q.size mp ap aa rfl am (r.ag ad (by omega)) λa aq=>by rw[ac,Ky zT λp ar o=>aq (by rw[<- o,List.mem_singleton.1 ar];exact Rz 0)];rfl
theorem YL {o U s p u:Nat}{ev:List Ev}{st nx:Int}(V:h[o]? =some (J2 (nG U s p u) GJ (0,0)))(ap:ev.length<=500)
  (D: ∀(d:aa) (n:Nat) (F:A2J),Ext h d->n<=ev.length->(∀ j a,Ext d j->View cG j a (WV ev n)->(∀ c,a.ag=some c->d.size<=c)->F (⟨0,st,nx,⟨0,⟨#[]⟩,0,0⟩,⟨#[]⟩,a⟩:bS).v j)->AA A P Hr #[Ap p,.iface BR (Ap u),J7 ⟨#[119]⟩,J6 J9 ((n+1:Nat):Int)] d F)
  (W: ∀j sl,Ext h j->View cG j sl ev->(∀ c,sl.ag=some c->h.size<=c)->R (J1 #[J4 sl.p sl.len sl.cap,J3 true]) j):
  AA A P FU #[Ap o] h R:=by
 refine QJ ?_;unfold Kg;refine Loop.rule (λm x d=> ∃(n:Nat) (sl:Sl),x=(sl,())/\m=ev.length-n/\n<=ev.length/\Ext h d/\Own cG Ae d sl (ev.take n)/\ ∀c,sl.ag=some c->h.size<=c) ?_
  ⟨0,Vn,rfl,rfl,A5 _,Mod.refl,Own.nil,λc f=>by simp[Sl.ag] at f⟩
 rintro K m _ d ⟨n,sl,rfl,rfl,v,k,q,w⟩ X;dsimp only;have G:=q.len;rw[As,Fk v] at G;have H:=k.ag V λh=>h
 have c2: ∀ {e:aa},Ext d e->ah e ((⟨o,0,none⟩:Q6).add 2)=some (Ap p):=λi=>AB (i.ag H λh=>h) rfl
 have c3: ∀ {e:aa},Ext d e->ah e ((⟨o,0,none⟩:Q6).add 3)=some (Ap u):=λi=>AB (i.ag H λh=>h) rfl
 refine ai.mk λY Z=>aD (AX.mk (c2 Mod.refl) (aD (AX.mk (c3 Mod.refl) ?_)))
 rw[G,Ab (by omega)];have aq:=k.size;have I: ∀(e:aa) (b:Nat) (a:Sl),Ext d e->e[b]? =some (J2 (⟨0,st,nx,⟨0,⟨#[]⟩,0,0⟩,⟨#[]⟩,a⟩:bS).c Cb (0,0))->View cG e a (WV ev n)->Y (some ⟨b,0,none⟩,()) e:=λe b a i y J=>by
  have ar:=J.len;have au:(WV ev n).length=min 32 (ev.length-n):=by unfold WV;rw[As,Cl]
  refine Z _ _ (aD (AC.mk (n:=0) (AL y rfl) (af.no rfl (aD (Aa.mk (s:=a) (AB y rfl) (af.intro (λl=>?_) (λl=>?_)))))))
  ·have l:a.len=0:=by simpa using l
   have z:n=ev.length:=by omega
   subst z;rw[Bk] at q;exact W e sl (k.trans i) (q.view.ext i) w
  ·have l:a.len≠0:=by simpa using l
   refine aD (Aa.mk (s:=a) (AB y rfl) ?_);refine GG (E:=cG) (s:=sl) (src:=a) mH (q.ext i) J (by rw[As];omega) (by rw[As];simp only[maxLen];omega) λab av L ac ad _=>?_
   have B:ev.take n++WV ev n=ev.take (n+min 32 (ev.length-n)):=by unfold WV;rw[List.take_add];congr 1;rw[To,Cl];omega
   rw[B] at L;have aw:=i.size;refine X (ev.length-(n+min 32 (ev.length-n))) _ _ (by omega) ⟨n+min 32 (ev.length-n),ab,rfl,rfl,by omega,(k.trans i).more ac w,L,λc f=>?_⟩;rcases ad c f with h|h
   ·exact w c h
   ·omega
 refine⟨D d n _ k v λax a C M _=>Ia.mk _ ⟨rfl,ao.mk λay _ ae r az=>⟨c3 (C.trans r),c2 (C.trans r),aL.mk ae (A0 9) λag N O aA=>?_⟩⟩,ao.mk λaj _ ak t aC=>⟨c3 t,c2 t,D aj n _ (k.trans t) v λaE a Q al am=>Ia.mk _ ⟨rfl,aL.mk (Q.ag ak λh=>h) (A0 9) λan S T aF=>?_⟩⟩⟩
 ·rw[NZ] at N;refine I ag _ a (C.trans (r.more O λc f=>by subst f;exact A0 _)) N ((M.ext r).dx O λz c f B=>?_);have:=M.js z f;omega
 ·rw[NZ] at S;refine I an _ a ((t.trans Q).more T λc f=>by subst f;exact A0 _) S (al.mod T λc f B=>?_);have:=am c f;omega
end
theorem nH {c:Nat}{b:List Pr}(h: ∀p∈b,BP p.key≠109):JC (MJ c) b= []:=dQ λp a=>pY (h p a)
abbrev wW:A2K:=⟨#[119]⟩
abbrev nI:bP:=⟨3,⟨#[110,101,118,101,114]⟩,⟨#[]⟩,0,0,0⟩
abbrev kH:cu:=⟨[nI],0⟩
def iH(a:Nat):A2K:=AY [115,Bn (97+a % 26),Bn (97+a / 26)]
theorem ARL {i a:Nat}(b:i<120)(c:a<120)(h:iH i=iH a):i=a:=by have:=K9.1 h;simp only[Hc,true_and,and_true] at this;have d:=rz (by omega) (by omega) this.1;have e:=rz (by omega) (by omega) this.2;omega
theorem ATD: ∀ {i:Nat},i<120->Ag (iH i)=true:=by
 have h: ∀i:Fin 120,Ag (iH i.val)=true:=by decide
 intro i a;exact h ⟨i,a⟩
theorem qi {i:Nat}{b:A2K}(h:b.size≠3):iH i≠b:=λa=>h (by rw[<- a];unfold iH;rw[AP];rfl)
def kI(an:dm)(i:Nat):Prop:=an ⟨#[116]⟩=none/\ ∀a,i<=a->a<120->an (iH a)=none
theorem ED.gz {mp:List Pr}{c a:Nat}{b:A2K}(d:1<=a)(e:a<=2147483647)(f:Ag b=true)(h:CG mp (F6 c a b)=true):ED mp c a b:=by refine .inr ⟨d,e,f,?_⟩;rw[OP] at h;simp only[A3,decide_eq_true_eq] at h;exact Prod.ext h.2 h.1
theorem tX {x:bY}{p:cu}{n:Nat}{fl c:dd}{an j:dm}{mp l:List Pr}{y w:Hs}{a st nx:Int}(d:x.kind=1)(m:Nz x p=0)(z:p.az=0)(B:an x.aV=none)(o:fl x.wid=none)
  (O:XP fl an n x p 0 a st nx c j) (C:lQ mp l fl c n x p 0 y w):
  a=0/\st=0/\nx=3/\(∃ q,c=dC fl x.wid q/\Av q=dD p 0)/\(∃ D,j=dC an x.aV D)/\ ∃b,l=cy mp b/\ ∀e∈b,BP e.key≠109:=by
 obtain⟨E,M,F,N⟩:=Z0 m;obtain⟨G,H,I,J,K,L⟩:=O.start d m B o (by decide);refine⟨G,H,I,⟨_,J,L⟩,⟨_,K⟩,?_⟩;rcases C with⟨f,P⟩|⟨n0,n1,n2,r,t,Q,f,_,_⟩
 ·exact⟨[],f,λe i=>by cases i⟩
 ·rw[o] at t;obtain⟨S,v,u⟩:=AIw (n:=n) (n0:=n0) (n1:=n1) (n2:=n2) (now:=0) d (E d) F (by decide) z;rw[<- t] at u;refine⟨_,f,λe i=>?_⟩;rcases List.mem_append.1 i with h|h
  ·unfold Ej at h;rcases List.mem_append.1 h with h|h
   ·obtain⟨a,_,rfl⟩:=List.mem_map.1 h;rw[show BP (NS r.wid a).key=104 from SS _ _];decide
   ·split at h
    ·cases h
    ·rw[List.mem_singleton.1 h,show BP (Gt r.wid)=119 from FV _];decide
  ·rw[u] at h;simp only[HM,ON,or_false] at h;rcases h with rfl|rfl
   ·show BP (JI x.aV)≠109;rw[JS];decide
   ·show BP (Rv n n1)≠109;rw[xA];decide
section
variable [Zc] {A : al} {g h : aa} {s k : Nat} {y : Hs} {mp : List Pr} {fl : dd} {an : dm} {O : Nat -> Prop} {R : A2J} {xb bb ab p0 : Nat}
structure dh (g h:aa) (s k:Nat) (y:Hs) (mp:List Pr) (fl:dd) (an:dm) (O:Nat->Prop) (xb bb ab p0:Nat):Prop where
 w:EW g h s k 1 [y] mp fl an O
 hp:y.p=p0
 nm:y.name=kD
 f1:y.f 0=1
 ow:nC mp y 0
 ox:O xb
 cx:h[xb]? =some (J2 (nG bb s p0 ab) GJ (0,0))
theorem dh.c2(a:dh g h s k y mp fl an O xb bb ab p0):ah h ((⟨xb,0,none⟩:Q6).add 2)=some (Ap p0):=AB a.cx rfl
theorem dh.c3(a:dh g h s k y mp fl an O xb bb ab p0):ah h ((⟨xb,0,none⟩:Q6).add 3)=some (Ap ab):=AB a.cx rfl
theorem dh.c1(a:dh g h s k y mp fl an O xb bb ab p0):ah h ((⟨xb,0,none⟩:Q6).add 1)=some (Ap s):=AB a.cx rfl
theorem dh.own {b:aa}{O':Nat->Prop}(a:dh g h s k y mp fl an O xb bb ab p0)(d:Mod O h b)(e: ∀c,O' c->O c\/(h.size<=c/\c<b.size))(f:b[xb]? =h[xb]?)(i:O' xb):dh g b s k y mp fl an O' xb bb ab p0:=
 ⟨a.w.own d e,a.hp,a.nm,a.f1,a.ow,i,f.trans a.cx⟩
theorem dh.on {b:aa}(a:dh g h s k y mp fl an O xb bb ab p0)(x:Ext h b):dh g b s k y mp fl an O xb bb ab p0:=⟨a.w.on x,a.hp,a.nm,a.f1,a.ow,a.ox,x.ag a.cx λh=>h⟩
theorem dh.less {O':Nat->Prop}(a:dh g h s k y mp fl an O xb bb ab p0)(b: ∀c,O' c->O c)(d:O' xb):dh g h s k y mp fl an O' xb bb ab p0:=⟨a.w.less b,a.hp,a.nm,a.f1,a.ow,d,a.cx⟩
theorem dh.eF {x:bY}{p:cu}{u:J0}{b:Int}(v:cp g)(a:dh g h s k y mp fl an O xb bb ab p0)(w:k+1<=490)(V:View Qb h x.steps p.steps)(z:x.az=p.az)(len:p.steps.length<=1099511627776)(B: -4611686018427300000<=b/\b<=4611686018427300000)
  (C: ∀c f j d l m st nx,dh g c s (k+1) f j d l O xb bb ab p0->Mod (br g O) h c->XP fl an 0 x p b m st nx d l->lQ mp j fl d 0 x p b y f->R (eN m st nx).v c):
  AA A P Ca #[Ap p0,u,J6 J9 b,x.v] h R:=by
 have o:BJ x.wid 1=0:=by have:=XI x.wid (n:=1) (by decide);omega
 rw[<- a.hp];refine a.w.ir (i:=0) v rfl w (by rw[o];exact a.ow) V z len B λc f j d l m st nx D e E q r t=>?_
 rw[o] at r t;refine C c f j d l m st nx ⟨D,e.p.trans a.hp,e.name.trans a.nm,by rw[e.f];exact a.f1,?_,a.ox,br.aS q a.cx a.ox⟩ q r t;have:=a.ow;unfold nC at this ⊢;rw[e.f,e.name,E];exact this
end
abbrev gL(a:Nat):Pr:=⟨JV 0 27 a,Xc ⟨7,0,0⟩ wW,false⟩
section
variable [Zc] {A : al} {g h : aa} {s k : Nat} {y : Hs} {mp : List Pr} {fl : dd} {an : dm} {O : Nat -> Prop} {R : A2J} {xb bb ab p0 : Nat}
theorem AEk {n:Nat}(E:cp g)(u:dh g h s k y mp fl an O xb bb ab p0)(b8:n<=119)(b9:k<=100)(bj:fl wW=none)(bk:an ⟨#[114]⟩=none)(hA:kI an 0)(G:JC (MJ 0) mp= [])
  (bm: ∀v aX o q r t f z,dh g v s aX o q r t O xb bb ab p0->aX<=k+121->Mod (br g O) h v->r wW=some f->Av f=ie kH n->JC (MJ 0) q= [gL z]->R (J1 #[.agg #[J7 (gL z).key,J7 (gL z).val,J3 false],J3 true]) v):
  AA A P Gh #[Ap xb,J6 J9 (n:Int)] h R:=by
 refine PS ?_;unfold KA;have ca:=(u.w.w.out u.ox).1;have ap:=u.ox;have aY: ∀m:Nat,m<256->J8 .u8 ((m:Nat):Int)=((Bn m).toNat:Int):=λm aZ=>by rw[wrap_u8,Dr aZ,AE aZ]
 refine ao.mk λD _ ay T cb=>ai.mk λK bn=>?_
 generalize cc:h.size=pb at*
 have H:dh g D s k y mp fl an (λd=>O d\/d=pb) xb bb ab p0:=u.own T.mod (λc e=>e.imp id λh=>by omega) (T.get xb (by omega) λh=>h) (.inl u.ox);have bo: ∀sl:Sl,Nz (⟨1,⟨#[114]⟩,wW,⟨#[]⟩,sl,0,Vn,0,0,0,0,false⟩:bY) kH=0:=λsl=>by
  unfold Nz;rw[if_neg (λh=>by have B:=h.2;exact absurd B (by decide)),if_neg];rintro(h|h|h)
  ·exact absurd h.1 (show ¬(1:Int)=2 by decide)
  ·exact absurd h (show ¬Ag ⟨#[119]⟩=false by decide)
  ·exact absurd h (show ¬Ag ⟨#[114]⟩=false by decide)
 have key: ∀(M:aa) (az:Nat) (o:Hs) (q:List Pr) (r:dd) (t:dm) (f:List Ev),dh g M s (k+1) o q r t (λd=>O d\/d=pb) xb bb ab p0->Mod (λd=>br g O d\/pb<=d) h M->M[az]? =some (J2 (eN 0 0 3).c Cb (0,0))->M[pb]? =some (J2 #[J7 (⟨#[]⟩:A2K),J7 (⟨#[]⟩:A2K),J3 false] AQ (0,0))->r wW=some f->Av f=dD kH 0->kI t 0->JC (MJ 0) q= []->K (some ⟨az,0,none⟩,()) M:=λM az o q r t f a0 a1 a2 U W I hA G=>by
  refine bn _ _ (aD (AC.mk (n:=0) (AL a2 rfl) (af.no rfl ?_)));refine Loop.rule (λm x w=> ∃(i:Nat) (y:Hs) (mp:List Pr) (fl:dd) (an:dm) (f:List Ev),x=((i:Int),())/\m=n-i/\i<=n/\dh g w s (k+1+i) y mp fl an (λd=>O d\/d=pb) xb bb ab p0/\Mod (λd=>br g O d\/pb<=d) h w/\w[pb]? =some (J2 #[J7 (⟨#[]⟩:A2K),J7 (⟨#[]⟩:A2K),J3 false] AQ (0,0))/\fl wW=some f/\Av f=dD kH i/\kI an i/\JC (MJ 0) mp= []) ?_
   ⟨0,o,q,r,t,f,rfl,rfl,A5 _,a0,a1,U,W,I,hA,G⟩
  clear a0 a1 U W I hA G a2;rintro cd m _ w ⟨i,y,mp,fl,an,f,rfl,rfl,ce,u,a3,U,W,I,hA,G⟩ bp;dsimp only;have N: ∀ {v X:aa},Mod (br g λd=>O d\/d=pb) v X->Mod (λd=>br g O d\/pb<=d) v X:=λm=>m.aj λd _ C=> .inl (br.less C λc F=> .inl F)
  refine af.intro (λC=>?_) (λC=>?_)
  ·have aA:i<n:=by have:=of_decide_eq_true C;omega
   refine aD (AX.mk u.c2 (aD (AX.mk u.c3 ?_)));rw[show((i:Int).tmod (26:Int))=((i % 26:Nat):Int) from(LO i 26).symm,show((i:Int).tdiv (26:Int))=((i / 26:Nat):Int) from(Int.ofNat_tdiv i 26).symm,Eb (by omega),show((97:Int)+((i % 26:Nat):Int))=((97+i % 26:Nat):Int) from by omega,show((97:Int)+((i / 26:Nat):Int))=((97+i / 26:Nat):Int) from by omega,Eb (by omega),Eb (by omega)];refine ao.mk λbq _ bs aC cf=>?_
   have Y:=u.on aC;have v1:View Ho bq ⟨some ⟨w.size,0,none⟩,2,2⟩ [Bn (97+i % 26),Bn (97+i / 26)]:=(Own.lit (E:=Ho) (l:= [Bn (97+i % 26),Bn (97+i / 26)]) bs (by
    show [Value.int .u8 (J8 .u8 ((97+i % 26:Nat):Int)),Value.int .u8 (J8 .u8 ((97+i / 26:Nat):Int))]= [Value.int .u8 ((Bn (97+i % 26)).toNat:Int),Value.int .u8 ((Bn (97+i / 26)).toNat:Int)];rw[aY _ (by omega),aY _ (by omega)]) (by simp[maxLen])).view
   refine⟨Y.c3,Y.c2,Km (s:=⟨some ⟨w.size,0,none⟩,2,2⟩) Zx l9 Pg v1 ⟨_,rfl,Y.c3,Y.c2,⟨by rw[AP,max_i64];show((3:Nat):Int)<=9223372036854775807;decide,?_⟩⟩⟩;rw[show(⟨#[115]⟩:A2K)++AY [Bn (97+i % 26),Bn (97+i / 26)]=iH i from by
    rw[show(⟨#[115]⟩:A2K)=AY [115] from rfl,Ak];rfl]
   have bt:=ATD (i:=i) (by omega);refine Y.eF (x:=dE 2 (iH i) wW ⟨#[103,111]⟩) (p:=⟨[],0⟩) E (by omega) View.nil rfl (by decide) (by decide) λcg o q r t Q st nx bu a4 Z ac=>Ia.mk _ ⟨rfl,?_⟩
   have ad:=u.w.w.sorted;obtain⟨rfl,rfl,⟨bv,rfl⟩,aE,b,rfl,aF⟩:=AQf (by omega) (by decide) (by decide) bt (hA.2 i (A0 _) (by omega)) W I Z ac;refine af.no rfl ?_;rw[Ab (by omega)];refine bp (n-(i+1)) _ _ (by omega) ⟨i+1,o,_,_,_,_,rfl,rfl,aA,bu,a3.trans (aC.mod.trans (N a4)),br.aS a4 (aC.ag U λh=>h) (.inr rfl),IW,aE,⟨?_,λj D B=>?_⟩,?_⟩
   ·rw[Ju λQ=>qi (i:=i) (by decide:(⟨#[116]⟩:A2K).size≠3) Q.symm];exact hA.1
   ·rw[Ju λQ=>by have:=ARL B (by omega) Q;omega];exact hA.2 j (by omega) B
   ·rw[Sd ad,nH aF];exact G
  ·have aA:i=n:=by have:=of_decide_eq_false C;omega
   subst aA;refine aD (AX.mk u.c2 (aD (AX.mk u.c3 ?_)));refine u.eF (x:=dE 4 ⟨#[116]⟩ wW ⟨#[]⟩) (p:=⟨[],0⟩) E (by omega) View.nil rfl (by decide) (by decide) λch o q r t Q st nx ag a5 Z ac=>Ia.mk _ ⟨rfl,?_⟩
   have ad:=u.w.w.sorted;obtain⟨rfl,rfl,aE,a,z,rfl,bw⟩:=AQx (by omega) (by decide) (by decide) hA.1 W I Z ac;have a6:JC (MJ 0) (cy mp (a++ [gL z]))= [gL z]:=by
    rw[Sd ad,G,tJ,nH bw,pX,if_pos]
    ·rfl
    ·show PU (MJ 0) (JV 0 27 z)=true;rw[Om];unfold MJ JV;rw[Bl,Bl];exact⟨_,rfl⟩
   have aG:=br.aS a5 U (.inr rfl);refine af.no rfl (aD (AX.mk ag.c1 (ANR (n:=0) (by decide) λci aH=>⟨_,rfl,(ag.on aH).c1,?_⟩)));refine(ag.on aH).w.w.scan (by unfold MJ;rw[AP];show 2<=1099511627776;decide) λps bx S cj bz=>⟨_,_,rfl,?_⟩
   rw[tI,a6] at S;have S:Own BM AQ bx ps [gL z]:=S;have bA:ps.len=1:=S.len;have aq:=aH.trans bz;have aG:=aq.ag aG λh=>h
   refine ai.mk λck bB=>af.no rfl (af.no (by rw[bA];rfl) (S.view.idx (i:=0) rfl λbC _ ah=>AJ.mk ah.pair.1 (ASa ⟨_,rfl,bB _ _ (af.no rfl ?_)⟩)))
   refine S.view.idx (i:=0) rfl λbC _ ah=>AJ.mk ah.pair.1 (AJ.mk ah.pair.2.1 (AZ.mk ah.pair.2.2 ?_))
   refine ae.bJ (j:=0) aG (of_decide_eq_true rfl) rfl λcl bD bE cm=>ae.bJ (j:=1) bD (of_decide_eq_true rfl) rfl λcn bF bG co=>ae.bJ (j:=2) (dH:=(gL z).cells) bF (of_decide_eq_true rfl) rfl λbH aI bI cq=>?_
   refine AJ.mk (n:=(gL z).key) (AL aI rfl) (AJ.mk (n:=(gL z).val) (AB aI rfl) (AZ.mk (n:=false) (AB aI rfl) ?_));have aJ:=bE.trans (bG.trans bI);have bJ: ¬xb=pb:=by omega
   have bK:=(ag.on aq).own (O':=λd=>O d\/d=pb) (aJ.aj λc _ e=> .inr e) (λc e=> .inl e) (aJ.get xb (by have:=Ai (ag.on aq).cx;omega) bJ) (.inl ap);refine bm bH _ o _ _ _ _ z (bK.less (λc e=> .inl e) ap) (by omega) ?_ IW aE a6;exact(a3.trans ((N a5).trans (aq.mod.trans (aJ.aj λd _ C=> .inr (by omega))))).aj λd bL C=>C.elim id λh=>absurd bL (by omega)
 have N: ∀ {J:Nat->Prop} {v X:aa},(∀ d,O d->J d)->Mod (br g J) v X->Mod (λd=>br g O d\/pb<=d) v X:=λbM m=>m.aj λd _ C=> .inl (br.less C λc F=>bM c F)
 have aK: ∀ {w:aa} {aj:Nat} {J:Nat->Prop} {aM:A2J},dh g w s k y mp fl an J xb bb ab p0->w[aj]? =some (J2 nI.c Bv (0,0))->
   (∀ v o q r t f,dh g v s (k+1) o q r t J xb bb ab p0->Mod (br g J) w v->r wW=some f->Av f=dD kH 0->kI t 0->JC (MJ 0) q= []->aM (eN 0 0 3).v v)->
   AA A P Ca #[Ap p0,.iface BR (Ap ab),J6 J9 0,(⟨1,⟨#[114]⟩,wW,⟨#[]⟩,⟨some ⟨aj,0,none⟩,1,1⟩,0,Vn,0,0,0,0,false⟩:bY).v] w aM:=λ{w aj J aM} u bN bO=>by
  have V:View Qb w ⟨some ⟨aj,0,none⟩,1,1⟩ [nI]:=(Own.lit (E:=Qb) (l:= [nI]) bN rfl (by decide)).view;have ad:=u.w.w.sorted;refine u.eF (x:=⟨1,⟨#[114]⟩,wW,⟨#[]⟩,⟨some ⟨aj,0,none⟩,1,1⟩,0,Vn,0,0,0,0,false⟩) (p:=kH) E (by omega) V rfl (by decide) (by decide) λv o q r t Q st nx bP bQ Z ac=>?_
  obtain⟨rfl,rfl,rfl,⟨f,rfl,I⟩,⟨bv,rfl⟩,b,rfl,aF⟩:=tX rfl (bo _) rfl bk bj Z ac;refine bO v o _ _ _ f bP bQ IW I ⟨?_,λj D B=>?_⟩ (by rw[Sd ad,nH aF];exact G)
  ·exact(Ju (by show(⟨#[116]⟩:A2K)≠⟨#[114]⟩;decide)).trans hA.1
  ·exact(Ju (qi (by show(⟨#[114]⟩:A2K).size≠3;decide))).trans (hA.2 j D B)
 have lp:=Ai ay;have cr: ¬xb=pb:=by omega
 refine aD (AX.mk H.c2 (aD (AX.mk H.c3 ⟨?_,?_⟩)))
 ·refine ao.mk λaN _ a7 ar cs=>?_
  have L:=H.on ar;have aO:=ar.ag ay λh=>h
  refine⟨L.c3,L.c2,?_,?_⟩
  ·refine aK L a7 λa8 o q r t f a9 ba D B ak al=>Ia.mk _ ⟨rfl,ao.mk λct _ bR bc cu=>?_⟩
   have bd:=a9.on bc;have be:=br.aS ba aO (.inr rfl);have cv:=Ai be;refine⟨bd.c3,bd.c2,aL.mk bR (A0 9) λbf bg bS cw=>?_⟩;rw[NZ] at bg;have aP:Ext a8 bf:=bc.more bS λc e=>by subst e;exact A0 _
   exact key bf a8.size o q r t f (a9.on aP) (T.mod.trans (ar.mod.trans ((N (λc F=> .inl F) ba).trans aP.mod))) bg (aP.ag be λh=>h) D B ak al
  ·refine ao.mk λbT _ bU am cx=>?_
   have aQ:dh g bT s k y mp fl an (λd=>(O d\/d=pb)\/d=aN.size) xb bb ab p0:=L.own am.mod (λc e=>e.imp id λh=>by omega) (am.get xb (Ai L.cx) λh=>h) (.inl L.ox);refine⟨aQ.c3,aQ.c2,aK aQ (am.ag a7 λh=>h) λcz o q r t f aR aS D B ak al=>Ia.mk _ ⟨rfl,aL.mk (br.aS aS bU (.inr rfl)) (A0 9) λbV bh au cB=>?_⟩⟩;rw[NZ] at bh;have bW:=br.aS aS (am.ag aO λh=>h) (.inl (.inr rfl));have cC:=Ai aO;have bX:=Ai L.cx;have bZ:=(aR.own (O':=λd=>(O d\/d=pb)\/d=aN.size) (au.aj λc _ e=> .inr e) (λc e=> .inl e) (au.get xb (Ai aR.cx) (by omega)) aR.ox).less (O':=λd=>O d\/d=pb) (λc e=> .inl e) (.inl ap);exact key bV aN.size o q r t f bZ (T.mod.trans (ar.mod.trans (am.mod.trans ((N (λc F=> .inl (.inl F)) aS).trans (au.aj λd _ C=> .inr (by omega)))))) bh (au.ag bW (by omega)) D B ak al
 ·refine ao.mk λb0 _ b1 av cD=>?_
  have aT:dh g b0 s k y mp fl an (λd=>(O d\/d=pb)\/d=D.size) xb bb ab p0:=H.own av.mod (λc e=>e.imp id λh=>by omega) (av.get xb (Ai H.cx) λh=>h) (.inl H.ox);refine⟨aT.c3,aT.c2,ao.mk λcE _ b2 aw cF=>?_⟩;have aU:=aT.on aw;have b3:=(av.trans aw).ag ay λh=>h
  refine⟨aU.c3,aU.c2,aK aU b2 λcG o q r t f aV aW b4 B ak al=>Ia.mk _ ⟨rfl,aL.mk (br.aS aW (aw.ag b1 λh=>h) (.inr rfl)) (A0 9) λb5 bi ax cH=>?_⟩⟩;rw[NZ] at bi;have b6:=br.aS aW b3 (.inl (.inr rfl));have bX:=Ai H.cx;have b7:=(aV.own (O':=λd=>(O d\/d=pb)\/d=D.size) (ax.aj λc _ e=> .inr e) (λc e=> .inl e) (ax.get xb (Ai aV.cx) (by omega)) aV.ox).less (O':=λd=>O d\/d=pb) (λc e=> .inl e) (.inl ap);exact key b5 D.size o q r t f b7 (T.mod.trans (av.mod.trans (aw.mod.trans ((N (λc F=> .inl (.inl F)) aW).trans (ax.aj λd _ C=> .inr (by omega)))))) bi (ax.ag b6 (by omega)) b4 B ak al
end
section
variable {A : al} {B : cz} {g h : aa} {s a N sh : Nat} {l : List Hs} {mp : List Pr} {O : Nat -> Prop} {R : A2J}
theorem LW.lr {i n:Nat}{x:Hs}{conds sl:Sl}{k lp:List Pr}(z:cp g)(C:LW B g h s a N sh l mp O)(o:l[i]? =some x)(D:n<256)(E:x.f n<=2147483647)(hA:4+3*a<=B.A)(W:64*a+64<=B.C)(X:a+1<=1000000)(vc:View BM h conds k)(F:k.length<=1000000)(v:View BM h sl lp)(G:lp≠ []-> ∀b,sl.ag=some b->b<g.size\/O b)(H: ∀x∈k,x.key.size<=1099511627776)
  (q:x.f n≠0) (r:CG mp (F6 n (x.f n) x.name)=false)
  (I: ∀d,LW B g d s a N sh (l.set i (x.lost n)) mp O->Mod (br g O) h d->d[s]? =h[s]? ->R (J6 J9 170) d):
  AA A P Ec #[Ap x.p,J6 J9 (n:Int),J4 conds.p conds.len conds.cap,J4 sl.p sl.len sl.cap] h R:=by
 obtain⟨Y,Z,st,m,aa,nn,e,J,rfl,t,K,out⟩:=C;have u:=t.host i x o;have ab:=e.db.mem.ext.size;have w:=u.bM x.bh (.inr (.inl rfl));refine zP z e u D E (by omega) (by omega) (by omega) vc F v (λL b M=>?_) H (λh=>absurd h q) (λq ac d Q S y=>?_) (λ_ f=>by rw[r] at f;cases f) λ_ f=>by rw[r] at f;cases f
 ·rcases G L b M with h|h
  ·refine⟨by omega,e.db.base h,?_⟩;have:=w.2.1;omega
  ·obtain⟨T,U,ad,ae,V⟩:=out b h;exact⟨U,T,λp=>V x (AK o) (.inr (.inl p))⟩
 ·have:=LW.dy (x':=x.lost n) e t out o Q J y (λc j=>by
   rcases j with h|h
   ·exact .inr (.inl h)
   ·exact .inr (.inr (.inr (.inr (.inl h))))) (λc j=> .inl j) S (λ_=>CI) ⟨A0 _,K⟩
  exact I d this.1 this.2 (y.get s e.lt λj=>j.elim (λh=>by have:=e.lt;omega) λp=>w.2.2 p.symm)
theorem LW.iw(b:LW B g h s a N sh l mp O): ∃(c:Nat) (d:Nat),h[s]? =some (J2 #[Ap c,J6 J9 (d:Int)] PY (0,0)):=by obtain⟨f,i,st,m,j,nn,e,k,n,o,p,out⟩:=b;exact⟨_,_,e.cell⟩
theorem tY {c b:Nat}(d:h[s]? =some (J2 #[Ap c,J6 J9 (b:Int)] PY (0,0)))(e:R (J6 J9 (b:Int)) h):AA A P Iz #[Ap s] h R:=by refine XT ?_;unfold Po;exact af.no rfl (aD (AC.mk (AB d rfl) e))
end
theorem AKZ {w:A2K}{l:List Ev}(e:Ag w=true)(f:QN l)(t:l.length<=400):Ps w l=0/\ ∀b∈l,b.data.size<=4194304:=by
 have ok: ∀b∈l,Di b=true:=λb d=>by
  obtain⟨i,j⟩:=Ek d;exact(f.next.2 i b j).2
 have k:l.all Di=true:=List.all_eq_true.2 ok;have m: ∀l:List Ev,(∀ b∈l,Di b=true)->(l.flatMap λb=>BF (EH b)).length<=l.length*2110:=by
  intro l
  induction l with
  |nil=>intro _;simp
  |cons b l o=>
   intro c;have p:=o λx q=>c x (AG _ q)
   have u:=Qi (c b (by simp));have v:=MF (GU (c b (by simp))) (by omega);have y:=AV (n:=(EH b).length) (by omega);have z:(BF (EH b)).length=(BU (EH b).length).length+(EH b).length:=by simp[BF]
   simp only[AF,A1,A6];omega
 have r:EJ l=(0,Nc l):=by unfold EJ;rw[if_neg (by omega),if_pos k]
 have c:=m l ok;have C:=AV (n:=l.length) (by omega);have p:(Nc l).length<=1048576:=by simp only[Nc,A1];omega
 refine⟨?_,λb d=>by have:=Qi (ok b d);omega⟩;unfold Ps;rw[if_pos e,r,if_neg (by simp),if_neg (by simp;omega)]
theorem AQy {e:al}{a:aa}{b:Nat}{d:A2J}(f: ∀c,c[a.size]? =some (J2 #[Ap b] Gf (0,0))->Ext a c->c.size=a.size+1->d (Ap a.size) c):AA e P MZ #[Ap b] a d:=by refine UH ?_;unfold QG;exact ao.mk λg _ h x i=>f g h x i
abbrev sW:A2K:=⟨#[119]⟩
abbrev sX:A2K:=⟨#[120]⟩
theorem AT5:Ag sW=true:=by decide
theorem ATS:Ag sX=true:=by decide
theorem wx: ¬(zn sX=zn sW):=λa=>by have:=AST a;revert this;decide
theorem AJ9 {K:al}{e:aa}{t:A2J}(L: ∀j,Ext e j->t (J3 true) j):AA K P Jz #[] e t:=by
 refine Tn ?_;unfold Nk;refine tf λb u v w y M=>⟨_,rfl,?_⟩
 refine AQy λk N z aD=>⟨_,rfl,?_⟩
 refine ao.mk λA _ O m aE=>?_
 have Q:=(w.ext z).ext m;have B:=m.ag N (λe=>e);have f: ∀c,v c->c<u.size:=λc d=>w.lt d
 have n:Own cG Ae A ⟨some ⟨k.size,0,none⟩,1,1⟩ [gh 2 2]:=Own.lit (E:=cG) (l:= [gh 2 2]) O rfl (by simp[maxLen]);have C:Ps sW [gh 2 2]=0:=AKf AT5 (by simp) (by simp[(ASV (id:=2) ⟨by decide,by decide⟩).1]) (by simp[gh];rfl);have hd: ∀g∈ [gh 2 2],g.data.size<=4194304:=λg R=>by
  obtain rfl:=List.mem_singleton.1 R;exact A5 _
 have aF:=y.size;refine yd (s:=⟨some ⟨k.size,0,none⟩,1,1⟩) (l:= [gh 2 2]) B Q AN9 (λd=>by have:=f _ d;omega) (by simp[gW,ba]) (by decide) n.view
  (λj S=>n.view.mod S λc d=>by simp[Sl.ag] at d;subst d;exact λd=>by have:=f _ d;omega) (by simp) hd (λT=>absurd C T) λ_ D aG o F G p aH H aI=>⟨_,rfl,?_⟩
 have U: ¬v u.size:=λd=>by have:=f _ d;omega
 have I:=p.ag B U;have V:View cG D ⟨some ⟨k.size,0,none⟩,1,1⟩ [gh 2 2]:=n.view.mod p λc d W=>by simp[Sl.ag] at d;subst d;have:=f _ W;omega
 have X:Ext e A:=(y.trans z).trans m;have Y:Ext e D:=X.more p λc d=>M c d
 have aJ:ba gW.files=0:=rfl;have Z:Vw o sW=(0,[gh 2 2]):=yc G.1 C hd (by rw[H,if_pos rfl]);refine XZ I F (by omega) (by decide) λaK J h q aL=>⟨J,_,rfl,?_⟩
 rw[Z] at q ⊢;have ab:=h.ag I (λe=>e);have ac:Vw o sX=(31,[]):=by
  have:FD o (zn sX)=(bq,31):=by rw[YS G.1,H,if_neg wx];rfl
  unfold Vw;rw[if_pos ATS,this];rfl
 refine XZ ab (F.ext h) (by omega) (by decide) λad ae r ag aM=>⟨ae,_,rfl,?_⟩
 rw[ac] at ag ⊢;refine af.yes rfl (af.yes rfl (af.yes rfl ?_));have ah:J.len=1:=by rw[q.len];rfl
 refine af.yes (by rw[ah];rfl) ?_;refine(q.ext r).idx (i:=0) (x:=gh 2 2) rfl λa _ c1=>?_
 obtain⟨ai,aj,ak,am,an,ap,aq,ar⟩:=jX c1;refine AC.mk ai (AC.mk aj (AC.mk ak (AC.mk am (AC.mk an (AC.mk ap (AZ.mk aq (AJ.mk ar ?_)))))));refine((V.ext h).ext r).idx (i:=0) (x:=gh 2 2) rfl λaN _ c2=>?_
 obtain⟨au,av,aw,ax,ay,az,aA,aC⟩:=jX c2;refine AC.mk au (AC.mk av (AC.mk aw (AC.mk ax (AC.mk ay (AC.mk az (AZ.mk aA (AJ.mk aC ?_)))))));refine AUB ⟨_,rfl,?_⟩;refine af.yes (decide_eq_true rfl) ?_;refine Te (by decide) ⟨_,rfl,?_⟩;have g:bQ (zn ⟨#[119,49]⟩) (⟨#[122,119,49]⟩:A2K)=true:=by rw[Cn];decide
 rw[g];exact L ad ((Y.trans h).trans r)
theorem APi {x:Int}{n:Nat}(c:0<n)(e:n<=1000): ∃b:Nat,b<n/\(J8 J9 ((x.tmod ((n:Nat):Int))+((n:Nat):Int))).tmod ((n:Nat):Int)=(b:Int):=by have f:x.tmod (n:Int)<n:=Int.tmod_lt_of_pos x (by omega);have g: -(n:Int)<x.tmod n:=Int.lt_tmod_of_pos _ (by omega);rw[wrap_i64 (by omega) (by omega)];obtain⟨a,d⟩: ∃a:Nat,x.tmod (n:Int)+n=(a:Int):=⟨(x.tmod (n:Int)+n).toNat,by omega⟩;rw[d,<-LO];exact⟨a % n,Cp _ c,rfl⟩
theorem APy {c:List Pr}{a:UInt8}{b:List UInt8}(s:Sorted c)(h: ∀b,BP b≠108->Af b c=none)(d:a≠108):JC (AY (a::b)) c= []:=by
 refine List.filter_eq_nil_iff.2 λp e f=>?_
 have:=h p.key (by rw[tL f];exact d);rw[s.find e] at this;cases this
abbrev o0:A2K:=⟨#[111,112,101,110]⟩
abbrev vP:A2K:=⟨#[110,111,110,101]⟩
abbrev qS:bY:=⟨1,⟨#[113]⟩,o0,⟨#[]⟩,Vn,0,Vn,0,0,0,0,false⟩
theorem AQW:Nz qS ⟨[],0⟩=0:=by
 unfold Nz;rw[if_neg (λh=>by have a:=h.2;exact absurd a (by decide)),if_neg];rintro(h|h|h)
 ·exact absurd h.1 (show ¬(1:Int)=2 by decide)
 ·exact absurd h (show ¬Ag o0=false by decide)
 ·exact absurd h (show ¬Ag ⟨#[113]⟩=false by decide)
abbrev QU:A2K:=⟨#[104,111,115,116,49]⟩
section
variable {A : al} {h : aa} {R : A2J}
theorem Xq {signals:Int}(J:cp h)(bz: ∀g,Ext h g->R (J3 true) g):AA A P Ib #[J6 J9 signals] h R:=by
 refine Mh ?_;unfold IR;refine AJ9 λar aY=>⟨_,rfl,af.no rfl ?_⟩
 refine ao.mk λcK _ bA bB cL=>tf λm cM Sb bC aZ a0=>⟨_,rfl,?_⟩
 have cN:=aY.size;generalize cO:ar.size=f at*
 refine(λ(u: ∀ [Zc],Zc.bx=m->Zc.zf=(λ_=>none)-> ?_)=> @u ⟨m,λ_=>none⟩ rfl rfl) ?_;intro cP a1 bD;refine AHM J bC (aY.trans (bB.trans aZ)) (λc e=>by have:=a0 c e;omega) (aZ.ag bA λh=>h) (by omega) (λe=>by have:=a0 f e;omega) a1 bD λau s y ab B a2 a3 bE a4 L bF=>⟨_,rfl,af.no rfl ?_⟩
 have a5:=a2.w.sorted;have X:dh h au s 1 y B (λ_=>none) (λ_=>none) (λd=>d=f\/d=ab) f m ab y.p:=⟨a2,rfl,bE,(a3.has 0 (by decide)).1,a3.owns (by decide),.inl rfl,a4⟩;obtain⟨a6,cQ,a7⟩:=APi (x:=signals) (n:=30) (by decide) (by decide);rw[show((30:Nat):Int)=30 from rfl] at a7;have cR:=Ai L;have bG:=Ai a4;refine ai.mk λK bH=>?_
 have key: ∀(M:aa) (av:Nat) (o:Hs) (B:List Pr) (N:dd) (Y:dm) (ev:List Ev),dh h M s 2 o B N Y (λd=>d=f\/d=ab) f m ab y.p->M[ab]? =some (J2 #[Ap m] Gf (0,0))->M[av]? =some (J2 (eN 0 0 3).c Cb (0,0))->N o0=some ev->Av ev=dD ⟨[],0⟩ 0->N vP=none->N wW=none->Y ⟨#[114]⟩=none->kI Y 0->JC (MJ 0) B= []->K (some ⟨av,0,none⟩,()) M:=λM av o B N Y ev q L bI bJ bK bL bM bN hA bO=>by
  refine bH _ _ (aD (AC.mk (n:=0) (AL bI rfl) (af.no rfl (AX.mk q.c2 (AX.mk q.c3 ?_)))));rw[<- q.hp];refine AMo q.w.w (i:=0) rfl q.w.m (by decide) bJ (by rw[bK];rfl) λcS a8=>⟨_,_,rfl,?_⟩
  have O:=q.on a8;refine AX.mk O.c2 (AX.mk O.c3 ?_);rw[<- q.hp];refine AMh O.w.w (i:=0) rfl O.w.m (by decide) bL λcT a9=>⟨_,_,rfl,?_⟩
  have bP:=O.on a9;have bQ:=(a8.trans a9).ag L λh=>h
  rw[a7];refine AEk J bP (by omega) (by decide) bM bN hA bO λcU j l F ba bb k Z v cV bR ac ad cW=>⟨_,_,_,_,rfl,?_⟩
  have bS:=br.aS bR bQ (.inr rfl);refine ao.pair λae bT cY bU aw cZ=>?_
  have bV:=Ai v.cx;have G:dh h bT s j l F ba bb (λd=>(d=f\/d=ab)\/d=ae) f m ab y.p:=v.own aw.mod (λc e=>e.imp id λh=>by omega) (aw.get f bV λh=>h) (.inl (.inl rfl));have bW:=aw.ag bS λh=>h
  refine ai.mk λc0 bX=>af.no rfl (af.no rfl (bX _ _ (af.no rfl (AX.mk G.c1 ?_))))
  have kb:j<=130:=by omega
  refine G.w.w.host (name:=QU) (by decide) (by decide) λc1 ag ah aj bY ax=>⟨_,_,rfl,?_⟩
  have bc:=v.w.w.sorted;have bZ:ED F 0 1 kD:=ED.gz (A0 _) (by decide) (by decide) (by have:=G.ow.2;rw[G.f1,G.nm] at this;exact this);have c2:Us.C=32000:=rfl;have c3:Us.A=1600:=rfl;refine bY.acquire (i:=1) (x:=⟨ag,ah,aj,QU,λ_=>0,λ_=>0⟩) J rfl (by decide) bZ (by decide) (by omega) (by omega) (by omega) (by omega) λay ak az=>⟨_,_,rfl,?_⟩
  have ak:LW Us h ay s (j+1) (3*j+1) 1 [l,⟨ag,ah,aj,QU,λn=>cX (λ_=>0) 0 (1+1) n,λn=>cX (λ_=>0) 0 0 n⟩] (cy F [⟨Bg 0,HV (1+1) QU,false⟩]) (λd=>(d=f\/d=ab)\/d=ae):=ak;have al:JP (cy F [⟨Bg 0,HV (1+1) QU,false⟩]) ba bb:=v.w.m.aS bc λp b0=>by
   rw[List.mem_singleton.1 b0];show BP (Bg 0)≠104/\BP (Bg 0)≠119/\BP (Bg 0)≠114;rw[Rz];decide
  have b1:ED (cy F [⟨Bg 0,HV (1+1) QU,false⟩]) 0 2 QU:=ED.laid bc (by decide) (by decide) (by decide);generalize cy F [⟨Bg 0,HV (1+1) QU,false⟩]=am at*
  have lost:CG am (F6 0 (l.f 0) l.name)=false:=by
   cases aA:CG am (F6 0 (l.f 0) l.name) with
   |false=>rfl
   |true=>
    rw[v.f1] at aA;have:=b1.own (name:=l.name) (r':=1) (by decide) (by decide) aA;omega
  have aC:=br.aS az (ax.ag G.cx λh=>h) (.inl (.inl rfl));have b2:=br.aS az (ax.ag bW λh=>h) (.inl (.inr rfl));have b3:=br.aS az (ax.ag bU λh=>h) (.inr rfl);have H:=al.dv wW k ac;have aE:=H.len;have b4:(Av k).status=4:=by rw[ad];rfl
  have b5:k.length<=400:=by have:=H.next.1;rw[ad] at this;have:4+(a6:Int)=k.length+1:=this;omega
  obtain⟨b6,b7⟩:=AKZ (w:=wW) (by decide) H b5;rw[<- v.hp] at aC;refine YL (ev:=k) (st:=(Av k).status) (nx:=(Av k).next) aC aE (λu n C D aF r=>tV (i:=0) (ak.on D) rfl al (by decide) ac aF λg I Q S U=>r g I Q S U) λan b8 V aG bd=>⟨_,_,rfl,?_⟩
  have ap:=V.ag aC λh=>h
  have aH:=V.ag b3 λh=>h
  have c4:=V.size;have aI:LW Us h an s (j+1) (3*j+1) 1 [l,⟨ag,ah,aj,QU,λn=>cX (λ_=>0) 0 (1+1) n,λn=>cX (λ_=>0) 0 0 n⟩] am (λd=>((d=f\/d=ab)\/d=ae)\/(ay.size<=d/\d<an.size)):=ak.own V.mod λc e=>e
  obtain⟨b9,nn,be⟩:=aI.iw;refine AX.mk (AB ap rfl) (tY be ⟨_,rfl,AX.mk (AB ap rfl) (AX.mk (AB ap rfl) (AJ.mk (n:=(gL Z).key) (AL aH rfl) (AJ.mk (n:=(gL Z).val) (AB aH rfl) (AZ.mk (n:=false) (AB aH rfl) ?_))))⟩);have ca:BJ wW 1=0:=by have:=XI wW (n:=1) (by decide);omega
  have cb:Us.W0+(1+3*(j+1))*Us.K+2000000<1099511627776:=by show 0+(1+3*(j+1))*ll 32000+2000000<1099511627776;unfold ll;omega
  refine AQi (kept:=false) (B':= {Us with zf:=jL Us.zf wW k}) (a':=j+1+1) (i:=0) (ab:=ab) aI rfl H (by decide) (by rw[b4];decide) rfl (by show(JV 0 27 Z).size<=_;rw[Ms];decide)
   (λar C D r=>nB (i:=0) (aI.on D) rfl al (by decide) ac λg I a b c Q S _ _ U=>r g I a b c Q S U)
   (λar I W C _ D cc cd v1 ce r=>LW.aS (T:=Gf) cc (by
    rw[show Us.bx=m from a1];exact D.ag (V.ag b2 λh=>h) λh=>h) (cd ab (.inl (.inl (.inr rfl)))) v1 ce b6 b7 aE (by omega) (by omega) cb r)
   (λh=>by cases h) λcf conds sl cg ch bf vc ci cj bg ck=>?_
  have cl:LW {Us with zf:=jL Us.zf wW k} h cf s (j+1+1) (3*j+1) 1 [l,⟨ag,ah,aj,QU,λn=>cX (λ_=>0) 0 (1+1) n,λn=>cX (λ_=>0) 0 0 n⟩] am cg:=ch;rw[ca];refine cl.lr (i:=0) (x:=l) (n:=0) J rfl (by decide) (by rw[v.f1];decide) (by show 4+3*(j+1+1)<=1600;omega) (by show 64*(j+1+1)+64<=32000;omega) (by omega) vc (by unfold eA;simp) ci (λ_ b aJ=> .inr (cj b aJ)) (λd aK=>by
   unfold eA at aK;simp only[HM,ON,or_false] at aK;rcases aK with rfl|rfl
   ·show(Gt wW).size<=_;rw[Oz];decide
   ·show(JV 0 27 Z).size<=_;rw[Ms];decide) (by rw[v.f1];decide) lost λaM bh bi cm=>⟨_,rfl,_,_,rfl,?_⟩
  have cn: ∀ {d:Nat} {bj:Obj},an[d]? =some bj->(((d=f\/d=ab)\/d=ae)\/(ay.size<=d/\d<an.size))->aM[d]? =some bj:=λaJ bk=>br.aS bi (br.aS bg aJ bk) (bf _ bk)
  have bm:=cn ap (.inl (.inl (.inl rfl)));have co:aM[s]? =_:=(cm.trans ck).trans be;have cq:View cG aM b8 k:=(aG.mod bg λc e aN=>aN.2 (.inr ⟨bd c e,aG.js H.ne e⟩)).mod bi λc e aN=>aN.2 (bf c (.inr ⟨bd c e,aG.js H.ne e⟩))
  refine YL (ev:=k) (st:=(Av k).status) (nx:=(Av k).next) bm aE (λu n C D aF r=>tV (i:=0) (y:=l.lost 0) (bh.on D) rfl al (by decide) ac aF λg I Q S U=>r g I Q S U) λcr c5 aq cs c6=>⟨_,_,rfl,?_⟩
  refine af.yes rfl (af.yes rfl (af.yes rfl (AX.mk (AB (aq.ag bm λh=>h) rfl) (tY (aq.ag co λh=>h) ⟨_,rfl,af.yes (by simp) ?_⟩))));refine AJM (cq.ext aq) cs (by omega) ⟨_,rfl,?_⟩;rw[decide_eq_true rfl];exact bz cr ((bh.on aq).ext)
 have bn: ∀ {u:aa} {W:Nat->Prop} {C:A2J},dh h u s 1 y B (λ_=>none) (λ_=>none) W f m ab y.p->
   (∀ g o E t z ev,dh h g s 2 o E t z W f m ab y.p->Mod (br h W) u g->t o0=some ev->Av ev=dD ⟨[],0⟩ 0->t vP=none->t wW=none->z ⟨#[114]⟩=none->kI z 0->JC (MJ 0) E= []->C (eN 0 0 3).v g)->
   AA A P Ca #[Ap y.p,.iface BR (Ap ab),J6 J9 0,qS.v] u C:=λ{u W C} q r=>by
  refine q.eF (x:=qS) (p:=⟨[],0⟩) J (by decide) View.nil rfl (by decide) (by decide) λg o E t z aA st nx ct cu cv cw=>?_
  obtain⟨rfl,rfl,rfl,⟨ev,rfl,ad⟩,⟨b9,rfl⟩,b,rfl,cx⟩:=tX rfl AQW rfl rfl rfl cv cw;refine r g o _ _ _ ev ct cu IW ad (Ju (by decide)) (Ju (by decide)) (Ju (by decide)) ⟨Ju (by decide),λa6 _ _=>Ju (qi (by decide))⟩ (by rw[Sd a5,nH cx];exact APy a5 bF (by decide))
 refine AX.mk X.c2 (AX.mk X.c3 ⟨?_,?_⟩)
 ·refine bn X λcz o E t z ev bo cB aO aP aQ aR aS aT aU=>Ia.mk _ ⟨rfl,ao.mk λc7 _ cC bp c8=>?_⟩
  have bq:=bo.on bp;refine⟨bq.c3,bq.c2,aL.mk cC (A0 9) λbs bt cD c9=>?_⟩;rw[NZ] at bt;have bu:Ext cz bs:=bp.more cD λc e=>by subst e;exact A0 _
  exact key bs _ o E t z ev (bo.on bu) (bu.ag (br.aS cB L (.inr rfl)) λh=>h) bt aO aP aQ aR aS aT aU
 ·refine ao.mk λcE _ cF aV da=>?_
  have aW:dh h cE s 1 y B (λ_=>none) (λ_=>none) (λd=>(d=f\/d=ab)\/d=au.size) f m ab y.p:=X.own aV.mod (λc e=>e.imp id λh=>by omega) (aV.get f bG λh=>h) (.inl (.inl rfl));refine⟨aW.c3,aW.c2,bn aW λdb o E t z ev bv bw aO aP aQ aR aS aT aU=>Ia.mk _ ⟨rfl,aL.mk (br.aS bw cF (.inr rfl)) (A0 9) λcH bx aX dc=>?_⟩⟩;rw[NZ] at bx;have cI:=br.aS bw (aV.ag L λh=>h) (.inl (.inr rfl));have cJ:=(bv.own (O':=λd=>(d=f\/d=ab)\/d=au.size) (aX.aj λc _ e=> .inr e) (λc e=> .inl e) (aX.get f (Ai bv.cx) (by omega)) (.inl (.inl rfl))).less (O':=λd=>d=f\/d=ab) (λc e=> .inl e) (.inl rfl);exact key cH _ o E t z ev cJ (aX.ag cI (by omega)) bx aO aP aQ aR aS aT aU
end
end Go.Lf.G
