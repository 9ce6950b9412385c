/-
 Contract: what is in memory goes into a table (chapter 9).
-/
import Derived.Test.YtgpmoonnachoaaaGreatDoorLfU15ToZ10
import Derived.Lib.AtoiAllCases
import Derived.Test.YtgpmoonnachoaaaGreatDoorLfU2ToS3
import Derived.Test.YtgpmoonnachoaaaGreatDoorCards
import Derived.Test.YtgpmoonnachoaaaGreatDoorTie
import Derived.Deep.DeepHandedRow
import Derived.Lib.LaidTab
import Derived.Stop.LaidErr
import Derived.Test.YtgpmoonnachoaaaGreatDoorLfX2ToS5
import Derived.Test.YtgpmoonnachoaaaGreatDoorRows
import Derived.WalkKit
import Derived.ProofKit
import Derived.OpenShut
import Derived.JoinedCond
import Derived.Deep.Slices
import Derived.Carry
import Derived.Test.YtgpmoonnachoaaaGreatDoorLfG1
import Derived.Test.YtgpmoonnachoaaaGreatDoorLfKToGA
set_option maxRecDepth 100000
set_option linter.unusedVariables false
set_option linter.unusedSimpArgs false
open Go.IntKind renaming i64→J9,wrap→J8
open Go.Value renaming string→J7,int→J6,pointer→J5,slice→J4,bool→J3,tuple→J1
open Go.Obj renaming cells→J2
open Go renaming Value→J0,Addr→Q6,TypeId→Q7,FuncId→Q8,Program→Q1
open Go.Addr renaming add→Q9,mk→Q5
namespace Go.Lf.G
open Go
open M (Sorted Af CZ A8 Ag Aq BU Ah bA BG)
section
variable {A : aq} {B : cH} {g h : aa} {q : Hp} {k : Nat -> Nat} {st : Db} {m : Bx} {D : Bq} {aI c : Nat} {R : A2K}
theorem Ex.sk {d:bQ}(L:Ex d st D)(l:Sy st D aI c)(hA:aI<=100000){a:Nat}(e:st.aw<a):D.L a= []:=by
 by_cases b:a<=99999999
 ·exact L.ok.jD b (L.gD a (by omega) b λ_=>by omega)
 ·exact L.ok.gE (.inr (by have:=l.aP;omega))
theorem AMo {F:bQ}{made:Bool}{m:Bx}{s:Nat}(hd:m.down=false)(d:made=true-> ∃b,ff m (aC nl s)=some (b,bF)):(m.fuel=0/\NF m (aC nl s) made=(30,NN m))\/((NF m (aC nl s) made).1=0/\JU m (NF m (aC nl s) made).2/\ ∀x,ff (NF m (aC nl s) made).2 x=ff m x):=by
 cases made with
 |false=>exact .inr ⟨rfl,JU.refl hd,λx=>rfl⟩
 |true=>
  obtain⟨b,e⟩:=d rfl;rcases OX hd e with a|⟨a,f,i⟩
  ·exact .inl a
  ·refine .inr ⟨a,f,λx=>?_⟩;show ff (Hm m (aC nl s)).2 x=_
   simp_all [Ya]
theorem AN7 {m:Bx}(g:HV m)(k:A2L)(made:Bool):bj (NF m k made).2.files<=bj m.files:=by
 cases made with
 |false=>exact A0 _
 |true=>exact nW g k
theorem AQl {a b x:Nat}(d:b<=a+x):b+1000000<=a+(x+1000000):=by omega
theorem AOQ(a:Nat):8400*a+1100001+1000000<=20000*a+10000000:=by omega
theorem APg(aY:bZ g)(S:Bv B g h q k st m D aI c)(hA:aI+2<=B.A)
  (be: ∀h' an,oE B h h' q k m an (aI+2)->ky (ff an) (aI+2) c (Co st)->R (J6 J9 30) h')
  (ca: ∀h' bf bH bJ an r,bf.d=q.d->bf.b=q.b->Bv B g h' bf bH bJ an r (aI+2) c->JU m an->bJ.fr= []->Co bJ=Co st->(bJ.ts.length<=3\/bJ.ts.length=st.ts.length)->(∀ v,¬dc v->ff an v=ff m v)->Mod (λc=>k c≠0) h h'->(∀ c,bH c≠0->k c≠0\/h.size<=c)->R (J6 J9 0) h'):
  AA A P Oi #[Am q.d] h R:=by
 have dO:=S;obtain⟨V,hd,L,l,aZ,b⟩:=S;have fQ:=B.hA;have dP:=B.hC;have dQ:=B.wt (a:=aI) (by omega);have dR:=L.di l;have fR:=l.next;have fS:=l.aK;have fT:=l.aw;have fU:=l.aP;have fV:=l.aW;have fW:=L.eM;have fX:=l.cn;have dS:=L.iT l;have a0:st.next∉st.ts.map (·.1):=λcb=>by
  obtain⟨p,aj,e⟩:=List.mem_map.1 cb;have:=L.below p aj;omega
 refine ABK ?_;unfold Tj;refine ai.mk λK dT=>ZB V (dT _ _ (af.no rfl ?_))
 refine aD (AX.mk (AB V.cell rfl) ?_);refine M.sn V.fresh ⟨_,_,rfl,?_⟩;refine af.intro (λbI=>?_) (λbI=>?_)
 ·have o:st.fr= []:=Dd (by have:((st.fr.length:Nat):Int)=0:=(by simpa using bI);omega);exact ca h q k st m D rfl rfl (dO.aI (by omega)) (JU.refl hd) o rfl (.inr rfl) (λ_ _=>rfl) Mod.refl (λc b=> .inl b)
 have dU:st.fr≠ []:=λe=>by
  rw[e] at bI;cases bI
 have bK:G7 st.fr:=⟨dU,λx E=>oG (V.fresh.aS x E),V.fresh.sorted,by omega⟩;have fY:=zZ bK;have dV:(Jh st.fr).length<=8400*B.C+1100000:=by omega
 refine aD (AC.mk (AB V.cell rfl) (aD (AX.mk (AB V.cell rfl) ?_)));refine M.sq V.fresh λfv w cR cS cT=>⟨_,rfl,⟨AB (V.on cS).cell rfl,?_⟩⟩
 rw[M.se] at cR;refine M.Wm cR (λ_ _=>rfl) (by omega) λcc Y cU fZ dW=>⟨cc,rfl,?_⟩
 have bL:=cS.trans dW;have bN:=V.on bL;have f0:=bL.size;refine⟨AB bN.cell rfl,?_⟩;refine zM (n:=st.next) aY bN hd bK cU.view (λc b=>cU.lt b) (by omega) dS (ASh dV aZ dQ dP) (λbg ay az ac dX dY bO dZ a1 d0=>⟨_,_,rfl,af.yes rfl ?_⟩) λay az bP ac t aM aN ak cd a1 d0 cV f1 f2 cW bO bS=>⟨_,_,rfl,af.no rfl ?_⟩
 ·refine Ja bN dX (bO.aj λc _ b=> .inl b) dZ λd1 d2 d3 d4 d5=>⟨_,rfl,?_⟩
  have ce:=L.jC (F':=ff ac) (l.mono (Iv aI 2) (A0 _)) (λx E=>a1 x (E _ a0)) λn u=>by
   by_cases e:n=st.next
   ·omega
   ·rw[a1 _ λaO=>e (JV aO)] at u;have:=L.fA l u;omega
  have bh:bj ac.files<=bj m.files+(8400*B.C+1100001):=by omega
  have H:=B.step2 aZ bh (Iv _ _);exact be d1 ac ⟨bg,d2,⟨az,d3,λc b=>(d5 c b).imp id λh=>by omega⟩,dY,(Ext.mod bL).trans d4,λv I=>a1 v (Qx I _),AE H (Ln (AN _ (BW _)) _)⟩ ce.2
 have f3:=bO.size;have f4:=cV.fA;have cX:Mod (λc=>k c≠0) h ay:=(Ext.mod bL).trans (bO.aj λc _ b=>by rw[V.kb c b];decide);have bi: ∀x,x≠aX st.next->ff ac x=ff m x:=λx E=>by rw[a1,if_neg E]
 have cY:bj ac.files<=bj m.files+(8400*B.C+1100001):=by omega
 have d6: ∀n,ff ac (aC nl n)=ff m (aC nl n):=λn=>bi _ (Lx n _)
 have cZ: ∀ {F':bQ},(∀ n,F' (aX n)≠none->ff ac (aX n)≠none)-> ∀n,F' (aX n)≠none->n<8*(aI+1)+8:=λad n u=>by
  by_cases e:n=st.next
  ·omega
  ·have o:=ad n u;rw[bi _ λaO=>e (JV aO)] at o;have:=L.fA l o;omega
 refine aD (AX.mk (AB ak.cell rfl) ?_);have c0:=AMo (F:=ff m) (made:=st.bq) (s:=st.aw) cd.up λcb=>⟨_,by rw[d6];exact L.jB cb⟩
 refine Wy (ak.hZ aY) ak.log ak.box ak.lu (by decide) (by omega) (λd7 J bT c1 a2=>⟨_,_,rfl,?_⟩) λc3 J bT c1 a2=>⟨_,_,rfl,?_⟩
 ·rcases c0 with⟨c5,a3⟩|⟨a3,_,_⟩
  ·rw[a3] at bT ⊢;refine af.yes rfl ?_;refine Ja (q:= {q with Sb:=az}) ak bT (a2.aj λc _ b=> .inl b) (λc b=> .inl b) λd8 d9 ea eb ec=>⟨_,rfl,?_⟩
   have ce:=L.jC (F':=ff (NN ac)) (l.mono (Iv aI 2) (A0 _)) (λx E=>bi x (E _ a0)) λn u=>by
    have:=cZ (F':=ff (NN ac)) (λn u=>u) n u;omega
   have H:=B.step2 aZ cY (Iv _ _);refine be d8 (NN ac) ⟨(λz=>by have:=cd.calm z;rw[c5] at this;cases this),d9,⟨az,ea,λc b=>?_⟩,rfl,cX.then (eb.aj λc _ b=>?_),λv I=>bi v (Qx I _),AE H (Ln (AN _ (BW _)) _)⟩ ce.2
   ·rcases ec c b with o|o
    ·by_cases Z:c<Y.size
     ·rw[bS c Z] at o;exact .inl o
     ·exact .inr (by omega)
    ·exact .inr (by omega)
   ·by_cases Z:c<Y.size
    ·rw[bS c Z] at b;exact .inl b
    ·exact .inr (by omega)
  ·exact absurd a3 d7
 refine af.no rfl ?_;rcases c0 with⟨c5,a3⟩|⟨a3,ed,ee⟩
 ·rw[a3] at c3;cases c3
 have ef:=AN7 ak.box.aS (aC nl st.aw) st.bq;have ag:=ak.boxed (j:=3) (bJ:= {st with aw:=st.aw+1,bq:=false}) bT (a2.aj λc _ b=>b.imp id λh=> .inl ⟨rfl,h⟩) (λc b=> .inl b) rfl rfl rfl rfl (.inr c1) (.inl ⟨by decide,rfl⟩);generalize (NF ac (aC nl st.aw) st.bq).2=ab at*
 have f5:=a2.size;have c6: ∀c,c<ay.size->Li bP ay.size az 2 c=bP c:=λc b=>GL b
 generalize Li bP ay.size az 2=ap at*
 have eg:Mod (λc=>k c≠0) h J:=cX.then (a2.aj λc _ b=>by
  have o:bP c≠0:=by
   rcases b with b|b
   ·rw[ak.kb c b];decide
   ·rw[b,ak.kl];decide
  by_cases Z:c<Y.size
  ·rw[bS c Z] at o;exact .inl o
  ·exact .inr (by omega))
 have cf: ∀c,ap c≠0->k c≠0\/h.size<=c:=λc b=>by
  by_cases Z:c<Y.size
  ·rw[c6 c (by omega),bS c Z] at b;exact .inl b
  ·exact .inr (by omega)
 have cg: ∀c,J.size<=c->ap c=0:=λc b=>Decidable.byContradiction λh=>by
  have:=(ag.own c h).2;omega
 have ch: ∀c,aM<=c->c<aN->ap c=0:=λc aq c2=>by rw[c6 c (by omega)];exact cW c aq
 have ci: ∀x,ff ab x=ff ac x:=ee;have a4: ∀x,x≠aX st.next->ff ab x=ff m x:=λx E=>(ci x).trans (bi x E)
 have eh:ff ab (aX st.next)=some (AY (Jh st.fr),bF):=by rw[ci,a1,if_pos rfl]
 have cj:JU m ab:=cd.trans ed;have bh:bj ab.files<=bj m.files+(8400*B.C+1100001):=AE ef cY;have ei:BK (ff ab) D:=L.ok.fW λx E=>a4 x (E st.next (by rw[L.names];exact a0))
 have c7: ∀ {F':bQ},(∀ n,F' (aX n)≠none->ff ab (aX n)≠none)-> ∀n,F' (aX n)≠none->n<8*(aI+1)+8:=λad n u=>cZ (F':=ff ab) (λn u=>by rw[<- ci];exact u) n (ad n u)
 have ej: ∀(z:aa) (y:Hp) (ck:Nat->Nat),bM g z y ck {st with ts:=(st.next,st.fr)::st.ts,next:=st.next+1,aV:=st.aw+1,aw:=st.aw+1,bq:=false} ab->y.d=q.d->y.b=q.b->Mod (λc=>k c≠0) h z->(∀ c,ck c≠0->k c≠0\/h.size<=c)->
   AA A P Jw #[Am y.d] z λek c8=> ∃cl:Int,ek=J6 J9 cl/\(
         af (cl != (0:Int)) (
          AA A P Cg #[Am y.d,J6 J9 cl] c8 λel en=> ∃c9:Int,el=J6 J9 c9/\(
          R (J6 J9 c9) en)) (
          AA A P QQ #[] c8 λeo da=> ∃db:Q2,eo=J5 db/\(
          At (some (⟨y.d,0,none⟩:Q6)) λep=>
          ae da (ep.add 3) (J5 db) λar=>
          At (some (⟨y.d,0,none⟩:Q6)) λeq=>
          AX ar (eq.add 1) λer=>
          AA A P JM #[J5 er,J6 J9 (st.aw:Int)] ar λes av=> ∃cm:Int,es=J6 J9 cm/\(
          af (cm != (0:Int)) (
           AA A P Cg #[Am y.d,J6 J9 cm] av λet cn=> ∃dd:Int,et=J6 J9 dd/\(
           R (J6 J9 dd) cn)) (
           At (some (⟨y.d,0,none⟩:Q6)) λeu=>
           AZ av (eu.add 4) λev=>
           af (decide (((ev.len:Nat):Int)>=(4:Int))) (
            AA A P Je #[Am y.d] av λew ex=> ∃de:Int,ew=J6 J9 de/\(
            R (J6 J9 de) ex)) (
            R (J6 J9 0) av)))))):=by
  intro z y ck bk bm aA bU a5;have ey:gY (cO {st with ts:=(st.next,st.fr)::st.ts,next:=st.next+1,aV:=st.aw+1,aw:=st.aw+1,bq:=false}):=by
   refine⟨by show st.next+1<=_;omega,by show 1<=st.aw+1/\st.aw+1<=_;omega,?_,λn u=>?_,?_⟩
   ·show((st.next,st.fr)::st.ts |>.map (·.1)).length<=_;simp;omega
   ·show n<st.next+1;rcases List.mem_cons.1 u with rfl|u
    ·exact Hj _
    ·obtain⟨p,aj,rfl⟩:=List.mem_map.1 u;have:=L.below p aj;omega
   ·exact List.nodup_cons.2 ⟨a0,L.nd⟩
  have ez: ∀n∈st.next::st.ts.map (·.1),ff ab (aX n)=some (AY (Jh ((KT D.T st.next st.fr) n)),bF)/\G7 ((KT D.T st.next st.fr) n):=λn u=>by
   by_cases e:n=st.next
   ·subst e;rw[EJ];exact⟨eh,bK⟩
   ·rw[F6 e,a4 _ λaO=>e (JV aO)];rcases List.mem_cons.1 u with o|o
    ·exact absurd o e
    ·exact L.ok.cN n (by rw[L.names];exact o)
  have df: ∀r:Bq,r.T=KT D.T st.next st.fr->(st.next::st.ts.map (·.1)).map r.T=st.fr::aG st:=λr bV=>by
   rw[B9,bV,EJ];congr 1;rw[<- L.aG,L.names];refine CA λn u=>F6 λe=>a0 (e▸u)
  have dg: ∀r:Bq,r.L=D.L->r.aP=D.aP->Ap r=cO {st with ts:=(st.next,st.fr)::st.ts,next:=st.next+1,aV:=st.aw+1,aw:=st.aw+1,bq:=false}->r.T=KT D.T st.next st.fr->cz r=Co st/\N9 r<=c/\Er r= []:=λr eC dh a6 bV=>by
   have aA:=ANO (f:=st.aw+1) eC dh (by rw[a6];rfl) λn u=>L.sk l (by omega) (by omega)
   have di:Er r= []:=by unfold Er;rw[aA];rfl
   have dj:(Ap r).names=st.next::st.ts.map (·.1):=by rw[a6];rfl
   refine⟨?_,?_,di⟩
   ·unfold cz;rw[di,dj,df r bV];exact AHt V.fV
   ·unfold N9;rw[aA,dj];have C:((st.next::st.ts.map (·.1)).map λn=>(r.T n).length)=((st.next::st.ts.map (·.1)).map r.T).map List.length:=by rw[AT];rfl
    rw[C,df r bV];have:((st.fr::aG st).map List.length).sum=st.fr.length+M.total (aG st):=by simp[M.total]
    rw[this];simpa using dR
  have dk: ∀(r:Bq) (F':bQ),BK F' r->r.aP=D.aP->r.aW<=max D.aW (st.aK+1)->Ap r=cO {st with ts:=(st.next,st.fr)::st.ts,next:=st.next+1,aV:=st.aw+1,aw:=st.aw+1,bq:=false}->cz r=Co st->N9 r<=c->(∀ n,F' (aX n)≠none->ff ab (aX n)≠none)->Rec F' (aI+1) c (Co st):=λr F' o dh u a6 eD eE ad=>by
   refine⟨r,o,⟨by omega,by omega,?_,?_,?_,eE,c7 ad⟩,eD⟩
   ·rw[a6];show st.next+1<=_;omega
   ·rw[a6];show st.aw+1<=_;omega
   ·rw[a6];show((st.next,st.fr)::st.ts |>.map (·.1)).length<=_;simp;omega
  have eF:bj ab.files+1000000<=8000000000000:=by have o:=B.wt (a:=aI+1) (by omega);have H:bj ab.files+1000000<=B.W0+(aI+1)*B.K:=B.step (d:=8400*B.C+1100001+1000000) aZ (AQl bh) (AOQ B.C);exact AE H o
  have dl: ∀ {dm:Nat},dm<=B.W0+(aI+1)*B.K->dm<=B.W0+(aI+2)*B.K:=λh=>AE h (Ln (AN _ (BW _)) _)
  refine zN (T:=KT D.T st.next st.fr) aY bk cj.up ei ey ez ⟨L.aK,by show st.aK+2<=_;omega⟩ (λn W ah=>by rw[a4 _ (Qf n _)];exact L.jA n W ah) eF
   (λbg w co al eG eH bW cT eI a7 cp=>⟨_,rfl,af.yes rfl ?_⟩) λw co cq al D3 cr dn dp a8 dq eJ cs eK a7 eL cp bW eM=>⟨_,rfl,af.no rfl ?_⟩
  ·refine Ja bk eG (bW.aj λc _ b=>b.imp id .inr) cT λY eN eO eP cc=>⟨_,rfl,?_⟩
   have eQ:Mod (λc=>k c≠0) h Y:=bU.then (eP.aj λc _ b=>a5 c b);refine be Y al ⟨λz=>bg (cj.calm z),by rw[<- bm];exact eN,⟨co,by rw[<- aA];exact eO,λc b=>?_⟩,eH,eQ,λv I=>?_,dl (B.step2 aZ bh cp)⟩ λG bn=>?_
   ·rcases cc c b with o|o
    ·exact a5 c o
    ·exact .inr (by have:=bU.size;omega)
   ·rw[a7 v λn=>kZ I n,a4 v (Qx I _)]
   ·obtain⟨r,dr,nx⟩:=eI G bn;have ds: ∀n,G (aX n)≠none->ff ab (aX n)≠none:=λn u=>by
     have:=bn.some u;rwa [a7 _ λj e=>Qf j n e.symm] at this
    have bX:r.aW<=max D.aW (st.aK+1):=nx.aW;rcases nx.last with⟨am,C⟩|⟨am,C⟩
    ·obtain⟨bo,bY⟩:=AHd nx.L nx.aP am C;have:=L.next;have eR:Rec G (aI+1) c (Co st):=⟨r,dr,⟨by rw[nx.aP];omega,by omega,by rw[am];omega,by rw[am,L.aV];omega,by rw[am,L.iC];omega,by rw[bY];exact l.bX,c7 ds⟩,by rw[bo];exact L.map⟩;exact eR.mono (BW _) (A0 _)
    ·obtain⟨bo,bY,_⟩:=dg r nx.L nx.aP am C;exact(dk r G dr nx.aP bX am bo bY ds).mono (BW _) (A0 _)
  ·obtain⟨bo,bY,eS⟩:=dg D3 eJ cs a8 dq;have f6:=bW.size;have bX:D3.aW<=max D.aW (st.aK+1):=eK;have ct:bj al.files<=B.W0+(aI+1)*B.K:=B.step2 aZ bh cp;have dt:JU m al:=cj.trans dn;have du:Mod (λc=>k c≠0) h w:=bU.then (bW.aj λc _ b=>by
    rcases b with b|b
    ·exact a5 c (by rw[bk.kb c b];decide)
    ·exact a5 c (by rw[b,bk.kn];decide))
   have eT: ∀c,cq c≠0->k c≠0\/h.size<=c:=λc b=>by
    by_cases Z:c<z.size
    ·rw[eM c Z] at b;exact a5 c b
    ·exact .inr (by have:=bU.size;omega)
   refine M.sr λda eU cu f7=>⟨_,rfl,?_⟩
   have eV:=cr.on cu;refine aD (ae.dq eV.cell (by simp) λar eW cv f8=>?_);have eX:M.cT ar w.size [] []:=eU.mod cv λc b e=>by
    have f9:c=w.size:=by
     rcases b with rfl|⟨x,E,_⟩
     ·rfl
     ·cases E
    have:=cr.hU;have C:(y.d:Nat)<w.size:=this;have ga:c=y.d:=e;omega
   have dv:Mod (λc=>c=w.size\/c=y.d) w ar:=(Ext.mod cu).trans (cv.aj λc _ b=> .inr b);have ax:=cr.renew (h':=ar) (gF:=w.size) eX (A0 _) (by simpa [eA] using eW) (by
    refine⟨dv.size,λc b u=>?_⟩;exact dv.get c b (by rintro(h|h);omega;exact u h))
   have cw:Mod (λc=>k c≠0) h ar:=(du.trans (Ext.mod cu)).then (cv.aj λc _ b=>by
    have e:c=y.d:=b;rw[e];exact a5 _ (by rw[bk.kd];decide))
   have b0: ∀c,Li cq w.size (· =w.size) 5 c≠0->k c≠0\/h.size<=c:=λc b=>by
    by_cases Z:c<w.size
    ·rw[GL Z] at b;exact eT c b
    ·exact .inr (by have:=du.size;omega)
   generalize Li cq w.size (· =w.size) 5=dw at*
   refine aD (AX.mk (AB ax.cell rfl) ?_);have gb:=cw.size;have eY:bj al.files<=8000000000000:=AE ct (B.wt (a:=aI+1) (by omega));have cx: ∀x,x≠aX st.next->(∀ n,x≠aC nn n)->ff al x=ff m x:=λx o H=>(a7 x H).trans (a4 x o)
   have eZ:(Ap D3).aV=st.aw+1:=by rw[a8];rfl
   have dx: ∀ {F':bQ},(∀ x,F' x=ff al x\/(F' x=none/\ ∃n:Nat,1<=n/\n<=99999999/\n<=st.aw/\x=aC nl n))->BK F' (Nf D3 F')/\cz (Nf D3 F')=Co st/\N9 (Nf D3 F')<=c/\Er (Nf D3 F')= []:=λ{F'} ad=>by
    have o: ∀n,n<=99999999->F' (aC nl n)=ff al (aC nl n)\/(F' (aC nl n)=none/\n<(Ap D3).aV):=λn ah=>by
     rcases ad (aC nl n) with o|⟨o,j,_,_,gc,e⟩
     ·exact .inl o
     ·refine .inr ⟨o,?_⟩;rw[eZ,Ij e];omega
    have H:=APW dp o λx E=>by
     rcases ad x with w|⟨_,j,_,e0,_,e⟩
     ·exact w
     ·exact absurd e (E j e0)
    have Y:=AJv dp o;have ay:Er (Nf D3 F')=Er D3:=by unfold Er;rw[Y]
    refine⟨H,?_,?_,by rw[ay];exact eS⟩
    ·rw[<- bo];unfold cz;rw[ay];rfl
    ·have:N9 (Nf D3 F')=N9 D3:=by unfold N9;rw[Y];rfl
     omega
   refine zL (ax.hZ aY) (λh' x=>ax.fX aY (x.aj λc _ b=> .inl b)) ax.log ax.box dn.up ax.lu (by decide) eY (λe1=>absurd e1 (by show ¬(st.aw:Int)>=((st.aw+1:Nat):Int);omega))
    (λbg av aP O cy e2 b1 cB cC bp=>⟨_,rfl,af.yes rfl ?_⟩) λ_ av aP O cy dy b1 cB cC bp dz=>⟨_,rfl,af.no rfl ?_⟩
   ·have ad: ∀x,ff O x=ff al x\/(ff O x=none/\ ∃n:Nat,1<=n/\n<=99999999/\n<=st.aw/\x=aC nl n):=λx=>by
     rcases bp x with o|⟨o,n,W,ah,b2,e⟩
     ·exact .inl o
     ·exact .inr ⟨o,n,W,ah,by omega,e⟩
    obtain⟨cD,cE,c4,_⟩:=dx ad;refine Ja (q:= {y with Sb:=co,ft:=w.size,ns:= []}) ax cy (b1.aj λc _ b=> .inl b) (λc b=> .inl (cB c b)) λcn e3 e4 e5 e6=>⟨_,rfl,?_⟩
    refine be cn O ⟨λz=>bg (dt.calm z),by rw[<- bm];exact e3,⟨aP,by rw[<- aA];exact e4,λc b=>?_⟩,e2,cw.then (e5.aj λc _ b=>b0 c b),λv I=>?_,dl (AE cC ct)⟩ λG bn=>?_
    ·rcases e6 c b with o|o
     ·exact b0 c o
     ·exact .inr (by omega)
    ·rcases bp v with o|⟨_,n,_,_,_,e⟩
     ·rw[o,cx v (Qx I _) λn=>kZ I n]
     ·exact absurd e (oF I n)
    ·refine(dk (Nf D3 (ff O)) G (cD.dP bn) cs bX a8 cE c4 λn u=>?_).mono (BW _) (A0 _);have o:=bn.some u;rcases bp (aX n) with H|⟨_,j,_,_,_,e⟩
     ·rwa [H,a7 _ λj e=>Qf j n e.symm] at o
     ·exact absurd e.symm (Lx j n)
   ·have ad: ∀x,ff O x=ff al x\/(ff O x=none/\ ∃n:Nat,1<=n/\n<=99999999/\n<=st.aw/\x=aC nl n):=λx=>by
     by_cases E: ∃n:Nat,1<=n/\n<=99999999/\(n:Int)<=(st.aw:Int)/\x=aC nl n
     ·obtain⟨n,W,ah,b2,rfl⟩:=E;exact .inr ⟨bp n W ah b2,n,W,ah,by omega,rfl⟩
     ·exact .inl (dz x λn W ah b2 e=>E ⟨n,W,ah,b2,e⟩)
    obtain⟨cD,cE,c4,e7⟩:=dx ad;have b3:=ax.boxed (j:=2) (bJ:= {st with fr:= [],ts:=(st.next,st.fr)::st.ts,next:=st.next+1,aV:=st.aw+1,aw:=st.aw+1,aK:=st.aK+1,bq:=false}) cy (b1.aj λc _ b=> .inl b) (λc b=> .inl (cB c b)) rfl rfl rfl rfl (.inl ⟨by decide,rfl,rfl⟩) (.inl ⟨by decide,rfl⟩);have br:Mod (λc=>k c≠0) h av:=cw.then (b1.aj λc _ b=>b0 c (by rw[ax.kb c b];decide));have bs: ∀c,Li dw ar.size aP 2 c≠0->k c≠0\/h.size<=c:=λc b=>by
     by_cases Z:c<ar.size
     ·rw[GL Z] at b;exact b0 c b
     ·exact .inr (by omega)
    generalize Li dw ar.size aP 2=dA at*
    have cF: ∀x,(∀ n,x≠aC nl n)->ff O x=ff al x:=λx E=>dz x λn _ _ _=>E n
    have e8: ∀p∈(st.next,st.fr)::st.ts,(Nf D3 (ff O)).T p.1=p.2:=λp aj=>by
     show D3.T p.1=p.2;rw[dq];rcases List.mem_cons.1 aj with rfl|aj
     ·exact EJ
     ·rw[F6 λe=>a0 (by rw[<- e];exact List.mem_map.2 ⟨p,aj,rfl⟩)];exact L.cj p aj
    have dB:Ex (ff O) {st with fr:= [],ts:=(st.next,st.fr)::st.ts,next:=st.next+1,aV:=st.aw+1,aw:=st.aw+1,aK:=st.aK+1,bq:=false} (Nf D3 (ff O)):=
     ⟨cD,congrArg Nt.names a8,e8,congrArg Nt.aV a8,by rw[show Ap (Nf D3 (ff O))=_ from a8];exact A0 _,λp aj=>by
      show p.1<st.next+1;rcases List.mem_cons.1 aj with rfl|aj
      ·exact Hj _
      ·have:=L.below p aj;omega,e7.symm,λn W ah _=>by
      have W:st.aw+1<=n:=W;rcases ad (aC nl n) with o|o
      ·rw[o,cx _ (Lx n _) λj=>WH n j];exact L.gD n (by omega) ah λ_=>by omega
      ·exact o.1,(λh=>by cases h),λn W ah=>by
      have W:st.aK+1<=n:=W;rw[cF _ λj e=>WH j n e.symm];exact eL n W ah,⟨by show 1<=st.aw+1;omega,A0 _⟩,by show 1<=st.aK+1;omega,λn u=>by
      rw[cF _ λj e=>Lx j n e.symm,a7 _ λj e=>Qf j n e.symm] at u;by_cases e:n=st.next
      ·subst e;exact Cl
      ·rw[a4 _ λaO=>e (JV aO)] at u;exact AG _ (L.clean n u)⟩
    have gd:(Nf D3 (ff O)).aW<=max D.aW (st.aK+1):=bX;have ge:(Nf D3 (ff O)).aP=D.aP:=cs;have e9:Sy {st with fr:= [],ts:=(st.next,st.fr)::st.ts,next:=st.next+1,aV:=st.aw+1,aw:=st.aw+1,aK:=st.aK+1,bq:=false} (Nf D3 (ff O)) (aI+1) c:=
     ⟨by show st.aw+1<=_;omega,by show st.aK+1<=_;omega,by show st.next+1<=_;omega,by show((st.next,st.fr)::st.ts).length<=_;simp;omega,c4,by omega,by omega⟩
    have dC:Bv B g av {y with Sb:=aP,ft:=w.size,ns:= []} dA {st with fr:= [],ts:=(st.next,st.fr)::st.ts,next:=st.next+1,aV:=st.aw+1,aw:=st.aw+1,aK:=st.aK+1,bq:=false} O (Nf D3 (ff O)) (aI+1) c:=
     ⟨b3,dy.up,dB,e9,AE cC ct,b⟩
    have cG:Co {st with fr:= [],ts:=(st.next,st.fr)::st.ts,next:=st.next+1,aV:=st.aw+1,aw:=st.aw+1,aK:=st.aK+1,bq:=false}=Co st:=by rw[<- cE];exact dB.map.symm
    have cH:JU m O:=dt.trans dy;have cI: ∀v,¬dc v->ff O v=ff m v:=λv I=>by rw[cF v λn=>oF I n,cx v (Qx I _) λn=>kZ I n]
    refine aD (AZ.mk (s:=y.tp) (AB b3.cell rfl) ?_);have fa:=b3.cj.len;have fb:=b3.cZ;have gf:y.tp.len=st.ts.length+1:=by have am:y.tp.len=y.ps.length:=fa;have C:y.ps.length=((st.next,st.fr)::st.ts).length:=fb;rw[am,C];rfl
    refine af.intro (λdD=>?_) (λdD=>?_)
    ·refine AJ9 (q:= {y with Sb:=aP,ft:=w.size,ns:= []}) aY dC (by omega) (λh' an aQ dE=>⟨_,rfl,?_⟩) λh' bf bH bJ an r am C S' fc fd fe gg fg fh fi=>⟨_,rfl,?_⟩
     ·rw[cG] at dE;obtain⟨S',fj,fk⟩:=aQ.box;refine be h' an ⟨λz=>aQ.fuel (cH.calm z),by rw[<- bm];exact aQ.dn,⟨S',by rw[<- aA];exact fj,λc b=>?_⟩,aQ.down,br.then (aQ.mod.aj λc _ b=>bs c b),λv I=>(aQ.fq v I).trans (cI v I),aQ.wt⟩ dE;rcases fk c b with o|o
      ·exact bs c o
      ·exact .inr (by have:=br.size;omega)
     ·refine ca h' bf bH bJ an r (am.trans bm) (C.trans aA) S' (cH.trans fc) fd (fe.trans cG) (.inl (by omega)) (λv I=>(fg v I).trans (cI v I)) (br.then (fh.aj λc _ b=>bs c b)) λc b=>?_
      rcases fi c b with o|o
      ·exact bs c o
      ·exact .inr (by have:=br.size;omega)
    ·have gh: ¬((y.tp.len:Nat):Int)>=4:=of_decide_eq_false dD;refine ca av {y with Sb:=aP,ft:=w.size,ns:= []} dA _ O _ bm aA (dC.aI (BW _)) cH rfl cG (.inl ?_) cI br bs;show((st.next,st.fr)::st.ts).length<=3;rw[A5];omega
 refine ai.mk λfl fm=>?_
 have a9: ∀c,q.tp.ah=some c->ap c=6:=ag.kt;have aR: ∀c,q.np.ah=some c->ap c=7:=ag.kx;have fin: ∀(z:aa) (tp np:Sl) (N:Nat),Own fL BL z tp (t::q.ps)->Own IM Bp z np ((st.next:Int)::eB st)->Mod (λc=>q.tp.ah=some c\/q.np.ah=some c) J z->(∀ c,tp.ah=some c->(q.tp.ah=some c\/J.size<=c)/\c<N)->(∀ c,np.ah=some c->q.np.ah=some c\/(J.size<=c/\N<=c))->
   ae z ((⟨q.d,0,none⟩:Q6).add 4) (J4 tp.p tp.len tp.cap) λdF=>ae dF ((⟨q.d,0,none⟩:Q6).add 5) (J4 np.p np.len np.cap) λaS=>fl () aS:=by
  intro z tp np N fn on bt b4 b5;have aT:ap q.d=1:=ag.kd;have nd: ¬(q.tp.ah=some q.d\/q.np.ah=some q.d):=by
   rintro(h|h)
   ·have:=a9 _ h;rw[aT] at this;cases this
   ·have:=aR _ h;rw[aT] at this;cases this
  have fo:=bt.ah ag.cell nd;have gi:=bt.size;have gj:q.d<J.size:=ag.hU;refine ae.dq fo (by simp) λdF fp fq gk=>ae.dq fp (by simp) λaS fs fu gl=>?_
  have aU:Mod (· =q.d) z aS:=fq.trans fu;have cJ: ∀c,tp.ah=some c-> ¬c=q.d:=λc b e=>by
   rcases(b4 c b).1 with h|h
   ·exact nd (.inl (e▸h))
   ·omega
  have dG: ∀c,np.ah=some c-> ¬c=q.d:=λc b e=>by
   rcases b5 c b with h|h
   ·exact nd (.inr (e▸h))
   ·omega
  have dH:=fn.mod aU cJ;have dI:=on.mod aU dG;have gm:=ag.ext.size;have ba:=ag.eW (h':=aS) (tp:=tp) (np:=np) (ps:=t::q.ps) (ts:=(st.next,st.fr)::st.ts) (next:=st.next) (aV:=st.aV) (S:=λc=>aM<=c/\c<aN)
   (by simpa [eA] using fs) ((bt.aj λc _ b=> .inr b).trans (aU.aj λc _ b=> .inl b)) dH dI (by have:=V.cZ;simp[this])
   (λc b=>by
    obtain⟨o,H⟩:=b4 c b;by_cases e:q.tp.ah=some c
    ·exact .inl e
    ·have w:J.size<=c:=o.resolve_left e;refine .inr ⟨cg c w,by omega,λC=>?_,λh=>by omega⟩;rcases b5 c C with Y|Y
     ·have:=aR c Y;rw[cg c w] at this;cases this
     ·omega)
   (λc b=>by
    by_cases e:q.np.ah=some c
    ·exact .inl e
    ·have w:=(b5 c b).resolve_left e;refine .inr ⟨cg c w.1,by omega,λC=>?_,λh=>by omega⟩;have:=(b4 c C).2;omega)
   (λc b=>⟨by have:=bN.ext.size;omega,by have:=aU.size;omega⟩)
   (λi t' p o H=>by
    cases i with
    |zero=>
     simp only[Hv,BE] at o H;subst o H;have fw:bR J t st.fr (NA st.fr) aM aN:=cV.mod a2 λc aq c2 b=>by
      have aE:=cW c aq;rcases b with b|b
      ·have:=ak.kb c b;rw[aE] at this;cases this
      ·have:=ak.kl;rw[<- b,aE] at this;cases this
     have fx:bR z t st.fr (NA st.fr) aM aN:=fw.mod bt λc aq c2 b=>by
      have aE:=ch c aq c2;rcases b with b|b
      ·have:=a9 c b;rw[aE] at this;cases this
      ·have:=aR c b;rw[aE] at this;cases this
     refine .inr ⟨aM,aN,fx.mod aU λc aq c2 b=>?_,by have:=aU.size;omega,λc aq c2=>⟨⟨aq,c2⟩,ch c aq c2⟩,bK⟩;have aE:=ch c aq c2;rw[b,aT] at aE;cases aE
    |succ i=>exact .inl ⟨i,by simpa using o,by simpa using H⟩)
  have dJ: ∀c,Ld ap J.size tp np (λc=>aM<=c/\c<aN) c≠0->k c≠0\/h.size<=c:=λc b=>by
   by_cases e:ap c=0
   ·by_cases Z:c<Y.size
    ·exfalso;apply b;unfold Ld;rw[if_neg (by simp[e]),if_neg λC=>?_,if_neg λC=>?_,if_neg (by omega)]
     ·rcases b5 c C with bu|bu
      ·have:=aR c bu;rw[e] at this;cases this
      ·omega
     ·rcases(b4 c C).1 with bu|bu
      ·have:=a9 c bu;rw[e] at this;cases this
      ·omega
    ·exact .inr (by omega)
   ·exact cf c e
  generalize Ld ap J.size tp np (λc=>aM<=c/\c<aN)=bv at*
  have fy:Mod (λc=>k c≠0) h aS:=(eg.then (bt.aj λc _ b=>cf c (by
   rcases b with b|b
   ·rw[a9 c b];decide
   ·rw[aR c b];decide))).then (aU.aj λc _ b=>cf c (by rw[b,aT];decide))
  refine fm _ _ ?_;refine aD (AC.mk (AB ba.cell rfl) (aD (ae.dq ba.cell (by simp) λfz cK fA fB=>aD (ae.dq cK (by simp) λcL b6 fC gn=>?_))));have fE:J8 J9 (((st.next:Nat):Int)+(1:Int))=((st.next+1:Nat):Int):=Ae (by omega);have fF:J8 J9 (((st.aw:Nat):Int)+(1:Int))=((st.aw+1:Nat):Int):=Ae (by omega);have b7:Mod (· =q.d) aS cL:=fA.trans fC;have go: ∀c,tp.ah=some c-> ¬c=q.d:=cJ;have fG:=ba.eW (h':=cL) (tp:=tp) (np:=np) (ps:=t::q.ps) (ts:=(st.next,st.fr)::st.ts) (next:=st.next+1) (aV:=st.aw+1) (S:=λ_=>False)
   (by rw[fE,fF] at b6;simpa [eA] using b6) (b7.aj λc _ b=> .inl b) (dH.mod b7 cJ) (dI.mod b7 dG) (by have:=V.cZ;simp[this]) (λc b=> .inl b) (λc b=> .inl b) (λc h=>h.elim) (λi t' p o H=> .inl ⟨i,o,H⟩)
  have fH: ∀c,Ld bv aS.size tp np (λ_=>False) c≠0->k c≠0\/h.size<=c:=λc b=>by
   by_cases e:bv c=0
   ·exfalso;apply b;unfold Ld;rw[if_neg (by simp[e]),if_neg λC=>?_,if_neg λC=>?_,if_neg λh=>h]
    ·have o:bv c=7:=ba.kx c C;rw[e] at o;cases o
    ·have o:bv c=6:=ba.kt c C;rw[e] at o;cases o
   ·exact dJ c e
  exact ej cL {q with Sb:=az,tp:=tp,np:=np,ps:=t::q.ps} _ fG rfl rfl (fy.then (b7.aj λc _ b=>dJ c (by
   have o:bv q.d=1:=ba.kd;rw[b,o];decide))) fH
 have cM:=ag.cell;have b8:Own fL BL J q.tp q.ps:=ag.cj;have b9:Own IM Bp J q.np (eB st):=ag.names;have cN:q.ps.length<=1000000:=by rw[V.cZ];omega
 have cP:(eB st).length<=1000000:=by simp[eB];omega
 have bb: ∀c,q.tp.ah=some c->q.np.ah≠some c:=λc o H=>by
  have:=a9 c o;rw[aR c H] at this;cases this
 have bw: ∀c,q.tp.ah=some c->c<J.size:=λc b=>b8.lt b
 have bc: ∀c,q.np.ah=some c->c<J.size:=λc b=>b9.lt b
 refine aD (AZ.mk (s:=q.tp) (AB cM rfl) (aD (AZ.mk (s:=q.np) (AB cM rfl) (aD (AC.mk (AB cM rfl) ?_)))));have Q: ∀ {z:aa},Mod (λc=>q.tp.ah=some c\/q.np.ah=some c) J z->z[q.d]? =some (J2 (eA {q with Sb:=az} {st with aw:=st.aw+1,bq:=false} false) FL (0,0)):=λx=>x.ah ag.cell (by
  have aT:ap q.d=1:=ag.kd;rintro(h|h)
  ·have:=a9 _ h;rw[aT] at this;cases this
  ·have:=aR _ h;rw[aT] at this;cases this)
 refine⟨?_,?_⟩
 ·refine ao.mk λfI _ dK aW gp=>⟨AB (Q (Ext.mod aW)) rfl,AB (Q (Ext.mod aW)) rfl,AB (Q (Ext.mod aW)) rfl,?_,?_⟩
  ·refine qD (b8.ext aW) dK (λe=>by have:=bw _ e;omega) cN λaF X aH au aJ=>⟨_,rfl,?_⟩
   have U:Mod (λc=>q.tp.ah=some c\/q.np.ah=some c) J X:=(Ext.mod aW).trans (au.aj λc _ b=> .inl b);refine⟨AB (Q U) rfl,AB (Q U) rfl,ao.mk λfJ _ fK bx gq=>⟨AB (Q (U.trans (Ext.mod bx))) rfl,AB (Q (U.trans (Ext.mod bx))) rfl,?_⟩⟩;have bz:Own IM Bp fJ q.np (eB st):=(((b9.ext aW).mod au λc b e=>bb c e b)).ext bx;refine qE bz fK (λe=>by have:=bc _ e;have:=U.size;omega) cP λbA bB bC aL bD=>⟨_,rfl,?_⟩
   have dL:=U.size;have bE: ∀c,aF.ah=some c->c<X.size:=λc b=>aH.lt b
   refine fin bB aF bA X.size (((aH.ext bx)).mod aL λc b e=>?_) bC ((U.trans (Ext.mod bx)).trans (aL.aj λc _ b=> .inr b)) (λc b=>⟨(aJ c b).imp id λh=>by omega,bE c b⟩) λc b=>(bD c b).imp id λh=>⟨by omega,by omega⟩
   rcases aJ c b with o|o
   ·exact bb c o e
   ·have:=bc c e;omega
  ·refine ao.mk λfz _ cK dM fB=>?_
   have bG:=aW.trans dM;refine⟨AB (Q (Ext.mod bG)) rfl,AB (Q (Ext.mod bG)) rfl,?_⟩;refine qD (b8.ext bG) (dM.ah dK λh=>h) (λe=>by have:=bw _ e;omega) cN λaF X aH au aJ=>⟨_,rfl,?_⟩
   have U:Mod (λc=>q.tp.ah=some c\/q.np.ah=some c) J X:=(Ext.mod bG).trans (au.aj λc _ b=> .inl b);refine⟨AB (Q U) rfl,AB (Q U) rfl,?_⟩;have dL:=U.size;have bz:Own IM Bp X q.np (eB st):=(b9.ext bG).mod au λc b e=>bb c e b
   have b6:X[fI.size]? =some (J2 #[J6 J9 (st.next:Int)] Bp (0,0)):=au.ah cK (λe=>by have:=bw _ e;omega);refine qE bz b6 (λe=>by have:=bc _ e;omega) cP λbA bB bC aL bD=>⟨_,rfl,?_⟩
   have bE: ∀c,aF.ah=some c->c<X.size:=λc b=>aH.lt b
   refine fin bB aF bA X.size (aH.mod aL λc b e=>?_) bC (U.trans (aL.aj λc _ b=> .inr b)) (λc b=>⟨(aJ c b).imp id λh=>by omega,bE c b⟩) λc b=>(bD c b).imp id λh=>⟨by omega,by omega⟩
   rcases aJ c b with o|o
   ·exact bb c o e
   ·have:=bc c e;omega
 ·refine ao.mk λgr _ fM cQ gs=>⟨AB (Q (Ext.mod cQ)) rfl,AB (Q (Ext.mod cQ)) rfl,ao.mk λgt _ fO dN gu=>?_⟩
  have bd:=cQ.trans dN;refine⟨AB (Q (Ext.mod bd)) rfl,AB (Q (Ext.mod bd)) rfl,AB (Q (Ext.mod bd)) rfl,?_⟩;refine qD (b8.ext bd) fO (λe=>by have:=bw _ e;omega) cN λaF X aH au aJ=>⟨_,rfl,?_⟩
  have U:Mod (λc=>q.tp.ah=some c\/q.np.ah=some c) J X:=(Ext.mod bd).trans (au.aj λc _ b=> .inl b);refine⟨AB (Q U) rfl,AB (Q U) rfl,?_⟩;have dL:=U.size;have bz:Own IM Bp X q.np (eB st):=(b9.ext bd).mod au λc b e=>bb c e b
  have fP:X[J.size]? =some (J2 #[J6 J9 (st.next:Int)] Bp (0,0)):=au.ah (dN.ah fM λh=>h) (λe=>by have:=bw _ e;omega);refine qE bz fP (λe=>by have:=bc _ e;omega) cP λbA bB bC aL bD=>⟨_,rfl,?_⟩
  have bE: ∀c,aF.ah=some c->c<X.size:=λc b=>aH.lt b
  refine fin bB aF bA X.size (aH.mod aL λc b e=>?_) bC (U.trans (aL.aj λc _ b=> .inr b)) (λc b=>⟨(aJ c b).imp id λh=>by omega,bE c b⟩) λc b=>(bD c b).imp id λh=>⟨by omega,by omega⟩
  rcases aJ c b with o|o
  ·exact bb c o e
  ·have:=bc c e;omega
end
def GD:List Pr->Int
 | []=>0
 |x::l=>if Ah x≠0 then Ah x else GD l
def EX(l:List Pr):Int:=if l.length=0 then 1 else if l.length>64 then 2 else GD l
theorem za: ∀ {l:List Pr},GD l=0->BU l
 | [],_=>zE
 |x::l,a=>by
  unfold GD at a;split at a
  ·rename_i b;exact absurd a b
  ·rename_i b;intro d c;rcases List.mem_cons.1 c with rfl|c
   ·exact Decidable.not_not.1 b
   ·exact za a d c
theorem zd {l:List Pr}(a:EX l=0):YW l/\BU l/\l≠ []:=by
 unfold EX at a;split at a
 ·cases a
 ·rename_i b;split at a
  ·cases a
  ·rename_i e;have:=za a;exact⟨⟨by omega,λx c=>oG (this x c)⟩,this,λd=>b (by rw[d];rfl)⟩
theorem AHM {l:List Pr}{i:Nat}{x:Pr}(a:l[i]? =some x)(d:GD (l.take i)=0):GD l=if Ah x≠0 then Ah x else GD l:=by
 split
 ·rename_i e
  induction l generalizing i with
  |nil=>simp at a
  |cons f l g=>
   cases i with
   |zero=>
    simp at a;subst a;unfold GD;rw[if_pos e]
   |succ i=>
    have b:GD (f::l.take i)=0:=d;unfold GD at b ⊢;split at b
    ·rename_i c;exact absurd b c
    ·rename_i c;rw[if_neg c];exact g (by simpa using a) b
 ·rfl
theorem ze: ∀ {l:List Pr} {x:Pr},GD l=0->Ah x=0->GD (l++ [x])=0
 | [],x,_,b=>by show GD [x]=0;unfold GD;rw[if_neg (by simp[b])];rfl
 |y::l,x,b,d=>by
  have a:GD (y::l)=0:=b;show GD (y::(l++ [x]))=0;unfold GD at a ⊢;split at a
  ·rename_i c;exact absurd a c
  ·rename_i c;rw[if_neg c];exact ze a d
theorem zf {O:aq}{h:aa}{s:Sl}{l:List Pr}{n:A2K}(v:View BR h s l)(j: ∀B,Ext h B->n (J6 J9 (EX l)) B):AA O P PY #[J4 s.p s.len s.cap] h n:=by
 refine AGu ?_;unfold uO;rw[v.len];refine af.intro (λe=>?_) (λe=>?_)
 ·have o:l.length=0:=by have:((l.length:Nat):Int)=0:=(by simpa using e);omega
  have:=j h Mod.refl;unfold EX at this;rwa [if_pos o] at this
 have o:l.length≠0:=λf=>by rw[f] at e;cases e
 refine af.intro (λe=>?_) (λe=>?_)
 ·have u:l.length>64:=by have:=of_decide_eq_true e;omega
  have:=j h Mod.refl;unfold EX at this;rwa [if_neg o,if_pos u] at this
 have u: ¬l.length>64:=by have:=of_decide_eq_false e;omega
 have Q:EX l=GD l:=by unfold EX;rw[if_neg o,if_neg u]
 rw[Q] at j;refine Loop.rule (λC x d=> ∃i:Nat,x=((i:Int),())/\C=l.length-i/\i<=l.length/\Ext h d/\GD (l.take i)=0) ?_ ⟨0,rfl,rfl,by omega,Mod.refl,rfl⟩;rintro K C _ d ⟨i,rfl,rfl,Z,w,q⟩ R;dsimp only;refine af.intro (λe=>?_) (λe=>?_)
 ·have r:i<l.length:=by have:=of_decide_eq_true e;omega
  have ag:l[i]? =some l[i]:=A2 r;rw[<- v.len];refine(v.ext w).idx ag λa _ c=>?_
  obtain⟨S,T,c2⟩:=c.pair;refine AJ.mk S (AJ.mk T (Aa.mk c2 (ao.pair λb k _ m U ab=>?_)));have y:=w.trans U;generalize l[i]=p at*
  have D:=AHM ag q;refine ai.mk λE F=>?_
  have V:Ah p=1-> ∀d,Ext h d->n (J6 J9 1) d:=λf d x=>by
   have:=j d x;rw[D,if_pos (by rw[f];decide),f] at this;exact this
  have W:Ah p=2-> ∀d,Ext h d->n (J6 J9 2) d:=λf d x=>by
   have:=j d x;rw[D,if_pos (by rw[f];decide),f] at this;exact this
  have z:Ah p=if(decide (p.key=⟨#[]⟩)||(p.gone&& !decide (p.val=⟨#[]⟩))) then 1 else if(decide (p.key.size>64)||decide (p.val.size>8192)) then 2 else 0:=rfl;have G:(decide (p.key=⟨#[]⟩)||(p.gone&& !decide (p.val=⟨#[]⟩)))=true->E (true,()) k:=λf=>F _ _ (af.yes rfl (V (by rw[z,if_pos f]) k y))
  have H:(decide (p.key=⟨#[]⟩)||(p.gone&& !decide (p.val=⟨#[]⟩)))=false->E (false,()) k:=λf=>F _ _ (af.no rfl (by
   refine ai.mk λI J=>?_
   have iu:(decide (p.key.size>64)||decide (p.val.size>8192))=true->I (true,()) k:=λA=>J _ _ (af.yes rfl (W (by rw[z,if_neg (by rw[f];decide),if_pos A]) k y))
   have X:(decide (p.key.size>64)||decide (p.val.size>8192))=false->I (false,()) k:=λA=>J _ _ (af.no rfl (by
    have Y:Ah p=0:=by rw[z,if_neg (by rw[f];decide),if_neg (by rw[A];decide)]
    rw[Ae (by omega)];refine R (l.length-(i+1)) _ _ (by omega) ⟨i+1,rfl,rfl,r,y,?_⟩;rw[As,ag];exact ze q Y))
   refine AJ.mk (AO m rfl) (af.intro (λg=>?_) (λg=>?_))
   ·have L:p.key.size>64:=by have:=of_decide_eq_true g;omega
    exact iu (by simp[L])
   ·have L: ¬p.key.size>64:=by have:=of_decide_eq_false g;omega
    refine AJ.mk (AB m rfl) ?_;by_cases M:p.val.size>8192
    ·rw[decide_eq_true (show((p.val.size:Int)>(8192:Int)) by omega)];exact iu (by simp[M])
    ·rw[decide_eq_false (show ¬((p.val.size:Int)>(8192:Int)) by omega)];exact X (by simp[M];omega)))
  refine AJ.mk (AO m rfl) ?_;rw[Bw];refine af.intro (λg=>?_) (λg=>?_)
  ·exact G (by rw[g];rfl)
  ·refine Aa.mk (AB m rfl) (af.intro (λt=>?_) (λt=>?_))
   ·refine AJ.mk (AB m rfl) ?_;rw[Bw];cases N:decide (p.val=(⟨#[]⟩:A2L)) with
    |true=>exact H (by rw[g,t,N];rfl)
    |false=>exact G (by rw[g,t,N];rfl)
   ·exact H (by rw[g,t];rfl)
 ·have r:i=l.length:=by have:=of_decide_eq_false e;omega
  subst r;rw[BT] at q;have:=j d w;rwa [q] at this
theorem zg {e:bQ}{D:Bq}(h:BK e D){s:Nat}(f:s<=99999999){b:List Pr}(j:YW b): ∀d∈(D.L s).map (BV s)++ [BV s b],d.length<=1048576:=λd a=>by
 rcases List.mem_append.1 a with a|a
 ·obtain⟨c,i,rfl⟩:=List.mem_map.1 a;have:=ZM f (h.gk s c i);omega
 grind [List.mem_singleton,ZM]
theorem AJS(a:List (List UInt8))(b:List UInt8):aJ (a++ [b])=aJ a++Cv b:=by simp
theorem AJU {i j:bQ}{D:Bq}{s:Nat}{b:List Pr}(h:BK i D)(n:1<=s/\s+1<=99999999)(l:YW b)(d: ∀e,j e=if e=aC nl s then some (AY (aJ ((D.L s).map (BV s)++ [BV s b])),bF) else i e):BK j (TF D s b):=by
 refine AQo h n l (λf _ _ o=> .inl ?_) (λf _ _=> .inl ?_) (λf=> .inl ?_) (λe p r=>?_) ⟨_,by rw[d,if_pos rfl],?_⟩
 ·rw[d,if_neg λa=>o (Ij a)]
 ·rw[d,if_neg λa=>WH s f a.symm]
 ·rw[d,if_neg λa=>Lx s f a.symm]
 ·simp_all
 ·rw[EN,Bm];have:=Rh (rs:=(D.L s).map (BV s)++ [BV s b]) (zg h (by omega) l) (t:= []) UI;rw[AM] at this;exact this
theorem AJ2 {j F1 G:bQ}{D:Bq}{s:Nat}{b:List Pr}(h:BK j D)(z:1<=s/\s+1<=99999999)(C:YW b)(o: ∀e,F1 e=if e=aC nl s then some (AY (aJ ((D.L s).map (BV s))),AY (Cv (BV s b))) else j e)(c:Mc F1 G):
  BK G {D with aP:=max D.aP (s+1)}\/BK G (TF D s b):=by
 have E: ∀a,1<=a->a<=99999999->a≠s->Nj (j (aC nl a)) (G (aC nl a)):=λa l n t=>by
  have d:F1 (aC nl a)=j (aC nl a):=by rw[o,if_neg λd=>t (Ij d)]
  have:=c.bY (x:=aC nl a) λp w=>(h.log.has a p l n (d▸w)).1
  rwa [d] at this
 have F: ∀a,1<=a->a<=99999999->Nj (j (aC nn a)) (G (aC nn a)):=λa l n=>by
  have d:F1 (aC nn a)=j (aC nn a):=by rw[o,if_neg λd=>WH s a d.symm]
  have:=c.bY (x:=aC nn a) λp w=>(h.note.has a p l n (d▸w)).1
  rwa [d] at this
 have ft: ∀a,F1 (aX a)=j (aX a):=λa=>by rw[o,if_neg λd=>Lx s a d.symm]
 have H: ∀a∈(Ap D).names,G (aX a)=some (AY (Jh (D.T a)),bF)/\G7 (D.T a):=λa N=>by
  obtain⟨O,I⟩:=h.cN a N;have:=c.bY (x:=aX a) λp w=>by grind
  rw[ft] at this;exact⟨VS this I O,I⟩
 have J: ∀e,(∀ a,e≠aC nl a)->G e≠none->j e≠none:=λe u P Q=>P (by
  have:=c e;rw[o,if_neg (u s),Q] at this;exact this)
 have K:=c (aC nl s);rw[o,if_pos rfl] at K;obtain⟨S,y⟩:=K;have i:=yY (rs:=(D.L s).map (BV s)) (r:=BV s b) (zg h (by omega) C) S;have L:(G (aC nl s)=none/\(D.L s).map (BV s)= []\/ ∃e,G (aC nl s)=some (e,bF)/\NQ (bl e) ((D.L s).map (BV s)))->BK G {D with aP:=max D.aP (s+1)}:=λT=>by
  refine⟨?_,h.note.aR h.cC.2.2.1 F,H,h.gk,h.dO,λe u hd=>h.dx e (J e (λa d=>by grind [UL]) u) hd,by have:=h.cC;refine⟨?_,?_,this.2.2.1,this.2.2.2⟩<;>simp only[]<;>omega⟩;have:=h.log.put (G:=G) (eX:=max D.aP (s+1)) (s:=s) (v:=(D.L s).map (BV s)) ⟨z.1,by omega⟩ (by omega) (λa l n t=>E a l n t) T (by omega);have d:(KT (λa=>(D.L a).map (BV a)) s ((D.L s).map (BV s)))=λa=>(D.L a).map (BV a):=by
   funext a
   grind [EJ,F6]
  rw[d] at this;exact this
 split at y
 ·rename_i U;left;refine L (.inl ⟨y,?_⟩);rw[U] at i;have M: ∀rs,NQ (bl bF) rs->rs= []:=λrs V=>rG V
  rcases i with i|i
  ·exact M _ i
  ·have:=M _ i;simp at this
 ·rcases i with i|i
  ·exact .inl (L (.inr ⟨_,y,i⟩))
  ·right;have W:(D.L s++ [b]).map (BV s)=(D.L s).map (BV s)++ [BV s b]:=by rw[Bm];rfl
   refine⟨?_,h.note.aR h.cC.2.2.1 F,H,λa x f=>?_,h.dO,λe u hd=>h.dx e (J e (λa d=>by grind [UL]) u) hd,by have:=h.cC;refine⟨?_,?_,this.2.2.1,this.2.2.2⟩<;>simp only[TF]<;>omega⟩
   ·have:=h.log.put (G:=G) (eX:=max D.aP (s+1)) (s:=s) (v:=(D.L s++ [b]).map (BV s)) ⟨z.1,by omega⟩ (by omega) (λa l n t=>E a l n t) (.inr ⟨_,y,by rw[W];exact i⟩) (by omega);have d:(KT (λa=>(D.L a).map (BV a)) s ((D.L s++ [b]).map (BV s)))=λa=>((TF D s b).L a).map (BV a):=by
     funext a;show _=(KT D.L s (D.L s++ [b]) a).map (BV a)
     grind [EJ,F6]
    rw[d] at this;exact this
   ·by_cases d:a=s
    ·have f:x∈KT D.L s (D.L s++ [b]) a:=f;rw[d,EJ] at f;rcases List.mem_append.1 f with f|f
     ·exact h.gk s x f
     ·rw[List.mem_singleton.1 f];exact C
    ·have f:x∈KT D.L s (D.L s++ [b]) a:=f;rw[F6 d] at f;exact h.gk a x f
theorem ASZ {b:bQ}{D:Bq}(h:BK b D){t:Nat}(d:D.aP<=t):IU {D with aP:=t}=IU D:=by
 unfold IU;exact Tn d λa e _=>by
  show(if a<(Ap D).aV then [] else D.L a)= [];split
  ·rfl
  ·exact h.gE (.inr e)
section
variable {A : aq} {B : cH} {g h : aa} {q : Hp} {k : Nat -> Nat} {st : Db} {m : Bx} {D : Bq} {aI c : Nat} {R : A2K}
theorem ASa(a:bM g h q k st m)(b:R (J6 J9 (st.aw:Int)) h):AA A P Ir #[Am q.lg] h R:=by refine Oc ?_;unfold Le;exact af.no rfl (aD (AC.mk (AB a.log rfl) b))
theorem AJg(a:Nat):600000<=20000*a+10000000:=by omega
theorem cH.up(B:cH){d a:Nat}{b:Nat}(e:a<=b)(h:d<=B.W0+a*B.K):d<=B.W0+b*B.K:=AE h (Ln (AN _ e) _)
structure mB (st bJ:Db) (l:List Pr):Prop where
 map:Co bJ=cy (Co st) l
 full:4096<=M.Ec (A8 st.fr l)->bJ.fr= []/\(bJ.ts.length<=3\/bJ.ts.length=st.ts.length)
 less:M.Ec (A8 st.fr l)<4096->bJ.fr=A8 st.fr l/\bJ.ts=st.ts
theorem zi {s:Sl}{l:List Pr}(ap:bZ g)(br:Bv B g h q k st m D aI c)(hA:aI+3<=B.A)(ab:View BR h s l)(aq:l≠ []-> ∀b,s.ah=some b->b<h.size/\k b=0)(aG:EX l=0->c+l.length<=B.C)
  (bs:EX l≠0-> ∀o,Ext h o->R (J6 J9 (EX l)) o)
  (a4:EX l=0-> ∀o v,oE B h o q k m v (aI+3)->(∀ G,Mc (ff v) G->Rec G (aI+3) (c+l.length) (Co st)\/Rec G (aI+3) (c+l.length) (cy (Co st) l))->R (J6 J9 30) o)
  (bt:EX l=0-> ∀o v,oE B h o q k m v (aI+3)->ky (ff v) (aI+3) (c+l.length) (cy (Co st) l)->R (J6 J9 0) o)
  (a5:EX l=0-> ∀o ac ar bJ v aH,ac.d=q.d->ac.b=q.b->Bv B g o ac ar bJ v aH (aI+3) (c+l.length)->JU m v->mB st bJ l->(∀ n,¬dc n->ff v n=ff m n)->Mod (λc=>k c≠0) h o->(∀ c,ar c≠0->k c≠0\/h.size<=c)->R (J6 J9 0) o):
  AA A P Kz #[Am q.d,J4 s.p s.len s.cap] h R:=by
 obtain⟨V,hd,L,w,aK,e⟩:=br;have cx:=B.hA;have cB:=B.hC;have bu:=B.wt (a:=aI) (by omega);have cC:=w.aw;have cD:=L.eM;have cE:=w.aP;refine ABC ?_;unfold UB;refine ai.mk λK bv=>ZB V (bv _ _ (af.no rfl ?_))
 refine zf ab λbw ad=>⟨_,rfl,?_⟩
 refine af.intro (λQ=>bs (by simpa using Q) bw ad) (λQ=>?_);have S:EX l=0:=by simpa using Q
 obtain⟨E,bx,ae⟩:=zd S
 replace aq:=aq ae
 replace aG:=aG S
 have W:=V.on ad;refine aD (AX.mk (AB W.cell rfl) (aD (AX.mk (AB W.cell rfl) ?_)));refine ASa W ⟨_,rfl,⟨AB W.cell rfl,?_⟩⟩;refine APH (by omega) E.len E.ok (ab.ext ad) (λb E=>by have:=(aq b E).1;have:=ad.size;omega) λX aL=>⟨_,rfl,⟨AB (W.on aL).cell rfl,?_⟩⟩
 have N:=W.on aL;have aM:=ad.trans aL;have cF:=aM.size;have cG:=ZM (s:=st.aw) (by omega) E;have au:(AY (BV st.aw l)).size=(BV st.aw l).length:=AP _;refine yB (N.hZ ap) N.log N.box N.lu (λo x=>N.fX ap (x.aj λc _ e=> .inl e)) (by decide) (by omega) (by rw[au];omega) (AE aK bu) λav p aw ax aN a6=>⟨_,rfl,?_⟩
 rw[show bl (AY (BV st.aw l))=BV st.aw l from EN _] at aw ax ⊢;have bz:=Zh V.box.aS (aC nl st.aw) (AY (Cv (BV st.aw l)));have cH:=(JQ (r:=BV st.aw l) (by omega)).2;rw[AP] at bz;have a7: ∀c,p c->q.Sb c\/X.size<=c:=λc e=>(a6 c e).imp id λh=>h.1
 have bA:((ff m (aC nl st.aw)).getD (bF,bF))=(AY (aJ ((D.L st.aw).map (BV st.aw))),bF):=by
  cases a8:st.bq with
  |true=>rw[L.jB a8];rfl
  |false=>
   have a9:=L.gD st.aw (A0 _) (by omega) (by rw[a8];simp);rw[a9,L.ok.jD (by omega) a9];rfl
 have ba: ∀f,st.aw<f->D.L f= []:=λf y=>L.sk w (by omega) y
 have bb:1<=st.aw/\st.aw+1<=99999999:=⟨by omega,by omega⟩;have bc:(Ap D).aV<=st.aw:=by rw[L.aV];exact L.eM.2
 obtain⟨bB,bC⟩:=APS L.ok bc ba E;have bD:=zG L.ok (b:=l) bc ba;have bd:N9 (TF D st.aw l)=N9 D+l.length:=by
  unfold N9;rw[bD,No,A1];have:(Ap (TF D st.aw l)).names.map (λf=>((TF D st.aw l).T f).length)=(Ap D).names.map λf=>(D.T f).length:=rfl
  rw[this];simp;omega
 have bE: ∀ {F':bQ},(∀ f,F' (aX f)≠none->ff m (aX f)≠none)-> ∀f,F' (aX f)≠none->f<8*aI+8:=λbG f y=>by
  have:=L.fA w (bG f y);have:=w.next;omega
 have bH: ∀ {be:Nat},be<=B.W0+(aI+1)*B.K->be<=B.W0+(aI+3)*B.K:=λh=>B.up (by omega) h
 rcases Ro (k:=aC nl st.aw) (d:=AY (Cv (BV st.aw l))) hd (yD (by decide) (by omega)) with⟨aO,aQ⟩|⟨aQ,aR,bI⟩
 ·rw[aQ] at aw ⊢;refine af.yes rfl ?_;refine Ja N aw (aN.aj λc _ e=>e.imp id .inl) a7 λbK bL bN bO bP=>⟨_,rfl,?_⟩
  refine a4 S bK (NN m) ⟨by rw[aO];decide,bL,⟨p,bN,λc e=>(bP c e).imp id λh=>by omega⟩,rfl,(Ext.mod aM).trans bO,λ_ _=>rfl,B.up (by omega) aK⟩ λG ay=> .inl ?_
  exact(L.oW w G ay).mono (by omega) (by omega)
 rw[aQ] at ax ⊢;refine af.no rfl ?_;rw[decide_eq_true rfl,IF] at ax;generalize (EM m (aC nl st.aw) (AY (Cv (BV st.aw l)))).2=z at*
 have ah: ∀n,ff z n=if n=aC nl st.aw then some (AY (aJ ((D.L st.aw).map (BV st.aw))),AY (Cv (BV st.aw l))) else ff m n:=λn=>by
  rw[bI,bA];simp only[Rf]
 have cI: ¬p q.lg:=λe=>by
  rcases a6 _ e with h|h
  ·exact N.lu h
  ·exact h.2 rfl
 have H:=N.boxed (j:=3) (bJ:= {st with bq:=true}) aw (aN.aj λc _ e=>e.imp id λh=> .inl ⟨rfl,h⟩) a7 rfl rfl rfl rfl (.inr ax) (.inl ⟨by decide,rfl⟩);have bR:Grow k (Li k X.size p 2) X.size:=rO;have az: ∀c,Li k X.size p 2 c≠0->k c≠0\/h.size<=c:=λc e=>by
  by_cases aj:c<X.size
  ·rw[bR c aj] at e;exact .inl e
  ·exact .inr (by omega)
 generalize Li k X.size p 2=bf at*
 have aA:Mod (λc=>k c≠0) h av:=(Ext.mod aM).trans (aN.aj λc _ e=>by
  rcases e with e|e
  ·rw[V.kb c e];decide
  ·rw[e,V.kl];decide)
 refine aD (AX.mk (AB H.cell rfl) ?_);refine yC (H.hZ ap) H.log H.box H.lu (by decide) (by show st.aw<=_;omega) λaS ak cJ aT=>⟨_,rfl,?_⟩
 have bS:ff z (aC nl st.aw)=some (AY (aJ ((D.L st.aw).map (BV st.aw))),AY (Cv (BV st.aw l))):=by rw[ah,if_pos rfl]
 have ak:Cw aS q.b p (Hm z (aC nl st.aw)).2:=ak;have bT:=nW H.box.aS (aC nl st.aw);have bg:bj z.files<=B.W0+(aI+1)*B.K:=B.step (d:=600000) aK (by omega) (AJg B.C);show af ((Hm z (aC nl st.aw)).1 != 0) _ _;rcases OX aR.up bS with⟨aO,al⟩|⟨al,bU,bV⟩
 ·rw[al] at ak;have bW:NF z (aC nl st.aw) true=(30,NN z):=al;rw[al];refine af.yes rfl ?_;show AA A P Cg #[_,J6 J9 (NF z (aC nl st.aw) true).1] aS _;rw[bW];refine Ja (q:= {q with Sb:=p}) H ak (aT.aj λc _ e=> .inl e) (λc e=> .inl e) λbX bY b0 b1 b2=>⟨_,rfl,?_⟩
  refine a4 S bX (NN z) ⟨(λI=>by have:=aR.calm I;rw[aO] at this;cases this),bY,⟨p,b0,λc e=>?_⟩,rfl,aA.then (b1.aj λc _ e=>az c e),λn u=>?_,bH bg⟩ λG ay=>?_
  ·rcases b2 c e with F|F
   ·exact az c F
   ·exact .inr (by have:=aA.size;omega)
  ·rw[oM,ah,if_neg (oF u _)]
  ·have b3: ∀f,G (aX f)≠none->ff m (aX f)≠none:=λf y=>by
    have F:ff z (aX f)≠none:=ay.some y;rwa [ah,if_neg λJ=>Lx _ f J.symm] at F
   have C:=L.jE w (F':=G) (bE b3);rcases AJ2 L.ok bb E (F1:=ff (NN z)) ah ay with aU|aU
   ·left;have au:=ASZ L.ok (t:=max D.aP (st.aw+1)) (by omega);have em:cz {D with aP:=max D.aP (st.aw+1)}=cz D:=by unfold cz Er;rw[au];rfl
    have b4:N9 {D with aP:=max D.aP (st.aw+1)}=N9 D:=by unfold N9;rw[au];rfl
    refine⟨_,aU,⟨by show max D.aP (st.aw+1)<=_;omega,by have:=C.aW;show D.aW<=_;omega,by have:=C.next;show(Ap D).next<=_;omega,by have:=C.aV;show(Ap D).aV<=_;omega,by have:=C.cn;show(Ap D).names.length<=_;omega,by rw[b4];have:=C.bX;omega,λf y=>by have:=C.mR f y;omega⟩,by rw[em];exact L.map⟩
   ·right;refine⟨_,aU,⟨by show max D.aP (st.aw+1)<=_;omega,by have:=C.aW;show D.aW<=_;omega,by have:=C.next;show(Ap D).next<=_;omega,by have:=C.aV;show(Ap D).aV<=_;omega,by have:=C.cn;show(Ap D).names.length<=_;omega,by rw[bd];have:=C.bX;omega,λf y=>by have:=C.mR f y;omega⟩,by rw[bC,L.map]⟩
 rw[al];refine af.no rfl ?_;generalize (Hm z (aC nl st.aw)).2=O at*
 have Y: ∀n,ff O n=if n=aC nl st.aw then some (AY (aJ ((D.L st.aw).map (BV st.aw)++ [BV st.aw l])),bF) else ff m n:=λn=>by
  rw[bV];by_cases u:n=aC nl st.aw
  ·rw[if_pos u,if_pos u];simp only[Ak,AJS]
  ·rw[if_neg u,if_neg u,ah,if_neg u]
 have b5:=AJU L.ok bb E Y;have b6:=H.boxed (j:=2) (bJ:= {st with bq:=true}) ak (aT.aj λc _ e=> .inl e) (λc e=> .inl e) rfl rfl rfl rfl (.inl ⟨by decide,rfl,rfl⟩) (.inl ⟨by decide,rfl⟩);have b7:Mod (λc=>k c≠0) h aS:=aA.then (aT.aj λc _ e=>az c (by rw[H.kb c e];decide));have b8: ∀c,Li bf av.size p 2 c≠0->k c≠0\/h.size<=c:=λc e=>by
  by_cases aj:c<av.size
  ·rw[GL aj] at e;exact az c e
  ·exact .inr (by have:=aA.size;omega)
 generalize Li bf av.size p 2=b9 at*
 have aE:JU m O:=aR.trans bU;have cK:=L.di w;have cL:=E.len;refine Loop.rule (λbh x I=> ∃(i:Nat) (am:List M.DX) (an:Nat->Nat),x=((i:Int),())/\bh=l.length-i/\i<=l.length/\bM g I {q with Sb:=p,ns:=am} an {st with bq:=true,fr:=A8 st.fr (l.take i)} O/\Mod (λc=>k c≠0) h I/\(∀ c,an c≠0->k c≠0\/h.size<=c)) ?_
  ⟨0,q.ns,b9,rfl,rfl,AD _,b6,b7,b8⟩
 rintro cM bh _ I ⟨i,am,an,rfl,rfl,cN,Z,aa,T⟩ bi;dsimp only;have ca:=ab.mod aa λb E ae=>ae (aq b E).2
 have cO:=aa.size;refine af.intro (λQ=>?_) (λQ=>?_)
 ·have aF:i<l.length:=by have:=of_decide_eq_true Q;have:=ab.len;omega
  have ag:l[i]? =some l[i]:=A2 aF;refine ca.idx ag λa _ cb=>?_
  obtain⟨cc,cd,c2⟩:=cb.pair;refine AJ.mk cc (AJ.mk cd (Aa.mk c2 (ao.pair λb ce _ aV bk cP=>?_)));have aW:=Z.on bk;refine aD (AX.mk (AB aW.cell rfl) ?_);refine AJ.mk (AO aV rfl) (AJ.mk (AB aV rfl) (Aa.mk (AB aV rfl) ?_));have cf:=M.Qy (l:=l.take i) (t:=st.fr);rw[Ax] at cf;refine M.su (x:=l[i]) aW.fresh (by show(A8 st.fr (l.take i)).length<_;omega) λcg cQ ch bm ci=>⟨_,rfl,?_⟩
  have cj:=aW.oX ch bm ci;rw[Ae (by omega)];refine bi (l.length-(i+1)) _ _ (by omega) ⟨i+1,cg,_,rfl,rfl,aF,by rw[M.sv ag];exact cj,(aa.trans (Ext.mod bk)).then (bm.aj λc _ e=>T c (by rw[Z.kf c e];decide)),λc e=>?_⟩;by_cases aj:c<ce.size
  ·rw[GL aj] at e;exact T c e
  omega
 have aF:i=l.length:=by have:=of_decide_eq_false Q;have:=ab.len;omega
 subst aF;rw[BT] at Z;clear bi;have aY:Co {st with bq:=true,fr:=A8 st.fr l}=cy (Co st) l:=zx V.fV bx;have ck:Ex (ff O) {st with bq:=true,fr:=A8 st.fr l} (TF D st.aw l):=
  ⟨b5,L.names,L.cj,L.aV,L.next,L.below,by rw[bB,<-L.fr],λf aZ a0 ae=>by
   have bn:f≠st.aw:=ae rfl;rw[Y,if_neg λJ=>bn (Ij J)];exact L.gD f aZ a0 λ_=>bn,λ_=>by
   show ff O (aC nl st.aw)=some (AY (aJ ((KT D.L st.aw (D.L st.aw++ [l]) st.aw).map (BV st.aw))),bF);rw[Y,if_pos rfl,EJ,Bm];rfl,λf aZ a0=>by
   rw[Y,if_neg λJ=>WH _ f J.symm];exact L.jA f aZ a0,L.eM,L.aK,λf y=>by
   rw[Y,if_neg λJ=>Lx _ f J.symm] at y;exact L.clean f y⟩
 have cl:Sy {st with bq:=true,fr:=A8 st.fr l} (TF D st.aw l) (aI+1) (c+l.length):=
  ⟨by show st.aw<=_;omega,by have:=w.aK;show st.aK<=_;omega,by have:=w.next;show st.next<=_;omega,by have:=w.cn;show st.ts.length<=_;omega,by rw[bd];have:=w.bX;omega,by show max D.aP (st.aw+1)<=_;omega,by have:=w.aW;show D.aW<=_;omega⟩
 have bo:Bv B g I {q with Sb:=p,ns:=am} an {st with bq:=true,fr:=A8 st.fr l} O (TF D st.aw l) (aI+1) (c+l.length):=
  ⟨Z,aE.up,ck,cl,AE bT bg,aG⟩
 have a1: ∀n,¬dc n->ff O n=ff m n:=λn u=>by rw[Y,if_neg (oF u _)]
 refine ai.mk λcR a2=>?_
 refine aD (AX.mk (AB Z.cell rfl) ?_);refine M.sn Z.fresh ⟨_,_,rfl,?_⟩;refine af.intro (λa3=>?_) (λa3=>?_)
 ·have cS:4096<=M.Ec (A8 st.fr l):=by have:=of_decide_eq_true a3;have J:M.Ec ({st with bq:=true,fr:=A8 st.fr l}:Db).fr=M.Ec (A8 st.fr l):=rfl;omega
  refine APg (q:= {q with Sb:=p,ns:=am}) ap bo (by omega) (λo v U bp=>⟨_,rfl,a2 _ _ ?_⟩) λo ac ar bJ v aH cm cn S' co cp cq cr cs ct cu=>⟨_,rfl,a2 _ _ ?_⟩
  ·rw[aY] at bp;obtain⟨S',cv,cw⟩:=U.box;refine bt S o v ⟨λI=>U.fuel (aE.calm I),U.dn,⟨S',cv,λc e=>?_⟩,U.down,aa.then (U.mod.aj λc _ e=>T c e),λn u=>(U.fq n u).trans (a1 n u),U.wt⟩ bp;rcases cw c e with F|F
   ·exact T c F
   ·exact .inr (by omega)
  ·refine a5 S o ac ar bJ v aH cm cn S' (aE.trans co) ⟨cq.trans aY,λ_=>⟨cp,cr⟩,λh=>absurd h (by omega)⟩ (λn u=>(cs n u).trans (a1 n u)) (aa.then (ct.aj λc _ e=>T c e)) λc e=>?_
   rcases cu c e with F|F
   ·exact T c F
   ·exact .inr (by omega)
 ·have cT:M.Ec (A8 st.fr l)<4096:=by have:=of_decide_eq_false a3;have J:M.Ec ({st with bq:=true,fr:=A8 st.fr l}:Db).fr=M.Ec (A8 st.fr l):=rfl;omega
  refine a2 _ _ ?_;exact a5 S I {q with Sb:=p,ns:=am} an _ O _ rfl rfl (bo.aI (by omega)) aE ⟨aY,λh=>absurd h (by omega),λ_=>⟨rfl,rfl⟩⟩ a1 aa T
end
theorem zj: ∀(l:List UInt8) (a:Nat),lV l->TP a l<=999999999999->Lib.parseUint10 a l= .ok (TP a l)
 | [],a,_,_=>rfl
 |c::l,a,hd,b=>by
  have h:TP a (c::l)=TP (a*10+(c.toNat-48)) l:=rfl;rw[h] at b ⊢;have d:=hd c (by simp);have f:=qL l (a*10+(c.toNat-48));unfold Lib.parseUint10;rw[if_pos d,if_neg (by omega),if_neg (by omega)];exact zj l _ (λx e=>hd x (AG _ e)) b
theorem APJ {a:Nat}(i:a<=999999999999):Lib.atoiAll (Lib.decDigits a)= .ok (a:Int):=by
 obtain⟨b,d⟩:=ZF a;cases e:Lib.decDigits a with
 |nil=>
  have:=congrArg List.length e;rw[Lib.decDigits_length] at this;have:=Lib.nDigits_pos a;simp at *;omega
 |cons c j=>
  rw[e] at b d;have o:=b c (by simp);have f:=zj (c::j) 0 b (by rw[d];exact i);rw[d] at f;unfold Lib.atoiAll;simp only[];have l: ¬(c.toNat=43\/c.toNat=45):=by omega
  have n: ¬c.toNat=45:=by omega
  rw[if_neg l];unfold Lib.parseMag;rw[if_neg (by simp),f];simp only[n,not_false_eq_true,true_and,false_and,if_false];rw[if_neg (by omega)]
theorem AQj {A:aq}{h:aa}{a:Nat}{R:A2K}(f:a<=999999999999)(d: ∀e,Ext h e->R (J1 #[J6 J9 (a:Int),.nilIface]) e):AA A P Uh #[J7 (AY (Lib.decDigits a))] h R:=by
 intro m;have i:(Lib.decDigits a).length<=20:=by rw[Lib.decDigits_length];exact Lib.nDigits_le20 a (by omega)
 refine Calls.mono (Proofs.Any.strconv_Atoi_ok Proofs.Tryz.gB (AY (Lib.decDigits a)) (by rw[AP];omega) (a:Int) (by rw[show(AY (Lib.decDigits a)).data.toList=Lib.decDigits a from Bh _];exact APJ f) (A.at h m)) ?_;rintro j l ⟨rfl,c|⟨t,c⟩⟩
 ·subst c;exact⟨_,rfl,h,m,rfl,d h Mod.refl⟩
 ·subst c;refine⟨_,rfl,_,_,rfl,d _ ?_⟩;refine⟨?_,λb n _=>?_⟩
  ·simp[Lib.bytesWorld,World.freeze,World.alloc,World.drew,aq.at]
  ·simp[Lib.bytesWorld,World.freeze,World.alloc,World.drew,aq.at,GC,Array.getElem?_push];rw[if_neg (by omega),if_neg (by omega)]
theorem AIU {A:aq}{h:aa}{s:Sl}{l:List Int}{v:Int}{R:A2K}(d:View IM h s l)(t:l.length<=1000000)(n:R (J3 (decide (v∈l))) h):AA A P Ei #[J4 s.p s.len s.cap,J6 J9 v] h R:=by
 refine Lj ?_;unfold Gt;refine NK ?_;unfold Im;refine Loop.rule (λo x p=> ∃i:Nat,x=((i:Int),())/\o=l.length-i/\i<=l.length/\p=h/\v∉l.take i) ?_ ⟨0,rfl,rfl,AD _,rfl,by simp⟩;rintro K o _ _ ⟨i,rfl,rfl,u,rfl,e⟩ r;dsimp only;rw[d.len];refine af.intro (λf=>?_) (λf=>?_)
 ·have b:i<l.length:=by have:=of_decide_eq_true f;omega
  have ag:l[i]? =some l[i]:=A2 b;rw[<- d.len];refine d.idx ag λa _ c=>AC.mk c.int ?_
  refine af.intro (λq=>?_) (λq=>?_)
  ·have j:v=l[i]:=by simpa using q
   refine⟨_,rfl,?_⟩;rw[decide_eq_true (show((i:Int)>=0) by omega)];rwa [decide_eq_true (show v∈l by rw[j];exact AW b)] at n
  ·have j:v≠l[i]:=by simpa using q
   rw[Ae (by omega)];refine r (l.length-(i+1)) _ _ (by omega) ⟨i+1,rfl,rfl,b,rfl,?_⟩;rw[As,ag];simp only[CT,HS,HL,not_or];exact⟨e,j⟩
 ·have b:i=l.length:=by have:=of_decide_eq_false f;omega
  subst b;rw[BT] at e;refine⟨_,rfl,?_⟩;rwa [decide_eq_false e] at n
section
variable {A : aq} {g h : aa} {q : Hp} {k : Nat -> Nat} {st : Db} {m : Bx} {D : Bq} {R : A2K}
theorem AJa(b:bM g h q k st m)(d:Nat):Ld k d q.tp q.np (λ_=>False)=k:=by
 funext c;unfold Ld;by_cases a:k c=0
 ·rw[if_neg (by simp[a]),if_neg (λh=>by have:=b.kt c h;rw[a] at this;cases this),if_neg (λh=>by have:=b.kx c h;rw[a] at this;cases this),if_neg (λh=>h),a]
 ·rw[if_pos a]
theorem bM.jF {h':aa}{next:Nat}(b:bM g h q k st m)(a:h'[q.d]? =some (J2 (eA q {st with next:=next} false) FL (0,0)))(x:Mod (· =q.d) h h'):bM g h' q k {st with next:=next} m:=by have R:=b.rest (C:=λc=>c=1) (h':=h') (x.aj λc _ a=>by rw[a];exact b.kd) (by decide);have:=b.eW (h':=h') (tp:=q.tp) (np:=q.np) (ps:=q.ps) (ts:=st.ts) (next:=next) (aV:=st.aV) (S:=λ_=>False) a (x.aj λc _ a=> .inl a) (R.cj (by decide)) (R.names (by decide)) b.cZ (λc a=> .inl a) (λc a=> .inl a) (λc h=>h.elim) (λi t p d e=> .inl ⟨i,d,e⟩);rw[AJa b] at this;exact this
theorem AQ4 {m:Bx}{x:A2L}:ff m x≠none↔x∈m.files.map (·.name):=by rw[<- yt (k:=x),VQ];cases ff m x<;>simp
theorem APc {s:A2L}(h:(dr s 0 != (116:Int))=false)(l:2<=s.size):(bl s).head? =some 116:=by
 have d:bl s=s.data.toList:=rfl;have a:=Ay s;cases b:bl s with
 |nil=>rw[b] at a;simp at a;omega
 |cons c n=>
  have e:dr s 0=116:=by simpa using h
  have f:s.data.toList[0]? =some c:=by rw[<- d,b];rfl
  have o:(c.toNat:Int)=116:=by have:=Nu (i:=0) f;rw[<- e];exact this.symm
  have j:c.toNat=116:=by omega
  have:c=116:=by apply UInt8.toNat_inj.1;rw[j];rfl
  rw[this];rfl
theorem AOC {N:Nat}(a2:bZ g)(E:bM g h q k st m)(hd:m.down=false)(aC:BK (ff m) D)(a3:(Ap D).names=st.ts.map (·.1))(bB:N<=99999999)(a4: ∀b,ff m (aX b)≠none->b<N)(a5:st.next<=N)(bC:st.ts.length<=100000)(a6:m.files.length<=8000000000000)
  (a7:m.fuel≠ -1-> ∀h' S' n,Cw h' q.b S' n->n.down=true->Mod (λc=>k c≠0) h h'->(∀ c,S' c->k c≠0\/h.size<=c)->BK (ff n) D->(∀ e,(∀ b,e≠aX b)->ff n e=ff m e)->(∀ b,ff n (aX b)≠none->ff m (aX b)≠none)->bj n.files<=bj m.files->R (J6 J9 30) h')
  (a8: ∀h' S' aE n ac,bM g h' {q with Sb:=S'} aE {st with next:=ac} n->JU m n->BK (ff n) D->(∀ e,(∀ b,e≠aX b)->ff n e=ff m e)->(∀ b,ff n (aX b)≠none->b∈st.ts.map (·.1))->st.next<=ac->ac<=N->bj n.files<=bj m.files->
   Mod (λc=>k c≠0) h h'->(∀ c,aE c≠0->k c≠0\/h.size<=c)->R (J6 J9 0) h'):AA A P Oq #[Am q.d] h R:=by
 refine ABA ?_;unfold UC;refine aD (AX.mk (AO E.cell rfl) ?_);refine vQ E.box λad r ah S a9=>⟨ad,_,rfl,?_⟩
 have ba:jX m=(m.files.map (·.name),0):=by unfold jX;rw[if_neg (by simp[hd])]
 rw[ba] at ah ⊢;refine af.no rfl ?_;dsimp only at ah;have bb:=yu E.box.aS;have aj:=λx=>AQ4 (m:=m) (x:=x)
 have bD:(m.files.map (·.name)).length<=8000000000000:=by simpa using a6
 generalize m.files.map (·.name)=d at*
 have bc:=E.on S;have bE:=S.size;have v1:=ah.view;refine Loop.rule (λaF x u=> ∃(i:Nat) (H:Nat->Prop) (v:Nat->Nat) (l:Bx) (next:Nat),x=((i:Int),())/\aF=d.length-i/\i<=d.length/\bM g u {q with Sb:=H} v {st with next:=next} l/\JU m l/\BK (ff l) D/\(∀ e,(∀ b,e≠aX b)->ff l e=ff m e)/\(∀ e,e∉d.take i->ff l e=ff m e)/\
   (∀ b,aX b∈d.take i->b∉st.ts.map (·.1)->ff l (aX b)=none)/\(∀ b,ff l (aX b)≠none->ff m (aX b)≠none)/\st.next<=next/\next<=N/\bj l.files<=bj m.files/\Mod (λc=>k c≠0) r u/\Grow k v r.size) ?_
  ⟨0,q.Sb,k,m,st.next,rfl,rfl,AD _,bc,JU.refl hd,aC,λ_ _=>rfl,λ_ _=>rfl,by simp,λ_ h=>h,A0 _,a5,A0 _,Mod.refl,Grow.refl⟩
 rintro K aF _ u ⟨i,H,v,l,next,rfl,rfl,bF,I,J,T,U,aR,V,sub,aG,aH,W,L,M⟩ aI;dsimp only;have bG:=L.size;have aJ: ∀c,v c≠0->k c≠0\/h.size<=c:=λc f=>by
  by_cases ak:c<r.size
  ·rw[M c ak] at f;exact .inl f
  ·exact .inr (by omega)
 have bd: ∀c,ad.ah=some c->k c=0:=λc f=>Decidable.byContradiction λh=>by
  have:=(E.own c h).2;have:=a9 c f;omega
 have be:View IY u ad d:=v1.mod L λc f al=>al (bd c f)
 rw[v1.len];refine af.intro (λam=>?_) (λam=>?_)
 ·have B:i<d.length:=by have:=of_decide_eq_true am;omega
  have ag:d[i]? =some d[i]:=A2 B;have aK:d[i]∈d:=AW B;have X:d.take (i+1)=d.take i++ [d[i]]:=by rw[As,ag];rfl
  have bf:d[i]∉d.take i:=λt=>by
   obtain⟨j,bg,o⟩:=Ds t;have bH:j<i:=by have:=bg;simp at this;omega
   rw[List.getElem_take] at o;have:=(LN (h₀:=by omega) (h₁:=B) bb).1 o;omega
  rw[Ae (by omega)];refine ai.mk λbh aL=>?_
  rw[<- v1.len];refine be.idx ag λa _ c=>AJ.mk c.str ?_
  have skip: ∀O Y,bM g O {q with Sb:=H} Y {st with next:=next} l->Mod (λc=>k c≠0) r O->Grow k Y r.size->(∀ b,d[i]=aX b->b∈st.ts.map (·.1))->bh () O:=λO Y Z an bi ao=>aL _ _ (by
   refine aI (d.length-(i+1)) _ _ (by omega) ⟨i+1,H,Y,l,next,rfl,rfl,B,Z,J,T,U,λe w=>aR e λt=>w (by rw[X];exact List.mem_append.2 (.inl t)),λb y aa=>?_,sub,aG,aH,W,an,bi⟩;rw[X] at y;rcases List.mem_append.1 y with y|y
   ·exact V b y aa
   ·exact absurd (ao b (List.mem_singleton.1 y).symm) aa)
  refine ai.mk λbk aM=>?_
  have aN:(∀ b,d[i]≠aX b)->bk (true,()) u:=λao=>aM _ _ (af.yes rfl (skip u v I L M λb o=>absurd o (ao b)))
  have bm: ∀b,2<=(aX b).size:=λb=>by
   have r:=Ay (aX b);rw[XL] at r;have ap:=Lib.nDigits_pos b;have F:=Lib.decDigits_length b;rw[A5] at r;omega
  refine af.intro (λaq=>?_) (λaq=>?_)
  ·have ap:=of_decide_eq_true aq;exact aN λb o=>by have:=bm b;rw[<- o] at this;omega
  ·have ap:2<=d[i].size:=by have:=of_decide_eq_false aq;omega
   refine⟨⟨GP _,by omega⟩,?_⟩;cases ar:(dr d[i] 0 != (116:Int)) with
   |true=>
    refine aN λb o=>?_
    have:dr d[i] 0=116:=by
     rw[o];have:=Nu (s:=aX b) (i:=0) (c:=116) (by
      have F:=XL b;show(bl (aX b))[0]? =_;rw[F];rfl)
     exact this
    rw[this] at ar;cases ar
   |false=>
    obtain⟨b,z⟩:=aC.dx d[i] ((aj _).2 aK) (APc ar ap);have aO:ff m (aX b)≠none:=by rw[<- z];exact(aj _).2 aK
    have bI:=a4 b aO;refine aM _ _ (af.no rfl ⟨⟨by omega,by omega⟩,?_⟩);have bn:d[i].extract ((1:Int).toNat) d[i].size=AY (Lib.decDigits b):=by rw[show(1:Int).toNat=1 from rfl,rh,z];have:(aX b).data.toList=116::Lib.decDigits b:=XL b;rw[this];rfl
    rw[bn];refine AQj (by omega) λO au=>⟨_,_,rfl,?_⟩
    have Z:=I.on au;have an:=L.trans (Ext.mod au);refine ai.mk λbK aP=>⟨trivial,af.yes rfl ?_⟩
    refine Qb (Z.hZ a2) (by omega) λaQ av=>⟨_,rfl,?_⟩
    have G:=Z.on av;have aS:=an.trans (Ext.mod av);have bo:bO (aX b) d[i]=true:=by rw[z,Bw];exact decide_eq_true rfl
    rw[bo];refine af.yes rfl (aD (AZ.mk (s:=q.np) (AB G.cell rfl) ?_));refine AIU G.names.view (by simp[eB];omega) ⟨_,rfl,?_⟩;have aT:((b:Int)∈eB ({st with next:=next}:Db))↔b∈st.ts.map (·.1):=by
     simp only[eB,List.mem_map];constructor
     ·rintro⟨p,aw,o⟩;exact⟨p,aw,by omega⟩
     ·rintro⟨p,aw,o⟩;exact⟨p,aw,by omega⟩
    by_cases t:b∈st.ts.map (·.1)
    ·rw[decide_eq_true (aT.2 t)];exact aP _ _ (af.no rfl (skip aQ v G aS M λab o=>by rw[z] at o;rw[<- JV o];exact t))
    rw[decide_eq_false λh=>t (aT.1 h)];refine aP _ _ (af.yes rfl ?_);refine aD (AX.mk (AO G.cell rfl) ?_);have bp:(ff l (aX b)).isSome=true:=by
     rw[aR (aX b) (by rw[<- z];exact bf)];cases bq:ff m (aX b) with
     |none=>exact absurd bq aO
     |some p=>rfl
    rw[z];refine XK G.box λaU ax ay aV aW=>⟨_,rfl,?_⟩
    have aY:Mod (λc=>k c≠0) r aU:=aS.then (aV.aj λc _ f=>by
     have aZ:v c≠0:=by rw[I.kb c f];decide
     by_cases ak:c<r.size
     ·rw[M c ak] at aZ;exact .inl aZ
     ·exact .inr (by omega))
    have bL:=(au.trans av).size;rcases RL (k:=aX b) J.up bp with⟨br,az⟩|⟨az,bs,Q⟩
    ·rw[az] at ay ⊢;refine af.yes rfl ?_;refine a7 (λu=>by have:=J.calm u;rw[br] at this;cases this) aU ax (NN l) ay rfl ((Ext.mod S).trans aY) (λc f=>?_) T U sub W;exact aJ c (by
      have:=I.kb c (aW c f);rw[this];decide)
    ·rw[az];refine af.no rfl ?_;have aA:=G.boxed (j:=2) (bJ:= {st with next:=next}) ay (aV.aj λc _ f=> .inl f) (λc f=> .inl (aW c f)) rfl rfl rfl rfl (.inl ⟨by decide,rfl,rfl⟩) (.inl ⟨by decide,rfl⟩);refine aD (AC.mk (AB aA.cell rfl) ?_);have bt:J8 J9 ((b:Int)+(1:Int))=((b+1:Nat):Int):=Ae (by omega);rw[bt];have bu:(if(((b+1:Nat):Int):Int)>((next:Nat):Int) then((b+1:Nat):Int) else((next:Nat):Int))=((max (b+1) next:Nat):Int):=by split<;>omega
     refine aD (ae.dq aA.cell (by simp) λbv a0 a1 bN=>?_);rw[bu] at a0;have bw:=aA.jF (h':=bv) (next:=max (b+1) next) (by simpa [eA] using a0) a1;have bx:Grow k (Li v aQ.size ax 2) r.size:=λc f=>by rw[GL (by omega)];exact M c f
     have bz:=Zi (m:=l) (aX b);refine aL _ _ ?_;refine aI (d.length-(i+1)) _ _ (by omega) ⟨i+1,ax,_,_,max (b+1) next,rfl,rfl,B,bw,J.trans bs,?_,λe w=>?_,λe w=>?_,λab C aa=>?_,λab C=>?_,by omega,by omega,AE bz W,?_,bx⟩
     ·refine T.fW λx bA=>?_
      rw[Q,if_neg (bA b (by rw[a3];exact t))]
     ·rw[Q,if_neg (w b)];exact U e w
     ·rw[X] at w;simp only[HS,HL,not_or] at w;rw[Q,if_neg (by rw[<- z];exact w.2)];exact aR e w.1
     ·rw[Q];split
      ·rfl
      ·rename_i al;rw[X] at C;rcases List.mem_append.1 C with F|F
       ·exact V ab F aa
       ·exact absurd ((List.mem_singleton.1 F).trans z) al
     ·rw[Q] at C;split at C
      ·exact absurd rfl C
      ·exact sub ab C
     ·refine aY.trans (a1.aj λc _ f=>?_);have:c=q.d:=f;rw[this,E.kd];decide
 ·have B:i=d.length:=by have:=of_decide_eq_false am;omega
  subst B;rw[BT] at aR V;refine a8 u H v l next I J T U (λb y=>?_) aG aH W ((Ext.mod S).trans L) aJ
  by_cases t:b∈st.ts.map (·.1)
  ·exact t
  ·exact absurd (V b ((aj _).1 (sub b y)) t) y
end
theorem AN4 {f:Type}{c:Nat->List f}{l:List Nat}{d:Nat}(g:l.Pairwise (· < ·))(h: ∀a∈l,a<d)(i: ∀a,a<d->a∉l->c a= []):(List.range d).flatMap c=l.flatMap c:=by
 have j:l=(List.range d).filter λa=>decide (a∈l):=by
  refine wh g (List.pairwise_lt_range.sublist G4) λa=>?_
  simp only[List.mem_filter,Lz,decide_eq_true_eq];exact⟨λb=>⟨h a b,b⟩,λb=>b.2⟩
 have key: ∀L:List Nat,(∀ a∈L,a<d)->L.flatMap c=(L.filter λa=>decide (a∈l)).flatMap c:=by
  intro L
  induction L with
  |nil=>intro _;rfl
  |cons a L k=>
   intro e;rw[AH,AS,k λm n=>e m (AG _ n)];by_cases b:a∈l
   ·rw[if_pos (by simpa using b),AH]
   ·rw[if_neg (by simpa using b),i a (e a (by simp)) b,CM]
 rw[key _ λa o=>List.mem_range.1 o,<-j]
theorem AOx {l:List Nat}(e:l.Pairwise (· < ·)){a:Nat}(d:a∈l):a<=l.getLast?.getD 0:=by
 cases b:l.getLast? with
 |none=>
  rw[List.getLast?_eq_none_iff] at b;subst b;cases d
 |some x=>
  show a<=x;obtain⟨f,rfl⟩:=List.getLast?_eq_some_iff.1 b;rcases List.mem_append.1 d with c|c
  ·exact Nat.le_of_lt ((List.pairwise_append.1 e).2.2 a c x (by simp))
  ·rw[List.mem_singleton.1 c];exact A0 _
theorem X7 {m:Bx}{b:A2L}{e:Nat}{g:Nat->List (List UInt8)}{l:List Nat}(hd:m.down=false)(n:gu (ff m) b e g)(j:mw b m l)(y:1<=e/\e<=99999999):
  Sv b m l=((List.range e).flatMap g).map AY/\l.getLast?.getD 0+1<=e/\(∀ a,l.getLast?.getD 0+1<=a->a<=99999999->ff m (aC b a)=none):=by
 have o: ∀a,1<=a->a<=99999999->(a∈l↔ff m (aC b a)≠none):=λa h c=>by
  rw[j.mem,VQ];constructor
  ·rintro⟨_,_,d⟩ r;rw[r] at d;cases d
  ·intro d;refine⟨h,c,?_⟩;cases i:ff m (aC b a) with
   |none=>exact absurd i d
   |some p=>rfl
 have q: ∀a∈l,a<e:=λa f=>by
  obtain⟨h,c,_⟩:=(j.mem a).1 f;have k:=(o a h c).1 f;exact Decidable.byContradiction λd=>k (n.out a (by omega) c)
 have k:Sv b m l=l.flatMap λa=>(g a).map AY:=AQq hd λa f=>by
  obtain⟨h,c,_⟩:=(j.mem a).1 f;have k:=(o a h c).1 f;cases i:ff m (aC b a) with
  |none=>exact absurd i k
  |some p=>
   obtain⟨s,t⟩:=n.has a p h c i;refine⟨p,rfl,?_⟩;rw[s,Ya,AT];have:(g a).map (bl∘AY)=g a:=by
    conv=>rhs;rw[<- Kx (g a)]
    exact CA λx _=>EN x
   rw[this];exact t
 refine⟨?_,?_,λa f c=>?_⟩
 ·rw[k,Lo];refine(AN4 j.inc q λa f u=>?_).symm;by_cases v:a=0
  ·rw[n.lq a (.inl v)];rfl
  ·have i:ff m (aC b a)=none:=Decidable.byContradiction λd=>u ((o a (by omega) (by omega)).2 d)
   rw[n.ir a (by omega) (by omega) i];rfl
 ·cases w:l.getLast? with
  |none=>show 0+1<=e;omega
  |some x=>
   have:=q x (T4 w);show x+1<=e;omega
 ·exact Decidable.byContradiction λd=>by
   have:=AOx j.inc ((o a (by omega) c).2 d);omega
open Classical in
noncomputable def kM (Sb:Nat->Prop) (a nt ft b d:Nat) (tp np:Sl) (e T:Nat->Prop):Nat->Nat:=λc=>
 if Sb c then 2 else if c<a then 0 else if c=nt then 4 else if c=ft then 5 else if c=b then 1 else if c=d then 3 else if tp.ah=some c then 6 else if np.ah=some c then 7 else if e c then 5 else if T c then 8 else 0
theorem zk {Sb:Nat->Prop}{d nt ft e f:Nat}{tp np:Sl}{g T:Nat->Prop}{c:Nat}(h:kM Sb d nt ft e f tp np g T c≠0):Sb c\/(d<=c/\(c=nt\/c=ft\/c=e\/c=f\/tp.ah=some c\/np.ah=some c\/g c\/T c)):=by
 by_cases a:Sb c
 ·exact .inl a
 by_cases b:c<d
 ·exact absurd (by unfold kM;rw[if_neg a,if_pos b]) h
 refine .inr ⟨by omega,Classical.byContradiction λi=>h ?_⟩;simp only[not_or] at i;obtain⟨j,k,l,m,n,o,p,q⟩:=i;unfold kM;rw[if_neg a,if_neg b,if_neg j,if_neg k,if_neg l,if_neg m,if_neg n,if_neg o,if_neg p,if_neg q]
theorem bM.make {g h:aa}{q:Hp}{st:Db}{m:Bx}{N0 NB NC ND:Nat}(cell:h[q.d]? =some (J2 (eA q st false) FL (0,0)))(n:Cw h q.b q.Sb m)(o:ES h q.lg q.b nl st.aw st.bq)(r:ES h q.nt q.b nn st.aK false)(fresh:M.cT h q.ft q.ns st.fr)
  (s:Own fL BL h q.tp q.ps) (y:q.ps.length=st.ts.length) (names:Own IM Bp h q.np (eB st)) (ext:Ext g h) (I:g.size<=N0) (u: ∀c,q.Sb c->g.size<=c/\c<N0)
  (J:N0<=q.nt) (K:q.nt<q.ft) (L:q.ft<q.d) (N:q.d<NB) (O:NB<=NC) (P:NC<=q.lg) (Q:q.lg<ND) (k: ∀c,q.np.ah=some c->q.d<c/\c<NB) (l: ∀c,q.tp.ah=some c->NB<=c/\c<NC) (v: ∀c,M.cQ q.ft q.ns c->c=q.ft\/ND<=c)
  (z: ∀(i:Nat) (t:Nat) (p:Nat×List Pr),q.ps[i]? =some t->st.ts[i]? =some p-> ∃e f,bR h t p.2 (NA p.2) e f/\NB<=e/\f<=NC/\(∀ c,q.tp.ah=some c-> ¬(e<=c/\c<f))/\G7 p.2) (R:NC<=h.size):
  ∃w,bM g h q w st m/\ ∀c,w c≠0->q.Sb c\/N0<=c:=by
 let T:Nat->Prop:=λc=>(NB<=c/\c<NC)/\q.tp.ah≠some c
 have d: ∀c,N0<=c-> ¬q.Sb c:=λc b j=>by have:=(u c j).2;omega
 refine⟨kM q.Sb N0 q.nt q.ft q.d q.lg q.tp q.np (M.cQ q.ft q.ns) T,⟨cell,n,o,r,fresh,s,y,λi t p A B=>?_,names,?_,λc b=>?_,?_,?_,λc b=>?_,λc b=>?_,λc b=>?_,λc b=>?_,ext⟩,λc b=>?_⟩
 ·obtain⟨e,f,C,S,U,D,E⟩:=z i t p A B;refine⟨e,f,C,by omega,λc F c2=>?_,E⟩;have x:T c:=⟨⟨by omega,by omega⟩,λa=>D c a ⟨F,c2⟩⟩;have G: ¬M.cQ q.ft q.ns c:=λH=>by rcases v c H with h|h<;>omega
  unfold kM;rw[if_neg (d c (by omega)),if_neg (by omega),if_neg (by omega),if_neg (by omega),if_neg (by omega),if_neg (by omega),if_neg x.2,if_neg (λa=>by have:=k c a;omega),if_neg G,if_pos x]
 ·unfold kM;rw[if_neg (d _ (by omega)),if_neg (by omega),if_neg (by omega),if_neg (by omega),if_pos rfl]
 ·unfold kM;rw[if_pos b]
 ·unfold kM;rw[if_neg (d _ (by omega)),if_neg (by omega),if_neg (by omega),if_neg (by omega),if_neg (by omega),if_pos rfl]
 ·unfold kM;rw[if_neg (d _ (by omega)),if_neg (by omega),if_pos rfl]
 ·unfold kM;rcases v c b with rfl|h
  ·rw[if_neg (d _ (by omega)),if_neg (by omega),if_neg (by omega),if_pos rfl]
  ·rw[if_neg (d c (by omega)),if_neg (by omega),if_neg (by omega),if_neg (by omega),if_neg (by omega),if_neg (by omega),if_neg (λa=>by have:=l c a;omega),if_neg (λa=>by have:=k c a;omega),if_pos b]
 ·have:=l c b;unfold kM;rw[if_neg (d c (by omega)),if_neg (by omega),if_neg (by omega),if_neg (by omega),if_neg (by omega),if_neg (by omega),if_pos b]
 ·have:=k c b;unfold kM;rw[if_neg (d c (by omega)),if_neg (by omega),if_neg (by omega),if_neg (by omega),if_neg (by omega),if_neg (by omega),if_neg (λa=>by have:=l c a;omega),if_pos b]
 ·rcases zk b with j|⟨V,a|a|a|a|a|a|a|a⟩
  ·exact⟨(u c j).1,n.lt j⟩
  ·exact⟨by omega,by rw[a];exact Ai r⟩
  ·exact⟨by omega,by rw[a];exact fresh.lt (.inl rfl)⟩
  ·exact⟨by omega,by rw[a];exact Ai cell⟩
  ·exact⟨by omega,by rw[a];exact Ai o⟩
  ·exact⟨by omega,s.lt a⟩
  ·exact⟨by omega,names.lt a⟩
  ·exact⟨by omega,fresh.lt a⟩
  ·exact⟨by omega,by have:=a.1.2;omega⟩
 ·exact(zk b).imp id λh=>h.1
def KJ(D:Bq):List (Nat×List Pr):=(List.range D.aP).flatMap λa=>(D.L a).map λb=>(a,b)
def PM(f:Nat)(l:List (Nat×List Pr)):List (List Pr):=(l.filter λp=>decide (f<=p.1)).map (·.2)
theorem Yu(f:Nat)(a b:List (Nat×List Pr)):PM f (a++b)=PM f a++PM f b:=by simp[PM]
theorem zl(D:Bq):PM (Ap D).aV (KJ D)=IU D:=by
 unfold KJ IU;have key: ∀L:List Nat,PM (Ap D).aV (L.flatMap λa=>(D.L a).map λb=>(a,b))=L.flatMap λa=>if a<(Ap D).aV then [] else D.L a:=by
  intro L
  induction L with
  |nil=>rfl
  |cons a L d=>
   rw[AH,AH,Yu,d];congr 1;unfold PM;rw[OS];split
   ·rename_i h;have:(λb:List Pr=>decide ((Ap D).aV<=((a,b):Nat×List Pr).1))=λ_=>false:=by funext b;simp;omega
    simp[FG];omega
   ·rename_i h;simp[FG];intro b _;omega
 exact key _
theorem ARy {d:bQ}{D:Bq}(h:BK d D): ∀p∈KJ D,p.1<=99999999/\YW p.2:=λp e=>by
 obtain⟨a,f,i⟩:=List.mem_flatMap.1 e;obtain⟨b,j,rfl⟩:=List.mem_map.1 i;have:=List.mem_range.1 f;have:=h.cC;exact⟨by show a<=_;omega,h.gk a b j⟩
theorem ANo(D:Bq):((List.range D.aP).flatMap λa=>(D.L a).map (BV a)).map AY=(KJ D).map λp=>AY (BV p.1 p.2):=by
 unfold KJ;rw[Lo,Lo];unfold List.flatMap;congr 1;refine CA λa _=>?_
 rw[AT,AT];rfl
theorem ARY {f:Nat}{l:List (Nat×List Pr)}(i:Nat):(PM f (l.take i)).flatten.length<=(PM f l).flatten.length:=by
 conv=>rhs;rw[<- DA i l,Yu,No,A1]
 omega
theorem AKR(D:Bq):((List.range D.aW).flatMap λa=>(D.N a).map EG).map AY=(NT D).map λx=>AY (EG x):=by unfold NT;rw[Lo,Lo];unfold List.flatMap;congr 1;exact CA λa _=>by rw[AT];rfl
theorem View.modn {e:Type}{d:cD e}{h f:aa}{s:Sl}{l:List e}{j:Nat->Prop}(v:View d h s l)(m:Mod j h f)(o: ∀c,s.ah=some c->c<h.size-> ¬j c):View d f s l:=by refine⟨v.len,v.cap,λi x p=>?_⟩;obtain⟨a,k,n⟩:=v.cells i x p;refine⟨a,k,n.mod m ?_⟩;have r:=d.pos;have t:=d.len x;obtain⟨u,q⟩: ∃u,(d.enc x)[0]? =some u:=⟨_,A2 (by omega)⟩;have:=VI (n 0 u q);rw[aU,aU] at this;rw[aU];exact o _ (by simp[Sl.ah,k]) this
section
variable {A : aq} {B : cH} {g h : aa} {b : Nat} {Sb : Nat -> Prop} {m : Bx} {D : Bq} {aI c : Nat} {R : A2K}
theorem AN6(E:bZ g)(aG:Cw h b Sb m)(Q:Ext g h)(b9: ∀c,Sb c->g.size<=c)(hd:m.down=false)(ab:BK (ff m) D)(C:jh (ff m) D aI c)(d:c<=B.C)(hA:aI+1<=B.A)(bo:bj m.files<=B.W0+aI*B.K)
  (dj:m.fuel≠ -1-> ∀ah dk S' aj,Cw ah b S' aj->aj.down=true->Mod Sb h ah->(∀ c,S' c->Sb c\/h.size<=c)->ky (ff aj) (aI+1) c (cz D)->(∀ w,¬dc w->ff aj w=ff m w)->bj aj.files<=B.W0+(aI+1)*B.K->R (J1 #[Am dk,J6 J9 30]) ah)
  (dl: ∀ah bp ca cb aj dm,bp.b=b->Bv B g ah bp ca cb aj dm (aI+1) c->JU m aj->Co cb=cz D->(∀ w,¬dc w->ff aj w=ff m w)->Mod Sb h ah->(∀ c,ca c≠0->Sb c\/h.size<=c)->R (J1 #[Am bp.d,J6 J9 0]) ah):
  AA A P R6 #[Am b] h R:=by
 have fb:=B.hA;have fc:=B.hC;have cc:=AE bo (B.wt (a:=aI) (by omega));have ax:=ab.cC;have S:=z6 ab;have fd:=C.aP;have fe:=C.aW;have fg:=C.aV;have dn:=C.next;have fh:=C.cn;have ak: ∀c,Sb c->c<h.size:=λc d=>aG.lt d
 refine AIR ?_;unfold uL;refine yA (E.ext Q) aG hd (by decide) (by decide) cc (λah l aV dp _=>?_) λj l nt sl aV dp cd ce cf v1 fi=>⟨_,_,_,rfl,af.no rfl ?_⟩
 ·obtain⟨_,dq,_⟩:=X7 hd ab.note aV ax.2.2;omega
 obtain⟨cg,dq,dr⟩:=X7 hd ab.note aV ax.2.2;rw[AKR] at cg;have bq:=rA (nm:=nn) (m:=m) hd aV.inc;rw[cg] at v1 bq;have ds:1<=l.getLast?.getD 0+1:=by omega
 generalize l.getLast?.getD 0+1=aK at*
 refine M.sr λo dt br fj=>⟨_,rfl,ao.mk λI _ ch aW fk=>?_⟩
 have ci:=cd.trans br;have cj:=ci.trans aW;have du:nt<j.size:=Ai cf;have ck:ES I nt b nn aK false:=ES.ext (ES.ext cf br) aW;have cl:M.cT I j.size [] []:=dt.ext aW;have cm:=(v1.ext br).ext aW;have fl:=cd.size;refine ai.mk λK dv=>?_
 have bs: ∀(hB:aa) (np:Sl),Ext h hB->hB[o.size]? =some (J2 #[Am b,J5 none,Am nt,Am j.size,J4 none 0 0,J4 np.p np.len np.cap,J6 J9 ((Ap D).next:Int),J6 J9 ((Ap D).aV:Int),J3 false] FL (0,0))->
   Own IM Bp hB np ((Ap D).names.map λn:Nat=>(n:Int))->(∀ c,np.ah=some c->o.size<c)->ES hB nt b nn aK false->M.cT hB j.size [] []->K () hB:=by
  intro hB np aY aH ap ac dw dx;refine dv _ _ ?_;have fm:=aY.size;have fn:=E.ext (Q.trans aY);have dy:o.size<hB.size:=Ai aH;have fo:h.size<=o.size:=ci.size;refine AZ.mk (s:=np) (AB aH rfl) ?_;have cn:np.len=(Ap D).names.length:=by rw[ap.len];simp
  refine Loop.rule (λF x k=> ∃(i:Nat) (tp:Sl) (ps:List Nat),x=((i:Int),())/\F=(Ap D).names.length-i/\i<=(Ap D).names.length/\Mod (λc=>c=o.size\/hB.size<=c) hB k/\
    k[o.size]? =some (J2 #[Am b,J5 none,Am nt,Am j.size,J4 tp.p tp.len tp.cap,J4 np.p np.len np.cap,J6 J9 ((Ap D).next:Int),J6 J9 ((Ap D).aV:Int),J3 false] FL (0,0))/\
    Own fL BL k tp ps/\ps.length=i/\(∀ c,tp.ah=some c->hB.size<=c)/\ ∀(r t n:Nat),ps[r]? =some t->(Ap D).names[r]? =some n-> ∃T U,bR k t (D.T n) (NA (D.T n)) T U/\hB.size<=T/\U<=k.size/\ ∀c,tp.ah=some c-> ¬(T<=c/\c<U)) ?_
   ⟨0,⟨none,0,0⟩,[],rfl,rfl,AD _,Mod.refl,aH,Own.nil,rfl,λc d=>by simp[Sl.ah] at d,λr t n e=>by simp at e⟩
  rintro fp F _ k ⟨i,tp,ps,rfl,rfl,U,J,aq,an,bt,ar,co⟩ cp;dsimp only;have cq:=J.size;have V:Ext h k:=aY.then (J.aj λc _ d=>by omega);have dz:View IM k np ((Ap D).names.map λn:Nat=>(n:Int)):=ap.view.mod J λc d e=>by
   have:=ac c d;have:=ap.lt d;omega
  rw[cn];refine af.intro (λu=>?_) (λu=>?_)
  ·have v:i<(Ap D).names.length:=by have:=of_decide_eq_true u;omega
   have ag:(Ap D).names[i]? =some (Ap D).names[i]:=A2 v;have cr:(Ap D).names[i]∈(Ap D).names:=AW v;have fq:=S.below _ cr;have fr:=S.next;have fs:=S.cn;obtain⟨dA,dB⟩:=ab.cN _ cr;rw[<- cn];refine dz.idx (i:=i) (x:=((Ap D).names[i]:Int)) (by rw[C2,ag];rfl) λa _ au=>AC.mk au.int ?_
   generalize (Ap D).names[i]=nm at*
   refine Qb (E.ext (Q.trans V)) (by omega) λaZ bu=>⟨_,rfl,?_⟩
   refine p8 (aG.ext (V.trans bu)) ⟨_,_,rfl,?_⟩;rw[qP hd,dA];dsimp only;rw[Ya];refine af.no rfl ?_;refine yR dB.eL λa0 t cs dC=>⟨_,_,rfl,af.no rfl ?_⟩
   have a1:=bu.trans cs;have ct:=Ao a1 aq;refine AZ.mk (s:=tp) (AB ct rfl) ?_;have ft:=bu.size;have fu:=cs.size;refine ao.aY (E:=fL) (x:=t) (s:=tp) (l:=ps) rfl vR (an.ext a1) (by omega) (by simp[maxLen];omega) λaJ fv dD aL bv _=>?_
   have dE:=aL.ah ct (λe=>by have:=ar _ e;omega);refine ae.dq dE (by simp) λfw dF a2 fx=>?_
   rw[Ae (by omega)];have cu: ∀c,aJ.ah=some c->hB.size<=c:=λc d=>by
    rcases bv c d with h|h
    ·exact ar c h
    ·omega
   have fy:=aL.size;refine cp ((Ap D).names.length-(i+1)) _ _ (by omega) ⟨i+1,aJ,ps++ [t],rfl,rfl,v,?_,by simpa using dF,dD.mod a2 (λc d e=>by have:=cu c d;omega),by simp[bt],cu,λr t' n ad W=>?_⟩
   ·exact(J.trans (Ext.mod a1)).trans ((aL.aj λc _ d=> .inr (ar c d)).trans (a2.aj λc _ d=> .inl d))
   ·by_cases cv:r<ps.length
    ·rw[GB cv] at ad;obtain⟨T,bw,bx,bz,cw,a3⟩:=co r t' n ad W;refine⟨T,bw,((bx.ext a1).mod aL λc al c2 d=>a3 c d ⟨al,c2⟩).mod a2 (λc al c2 d=>by omega),bz,by omega,λc d cx=>?_⟩;rcases bv c d with h|h
     ·exact a3 c h cx
     ·omega
    ·have dG:r=ps.length:=by have:=(List.getElem?_eq_some_iff.1 ad).1;simp at this;omega
     subst dG;rw[Fk (A0 _)] at ad;simp at ad;subst ad;rw[bt,ag] at W;cases W;refine⟨aZ.size,a0.size,(dC.mod aL λc al c2 d=>by have:=an.lt d;omega).mod a2 (λc al c2 d=>by omega),by omega,by omega,λc d cx=>?_⟩;rcases bv c d with h|h
     ·have:=an.lt h;omega
     ·omega
  have v:i=(Ap D).names.length:=by have:=of_decide_eq_false u;omega
  clear cp U u;have dH:ES k nt b nn aK false:=dw.mod J (by omega);have dI:M.cT k j.size [] []:=dx.mod J λc d e=>by
   rcases d with rfl|⟨w,y,_⟩
   ·omega
   ·cases y
  refine yA (E.ext (Q.trans V)) (aG.ext V) hd (by decide) (by decide) cc (λah bA a4 dJ _=>?_) λdK bA X bB a4 dJ ay dL cy cB bC=>⟨_,_,_,rfl,af.no rfl ?_⟩
  ·obtain⟨_,dM,_⟩:=X7 hd ab.log a4 ⟨ax.1,ax.2.1⟩;omega
  obtain⟨cC,dM,dN⟩:=X7 hd ab.log a4 ⟨ax.1,ax.2.1⟩;rw[ANo] at cC;have cD:=rA (nm:=nl) (m:=m) hd a4.inc;rw[cC] at cB cD;have fz:1<=bA.getLast?.getD 0+1:=by omega
  generalize bA.getLast?.getD 0+1=a5 at*
  have dO:=Ao ay aq;have fA:X<dK.size:=Ai cy;refine ae.dq dO (by simp) λaM dP av fB=>?_
  have fC:=ay.size;have fE:o.size<k.size:=Ai aq;have dQ:ES aM X b nl a5 false:=ES.mod cy av (by omega);have dR:Cw aM b Sb m:=((aG.ext V).ext ay).mod av λc d e=>by have:=ak c d;omega
  have dS: ¬Sb X:=λd=>by have:=ak _ d;have:=V.size;omega
  have a6:Ext h aM:=(V.trans ay).then (av.aj λc _ d=> .inr (by omega));have fF:=av.size;refine Loop.rule (λF (_:Unit) Q=> ∃s:Nat,F=(Ap D).aV-s/\ES Q X b nl s false/\Cw Q b Sb m/\Mod (λc=>Sb c\/c=X) aM Q/\a5<=s/\(s=a5\/s<=(Ap D).aV)) ?_ ⟨a5,rfl,dQ,dR,Mod.refl,A0 _,.inl rfl⟩;rintro fG F _ H ⟨s,rfl,bD,cE,Y,fH,fI⟩ cF;have fJ:=S.aV;have az:=Y.ah dP (by rintro(h|h);have:=ak _ h;omega;omega);have cG:Ext g H:=(Q.trans a6).then (Y.aj λc _ d=>by
   rcases d with d|rfl
   ·exact .inr (b9 c d)
   ·exact .inr (by have:=Q.size;have:=V.size;omega))
  have dT:bZ H:=E.ext cG;refine AX.mk (AB az rfl) (AC.mk (AB az rfl) ?_);refine Oc ?_;unfold Le;refine af.no rfl (aD (AC.mk (AB bD rfl) ⟨_,rfl,?_⟩));refine⟨AB az rfl,?_⟩;refine af.intro (λbE=>?_) (λbE=>?_)
  ·have bF:=of_decide_eq_true bE;refine AX.mk (AB az rfl) ?_;refine Wy dT bD cE dS (by decide) (by omega) (λbG=>absurd rfl bG) λ_ fK dU dV dW=>⟨_,_,rfl,af.no rfl ?_⟩
   exact cF ((Ap D).aV-(s+1)) _ _ (by omega) ⟨s+1,rfl,dV,dU,Y.trans dW,by omega,.inr (by omega)⟩
  have dX:(Ap D).aV<=s:=by have:=of_decide_eq_false bE;omega
  clear cF;have fM:=Y.size;have cH:View IY H bB ((KJ D).map λp=>AY (BV p.1 p.2)):=(cB.mod av λc d e=>by have:=(bC c d).1;omega).mod Y λc d e=>by
   have j:=bC c d;rcases e with e|e
   ·have:=ak c e;have:=V.size;omega
   ·exact j.2 e
  have dY: ∀c,bB.ah=some c->k.size<=c:=λc d=>(bC c d).1
  have dZ:M.cT H j.size [] []:=((dI.ext ay).mod av λc d e=>by
   rcases d with rfl|⟨w,y,_⟩
   ·omega
   ·cases y).mod Y λc d e=>by
   rcases d with rfl|⟨w,y,_⟩
   ·rcases e with e|e
    ·have:=ak _ e;omega
    ·have:=V.size;omega
   ·cases y
  have cI:bB.len=(KJ D).length:=by rw[cH.len];simp
  have d0:=ARy ab;have d1:=C.bX;have fO:(PM (Ap D).aV (KJ D)).flatten.length<=c:=by rw[zl];have:N9 D=_:=rfl;unfold N9 at d1;omega
  refine Loop.rule (λF aN y=> ∃(i:Nat) (ns:List M.DX),aN=((i:Int),())/\F=(KJ D).length-i/\i<=(KJ D).length/\Mod (λc=>c=j.size\/H.size<=c) H y/\M.cT y j.size ns (A8 [] (PM (Ap D).aV ((KJ D).take i)).flatten)/\ ∀c,M.cQ j.size ns c->c=j.size\/H.size<=c) ?_
   ⟨0,[],rfl,rfl,AD _,Mod.refl,dZ,λc d=>by
    rcases d with rfl|⟨w,y,_⟩
    ·exact .inl rfl
    ·cases y⟩
  rintro fP F _ am ⟨i,ns,rfl,rfl,U,L,aO,bH⟩ bI;dsimp only;have fQ:=L.size;have d2:=View.modn cH L λc d bF e=>by have:=dY c d;omega
  have cJ:=L.ah az (by omega);rw[cI];refine af.intro (λu=>?_) (λu=>?_)
  ·have v:i<(KJ D).length:=by have:=of_decide_eq_true u;omega
   have ag:(KJ D)[i]? =some (KJ D)[i]:=A2 v;obtain⟨cK,a7⟩:=d0 _ (AW v);have cL:(KJ D).take (i+1)=(KJ D).take i++ [(KJ D)[i]]:=by rw[As,ag];rfl
   have d3:=ARY (f:=(Ap D).aV) (l:=KJ D) (i+1);refine ai.mk λfR bJ=>?_
   rw[<- cI];refine d2.idx (i:=i) (x:=AY (BV (KJ D)[i].1 (KJ D)[i].2)) (by rw[C2,ag];rfl) λa _ au=>AJ.mk au.str ?_
   have d4:J8 J9 ((i:Int)+(1:Int))=((i+1:Nat):Int):=Ae (by rw[Bs] at cD;omega);rw[d4] at bJ;generalize (KJ D)[i]=d5 at*
   obtain⟨bK,z⟩:=d5;dsimp only at cK a7 ⊢;refine AKC cK a7.len a7.ok λcM d6 cN aA d7=>⟨_,_,_,rfl,af.no rfl ?_⟩
   have d8:=Ao aA cJ;refine AC.mk (AB d8 rfl) ?_;refine af.intro (λbL=>?_) (λbL=>?_)
   ·have bF:=of_decide_eq_true bL;refine bJ _ _ (bI ((KJ D).length-(i+1)) _ _ (by omega) ⟨i+1,ns,rfl,rfl,v,L.trans (Ext.mod aA),?_,bH⟩);have e:PM (Ap D).aV ((KJ D).take (i+1))=PM (Ap D).aV ((KJ D).take i):=by
     rw[cL,Yu];have:PM (Ap D).aV [(bK,z)]= []:=by unfold PM;rw[AS,if_neg (by simp;omega)];rfl
     rw[this,AM]
    rw[e];exact aO.ext aA
   ·have d9:(Ap D).aV<=bK:=by have:=of_decide_eq_false bL;omega
    have e:(PM (Ap D).aV ((KJ D).take (i+1))).flatten=(PM (Ap D).aV ((KJ D).take i)).flatten++z:=by
     rw[cL,Yu];have:PM (Ap D).aV [(bK,z)]= [z]:=by unfold PM;rw[AS,if_pos (by simpa using d9)];rfl
     rw[this];simp
    rw[e,A1] at d3;have fS:=aA.size;refine Loop.rule (λF aN a8=> ∃(r:Nat) (aP:List M.DX),aN=((r:Int),())/\F=z.length-r/\r<=z.length/\Mod (λc=>c=j.size\/H.size<=c) H a8/\M.cT a8 j.size aP (A8 (A8 [] (PM (Ap D).aV ((KJ D).take i)).flatten) (z.take r))/\(∀ c,M.cQ j.size aP c->c=j.size\/H.size<=c)/\View BR a8 cM z/\(∀ c,cM.ah=some c-> ¬M.cQ j.size aP c)/\d6.size<=a8.size) ?_
     ⟨0,ns,rfl,rfl,AD _,L.trans (Ext.mod aA),aO.ext aA,bH,cN.view,λc d aQ=>by have:=d7 c d;have:=aO.lt aQ;omega,A0 _⟩
    rintro fT F _ fU ⟨r,aP,rfl,rfl,cv,a9,bN,bO,ba,cO,fV⟩ ea;dsimp only;have eb:=a9.ah az (by omega);have fW:=a7.len;rw[ba.len];refine af.intro (λu=>?_) (λu=>?_)
    ·have bb:r<z.length:=by have:=of_decide_eq_true u;omega
     have cP:z[r]? =some z[r]:=A2 bb;rw[<- ba.len];refine ba.idx cP λa _ au=>?_
     obtain⟨cQ,ec,ed⟩:=au.pair;refine AJ.mk cQ (AJ.mk ec (Aa.mk ed (ao.pair λfX fY _ bP aS fZ=>?_)));have ee:=Ao aS eb;refine AX.mk (AB ee rfl) ?_;refine AJ.mk (AO bP rfl) (AJ.mk (AB bP rfl) (Aa.mk (AB bP rfl) ?_));have ef:=M.Qy (l:=(PM (Ap D).aV ((KJ D).take i)).flatten) (t:= []);have eg:=M.Qy (l:=z.take r) (t:=A8 [] (PM (Ap D).aV ((KJ D).take i)).flatten);rw[Ax] at eg;simp only[GF,AI] at ef;refine M.su (x:=z[r]) (bN.ext aS) (by omega) λeh f0 ei bQ cR=>⟨_,rfl,?_⟩
     rw[Ae (by omega)];have f1:=a9.size;have f2:=aS.size;refine ea (z.length-(r+1)) _ _ (by omega) ⟨r+1,eh,rfl,rfl,bb,(a9.trans (Ext.mod aS)).trans (bQ.aj λc _ d=>bO c d),by rw[M.sv cP];exact ei,λc d=>?_,(ba.ext aS).mod bQ (λc d aQ=>cO c d aQ),λc d aQ=>?_,by have:=bQ.size;omega⟩
     ·rcases cR c d with h|h
      ·exact bO c h
      ·exact .inr (by omega)
     ·rcases cR c aQ with h|h
      ·exact cO c d h
      ·have:=cN.lt d;omega
    ·have bb:r=z.length:=by have:=of_decide_eq_false u;omega
     subst bb;rw[BT] at bN;refine bJ _ _ (bI ((KJ D).length-(i+1)) _ _ (by omega) ⟨i+1,aP,rfl,rfl,v,a9,?_,bO⟩);rw[e,zD];exact bN
  have ej:i=(KJ D).length:=by have:=of_decide_eq_false u;omega
  subst ej;rw[BT,zl] at aO;clear bI;have bc:Mod (λc=>c=o.size) k aM:=(Ext.mod ay).trans av;have aR: ∀c,hB.size<=c->c<k.size-> ¬(c=o.size)/\ ¬(Sb c\/c=X)/\ ¬(c=j.size\/H.size<=c):=λc al c2=>by
   refine⟨by omega,?_,by omega⟩;rintro(h|h)
   ·have:=ak c h;have:=aY.size;omega
   ·omega
  have bd: ∀c,h.size<=c->c<k.size->c≠o.size->c≠j.size-> ¬(c=o.size)/\ ¬(Sb c\/c=X)/\ ¬(c=j.size\/H.size<=c):=λc al c2 ek c4=>by
   refine⟨ek,?_,by omega⟩;rintro(h|h)
   ·have:=ak c h;omega
   ·omega
  have el:Own fL BL am tp ps:=((an.mod bc λc d=>(aR c (ar c d) (an.lt d)).1).mod Y λc d=>(aR c (ar c d) (an.lt d)).2.1).mod L λc d=>(aR c (ar c d) (an.lt d)).2.2
  have O: ∀c,np.ah=some c->h.size<=c/\c<k.size/\c≠o.size/\c≠j.size:=λc d=>by have:=ac c d;have:=ap.lt d;omega
  have en:Own IM Bp am np ((Ap D).names.map λn:Nat=>(n:Int)):=(((ap.mod J λc d e=>by have:=O c d;have:=ap.lt d;omega).mod bc λc d=>(bd c (O c d).1 (O c d).2.1 (O c d).2.2.1 (O c d).2.2.2).1).mod Y λc d=>(bd c (O c d).1 (O c d).2.1 (O c d).2.2.1 (O c d).2.2.2).2.1).mod L λc d=>(bd c (O c d).1 (O c d).2.1 (O c d).2.2.1 (O c d).2.2.2).2.2
  have bS:=bd nt ce (by omega) (by omega) (by omega);have eo:ES am nt b nn aK false:=((dH.mod bc bS.1).mod Y bS.2.1).mod L bS.2.2;have ep:ES am X b nl s false:=bD.mod L (by omega);have eq:Cw am b Sb m:=cE.mod L λc d=>by have:=ak c d;omega
  have er:Ext g am:=cG.then (L.aj λc _ d=> .inr (by have:=Q.size;omega));have es: ∀(i:Nat) (t:Nat) (p:Nat×List Pr),ps[i]? =some t->((Ap D).names.map λn=>(n,D.T n))[i]? =some p-> ∃T U,bR am t p.2 (NA p.2) T U/\hB.size<=T/\U<=k.size/\(∀ c,tp.ah=some c-> ¬(T<=c/\c<U))/\G7 p.2:=λcS t p ad W=>by
   rw[C2] at W;cases be:(Ap D).names[cS]? with
   |none=>rw[be] at W;cases W
   |some n=>
    rw[be] at W;cases W;obtain⟨T,bw,bx,bz,cw,a3⟩:=co cS t n ad be;refine⟨T,bw,((bx.mod bc λc al c2=>(aR c (by omega) (by omega)).1).mod Y λc al c2=>(aR c (by omega) (by omega)).2.1).mod L λc al c2=>(aR c (by omega) (by omega)).2.2,bz,cw,a3,(ab.cN n (AK be)).2⟩
  have cT:((Ap D).names.map λn=>(n,D.T n)).map (·.1)=(Ap D).names:=by rw[AT];exact Kx _
  obtain⟨cQ,et,bf⟩:=bM.make (g:=g) (h:=am) (q:=⟨o.size,b,X,nt,j.size,Sb,ns,tp,np,ps⟩) (st:=⟨Er D,(Ap D).names.map λn=>(n,D.T n),(Ap D).next,(Ap D).aV,s,aK,false⟩) (m:=m) (N0:=h.size) (NB:=hB.size) (NC:=k.size) (ND:=H.size)
   (by simpa [eA] using cJ) eq ep eo aO el (by simp[bt,v]) (by unfold eB;rw[AT];exact en) er Q.size (λc d=>⟨b9 c d,ak c d⟩)
   ce du (by show j.size<o.size;omega) dy cq dL (by show X<H.size;omega) (λc d=>⟨ac c d,ap.lt d⟩) (λc d=>⟨ar c d,an.lt d⟩) bH es (by omega)
  have bT:Mod Sb h am:=by refine⟨by have:=a6.size;omega,λc d Z=>?_⟩;have ad:=a6.get c d (λh=>h);have f3:=a6.size;have W:=Y.get c (by omega) (by rintro(h|h);exact Z h;have:=V.size;omega);have eu:=L.get c (by omega) (by omega);exact eu.trans (W.trans ad)
  have f4:=bT.size;have cU: ∀n,ff m (aX n)≠none->n<8*aI+8:=C.mR;have f5:=VP m.files;refine AOC (N:=8*aI+8) (q:=⟨o.size,b,X,nt,j.size,Sb,ns,tp,np,ps⟩) E et hd ab cT.symm (by omega) cU dn (by simp;omega) (by omega)
   (λev bU cV aE ew ex bV ey bW aT ez bX=>⟨_,rfl,?_⟩) λbU cV eC aE aF eD cW bW aT eE cX eF bX bV eG=>⟨_,rfl,?_⟩
  ·refine dj ev bU o.size cV aE ew ex (bT.then (bV.aj λc _ d=>bf c d)) (λc d=>?_) (λG cY=>⟨D,bW.dP cY,?_,rfl⟩) (λw y=>aT w λn=>Qx y n) (AE bX (B.up (BW _) bo))
   ·rcases ey c d with h|h
    ·exact bf c h
    ·exact .inr (by omega)
   ·refine jh.mono ⟨C.aP,C.aW,C.next,C.aV,C.cn,C.bX,λn Z=>cU n (ez n (cY.some Z))⟩ (BW _) (A0 _)
  ·have eH: ∀n,ff aE (aC nl n)=ff m (aC nl n):=λn=>aT _ (Lx n)
   have eI: ∀n,ff aE (aC nn n)=ff m (aC nn n):=λn=>aT _ (Qf n)
   have cZ:Ex (ff aE) ⟨Er D,(Ap D).names.map λn=>(n,D.T n),aF,(Ap D).aV,s,aK,false⟩ D:=
    ⟨bW,cT.symm,λp bY=>by
     obtain⟨n,_,rfl⟩:=List.mem_map.1 bY;rfl,rfl,cX,λp bY=>by
     obtain⟨n,Z,rfl⟩:=List.mem_map.1 bY;have j:=S.below n Z;have o:(Ap D).next<=aF:=cX;show n<aF;omega,rfl,λn bg b0 _=>by
     have bg:s<=n:=bg;rw[eH];exact dN n (by omega) b0,(λh=>by cases h),λn bg b0=>by rw[eI];exact dr n bg b0,⟨S.aV.1,dX⟩,ds,λn Z=>eE n Z⟩
   have eJ:Sy ⟨Er D,(Ap D).names.map λn=>(n,D.T n),aF,(Ap D).aV,s,aK,false⟩ D (aI+1) c:=by have f6:aF<=8*aI+8:=eF;exact⟨by show s<=_;omega,by show aK<=_;omega,by show aF<=_;omega,by show((Ap D).names.map _).length<=_;simp;omega,C.bX,by omega,by omega⟩
   refine dl bU _ eC _ aE D rfl ⟨eD,cW.up,cZ,eJ,AE bX (B.up (BW _) bo),d⟩ cW cZ.map.symm (λw y=>aT w λn=>Qx y n) (bT.then (bV.aj λc _ d=>bf c d)) λc d=>?_
   rcases eG c d with h|h
   ·exact bf c h
   ·exact .inr (by omega)
 have c0:sl.len=(NT D).length:=by rw[cm.len];simp
 refine af.intro (λu=>?_) (λu=>?_)
 ·have bG:NT D≠ []:=λe=>by
   have:=of_decide_eq_true u;rw[c0,e] at this;simp at this
  obtain⟨aw,x,bh⟩: ∃aw x,NT D=aw++ [x]:=⟨_,_,(List.dropLast_concat_getLast bG).symm⟩;have bi:Ap D=x:=by unfold Ap;rw[bh,SZ];rfl
  have c1:sl.len=aw.length+1:=by rw[c0,bh];simp
  have f7:aw.length<=8000000000000:=by rw[bh] at bq;simp at bq;omega
  rw[c1];have eK:J8 J9 (((aw.length+1:Nat):Int)-(1:Int))=((aw.length:Nat):Int):=by rw[wrap_i64 (by omega) (by omega)];omega
  rw[eK,<-c1];rw[bi] at S bs;have eL:((NT D).map λx=>AY (EG x))[aw.length]? =some (AY (EG x)):=by rw[bh];simp
  refine cm.idx eL λa _ au=>AJ.mk au.str ?_
  have f8:=S.next;have f9:=S.aV;have ga:=S.cn;have c3:=S.below;have c5:EG x=Bc x.next++(Bc x.aV++(Bc x.names.length++(x.names.flatMap Bc++ []))):=by simp[EG,A3]
  rw[c5];have c6:=yZ S;rw[c5] at c6;simp only[A1] at c6;refine Js λc7 c8 b1=>⟨_,rfl,?_⟩
  have aH:=Ao b1 ch;refine DN (most:=2147483647) c8 (by simp only[A1];omega) (by decide) λgb c9 eM=>⟨_,rfl,?_⟩
  rw[CQ (by omega) (by omega)] at c9 ⊢;refine DN (most:=99999999) c9 (by simp only[A1];omega) (by decide) λaZ da eN=>⟨_,rfl,?_⟩
  rw[CQ (by omega) (by omega)] at da ⊢;have gc:=b1.size;have bk:I.size≠o.size:=by omega
  have db:Mod (· =I.size) c7 aZ:=eM.trans eN;have eO:=db.ah aH (by omega);refine ae.dq eO (by simp) λgd eP eQ ge=>ae.dq eP (by simp) λa0 eR eS gf=>?_
  have dd:Mod (· =o.size) aZ a0:=eQ.trans eS;have eT:Ie a0 I.size ⟨Bc x.names.length++(x.names.flatMap Bc++ []),false⟩:=dd.ah da bk;refine DN (most:=65536) eT (by simp only[A1];omega) (by decide) λeU de df=>⟨_,rfl,?_⟩
  rw[CQ (by omega) (by omega)] at de ⊢;have eV:=df.ah eR (λe=>bk e.symm);have eW:Mod (λc=>o.size<=c) I eU:=(Ext.mod b1).trans (((db.aj λc _ d=>by omega).trans (dd.aj λc _ d=>by omega)).trans (df.aj λc _ d=>by omega));refine Loop.rule (λF aN k=> ∃(i:Nat) (np:Sl),aN=((i:Int),())/\F=x.names.length-i/\i<=x.names.length/\Mod (λc=>o.size<=c) I k/\Ie k I.size ⟨(x.names.drop i).flatMap Bc++ [],false⟩/\Own IM Bp k np ((x.names.take i).map λn:Nat=>(n:Int))/\(∀ c,np.ah=some c->I.size<c)/\
    k[o.size]? =some (J2 #[Am b,J5 none,Am nt,Am j.size,J4 none 0 0,J4 np.p np.len np.cap,J6 J9 (x.next:Int),J6 J9 (x.aV:Int),J3 false] FL (0,0))) ?_
   ⟨0,⟨none,0,0⟩,rfl,rfl,AD _,eW,de,Own.nil,λc d=>by simp[Sl.ah] at d,by simpa using eV⟩
  rintro gg F _ k ⟨i,np,rfl,rfl,U,J,bm,b2,ac,aq⟩ eX;have cq:=J.size;dsimp only;refine af.intro (λu=>?_) (λu=>?_)
  ·have v:i<x.names.length:=by have:=of_decide_eq_true u;omega
   have ag:x.names[i]? =some x.names[i]:=A2 v;have eY:x.names.drop i=x.names[i]::x.names.drop (i+1):=E0 v;have gh:=c3 _ (AW v);refine AZ.mk (s:=np) (AB aq rfl) ?_;rw[eY,AH,A3] at bm;have gi:((x.names.drop (i+1)).flatMap Bc).length<=600000:=by
    have:=U0 (l:=x.names.drop (i+1)) λn Z=>by have:=c3 n (HX Z);omega
    have e:=DQ (l:=x.names) (i:=i+1);omega
   have gj:=AV (n:=x.names[i]) (by omega);refine DN (most:=2147483647) bm (by simp only[A1,GF];omega) (by decide) λb3 dg bn=>⟨_,rfl,?_⟩
   rw[CQ (by omega) (by omega)] at dg ⊢;have b4:=bn.ah aq (λe=>bk e.symm);refine⟨AB b4 rfl,ao.mk λeZ _ e0 aU gk=>⟨AB (Ao aU b4) rfl,?_⟩⟩;have e1:Own IM Bp b3 np ((x.names.take i).map λn:Nat=>(n:Int)):=b2.mod bn λc d e=>by have:=ac c d;omega
   have e2:=e1.ext aU;have src:View IM eZ ⟨some ⟨b3.size,0,none⟩,1,1⟩ [(x.names[i]:Int)]:=(Own.lit (E:=IM) (l:= [(x.names[i]:Int)]) e0 rfl (by simp[maxLen])).view;refine Fz (s:=np) (src:=⟨some ⟨b3.size,0,none⟩,1,1⟩) ry e2 src (by simp;omega) (by simp[maxLen];omega) λaJ gl e3 b5 e4 _=>?_
   have e5:=b5.ah (Ao aU b4) (λe=>by have:=ac _ e;omega);refine ae.dq e5 (by simp) λgm e6 b6 gn=>?_
   rw[Ae (by omega)];have go:=bn.size;have dh: ∀c,aJ.ah=some c->I.size<c:=λc d=>by
    rcases e4 c d with h|h
    ·exact ac c h
    ·omega
   have gp:I.size<c7.size:=Ai c8;refine eX (x.names.length-(i+1)) _ _ (by omega) ⟨i+1,aJ,rfl,rfl,v,?_,?_,?_,dh,by simpa using e6⟩
   ·exact J.trans ((((bn.aj λc _ d=>by omega).trans (Ext.mod aU)).trans (b5.aj λc _ d=>by have:=ac c d;omega)).trans (b6.aj λc _ d=>by omega))
   ·have e7:=aU.ah dg (λh=>h);have e8:=b5.ah e7 (λe=>by have:=ac _ e;omega);exact b6.ah e8 bk
   ·rw[As,ag];simp only[CT,Bm,B9,Sf];exact e3.mod b6 λc d e=>by have:=dh c d;omega
  ·have v:i=x.names.length:=by have:=of_decide_eq_false u;omega
   subst v;rw[BT] at b2;rw[Mn] at bm;refine MU bm ⟨_,rfl,?_⟩;have e9:Yf ⟨([]:List Nat).flatMap Bc++ [],false⟩=true:=rfl;rw[e9];refine af.no rfl ?_;have fa: ∀ {b7:Nat} {di:Obj},I[b7]? =some di->b7<o.size->k[b7]? =some di:=λe bF=>J.ah e (by omega)
   refine bs k np ⟨by omega,λc d Z=>?_⟩ aq b2 (λc d=>by have:=ac c d;omega) (fa ck (by omega)) (cl.mod J λc d e=>?_)
   ·have b8:=cj.get c d Z;rw[<- b8];exact J.get c (by omega) (by omega)
   ·rcases d with rfl|⟨w,y,_⟩
    ·omega
    ·cases y
 ·have b8:NT D= []:=by have:=of_decide_eq_false u;exact Dd (by omega)
  have bi:Ap D=⟨1,1,[]⟩:=by unfold Ap;rw[b8];rfl
  refine bs I ⟨none,0,0⟩ cj (by rw[bi];exact ch) (by rw[bi];exact Own.nil) (λc d=>by simp[Sl.ah] at d) ck cl
end
open M (Sorted Af CZ A8 Ag Aq BU Ah bA BG aO BC)
theorem zn(key:A2L): ∀ {l:List Pr},Sorted l->(BC key l=true-> ∃p,l[aO key l]? =some p/\Af key l=some p)/\(BC key l=false->Af key l=none)
 | [],_=>⟨(λh=>by cases h),λ_=>rfl⟩
 |x::l,s=>by
  have d:=List.pairwise_cons.1 s;have e:=zn key d.2;rw[zt,UR,M.BB];by_cases h:aM x.key key=true
  ·rw[if_pos h,if_pos h,if_neg (M.Lp h)];exact⟨λb=>by obtain⟨p,f,i⟩:=e.1 b;exact⟨p,by simpa using f,i⟩,e.2⟩
  ·rw[if_neg h,if_neg h];by_cases a:x.key=key
   ·rw[if_pos a];exact⟨λ_=>⟨x,rfl,rfl⟩,λj=>by simp[a] at j⟩
   ·rw[if_neg a];refine⟨λb=>by simp[a] at b,λ_=>M.EI λn o r=>h ?_⟩;have:=d.1 n o;rwa [r] at this
section
variable {A : aq} {B : cH} {g h : aa} {q : Hp} {k : Nat -> Nat} {st : Db} {m : Bx} {D : Bq} {aI c : Nat} {R : A2K}
theorem Bv.di(a:Bv B g h q k st m D aI c):st.fr.length<=1000000/\st.ts.length<=100000/\(Ag (st.fr::aG st)).length<=1099511627776/\(Co st).length<=100000:=by have d:=a.eY.di a.lim;have e:=a.eY.jG a.lim;have f:=a.hc;have i:=B.hC;have b:=a.eY.lx.cn;rw[a.eY.iC] at b;have j:(Co st).length<=(Ag (st.fr::aG st)).length:=rI _;omega
theorem Bv.sorted(a:Bv B g h q k st m D aI c):Sorted (Co st):=FB _ _
end
def D0:Bq:=⟨λ_=> [],λ_=> [],λ_=> [],1,1⟩
theorem ATh:Ap D0=⟨1,1,[]⟩:=rfl
theorem ATY {e:bQ}(i: ∀a,e (aC nl a)=none)(d: ∀a,e (aC nn a)=none)(j: ∀x,e x≠none->(bl x).head? ≠some 116):BK e D0/\jh e D0 0 0/\cz D0= []:=by
 refine⟨⟨⟨λa p _ _ h=>?_,λ_ _ _ _=>rfl,λa _ _=>i a,λ_ _=>rfl⟩,⟨λa p _ _ h=>?_,λ_ _ _ _=>rfl,λa _ _=>d a,λ_ _=>rfl⟩,λa d=>?_,λa b l=>?_,λa x f=>?_,λx f hd=>absurd hd (j x f),by decide⟩,⟨by decide,by decide,by decide,by decide,by decide,by decide,λa d=>?_⟩,rfl⟩
 ·rw[i a] at h;cases h
 ·rw[d a] at h;cases h
 ·rw[ATh] at d;cases d
 ·cases l
 ·cases f
 ·exact absurd (rF a) (j _ d)
section
variable {A : aq} {B : cH} {g h : aa} {q : Hp} {k : Nat -> Nat} {st : Db} {m : Bx} {D : Bq} {aI c : Nat} {R : A2K}
theorem Bv.on {b:aa}(a:Bv B g h q k st m D aI c)(x:Ext h b):Bv B g b q k st m D aI c:=⟨a.mem.on x,a.up,a.eY,a.lim,a.wt,a.hc⟩
theorem Bv.beside {b:aa}{d:Nat->Prop}(a:Bv B g h q k st m D aI c)(x:Mod d h b)(hX: ∀c,d c->k c=0/\g.size<=c):Bv B g b q k st m D aI c:=⟨a.mem.beside x hX,a.up,a.eY,a.lim,a.wt,a.hc⟩
theorem Bv.more {b:Nat}(a:Bv B g h q k st m D aI c)(d:c<=b)(e:b<=B.C):Bv B g h q k st m D aI b:=⟨a.mem,a.up,a.eY,a.lim.mono (A0 _) d,a.wt,e⟩
theorem Bv.free(a:Bv B g h q k st m D aI c){x:Nat}(d:h.size<=x):k x=0:=Decidable.byContradiction λb=>by
 have:=(a.mem.own x b).2;omega
theorem Bv.base(a:Bv B g h q k st m D aI c){x:Nat}(d:x<g.size):k x=0:=Decidable.byContradiction λb=>by
 have:=(a.mem.own x b).1;omega
theorem AOv {b:Nat}{Sb:Nat->Prop}(p:bZ g)(r:Cw h b Sb m)(s:Ext g h)(t: ∀c,Sb c->g.size<=c)(hd:m.down=false)(o:m.fuel= -1)(u: ∀j,ff m (aC nl j)=none)(v: ∀j,ff m (aC nn j)=none)(w: ∀x,ff m x≠none->(bl x).head? ≠some 116)(hA:1<=B.A)(N:bj m.files<=B.W0)
  (y: ∀a d f i e l,d.b=b->Bv B g a d f i e l 1 0->e.fuel= -1->Co i= []->(∀ n,¬dc n->ff e n=ff m n)->Mod Sb h a->(∀ c,f c≠0->Sb c\/h.size<=c)->R (J1 #[Am d.d,J6 J9 0]) a):AA A P R6 #[Am b] h R:=by
 obtain⟨z,C,E⟩:=ATY u v w;refine AN6 (B:=B) p r s t hd z C (AD _) hA (by omega) (λF=>absurd o F) λa d f i e l G H I J K L M=>?_
 exact y a d f i e l G H (I.calm o) (J.trans E) K L M
end
abbrev kb:A2L:=⟨#[98]⟩
abbrev v1:A2L:=⟨#[49]⟩
abbrev v2:A2L:=⟨#[50]⟩
open Go Go.ChangeShapes Go.WideShapes Go.ChangeAt Go.RowKit Go.Proofs.YtgpmoonnachoaaaGreatDoor
def listed:List (String×DataW Unit):=Rows.archiveMovesRow.laid
theorem AM5: ∃(x c a b:String×DataW Unit),listed= [x,c,(oD,Lib.tabData .u64 Lib.pow10Tab),a,b]:=⟨_,_,_,_,rfl⟩
theorem ATb:P.globalNamed oD=some 2:=by kernel_rfl
theorem AS7:(P.globals[2]?).map (·.type)=some Tk:=by kernel_rfl
theorem ATZ:P.underlying Tk=some (.array 20 Yy):=by kernel_rfl
theorem ASk:P.underlying Yy=some (.int .u64):=by kernel_rfl
theorem ATl:P.cellsOf Yy=1:=by kernel_rfl
theorem ATs:P.cellsOf Tk=20:=by kernel_rfl
theorem AKr:listed.filter (λx=>x.2.handleName?.isSome)= []:=by kernel_rfl
theorem qC {b:World}(a:laidMetH P listed b):laidMet P listed b:=by unfold laidMetH at a;rw[AKr] at a;exact a
theorem ARa {c:World}(e:laidMetH P listed c):Lib.TabIs P c oD .u64 Lib.pow10Tab:=by have d:=qC e;obtain⟨x,g,a,b,f⟩:=AM5;rw[f] at d;exact Lib.tabIs_of_head (rest:= [a,b]) ATb AS7 ATZ ASk ATl ATs (laidMet.tail (laidMet.tail d))
theorem ARc {a:World}(c:laidMetH P listed a):cT a.heap:=λd e=>by
 have b:=ARa c;unfold Lib.TabIs World.var? at b ⊢;exact b
def nN : String := String.ofList [Char.ofNat 42] ++ "errors.errorString"
def vN:String:=Rows.archiveMovesRow.named.getD 1 (String.ofList [])
def vO:String:=Rows.archiveMovesRow.named.getD 0 (String.ofList [])
theorem AS6: ∃(x a z b:String×DataW Unit) (text:List UInt8),listed= [x,a,z,(vN,.iface nN (.ptr (.agg [.lit (.string text)]))),b]:=⟨_,_,_,_,_,rfl⟩
theorem ASJ: ∃(x a z b:String×DataW Unit) (text:List UInt8),listed= [x,a,z,b,(vO,.iface nN (.ptr (.agg [.lit (.string text)])))]:=⟨_,_,_,_,_,rfl⟩
theorem ATo:P.globalNamed vN=some 1:=by kernel_rfl
theorem ATP:P.globalNamed vO=some 0:=by kernel_rfl
theorem ASe:(P.globals[1]?).map (·.type)=some nM:=by kernel_rfl
theorem ASI:(P.globals[0]?).map (·.type)=some nM:=by kernel_rfl
theorem ATm: ∃a,P.underlying nM=some (.interface a):=⟨_,Proofs.Tryz.underlying293⟩
theorem ASR(u:Q7)(a:P.typeName? 3 u=some nN):u=EU:=
 typeName_ptr_named (nm := "errors.errorString") (by kernel_rfl) (by kernel_rfl) (by decide) u a
theorem ATW:P.underlying EU=some (.pointer FI):=by kernel_rfl
theorem AT3: ∃f:Field,P.underlying FI=some (.struct #[f])/\f.type=BF/\f.offset=0:=⟨_,Proofs.Tryz.underlying388,rfl,rfl⟩
theorem AT1:P.cellsOf FI=1:=by kernel_rfl
theorem vP {b:String}{text:List UInt8}{h:List (String×DataW Unit)}{a:World}{g:Nat}(i:laidMet P ((b,.iface nN (.ptr (.agg [.lit (.string text)])))::h) a)(c:P.globalNamed b=some g)(j:(P.globals[g]?).map (·.type)=some nM):kY a.heap g:=by
 obtain⟨p,k⟩:=ATm;obtain⟨f,l,m,n⟩:=AT3;obtain⟨d,q,o,_,_,_⟩:=laid_sentinel i c j k ASR ATW l m n qB AT1 AT0;have e:a.cell? ⟨g,0,none⟩=some (.iface EU (.pointer (some d))):=by simpa using World.var?_cell c o 0
 refine⟨.iface EU (.pointer (some d)),?_,.inr ⟨_,_,rfl⟩⟩;unfold ag;unfold World.cell? at e;exact e
theorem ASj {d:World}(b:laidMetH P listed d):bZ d.heap:=by
 refine⟨ARc b,?_,?_⟩
 ·have a:=qC b;obtain⟨x,e,z,f,t,c⟩:=ASJ;rw[c] at a;exact vP (laidMet.tail (laidMet.tail (laidMet.tail (laidMet.tail a)))) ATP ASI
 ·have a:=qC b;obtain⟨x,e,z,f,t,c⟩:=AS6;rw[c] at a;exact vP (laidMet.tail (laidMet.tail (laidMet.tail a))) ATo ASe
def AJD:DataW Unit->Array J0
 | .agg ds=>(ds.map λ| .lit (.int a z)=>Value.int a z|_=> .bool false).toArray
 |_=> #[]
def fill(a:DataW Unit):Obj->Obj
 | .cells _ t frozen=> .cells (AJD a) t frozen
 |o=>o
def ja(b:Nat):Obj->Obj
 | .cells _ t frozen=> .cells #[.iface EU (.pointer (some ⟨b,0,none⟩))] t frozen
 |o=>o
abbrev AQf:A2L:=⟨#[118,97,108,117,101,32,111,117,116,32,111,102,32,114,97,110,103,101]⟩
abbrev AQ3:A2L:=⟨#[105,110,118,97,108,105,100,32,115,121,110,116,97,120]⟩
noncomputable def low:Nat:=(World.holding P default ⟨#[],#[],[]⟩).heap.size
noncomputable def ZN (os:Os):World:=
 let a:=World.holding P os ⟨#[.cells #[.string AQf] FI,.cells #[.string AQ3] FI],#[],[]⟩
 {a with heap:=((((a.heap.modify 2 (fill Rows.laid_internal_strconv_uint64pow10)).modify 4 (fill Rows.laid_math_bits_deBruijn32tab)).modify 5 (fill Rows.laid_math_bits_deBruijn64tab)).modify 1 (ja low)).modify 0 (ja (low+1))}
theorem AI1(os:Os)(args:Array J0):laidMet P listed ((ZN os).forCall (λ_ _=>0) ⟨#[],args,[]⟩).memory:=
 laidMet_of_run' 8 (by kernel_rfl) (by kernel_rfl)
end Go.Lf.G
namespace Go.Lf.G.M
open Go Go.ChangeShapes Go.WideShapes Go.ChangeAt Go.RowKit Go.Proofs.YtgpmoonnachoaaaGreatDoor
def lS(a:World):aq:=⟨a.tape,a.os,a.output⟩
section
variable {H : Type} {enc : Q7 × J0 -> H} {w : World} {base : Nat} {spare : Nat -> Bool} {held : Bool}
instance:Inhabited Pr:=⟨⟨⟨#[]⟩,⟨#[]⟩,false⟩⟩
instance:Inhabited Sl:=⟨⟨none,0,0⟩⟩
end
end Go.Lf.G.M
namespace Go.Lf.G
open Go
open M (Sorted Af CZ A8 Ag Aq BU Ah bA BG aO BC)
structure ATV where
 kind:Int
 bs:Sl
 key:A2L
 til:A2L
 most:Int
 ks:Sl
structure AT6 (N:Nat) (h:aa) (x:ATV) (l:List Pr) (ks:List Int):Prop where
 bs:View BR h x.bs l
 ks:View IM h x.ks ks
 key:x.key.size<=N
theorem ARv {e:Type}{d:cD e}{h:aa}{s:Sl}{l:List e}(v:View d h s l)(f:l≠ []){b:Nat}(i:s.ah=some b):b<h.size:=by
 cases l with
 |nil=>exact absurd rfl f
 |cons x l=>
  obtain⟨a,j,n⟩:=v.cells 0 x rfl;have p:=d.pos;have r:=d.len x;obtain⟨u,o⟩: ∃u,(d.enc x)[0]? =some u:=⟨_,A2 (by omega)⟩;have:=VI (n 0 u o);rw[aU,aU] at this;have t:a.block=b:=by simpa [Sl.ah,j] using i
  omega
section
variable {A : aq} {B : cH} {g h : aa} {q : Hp} {k : Nat -> Nat} {st : Db} {m : Bx} {D : Bq} {aI c : Nat} {R : A2K}
theorem Bv.put {b a:Nat}(d:Bv B g h q k st m D aI c)(e:aI<=b)(f:c<=a)(i:a<=B.C):Bv B g h q k st m D b a:=(d.aI e).more f i
theorem Bv.args(a:Bv B g h q k st m D aI c){s:Sl}{l:List Pr}(v:View BR g s l):l≠ []-> ∀b,s.ah=some b->b<h.size/\k b=0:=λd b e=>by
 have f:=ARv v d e;have:=a.mem.ext.size;exact⟨by omega,a.base f⟩
end
theorem AJX {A:aq}{B:cH}{g h:aa}{q:Hp}{k:Nat->Nat}{st:Db}{m:Bx}{D:Bq}{aI c:Nat}{R:A2K}{s:Sl}{l:List Pr}(u:bZ g)(j:Bv B g h q k st m D aI c)(i:m.fuel= -1)(hA:aI+3<=B.A)(v:View BR h s l)(w:l≠ []-> ∀b,s.ah=some b->b<h.size/\k b=0)(x:c+64<=B.C)
  (y: ∀e n z C f G,n.d=q.d->n.b=q.b->Bv B g e n z C f G (aI+3) (c+64)->f.fuel= -1->Co C=(if EX l=0 then cy (Co st) l else Co st)->(∀ o,¬dc o->ff f o=ff m o)->Mod (λc=>k c≠0) h e->(∀ c,z c≠0->k c≠0\/h.size<=c)->R (J6 J9 (EX l)) e):
  AA A P Kz #[Am q.d,J4 s.p s.len s.cap] h R:=by
 by_cases a:EX l=0
 ·have W:=(zd a).1.len;refine zi (B:=B) (s:=s) u j hA v w (λ_=>by omega) (λE=>absurd a E) (λ_ e f p=>absurd i p.fuel) (λ_ e f p=>absurd i p.fuel) λ_ r H I J K L M N O Q S T U V=>?_
  have:=y r H I J K L M N (O.put (A0 _) (by omega) x) (Q.calm i) (by rw[if_pos a];exact S.map) T U V;rwa [a] at this
 ·refine zi (B:=B) (s:=s) u j hA v w (λd=>absurd d a) (λE r F=>?_) (λd=>absurd d a) (λd=>absurd d a) (λd=>absurd d a);exact y r q k st m D rfl rfl ((j.on F).put (by omega) (by omega) x) i (by rw[if_neg a]) (λ_ _=>rfl) (F.aj λc _ t=>t.elim) λc t=> .inl t
open Go Go.ChangeShapes Go.WideShapes Go.ChangeAt Go.RowKit Go.Proofs.YtgpmoonnachoaaaGreatDoor
section
variable {H : Type} {enc : Q7 × J0 -> H} {w : World} {base : Nat} {spare : Nat -> Bool} {held : Bool}
end
section
variable {H : Type} {enc : Q7 × J0 -> H} {w : World} {base : Nat} {spare : Nat -> Bool} {held : Bool}
end
def I7(d:aq)(g:Int)(h:Int)(name:A2L)(V:aa)(i:A2K):=AA d P Ji #[] V λv z=> ∃A:Bool,v=J3 A/\(af (!A) (i (J3 false) z) (AA d P Gm #[] z λv1 o=> ∃c:Q2,v1=J5 c/\(af (c.isNone) (i (J3 false) o) (At c λa=>AX o (a.add 4) λW=>AA d P EF #[J5 none,J5 W,J6 J9 g] o λv2 B=> ∃X:Int,∃C:Int,v2=J1 #[J6 J9 X,J6 J9 C]/\(At c λY=>AX B (Y.add 4) λZ=>AA d P Hu #[J5 none,J5 Z,J6 J9 g,J6 J9 h] B λab D=> ∃ac:Int,∃E:Int,ab=J1 #[J6 J9 ac,J6 J9 E]/\(At c λad=>AX D (ad.add 4) λae=>AA d P BH #[J5 none,J5 ae,J6 J9 h,J7 name] D λah aj=>EL λF=>ah=F.v/\(ao aj (J2 bg.z.c Ab) λb ak=>aF ak (Q5 b 0 none) F.l λp=>At c λal=>aH ((0:Int)<=0/\0<(2:Int))<| AX p ((al.add 2).add ((0:Int).toNat*1)) λam=>At c λan=>AX p (an.add 4) λap=>AA d P EF #[J5 am,J5 ap,J6 J9 g] p λar q=> ∃au:Int,∃G:Int,ar=J1 #[J6 J9 au,J6 J9 G]/\(At c λav=>aH ((0:Int)<=0/\0<(2:Int))<| AX q ((av.add 2).add ((0:Int).toNat*1)) λaw=>At c λax=>AX q (ax.add 4) λay=>AA d P Hu #[J5 aw,J5 ay,J6 J9 g,J6 J9 h] q λaz r=> ∃aA:Int,∃s:Int,az=J1 #[J6 J9 aA,J6 J9 s]/\(At c λaC=>aH ((0:Int)<=1/\1<(2:Int))<| AX r ((aC.add 2).add ((1:Int).toNat*1)) λaD=>At c λaE=>AX r (aE.add 4) λaG=>AA d P EF #[J5 aD,J5 aG,J6 J9 g] r λaI H=> ∃aJ:Int,∃t:Int,aI=J1 #[J6 J9 aJ,J6 J9 t]/\(ai (λ(k:Bool×Unit) I=>ai (λ(aK:Bool×Unit) e=>ai (λ(aL:Bool×Unit) j=>af aL.1 (i (J3 false) j) (ai (λ(J:(Q2)×Unit) L=>ai (λ(aM:Bool×Unit) l=>af aM.1 (At J.1 λaN=>AC J9 l aN λaO=>i (J3 (aO==200)) l) (At J.1 λaP=>AC J9 l aP λaQ=>i (J3 (aQ==1)) l)) λM=>af (bO name (⟨#[]⟩:A2L)) (M (true,()) L) (AA d P Jm #[J7 name] L λaR aS=> ∃N:Bool,aR=J3 N/\(M (N,()) aS))) λO=>At c λu=>aH ((0:Int)<=0/\0<(2:Int))<| AX j ((u.add 2).add ((0:Int).toNat*1)) λm=>At c λw=>AX j (w.add 4) λn=>And (AA d P BH #[J5 m,J5 n,J6 J9 0,J7 name] j λaT aU=>EL λQ=>aT=Q.v/\(ao aU (J2 bg.z.c Ab) λR x=>And (ag x (w.add 4)=some (J5 n))<| And (ag x ((u.add 2).add ((0:Int).toNat*1))=some (J5 m))<| aF x (Q5 R 0 none) Q.l λaV=>O ((some (Q5 R 0 none)),()) aV))<| ao j (J2 bg.z.c Ab) λS y=>And (ag y (w.add 4)=some (J5 n))<| And (ag y ((u.add 2).add ((0:Int).toNat*1))=some (J5 m))<| AA d P BH #[J5 m,J5 n,J6 J9 0,J7 name] y λaW aX=>EL λT=>aW=T.v/\(aF aX (Q5 S 0 none) T.l λaY=>O ((some (Q5 S 0 none)),()) aY))) λf=>af (C != 1) (f (true,()) e) (af (E != 1) (f (true,()) e) (AC J9 e (Q5 b 0 none) λaZ=>af (aZ != 1) (f (true,()) e) (af (!((G==0)==k.1)) (f (true,()) e) (af k.1 (af (!((s==0)==aK.1)) (f (true,()) e) (f ((!((t==170)==k.1)),()) e)) (af (!((s==0)==false)) (f (true,()) e) (f ((!((t==170)==k.1)),()) e))))))) λU=>af (decide (h>=0)) (U ((decide (h<=1099511627776)),()) I) (U (false,()) I)) λK=>af (decide (g>=0)) (K ((decide (g<3)),()) H) (K (false,()) H)))))))))))
theorem Nv {a b c name d e}(f:I7 a b c name d e):AA a P JL #[J6 J9 b,J6 J9 c,J7 name] d e:=Ad (AL AU (AL Cr (AL AU (AL Cr (CY 6 (AL (.bo [(19,.one .bool)] [1,2,7,9,11,12,14,16,18]) (AL (.bo [(20,.one .bool)] [2,7,9,11,12,14,16,18,19]) (AL (AL (.bo [(139,.one .bool)] [2,7]) Du) (AL (.bo [(21,.one .ptr)] [2]) (AL (AL (.bo [(156,.one .bool)] [21]) Du) Bl)))))))))) (by kernel_rfl) f
end Go.Lf.G
namespace Go.Lf
open G
open Go
abbrev bd.V(s:bd)(a b c:Sl):bG:=⟨a,s.prog.az,s.status,s.next,s.aZ,s.asked,s.taken,s.fresh,b,c,s.cancel,s.aQ⟩
end Go.Lf
namespace Go.Lf.G
open Go
structure JO (h:aa) (s:bd) (a b c:Sl):Prop where
 steps:View QT h a s.prog.steps
 au:View fj h b s.au
 al:View gb h c s.al
theorem JO.mod {g:Nat->Prop}{h j:aa}{s:bd}{a b c:Sl}(i:JO h s a b c)(m:Mod g h j)(k: ∀x,a.ah=some x-> ¬g x)(l: ∀x,b.ah=some x-> ¬g x)(n: ∀x,c.ah=some x-> ¬g x):JO j s a b c:=
 ⟨i.steps.mod m λx d f=>k x d f,i.au.mod m λx d f=>l x d f,i.al.mod m λx d f=>n x d f⟩
theorem JO.ext {h f:aa}{s:bd}{a b c:Sl}(d:JO h s a b c)(x:Ext h f):JO f s a b c:=⟨d.steps.ext x,d.au.ext x,d.al.ext x⟩
structure D3 (h hh:aa) (T0 T1 T2:Q7) (x:bG) (e:Ev) (y:bG):Prop where
 ext:Ext h hh
 b0:hh[h.size]? =some (J2 x.c T0 (0,0))
 b1:hh[h.size+1]? =some (J2 e.c T1 (0,0))
 b2:hh[h.size+2]? =some (J2 y.c T2 (0,0))
section
variable {A : aq} {h hh : aa} {T0 T1 T2 : Q7} {x y : bG} {e : Ev} {R : A2K}
theorem lJ {K:Nat->Nat->Nat->aa->Prop}(m: ∀hh,D3 h hh T0 T1 T2 x e y->K h.size (h.size+1) (h.size+2) hh):
  ao h (J2 x.c T0) λb f=>ao f (J2 e.c T1) λn g=>ao g (J2 y.c T2) λo a=>K b n o a:=by
 refine ao.mk λf _ p q c=>ao.mk λg _ i j k=>ao.mk λa _ l d r=>?_
 rw[c] at i;rw[k,c] at l;have:=m a ⟨(q.trans j).trans d,d.ah (j.ah p (λh=>h)) (λh=>h),d.ah i (λh=>h),l⟩;rw[k,c];exact this
theorem D3.on {b:aa}(a:D3 h hh T0 T1 T2 x e y)(m:Ext hh b):D3 h b T0 T1 T2 x e y:=⟨a.ext.trans m,m.ah a.b0 (λh=>h),m.ah a.b1 (λh=>h),m.ah a.b2 (λh=>h)⟩
theorem D3.set {c:Nat}{v:J0}{x':bG}{K:aa->Prop}(a:D3 h hh T0 T1 T2 x e y)(d:c<12)(f:x.c.setIfInBounds c v=x'.c)(g: ∀h',D3 h h' T0 T1 T2 x' e y->K h'):ae hh ((⟨h.size,0,none⟩:Q6).add c) v K:=
 ae.bL a.b0 d f λh' i m s=>g h' ⟨a.ext.more m λb j=>by subst j;exact A0 _,i,m.ah a.b1 (by omega),m.ah a.b2 (by omega)⟩
theorem D3.im {j:Nat}{v:J0}{x':bG}{K:aa->Prop}(d:D3 h hh T0 T1 T2 x e y)(f:j<12)(g:x.c.setIfInBounds j v=x'.c)(i: ∀a,D3 h a T0 T1 T2 x' e y->Mod (λc=>c=h.size) hh a->K a):ae hh ((⟨h.size,0,none⟩:Q6).add j) v K:=
 ae.bL d.b0 f g λa k m s=>i a ⟨d.ext.more m λb l=>by subst l;exact A0 _,k,m.ah d.b1 (by omega),m.ah d.b2 (by omega)⟩ m
theorem D3.oO {v:J0}{x':bG}{K:aa->Prop}(b:D3 h hh T0 T1 T2 x e y)(d:x.c.setIfInBounds 0 v=x'.c)(f: ∀a,D3 h a T0 T1 T2 x' e y->Mod (λc=>c=h.size) hh a->K a):ae hh (⟨h.size,0,none⟩:Q6) v K:=
 b.im (j:=0) (by decide) d f
theorem D3.cL {j:Nat}{v:J0}(a:D3 h hh T0 T1 T2 x e y)(b:x.c[j]? =some v):ag hh ((⟨h.size,0,none⟩:Q6).add j)=some v:=AB a.b0 b
theorem D3.bL {j:Nat}{v:J0}(a:D3 h hh T0 T1 T2 x e y)(b:e.c[j]? =some v):ag hh ((⟨h.size+1,0,none⟩:Q6).add j)=some v:=AB a.b1 b
theorem FH {h:aa}{b:Nat}{T:Q7}{fr:Nat×Nat}{x:bG}(a:h[b]? =some (J2 x.c T fr)):Cells h ⟨b,0,none⟩ x.l:=Cu a rfl
theorem Qc {h:aa}{b:Nat}{T:Q7}{fr:Nat×Nat}{x:Ev}(a:h[b]? =some (J2 x.c T fr)):Cells h ⟨b,0,none⟩ x.l:=Cu a rfl
theorem O9(x y:bG):gr y.c 0 x.l=x.c:=rfl
theorem pG(x y:Ev):gr y.c 0 x.l=x.c:=rfl
theorem pH(x y:bP):gr y.c 0 x.l=x.c:=rfl
theorem D3.jo(a:D3 h hh T0 T1 T2 x e y):ag hh (⟨h.size,0,none⟩:Q6)=some (J4 x.steps.p x.steps.len x.steps.cap)/\ag hh ((⟨h.size,0,none⟩:Q6).add 1)=some (J6 J9 x.az)/\ag hh ((⟨h.size,0,none⟩:Q6).add 2)=some (J6 J9 x.status)/\ag hh ((⟨h.size,0,none⟩:Q6).add 3)=some (J6 J9 x.next)/\ag hh ((⟨h.size,0,none⟩:Q6).add 4)=some (J6 J9 x.aZ)/\ag hh ((⟨h.size,0,none⟩:Q6).add 5)=some (J6 J9 x.asked)/\ag hh ((⟨h.size,0,none⟩:Q6).add 6)=some (J6 J9 x.taken)/\ag hh ((⟨h.size,0,none⟩:Q6).add 7)=some (J3 x.fresh)/\ag hh ((⟨h.size,0,none⟩:Q6).add 8)=some (J4 x.au.p x.au.len x.au.cap)/\ag hh ((⟨h.size,0,none⟩:Q6).add 9)=some (J4 x.al.p x.al.len x.al.cap)/\ag hh ((⟨h.size,0,none⟩:Q6).add 10)=some (J3 x.cancel)/\ag hh ((⟨h.size,0,none⟩:Q6).add 11)=some (J3 x.aQ):=
 ⟨a.cL (j:=0) rfl,a.cL (j:=1) rfl,a.cL (j:=2) rfl,a.cL (j:=3) rfl,a.cL (j:=4) rfl,a.cL (j:=5) rfl,a.cL (j:=6) rfl,a.cL (j:=7) rfl,a.cL (j:=8) rfl,a.cL (j:=9) rfl,a.cL (j:=10) rfl,a.cL (j:=11) rfl⟩
theorem D3.eU {K:bG->Prop}(a:D3 h hh T0 T1 T2 x e y)(b:K x):Az hh ⟨h.size,0,none⟩ K:=Az.mk x (FH a.b0) b
theorem D3.kC {K:Ev->Prop}(a:D3 h hh T0 T1 T2 x e y)(b:K e):Nn hh ⟨h.size+1,0,none⟩ K:=Nn.mk e (Qc a.b1) b
theorem D3.mH {z:bG}{K:aa->Prop}(d:D3 h hh T0 T1 T2 x e y)(g: ∀a,D3 h a T0 T1 T2 z e y->Mod (λc=>c=h.size) hh a->K a):aF hh ⟨h.size,0,none⟩ z.l K:=
 aF.mk d.b0 (A0 12) λa f m s=>g a ⟨d.ext.more m λb i=>by subst i;exact A0 _,(by rw[O9] at f;exact f),m.ah d.b1 (by omega),m.ah d.b2 (by omega)⟩ m
theorem D3.tell {z:bG}{K:bG->aa->Prop}(c:D3 h hh T0 T1 T2 x e y)(g: ∀a,Ext h a->K z a):aF hh ⟨h.size+2,0,none⟩ z.l λd=>Az d ⟨h.size+2,0,none⟩ λi=>K i d:=
 aF.mk c.b2 (A0 12) λa f m s=>Az.mk z (FH (by rw[O9] at f;exact f)) (g a (c.ext.more m λb j=>by subst j;omega))
theorem D3.iO {z:bG}{K:bG->aa->Prop}(d:D3 h hh T0 T1 T2 x e y)(i: ∀a,Ext h a->Mod (λc=>c=h.size+2) hh a->K z a):aF hh ⟨h.size+2,0,none⟩ z.l λf=>Az f ⟨h.size+2,0,none⟩ λj=>K j f:=
 aF.mk d.b2 (A0 12) λa g m s=>Az.mk z (FH (by rw[O9] at g;exact g)) (i a (d.ext.more m λb k=>by subst k;omega) m)
theorem D3.ret {K:bG->aa->Prop}(a:D3 h hh T0 T1 T2 x e y)(d: ∀b,Ext h b->K x b):Az hh ⟨h.size,0,none⟩ λt=>aF hh ⟨h.size+2,0,none⟩ t.l λc=>Az c ⟨h.size+2,0,none⟩ λf=>K f c:=
 a.eU (a.tell d)
theorem D3.oP {K:bG->aa->Prop}(b:D3 h hh T0 T1 T2 x e y)(f: ∀a,Ext h a->Mod (λc=>c=h.size+2) hh a->K x a):Az hh ⟨h.size,0,none⟩ λt=>aF hh ⟨h.size+2,0,none⟩ t.l λd=>Az d ⟨h.size+2,0,none⟩ λg=>K g d:=
 b.eU (b.iO f)
theorem AIX {s:bd}{a b c:Sl}(T:2<=e.kind/\e.kind<=5)(C: ∀n,Ext h n->R (J1 #[(((Dv s e).getD s).V a b c).v,J3 (Dv s e).isSome]) n):AA A P MP #[(s.V a b c).v,e.v] h R:=by
 refine Xx ?_;unfold QV;refine lJ λH d=>?_
 refine ai.mk λK I=>ai.mk λJ L=>?_
 have v: ∀ {t:bd} {hh:aa},D3 h hh Ar A7 Ar (t.V a b c) e bG.z->Dv s e=some t->K () hh:=λ{t hh} d hd=>by
  refine I _ _ (d.ret λn x=>?_);have:=C n x;rw[hd] at this;exact this
 have no: ∀ {hh:aa},D3 h hh Ar A7 Ar (s.V a b c) e bG.z->Dv s e=none->Az hh ⟨h.size,0,none⟩ λt=>aF hh ⟨h.size+2,0,none⟩ t.l λD=>Az D ⟨h.size+2,0,none⟩ λM=>R (J1 #[M.v,J3 false]) D:=λ{hh} d hd=>by
  refine d.ret λn x=>?_
  have:=C n x;rw[hd] at this;exact this
 have key: ∀(o:Bool),(e.kind=2->(o=true↔s.asked=0/\s.taken=0/\s.fresh=true))->(e.kind≠2->o=false)->J (o,()) H:=λo E N=>by
  refine L _ _ (af.intro (λk=>?_) (λk=>?_))
  ·have k:o=true:=k;have g:e.kind=2:=Decidable.byContradiction λh=>by rw[N h] at k;cases k
   refine AC.mk (d.bL (j:=0) rfl) (d.set (x':=({s with asked:=e.id}:bd).V a b c) (by decide) rfl λz m=>v m ?_);unfold Dv;rw[if_pos g,if_pos ((E g).1 k)]
  ·have k:o=false:=k;refine ai.mk λU F=>AC.mk (d.bL (j:=1) rfl) (af.intro (λi=>?_) (λi=>?_))
   ·have i:e.kind=3:=by simpa using i
    refine AC.mk (d.cL (j:=5) rfl) (AC.mk (d.bL (j:=3) rfl) (F _ _ (af.intro (λf=>?_) (λf=>?_))))
    ·have f:s.asked=e.ref:=by simpa using f
     refine AC.mk (d.bL (j:=0) rfl) (d.set (x':=({s with asked:=0}:bd).V a b c) (by decide) rfl λz m=>⟨m.bL (j:=0) rfl,?_⟩);refine m.set (x':=({s with asked:=0,taken:=e.id}:bd).V a b c) (by decide) rfl λO B=>B.set (x':=({s with asked:=0,taken:=e.id,fresh:=false}:bd).V a b c) (by decide) rfl λV Q=>v Q ?_
     unfold Dv;rw[if_neg (by omega),if_pos i,if_pos f]
    ·have f:s.asked≠e.ref:=by simpa using f
     refine ai.mk λS w=>AC.mk (d.bL (j:=1) rfl) (af.no (by simp[i]) (w _ _ (af.no rfl ?_)))
     refine ai.mk λG p=>AC.mk (d.bL (j:=1) rfl) (af.no (by simp[i]) (p _ _ (af.no rfl (no d ?_))))
     unfold Dv;rw[if_neg (by omega),if_pos i,if_neg f]
   ·have i:e.kind≠3:=by simpa using i
    refine F _ _ (af.no rfl (ai.mk λS w=>AC.mk (d.bL (j:=1) rfl) (af.intro (λl=>?_) (λl=>?_))))
    ·have l:e.kind=4:=by simpa using l
     refine AC.mk (d.cL (j:=6) rfl) (AC.mk (d.bL (j:=3) rfl) (w _ _ (af.intro (λf=>?_) (λf=>?_))))
     ·have f:s.taken=e.ref:=by simpa using f
      refine d.set (x':=({s with taken:=0}:bd).V a b c) (by decide) rfl λz m=>v m ?_
      unfold Dv;rw[if_neg (by omega),if_neg i,if_pos l,if_pos f]
     ·have f:s.taken≠e.ref:=by simpa using f
      refine ai.mk λG p=>AC.mk (d.bL (j:=1) rfl) (af.no (by simp[l]) (p _ _ (af.no rfl (no d ?_))))
      unfold Dv;rw[if_neg (by omega),if_neg i,if_pos l,if_neg f]
    ·have l:e.kind≠4:=by simpa using l
     refine w _ _ (af.no rfl (ai.mk λG p=>AC.mk (d.bL (j:=1) rfl) (af.intro (λu=>?_) (λu=>?_))))
     ·have u:e.kind=5:=by simpa using u
      refine AC.mk (d.cL (j:=6) rfl) (AC.mk (d.bL (j:=3) rfl) (p _ _ (af.intro (λf=>?_) (λf=>?_))))
      ·have f:s.taken=e.ref:=by simpa using f
       refine d.set (x':=({s with taken:=0}:bd).V a b c) (by decide) rfl λz m=>m.set (x':=({s with taken:=0,fresh:=true}:bd).V a b c) (by decide) rfl λO B=>v B ?_
       unfold Dv;rw[if_neg (by omega),if_neg i,if_neg l,if_pos f]
      ·have f:s.taken≠e.ref:=by simpa using f
       refine no d ?_;unfold Dv;rw[if_neg (by omega),if_neg i,if_neg l,if_neg f]
     ·have u:e.kind≠5:=by simpa using u
      have g:e.kind=2:=by omega
      refine p _ _ (af.no rfl (no d ?_));unfold Dv;rw[if_pos g,if_neg λh=>by rw[(E g).2 h] at k;cases k]
 refine AC.mk (d.bL (j:=1) rfl) (af.intro (λg=>?_) (λg=>key _ (λh=>by simp[h] at g) λ_=>rfl));have g:e.kind=2:=by simpa using g
 refine AC.mk (d.cL (j:=5) rfl) (af.intro (λq=>?_) (λq=>key _ (λ_=>by simp at q;simp[q]) λh=>absurd g h));have q:s.asked=0:=by simpa using q
 refine AC.mk (d.cL (j:=6) rfl) (af.intro (λr=>?_) (λr=>key _ (λ_=>by simp at r;simp[r]) λh=>absurd g h));have r:s.taken=0:=by simpa using r
 exact Aa.mk (d.cL (j:=7) rfl) (key _ (λ_=>by simp[q,r]) λh=>absurd g h)
theorem Xg {s:bd}{a b c:Sl}{d:Int}(k: ∀g,Ext h g->R ((ig s d).V a ⟨none,0,0⟩ ⟨none,0,0⟩).v g):AA A P IX #[(s.V a b c).v,J6 J9 d] h R:=by
 refine ADb ?_;unfold WU;refine ao.mk λJ _ l n K=>ao.mk λL _ o i M=>?_
 have p:=i.ah l (λh=>h);refine ae.bL (dH:=(({s with status:=d}:bd).V a b c).c) p (of_decide_eq_true rfl) rfl λN q r _=>?_
 refine ae.bL (dH:=(({s with status:=d,asked:=0}:bd).V a b c).c) q (of_decide_eq_true rfl) rfl λO t u _=>?_
 refine ae.bL (dH:=(({s with status:=d,asked:=0,taken:=0}:bd).V a b c).c) t (of_decide_eq_true rfl) rfl λQ v w _=>?_
 refine ae.bL (dH:=(({s with status:=d,asked:=0,taken:=0,fresh:=false}:bd).V a b c).c) v (of_decide_eq_true rfl) rfl λS z B _=>?_
 refine ae.bL (dH:=(({s with status:=d,asked:=0,taken:=0,fresh:=false}:bd).V a ⟨none,0,0⟩ c).c) z (of_decide_eq_true rfl) rfl λT C D _=>?_
 refine ae.bL (dH:=(({s with status:=d,asked:=0,taken:=0,fresh:=false}:bd).V a ⟨none,0,0⟩ ⟨none,0,0⟩).c) C (of_decide_eq_true rfl) rfl λU E F _=>?_
 have m:=((((r.trans u).trans w).trans B).trans D).trans F;have G:=m.ah o (by omega);refine Az.mk (({s with status:=d,asked:=0,taken:=0,fresh:=false}:bd).V a ⟨none,0,0⟩ ⟨none,0,0⟩) (FH E) ?_;refine aF.mk G (A0 12) λH j I V=>Az.mk _ (FH (by rw[O9] at j;exact j)) (k H ?_)
 exact((n.trans i).more m λc f=>by subst f;exact A0 _).more I λc f=>by subst f;omega
theorem pI {s:bd}{a b c:Sl}(k:b.len=s.au.length)(l: ∀j,Ext h j->R (J3 (decide (O7 s))) j):AA A P LD #[(s.V a b c).v] h R:=by
 refine AEN ?_;unfold ZC;refine ao.mk λm _ i n o=>?_
 have g:=l m n;refine AC.mk (AB i rfl) (af.intro (λd=>?_) (λd=>?_))
 ·have d:s.asked=0:=by simpa using d
  refine AC.mk (AB i rfl) (af.intro (λf=>?_) (λf=>?_))
  ·have f:s.taken=0:=by simpa using f
   refine AZ.mk (s:=b) (AB i rfl) ?_;have e:decide (O7 s)=(((b.len:Nat):Int)==(0:Int)):=by rw[k,DS];simp[O7,d,f,TO]
   rw[e] at g;exact g
  ·have f:s.taken≠0:=by simpa using f
   rw[show decide (O7 s)=false from by simp[O7,f]] at g;exact g
 ·have d:s.asked≠0:=by simpa using d
  rw[show decide (O7 s)=false from by simp[O7,d]] at g;exact g
end
end Go.Lf.G
namespace Go.Lf
open Go
structure De (s:bd) (n:Nat):Prop where
 au:s.au.length<=n
 al:s.al.length<=n
 steps:s.prog.steps.length<=16
 az:0<=s.prog.az/\s.prog.az<=16000
 aZ:0<=s.aZ/\s.aZ<=1099511627776
 next:0<=s.next/\s.next<=501
 st:0<=s.status/\s.status<=4
 waits: ∀x∈s.prog.steps,0<=x.wait/\x.wait<=1000
theorem De.zero:De TA 0:=⟨by decide,by decide,by decide,by decide,by decide,by decide,by decide,λx a=>by cases a⟩
theorem AQT {x:bP}(a:NE x=true):0<=x.wait/\x.wait<=1000:=by
 unfold NE at a
 repeat' split at a
 all_goals first|(simp only[A4,DE,decide_eq_true_eq,Ba] at a;omega)|cases a
theorem Ri {a:Ev}(d:Em a=true):(1<=a.kind/\a.kind<=18)/\(1<=a.id/\a.id<=500)/\(0<=a.tick/\a.tick<=1099511627776)/\(a.kind=1-> ∃p,JJ (bl a.data)=some p/\F4 p=true)/\(a.kind=12->Aj a.data=true):=by
 unfold Em at d;rw[A4] at d;obtain⟨c,b⟩:=d;simp only[Ef,A4] at c;refine⟨Ba.1 c.1.1.1.1.1.1.1,Ba.1 c.1.1.1.1.1.1.2,Ba.1 c.1.1.1.1.1.2,λe=>?_,λe=>?_⟩
 ·unfold KG at b;rw[if_pos e] at b;obtain⟨p,f⟩:=Option.isSome_iff_exists.1 b;exact⟨p,f,(w7 f).1⟩
 ·unfold KG at b;rw[if_neg (by omega),if_pos e] at b;exact b
theorem xu {p:ck}(a:F4 p=true):p.steps.length<=16/\(0<=p.az/\p.az<=16000)/\ ∀x∈p.steps,NE x=true:=by simp only[F4,A4,decide_eq_true_eq,Fo] at a;exact⟨a.1.1,Ba.1 a.1.2,a.2⟩
structure lZ (s t:bd):Prop where
 prog:t.prog=s.prog
 next:t.next=s.next
 aZ:t.aZ=s.aZ
theorem QG {s t:bd}{b:Ev}(a:Dv s b=some t):lZ s t/\t.au=s.au/\t.al=s.al/\t.status=s.status:=by
 unfold Dv at a
 repeat' split at a
 all_goals first|(cases a;exact⟨⟨rfl,rfl,rfl⟩,rfl,rfl,rfl⟩)|cases a
theorem xw {s t:bd}{b:Ev}(a:KU s b=some t):lZ s t/\(t.au=s.au\/t.au= [])/\(t.al=s.al\/t.al= [])/\(t.status=s.status\/(1<=t.status/\t.status<=4)):=by
 unfold KU at a
 repeat' split at a
 all_goals first|(cases a;first|exact⟨⟨rfl,rfl,rfl⟩,.inl rfl,.inl rfl,.inl rfl⟩|exact⟨⟨rfl,rfl,rfl⟩,.inr rfl,.inr rfl,.inr (by simp only[ig];omega)⟩)|cases a
theorem xy {s t:bd}{b:Ev}(a:Lm s b=some t):lZ s t/\t.au.length<=s.au.length+1/\t.al=s.al/\t.status=s.status:=by
 unfold Lm at a;split at a
 ·obtain⟨x,c,a⟩:=Option.bind_eq_some_iff.1 a;split at a
  ·cases a
  ·cases a;exact⟨⟨rfl,rfl,rfl⟩,by simp,rfl,rfl⟩
 ·obtain⟨i,d,a⟩:=Option.bind_eq_some_iff.1 a;obtain⟨e,f,a⟩:=Option.bind_eq_some_iff.1 a
  repeat' split at a
  all_goals first|(cases a;exact⟨⟨rfl,rfl,rfl⟩,by first|(simp only[Rr];omega)|(have:=A0v s.au i;simp only;omega),rfl,rfl⟩)|cases a
theorem xA {s t:bd}{b:Ev}(a:KF s b=some t):lZ s t/\t.au=s.au/\t.al.length<=s.al.length+1/\t.status=s.status:=by
 unfold KF at a;split at a
 ·obtain⟨x,c,rfl⟩:=Option.map_eq_some_iff.1 a;exact⟨⟨rfl,rfl,rfl⟩,rfl,by simp,rfl⟩
 ·obtain⟨i,d,rfl⟩:=Option.map_eq_some_iff.1 a;exact⟨⟨rfl,rfl,rfl⟩,rfl,by have:=A0v s.al i;simp only;omega,rfl⟩
theorem AKW {s t:bd}{g:Ev}(a:Ph s g=some t): ∃u:bd,t= {u with next:=s.next+1}/\lZ s u/\u.au.length<=s.au.length+1/\u.al.length<=s.al.length+1/\(u.status=s.status\/(1<=u.status/\u.status<=4)):=by
 unfold Ph at a;obtain⟨u,b,rfl⟩:=Option.map_eq_some_iff.1 a;refine⟨u,rfl,?_⟩;split at b
 ·obtain⟨c,d,e,f⟩:=QG b;exact⟨c,by rw[d];omega,by rw[e];omega,.inl f⟩
 ·split at b
  ·obtain⟨c,d,e,f⟩:=xy b;exact⟨c,d,by rw[e];omega,.inl f⟩
  ·split at b
   ·obtain⟨c,d,e,f⟩:=xA b;exact⟨c,by rw[d];omega,e,.inl f⟩
   ·obtain⟨c,d,e,f⟩:=xw b;exact⟨c,by rcases d with a|a<;>rw[a]<;>simp,by rcases e with a|a<;>rw[a]<;>simp,f⟩
theorem Tp {s:bd}{c:Ev}{g:Nat}(b:De s g)(a:(Bo s c).1=0):De (Bo s c).2 (g+1):=by
 have ok:=Qj a;obtain⟨w,y,j,k,_⟩:=Ri ok;unfold Bo at a ⊢;rw[if_neg (by simp[ok])] at a ⊢;split at a
 ·rename_i f;rw[if_pos f];split at a
  ·rename_i d;rw[if_pos d];obtain⟨p,l,m⟩:=k d.1;obtain⟨n,o,q⟩:=xu m;show De (XR c) _;unfold XR;rw[l,HI];exact⟨AD _,AD _,n,o,j,by show(0:Int)<=2/\(2:Int)<=501;omega,by show(0:Int)<=0/\(0:Int)<=4;omega,λx r=>AQT (q x r)⟩
  ·cases a
 ·rename_i f;rw[if_neg f];split at a
  ·cases a
  ·rename_i d;rw[if_neg d];split at a
   ·cases a
   ·rename_i h;rw[if_neg h];have z:c.id=s.next:=by simpa using h
    cases i:Ph s c with
    |none=>rw[i] at a;cases a
    |some t=>
     obtain⟨u,rfl,e,A,B,v⟩:=AKW i;have C:=b.au;have D:=b.al;exact⟨by show u.au.length<=_;omega,by show u.al.length<=_;omega,by show u.prog.steps.length<=_;rw[e.prog];exact b.steps,by show 0<=u.prog.az/\_;rw[e.prog];exact b.az,by show 0<=u.aZ/\_;rw[e.aZ];exact b.aZ,by show 0<=s.next+1/\s.next+1<=501;omega,by
      have:=b.st;show 0<=u.status/\u.status<=4;rcases v with a|a<;>omega,by show ∀x∈u.prog.steps,_;rw[e.prog];exact b.waits⟩
theorem UV: ∀ {l:List Ev} {s t:bd} {a:Nat},De s a->Eo s l=some t->De t (a+l.length)
 | [],s,t,a,c,b=>by cases b;exact c
 |e::l,s,t,a,c,b=>by
  rw[Eo] at b;split at b
  ·rename_i d;have:=UV (Tp c d) b;rw[A5];rw[show a+(l.length+1)=a+1+l.length from by omega];exact this
  ·cases b
end Go.Lf
namespace Go.Lf
open Go
variable {α : Type} {E : cD α} {A : aq} {P : Q1}
theorem Mod.mod {d:Nat->Prop}{b c:aa}(a:Mod (λ_=>False) b c):Mod d b c:=a.aj λ_ _ b=>b.elim
def xC(A:aq)(P:Q1)(t f:Q7)(c:Nat)(s:Sl)(i:Int)(b:Int)(d:aa)(e:A2K):Prop:=
 aH ((0:Int)<=((s.len:Nat):Int)/\((s.len:Nat):Int)<=((s.cap:Nat):Int))<|
 aH ((0:Int)<=b/\b<=(((((s.len:Nat):Int).toNat):Nat):Int))<|
 aH ((0:Int)<=i/\i<=((b.toNat:Nat):Int))<|
 af (i==b) (
  e (.slice s.p s.len s.cap) d) (
  aH ((0:Int)<=i/\i<=((s.cap:Nat):Int))<|
  aH ((0:Int)<=b/\b<=((s.len:Nat):Int))<|
  BJ A P (Builtin.append_ #[t,t] t #[.slice (BA s.p s.cap 0 c) (i.toNat-0) (s.cap-0),.slice (BA s.p s.cap b.toNat c) (s.len-b.toNat) (s.cap-b.toNat)]) d λv g=> ∃a:Sl,v= .slice a.p a.len a.cap/\(
  aH ((0:Int)<=((s.len:Nat):Int)/\((s.len:Nat):Int)<=((a.cap:Nat):Int))<|
  aH ((0:Int)<=((a.len:Nat):Int)/\((a.len:Nat):Int)<=((((s.len:Nat):Int).toNat:Nat):Int))<|
  BJ A P (Builtin.clear_ #[t] f #[.slice (BA a.p a.cap (((a.len:Nat):Int).toNat) c) ((((s.len:Nat):Int).toNat)-(((a.len:Nat):Int).toNat)) (a.cap-(((a.len:Nat):Int).toNat))]) g λv1 h=>v1= .tuple #[]/\(
  e (.slice a.p a.len a.cap) h)))
theorem AS3 {t m T:Q7}{a:J0}(o:P.underlying t=some (.slice T))(p:(zeroValue T).calc P=some a)(f: ∀v∈a.cells.toList,ME v=true){d:aa}{b e q:Nat}{g:Array J0}{K:A2K}
  (h:d[b]? =some (.cells g T (0,0))) (B:e+a.cells.size<=g.size)
  (r: ∀c,c[b]? =some (.cells (gX g e a.cells.toList) T (0,0))->Mod (· =b) d c->c.size=d.size->K (.tuple #[]) c):
  BJ A P (Builtin.clear_ #[t] m #[.slice (some ⟨b,e,none⟩) 1 q]) d K:=by
 intro n;have s:(Builtin.zeroCells a.cells 1).toList=a.cells.toList:=by
  unfold Builtin.zeroCells;rw[IS];apply List.ext_getElem
  ·simp
  ·intro i f C;simp at f;simp[An f,f]
 have j:=run_storeCells_cells (P:=P) b e a.cells.toList 0 (A.at d n)
  (λk l=>by
   show(ag d ⟨b,e+0+k,none⟩).isSome=true;rw[Hw h,Ft (by simp at l;omega)];rfl)
  (λk l=>PL h) (λv u=>PQ (f v u))
 obtain⟨c,w,x,y,z⟩:=cS (A:=A) a.cells.toList e (n:=n) h;rw[G0,w] at j;refine⟨.tuple #[],c,n,?_,r c x y z⟩;simp[Builtin.clear_,BN o,Dh p,s,j,Result.andThen]
theorem ANb {l:List α}{a:Nat}:(l.flatMap E.enc).take (a*E.w)=(l.take a).flatMap E.enc:=by
 induction l generalizing a with
 |nil=>simp
 |cons x l b=>
  cases a with
  |zero=>simp
  |succ a=>
   rw[AH,I0,AH,KB,E.len,AF (by rw[E.len,By];omega),By,IS,N3,b]
theorem ANg {l:List α}{a:Nat}:(l.flatMap E.enc).drop (a*E.w)=(l.drop a).flatMap E.enc:=by
 induction l generalizing a with
 |nil=>simp
 |cons x l b=>
  cases a with
  |zero=>simp
  |succ a=>
   rw[AH,HU,R1,E.len,HD (by rw[E.len,By];omega),By,IS,N3,b,CM]
theorem xD {t Q T:Q7}{zv:J0}{R:Nat}(S:QF P t T E.w R=true)(U:(zeroValue T).calc P=some zv)(V: ∀v∈zv.cells.toList,ME v=true)(D:zv.cells.size=E.w){c:aa}{s:Sl}{l:List α}{i:Nat}{F:A2K}
  (G:Own E T c s l) (H:i<l.length)
  (W: ∀r,Own E T r ⟨s.p,l.length-1,s.cap⟩ (l.eraseIdx i)->Mod (λb=>s.ah=some b) c r->F (.slice s.p (l.length-1) s.cap) r):xC A P t Q E.w s (i:Int) ((i+1:Nat):Int) c F:=by
 obtain⟨I,X,z,Y,az,w,aA,aC⟩:=qv S;have J:=G.len;rcases G.row with⟨rfl,rfl⟩|⟨g,n,f,y,Z,ab,j,K⟩
 ·simp at H
 have ac:s.len*E.w<=s.cap*E.w:=AN _ Z;unfold xC;refine⟨⟨by omega,by omega⟩,⟨by omega,by omega⟩,⟨by omega,by omega⟩,af.no (by simp;omega) ⟨⟨by omega,by omega⟩,⟨by omega,by omega⟩,?_⟩⟩;rw[A6,A6,A6,HA,HA];have ad:BA s.p s.cap 0 E.w=some ⟨g,0,none⟩:=by unfold BA;rw[if_neg (by omega),f];simp[Bf]
 rw[ad]
 let m:=s.len-(i+1)
 let e:List J0:=(l.drop (i+1)).flatMap E.enc
 have nl:e.length=m*E.w:=by simp only[e,m];rw[Jo,DQ,J]
 obtain⟨a,ae,ah⟩: ∃a,BA s.p s.cap (i+1) E.w=some a/\ ∀h u,e[h]? =some u->(A.at c 0).cell? (a.add h)=some u:=by
  unfold BA;by_cases L:s.cap=i+1
  ·rw[if_pos L,f];refine⟨_,rfl,λh u d=>?_⟩;have:m=0:=by simp only[m];omega
   have d:=(List.getElem?_eq_some_iff.1 d).1;rw[nl,this] at d;omega
  ·rw[if_neg L,f];refine⟨_,rfl,λh u d=>?_⟩;show ag c ((Addr.add ⟨g,0,none⟩ ((i+1)*E.w)).add h)=some u;rw[Bf,Bf,AI,Hw y];simp only[e] at d;rw[<- ANg,C5,<-K,Fc] at d;split at d
   ·simpa using d
   ·cases d
 rw[ae];intro o;have ai: ∀u∈e,u.oneCell'=true:=λu aj=>by
  obtain⟨x,_,ak⟩:=List.mem_flatMap.1 aj;exact PQ (E.one x u ak)
 have al:i*E.w+m*E.w<=s.cap*E.w:=by rw[<- By];exact AN _ (by simp only[m];omega)
 have M:=run_append_room (P:=P) (A.at c o) t t T X I Y g i s.cap n y a m (s.cap-(i+1)) e (by rw[nl,w]) (λh u d=>ah h u d) ai (by simp only[m];omega) (by rw[w,nl,j];exact al);rw[w] at M
 let row:Array J0:=(n.toList.take (i*E.w)++e++n.toList.drop (i*E.w+e.length)).toArray
 obtain⟨k,am,an,ao,aD⟩: ∃k,(A.at c o).setRow g row=A.at k o/\k[g]? =some (.cells row T (0,0))/\Mod (· =g) c k/\k.size=c.size:=by
  refine⟨_,rfl,?_,⟨?_,λb p ap=>?_⟩,?_⟩
  ·show(c.modify g _)[g]? =_;rw[GC,if_pos rfl,y];rfl
  ·show c.size<=(c.modify g _).size;simp
  ·show(c.modify g _)[b]? =_;rw[GC,if_neg (Ne.symm ap)]
  ·show(c.modify g _).size=_;simp
 refine⟨_,k,o,M.trans (by rw[<- am]),⟨some ⟨g,0,none⟩,i+m,s.cap⟩,rfl,⟨by omega,by show((s.len:Nat):Int)<=((s.cap:Nat):Int);omega⟩,⟨by omega,by show((i+m:Nat):Int)<=_;simp only[m];omega⟩,?_⟩;have B:i+m=l.length-1:=by simp only[m];omega
 dsimp only[Int.toNat_natCast];rw[B];have aq:BA (some ⟨g,0,none⟩) s.cap (l.length-1) E.w=some ⟨g,(l.length-1)*E.w,none⟩:=by unfold BA;rw[if_neg (by omega)];simp[Bf]
 rw[aq,show s.len-(l.length-1)=1 from by omega];have q:row.size=n.size:=by simp only[row,List.size_toArray,A1,Ax,DQ,DO];rw[nl];omega
 have N:(l.length-1)*E.w+E.w<=s.cap*E.w:=by rw[show(l.length-1)*E.w+E.w=l.length*E.w from by rw[<- Nat.succ_mul];congr 1;omega,<-J];exact ac
 refine AS3 I U V an (by rw[q,D,j];exact N) λO ar au aE=>⟨rfl,?_⟩
 rw[<- f];have av:Mod (λb=>s.ah=some b) c O:=(ao.aj λb _ p=>by subst p;simp[Sl.ah,f]).trans (au.aj λb _ p=>by subst p;simp[Sl.ah,f]);refine W O ⟨by rw[List.length_eraseIdx,if_pos H],.inr ⟨g,_,f,ar,by show l.length-1<=s.cap;omega,ab,?_,?_⟩⟩ av
 ·show(gX _ _ _).size=s.cap*E.w;rw[IV,q,j]
 ·show(gX row ((l.length-1)*E.w) zv.cells.toList).toList.take ((l.length-1)*E.w)=_;have aw:zv.cells.toList.length=E.w:=by rw[DO,D]
  have C:row.size=s.cap*E.w:=by rw[q,j]
  rw[OM _ _ _ (by rw[aw,C];exact N),A3,KB];have ax:(l.length-1)*E.w<=row.toList.length:=by
   have C:row.toList.length=s.cap*E.w:=by rw[DO,q,j]
   rw[C];omega
  rw[Ax,Fm ax,Mu,I3,AM,Sh,Nat.min_self];simp only[row];have ay:i*E.w<=n.toList.length:=by rw[DO,j];omega
  rw[A3,KB,Ax,Fm ay,AF (by rw[Ax,<-B,By];omega)];rw[<- B,By,Ts,<-nl,KB,Mu,I3,AM,AF (A0 _)];rw[List.eraseIdx_eq_take_drop_succ,G3,<-ANb,<-K,Sh,Fm (AN _ (by omega))]
end Go.Lf
