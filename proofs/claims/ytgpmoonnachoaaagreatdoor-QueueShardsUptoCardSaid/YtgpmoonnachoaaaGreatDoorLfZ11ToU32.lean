/-
 Contract: what is in memory goes into a table (chapter 9).
-/
import Derived.Test.YtgpmoonnachoaaaGreatDoorLfU15ToZ10
import Derived.Lib.AtoiAllCases
import Derived.Test.YtgpmoonnachoaaaGreatDoorLfU2ToS3
import Derived.Test.YtgpmoonnachoaaaGreatDoorCards
import Derived.Test.YtgpmoonnachoaaaGreatDoorTie
import Derived.Deep.DeepHandedRow
import Derived.Lib.LaidTab
import Derived.Stop.LaidErr
import Derived.Test.YtgpmoonnachoaaaGreatDoorLfX2ToS5
import Derived.Test.YtgpmoonnachoaaaGreatDoorRows
import Derived.WalkKit
import Derived.ProofKit
import Derived.OpenShut
import Derived.JoinedCond
import Derived.Deep.Slices
import Derived.Carry
import Derived.Test.YtgpmoonnachoaaaGreatDoorLfG1
import Derived.Test.YtgpmoonnachoaaaGreatDoorLfKToGA
set_option maxRecDepth 100000
set_option linter.unusedVariables false
set_option linter.unusedSimpArgs false
open Go.IntKind renaming i64→J9,wrap→J8
open Go.Value renaming string→J7,int→J6,pointer→J5,slice→J4,bool→J3,tuple→J1
open Go.Obj renaming cells→J2
open Go renaming Value→J0,Addr→Q6,TypeId→Q7,FuncId→Q8,Program→Q1
open Go.Addr renaming add→Q9,mk→Q5
namespace Go.Lf.G
open Go
open M (Sorted Af CY A9 Ag Ar BU Ai bC BH)
section
variable {A : ar} {B : cI} {g h : aa} {q : Hp} {k : Nat -> Nat} {st : Db} {m : Bx} {D : Br} {aJ c : Nat} {R : A2O}
theorem Es.sk {d:bQ}(L:Es d st D)(l:Sv st D aJ c)(hA:aJ<=100000){a:Nat}(e:st.az<a):D.L a= []:=by
 by_cases b:a<=99999999
 ·exact L.ok.jF b (L.gF a (by omega) b λ_=>by omega)
 ·exact L.ok.gG (.inr (by have:=l.aR;omega))
theorem AMp {F:bQ}{made:Bool}{m:Bx}{s:Nat}(hd:m.down=false)(d:made=true-> ∃b,ff m (aD nl s)=some (b,bG)):(m.fuel=0/\NG m (aD nl s) made=(30,NQ m))\/((NG m (aD nl s) made).1=0/\JP m (NG m (aD nl s) made).2/\ ∀x,ff (NG m (aD nl s) made).2 x=ff m x):=by
 cases made with
 |false=>exact .inr ⟨rfl,JP.refl hd,λx=>rfl⟩
 |true=>
  obtain⟨b,e⟩:=d rfl;rcases OX hd e with a|⟨a,f,i⟩
  ·exact .inl a
  ·refine .inr ⟨a,f,λx=>?_⟩;show ff (Hg m (aD nl s)).2 x=_
   simp_all [YW]
theorem AN8 {m:Bx}(g:G9 m)(k:A2P)(made:Bool):bj (NG m k made).2.files<=bj m.files:=by
 cases made with
 |false=>exact A0 _
 |true=>exact od g k
theorem AQg {a b x:Nat}(d:b<=a+x):b+1000000<=a+(x+1000000):=by omega
theorem AOR(a:Nat):8400*a+1100001+1000000<=20000*a+10000000:=by omega
theorem APd(aX:bZ g)(S:Bw B g h q k st m D aJ c)(hA:aJ+2<=B.A)
  (be: ∀h' an,oJ B h h' q k m an (aJ+2)->kC (ff an) (aJ+2) c (Cm st)->R (J6 J9 30) h')
  (ca: ∀h' bf bH bI an r,bf.d=q.d->bf.b=q.b->Bw B g h' bf bH bI an r (aJ+2) c->JP m an->bI.fr= []->Cm bI=Cm st->(bI.ts.length<=3\/bI.ts.length=st.ts.length)->(∀ v,¬di v->ff an v=ff m v)->Mod (λc=>k c≠0) h h'->(∀ c,bH c≠0->k c≠0\/h.size<=c)->R (J6 J9 0) h'):
  AA A P Oh #[Aq q.d] h R:=by
 have dO:=S;obtain⟨V,hd,L,l,aZ,b⟩:=S;have fQ:=B.hA;have dP:=B.hC;have dQ:=B.wt (a:=aJ) (by omega);have dR:=L.dm l;have fR:=l.next;have fS:=l.aL;have fT:=l.az;have fU:=l.aR;have fV:=l.aX;have fW:=L.eN;have fX:=l.cp;have dS:=L.iW l;have a0:st.next∉st.ts.map (·.1):=λcb=>by
  obtain⟨p,ai,e⟩:=List.mem_map.1 cb;have:=L.below p ai;omega
 refine AA9 ?_;unfold Td;refine aj.mk λK dT=>Yy V (dT _ _ (ag.no rfl ?_))
 refine aE (AY.mk (AB V.cell rfl) ?_);refine M.sn V.fresh ⟨_,_,rfl,?_⟩;refine ag.intro (λbJ=>?_) (λbJ=>?_)
 ·have o:st.fr= []:=CC (by have:((st.fr.length:Nat):Int)=0:=(by simpa using bJ);omega);exact ca h q k st m D rfl rfl (dO.aJ (by omega)) (JP.refl hd) o rfl (.inr rfl) (λ_ _=>rfl) Mod.refl (λc b=> .inl b)
 have dU:st.fr≠ []:=λe=>by
  rw[e] at bJ;cases bJ
 have bK:G6 st.fr:=⟨dU,λx E=>oL (V.fresh.aT x E),V.fresh.sorted,by omega⟩;have fY:=ALw bK;have dV:(Jd st.fr).length<=8400*B.C+1100000:=by omega
 refine aE (AC.mk (AB V.cell rfl) (aE (AY.mk (AB V.cell rfl) ?_)));refine M.sq V.fresh λfv w cR cS cT=>⟨_,rfl,⟨AB (V.on cS).cell rfl,?_⟩⟩
 rw[M.se] at cR;refine M.Wd cR (λ_ _=>rfl) (by omega) λcc Y cU fZ dW=>⟨cc,rfl,?_⟩
 have bL:=cS.trans dW;have bM:=V.on bL;have f0:=bL.size;refine⟨AB bM.cell rfl,?_⟩;refine zT (n:=st.next) aX bM hd bK cU.view (λc b=>cU.lt b) (by omega) dS (ASZ dV aZ dQ dP) (λbg ax ay ac dX dY bO dZ a1 d0=>⟨_,_,rfl,ag.yes rfl ?_⟩) λax ay bP ac t aM aN ak cd a1 d0 cV f1 f2 cW bO bR=>⟨_,_,rfl,ag.no rfl ?_⟩
 ·refine JW bM dX (bO.ak λc _ b=> .inl b) dZ λd1 d2 d3 d4 d5=>⟨_,rfl,?_⟩
  have ce:=L.jE (F':=ff ac) (l.mono (Iv aJ 2) (A0 _)) (λx E=>a1 x (E _ a0)) λn u=>by
   by_cases e:n=st.next
   ·omega
   ·rw[a1 _ λaO=>e (JR aO)] at u;have:=L.fB l u;omega
  have bh:bj ac.files<=bj m.files+(8400*B.C+1100001):=by omega
  have H:=B.step2 aZ bh (Iv _ _);exact be d1 ac ⟨bg,d2,⟨ay,d3,λc b=>(d5 c b).imp id λh=>by omega⟩,dY,(Ext.mod bL).trans d4,λv I=>a1 v (Qr I _),AE H (Lk (AN _ (BW _)) _)⟩ ce.2
 have f3:=bO.size;have f4:=cV.fB;have cX:Mod (λc=>k c≠0) h ax:=(Ext.mod bL).trans (bO.ak λc _ b=>by rw[V.kb c b];decide);have bi: ∀x,x≠aY st.next->ff ac x=ff m x:=λx E=>by rw[a1,if_neg E]
 have cY:bj ac.files<=bj m.files+(8400*B.C+1100001):=by omega
 have d6: ∀n,ff ac (aD nl n)=ff m (aD nl n):=λn=>bi _ (Lu n _)
 have cZ: ∀ {F':bQ},(∀ n,F' (aY n)≠none->ff ac (aY n)≠none)-> ∀n,F' (aY n)≠none->n<8*(aJ+1)+8:=λad n u=>by
  by_cases e:n=st.next
  ·omega
  ·have o:=ad n u;rw[bi _ λaO=>e (JR aO)] at o;have:=L.fB l o;omega
 refine aE (AY.mk (AB ak.cell rfl) ?_);have c0:=AMp (F:=ff m) (made:=st.br) (s:=st.az) cd.up λcb=>⟨_,by rw[d6];exact L.jD cb⟩
 refine Wu (ak.ib aX) ak.log ak.box ak.lA (by decide) (by omega) (λd7 J bT c1 a2=>⟨_,_,rfl,?_⟩) λc3 J bT c1 a2=>⟨_,_,rfl,?_⟩
 ·rcases c0 with⟨c5,a3⟩|⟨a3,_,_⟩
  ·rw[a3] at bT ⊢;refine ag.yes rfl ?_;refine JW (q:= {q with Sb:=ay}) ak bT (a2.ak λc _ b=> .inl b) (λc b=> .inl b) λd8 d9 ea eb ec=>⟨_,rfl,?_⟩
   have ce:=L.jE (F':=ff (NQ ac)) (l.mono (Iv aJ 2) (A0 _)) (λx E=>bi x (E _ a0)) λn u=>by
    have:=cZ (F':=ff (NQ ac)) (λn u=>u) n u;omega
   have H:=B.step2 aZ cY (Iv _ _);refine be d8 (NQ ac) ⟨(λz=>by have:=cd.calm z;rw[c5] at this;cases this),d9,⟨ay,ea,λc b=>?_⟩,rfl,cX.then (eb.ak λc _ b=>?_),λv I=>bi v (Qr I _),AE H (Lk (AN _ (BW _)) _)⟩ ce.2
   ·rcases ec c b with o|o
    ·by_cases Z:c<Y.size
     ·rw[bR c Z] at o;exact .inl o
     ·exact .inr (by omega)
    ·exact .inr (by omega)
   ·by_cases Z:c<Y.size
    ·rw[bR c Z] at b;exact .inl b
    ·exact .inr (by omega)
  ·exact absurd a3 d7
 refine ag.no rfl ?_;rcases c0 with⟨c5,a3⟩|⟨a3,ed,ee⟩
 ·rw[a3] at c3;cases c3
 have ef:=AN8 ak.box.aT (aD nl st.az) st.br;have ae:=ak.boxed (j:=3) (bI:= {st with az:=st.az+1,br:=false}) bT (a2.ak λc _ b=>b.imp id λh=> .inl ⟨rfl,h⟩) (λc b=> .inl b) rfl rfl rfl rfl (.inr c1) (.inl ⟨by decide,rfl⟩);generalize (NG ac (aD nl st.az) st.br).2=ab at*
 have f5:=a2.size;have c6: ∀c,c<ax.size->Ld bP ax.size ay 2 c=bP c:=λc b=>GK b
 generalize Ld bP ax.size ay 2=ap at*
 have eg:Mod (λc=>k c≠0) h J:=cX.then (a2.ak λc _ b=>by
  have o:bP c≠0:=by
   rcases b with b|b
   ·rw[ak.kb c b];decide
   ·rw[b,ak.kl];decide
  by_cases Z:c<Y.size
  ·rw[bR c Z] at o;exact .inl o
  ·exact .inr (by omega))
 have cf: ∀c,ap c≠0->k c≠0\/h.size<=c:=λc b=>by
  by_cases Z:c<Y.size
  ·rw[c6 c (by omega),bR c Z] at b;exact .inl b
  ·exact .inr (by omega)
 have cg: ∀c,J.size<=c->ap c=0:=λc b=>Decidable.byContradiction λh=>by
  have:=(ae.own c h).2;omega
 have ch: ∀c,aM<=c->c<aN->ap c=0:=λc aq c2=>by rw[c6 c (by omega)];exact cW c aq
 have ci: ∀x,ff ab x=ff ac x:=ee;have a4: ∀x,x≠aY st.next->ff ab x=ff m x:=λx E=>(ci x).trans (bi x E)
 have eh:ff ab (aY st.next)=some (AX (Jd st.fr),bG):=by rw[ci,a1,if_pos rfl]
 have cj:JP m ab:=cd.trans ed;have bh:bj ab.files<=bj m.files+(8400*B.C+1100001):=AE ef cY;have ei:BJ (ff ab) D:=L.ok.fX λx E=>a4 x (E st.next (by rw[L.names];exact a0))
 have c7: ∀ {F':bQ},(∀ n,F' (aY n)≠none->ff ab (aY n)≠none)-> ∀n,F' (aY n)≠none->n<8*(aJ+1)+8:=λad n u=>cZ (F':=ff ab) (λn u=>by rw[<- ci];exact u) n (ad n u)
 have ej: ∀(z:aa) (y:Hp) (ck:Nat->Nat),bN g z y ck {st with ts:=(st.next,st.fr)::st.ts,next:=st.next+1,aW:=st.az+1,az:=st.az+1,br:=false} ab->y.d=q.d->y.b=q.b->Mod (λc=>k c≠0) h z->(∀ c,ck c≠0->k c≠0\/h.size<=c)->
   AA A P Js #[Aq y.d] z λek c8=> ∃cl:Int,ek=J6 J9 cl/\(
         ag (cl != (0:Int)) (
          AA A P Cg #[Aq y.d,J6 J9 cl] c8 λel en=> ∃c9:Int,el=J6 J9 c9/\(
          R (J6 J9 c9) en)) (
          AA A P QM #[] c8 λeo da=> ∃db:Q2,eo=J5 db/\(
          At (some (⟨y.d,0,none⟩:Q6)) λep=>
          af da (ep.add 3) (J5 db) λar=>
          At (some (⟨y.d,0,none⟩:Q6)) λeq=>
          AY ar (eq.add 1) λer=>
          AA A P JI #[J5 er,J6 J9 (st.az:Int)] ar λes av=> ∃cm:Int,es=J6 J9 cm/\(
          ag (cm != (0:Int)) (
           AA A P Cg #[Aq y.d,J6 J9 cm] av λet cn=> ∃dc:Int,et=J6 J9 dc/\(
           R (J6 J9 dc) cn)) (
           At (some (⟨y.d,0,none⟩:Q6)) λeu=>
           AZ av (eu.add 4) λev=>
           ag (decide (((ev.len:Nat):Int)>=(4:Int))) (
            AA A P JZ #[Aq y.d] av λew ex=> ∃dd:Int,ew=J6 J9 dd/\(
            R (J6 J9 dd) ex)) (
            R (J6 J9 0) av)))))):=by
  intro z y ck bk bm aA bU a5;have ey:gZ (cQ {st with ts:=(st.next,st.fr)::st.ts,next:=st.next+1,aW:=st.az+1,az:=st.az+1,br:=false}):=by
   refine⟨by show st.next+1<=_;omega,by show 1<=st.az+1/\st.az+1<=_;omega,?_,λn u=>?_,?_⟩
   ·show((st.next,st.fr)::st.ts |>.map (·.1)).length<=_;simp;omega
   ·show n<st.next+1;rcases List.mem_cons.1 u with rfl|u
    ·exact Hj _
    ·obtain⟨p,ai,rfl⟩:=List.mem_map.1 u;have:=L.below p ai;omega
   ·exact List.nodup_cons.2 ⟨a0,L.nd⟩
  have ez: ∀n∈st.next::st.ts.map (·.1),ff ab (aY n)=some (AX (Jd ((KN D.T st.next st.fr) n)),bG)/\G6 ((KN D.T st.next st.fr) n):=λn u=>by
   by_cases e:n=st.next
   ·subst e;rw[EK];exact⟨eh,bK⟩
   ·rw[F4 e,a4 _ λaO=>e (JR aO)];rcases List.mem_cons.1 u with o|o
    ·exact absurd o e
    ·exact L.ok.cO n (by rw[L.names];exact o)
  have de: ∀r:Br,r.T=KN D.T st.next st.fr->(st.next::st.ts.map (·.1)).map r.T=st.fr::aG st:=λr bV=>by
   rw[B9,bV,EK];congr 1;rw[<- L.aG,L.names];refine CD λn u=>F4 λe=>a0 (e▸u)
  have df: ∀r:Br,r.L=D.L->r.aR=D.aR->Ao r=cQ {st with ts:=(st.next,st.fr)::st.ts,next:=st.next+1,aW:=st.az+1,az:=st.az+1,br:=false}->r.T=KN D.T st.next st.fr->cC r=Cm st/\N7 r<=c/\Em r= []:=λr eA dg a6 bV=>by
   have aA:=ANO (f:=st.az+1) eA dg (by rw[a6];rfl) λn u=>L.sk l (by omega) (by omega)
   have dh:Em r= []:=by unfold Em;rw[aA];rfl
   have dj:(Ao r).names=st.next::st.ts.map (·.1):=by rw[a6];rfl
   refine⟨?_,?_,dh⟩
   ·unfold cC;rw[dh,dj,de r bV];exact AHu V.fW
   ·unfold N7;rw[aA,dj];have C:((st.next::st.ts.map (·.1)).map λn=>(r.T n).length)=((st.next::st.ts.map (·.1)).map r.T).map List.length:=by rw[AT];rfl
    rw[C,de r bV];have:((st.fr::aG st).map List.length).sum=st.fr.length+M.total (aG st):=by simp[M.total]
    rw[this];simpa using dR
  have dk: ∀(r:Br) (F':bQ),BJ F' r->r.aR=D.aR->r.aX<=max D.aX (st.aL+1)->Ao r=cQ {st with ts:=(st.next,st.fr)::st.ts,next:=st.next+1,aW:=st.az+1,az:=st.az+1,br:=false}->cC r=Cm st->N7 r<=c->(∀ n,F' (aY n)≠none->ff ab (aY n)≠none)->Rec F' (aJ+1) c (Cm st):=λr F' o dg u a6 eC eD ad=>by
   refine⟨r,o,⟨by omega,by omega,?_,?_,?_,eD,c7 ad⟩,eC⟩
   ·rw[a6];show st.next+1<=_;omega
   ·rw[a6];show st.az+1<=_;omega
   ·rw[a6];show((st.next,st.fr)::st.ts |>.map (·.1)).length<=_;simp;omega
  have eF:bj ab.files+1000000<=8000000000000:=by have o:=B.wt (a:=aJ+1) (by omega);have H:bj ab.files+1000000<=B.W0+(aJ+1)*B.K:=B.step (d:=8400*B.C+1100001+1000000) aZ (AQg bh) (AOR B.C);exact AE H o
  have dl: ∀ {dm:Nat},dm<=B.W0+(aJ+1)*B.K->dm<=B.W0+(aJ+2)*B.K:=λh=>AE h (Lk (AN _ (BW _)) _)
  refine zU (T:=KN D.T st.next st.fr) aX bk cj.up ei ey ez ⟨L.aL,by show st.aL+2<=_;omega⟩ (λn W ah=>by rw[a4 _ (QY n _)];exact L.jC n W ah) eF
   (λbg w co al eG eH bW cT eI a7 cp=>⟨_,rfl,ag.yes rfl ?_⟩) λw co cq al D3 cr dn dp a8 dq eJ cs eK a7 eL cp bW eM=>⟨_,rfl,ag.no rfl ?_⟩
  ·refine JW bk eG (bW.ak λc _ b=>b.imp id .inr) cT λY eN eO eP cc=>⟨_,rfl,?_⟩
   have eQ:Mod (λc=>k c≠0) h Y:=bU.then (eP.ak λc _ b=>a5 c b);refine be Y al ⟨λz=>bg (cj.calm z),by rw[<- bm];exact eN,⟨co,by rw[<- aA];exact eO,λc b=>?_⟩,eH,eQ,λv I=>?_,dl (B.step2 aZ bh cp)⟩ λG bn=>?_
   ·rcases cc c b with o|o
    ·exact a5 c o
    ·exact .inr (by have:=bU.size;omega)
   ·rw[a7 v λn=>l9 I n,a4 v (Qr I _)]
   ·obtain⟨r,dr,nx⟩:=eI G bn;have ds: ∀n,G (aY n)≠none->ff ab (aY n)≠none:=λn u=>by
     have:=bn.some u;rwa [a7 _ λj e=>QY j n e.symm] at this
    have bX:r.aX<=max D.aX (st.aL+1):=nx.aX;rcases nx.last with⟨am,C⟩|⟨am,C⟩
    ·obtain⟨bo,bY⟩:=AHf nx.L nx.aR am C;have:=L.next;have eR:Rec G (aJ+1) c (Cm st):=⟨r,dr,⟨by rw[nx.aR];omega,by omega,by rw[am];omega,by rw[am,L.aW];omega,by rw[am,L.iD];omega,by rw[bY];exact l.bY,c7 ds⟩,by rw[bo];exact L.map⟩;exact eR.mono (BW _) (A0 _)
    ·obtain⟨bo,bY,_⟩:=df r nx.L nx.aR am C;exact(dk r G dr nx.aR bX am bo bY ds).mono (BW _) (A0 _)
  ·obtain⟨bo,bY,eS⟩:=df D3 eJ cs a8 dq;have f6:=bW.size;have bX:D3.aX<=max D.aX (st.aL+1):=eK;have ct:bj al.files<=B.W0+(aJ+1)*B.K:=B.step2 aZ bh cp;have dt:JP m al:=cj.trans dn;have du:Mod (λc=>k c≠0) h w:=bU.then (bW.ak λc _ b=>by
    rcases b with b|b
    ·exact a5 c (by rw[bk.kb c b];decide)
    ·exact a5 c (by rw[b,bk.kn];decide))
   have eT: ∀c,cq c≠0->k c≠0\/h.size<=c:=λc b=>by
    by_cases Z:c<z.size
    ·rw[eM c Z] at b;exact a5 c b
    ·exact .inr (by have:=bU.size;omega)
   refine M.sr λda eU cu f7=>⟨_,rfl,?_⟩
   have eV:=cr.on cu;refine aE (af.dt eV.cell (by simp) λar eW cv f8=>?_);have eX:M.cW ar w.size [] []:=eU.mod cv λc b e=>by
    have f9:c=w.size:=by
     rcases b with rfl|⟨x,E,_⟩
     ·rfl
     ·cases E
    have:=cr.ia;have C:(y.d:Nat)<w.size:=this;have ga:c=y.d:=e;omega
   have dv:Mod (λc=>c=w.size\/c=y.d) w ar:=(Ext.mod cu).trans (cv.ak λc _ b=> .inr b);have aw:=cr.renew (h':=ar) (gH:=w.size) eX (A0 _) (by simpa [eB] using eW) (by
    refine⟨dv.size,λc b u=>?_⟩;exact dv.get c b (by rintro(h|h);omega;exact u h))
   have cw:Mod (λc=>k c≠0) h ar:=(du.trans (Ext.mod cu)).then (cv.ak λc _ b=>by
    have e:c=y.d:=b;rw[e];exact a5 _ (by rw[bk.kd];decide))
   have b0: ∀c,Ld cq w.size (· =w.size) 5 c≠0->k c≠0\/h.size<=c:=λc b=>by
    by_cases Z:c<w.size
    ·rw[GK Z] at b;exact eT c b
    ·exact .inr (by have:=du.size;omega)
   generalize Ld cq w.size (· =w.size) 5=dw at*
   refine aE (AY.mk (AB aw.cell rfl) ?_);have gb:=cw.size;have eY:bj al.files<=8000000000000:=AE ct (B.wt (a:=aJ+1) (by omega));have cx: ∀x,x≠aY st.next->(∀ n,x≠aD nn n)->ff al x=ff m x:=λx o H=>(a7 x H).trans (a4 x o)
   have eZ:(Ao D3).aW=st.az+1:=by rw[a8];rfl
   have dx: ∀ {F':bQ},(∀ x,F' x=ff al x\/(F' x=none/\ ∃n:Nat,1<=n/\n<=99999999/\n<=st.az/\x=aD nl n))->BJ F' (Ng D3 F')/\cC (Ng D3 F')=Cm st/\N7 (Ng D3 F')<=c/\Em (Ng D3 F')= []:=λ{F'} ad=>by
    have o: ∀n,n<=99999999->F' (aD nl n)=ff al (aD nl n)\/(F' (aD nl n)=none/\n<(Ao D3).aW):=λn ah=>by
     rcases ad (aD nl n) with o|⟨o,j,_,_,gc,e⟩
     ·exact .inl o
     ·refine .inr ⟨o,?_⟩;rw[eZ,Ih e];omega
    have H:=APT dp o λx E=>by
     rcases ad x with w|⟨_,j,_,e0,_,e⟩
     ·exact w
     ·exact absurd e (E j e0)
    have Y:=AJv dp o;have ax:Em (Ng D3 F')=Em D3:=by unfold Em;rw[Y]
    refine⟨H,?_,?_,by rw[ax];exact eS⟩
    ·rw[<- bo];unfold cC;rw[ax];rfl
    ·have:N7 (Ng D3 F')=N7 D3:=by unfold N7;rw[Y];rfl
     omega
   refine zS (aw.ib aX) (λh' x=>aw.fY aX (x.ak λc _ b=> .inl b)) aw.log aw.box dn.up aw.lA (by decide) eY (λe1=>absurd e1 (by show ¬(st.az:Int)>=((st.az+1:Nat):Int);omega))
    (λbg av aP O cy e2 b1 cz cB bp=>⟨_,rfl,ag.yes rfl ?_⟩) λ_ av aP O cy dy b1 cz cB bp dz=>⟨_,rfl,ag.no rfl ?_⟩
   ·have ad: ∀x,ff O x=ff al x\/(ff O x=none/\ ∃n:Nat,1<=n/\n<=99999999/\n<=st.az/\x=aD nl n):=λx=>by
     rcases bp x with o|⟨o,n,W,ah,b2,e⟩
     ·exact .inl o
     ·exact .inr ⟨o,n,W,ah,by omega,e⟩
    obtain⟨cD,cE,c4,_⟩:=dx ad;refine JW (q:= {y with Sb:=co,ft:=w.size,ns:= []}) aw cy (b1.ak λc _ b=> .inl b) (λc b=> .inl (cz c b)) λcn e3 e4 e5 e6=>⟨_,rfl,?_⟩
    refine be cn O ⟨λz=>bg (dt.calm z),by rw[<- bm];exact e3,⟨aP,by rw[<- aA];exact e4,λc b=>?_⟩,e2,cw.then (e5.ak λc _ b=>b0 c b),λv I=>?_,dl (AE cB ct)⟩ λG bn=>?_
    ·rcases e6 c b with o|o
     ·exact b0 c o
     ·exact .inr (by omega)
    ·rcases bp v with o|⟨_,n,_,_,_,e⟩
     ·rw[o,cx v (Qr I _) λn=>l9 I n]
     ·exact absurd e (oK I n)
    ·refine(dk (Ng D3 (ff O)) G (cD.dQ bn) cs bX a8 cE c4 λn u=>?_).mono (BW _) (A0 _);have o:=bn.some u;rcases bp (aY n) with H|⟨_,j,_,_,_,e⟩
     ·rwa [H,a7 _ λj e=>QY j n e.symm] at o
     ·exact absurd e.symm (Lu j n)
   ·have ad: ∀x,ff O x=ff al x\/(ff O x=none/\ ∃n:Nat,1<=n/\n<=99999999/\n<=st.az/\x=aD nl n):=λx=>by
     by_cases E: ∃n:Nat,1<=n/\n<=99999999/\(n:Int)<=(st.az:Int)/\x=aD nl n
     ·obtain⟨n,W,ah,b2,rfl⟩:=E;exact .inr ⟨bp n W ah b2,n,W,ah,by omega,rfl⟩
     ·exact .inl (dz x λn W ah b2 e=>E ⟨n,W,ah,b2,e⟩)
    obtain⟨cD,cE,c4,e7⟩:=dx ad;have b3:=aw.boxed (j:=2) (bI:= {st with fr:= [],ts:=(st.next,st.fr)::st.ts,next:=st.next+1,aW:=st.az+1,az:=st.az+1,aL:=st.aL+1,br:=false}) cy (b1.ak λc _ b=> .inl b) (λc b=> .inl (cz c b)) rfl rfl rfl rfl (.inl ⟨by decide,rfl,rfl⟩) (.inl ⟨by decide,rfl⟩);have bq:Mod (λc=>k c≠0) h av:=cw.then (b1.ak λc _ b=>b0 c (by rw[aw.kb c b];decide));have bs: ∀c,Ld dw ar.size aP 2 c≠0->k c≠0\/h.size<=c:=λc b=>by
     by_cases Z:c<ar.size
     ·rw[GK Z] at b;exact b0 c b
     ·exact .inr (by omega)
    generalize Ld dw ar.size aP 2=dA at*
    have cF: ∀x,(∀ n,x≠aD nl n)->ff O x=ff al x:=λx E=>dz x λn _ _ _=>E n
    have e8: ∀p∈(st.next,st.fr)::st.ts,(Ng D3 (ff O)).T p.1=p.2:=λp ai=>by
     show D3.T p.1=p.2;rw[dq];rcases List.mem_cons.1 ai with rfl|ai
     ·exact EK
     ·rw[F4 λe=>a0 (by rw[<- e];exact List.mem_map.2 ⟨p,ai,rfl⟩)];exact L.cm p ai
    have dB:Es (ff O) {st with fr:= [],ts:=(st.next,st.fr)::st.ts,next:=st.next+1,aW:=st.az+1,az:=st.az+1,aL:=st.aL+1,br:=false} (Ng D3 (ff O)):=
     ⟨cD,congrArg Nt.names a8,e8,congrArg Nt.aW a8,by rw[show Ao (Ng D3 (ff O))=_ from a8];exact A0 _,λp ai=>by
      show p.1<st.next+1;rcases List.mem_cons.1 ai with rfl|ai
      ·exact Hj _
      ·have:=L.below p ai;omega,e7.symm,λn W ah _=>by
      have W:st.az+1<=n:=W;rcases ad (aD nl n) with o|o
      ·rw[o,cx _ (Lu n _) λj=>V9 n j];exact L.gF n (by omega) ah λ_=>by omega
      ·exact o.1,(λh=>by cases h),λn W ah=>by
      have W:st.aL+1<=n:=W;rw[cF _ λj e=>V9 j n e.symm];exact eL n W ah,⟨by show 1<=st.az+1;omega,A0 _⟩,by show 1<=st.aL+1;omega,λn u=>by
      rw[cF _ λj e=>Lu j n e.symm,a7 _ λj e=>QY j n e.symm] at u;by_cases e:n=st.next
      ·subst e;exact Cl
      ·rw[a4 _ λaO=>e (JR aO)] at u;exact AF _ (L.clean n u)⟩
    have gd:(Ng D3 (ff O)).aX<=max D.aX (st.aL+1):=bX;have ge:(Ng D3 (ff O)).aR=D.aR:=cs;have e9:Sv {st with fr:= [],ts:=(st.next,st.fr)::st.ts,next:=st.next+1,aW:=st.az+1,az:=st.az+1,aL:=st.aL+1,br:=false} (Ng D3 (ff O)) (aJ+1) c:=
     ⟨by show st.az+1<=_;omega,by show st.aL+1<=_;omega,by show st.next+1<=_;omega,by show((st.next,st.fr)::st.ts).length<=_;simp;omega,c4,by omega,by omega⟩
    have dC:Bw B g av {y with Sb:=aP,ft:=w.size,ns:= []} dA {st with fr:= [],ts:=(st.next,st.fr)::st.ts,next:=st.next+1,aW:=st.az+1,az:=st.az+1,aL:=st.aL+1,br:=false} O (Ng D3 (ff O)) (aJ+1) c:=
     ⟨b3,dy.up,dB,e9,AE cB ct,b⟩
    have cG:Cm {st with fr:= [],ts:=(st.next,st.fr)::st.ts,next:=st.next+1,aW:=st.az+1,az:=st.az+1,aL:=st.aL+1,br:=false}=Cm st:=by rw[<- cE];exact dB.map.symm
    have cH:JP m O:=dt.trans dy;have cI: ∀v,¬di v->ff O v=ff m v:=λv I=>by rw[cF v λn=>oK I n,cx v (Qr I _) λn=>l9 I n]
    refine aE (AZ.mk (s:=y.tp) (AB b3.cell rfl) ?_);have fa:=b3.cm.len;have fb:=b3.dd;have gf:y.tp.len=st.ts.length+1:=by have am:y.tp.len=y.ps.length:=fa;have C:y.ps.length=((st.next,st.fr)::st.ts).length:=fb;rw[am,C];rfl
    refine ag.intro (λdD=>?_) (λdD=>?_)
    ·refine AJ9 (q:= {y with Sb:=aP,ft:=w.size,ns:= []}) aX dC (by omega) (λh' an aQ dE=>⟨_,rfl,?_⟩) λh' bf bH bI an r am C S' fc fd fe gg fg fh fi=>⟨_,rfl,?_⟩
     ·rw[cG] at dE;obtain⟨S',fj,fk⟩:=aQ.box;refine be h' an ⟨λz=>aQ.fuel (cH.calm z),by rw[<- bm];exact aQ.dn,⟨S',by rw[<- aA];exact fj,λc b=>?_⟩,aQ.down,bq.then (aQ.mod.ak λc _ b=>bs c b),λv I=>(aQ.fw v I).trans (cI v I),aQ.wt⟩ dE;rcases fk c b with o|o
      ·exact bs c o
      ·exact .inr (by have:=bq.size;omega)
     ·refine ca h' bf bH bI an r (am.trans bm) (C.trans aA) S' (cH.trans fc) fd (fe.trans cG) (.inl (by omega)) (λv I=>(fg v I).trans (cI v I)) (bq.then (fh.ak λc _ b=>bs c b)) λc b=>?_
      rcases fi c b with o|o
      ·exact bs c o
      ·exact .inr (by have:=bq.size;omega)
    ·have gh: ¬((y.tp.len:Nat):Int)>=4:=of_decide_eq_false dD;refine ca av {y with Sb:=aP,ft:=w.size,ns:= []} dA _ O _ bm aA (dC.aJ (BW _)) cH rfl cG (.inl ?_) cI bq bs;show((st.next,st.fr)::st.ts).length<=3;rw[A5];omega
 refine aj.mk λfl fm=>?_
 have a9: ∀c,q.tp.ai=some c->ap c=6:=ae.kt;have aR: ∀c,q.np.ai=some c->ap c=7:=ae.kx;have fin: ∀(z:aa) (tp np:Sl) (N:Nat),Own fM BK z tp (t::q.ps)->Own IJ Bp z np ((st.next:Int)::eE st)->Mod (λc=>q.tp.ai=some c\/q.np.ai=some c) J z->(∀ c,tp.ai=some c->(q.tp.ai=some c\/J.size<=c)/\c<N)->(∀ c,np.ai=some c->q.np.ai=some c\/(J.size<=c/\N<=c))->
   af z ((⟨q.d,0,none⟩:Q6).add 4) (J4 tp.p tp.len tp.cap) λdF=>af dF ((⟨q.d,0,none⟩:Q6).add 5) (J4 np.p np.len np.cap) λaS=>fl () aS:=by
  intro z tp np N fn on bt b4 b5;have aT:ap q.d=1:=ae.kd;have nd: ¬(q.tp.ai=some q.d\/q.np.ai=some q.d):=by
   rintro(h|h)
   ·have:=a9 _ h;rw[aT] at this;cases this
   ·have:=aR _ h;rw[aT] at this;cases this
  have fo:=bt.ai ae.cell nd;have gi:=bt.size;have gj:q.d<J.size:=ae.ia;refine af.dt fo (by simp) λdF fp fq gk=>af.dt fp (by simp) λaS fs fu gl=>?_
  have aU:Mod (· =q.d) z aS:=fq.trans fu;have cJ: ∀c,tp.ai=some c-> ¬c=q.d:=λc b e=>by
   rcases(b4 c b).1 with h|h
   ·exact nd (.inl (e▸h))
   ·omega
  have dG: ∀c,np.ai=some c-> ¬c=q.d:=λc b e=>by
   rcases b5 c b with h|h
   ·exact nd (.inr (e▸h))
   ·omega
  have dH:=fn.mod aU cJ;have dI:=on.mod aU dG;have gm:=ae.ext.size;have ba:=ae.eX (h':=aS) (tp:=tp) (np:=np) (ps:=t::q.ps) (ts:=(st.next,st.fr)::st.ts) (next:=st.next) (aW:=st.aW) (S:=λc=>aM<=c/\c<aN)
   (by simpa [eB] using fs) ((bt.ak λc _ b=> .inr b).trans (aU.ak λc _ b=> .inl b)) dH dI (by have:=V.dd;simp[this])
   (λc b=>by
    obtain⟨o,H⟩:=b4 c b;by_cases e:q.tp.ai=some c
    ·exact .inl e
    ·have w:J.size<=c:=o.resolve_left e;refine .inr ⟨cg c w,by omega,λC=>?_,λh=>by omega⟩;rcases b5 c C with Y|Y
     ·have:=aR c Y;rw[cg c w] at this;cases this
     ·omega)
   (λc b=>by
    by_cases e:q.np.ai=some c
    ·exact .inl e
    ·have w:=(b5 c b).resolve_left e;refine .inr ⟨cg c w.1,by omega,λC=>?_,λh=>by omega⟩;have:=(b4 c C).2;omega)
   (λc b=>⟨by have:=bM.ext.size;omega,by have:=aU.size;omega⟩)
   (λi t' p o H=>by
    cases i with
    |zero=>
     simp only[Hv,BE] at o H;subst o H;have fw:bS J t st.fr (NE st.fr) aM aN:=cV.mod a2 λc aq c2 b=>by
      have aC:=cW c aq;rcases b with b|b
      ·have:=ak.kb c b;rw[aC] at this;cases this
      ·have:=ak.kl;rw[<- b,aC] at this;cases this
     have fx:bS z t st.fr (NE st.fr) aM aN:=fw.mod bt λc aq c2 b=>by
      have aC:=ch c aq c2;rcases b with b|b
      ·have:=a9 c b;rw[aC] at this;cases this
      ·have:=aR c b;rw[aC] at this;cases this
     refine .inr ⟨aM,aN,fx.mod aU λc aq c2 b=>?_,by have:=aU.size;omega,λc aq c2=>⟨⟨aq,c2⟩,ch c aq c2⟩,bK⟩;have aC:=ch c aq c2;rw[b,aT] at aC;cases aC
    |succ i=>exact .inl ⟨i,by simpa using o,by simpa using H⟩)
  have dJ: ∀c,LY ap J.size tp np (λc=>aM<=c/\c<aN) c≠0->k c≠0\/h.size<=c:=λc b=>by
   by_cases e:ap c=0
   ·by_cases Z:c<Y.size
    ·exfalso;apply b;unfold LY;rw[if_neg (by simp[e]),if_neg λC=>?_,if_neg λC=>?_,if_neg (by omega)]
     ·rcases b5 c C with bu|bu
      ·have:=aR c bu;rw[e] at this;cases this
      ·omega
     ·rcases(b4 c C).1 with bu|bu
      ·have:=a9 c bu;rw[e] at this;cases this
      ·omega
    ·exact .inr (by omega)
   ·exact cf c e
  generalize LY ap J.size tp np (λc=>aM<=c/\c<aN)=bv at*
  have fy:Mod (λc=>k c≠0) h aS:=(eg.then (bt.ak λc _ b=>cf c (by
   rcases b with b|b
   ·rw[a9 c b];decide
   ·rw[aR c b];decide))).then (aU.ak λc _ b=>cf c (by rw[b,aT];decide))
  refine fm _ _ ?_;refine aE (AC.mk (AB ba.cell rfl) (aE (af.dt ba.cell (by simp) λfz cK fA fB=>aE (af.dt cK (by simp) λcL b6 fC gn=>?_))));have fE:J8 J9 (((st.next:Nat):Int)+(1:Int))=((st.next+1:Nat):Int):=Aa (by omega);have fF:J8 J9 (((st.az:Nat):Int)+(1:Int))=((st.az+1:Nat):Int):=Aa (by omega);have b7:Mod (· =q.d) aS cL:=fA.trans fC;have go: ∀c,tp.ai=some c-> ¬c=q.d:=cJ;have fG:=ba.eX (h':=cL) (tp:=tp) (np:=np) (ps:=t::q.ps) (ts:=(st.next,st.fr)::st.ts) (next:=st.next+1) (aW:=st.az+1) (S:=λ_=>False)
   (by rw[fE,fF] at b6;simpa [eB] using b6) (b7.ak λc _ b=> .inl b) (dH.mod b7 cJ) (dI.mod b7 dG) (by have:=V.dd;simp[this]) (λc b=> .inl b) (λc b=> .inl b) (λc h=>h.elim) (λi t' p o H=> .inl ⟨i,o,H⟩)
  have fH: ∀c,LY bv aS.size tp np (λ_=>False) c≠0->k c≠0\/h.size<=c:=λc b=>by
   by_cases e:bv c=0
   ·exfalso;apply b;unfold LY;rw[if_neg (by simp[e]),if_neg λC=>?_,if_neg λC=>?_,if_neg λh=>h]
    ·have o:bv c=7:=ba.kx c C;rw[e] at o;cases o
    ·have o:bv c=6:=ba.kt c C;rw[e] at o;cases o
   ·exact dJ c e
  exact ej cL {q with Sb:=ay,tp:=tp,np:=np,ps:=t::q.ps} _ fG rfl rfl (fy.then (b7.ak λc _ b=>dJ c (by
   have o:bv q.d=1:=ba.kd;rw[b,o];decide))) fH
 have cM:=ae.cell;have b8:Own fM BK J q.tp q.ps:=ae.cm;have b9:Own IJ Bp J q.np (eE st):=ae.names;have cN:q.ps.length<=1000000:=by rw[V.dd];omega
 have cO:(eE st).length<=1000000:=by simp[eE];omega
 have bb: ∀c,q.tp.ai=some c->q.np.ai≠some c:=λc o H=>by
  have:=a9 c o;rw[aR c H] at this;cases this
 have bw: ∀c,q.tp.ai=some c->c<J.size:=λc b=>b8.lt b
 have bc: ∀c,q.np.ai=some c->c<J.size:=λc b=>b9.lt b
 refine aE (AZ.mk (s:=q.tp) (AB cM rfl) (aE (AZ.mk (s:=q.np) (AB cM rfl) (aE (AC.mk (AB cM rfl) ?_)))));have Q: ∀ {z:aa},Mod (λc=>q.tp.ai=some c\/q.np.ai=some c) J z->z[q.d]? =some (J2 (eB {q with Sb:=ay} {st with az:=st.az+1,br:=false} false) FH (0,0)):=λx=>x.ai ae.cell (by
  have aT:ap q.d=1:=ae.kd;rintro(h|h)
  ·have:=a9 _ h;rw[aT] at this;cases this
  ·have:=aR _ h;rw[aT] at this;cases this)
 refine⟨?_,?_⟩
 ·refine ao.mk λfI _ dK aV gp=>⟨AB (Q (Ext.mod aV)) rfl,AB (Q (Ext.mod aV)) rfl,AB (Q (Ext.mod aV)) rfl,?_,?_⟩
  ·refine qI (b8.ext aV) dK (λe=>by have:=bw _ e;omega) cN λaF X aH au aI=>⟨_,rfl,?_⟩
   have U:Mod (λc=>q.tp.ai=some c\/q.np.ai=some c) J X:=(Ext.mod aV).trans (au.ak λc _ b=> .inl b);refine⟨AB (Q U) rfl,AB (Q U) rfl,ao.mk λfJ _ fK bx gq=>⟨AB (Q (U.trans (Ext.mod bx))) rfl,AB (Q (U.trans (Ext.mod bx))) rfl,?_⟩⟩;have bz:Own IJ Bp fJ q.np (eE st):=(((b9.ext aV).mod au λc b e=>bb c e b)).ext bx;refine qJ bz fK (λe=>by have:=bc _ e;have:=U.size;omega) cO λbA bB bC aK bD=>⟨_,rfl,?_⟩
   have dL:=U.size;have bE: ∀c,aF.ai=some c->c<X.size:=λc b=>aH.lt b
   refine fin bB aF bA X.size (((aH.ext bx)).mod aK λc b e=>?_) bC ((U.trans (Ext.mod bx)).trans (aK.ak λc _ b=> .inr b)) (λc b=>⟨(aI c b).imp id λh=>by omega,bE c b⟩) λc b=>(bD c b).imp id λh=>⟨by omega,by omega⟩
   rcases aI c b with o|o
   ·exact bb c o e
   ·have:=bc c e;omega
  ·refine ao.mk λfz _ cK dM fB=>?_
   have bF:=aV.trans dM;refine⟨AB (Q (Ext.mod bF)) rfl,AB (Q (Ext.mod bF)) rfl,?_⟩;refine qI (b8.ext bF) (dM.ai dK λh=>h) (λe=>by have:=bw _ e;omega) cN λaF X aH au aI=>⟨_,rfl,?_⟩
   have U:Mod (λc=>q.tp.ai=some c\/q.np.ai=some c) J X:=(Ext.mod bF).trans (au.ak λc _ b=> .inl b);refine⟨AB (Q U) rfl,AB (Q U) rfl,?_⟩;have dL:=U.size;have bz:Own IJ Bp X q.np (eE st):=(b9.ext bF).mod au λc b e=>bb c e b
   have b6:X[fI.size]? =some (J2 #[J6 J9 (st.next:Int)] Bp (0,0)):=au.ai cK (λe=>by have:=bw _ e;omega);refine qJ bz b6 (λe=>by have:=bc _ e;omega) cO λbA bB bC aK bD=>⟨_,rfl,?_⟩
   have bE: ∀c,aF.ai=some c->c<X.size:=λc b=>aH.lt b
   refine fin bB aF bA X.size (aH.mod aK λc b e=>?_) bC (U.trans (aK.ak λc _ b=> .inr b)) (λc b=>⟨(aI c b).imp id λh=>by omega,bE c b⟩) λc b=>(bD c b).imp id λh=>⟨by omega,by omega⟩
   rcases aI c b with o|o
   ·exact bb c o e
   ·have:=bc c e;omega
 ·refine ao.mk λgr _ fL cP gs=>⟨AB (Q (Ext.mod cP)) rfl,AB (Q (Ext.mod cP)) rfl,ao.mk λgt _ fO dN gu=>?_⟩
  have bd:=cP.trans dN;refine⟨AB (Q (Ext.mod bd)) rfl,AB (Q (Ext.mod bd)) rfl,AB (Q (Ext.mod bd)) rfl,?_⟩;refine qI (b8.ext bd) fO (λe=>by have:=bw _ e;omega) cN λaF X aH au aI=>⟨_,rfl,?_⟩
  have U:Mod (λc=>q.tp.ai=some c\/q.np.ai=some c) J X:=(Ext.mod bd).trans (au.ak λc _ b=> .inl b);refine⟨AB (Q U) rfl,AB (Q U) rfl,?_⟩;have dL:=U.size;have bz:Own IJ Bp X q.np (eE st):=(b9.ext bd).mod au λc b e=>bb c e b
  have fP:X[J.size]? =some (J2 #[J6 J9 (st.next:Int)] Bp (0,0)):=au.ai (dN.ai fL λh=>h) (λe=>by have:=bw _ e;omega);refine qJ bz fP (λe=>by have:=bc _ e;omega) cO λbA bB bC aK bD=>⟨_,rfl,?_⟩
  have bE: ∀c,aF.ai=some c->c<X.size:=λc b=>aH.lt b
  refine fin bB aF bA X.size (aH.mod aK λc b e=>?_) bC (U.trans (aK.ak λc _ b=> .inr b)) (λc b=>⟨(aI c b).imp id λh=>by omega,bE c b⟩) λc b=>(bD c b).imp id λh=>⟨by omega,by omega⟩
  rcases aI c b with o|o
  ·exact bb c o e
  ·have:=bc c e;omega
end
def F9:List Pr->Int
 | []=>0
 |x::l=>if Ai x≠0 then Ai x else F9 l
def EX(l:List Pr):Int:=if l.length=0 then 1 else if l.length>64 then 2 else F9 l
theorem zj: ∀ {l:List Pr},F9 l=0->BU l
 | [],_=>zK
 |x::l,a=>by
  unfold F9 at a;split at a
  ·rename_i b;exact absurd a b
  ·rename_i b;intro d c;rcases List.mem_cons.1 c with rfl|c
   ·exact Decidable.not_not.1 b
   ·exact zj a d c
theorem zk {l:List Pr}(a:EX l=0):YS l/\BU l/\l≠ []:=by
 unfold EX at a;split at a
 ·cases a
 ·rename_i b;split at a
  ·cases a
  ·rename_i e;have:=zj a;exact⟨⟨by omega,λx c=>oL (this x c)⟩,this,λd=>b (by rw[d];rfl)⟩
theorem AHO {l:List Pr}{i:Nat}{x:Pr}(a:l[i]? =some x)(d:F9 (l.take i)=0):F9 l=if Ai x≠0 then Ai x else F9 l:=by
 split
 ·rename_i e
  induction l generalizing i with
  |nil=>simp at a
  |cons f l g=>
   cases i with
   |zero=>
    simp at a;subst a;unfold F9;rw[if_pos e]
   |succ i=>
    have b:F9 (f::l.take i)=0:=d;unfold F9 at b ⊢;split at b
    ·rename_i c;exact absurd b c
    ·rename_i c;rw[if_neg c];exact g (by simpa using a) b
 ·rfl
theorem zl: ∀ {l:List Pr} {x:Pr},F9 l=0->Ai x=0->F9 (l++ [x])=0
 | [],x,_,b=>by show F9 [x]=0;unfold F9;rw[if_neg (by simp[b])];rfl
 |y::l,x,b,d=>by
  have a:F9 (y::l)=0:=b;show F9 (y::(l++ [x]))=0;unfold F9 at a ⊢;split at a
  ·rename_i c;exact absurd a c
  ·rename_i c;rw[if_neg c];exact zl a d
theorem zn {O:ar}{h:aa}{s:Sl}{l:List Pr}{n:A2O}(v:View BQ h s l)(j: ∀B,Ext h B->n (J6 J9 (EX l)) B):AA O P PY #[J4 s.p s.len s.cap] h n:=by
 refine AGu ?_;unfold uR;rw[v.len];refine ag.intro (λe=>?_) (λe=>?_)
 ·have o:l.length=0:=by have:((l.length:Nat):Int)=0:=(by simpa using e);omega
  have:=j h Mod.refl;unfold EX at this;rwa [if_pos o] at this
 have o:l.length≠0:=λf=>by rw[f] at e;cases e
 refine ag.intro (λe=>?_) (λe=>?_)
 ·have u:l.length>64:=by have:=of_decide_eq_true e;omega
  have:=j h Mod.refl;unfold EX at this;rwa [if_neg o,if_pos u] at this
 have u: ¬l.length>64:=by have:=of_decide_eq_false e;omega
 have Q:EX l=F9 l:=by unfold EX;rw[if_neg o,if_neg u]
 rw[Q] at j;refine Loop.rule (λC x d=> ∃i:Nat,x=((i:Int),())/\C=l.length-i/\i<=l.length/\Ext h d/\F9 (l.take i)=0) ?_ ⟨0,rfl,rfl,by omega,Mod.refl,rfl⟩;rintro K C _ d ⟨i,rfl,rfl,Z,w,q⟩ R;dsimp only;refine ag.intro (λe=>?_) (λe=>?_)
 ·have r:i<l.length:=by have:=of_decide_eq_true e;omega
  have ah:l[i]? =some l[i]:=A2 r;rw[<- v.len];refine(v.ext w).idx ah λa _ c=>?_
  obtain⟨S,T,c2⟩:=c.pair;refine AJ.mk S (AJ.mk T (Ac.mk c2 (ao.pair λb k _ m U ab=>?_)));have y:=w.trans U;generalize l[i]=p at*
  have D:=AHO ah q;refine aj.mk λE F=>?_
  have V:Ai p=1-> ∀d,Ext h d->n (J6 J9 1) d:=λf d x=>by
   have:=j d x;rw[D,if_pos (by rw[f];decide),f] at this;exact this
  have W:Ai p=2-> ∀d,Ext h d->n (J6 J9 2) d:=λf d x=>by
   have:=j d x;rw[D,if_pos (by rw[f];decide),f] at this;exact this
  have z:Ai p=if(decide (p.key=⟨#[]⟩)||(p.gone&& !decide (p.val=⟨#[]⟩))) then 1 else if(decide (p.key.size>64)||decide (p.val.size>8192)) then 2 else 0:=rfl;have G:(decide (p.key=⟨#[]⟩)||(p.gone&& !decide (p.val=⟨#[]⟩)))=true->E (true,()) k:=λf=>F _ _ (ag.yes rfl (V (by rw[z,if_pos f]) k y))
  have H:(decide (p.key=⟨#[]⟩)||(p.gone&& !decide (p.val=⟨#[]⟩)))=false->E (false,()) k:=λf=>F _ _ (ag.no rfl (by
   refine aj.mk λI J=>?_
   have iv:(decide (p.key.size>64)||decide (p.val.size>8192))=true->I (true,()) k:=λA=>J _ _ (ag.yes rfl (W (by rw[z,if_neg (by rw[f];decide),if_pos A]) k y))
   have X:(decide (p.key.size>64)||decide (p.val.size>8192))=false->I (false,()) k:=λA=>J _ _ (ag.no rfl (by
    have Y:Ai p=0:=by rw[z,if_neg (by rw[f];decide),if_neg (by rw[A];decide)]
    rw[Aa (by omega)];refine R (l.length-(i+1)) _ _ (by omega) ⟨i+1,rfl,rfl,r,y,?_⟩;rw[AD,ah];exact zl q Y))
   refine AJ.mk (AO m rfl) (ag.intro (λg=>?_) (λg=>?_))
   ·have L:p.key.size>64:=by have:=of_decide_eq_true g;omega
    exact iv (by simp[L])
   ·have L: ¬p.key.size>64:=by have:=of_decide_eq_false g;omega
    refine AJ.mk (AB m rfl) ?_;by_cases M:p.val.size>8192
    ·rw[decide_eq_true (show((p.val.size:Int)>(8192:Int)) by omega)];exact iv (by simp[M])
    ·rw[decide_eq_false (show ¬((p.val.size:Int)>(8192:Int)) by omega)];exact X (by simp[M];omega)))
  refine AJ.mk (AO m rfl) ?_;rw[Ca];refine ag.intro (λg=>?_) (λg=>?_)
  ·exact G (by rw[g];rfl)
  ·refine Ac.mk (AB m rfl) (ag.intro (λt=>?_) (λt=>?_))
   ·refine AJ.mk (AB m rfl) ?_;rw[Ca];cases N:decide (p.val=(⟨#[]⟩:A2P)) with
    |true=>exact H (by rw[g,t,N];rfl)
    |false=>exact G (by rw[g,t,N];rfl)
   ·exact H (by rw[g,t];rfl)
 ·have r:i=l.length:=by have:=of_decide_eq_false e;omega
  subst r;rw[BT] at q;have:=j d w;rwa [q] at this
theorem zo {e:bQ}{D:Br}(h:BJ e D){s:Nat}(f:s<=99999999){b:List Pr}(j:YS b): ∀d∈(D.L s).map (BV s)++ [BV s b],d.length<=1048576:=λd a=>by
 rcases List.mem_append.1 a with a|a
 ·obtain⟨c,i,rfl⟩:=List.mem_map.1 a;have:=ZH f (h.gl s c i);omega
 grind [List.mem_singleton,ZH]
theorem AJT(a:List (List UInt8))(b:List UInt8):aK (a++ [b])=aK a++Ct b:=by simp
theorem AJV {i j:bQ}{D:Br}{s:Nat}{b:List Pr}(h:BJ i D)(n:1<=s/\s+1<=99999999)(l:YS b)(d: ∀e,j e=if e=aD nl s then some (AX (aK ((D.L s).map (BV s)++ [BV s b])),bG) else i e):BJ j (TA D s b):=by
 refine AQj h n l (λf _ _ o=> .inl ?_) (λf _ _=> .inl ?_) (λf=> .inl ?_) (λe p r=>?_) ⟨_,by rw[d,if_pos rfl],?_⟩
 ·rw[d,if_neg λa=>o (Ih a)]
 ·rw[d,if_neg λa=>V9 s f a.symm]
 ·rw[d,if_neg λa=>Lu s f a.symm]
 ·simp_all
 ·rw[EN,Bm];have:=RY (rs:=(D.L s).map (BV s)++ [BV s b]) (zo h (by omega) l) (t:= []) UD;rw[AK] at this;exact this
theorem AJ2 {j F1 G:bQ}{D:Br}{s:Nat}{b:List Pr}(h:BJ j D)(z:1<=s/\s+1<=99999999)(C:YS b)(o: ∀e,F1 e=if e=aD nl s then some (AX (aK ((D.L s).map (BV s))),AX (Ct (BV s b))) else j e)(c:Mc F1 G):
  BJ G {D with aR:=max D.aR (s+1)}\/BJ G (TA D s b):=by
 have E: ∀a,1<=a->a<=99999999->a≠s->Nk (j (aD nl a)) (G (aD nl a)):=λa l n t=>by
  have d:F1 (aD nl a)=j (aD nl a):=by rw[o,if_neg λd=>t (Ih d)]
  have:=c.cj (x:=aD nl a) λp w=>(h.log.has a p l n (d▸w)).1
  rwa [d] at this
 have F: ∀a,1<=a->a<=99999999->Nk (j (aD nn a)) (G (aD nn a)):=λa l n=>by
  have d:F1 (aD nn a)=j (aD nn a):=by rw[o,if_neg λd=>V9 s a d.symm]
  have:=c.cj (x:=aD nn a) λp w=>(h.note.has a p l n (d▸w)).1
  rwa [d] at this
 have ft: ∀a,F1 (aY a)=j (aY a):=λa=>by rw[o,if_neg λd=>Lu s a d.symm]
 have H: ∀a∈(Ao D).names,G (aY a)=some (AX (Jd (D.T a)),bG)/\G6 (D.T a):=λa N=>by
  obtain⟨O,I⟩:=h.cO a N;have:=c.cj (x:=aY a) λp w=>by grind
  rw[ft] at this;exact⟨VM this I O,I⟩
 have J: ∀e,(∀ a,e≠aD nl a)->G e≠none->j e≠none:=λe u P Q=>P (by
  have:=c e;rw[o,if_neg (u s),Q] at this;exact this)
 have K:=c (aD nl s);rw[o,if_pos rfl] at K;obtain⟨S,y⟩:=K;have i:=zf (rs:=(D.L s).map (BV s)) (r:=BV s b) (zo h (by omega) C) S;have L:(G (aD nl s)=none/\(D.L s).map (BV s)= []\/ ∃e,G (aD nl s)=some (e,bG)/\NS (bl e) ((D.L s).map (BV s)))->BJ G {D with aR:=max D.aR (s+1)}:=λT=>by
  refine⟨?_,h.note.aN h.cE.2.2.1 F,H,h.gl,h.dP,λe u hd=>h.dA e (J e (λa d=>by grind [UG]) u) hd,by have:=h.cE;refine⟨?_,?_,this.2.2.1,this.2.2.2⟩<;>simp only[]<;>omega⟩;have:=h.log.put (G:=G) (eY:=max D.aR (s+1)) (s:=s) (v:=(D.L s).map (BV s)) ⟨z.1,by omega⟩ (by omega) (λa l n t=>E a l n t) T (by omega);have d:(KN (λa=>(D.L a).map (BV a)) s ((D.L s).map (BV s)))=λa=>(D.L a).map (BV a):=by
   funext a
   grind [EK,F4]
  rw[d] at this;exact this
 split at y
 ·rename_i U;left;refine L (.inl ⟨y,?_⟩);rw[U] at i;have M: ∀rs,NS (bl bG) rs->rs= []:=λrs V=>rG V
  rcases i with i|i
  ·exact M _ i
  ·have:=M _ i;simp at this
 ·rcases i with i|i
  ·exact .inl (L (.inr ⟨_,y,i⟩))
  ·right;have W:(D.L s++ [b]).map (BV s)=(D.L s).map (BV s)++ [BV s b]:=by rw[Bm];rfl
   refine⟨?_,h.note.aN h.cE.2.2.1 F,H,λa x f=>?_,h.dP,λe u hd=>h.dA e (J e (λa d=>by grind [UG]) u) hd,by have:=h.cE;refine⟨?_,?_,this.2.2.1,this.2.2.2⟩<;>simp only[TA]<;>omega⟩
   ·have:=h.log.put (G:=G) (eY:=max D.aR (s+1)) (s:=s) (v:=(D.L s++ [b]).map (BV s)) ⟨z.1,by omega⟩ (by omega) (λa l n t=>E a l n t) (.inr ⟨_,y,by rw[W];exact i⟩) (by omega);have d:(KN (λa=>(D.L a).map (BV a)) s ((D.L s++ [b]).map (BV s)))=λa=>((TA D s b).L a).map (BV a):=by
     funext a;show _=(KN D.L s (D.L s++ [b]) a).map (BV a)
     grind [EK,F4]
    rw[d] at this;exact this
   ·by_cases d:a=s
    ·have f:x∈KN D.L s (D.L s++ [b]) a:=f;rw[d,EK] at f;rcases List.mem_append.1 f with f|f
     ·exact h.gl s x f
     ·rw[List.mem_singleton.1 f];exact C
    ·have f:x∈KN D.L s (D.L s++ [b]) a:=f;rw[F4 d] at f;exact h.gl a x f
theorem ASQ {b:bQ}{D:Br}(h:BJ b D){t:Nat}(d:D.aR<=t):IP {D with aR:=t}=IP D:=by
 unfold IP;exact Tg d λa e _=>by
  show(if a<(Ao D).aW then [] else D.L a)= [];split
  ·rfl
  ·exact h.gG (.inr e)
section
variable {A : ar} {B : cI} {g h : aa} {q : Hp} {k : Nat -> Nat} {st : Db} {m : Bx} {D : Br} {aJ c : Nat} {R : A2O}
theorem ASS(a:bN g h q k st m)(b:R (J6 J9 (st.az:Int)) h):AA A P Ip #[Aq q.lg] h R:=by refine Ob ?_;unfold LZ;exact ag.no rfl (aE (AC.mk (AB a.log rfl) b))
theorem AJh(a:Nat):600000<=20000*a+10000000:=by omega
theorem cI.up(B:cI){d a:Nat}{b:Nat}(e:a<=b)(h:d<=B.W0+a*B.K):d<=B.W0+b*B.K:=AE h (Lk (AN _ e) _)
structure mH (st bI:Db) (l:List Pr):Prop where
 map:Cm bI=cz (Cm st) l
 full:4096<=M.Ea (A9 st.fr l)->bI.fr= []/\(bI.ts.length<=3\/bI.ts.length=st.ts.length)
 less:M.Ea (A9 st.fr l)<4096->bI.fr=A9 st.fr l/\bI.ts=st.ts
theorem zr {s:Sl}{l:List Pr}(ap:bZ g)(bq:Bw B g h q k st m D aJ c)(hA:aJ+3<=B.A)(ab:View BQ h s l)(aq:l≠ []-> ∀b,s.ai=some b->b<h.size/\k b=0)(aG:EX l=0->c+l.length<=B.C)
  (bs:EX l≠0-> ∀o,Ext h o->R (J6 J9 (EX l)) o)
  (a4:EX l=0-> ∀o v,oJ B h o q k m v (aJ+3)->(∀ G,Mc (ff v) G->Rec G (aJ+3) (c+l.length) (Cm st)\/Rec G (aJ+3) (c+l.length) (cz (Cm st) l))->R (J6 J9 30) o)
  (bt:EX l=0-> ∀o v,oJ B h o q k m v (aJ+3)->kC (ff v) (aJ+3) (c+l.length) (cz (Cm st) l)->R (J6 J9 0) o)
  (a5:EX l=0-> ∀o ac ar bI v aH,ac.d=q.d->ac.b=q.b->Bw B g o ac ar bI v aH (aJ+3) (c+l.length)->JP m v->mH st bI l->(∀ n,¬di n->ff v n=ff m n)->Mod (λc=>k c≠0) h o->(∀ c,ar c≠0->k c≠0\/h.size<=c)->R (J6 J9 0) o):
  AA A P Ku #[Aq q.d,J4 s.p s.len s.cap] h R:=by
 obtain⟨V,hd,L,w,aI,e⟩:=bq;have cx:=B.hA;have cy:=B.hC;have bu:=B.wt (a:=aJ) (by omega);have cB:=w.az;have cD:=L.eN;have cE:=w.aR;refine AA4 ?_;unfold Tv;refine aj.mk λK bv=>Yy V (bv _ _ (ag.no rfl ?_))
 refine zn ab λbw ad=>⟨_,rfl,?_⟩
 refine ag.intro (λQ=>bs (by simpa using Q) bw ad) (λQ=>?_);have S:EX l=0:=by simpa using Q
 obtain⟨E,bx,ae⟩:=zk S
 replace aq:=aq ae
 replace aG:=aG S
 have W:=V.on ad;refine aE (AY.mk (AB W.cell rfl) (aE (AY.mk (AB W.cell rfl) ?_)));refine ASS W ⟨_,rfl,⟨AB W.cell rfl,?_⟩⟩;refine APF (by omega) E.len E.ok (ab.ext ad) (λb E=>by have:=(aq b E).1;have:=ad.size;omega) λX aL=>⟨_,rfl,⟨AB (W.on aL).cell rfl,?_⟩⟩
 have N:=W.on aL;have aM:=ad.trans aL;have cF:=aM.size;have cG:=ZH (s:=st.az) (by omega) E;have au:(AX (BV st.az l)).size=(BV st.az l).length:=AP _;refine yH (N.ib ap) N.log N.box N.lA (λo x=>N.fY ap (x.ak λc _ e=> .inl e)) (by decide) (by omega) (by rw[au];omega) (AE aI bu) λav p aw ax aN a6=>⟨_,rfl,?_⟩
 rw[show bl (AX (BV st.az l))=BV st.az l from EN _] at aw ax ⊢;have bz:=Za V.box.aT (aD nl st.az) (AX (Ct (BV st.az l)));have cH:=(JM (r:=BV st.az l) (by omega)).2;rw[AP] at bz;have a7: ∀c,p c->q.Sb c\/X.size<=c:=λc e=>(a6 c e).imp id λh=>h.1
 have bA:((ff m (aD nl st.az)).getD (bG,bG))=(AX (aK ((D.L st.az).map (BV st.az))),bG):=by
  cases a8:st.br with
  |true=>rw[L.jD a8];rfl
  |false=>
   have a9:=L.gF st.az (A0 _) (by omega) (by rw[a8];simp);rw[a9,L.ok.jF (by omega) a9];rfl
 have ba: ∀f,st.az<f->D.L f= []:=λf y=>L.sk w (by omega) y
 have bb:1<=st.az/\st.az+1<=99999999:=⟨by omega,by omega⟩;have bc:(Ao D).aW<=st.az:=by rw[L.aW];exact L.eN.2
 obtain⟨bB,bC⟩:=APQ L.ok bc ba E;have bD:=zM L.ok (b:=l) bc ba;have bd:N7 (TA D st.az l)=N7 D+l.length:=by
  unfold N7;rw[bD,Nd,A1];have:(Ao (TA D st.az l)).names.map (λf=>((TA D st.az l).T f).length)=(Ao D).names.map λf=>(D.T f).length:=rfl
  rw[this];simp;omega
 have bE: ∀ {F':bQ},(∀ f,F' (aY f)≠none->ff m (aY f)≠none)-> ∀f,F' (aY f)≠none->f<8*aJ+8:=λbF f y=>by
  have:=L.fB w (bF f y);have:=w.next;omega
 have bH: ∀ {be:Nat},be<=B.W0+(aJ+1)*B.K->be<=B.W0+(aJ+3)*B.K:=λh=>B.up (by omega) h
 rcases Ri (k:=aD nl st.az) (d:=AX (Ct (BV st.az l))) hd (yJ (by decide) (by omega)) with⟨aO,aP⟩|⟨aP,aQ,bJ⟩
 ·rw[aP] at aw ⊢;refine ag.yes rfl ?_;refine JW N aw (aN.ak λc _ e=>e.imp id .inl) a7 λbK bL bM bO bP=>⟨_,rfl,?_⟩
  refine a4 S bK (NQ m) ⟨by rw[aO];decide,bL,⟨p,bM,λc e=>(bP c e).imp id λh=>by omega⟩,rfl,(Ext.mod aM).trans bO,λ_ _=>rfl,B.up (by omega) aI⟩ λG ay=> .inl ?_
  exact(L.p7 w G ay).mono (by omega) (by omega)
 rw[aP] at ax ⊢;refine ag.no rfl ?_;rw[decide_eq_true rfl,IF] at ax;generalize (EM m (aD nl st.az) (AX (Ct (BV st.az l)))).2=z at*
 have af: ∀n,ff z n=if n=aD nl st.az then some (AX (aK ((D.L st.az).map (BV st.az))),AX (Ct (BV st.az l))) else ff m n:=λn=>by
  rw[bJ,bA];simp only[RX]
 have cI: ¬p q.lg:=λe=>by
  rcases a6 _ e with h|h
  ·exact N.lA h
  ·exact h.2 rfl
 have H:=N.boxed (j:=3) (bI:= {st with br:=true}) aw (aN.ak λc _ e=>e.imp id λh=> .inl ⟨rfl,h⟩) a7 rfl rfl rfl rfl (.inr ax) (.inl ⟨by decide,rfl⟩);have bR:Grow k (Ld k X.size p 2) X.size:=rO;have az: ∀c,Ld k X.size p 2 c≠0->k c≠0\/h.size<=c:=λc e=>by
  by_cases ai:c<X.size
  ·rw[bR c ai] at e;exact .inl e
  ·exact .inr (by omega)
 generalize Ld k X.size p 2=bf at*
 have aA:Mod (λc=>k c≠0) h av:=(Ext.mod aM).trans (aN.ak λc _ e=>by
  rcases e with e|e
  ·rw[V.kb c e];decide
  ·rw[e,V.kl];decide)
 refine aE (AY.mk (AB H.cell rfl) ?_);refine yI (H.ib ap) H.log H.box H.lA (by decide) (by show st.az<=_;omega) λaS ak cJ aT=>⟨_,rfl,?_⟩
 have bS:ff z (aD nl st.az)=some (AX (aK ((D.L st.az).map (BV st.az))),AX (Ct (BV st.az l))):=by rw[af,if_pos rfl]
 have ak:Cu aS q.b p (Hg z (aD nl st.az)).2:=ak;have bT:=od H.box.aT (aD nl st.az);have bg:bj z.files<=B.W0+(aJ+1)*B.K:=B.step (d:=600000) aI (by omega) (AJh B.C);show ag ((Hg z (aD nl st.az)).1 != 0) _ _;rcases OX aQ.up bS with⟨aO,al⟩|⟨al,bU,bV⟩
 ·rw[al] at ak;have bW:NG z (aD nl st.az) true=(30,NQ z):=al;rw[al];refine ag.yes rfl ?_;show AA A P Cg #[_,J6 J9 (NG z (aD nl st.az) true).1] aS _;rw[bW];refine JW (q:= {q with Sb:=p}) H ak (aT.ak λc _ e=> .inl e) (λc e=> .inl e) λbX bY b0 b1 b2=>⟨_,rfl,?_⟩
  refine a4 S bX (NQ z) ⟨(λI=>by have:=aQ.calm I;rw[aO] at this;cases this),bY,⟨p,b0,λc e=>?_⟩,rfl,aA.then (b1.ak λc _ e=>az c e),λn u=>?_,bH bg⟩ λG ay=>?_
  ·rcases b2 c e with F|F
   ·exact az c F
   ·exact .inr (by have:=aA.size;omega)
  ·rw[oR,af,if_neg (oK u _)]
  ·have b3: ∀f,G (aY f)≠none->ff m (aY f)≠none:=λf y=>by
    have F:ff z (aY f)≠none:=ay.some y;rwa [af,if_neg λJ=>Lu _ f J.symm] at F
   have C:=L.jG w (F':=G) (bE b3);rcases AJ2 L.ok bb E (F1:=ff (NQ z)) af ay with aU|aU
   ·left;have au:=ASQ L.ok (t:=max D.aR (st.az+1)) (by omega);have em:cC {D with aR:=max D.aR (st.az+1)}=cC D:=by unfold cC Em;rw[au];rfl
    have b4:N7 {D with aR:=max D.aR (st.az+1)}=N7 D:=by unfold N7;rw[au];rfl
    refine⟨_,aU,⟨by show max D.aR (st.az+1)<=_;omega,by have:=C.aX;show D.aX<=_;omega,by have:=C.next;show(Ao D).next<=_;omega,by have:=C.aW;show(Ao D).aW<=_;omega,by have:=C.cp;show(Ao D).names.length<=_;omega,by rw[b4];have:=C.bY;omega,λf y=>by have:=C.mX f y;omega⟩,by rw[em];exact L.map⟩
   ·right;refine⟨_,aU,⟨by show max D.aR (st.az+1)<=_;omega,by have:=C.aX;show D.aX<=_;omega,by have:=C.next;show(Ao D).next<=_;omega,by have:=C.aW;show(Ao D).aW<=_;omega,by have:=C.cp;show(Ao D).names.length<=_;omega,by rw[bd];have:=C.bY;omega,λf y=>by have:=C.mX f y;omega⟩,by rw[bC,L.map]⟩
 rw[al];refine ag.no rfl ?_;generalize (Hg z (aD nl st.az)).2=O at*
 have Y: ∀n,ff O n=if n=aD nl st.az then some (AX (aK ((D.L st.az).map (BV st.az)++ [BV st.az l])),bG) else ff m n:=λn=>by
  rw[bV];by_cases u:n=aD nl st.az
  ·rw[if_pos u,if_pos u];simp only[Aj,AJT]
  ·rw[if_neg u,if_neg u,af,if_neg u]
 have b5:=AJV L.ok bb E Y;have b6:=H.boxed (j:=2) (bI:= {st with br:=true}) ak (aT.ak λc _ e=> .inl e) (λc e=> .inl e) rfl rfl rfl rfl (.inl ⟨by decide,rfl,rfl⟩) (.inl ⟨by decide,rfl⟩);have b7:Mod (λc=>k c≠0) h aS:=aA.then (aT.ak λc _ e=>az c (by rw[H.kb c e];decide));have b8: ∀c,Ld bf av.size p 2 c≠0->k c≠0\/h.size<=c:=λc e=>by
  by_cases ai:c<av.size
  ·rw[GK ai] at e;exact az c e
  ·exact .inr (by have:=aA.size;omega)
 generalize Ld bf av.size p 2=b9 at*
 have aC:JP m O:=aQ.trans bU;have cK:=L.dm w;have cL:=E.len;refine Loop.rule (λbh x I=> ∃(i:Nat) (am:List M.DX) (an:Nat->Nat),x=((i:Int),())/\bh=l.length-i/\i<=l.length/\bN g I {q with Sb:=p,ns:=am} an {st with br:=true,fr:=A9 st.fr (l.take i)} O/\Mod (λc=>k c≠0) h I/\(∀ c,an c≠0->k c≠0\/h.size<=c)) ?_
  ⟨0,q.ns,b9,rfl,rfl,An _,b6,b7,b8⟩
 rintro cM bh _ I ⟨i,am,an,rfl,rfl,cN,Z,aa,T⟩ bi;dsimp only;have ca:=ab.mod aa λb E ae=>ae (aq b E).2
 have cO:=aa.size;refine ag.intro (λQ=>?_) (λQ=>?_)
 ·have aF:i<l.length:=by have:=of_decide_eq_true Q;have:=ab.len;omega
  have ah:l[i]? =some l[i]:=A2 aF;refine ca.idx ah λa _ cb=>?_
  obtain⟨cc,cd,c2⟩:=cb.pair;refine AJ.mk cc (AJ.mk cd (Ac.mk c2 (ao.pair λb ce _ aV bk cP=>?_)));have aW:=Z.on bk;refine aE (AY.mk (AB aW.cell rfl) ?_);refine AJ.mk (AO aV rfl) (AJ.mk (AB aV rfl) (Ac.mk (AB aV rfl) ?_));have cf:=M.Qs (l:=l.take i) (t:=st.fr);rw[Ax] at cf;refine M.su (x:=l[i]) aW.fresh (by show(A9 st.fr (l.take i)).length<_;omega) λcg cQ ch bm ci=>⟨_,rfl,?_⟩
  have cj:=aW.p9 ch bm ci;rw[Aa (by omega)];refine bi (l.length-(i+1)) _ _ (by omega) ⟨i+1,cg,_,rfl,rfl,aF,by rw[M.sv ah];exact cj,(aa.trans (Ext.mod bk)).then (bm.ak λc _ e=>T c (by rw[Z.kf c e];decide)),λc e=>?_⟩;by_cases ai:c<ce.size
  ·rw[GK ai] at e;exact T c e
  omega
 have aF:i=l.length:=by have:=of_decide_eq_false Q;have:=ab.len;omega
 subst aF;rw[BT] at Z;clear bi;have aX:Cm {st with br:=true,fr:=A9 st.fr l}=cz (Cm st) l:=zE V.fW bx;have ck:Es (ff O) {st with br:=true,fr:=A9 st.fr l} (TA D st.az l):=
  ⟨b5,L.names,L.cm,L.aW,L.next,L.below,by rw[bB,<-L.fr],λf aZ a0 ae=>by
   have bn:f≠st.az:=ae rfl;rw[Y,if_neg λJ=>bn (Ih J)];exact L.gF f aZ a0 λ_=>bn,λ_=>by
   show ff O (aD nl st.az)=some (AX (aK ((KN D.L st.az (D.L st.az++ [l]) st.az).map (BV st.az))),bG);rw[Y,if_pos rfl,EK,Bm];rfl,λf aZ a0=>by
   rw[Y,if_neg λJ=>V9 _ f J.symm];exact L.jC f aZ a0,L.eN,L.aL,λf y=>by
   rw[Y,if_neg λJ=>Lu _ f J.symm] at y;exact L.clean f y⟩
 have cl:Sv {st with br:=true,fr:=A9 st.fr l} (TA D st.az l) (aJ+1) (c+l.length):=
  ⟨by show st.az<=_;omega,by have:=w.aL;show st.aL<=_;omega,by have:=w.next;show st.next<=_;omega,by have:=w.cp;show st.ts.length<=_;omega,by rw[bd];have:=w.bY;omega,by show max D.aR (st.az+1)<=_;omega,by have:=w.aX;show D.aX<=_;omega⟩
 have bo:Bw B g I {q with Sb:=p,ns:=am} an {st with br:=true,fr:=A9 st.fr l} O (TA D st.az l) (aJ+1) (c+l.length):=
  ⟨Z,aC.up,ck,cl,AE bT bg,aG⟩
 have a1: ∀n,¬di n->ff O n=ff m n:=λn u=>by rw[Y,if_neg (oK u _)]
 refine aj.mk λcR a2=>?_
 refine aE (AY.mk (AB Z.cell rfl) ?_);refine M.sn Z.fresh ⟨_,_,rfl,?_⟩;refine ag.intro (λa3=>?_) (λa3=>?_)
 ·have cS:4096<=M.Ea (A9 st.fr l):=by have:=of_decide_eq_true a3;have J:M.Ea ({st with br:=true,fr:=A9 st.fr l}:Db).fr=M.Ea (A9 st.fr l):=rfl;omega
  refine APd (q:= {q with Sb:=p,ns:=am}) ap bo (by omega) (λo v U bp=>⟨_,rfl,a2 _ _ ?_⟩) λo ac ar bI v aH cm cn S' co cp cq cr cs ct cu=>⟨_,rfl,a2 _ _ ?_⟩
  ·rw[aX] at bp;obtain⟨S',cv,cw⟩:=U.box;refine bt S o v ⟨λI=>U.fuel (aC.calm I),U.dn,⟨S',cv,λc e=>?_⟩,U.down,aa.then (U.mod.ak λc _ e=>T c e),λn u=>(U.fw n u).trans (a1 n u),U.wt⟩ bp;rcases cw c e with F|F
   ·exact T c F
   ·exact .inr (by omega)
  ·refine a5 S o ac ar bI v aH cm cn S' (aC.trans co) ⟨cq.trans aX,λ_=>⟨cp,cr⟩,λh=>absurd h (by omega)⟩ (λn u=>(cs n u).trans (a1 n u)) (aa.then (ct.ak λc _ e=>T c e)) λc e=>?_
   rcases cu c e with F|F
   ·exact T c F
   ·exact .inr (by omega)
 ·have cT:M.Ea (A9 st.fr l)<4096:=by have:=of_decide_eq_false a3;have J:M.Ea ({st with br:=true,fr:=A9 st.fr l}:Db).fr=M.Ea (A9 st.fr l):=rfl;omega
  refine a2 _ _ ?_;exact a5 S I {q with Sb:=p,ns:=am} an _ O _ rfl rfl (bo.aJ (by omega)) aC ⟨aX,λh=>absurd h (by omega),λ_=>⟨rfl,rfl⟩⟩ a1 aa T
end
theorem zt: ∀(l:List UInt8) (a:Nat),mg l->TL a l<=999999999999->Lib.parseUint10 a l= .ok (TL a l)
 | [],a,_,_=>rfl
 |c::l,a,hd,b=>by
  have h:TL a (c::l)=TL (a*10+(c.toNat-48)) l:=rfl;rw[h] at b ⊢;have d:=hd c (by simp);have f:=qQ l (a*10+(c.toNat-48));unfold Lib.parseUint10;rw[if_pos d,if_neg (by omega),if_neg (by omega)];exact zt l _ (λx e=>hd x (AF _ e)) b
theorem APH {a:Nat}(i:a<=999999999999):Lib.atoiAll (Lib.decDigits a)= .ok (a:Int):=by
 obtain⟨b,d⟩:=Y9 a;cases e:Lib.decDigits a with
 |nil=>
  have:=congrArg List.length e;rw[Lib.decDigits_length] at this;have:=Lib.nDigits_pos a;simp at *;omega
 |cons c j=>
  rw[e] at b d;have o:=b c (by simp);have f:=zt (c::j) 0 b (by rw[d];exact i);rw[d] at f;unfold Lib.atoiAll;simp only[];have l: ¬(c.toNat=43\/c.toNat=45):=by omega
  have n: ¬c.toNat=45:=by omega
  rw[if_neg l];unfold Lib.parseMag;rw[if_neg (by simp),f];simp only[n,not_false_eq_true,true_and,false_and,if_false];rw[if_neg (by omega)]
theorem AQe {A:ar}{h:aa}{a:Nat}{R:A2O}(f:a<=999999999999)(d: ∀e,Ext h e->R (J1 #[J6 J9 (a:Int),.nilIface]) e):AA A P Ua #[J7 (AX (Lib.decDigits a))] h R:=by
 intro m;have i:(Lib.decDigits a).length<=20:=by rw[Lib.decDigits_length];exact Lib.nDigits_le20 a (by omega)
 refine Calls.mono (Proofs.Any.strconv_Atoi_ok Proofs.Tryz.gD (AX (Lib.decDigits a)) (by rw[AP];omega) (a:Int) (by rw[show(AX (Lib.decDigits a)).data.toList=Lib.decDigits a from Bh _];exact APH f) (A.at h m)) ?_;rintro j l ⟨rfl,c|⟨t,c⟩⟩
 ·subst c;exact⟨_,rfl,h,m,rfl,d h Mod.refl⟩
 ·subst c;refine⟨_,rfl,_,_,rfl,d _ ?_⟩;refine⟨?_,λb n _=>?_⟩
  ·simp[Lib.bytesWorld,World.freeze,World.alloc,World.drew,ar.at]
  ·simp[Lib.bytesWorld,World.freeze,World.alloc,World.drew,ar.at,GF,Array.getElem?_push];rw[if_neg (by omega),if_neg (by omega)]
theorem AIV {A:ar}{h:aa}{s:Sl}{l:List Int}{v:Int}{R:A2O}(d:View IJ h s l)(t:l.length<=1000000)(n:R (J3 (decide (v∈l))) h):AA A P Eg #[J4 s.p s.len s.cap,J6 J9 v] h R:=by
 refine Le ?_;unfold Gs;refine NM ?_;unfold Ik;refine Loop.rule (λo x p=> ∃i:Nat,x=((i:Int),())/\o=l.length-i/\i<=l.length/\p=h/\v∉l.take i) ?_ ⟨0,rfl,rfl,An _,rfl,by simp⟩;rintro K o _ _ ⟨i,rfl,rfl,u,rfl,e⟩ r;dsimp only;rw[d.len];refine ag.intro (λf=>?_) (λf=>?_)
 ·have b:i<l.length:=by have:=of_decide_eq_true f;omega
  have ah:l[i]? =some l[i]:=A2 b;rw[<- d.len];refine d.idx ah λa _ c=>AC.mk c.int ?_
  refine ag.intro (λq=>?_) (λq=>?_)
  ·have j:v=l[i]:=by simpa using q
   refine⟨_,rfl,?_⟩;rw[decide_eq_true (show((i:Int)>=0) by omega)];rwa [decide_eq_true (show v∈l by rw[j];exact AW b)] at n
  ·have j:v≠l[i]:=by simpa using q
   rw[Aa (by omega)];refine r (l.length-(i+1)) _ _ (by omega) ⟨i+1,rfl,rfl,b,rfl,?_⟩;rw[AD,ah];simp only[DB,HS,HL,not_or];exact⟨e,j⟩
 ·have b:i=l.length:=by have:=of_decide_eq_false f;omega
  subst b;rw[BT] at e;refine⟨_,rfl,?_⟩;rwa [decide_eq_false e] at n
section
variable {A : ar} {g h : aa} {q : Hp} {k : Nat -> Nat} {st : Db} {m : Bx} {D : Br} {R : A2O}
theorem AJb(b:bN g h q k st m)(d:Nat):LY k d q.tp q.np (λ_=>False)=k:=by
 funext c;unfold LY;by_cases a:k c=0
 ·rw[if_neg (by simp[a]),if_neg (λh=>by have:=b.kt c h;rw[a] at this;cases this),if_neg (λh=>by have:=b.kx c h;rw[a] at this;cases this),if_neg (λh=>h),a]
 ·rw[if_pos a]
theorem bN.jH {h':aa}{next:Nat}(b:bN g h q k st m)(a:h'[q.d]? =some (J2 (eB q {st with next:=next} false) FH (0,0)))(x:Mod (· =q.d) h h'):bN g h' q k {st with next:=next} m:=by have R:=b.rest (C:=λc=>c=1) (h':=h') (x.ak λc _ a=>by rw[a];exact b.kd) (by decide);have:=b.eX (h':=h') (tp:=q.tp) (np:=q.np) (ps:=q.ps) (ts:=st.ts) (next:=next) (aW:=st.aW) (S:=λ_=>False) a (x.ak λc _ a=> .inl a) (R.cm (by decide)) (R.names (by decide)) b.dd (λc a=> .inl a) (λc a=> .inl a) (λc h=>h.elim) (λi t p d e=> .inl ⟨i,d,e⟩);rw[AJb b] at this;exact this
theorem AQ0 {m:Bx}{x:A2P}:ff m x≠none↔x∈m.files.map (·.name):=by rw[<- yA (k:=x),VL];cases ff m x<;>simp
theorem APZ {s:A2P}(h:(dE s 0 != (116:Int))=false)(l:2<=s.size):(bl s).head? =some 116:=by
 have d:bl s=s.data.toList:=rfl;have a:=A7 s;cases b:bl s with
 |nil=>rw[b] at a;simp at a;omega
 |cons c n=>
  have e:dE s 0=116:=by simpa using h
  have f:s.data.toList[0]? =some c:=by rw[<- d,b];rfl
  have o:(c.toNat:Int)=116:=by have:=Pd (i:=0) f;rw[<- e];exact this.symm
  have j:c.toNat=116:=by omega
  have:c=116:=by apply UInt8.toNat_inj.1;rw[j];rfl
  rw[this];rfl
theorem AOD {N:Nat}(a2:bZ g)(E:bN g h q k st m)(hd:m.down=false)(aC:BJ (ff m) D)(a3:(Ao D).names=st.ts.map (·.1))(bB:N<=99999999)(a4: ∀b,ff m (aY b)≠none->b<N)(a5:st.next<=N)(bC:st.ts.length<=100000)(a6:m.files.length<=8000000000000)
  (a7:m.fuel≠ -1-> ∀h' S' n,Cu h' q.b S' n->n.down=true->Mod (λc=>k c≠0) h h'->(∀ c,S' c->k c≠0\/h.size<=c)->BJ (ff n) D->(∀ e,(∀ b,e≠aY b)->ff n e=ff m e)->(∀ b,ff n (aY b)≠none->ff m (aY b)≠none)->bj n.files<=bj m.files->R (J6 J9 30) h')
  (a8: ∀h' S' aD n ac,bN g h' {q with Sb:=S'} aD {st with next:=ac} n->JP m n->BJ (ff n) D->(∀ e,(∀ b,e≠aY b)->ff n e=ff m e)->(∀ b,ff n (aY b)≠none->b∈st.ts.map (·.1))->st.next<=ac->ac<=N->bj n.files<=bj m.files->
   Mod (λc=>k c≠0) h h'->(∀ c,aD c≠0->k c≠0\/h.size<=c)->R (J6 J9 0) h'):AA A P Oo #[Aq q.d] h R:=by
 refine AA2 ?_;unfold Tw;refine aE (AY.mk (AO E.cell rfl) ?_);refine vT E.box λad r ae S a9=>⟨ad,_,rfl,?_⟩
 have ba:ka m=(m.files.map (·.name),0):=by unfold ka;rw[if_neg (by simp[hd])]
 rw[ba] at ae ⊢;refine ag.no rfl ?_;dsimp only at ae;have bb:=yB E.box.aT;have ai:=λx=>AQ0 (m:=m) (x:=x)
 have bD:(m.files.map (·.name)).length<=8000000000000:=by simpa using a6
 generalize m.files.map (·.name)=d at*
 have bc:=E.on S;have bE:=S.size;have v1:=ae.view;refine Loop.rule (λaF x u=> ∃(i:Nat) (H:Nat->Prop) (v:Nat->Nat) (l:Bx) (next:Nat),x=((i:Int),())/\aF=d.length-i/\i<=d.length/\bN g u {q with Sb:=H} v {st with next:=next} l/\JP m l/\BJ (ff l) D/\(∀ e,(∀ b,e≠aY b)->ff l e=ff m e)/\(∀ e,e∉d.take i->ff l e=ff m e)/\
   (∀ b,aY b∈d.take i->b∉st.ts.map (·.1)->ff l (aY b)=none)/\(∀ b,ff l (aY b)≠none->ff m (aY b)≠none)/\st.next<=next/\next<=N/\bj l.files<=bj m.files/\Mod (λc=>k c≠0) r u/\Grow k v r.size) ?_
  ⟨0,q.Sb,k,m,st.next,rfl,rfl,An _,bc,JP.refl hd,aC,λ_ _=>rfl,λ_ _=>rfl,by simp,λ_ h=>h,A0 _,a5,A0 _,Mod.refl,Grow.refl⟩
 rintro K aF _ u ⟨i,H,v,l,next,rfl,rfl,bF,I,J,T,U,aN,V,sub,aG,aH,W,L,M⟩ aI;dsimp only;have bG:=L.size;have aJ: ∀c,v c≠0->k c≠0\/h.size<=c:=λc f=>by
  by_cases ak:c<r.size
  ·rw[M c ak] at f;exact .inl f
  ·exact .inr (by omega)
 have bd: ∀c,ad.ai=some c->k c=0:=λc f=>Decidable.byContradiction λh=>by
  have:=(E.own c h).2;have:=a9 c f;omega
 have be:View IW u ad d:=v1.mod L λc f al=>al (bd c f)
 rw[v1.len];refine ag.intro (λam=>?_) (λam=>?_)
 ·have B:i<d.length:=by have:=of_decide_eq_true am;omega
  have ah:d[i]? =some d[i]:=A2 B;have aK:d[i]∈d:=AW B;have X:d.take (i+1)=d.take i++ [d[i]]:=by rw[AD,ah];rfl
  have bf:d[i]∉d.take i:=λt=>by
   obtain⟨j,bg,o⟩:=Ds t;have bH:j<i:=by have:=bg;simp at this;omega
   rw[List.getElem_take] at o;have:=(LI (h₀:=by omega) (h₁:=B) bb).1 o;omega
  rw[Aa (by omega)];refine aj.mk λbh aL=>?_
  rw[<- v1.len];refine be.idx ah λa _ c=>AJ.mk c.str ?_
  have skip: ∀O Y,bN g O {q with Sb:=H} Y {st with next:=next} l->Mod (λc=>k c≠0) r O->Grow k Y r.size->(∀ b,d[i]=aY b->b∈st.ts.map (·.1))->bh () O:=λO Y Z an bi ao=>aL _ _ (by
   refine aI (d.length-(i+1)) _ _ (by omega) ⟨i+1,H,Y,l,next,rfl,rfl,B,Z,J,T,U,λe w=>aN e λt=>w (by rw[X];exact List.mem_append.2 (.inl t)),λb y aa=>?_,sub,aG,aH,W,an,bi⟩;rw[X] at y;rcases List.mem_append.1 y with y|y
   ·exact V b y aa
   ·exact absurd (ao b (List.mem_singleton.1 y).symm) aa)
  refine aj.mk λbk aM=>?_
  have aO:(∀ b,d[i]≠aY b)->bk (true,()) u:=λao=>aM _ _ (ag.yes rfl (skip u v I L M λb o=>absurd o (ao b)))
  have bm: ∀b,2<=(aY b).size:=λb=>by
   have r:=A7 (aY b);rw[XF] at r;have ap:=Lib.nDigits_pos b;have F:=Lib.decDigits_length b;rw[A5] at r;omega
  refine ag.intro (λaq=>?_) (λaq=>?_)
  ·have ap:=of_decide_eq_true aq;exact aO λb o=>by have:=bm b;rw[<- o] at this;omega
  ·have ap:2<=d[i].size:=by have:=of_decide_eq_false aq;omega
   refine⟨⟨GS _,by omega⟩,?_⟩;cases ar:(dE d[i] 0 != (116:Int)) with
   |true=>
    refine aO λb o=>?_
    have:dE d[i] 0=116:=by
     rw[o];have:=Pd (s:=aY b) (i:=0) (c:=116) (by
      have F:=XF b;show(bl (aY b))[0]? =_;rw[F];rfl)
     exact this
    rw[this] at ar;cases ar
   |false=>
    obtain⟨b,z⟩:=aC.dA d[i] ((ai _).2 aK) (APZ ar ap);have aP:ff m (aY b)≠none:=by rw[<- z];exact(ai _).2 aK
    have bJ:=a4 b aP;refine aM _ _ (ag.no rfl ⟨⟨by omega,by omega⟩,?_⟩);have bn:d[i].extract ((1:Int).toNat) d[i].size=AX (Lib.decDigits b):=by rw[show(1:Int).toNat=1 from rfl,rk,z];have:(aY b).data.toList=116::Lib.decDigits b:=XF b;rw[this];rfl
    rw[bn];refine AQe (by omega) λO au=>⟨_,_,rfl,?_⟩
    have Z:=I.on au;have an:=L.trans (Ext.mod au);refine aj.mk λbK aQ=>⟨trivial,ag.yes rfl ?_⟩
    refine QU (Z.ib a2) (by omega) λaR av=>⟨_,rfl,?_⟩
    have G:=Z.on av;have aS:=an.trans (Ext.mod av);have bo:bR (aY b) d[i]=true:=by rw[z,Ca];exact decide_eq_true rfl
    rw[bo];refine ag.yes rfl (aE (AZ.mk (s:=q.np) (AB G.cell rfl) ?_));refine AIV G.names.view (by simp[eE];omega) ⟨_,rfl,?_⟩;have aT:((b:Int)∈eE ({st with next:=next}:Db))↔b∈st.ts.map (·.1):=by
     simp only[eE,List.mem_map];constructor
     ·rintro⟨p,aw,o⟩;exact⟨p,aw,by omega⟩
     ·rintro⟨p,aw,o⟩;exact⟨p,aw,by omega⟩
    by_cases t:b∈st.ts.map (·.1)
    ·rw[decide_eq_true (aT.2 t)];exact aQ _ _ (ag.no rfl (skip aR v G aS M λab o=>by rw[z] at o;rw[<- JR o];exact t))
    rw[decide_eq_false λh=>t (aT.1 h)];refine aQ _ _ (ag.yes rfl ?_);refine aE (AY.mk (AO G.cell rfl) ?_);have bp:(ff l (aY b)).isSome=true:=by
     rw[aN (aY b) (by rw[<- z];exact bf)];cases bq:ff m (aY b) with
     |none=>exact absurd bq aP
     |some p=>rfl
    rw[z];refine XE G.box λaU ax ay aV aW=>⟨_,rfl,?_⟩
    have aX:Mod (λc=>k c≠0) r aU:=aS.then (aV.ak λc _ f=>by
     have aZ:v c≠0:=by rw[I.kb c f];decide
     by_cases ak:c<r.size
     ·rw[M c ak] at aZ;exact .inl aZ
     ·exact .inr (by omega))
    have bL:=(au.trans av).size;rcases RB (k:=aY b) J.up bp with⟨br,az⟩|⟨az,bs,Q⟩
    ·rw[az] at ay ⊢;refine ag.yes rfl ?_;refine a7 (λu=>by have:=J.calm u;rw[br] at this;cases this) aU ax (NQ l) ay rfl ((Ext.mod S).trans aX) (λc f=>?_) T U sub W;exact aJ c (by
      have:=I.kb c (aW c f);rw[this];decide)
    ·rw[az];refine ag.no rfl ?_;have aA:=G.boxed (j:=2) (bI:= {st with next:=next}) ay (aV.ak λc _ f=> .inl f) (λc f=> .inl (aW c f)) rfl rfl rfl rfl (.inl ⟨by decide,rfl,rfl⟩) (.inl ⟨by decide,rfl⟩);refine aE (AC.mk (AB aA.cell rfl) ?_);have bt:J8 J9 ((b:Int)+(1:Int))=((b+1:Nat):Int):=Aa (by omega);rw[bt];have bu:(if(((b+1:Nat):Int):Int)>((next:Nat):Int) then((b+1:Nat):Int) else((next:Nat):Int))=((max (b+1) next:Nat):Int):=by split<;>omega
     refine aE (af.dt aA.cell (by simp) λbv a0 a1 bM=>?_);rw[bu] at a0;have bw:=aA.jH (h':=bv) (next:=max (b+1) next) (by simpa [eB] using a0) a1;have bx:Grow k (Ld v aR.size ax 2) r.size:=λc f=>by rw[GK (by omega)];exact M c f
     have bz:=Zb (m:=l) (aY b);refine aL _ _ ?_;refine aI (d.length-(i+1)) _ _ (by omega) ⟨i+1,ax,_,_,max (b+1) next,rfl,rfl,B,bw,J.trans bs,?_,λe w=>?_,λe w=>?_,λab C aa=>?_,λab C=>?_,by omega,by omega,AE bz W,?_,bx⟩
     ·refine T.fX λx bA=>?_
      rw[Q,if_neg (bA b (by rw[a3];exact t))]
     ·rw[Q,if_neg (w b)];exact U e w
     ·rw[X] at w;simp only[HS,HL,not_or] at w;rw[Q,if_neg (by rw[<- z];exact w.2)];exact aN e w.1
     ·rw[Q];split
      ·rfl
      ·rename_i al;rw[X] at C;rcases List.mem_append.1 C with F|F
       ·exact V ab F aa
       ·exact absurd ((List.mem_singleton.1 F).trans z) al
     ·rw[Q] at C;split at C
      ·exact absurd rfl C
      ·exact sub ab C
     ·refine aX.trans (a1.ak λc _ f=>?_);have:c=q.d:=f;rw[this,E.kd];decide
 ·have B:i=d.length:=by have:=of_decide_eq_false am;omega
  subst B;rw[BT] at aN V;refine a8 u H v l next I J T U (λb y=>?_) aG aH W ((Ext.mod S).trans L) aJ
  by_cases t:b∈st.ts.map (·.1)
  ·exact t
  ·exact absurd (V b ((ai _).1 (sub b y)) t) y
end
theorem AN5 {f:Type}{c:Nat->List f}{l:List Nat}{d:Nat}(g:l.Pairwise (· < ·))(h: ∀a∈l,a<d)(i: ∀a,a<d->a∉l->c a= []):(List.range d).flatMap c=l.flatMap c:=by
 have j:l=(List.range d).filter λa=>decide (a∈l):=by
  refine wv g (List.pairwise_lt_range.sublist Gk) λa=>?_
  simp only[List.mem_filter,Ly,decide_eq_true_eq];exact⟨λb=>⟨h a b,b⟩,λb=>b.2⟩
 have key: ∀L:List Nat,(∀ a∈L,a<d)->L.flatMap c=(L.filter λa=>decide (a∈l)).flatMap c:=by
  intro L
  induction L with
  |nil=>intro _;rfl
  |cons a L k=>
   intro e;rw[AH,AS,k λm n=>e m (AF _ n)];by_cases b:a∈l
   ·rw[if_pos (by simpa using b),AH]
   ·rw[if_neg (by simpa using b),i a (e a (by simp)) b,CT]
 rw[key _ λa o=>List.mem_range.1 o,<-j]
theorem AOx {l:List Nat}(e:l.Pairwise (· < ·)){a:Nat}(d:a∈l):a<=l.getLast?.getD 0:=by
 cases b:l.getLast? with
 |none=>
  rw[List.getLast?_eq_none_iff] at b;subst b;cases d
 |some x=>
  show a<=x;obtain⟨f,rfl⟩:=List.getLast?_eq_some_iff.1 b;rcases List.mem_append.1 d with c|c
  ·exact Nat.le_of_lt ((List.pairwise_append.1 e).2.2 a c x (by simp))
  ·rw[List.mem_singleton.1 c];exact A0 _
theorem Xx {m:Bx}{b:A2P}{e:Nat}{g:Nat->List (List UInt8)}{l:List Nat}(hd:m.down=false)(n:gw (ff m) b e g)(j:mE b m l)(y:1<=e/\e<=99999999):
  Sr b m l=((List.range e).flatMap g).map AX/\l.getLast?.getD 0+1<=e/\(∀ a,l.getLast?.getD 0+1<=a->a<=99999999->ff m (aD b a)=none):=by
 have o: ∀a,1<=a->a<=99999999->(a∈l↔ff m (aD b a)≠none):=λa h c=>by
  rw[j.mem,VL];constructor
  ·rintro⟨_,_,d⟩ r;rw[r] at d;cases d
  ·intro d;refine⟨h,c,?_⟩;cases i:ff m (aD b a) with
   |none=>exact absurd i d
   |some p=>rfl
 have q: ∀a∈l,a<e:=λa f=>by
  obtain⟨h,c,_⟩:=(j.mem a).1 f;have k:=(o a h c).1 f;exact Decidable.byContradiction λd=>k (n.out a (by omega) c)
 have k:Sr b m l=l.flatMap λa=>(g a).map AX:=AQm hd λa f=>by
  obtain⟨h,c,_⟩:=(j.mem a).1 f;have k:=(o a h c).1 f;cases i:ff m (aD b a) with
  |none=>exact absurd i k
  |some p=>
   obtain⟨s,t⟩:=n.has a p h c i;refine⟨p,rfl,?_⟩;rw[s,YW,AT];have:(g a).map (bl∘AX)=g a:=by
    conv=>rhs;rw[<- Ks (g a)]
    exact CD λx _=>EN x
   rw[this];exact t
 refine⟨?_,?_,λa f c=>?_⟩
 ·rw[k,Ln];refine(AN5 j.inc q λa f u=>?_).symm;by_cases v:a=0
  ·rw[n.lx a (.inl v)];rfl
  ·have i:ff m (aD b a)=none:=Decidable.byContradiction λd=>u ((o a (by omega) (by omega)).2 d)
   rw[n.iu a (by omega) (by omega) i];rfl
 ·cases w:l.getLast? with
  |none=>show 0+1<=e;omega
  |some x=>
   have:=q x (SZ w);show x+1<=e;omega
 ·exact Decidable.byContradiction λd=>by
   have:=AOx j.inc ((o a (by omega) c).2 d);omega
open Classical in
noncomputable def kM (Sb:Nat->Prop) (a nt ft b d:Nat) (tp np:Sl) (e T:Nat->Prop):Nat->Nat:=λc=>
 if Sb c then 2 else if c<a then 0 else if c=nt then 4 else if c=ft then 5 else if c=b then 1 else if c=d then 3 else if tp.ai=some c then 6 else if np.ai=some c then 7 else if e c then 5 else if T c then 8 else 0
theorem zu {Sb:Nat->Prop}{d nt ft e f:Nat}{tp np:Sl}{g T:Nat->Prop}{c:Nat}(h:kM Sb d nt ft e f tp np g T c≠0):Sb c\/(d<=c/\(c=nt\/c=ft\/c=e\/c=f\/tp.ai=some c\/np.ai=some c\/g c\/T c)):=by
 by_cases a:Sb c
 ·exact .inl a
 by_cases b:c<d
 ·exact absurd (by unfold kM;rw[if_neg a,if_pos b]) h
 refine .inr ⟨by omega,Classical.byContradiction λi=>h ?_⟩;simp only[not_or] at i;obtain⟨j,k,l,m,n,o,p,q⟩:=i;unfold kM;rw[if_neg a,if_neg b,if_neg j,if_neg k,if_neg l,if_neg m,if_neg n,if_neg o,if_neg p,if_neg q]
theorem bN.make {g h:aa}{q:Hp}{st:Db}{m:Bx}{N0 NB NC ND:Nat}(cell:h[q.d]? =some (J2 (eB q st false) FH (0,0)))(n:Cu h q.b q.Sb m)(o:ES h q.lg q.b nl st.az st.br)(r:ES h q.nt q.b nn st.aL false)(fresh:M.cW h q.ft q.ns st.fr)
  (s:Own fM BK h q.tp q.ps) (y:q.ps.length=st.ts.length) (names:Own IJ Bp h q.np (eE st)) (ext:Ext g h) (I:g.size<=N0) (u: ∀c,q.Sb c->g.size<=c/\c<N0)
  (J:N0<=q.nt) (K:q.nt<q.ft) (L:q.ft<q.d) (N:q.d<NB) (O:NB<=NC) (P:NC<=q.lg) (Q:q.lg<ND) (k: ∀c,q.np.ai=some c->q.d<c/\c<NB) (l: ∀c,q.tp.ai=some c->NB<=c/\c<NC) (v: ∀c,M.cT q.ft q.ns c->c=q.ft\/ND<=c)
  (z: ∀(i:Nat) (t:Nat) (p:Nat×List Pr),q.ps[i]? =some t->st.ts[i]? =some p-> ∃e f,bS h t p.2 (NE p.2) e f/\NB<=e/\f<=NC/\(∀ c,q.tp.ai=some c-> ¬(e<=c/\c<f))/\G6 p.2) (R:NC<=h.size):
  ∃w,bN g h q w st m/\ ∀c,w c≠0->q.Sb c\/N0<=c:=by
 let T:Nat->Prop:=λc=>(NB<=c/\c<NC)/\q.tp.ai≠some c
 have d: ∀c,N0<=c-> ¬q.Sb c:=λc b j=>by have:=(u c j).2;omega
 refine⟨kM q.Sb N0 q.nt q.ft q.d q.lg q.tp q.np (M.cT q.ft q.ns) T,⟨cell,n,o,r,fresh,s,y,λi t p A B=>?_,names,?_,λc b=>?_,?_,?_,λc b=>?_,λc b=>?_,λc b=>?_,λc b=>?_,ext⟩,λc b=>?_⟩
 ·obtain⟨e,f,C,S,U,D,E⟩:=z i t p A B;refine⟨e,f,C,by omega,λc F c2=>?_,E⟩;have x:T c:=⟨⟨by omega,by omega⟩,λa=>D c a ⟨F,c2⟩⟩;have G: ¬M.cT q.ft q.ns c:=λH=>by rcases v c H with h|h<;>omega
  unfold kM;rw[if_neg (d c (by omega)),if_neg (by omega),if_neg (by omega),if_neg (by omega),if_neg (by omega),if_neg (by omega),if_neg x.2,if_neg (λa=>by have:=k c a;omega),if_neg G,if_pos x]
 ·unfold kM;rw[if_neg (d _ (by omega)),if_neg (by omega),if_neg (by omega),if_neg (by omega),if_pos rfl]
 ·unfold kM;rw[if_pos b]
 ·unfold kM;rw[if_neg (d _ (by omega)),if_neg (by omega),if_neg (by omega),if_neg (by omega),if_neg (by omega),if_pos rfl]
 ·unfold kM;rw[if_neg (d _ (by omega)),if_neg (by omega),if_pos rfl]
 ·unfold kM;rcases v c b with rfl|h
  ·rw[if_neg (d _ (by omega)),if_neg (by omega),if_neg (by omega),if_pos rfl]
  ·rw[if_neg (d c (by omega)),if_neg (by omega),if_neg (by omega),if_neg (by omega),if_neg (by omega),if_neg (by omega),if_neg (λa=>by have:=l c a;omega),if_neg (λa=>by have:=k c a;omega),if_pos b]
 ·have:=l c b;unfold kM;rw[if_neg (d c (by omega)),if_neg (by omega),if_neg (by omega),if_neg (by omega),if_neg (by omega),if_neg (by omega),if_pos b]
 ·have:=k c b;unfold kM;rw[if_neg (d c (by omega)),if_neg (by omega),if_neg (by omega),if_neg (by omega),if_neg (by omega),if_neg (by omega),if_neg (λa=>by have:=l c a;omega),if_pos b]
 ·rcases zu b with j|⟨V,a|a|a|a|a|a|a|a⟩
  ·exact⟨(u c j).1,n.lt j⟩
  ·exact⟨by omega,by rw[a];exact Ah r⟩
  ·exact⟨by omega,by rw[a];exact fresh.lt (.inl rfl)⟩
  ·exact⟨by omega,by rw[a];exact Ah cell⟩
  ·exact⟨by omega,by rw[a];exact Ah o⟩
  ·exact⟨by omega,s.lt a⟩
  ·exact⟨by omega,names.lt a⟩
  ·exact⟨by omega,fresh.lt a⟩
  ·exact⟨by omega,by have:=a.1.2;omega⟩
 ·exact(zu b).imp id λh=>h.1
def KE(D:Br):List (Nat×List Pr):=(List.range D.aR).flatMap λa=>(D.L a).map λb=>(a,b)
def PN(f:Nat)(l:List (Nat×List Pr)):List (List Pr):=(l.filter λp=>decide (f<=p.1)).map (·.2)
theorem Yp(f:Nat)(a b:List (Nat×List Pr)):PN f (a++b)=PN f a++PN f b:=by simp[PN]
theorem zw(D:Br):PN (Ao D).aW (KE D)=IP D:=by
 unfold KE IP;have key: ∀L:List Nat,PN (Ao D).aW (L.flatMap λa=>(D.L a).map λb=>(a,b))=L.flatMap λa=>if a<(Ao D).aW then [] else D.L a:=by
  intro L
  induction L with
  |nil=>rfl
  |cons a L d=>
   rw[AH,AH,Yp,d];congr 1;unfold PN;rw[ON];split
   ·rename_i h;have:(λb:List Pr=>decide ((Ao D).aW<=((a,b):Nat×List Pr).1))=λ_=>false:=by funext b;simp;omega
    simp[FA];omega
   ·rename_i h;simp[FA];intro b _;omega
 exact key _
theorem ARs {d:bQ}{D:Br}(h:BJ d D): ∀p∈KE D,p.1<=99999999/\YS p.2:=λp e=>by
 obtain⟨a,f,i⟩:=List.mem_flatMap.1 e;obtain⟨b,j,rfl⟩:=List.mem_map.1 i;have:=List.mem_range.1 f;have:=h.cE;exact⟨by show a<=_;omega,h.gl a b j⟩
theorem ANo(D:Br):((List.range D.aR).flatMap λa=>(D.L a).map (BV a)).map AX=(KE D).map λp=>AX (BV p.1 p.2):=by
 unfold KE;rw[Ln,Ln];unfold List.flatMap;congr 1;refine CD λa _=>?_
 rw[AT,AT];rfl
theorem ARU {f:Nat}{l:List (Nat×List Pr)}(i:Nat):(PN f (l.take i)).flatten.length<=(PN f l).flatten.length:=by
 conv=>rhs;rw[<- CN i l,Yp,Nd,A1]
 omega
theorem AKR(D:Br):((List.range D.aX).flatMap λa=>(D.N a).map EF).map AX=(NV D).map λx=>AX (EF x):=by unfold NV;rw[Ln,Ln];unfold List.flatMap;congr 1;exact CD λa _=>by rw[AT];rfl
theorem View.modn {e:Type}{d:cF e}{h f:aa}{s:Sl}{l:List e}{j:Nat->Prop}(v:View d h s l)(m:Mod j h f)(o: ∀c,s.ai=some c->c<h.size-> ¬j c):View d f s l:=by refine⟨v.len,v.cap,λi x p=>?_⟩;obtain⟨a,k,n⟩:=v.cells i x p;refine⟨a,k,n.mod m ?_⟩;have r:=d.pos;have t:=d.len x;obtain⟨u,q⟩: ∃u,(d.enc x)[0]? =some u:=⟨_,A2 (by omega)⟩;have:=VD (n 0 u q);rw[aV,aV] at this;rw[aV];exact o _ (by simp[Sl.ai,k]) this
section
variable {A : ar} {B : cI} {g h : aa} {b : Nat} {Sb : Nat -> Prop} {m : Bx} {D : Br} {aJ c : Nat} {R : A2O}
theorem AN7(E:bZ g)(aG:Cu h b Sb m)(Q:Ext g h)(b9: ∀c,Sb c->g.size<=c)(hd:m.down=false)(ab:BJ (ff m) D)(C:ji (ff m) D aJ c)(d:c<=B.C)(hA:aJ+1<=B.A)(bo:bj m.files<=B.W0+aJ*B.K)
  (dj:m.fuel≠ -1-> ∀ae dk S' ai,Cu ae b S' ai->ai.down=true->Mod Sb h ae->(∀ c,S' c->Sb c\/h.size<=c)->kC (ff ai) (aJ+1) c (cC D)->(∀ w,¬di w->ff ai w=ff m w)->bj ai.files<=B.W0+(aJ+1)*B.K->R (J1 #[Aq dk,J6 J9 30]) ae)
  (dl: ∀ae bp ca cb ai dm,bp.b=b->Bw B g ae bp ca cb ai dm (aJ+1) c->JP m ai->Cm cb=cC D->(∀ w,¬di w->ff ai w=ff m w)->Mod Sb h ae->(∀ c,ca c≠0->Sb c\/h.size<=c)->R (J1 #[Aq bp.d,J6 J9 0]) ae):
  AA A P Ry #[Aq b] h R:=by
 have fb:=B.hA;have fc:=B.hC;have cc:=AE bo (B.wt (a:=aJ) (by omega));have ax:=ab.cE;have S:=zi ab;have fd:=C.aR;have fe:=C.aX;have fg:=C.aW;have dn:=C.next;have fh:=C.cp;have ak: ∀c,Sb c->c<h.size:=λc d=>aG.lt d
 refine AIS ?_;unfold uO;refine yG (E.ext Q) aG hd (by decide) (by decide) cc (λae l aV dp _=>?_) λj l nt sl aV dp cd ce cf v1 fi=>⟨_,_,_,rfl,ag.no rfl ?_⟩
 ·obtain⟨_,dq,_⟩:=Xx hd ab.note aV ax.2.2;omega
 obtain⟨cg,dq,dr⟩:=Xx hd ab.note aV ax.2.2;rw[AKR] at cg;have bq:=ACM (nm:=nn) (m:=m) hd aV.inc;rw[cg] at v1 bq;have ds:1<=l.getLast?.getD 0+1:=by omega
 generalize l.getLast?.getD 0+1=aL at*
 refine M.sr λo dt br fj=>⟨_,rfl,ao.mk λI _ ch aW fk=>?_⟩
 have ci:=cd.trans br;have cj:=ci.trans aW;have du:nt<j.size:=Ah cf;have ck:ES I nt b nn aL false:=ES.ext (ES.ext cf br) aW;have cl:M.cW I j.size [] []:=dt.ext aW;have cm:=(v1.ext br).ext aW;have fl:=cd.size;refine aj.mk λK dv=>?_
 have bs: ∀(hB:aa) (np:Sl),Ext h hB->hB[o.size]? =some (J2 #[Aq b,J5 none,Aq nt,Aq j.size,J4 none 0 0,J4 np.p np.len np.cap,J6 J9 ((Ao D).next:Int),J6 J9 ((Ao D).aW:Int),J3 false] FH (0,0))->
   Own IJ Bp hB np ((Ao D).names.map λn:Nat=>(n:Int))->(∀ c,np.ai=some c->o.size<c)->ES hB nt b nn aL false->M.cW hB j.size [] []->K () hB:=by
  intro hB np aX aH ap ac dw dx;refine dv _ _ ?_;have fm:=aX.size;have fn:=E.ext (Q.trans aX);have dy:o.size<hB.size:=Ah aH;have fo:h.size<=o.size:=ci.size;refine AZ.mk (s:=np) (AB aH rfl) ?_;have cn:np.len=(Ao D).names.length:=by rw[ap.len];simp
  refine Loop.rule (λF x k=> ∃(i:Nat) (tp:Sl) (ps:List Nat),x=((i:Int),())/\F=(Ao D).names.length-i/\i<=(Ao D).names.length/\Mod (λc=>c=o.size\/hB.size<=c) hB k/\
    k[o.size]? =some (J2 #[Aq b,J5 none,Aq nt,Aq j.size,J4 tp.p tp.len tp.cap,J4 np.p np.len np.cap,J6 J9 ((Ao D).next:Int),J6 J9 ((Ao D).aW:Int),J3 false] FH (0,0))/\
    Own fM BK k tp ps/\ps.length=i/\(∀ c,tp.ai=some c->hB.size<=c)/\ ∀(r t n:Nat),ps[r]? =some t->(Ao D).names[r]? =some n-> ∃T U,bS k t (D.T n) (NE (D.T n)) T U/\hB.size<=T/\U<=k.size/\ ∀c,tp.ai=some c-> ¬(T<=c/\c<U)) ?_
   ⟨0,⟨none,0,0⟩,[],rfl,rfl,An _,Mod.refl,aH,Own.nil,rfl,λc d=>by simp[Sl.ai] at d,λr t n e=>by simp at e⟩
  rintro fp F _ k ⟨i,tp,ps,rfl,rfl,U,J,aq,an,bt,ar,co⟩ cp;dsimp only;have cq:=J.size;have V:Ext h k:=aX.then (J.ak λc _ d=>by omega);have dz:View IJ k np ((Ao D).names.map λn:Nat=>(n:Int)):=ap.view.mod J λc d e=>by
   have:=ac c d;have:=ap.lt d;omega
  rw[cn];refine ag.intro (λu=>?_) (λu=>?_)
  ·have v:i<(Ao D).names.length:=by have:=of_decide_eq_true u;omega
   have ah:(Ao D).names[i]? =some (Ao D).names[i]:=A2 v;have cr:(Ao D).names[i]∈(Ao D).names:=AW v;have fq:=S.below _ cr;have fr:=S.next;have fs:=S.cp;obtain⟨dA,dB⟩:=ab.cO _ cr;rw[<- cn];refine dz.idx (i:=i) (x:=((Ao D).names[i]:Int)) (by rw[C2,ah];rfl) λa _ au=>AC.mk au.int ?_
   generalize (Ao D).names[i]=nm at*
   refine QU (E.ext (Q.trans V)) (by omega) λaZ bu=>⟨_,rfl,?_⟩
   refine pj (aG.ext (V.trans bu)) ⟨_,_,rfl,?_⟩;rw[qT hd,dA];dsimp only;rw[YW];refine ag.no rfl ?_;refine yX dB.eM λa0 t cs dC=>⟨_,_,rfl,ag.no rfl ?_⟩
   have a1:=bu.trans cs;have ct:=Am a1 aq;refine AZ.mk (s:=tp) (AB ct rfl) ?_;have ft:=bu.size;have fu:=cs.size;refine ao.aZ (E:=fM) (x:=t) (s:=tp) (l:=ps) rfl vU (an.ext a1) (by omega) (by simp[maxLen];omega) λaI fv dD aK bv _=>?_
   have dE:=aK.ai ct (λe=>by have:=ar _ e;omega);refine af.dt dE (by simp) λfw dF a2 fx=>?_
   rw[Aa (by omega)];have cu: ∀c,aI.ai=some c->hB.size<=c:=λc d=>by
    rcases bv c d with h|h
    ·exact ar c h
    ·omega
   have fy:=aK.size;refine cp ((Ao D).names.length-(i+1)) _ _ (by omega) ⟨i+1,aI,ps++ [t],rfl,rfl,v,?_,by simpa using dF,dD.mod a2 (λc d e=>by have:=cu c d;omega),by simp[bt],cu,λr t' n ad W=>?_⟩
   ·exact(J.trans (Ext.mod a1)).trans ((aK.ak λc _ d=> .inr (ar c d)).trans (a2.ak λc _ d=> .inl d))
   ·by_cases cv:r<ps.length
    ·rw[GC cv] at ad;obtain⟨T,bw,bx,bz,cw,a3⟩:=co r t' n ad W;refine⟨T,bw,((bx.ext a1).mod aK λc al c2 d=>a3 c d ⟨al,c2⟩).mod a2 (λc al c2 d=>by omega),bz,by omega,λc d cx=>?_⟩;rcases bv c d with h|h
     ·exact a3 c h cx
     ·omega
    ·have dG:r=ps.length:=by have:=(List.getElem?_eq_some_iff.1 ad).1;simp at this;omega
     subst dG;rw[F0 (A0 _)] at ad;simp at ad;subst ad;rw[bt,ah] at W;cases W;refine⟨aZ.size,a0.size,(dC.mod aK λc al c2 d=>by have:=an.lt d;omega).mod a2 (λc al c2 d=>by omega),by omega,by omega,λc d cx=>?_⟩;rcases bv c d with h|h
     ·have:=an.lt h;omega
     ·omega
  have v:i=(Ao D).names.length:=by have:=of_decide_eq_false u;omega
  clear cp U u;have dH:ES k nt b nn aL false:=dw.mod J (by omega);have dI:M.cW k j.size [] []:=dx.mod J λc d e=>by
   rcases d with rfl|⟨w,y,_⟩
   ·omega
   ·cases y
  refine yG (E.ext (Q.trans V)) (aG.ext V) hd (by decide) (by decide) cc (λae bA a4 dJ _=>?_) λdK bA X bB a4 dJ ay dL cy cz bC=>⟨_,_,_,rfl,ag.no rfl ?_⟩
  ·obtain⟨_,dM,_⟩:=Xx hd ab.log a4 ⟨ax.1,ax.2.1⟩;omega
  obtain⟨cB,dM,dN⟩:=Xx hd ab.log a4 ⟨ax.1,ax.2.1⟩;rw[ANo] at cB;have cD:=ACM (nm:=nl) (m:=m) hd a4.inc;rw[cB] at cz cD;have fz:1<=bA.getLast?.getD 0+1:=by omega
  generalize bA.getLast?.getD 0+1=a5 at*
  have dO:=Am ay aq;have fA:X<dK.size:=Ah cy;refine af.dt dO (by simp) λaM dP av fB=>?_
  have fC:=ay.size;have fE:o.size<k.size:=Ah aq;have dQ:ES aM X b nl a5 false:=ES.mod cy av (by omega);have dR:Cu aM b Sb m:=((aG.ext V).ext ay).mod av λc d e=>by have:=ak c d;omega
  have dS: ¬Sb X:=λd=>by have:=ak _ d;have:=V.size;omega
  have a6:Ext h aM:=(V.trans ay).then (av.ak λc _ d=> .inr (by omega));have fF:=av.size;refine Loop.rule (λF (_:Unit) Q=> ∃s:Nat,F=(Ao D).aW-s/\ES Q X b nl s false/\Cu Q b Sb m/\Mod (λc=>Sb c\/c=X) aM Q/\a5<=s/\(s=a5\/s<=(Ao D).aW)) ?_ ⟨a5,rfl,dQ,dR,Mod.refl,A0 _,.inl rfl⟩;rintro fG F _ H ⟨s,rfl,bD,cE,Y,fH,fI⟩ cF;have fJ:=S.aW;have az:=Y.ai dP (by rintro(h|h);have:=ak _ h;omega;omega);have cG:Ext g H:=(Q.trans a6).then (Y.ak λc _ d=>by
   rcases d with d|rfl
   ·exact .inr (b9 c d)
   ·exact .inr (by have:=Q.size;have:=V.size;omega))
  have dT:bZ H:=E.ext cG;refine AY.mk (AB az rfl) (AC.mk (AB az rfl) ?_);refine Ob ?_;unfold LZ;refine ag.no rfl (aE (AC.mk (AB bD rfl) ⟨_,rfl,?_⟩));refine⟨AB az rfl,?_⟩;refine ag.intro (λbE=>?_) (λbE=>?_)
  ·have bF:=of_decide_eq_true bE;refine AY.mk (AB az rfl) ?_;refine Wu dT bD cE dS (by decide) (by omega) (λbG=>absurd rfl bG) λ_ fK dU dV dW=>⟨_,_,rfl,ag.no rfl ?_⟩
   exact cF ((Ao D).aW-(s+1)) _ _ (by omega) ⟨s+1,rfl,dV,dU,Y.trans dW,by omega,.inr (by omega)⟩
  have dX:(Ao D).aW<=s:=by have:=of_decide_eq_false bE;omega
  clear cF;have fL:=Y.size;have cH:View IW H bB ((KE D).map λp=>AX (BV p.1 p.2)):=(cz.mod av λc d e=>by have:=(bC c d).1;omega).mod Y λc d e=>by
   have j:=bC c d;rcases e with e|e
   ·have:=ak c e;have:=V.size;omega
   ·exact j.2 e
  have dY: ∀c,bB.ai=some c->k.size<=c:=λc d=>(bC c d).1
  have dZ:M.cW H j.size [] []:=((dI.ext ay).mod av λc d e=>by
   rcases d with rfl|⟨w,y,_⟩
   ·omega
   ·cases y).mod Y λc d e=>by
   rcases d with rfl|⟨w,y,_⟩
   ·rcases e with e|e
    ·have:=ak _ e;omega
    ·have:=V.size;omega
   ·cases y
  have cI:bB.len=(KE D).length:=by rw[cH.len];simp
  have d0:=ARs ab;have d1:=C.bY;have fO:(PN (Ao D).aW (KE D)).flatten.length<=c:=by rw[zw];have:N7 D=_:=rfl;unfold N7 at d1;omega
  refine Loop.rule (λF aO y=> ∃(i:Nat) (ns:List M.DX),aO=((i:Int),())/\F=(KE D).length-i/\i<=(KE D).length/\Mod (λc=>c=j.size\/H.size<=c) H y/\M.cW y j.size ns (A9 [] (PN (Ao D).aW ((KE D).take i)).flatten)/\ ∀c,M.cT j.size ns c->c=j.size\/H.size<=c) ?_
   ⟨0,[],rfl,rfl,An _,Mod.refl,dZ,λc d=>by
    rcases d with rfl|⟨w,y,_⟩
    ·exact .inl rfl
    ·cases y⟩
  rintro fP F _ am ⟨i,ns,rfl,rfl,U,L,aP,bH⟩ bI;dsimp only;have fQ:=L.size;have d2:=View.modn cH L λc d bF e=>by have:=dY c d;omega
  have cJ:=L.ai az (by omega);rw[cI];refine ag.intro (λu=>?_) (λu=>?_)
  ·have v:i<(KE D).length:=by have:=of_decide_eq_true u;omega
   have ah:(KE D)[i]? =some (KE D)[i]:=A2 v;obtain⟨cK,a7⟩:=d0 _ (AW v);have cL:(KE D).take (i+1)=(KE D).take i++ [(KE D)[i]]:=by rw[AD,ah];rfl
   have d3:=ARU (f:=(Ao D).aW) (l:=KE D) (i+1);refine aj.mk λfR bJ=>?_
   rw[<- cI];refine d2.idx (i:=i) (x:=AX (BV (KE D)[i].1 (KE D)[i].2)) (by rw[C2,ah];rfl) λa _ au=>AJ.mk au.str ?_
   have d4:J8 J9 ((i:Int)+(1:Int))=((i+1:Nat):Int):=Aa (by rw[Bs] at cD;omega);rw[d4] at bJ;generalize (KE D)[i]=d5 at*
   obtain⟨bK,z⟩:=d5;dsimp only at cK a7 ⊢;refine AKC cK a7.len a7.ok λcM d6 cN aA d7=>⟨_,_,_,rfl,ag.no rfl ?_⟩
   have d8:=Am aA cJ;refine AC.mk (AB d8 rfl) ?_;refine ag.intro (λbL=>?_) (λbL=>?_)
   ·have bF:=of_decide_eq_true bL;refine bJ _ _ (bI ((KE D).length-(i+1)) _ _ (by omega) ⟨i+1,ns,rfl,rfl,v,L.trans (Ext.mod aA),?_,bH⟩);have e:PN (Ao D).aW ((KE D).take (i+1))=PN (Ao D).aW ((KE D).take i):=by
     rw[cL,Yp];have:PN (Ao D).aW [(bK,z)]= []:=by unfold PN;rw[AS,if_neg (by simp;omega)];rfl
     rw[this,AK]
    rw[e];exact aP.ext aA
   ·have d9:(Ao D).aW<=bK:=by have:=of_decide_eq_false bL;omega
    have e:(PN (Ao D).aW ((KE D).take (i+1))).flatten=(PN (Ao D).aW ((KE D).take i)).flatten++z:=by
     rw[cL,Yp];have:PN (Ao D).aW [(bK,z)]= [z]:=by unfold PN;rw[AS,if_pos (by simpa using d9)];rfl
     rw[this];simp
    rw[e,A1] at d3;have fS:=aA.size;refine Loop.rule (λF aO a8=> ∃(r:Nat) (aQ:List M.DX),aO=((r:Int),())/\F=z.length-r/\r<=z.length/\Mod (λc=>c=j.size\/H.size<=c) H a8/\M.cW a8 j.size aQ (A9 (A9 [] (PN (Ao D).aW ((KE D).take i)).flatten) (z.take r))/\(∀ c,M.cT j.size aQ c->c=j.size\/H.size<=c)/\View BQ a8 cM z/\(∀ c,cM.ai=some c-> ¬M.cT j.size aQ c)/\d6.size<=a8.size) ?_
     ⟨0,ns,rfl,rfl,An _,L.trans (Ext.mod aA),aP.ext aA,bH,cN.view,λc d aR=>by have:=d7 c d;have:=aP.lt aR;omega,A0 _⟩
    rintro fT F _ fU ⟨r,aQ,rfl,rfl,cv,a9,bM,bO,ba,cO,fV⟩ ea;dsimp only;have eb:=a9.ai az (by omega);have fW:=a7.len;rw[ba.len];refine ag.intro (λu=>?_) (λu=>?_)
    ·have bb:r<z.length:=by have:=of_decide_eq_true u;omega
     have cP:z[r]? =some z[r]:=A2 bb;rw[<- ba.len];refine ba.idx cP λa _ au=>?_
     obtain⟨cQ,ec,ed⟩:=au.pair;refine AJ.mk cQ (AJ.mk ec (Ac.mk ed (ao.pair λfX fY _ bP aS fZ=>?_)));have ee:=Am aS eb;refine AY.mk (AB ee rfl) ?_;refine AJ.mk (AO bP rfl) (AJ.mk (AB bP rfl) (Ac.mk (AB bP rfl) ?_));have ef:=M.Qs (l:=(PN (Ao D).aW ((KE D).take i)).flatten) (t:= []);have eg:=M.Qs (l:=z.take r) (t:=A9 [] (PN (Ao D).aW ((KE D).take i)).flatten);rw[Ax] at eg;simp only[GO,AI] at ef;refine M.su (x:=z[r]) (bM.ext aS) (by omega) λeh f0 ei bQ cR=>⟨_,rfl,?_⟩
     rw[Aa (by omega)];have f1:=a9.size;have f2:=aS.size;refine ea (z.length-(r+1)) _ _ (by omega) ⟨r+1,eh,rfl,rfl,bb,(a9.trans (Ext.mod aS)).trans (bQ.ak λc _ d=>bO c d),by rw[M.sv cP];exact ei,λc d=>?_,(ba.ext aS).mod bQ (λc d aR=>cO c d aR),λc d aR=>?_,by have:=bQ.size;omega⟩
     ·rcases cR c d with h|h
      ·exact bO c h
      ·exact .inr (by omega)
     ·rcases cR c aR with h|h
      ·exact cO c d h
      ·have:=cN.lt d;omega
    ·have bb:r=z.length:=by have:=of_decide_eq_false u;omega
     subst bb;rw[BT] at bM;refine bJ _ _ (bI ((KE D).length-(i+1)) _ _ (by omega) ⟨i+1,aQ,rfl,rfl,v,a9,?_,bO⟩);rw[e,zJ];exact bM
  have ej:i=(KE D).length:=by have:=of_decide_eq_false u;omega
  subst ej;rw[BT,zw] at aP;clear bI;have bc:Mod (λc=>c=o.size) k aM:=(Ext.mod ay).trans av;have aN: ∀c,hB.size<=c->c<k.size-> ¬(c=o.size)/\ ¬(Sb c\/c=X)/\ ¬(c=j.size\/H.size<=c):=λc al c2=>by
   refine⟨by omega,?_,by omega⟩;rintro(h|h)
   ·have:=ak c h;have:=aX.size;omega
   ·omega
  have bd: ∀c,h.size<=c->c<k.size->c≠o.size->c≠j.size-> ¬(c=o.size)/\ ¬(Sb c\/c=X)/\ ¬(c=j.size\/H.size<=c):=λc al c2 ek c4=>by
   refine⟨ek,?_,by omega⟩;rintro(h|h)
   ·have:=ak c h;omega
   ·omega
  have el:Own fM BK am tp ps:=((an.mod bc λc d=>(aN c (ar c d) (an.lt d)).1).mod Y λc d=>(aN c (ar c d) (an.lt d)).2.1).mod L λc d=>(aN c (ar c d) (an.lt d)).2.2
  have O: ∀c,np.ai=some c->h.size<=c/\c<k.size/\c≠o.size/\c≠j.size:=λc d=>by have:=ac c d;have:=ap.lt d;omega
  have en:Own IJ Bp am np ((Ao D).names.map λn:Nat=>(n:Int)):=(((ap.mod J λc d e=>by have:=O c d;have:=ap.lt d;omega).mod bc λc d=>(bd c (O c d).1 (O c d).2.1 (O c d).2.2.1 (O c d).2.2.2).1).mod Y λc d=>(bd c (O c d).1 (O c d).2.1 (O c d).2.2.1 (O c d).2.2.2).2.1).mod L λc d=>(bd c (O c d).1 (O c d).2.1 (O c d).2.2.1 (O c d).2.2.2).2.2
  have bR:=bd nt ce (by omega) (by omega) (by omega);have eo:ES am nt b nn aL false:=((dH.mod bc bR.1).mod Y bR.2.1).mod L bR.2.2;have ep:ES am X b nl s false:=bD.mod L (by omega);have eq:Cu am b Sb m:=cE.mod L λc d=>by have:=ak c d;omega
  have er:Ext g am:=cG.then (L.ak λc _ d=> .inr (by have:=Q.size;omega));have es: ∀(i:Nat) (t:Nat) (p:Nat×List Pr),ps[i]? =some t->((Ao D).names.map λn=>(n,D.T n))[i]? =some p-> ∃T U,bS am t p.2 (NE p.2) T U/\hB.size<=T/\U<=k.size/\(∀ c,tp.ai=some c-> ¬(T<=c/\c<U))/\G6 p.2:=λcS t p ad W=>by
   rw[C2] at W;cases be:(Ao D).names[cS]? with
   |none=>rw[be] at W;cases W
   |some n=>
    rw[be] at W;cases W;obtain⟨T,bw,bx,bz,cw,a3⟩:=co cS t n ad be;refine⟨T,bw,((bx.mod bc λc al c2=>(aN c (by omega) (by omega)).1).mod Y λc al c2=>(aN c (by omega) (by omega)).2.1).mod L λc al c2=>(aN c (by omega) (by omega)).2.2,bz,cw,a3,(ab.cO n (AM be)).2⟩
  have cT:((Ao D).names.map λn=>(n,D.T n)).map (·.1)=(Ao D).names:=by rw[AT];exact Ks _
  obtain⟨cQ,et,bf⟩:=bN.make (g:=g) (h:=am) (q:=⟨o.size,b,X,nt,j.size,Sb,ns,tp,np,ps⟩) (st:=⟨Em D,(Ao D).names.map λn=>(n,D.T n),(Ao D).next,(Ao D).aW,s,aL,false⟩) (m:=m) (N0:=h.size) (NB:=hB.size) (NC:=k.size) (ND:=H.size)
   (by simpa [eB] using cJ) eq ep eo aP el (by simp[bt,v]) (by unfold eE;rw[AT];exact en) er Q.size (λc d=>⟨b9 c d,ak c d⟩)
   ce du (by show j.size<o.size;omega) dy cq dL (by show X<H.size;omega) (λc d=>⟨ac c d,ap.lt d⟩) (λc d=>⟨ar c d,an.lt d⟩) bH es (by omega)
  have bT:Mod Sb h am:=by refine⟨by have:=a6.size;omega,λc d Z=>?_⟩;have ad:=a6.get c d (λh=>h);have f3:=a6.size;have W:=Y.get c (by omega) (by rintro(h|h);exact Z h;have:=V.size;omega);have eu:=L.get c (by omega) (by omega);exact eu.trans (W.trans ad)
  have f4:=bT.size;have cU: ∀n,ff m (aY n)≠none->n<8*aJ+8:=C.mX;have f5:=VK m.files;refine AOD (N:=8*aJ+8) (q:=⟨o.size,b,X,nt,j.size,Sb,ns,tp,np,ps⟩) E et hd ab cT.symm (by omega) cU dn (by simp;omega) (by omega)
   (λev bU cV aC ew ex bV ey bW aT ez bX=>⟨_,rfl,?_⟩) λbU cV eA aC aF eC cW bW aT eD cX eF bX bV eG=>⟨_,rfl,?_⟩
  ·refine dj ev bU o.size cV aC ew ex (bT.then (bV.ak λc _ d=>bf c d)) (λc d=>?_) (λG cY=>⟨D,bW.dQ cY,?_,rfl⟩) (λw y=>aT w λn=>Qr y n) (AE bX (B.up (BW _) bo))
   ·rcases ey c d with h|h
    ·exact bf c h
    ·exact .inr (by omega)
   ·refine ji.mono ⟨C.aR,C.aX,C.next,C.aW,C.cp,C.bY,λn Z=>cU n (ez n (cY.some Z))⟩ (BW _) (A0 _)
  ·have eH: ∀n,ff aC (aD nl n)=ff m (aD nl n):=λn=>aT _ (Lu n)
   have eI: ∀n,ff aC (aD nn n)=ff m (aD nn n):=λn=>aT _ (QY n)
   have cZ:Es (ff aC) ⟨Em D,(Ao D).names.map λn=>(n,D.T n),aF,(Ao D).aW,s,aL,false⟩ D:=
    ⟨bW,cT.symm,λp bY=>by
     obtain⟨n,_,rfl⟩:=List.mem_map.1 bY;rfl,rfl,cX,λp bY=>by
     obtain⟨n,Z,rfl⟩:=List.mem_map.1 bY;have j:=S.below n Z;have o:(Ao D).next<=aF:=cX;show n<aF;omega,rfl,λn bg b0 _=>by
     have bg:s<=n:=bg;rw[eH];exact dN n (by omega) b0,(λh=>by cases h),λn bg b0=>by rw[eI];exact dr n bg b0,⟨S.aW.1,dX⟩,ds,λn Z=>eD n Z⟩
   have eJ:Sv ⟨Em D,(Ao D).names.map λn=>(n,D.T n),aF,(Ao D).aW,s,aL,false⟩ D (aJ+1) c:=by have f6:aF<=8*aJ+8:=eF;exact⟨by show s<=_;omega,by show aL<=_;omega,by show aF<=_;omega,by show((Ao D).names.map _).length<=_;simp;omega,C.bY,by omega,by omega⟩
   refine dl bU _ eA _ aC D rfl ⟨eC,cW.up,cZ,eJ,AE bX (B.up (BW _) bo),d⟩ cW cZ.map.symm (λw y=>aT w λn=>Qr y n) (bT.then (bV.ak λc _ d=>bf c d)) λc d=>?_
   rcases eG c d with h|h
   ·exact bf c h
   ·exact .inr (by omega)
 have c0:sl.len=(NV D).length:=by rw[cm.len];simp
 refine ag.intro (λu=>?_) (λu=>?_)
 ·have bG:NV D≠ []:=λe=>by
   have:=of_decide_eq_true u;rw[c0,e] at this;simp at this
  obtain⟨aw,x,bh⟩: ∃aw x,NV D=aw++ [x]:=⟨_,_,(List.dropLast_concat_getLast bG).symm⟩;have bi:Ao D=x:=by unfold Ao;rw[bh,SW];rfl
  have c1:sl.len=aw.length+1:=by rw[c0,bh];simp
  have f7:aw.length<=8000000000000:=by rw[bh] at bq;simp at bq;omega
  rw[c1];have eK:J8 J9 (((aw.length+1:Nat):Int)-(1:Int))=((aw.length:Nat):Int):=by rw[wrap_i64 (by omega) (by omega)];omega
  rw[eK,<-c1];rw[bi] at S bs;have eL:((NV D).map λx=>AX (EF x))[aw.length]? =some (AX (EF x)):=by rw[bh];simp
  refine cm.idx eL λa _ au=>AJ.mk au.str ?_
  have f8:=S.next;have f9:=S.aW;have ga:=S.cp;have c3:=S.below;have c5:EF x=Bc x.next++(Bc x.aW++(Bc x.names.length++(x.names.flatMap Bc++ []))):=by simp[EF,A3]
  rw[c5];have c6:=zg S;rw[c5] at c6;simp only[A1] at c6;refine Jo λc7 c8 b1=>⟨_,rfl,?_⟩
  have aH:=Am b1 ch;refine DN (most:=2147483647) c8 (by simp only[A1];omega) (by decide) λgb c9 eM=>⟨_,rfl,?_⟩
  rw[CP (by omega) (by omega)] at c9 ⊢;refine DN (most:=99999999) c9 (by simp only[A1];omega) (by decide) λaZ da eN=>⟨_,rfl,?_⟩
  rw[CP (by omega) (by omega)] at da ⊢;have gc:=b1.size;have bk:I.size≠o.size:=by omega
  have db:Mod (· =I.size) c7 aZ:=eM.trans eN;have eO:=db.ai aH (by omega);refine af.dt eO (by simp) λgd eP eQ ge=>af.dt eP (by simp) λa0 eR eS gf=>?_
  have dc:Mod (· =o.size) aZ a0:=eQ.trans eS;have eT:Ib a0 I.size ⟨Bc x.names.length++(x.names.flatMap Bc++ []),false⟩:=dc.ai da bk;refine DN (most:=65536) eT (by simp only[A1];omega) (by decide) λeU dd de=>⟨_,rfl,?_⟩
  rw[CP (by omega) (by omega)] at dd ⊢;have eV:=de.ai eR (λe=>bk e.symm);have eW:Mod (λc=>o.size<=c) I eU:=(Ext.mod b1).trans (((db.ak λc _ d=>by omega).trans (dc.ak λc _ d=>by omega)).trans (de.ak λc _ d=>by omega));refine Loop.rule (λF aO k=> ∃(i:Nat) (np:Sl),aO=((i:Int),())/\F=x.names.length-i/\i<=x.names.length/\Mod (λc=>o.size<=c) I k/\Ib k I.size ⟨(x.names.drop i).flatMap Bc++ [],false⟩/\Own IJ Bp k np ((x.names.take i).map λn:Nat=>(n:Int))/\(∀ c,np.ai=some c->I.size<c)/\
    k[o.size]? =some (J2 #[Aq b,J5 none,Aq nt,Aq j.size,J4 none 0 0,J4 np.p np.len np.cap,J6 J9 (x.next:Int),J6 J9 (x.aW:Int),J3 false] FH (0,0))) ?_
   ⟨0,⟨none,0,0⟩,rfl,rfl,An _,eW,dd,Own.nil,λc d=>by simp[Sl.ai] at d,by simpa using eV⟩
  rintro gg F _ k ⟨i,np,rfl,rfl,U,J,bm,b2,ac,aq⟩ eX;have cq:=J.size;dsimp only;refine ag.intro (λu=>?_) (λu=>?_)
  ·have v:i<x.names.length:=by have:=of_decide_eq_true u;omega
   have ah:x.names[i]? =some x.names[i]:=A2 v;have eY:x.names.drop i=x.names[i]::x.names.drop (i+1):=DP v;have gh:=c3 _ (AW v);refine AZ.mk (s:=np) (AB aq rfl) ?_;rw[eY,AH,A3] at bm;have gi:((x.names.drop (i+1)).flatMap Bc).length<=600000:=by
    have:=Uu (l:=x.names.drop (i+1)) λn Z=>by have:=c3 n (HX Z);omega
    have e:=DG (l:=x.names) (i:=i+1);omega
   have gj:=AV (n:=x.names[i]) (by omega);refine DN (most:=2147483647) bm (by simp only[A1,GO];omega) (by decide) λb3 df bn=>⟨_,rfl,?_⟩
   rw[CP (by omega) (by omega)] at df ⊢;have b4:=bn.ai aq (λe=>bk e.symm);refine⟨AB b4 rfl,ao.mk λeZ _ e0 aU gk=>⟨AB (Am aU b4) rfl,?_⟩⟩;have e1:Own IJ Bp b3 np ((x.names.take i).map λn:Nat=>(n:Int)):=b2.mod bn λc d e=>by have:=ac c d;omega
   have e2:=e1.ext aU;have src:View IJ eZ ⟨some ⟨b3.size,0,none⟩,1,1⟩ [(x.names[i]:Int)]:=(Own.lit (E:=IJ) (l:= [(x.names[i]:Int)]) e0 rfl (by simp[maxLen])).view;refine Fx (s:=np) (src:=⟨some ⟨b3.size,0,none⟩,1,1⟩) rA e2 src (by simp;omega) (by simp[maxLen];omega) λaI gl e3 b5 e4 _=>?_
   have e5:=b5.ai (Am aU b4) (λe=>by have:=ac _ e;omega);refine af.dt e5 (by simp) λgm e6 b6 gn=>?_
   rw[Aa (by omega)];have go:=bn.size;have dg: ∀c,aI.ai=some c->I.size<c:=λc d=>by
    rcases e4 c d with h|h
    ·exact ac c h
    ·omega
   have gp:I.size<c7.size:=Ah c8;refine eX (x.names.length-(i+1)) _ _ (by omega) ⟨i+1,aI,rfl,rfl,v,?_,?_,?_,dg,by simpa using e6⟩
   ·exact J.trans ((((bn.ak λc _ d=>by omega).trans (Ext.mod aU)).trans (b5.ak λc _ d=>by have:=ac c d;omega)).trans (b6.ak λc _ d=>by omega))
   ·have e7:=aU.ai df (λh=>h);have e8:=b5.ai e7 (λe=>by have:=ac _ e;omega);exact b6.ai e8 bk
   ·rw[AD,ah];simp only[DB,Bm,B9,RW];exact e3.mod b6 λc d e=>by have:=dg c d;omega
  ·have v:i=x.names.length:=by have:=of_decide_eq_false u;omega
   subst v;rw[BT] at b2;rw[Mb] at bm;refine MS bm ⟨_,rfl,?_⟩;have e9:Yb ⟨([]:List Nat).flatMap Bc++ [],false⟩=true:=rfl;rw[e9];refine ag.no rfl ?_;have fa: ∀ {b7:Nat} {dh:Obj},I[b7]? =some dh->b7<o.size->k[b7]? =some dh:=λe bF=>J.ai e (by omega)
   refine bs k np ⟨by omega,λc d Z=>?_⟩ aq b2 (λc d=>by have:=ac c d;omega) (fa ck (by omega)) (cl.mod J λc d e=>?_)
   ·have b8:=cj.get c d Z;rw[<- b8];exact J.get c (by omega) (by omega)
   ·rcases d with rfl|⟨w,y,_⟩
    ·omega
    ·cases y
 ·have b8:NV D= []:=by have:=of_decide_eq_false u;exact CC (by omega)
  have bi:Ao D=⟨1,1,[]⟩:=by unfold Ao;rw[b8];rfl
  refine bs I ⟨none,0,0⟩ cj (by rw[bi];exact ch) (by rw[bi];exact Own.nil) (λc d=>by simp[Sl.ai] at d) ck cl
end
open M (Sorted Af CY A9 Ag Ar BU Ai bC BH aQ BF)
theorem zx(key:A2P): ∀ {l:List Pr},Sorted l->(BF key l=true-> ∃p,l[aQ key l]? =some p/\Af key l=some p)/\(BF key l=false->Af key l=none)
 | [],_=>⟨(λh=>by cases h),λ_=>rfl⟩
 |x::l,s=>by
  have d:=List.pairwise_cons.1 s;have e:=zx key d.2;rw[zB,UK,M.BD];by_cases h:aO x.key key=true
  ·rw[if_pos h,if_pos h,if_neg (M.Lj h)];exact⟨λb=>by obtain⟨p,f,i⟩:=e.1 b;exact⟨p,by simpa using f,i⟩,e.2⟩
  ·rw[if_neg h,if_neg h];by_cases a:x.key=key
   ·rw[if_pos a];exact⟨λ_=>⟨x,rfl,rfl⟩,λj=>by simp[a] at j⟩
   ·rw[if_neg a];refine⟨λb=>by simp[a] at b,λ_=>M.EI λn o r=>h ?_⟩;have:=d.1 n o;rwa [r] at this
section
variable {A : ar} {B : cI} {g h : aa} {q : Hp} {k : Nat -> Nat} {st : Db} {m : Bx} {D : Br} {aJ c : Nat} {R : A2O}
theorem Bw.dm(a:Bw B g h q k st m D aJ c):st.fr.length<=1000000/\st.ts.length<=100000/\(Ag (st.fr::aG st)).length<=1099511627776/\(Cm st).length<=100000:=by have d:=a.eZ.dm a.lim;have e:=a.eZ.jI a.lim;have f:=a.hc;have i:=B.hC;have b:=a.eZ.lB.cp;rw[a.eZ.iD] at b;have j:(Cm st).length<=(Ag (st.fr::aG st)).length:=rI _;omega
theorem Bw.sorted(a:Bw B g h q k st m D aJ c):Sorted (Cm st):=Ew _ _
end
def D0:Br:=⟨λ_=> [],λ_=> [],λ_=> [],1,1⟩
theorem ATc:Ao D0=⟨1,1,[]⟩:=rfl
theorem ATT {e:bQ}(i: ∀a,e (aD nl a)=none)(d: ∀a,e (aD nn a)=none)(j: ∀x,e x≠none->(bl x).head? ≠some 116):BJ e D0/\ji e D0 0 0/\cC D0= []:=by
 refine⟨⟨⟨λa p _ _ h=>?_,λ_ _ _ _=>rfl,λa _ _=>i a,λ_ _=>rfl⟩,⟨λa p _ _ h=>?_,λ_ _ _ _=>rfl,λa _ _=>d a,λ_ _=>rfl⟩,λa d=>?_,λa b l=>?_,λa x f=>?_,λx f hd=>absurd hd (j x f),by decide⟩,⟨by decide,by decide,by decide,by decide,by decide,by decide,λa d=>?_⟩,rfl⟩
 ·rw[i a] at h;cases h
 ·rw[d a] at h;cases h
 ·rw[ATc] at d;cases d
 ·cases l
 ·cases f
 ·exact absurd (rF a) (j _ d)
section
variable {A : ar} {B : cI} {g h : aa} {q : Hp} {k : Nat -> Nat} {st : Db} {m : Bx} {D : Br} {aJ c : Nat} {R : A2O}
theorem Bw.on {b:aa}(a:Bw B g h q k st m D aJ c)(x:Ext h b):Bw B g b q k st m D aJ c:=⟨a.mem.on x,a.up,a.eZ,a.lim,a.wt,a.hc⟩
theorem Bw.beside {b:aa}{d:Nat->Prop}(a:Bw B g h q k st m D aJ c)(x:Mod d h b)(hX: ∀c,d c->k c=0/\g.size<=c):Bw B g b q k st m D aJ c:=⟨a.mem.beside x hX,a.up,a.eZ,a.lim,a.wt,a.hc⟩
theorem Bw.more {b:Nat}(a:Bw B g h q k st m D aJ c)(d:c<=b)(e:b<=B.C):Bw B g h q k st m D aJ b:=⟨a.mem,a.up,a.eZ,a.lim.mono (A0 _) d,a.wt,e⟩
theorem Bw.free(a:Bw B g h q k st m D aJ c){x:Nat}(d:h.size<=x):k x=0:=Decidable.byContradiction λb=>by
 have:=(a.mem.own x b).2;omega
theorem Bw.base(a:Bw B g h q k st m D aJ c){x:Nat}(d:x<g.size):k x=0:=Decidable.byContradiction λb=>by
 have:=(a.mem.own x b).1;omega
theorem AOv {b:Nat}{Sb:Nat->Prop}(p:bZ g)(r:Cu h b Sb m)(s:Ext g h)(t: ∀c,Sb c->g.size<=c)(hd:m.down=false)(o:m.fuel= -1)(u: ∀j,ff m (aD nl j)=none)(v: ∀j,ff m (aD nn j)=none)(w: ∀x,ff m x≠none->(bl x).head? ≠some 116)(hA:1<=B.A)(N:bj m.files<=B.W0)
  (y: ∀a d f i e l,d.b=b->Bw B g a d f i e l 1 0->e.fuel= -1->Cm i= []->(∀ n,¬di n->ff e n=ff m n)->Mod Sb h a->(∀ c,f c≠0->Sb c\/h.size<=c)->R (J1 #[Aq d.d,J6 J9 0]) a):AA A P Ry #[Aq b] h R:=by
 obtain⟨z,C,E⟩:=ATT u v w;refine AN7 (B:=B) p r s t hd z C (An _) hA (by omega) (λF=>absurd o F) λa d f i e l G H I J K L M=>?_
 exact y a d f i e l G H (I.calm o) (J.trans E) K L M
end
abbrev kb:A2P:=⟨#[98]⟩
abbrev v1:A2P:=⟨#[49]⟩
abbrev v2:A2P:=⟨#[50]⟩
open Go Go.ChangeShapes Go.WideShapes Go.ChangeAt Go.RowKit Go.Proofs.YtgpmoonnachoaaaGreatDoor
def listed:List (String×DataW Unit):=Rows.archiveMovesRow.laid
theorem AM5: ∃(x c a b:String×DataW Unit),listed= [x,c,(oI,Lib.tabData .u64 Lib.pow10Tab),a,b]:=⟨_,_,_,_,rfl⟩
theorem ATV:P.globalNamed oI=some 2:=by kernel_rfl
theorem AS1:(P.globals[2]?).map (·.type)=some Te:=by kernel_rfl
theorem ATU:P.underlying Te=some (.array 20 Yu):=by kernel_rfl
theorem ASc:P.underlying Yu=some (.int .u64):=by kernel_rfl
theorem ATg:P.cellsOf Yu=1:=by kernel_rfl
theorem ATo:P.cellsOf Te=20:=by kernel_rfl
theorem AKo:listed.filter (λx=>x.2.handleName?.isSome)= []:=by kernel_rfl
theorem qG {b:World}(a:laidMetH P listed b):laidMet P listed b:=by unfold laidMetH at a;rw[AKo] at a;exact a
theorem ARW {c:World}(e:laidMetH P listed c):Lib.TabIs P c oI .u64 Lib.pow10Tab:=by have d:=qG e;obtain⟨x,g,a,b,f⟩:=AM5;rw[f] at d;exact Lib.tabIs_of_head (rest:= [a,b]) ATV AS1 ATU ASc ATg ATo (laidMet.tail (laidMet.tail d))
theorem ARY {a:World}(c:laidMetH P listed a):cW a.heap:=λd e=>by
 have b:=ARW c;unfold Lib.TabIs World.var? at b ⊢;exact b
def nT : String := String.ofList [Char.ofNat 42] ++ "errors.errorString"
def vP:String:=Rows.archiveMovesRow.named.getD 1 (String.ofList [])
def vQ:String:=Rows.archiveMovesRow.named.getD 0 (String.ofList [])
theorem AS0: ∃(x a z b:String×DataW Unit) (text:List UInt8),listed= [x,a,z,(vP,.iface nT (.ptr (.agg [.lit (.string text)]))),b]:=⟨_,_,_,_,_,rfl⟩
theorem ASA: ∃(x a z b:String×DataW Unit) (text:List UInt8),listed= [x,a,z,b,(vQ,.iface nT (.ptr (.agg [.lit (.string text)])))]:=⟨_,_,_,_,_,rfl⟩
theorem ATj:P.globalNamed vP=some 1:=by kernel_rfl
theorem ATK:P.globalNamed vQ=some 0:=by kernel_rfl
theorem ASW:(P.globals[1]?).map (·.type)=some nS:=by kernel_rfl
theorem AR9:(P.globals[0]?).map (·.type)=some nS:=by kernel_rfl
theorem ATh: ∃a,P.underlying nS=some (.interface a):=⟨_,Proofs.Tryz.underlying293⟩
theorem ASH(u:Q7)(a:P.typeName? 3 u=some nT):u=EU:=
 typeName_ptr_named (nm := "errors.errorString") (by kernel_rfl) (by kernel_rfl) (by decide) u a
theorem ATR:P.underlying EU=some (.pointer FC):=by kernel_rfl
theorem ATz: ∃f:Field,P.underlying FC=some (.struct #[f])/\f.type=BC/\f.offset=0:=⟨_,Proofs.Tryz.underlying388,rfl,rfl⟩
theorem ATx:P.cellsOf FC=1:=by kernel_rfl
theorem vR {b:String}{text:List UInt8}{h:List (String×DataW Unit)}{a:World}{g:Nat}(i:laidMet P ((b,.iface nT (.ptr (.agg [.lit (.string text)])))::h) a)(c:P.globalNamed b=some g)(j:(P.globals[g]?).map (·.type)=some nS):kZ a.heap g:=by
 obtain⟨p,k⟩:=ATh;obtain⟨f,l,m,n⟩:=ATz;obtain⟨d,q,o,_,_,_⟩:=laid_sentinel i c j k ASH ATR l m n ASr ATx ATw;have e:a.cell? ⟨g,0,none⟩=some (.iface EU (.pointer (some d))):=by simpa using World.var?_cell c o 0
 refine⟨.iface EU (.pointer (some d)),?_,.inr ⟨_,_,rfl⟩⟩;unfold ah;unfold World.cell? at e;exact e
theorem ASb {d:World}(b:laidMetH P listed d):bZ d.heap:=by
 refine⟨ARY b,?_,?_⟩
 ·have a:=qG b;obtain⟨x,e,z,f,t,c⟩:=ASA;rw[c] at a;exact vR (laidMet.tail (laidMet.tail (laidMet.tail (laidMet.tail a)))) ATK AR9
 ·have a:=qG b;obtain⟨x,e,z,f,t,c⟩:=AS0;rw[c] at a;exact vR (laidMet.tail (laidMet.tail (laidMet.tail a))) ATj ASW
def AJD:DataW Unit->Array J0
 | .agg ds=>(ds.map λ| .lit (.int a z)=>Value.int a z|_=> .bool false).toArray
 |_=> #[]
def fill(a:DataW Unit):Obj->Obj
 | .cells _ t frozen=> .cells (AJD a) t frozen
 |o=>o
def jb(b:Nat):Obj->Obj
 | .cells _ t frozen=> .cells #[.iface EU (.pointer (some ⟨b,0,none⟩))] t frozen
 |o=>o
abbrev AQa:A2P:=⟨#[118,97,108,117,101,32,111,117,116,32,111,102,32,114,97,110,103,101]⟩
abbrev AQz:A2P:=⟨#[105,110,118,97,108,105,100,32,115,121,110,116,97,120]⟩
noncomputable def low:Nat:=(World.holding P default ⟨#[],#[],[]⟩).heap.size
noncomputable def ZI (os:Os):World:=
 let a:=World.holding P os ⟨#[.cells #[.string AQa] FC,.cells #[.string AQz] FC],#[],[]⟩
 {a with heap:=((((a.heap.modify 2 (fill Rows.laid_internal_strconv_uint64pow10)).modify 4 (fill Rows.laid_math_bits_deBruijn32tab)).modify 5 (fill Rows.laid_math_bits_deBruijn64tab)).modify 1 (jb low)).modify 0 (jb (low+1))}
theorem AI1(os:Os)(args:Array J0):laidMet P listed ((ZI os).forCall (λ_ _=>0) ⟨#[],args,[]⟩).memory:=
 laidMet_of_run' 8 (by kernel_rfl) (by kernel_rfl)
end Go.Lf.G
namespace Go.Lf.G.M
open Go Go.ChangeShapes Go.WideShapes Go.ChangeAt Go.RowKit Go.Proofs.YtgpmoonnachoaaaGreatDoor
def lX(a:World):ar:=⟨a.tape,a.os,a.output⟩
section
variable {H : Type} {enc : Q7 × J0 -> H} {w : World} {base : Nat} {spare : Nat -> Bool} {held : Bool}
instance:Inhabited Pr:=⟨⟨⟨#[]⟩,⟨#[]⟩,false⟩⟩
instance:Inhabited Sl:=⟨⟨none,0,0⟩⟩
end
end Go.Lf.G.M
namespace Go.Lf.G
open Go
open M (Sorted Af CY A9 Ag Ar BU Ai bC BH aQ BF)
structure ATQ where
 kind:Int
 bs:Sl
 key:A2P
 til:A2P
 most:Int
 ks:Sl
structure AT3 (N:Nat) (h:aa) (x:ATQ) (l:List Pr) (ks:List Int):Prop where
 bs:View BQ h x.bs l
 ks:View IJ h x.ks ks
 key:x.key.size<=N
theorem ARp {e:Type}{d:cF e}{h:aa}{s:Sl}{l:List e}(v:View d h s l)(f:l≠ []){b:Nat}(i:s.ai=some b):b<h.size:=by
 cases l with
 |nil=>exact absurd rfl f
 |cons x l=>
  obtain⟨a,j,n⟩:=v.cells 0 x rfl;have p:=d.pos;have r:=d.len x;obtain⟨u,o⟩: ∃u,(d.enc x)[0]? =some u:=⟨_,A2 (by omega)⟩;have:=VD (n 0 u o);rw[aV,aV] at this;have t:a.block=b:=by simpa [Sl.ai,j] using i
  omega
section
variable {A : ar} {B : cI} {g h : aa} {q : Hp} {k : Nat -> Nat} {st : Db} {m : Bx} {D : Br} {aJ c : Nat} {R : A2O}
theorem Bw.put {b a:Nat}(d:Bw B g h q k st m D aJ c)(e:aJ<=b)(f:c<=a)(i:a<=B.C):Bw B g h q k st m D b a:=(d.aJ e).more f i
theorem Bw.args(a:Bw B g h q k st m D aJ c){s:Sl}{l:List Pr}(v:View BQ g s l):l≠ []-> ∀b,s.ai=some b->b<h.size/\k b=0:=λd b e=>by
 have f:=ARp v d e;have:=a.mem.ext.size;exact⟨by omega,a.base f⟩
end
theorem AJY {A:ar}{B:cI}{g h:aa}{q:Hp}{k:Nat->Nat}{st:Db}{m:Bx}{D:Br}{aJ c:Nat}{R:A2O}{s:Sl}{l:List Pr}(u:bZ g)(j:Bw B g h q k st m D aJ c)(i:m.fuel= -1)(hA:aJ+3<=B.A)(v:View BQ h s l)(w:l≠ []-> ∀b,s.ai=some b->b<h.size/\k b=0)(x:c+64<=B.C)
  (y: ∀e n z C f G,n.d=q.d->n.b=q.b->Bw B g e n z C f G (aJ+3) (c+64)->f.fuel= -1->Cm C=(if EX l=0 then cz (Cm st) l else Cm st)->(∀ o,¬di o->ff f o=ff m o)->Mod (λc=>k c≠0) h e->(∀ c,z c≠0->k c≠0\/h.size<=c)->R (J6 J9 (EX l)) e):
  AA A P Ku #[Aq q.d,J4 s.p s.len s.cap] h R:=by
 by_cases a:EX l=0
 ·have W:=(zk a).1.len;refine zr (B:=B) (s:=s) u j hA v w (λ_=>by omega) (λE=>absurd a E) (λ_ e f p=>absurd i p.fuel) (λ_ e f p=>absurd i p.fuel) λ_ r H I J K L M N O Q S T U V=>?_
  have:=y r H I J K L M N (O.put (A0 _) (by omega) x) (Q.calm i) (by rw[if_pos a];exact S.map) T U V;rwa [a] at this
 ·refine zr (B:=B) (s:=s) u j hA v w (λd=>absurd d a) (λE r F=>?_) (λd=>absurd d a) (λd=>absurd d a) (λd=>absurd d a);exact y r q k st m D rfl rfl ((j.on F).put (by omega) (by omega) x) i (by rw[if_neg a]) (λ_ _=>rfl) (F.ak λc _ t=>t.elim) λc t=> .inl t
open Go Go.ChangeShapes Go.WideShapes Go.ChangeAt Go.RowKit Go.Proofs.YtgpmoonnachoaaaGreatDoor
section
variable {H : Type} {enc : Q7 × J0 -> H} {w : World} {base : Nat} {spare : Nat -> Bool} {held : Bool}
end
section
variable {H : Type} {enc : Q7 × J0 -> H} {w : World} {base : Nat} {spare : Nat -> Bool} {held : Bool}
end
def Jf(c:ar)(u:Int)(R:aa)(f:A2O):=AA c P Jg #[] R λv w=> ∃x:Bool,v=J3 x/\(ag (!x) (f (J3 false) w) (AA c P Gm #[] w λv1 y=> ∃d:Q2,v1=J5 d/\(ag (d.isNone) (f (J3 false) y) (ao y (.map #[] 0) λb S=>Loop (λK (s:Int×Unit) z=>ag (decide (s.1<(J8 J9 (((J8 J9 ((u.tmod (20:Int))+20)).tmod (20:Int))+1)))) (ao z (J2 #[.int .u8 (J8 .u8 (J8 J9 ((97:Int)+s.1)))] Di) λT U=>BI c P (convert Cs BC (J4 (some (Q5 T 0 none)) 1 1)) U λv2 V=> ∃g:A2P,v2=J7 g/\(aI ((((⟨#[119]⟩:A2P).size+g.size:Nat):Int)<=IntKind.i64.max)<| gq c P (Instr.mapUpdate Io (.map (some b)) (J7 ((⟨#[119]⟩:A2P)++g)) (J3 true)) V λl=>(At d λa=>aI ((0:Int)<=0/\0<(2:Int))<| AY l ((a.add 2).add ((0:Int).toNat*1)) λW=>At d λX=>AY l (X.add 4) λY=>AA c P Dg #[J5 W,(.iface Dq (J5 Y)),J6 J9 0,(⟨1,((⟨#[119]⟩:A2P)++g),((⟨#[119]⟩:A2P)++g),(⟨#[]⟩:A2P),(⟨none,0,0⟩:Sl),0,(⟨none,0,0⟩:Sl),0,0,0,0,false⟩:ct).v] l λZ A=>EC λB=>Z=B.v/\(ag (B.err != 0) (f (J3 false) A) (K ((J8 J9 (s.1+1)),()) A))))) (Loop (λab (C:Int×Unit) D=>ag (decide (C.1<4)) (Loop (λac (m:Int×Unit) h=>ag (decide (m.1<3)) (At d λad=>aI ((0:Int)<=0/\0<(2:Int))<| AY h ((ad.add 2).add ((0:Int).toNat*1)) λae=>At d λaf=>AY h (af.add 4) λai=>AA c P OC #[J5 ae,J5 ai,J6 J9 m.1] h λak E=> ∃al:Int,∃F:Int,ak=J1 #[J6 J9 al,J6 J9 F]/\(ag (F != 0) (f (J3 false) E) (ac ((J8 J9 (m.1+1)),()) E))) (ab ((J8 J9 (C.1+1)),()) h)) (0,()) D) (Loop (λam (G:Int×Unit) e=>ag (decide (G.1<(J8 J9 (((J8 J9 ((u.tmod (20:Int))+20)).tmod (20:Int))+1)))) (aj (λ(n:(Q2)×Unit) i=>aj (λ(an:Bool×Unit) o=>ag an.1 (f (J3 false) o) (At n.1 λap=>AJ o ((ap.add 3).add 1) λaq=>BI c P (Builtin.delete_ #[Io,BC] t_ #[.map (some b),J7 aq]) o λau av=>au=J1 #[]/\(am ((J8 J9 (G.1+1)),()) av))) λH=>At n.1 λaw=>AC J9 i aw λax=>ag (ax != 0) (H (true,()) i) (At n.1 λay=>AJ i ((ay.add 3).add 1) λaz=>BI c P (Instr.lookup Io (.map (some b)) (J7 az) false) i λaA aC=> ∃I:Bool,aA=J3 I/\(H ((!I),()) aC))) λJ=>At d λp=>aI ((0:Int)<=0/\0<(2:Int))<| AY e ((p.add 2).add ((0:Int).toNat*1)) λj=>At d λq=>AY e (q.add 4) λk=>And (AA c P BN #[J5 j,J5 k,J6 J9 0,J7 (⟨#[]⟩:A2P)] e λaD aE=>EC λL=>aD=L.v/\(ao aE (J2 bo.z.c Ad) λM r=>And (ah r (q.add 4)=some (J5 k))<| And (ah r ((p.add 2).add ((0:Int).toNat*1))=some (J5 j))<| aF r (Q5 M 0 none) L.l λaG=>J ((some (Q5 M 0 none)),()) aG))<| ao e (J2 bo.z.c Ad) λN t=>And (ah t (q.add 4)=some (J5 k))<| And (ah t ((p.add 2).add ((0:Int).toNat*1))=some (J5 j))<| AA c P BN #[J5 j,J5 k,J6 J9 0,J7 (⟨#[]⟩:A2P)] t λaH aJ=>EC λO=>aH=O.v/\(aF aJ (Q5 N 0 none) O.l λaK=>J ((some (Q5 N 0 none)),()) aK)) (At d λaL=>aI ((0:Int)<=0/\0<(2:Int))<| AY e ((aL.add 2).add ((0:Int).toNat*1)) λaM=>At d λaN=>AY e (aN.add 4) λaO=>AA c P BN #[J5 aM,J5 aO,J6 J9 0,J7 (⟨#[]⟩:A2P)] e λaP aQ=>EC λQ=>aP=Q.v/\(f (J3 (Q.err==200)) aQ))) (0,()) D)) (0,()) z)) (0,()) S))))
theorem OY {a b c d}(e:Jf a b c d):AA a P Je #[J6 J9 b] c d:=Ae (AL AU (AL Cz (CX 2 (AL Cz (AL AU (AL (AL AU (.block (.loop [(23,.one (.int J9))] [0,3,4,22] (AL AU (AL FJ (AL (.block (CX 4 EH)) AU)))))) (AL (AL AU (.block (.loop [(51,.one (.int J9))] [0,3,4] (AL AU (AL FJ (AL (.block (AL AU (.block (.loop [(53,.one (.int J9))] [0,3,4,51] lQ)))) AU)))))) (AL (AL AU (.block (.loop [(75,.one (.int J9))] [3,4,74] (AL AU (AL FJ (AL (.block (AL (.bB [(10,.one .ptr)] [3,4,74,75]) (AL (AL (.bB [(97,.one .bool)] [3,4,10,74,75]) EH) AU))) AU)))))) Bl)))))))) (by kernel_rfl) e
end Go.Lf.G
namespace Go.Lf
open G
open Go
abbrev bg.V(s:bg)(a b c:Sl):bH:=⟨a,s.prog.aA,s.status,s.next,s.ba,s.asked,s.taken,s.fresh,b,c,s.cancel,s.aS⟩
end Go.Lf
namespace Go.Lf.G
open Go
structure JK (h:aa) (s:bg) (a b c:Sl):Prop where
 steps:View QP h a s.prog.steps
 aw:View fq h b s.aw
 al:View gg h c s.al
theorem JK.mod {g:Nat->Prop}{h j:aa}{s:bg}{a b c:Sl}(i:JK h s a b c)(m:Mod g h j)(k: ∀x,a.ai=some x-> ¬g x)(l: ∀x,b.ai=some x-> ¬g x)(n: ∀x,c.ai=some x-> ¬g x):JK j s a b c:=
 ⟨i.steps.mod m λx d f=>k x d f,i.aw.mod m λx d f=>l x d f,i.al.mod m λx d f=>n x d f⟩
theorem JK.ext {h f:aa}{s:bg}{a b c:Sl}(d:JK h s a b c)(x:Ext h f):JK f s a b c:=⟨d.steps.ext x,d.aw.ext x,d.al.ext x⟩
structure D3 (h hh:aa) (T0 T1 T2:Q7) (x:bH) (e:Ev) (y:bH):Prop where
 ext:Ext h hh
 b0:hh[h.size]? =some (J2 x.c T0 (0,0))
 b1:hh[h.size+1]? =some (J2 e.c T1 (0,0))
 b2:hh[h.size+2]? =some (J2 y.c T2 (0,0))
section
variable {A : ar} {h hh : aa} {T0 T1 T2 : Q7} {x y : bH} {e : Ev} {R : A2O}
theorem lM {K:Nat->Nat->Nat->aa->Prop}(m: ∀hh,D3 h hh T0 T1 T2 x e y->K h.size (h.size+1) (h.size+2) hh):
  ao h (J2 x.c T0) λb f=>ao f (J2 e.c T1) λn g=>ao g (J2 y.c T2) λo a=>K b n o a:=by
 refine ao.mk λf _ p q c=>ao.mk λg _ i j k=>ao.mk λa _ l d r=>?_
 rw[c] at i;rw[k,c] at l;have:=m a ⟨(q.trans j).trans d,d.ai (j.ai p (λh=>h)) (λh=>h),d.ai i (λh=>h),l⟩;rw[k,c];exact this
theorem D3.on {b:aa}(a:D3 h hh T0 T1 T2 x e y)(m:Ext hh b):D3 h b T0 T1 T2 x e y:=⟨a.ext.trans m,m.ai a.b0 (λh=>h),m.ai a.b1 (λh=>h),m.ai a.b2 (λh=>h)⟩
theorem D3.set {c:Nat}{v:J0}{x':bH}{K:aa->Prop}(a:D3 h hh T0 T1 T2 x e y)(d:c<12)(f:x.c.setIfInBounds c v=x'.c)(g: ∀h',D3 h h' T0 T1 T2 x' e y->K h'):af hh ((⟨h.size,0,none⟩:Q6).add c) v K:=
 af.bM a.b0 d f λh' i m s=>g h' ⟨a.ext.more m λb j=>by subst j;exact A0 _,i,m.ai a.b1 (by omega),m.ai a.b2 (by omega)⟩
theorem D3.ir {j:Nat}{v:J0}{x':bH}{K:aa->Prop}(d:D3 h hh T0 T1 T2 x e y)(f:j<12)(g:x.c.setIfInBounds j v=x'.c)(i: ∀a,D3 h a T0 T1 T2 x' e y->Mod (λc=>c=h.size) hh a->K a):af hh ((⟨h.size,0,none⟩:Q6).add j) v K:=
 af.bM d.b0 f g λa k m s=>i a ⟨d.ext.more m λb l=>by subst l;exact A0 _,k,m.ai d.b1 (by omega),m.ai d.b2 (by omega)⟩ m
theorem D3.oT {v:J0}{x':bH}{K:aa->Prop}(b:D3 h hh T0 T1 T2 x e y)(d:x.c.setIfInBounds 0 v=x'.c)(f: ∀a,D3 h a T0 T1 T2 x' e y->Mod (λc=>c=h.size) hh a->K a):af hh (⟨h.size,0,none⟩:Q6) v K:=
 b.ir (j:=0) (by decide) d f
theorem D3.cM {j:Nat}{v:J0}(a:D3 h hh T0 T1 T2 x e y)(b:x.c[j]? =some v):ah hh ((⟨h.size,0,none⟩:Q6).add j)=some v:=AB a.b0 b
theorem D3.bM {j:Nat}{v:J0}(a:D3 h hh T0 T1 T2 x e y)(b:e.c[j]? =some v):ah hh ((⟨h.size+1,0,none⟩:Q6).add j)=some v:=AB a.b1 b
theorem FB {h:aa}{b:Nat}{T:Q7}{fr:Nat×Nat}{x:bH}(a:h[b]? =some (J2 x.c T fr)):Cells h ⟨b,0,none⟩ x.l:=Cr a rfl
theorem QV {h:aa}{b:Nat}{T:Q7}{fr:Nat×Nat}{x:Ev}(a:h[b]? =some (J2 x.c T fr)):Cells h ⟨b,0,none⟩ x.l:=Cr a rfl
theorem O8(x y:bH):gv y.c 0 x.l=x.c:=rfl
theorem pM(x y:Ev):gv y.c 0 x.l=x.c:=rfl
theorem pN(x y:bP):gv y.c 0 x.l=x.c:=rfl
theorem D3.jq(a:D3 h hh T0 T1 T2 x e y):ah hh (⟨h.size,0,none⟩:Q6)=some (J4 x.steps.p x.steps.len x.steps.cap)/\ah hh ((⟨h.size,0,none⟩:Q6).add 1)=some (J6 J9 x.aA)/\ah hh ((⟨h.size,0,none⟩:Q6).add 2)=some (J6 J9 x.status)/\ah hh ((⟨h.size,0,none⟩:Q6).add 3)=some (J6 J9 x.next)/\ah hh ((⟨h.size,0,none⟩:Q6).add 4)=some (J6 J9 x.ba)/\ah hh ((⟨h.size,0,none⟩:Q6).add 5)=some (J6 J9 x.asked)/\ah hh ((⟨h.size,0,none⟩:Q6).add 6)=some (J6 J9 x.taken)/\ah hh ((⟨h.size,0,none⟩:Q6).add 7)=some (J3 x.fresh)/\ah hh ((⟨h.size,0,none⟩:Q6).add 8)=some (J4 x.aw.p x.aw.len x.aw.cap)/\ah hh ((⟨h.size,0,none⟩:Q6).add 9)=some (J4 x.al.p x.al.len x.al.cap)/\ah hh ((⟨h.size,0,none⟩:Q6).add 10)=some (J3 x.cancel)/\ah hh ((⟨h.size,0,none⟩:Q6).add 11)=some (J3 x.aS):=
 ⟨a.cM (j:=0) rfl,a.cM (j:=1) rfl,a.cM (j:=2) rfl,a.cM (j:=3) rfl,a.cM (j:=4) rfl,a.cM (j:=5) rfl,a.cM (j:=6) rfl,a.cM (j:=7) rfl,a.cM (j:=8) rfl,a.cM (j:=9) rfl,a.cM (j:=10) rfl,a.cM (j:=11) rfl⟩
theorem D3.eV {K:bH->Prop}(a:D3 h hh T0 T1 T2 x e y)(b:K x):Az hh ⟨h.size,0,none⟩ K:=Az.mk x (FB a.b0) b
theorem D3.kG {K:Ev->Prop}(a:D3 h hh T0 T1 T2 x e y)(b:K e):Np hh ⟨h.size+1,0,none⟩ K:=Np.mk e (QV a.b1) b
theorem D3.mN {z:bH}{K:aa->Prop}(d:D3 h hh T0 T1 T2 x e y)(g: ∀a,D3 h a T0 T1 T2 z e y->Mod (λc=>c=h.size) hh a->K a):aF hh ⟨h.size,0,none⟩ z.l K:=
 aF.mk d.b0 (A0 12) λa f m s=>g a ⟨d.ext.more m λb i=>by subst i;exact A0 _,(by rw[O8] at f;exact f),m.ai d.b1 (by omega),m.ai d.b2 (by omega)⟩ m
theorem D3.tell {z:bH}{K:bH->aa->Prop}(c:D3 h hh T0 T1 T2 x e y)(g: ∀a,Ext h a->K z a):aF hh ⟨h.size+2,0,none⟩ z.l λd=>Az d ⟨h.size+2,0,none⟩ λi=>K i d:=
 aF.mk c.b2 (A0 12) λa f m s=>Az.mk z (FB (by rw[O8] at f;exact f)) (g a (c.ext.more m λb j=>by subst j;omega))
theorem D3.iR {z:bH}{K:bH->aa->Prop}(d:D3 h hh T0 T1 T2 x e y)(i: ∀a,Ext h a->Mod (λc=>c=h.size+2) hh a->K z a):aF hh ⟨h.size+2,0,none⟩ z.l λf=>Az f ⟨h.size+2,0,none⟩ λj=>K j f:=
 aF.mk d.b2 (A0 12) λa g m s=>Az.mk z (FB (by rw[O8] at g;exact g)) (i a (d.ext.more m λb k=>by subst k;omega) m)
theorem D3.ret {K:bH->aa->Prop}(a:D3 h hh T0 T1 T2 x e y)(d: ∀b,Ext h b->K x b):Az hh ⟨h.size,0,none⟩ λt=>aF hh ⟨h.size+2,0,none⟩ t.l λc=>Az c ⟨h.size+2,0,none⟩ λf=>K f c:=
 a.eV (a.tell d)
theorem D3.oU {K:bH->aa->Prop}(b:D3 h hh T0 T1 T2 x e y)(f: ∀a,Ext h a->Mod (λc=>c=h.size+2) hh a->K x a):Az hh ⟨h.size,0,none⟩ λt=>aF hh ⟨h.size+2,0,none⟩ t.l λd=>Az d ⟨h.size+2,0,none⟩ λg=>K g d:=
 b.eV (b.iR f)
theorem AIY {s:bg}{a b c:Sl}(T:2<=e.kind/\e.kind<=5)(C: ∀n,Ext h n->R (J1 #[(((Dv s e).getD s).V a b c).v,J3 (Dv s e).isSome]) n):AA A P MO #[(s.V a b c).v,e.v] h R:=by
 refine Xr ?_;unfold QR;refine lM λH d=>?_
 refine aj.mk λK I=>aj.mk λJ L=>?_
 have v: ∀ {t:bg} {hh:aa},D3 h hh Av A8 Av (t.V a b c) e bH.z->Dv s e=some t->K () hh:=λ{t hh} d hd=>by
  refine I _ _ (d.ret λn x=>?_);have:=C n x;rw[hd] at this;exact this
 have no: ∀ {hh:aa},D3 h hh Av A8 Av (s.V a b c) e bH.z->Dv s e=none->Az hh ⟨h.size,0,none⟩ λt=>aF hh ⟨h.size+2,0,none⟩ t.l λD=>Az D ⟨h.size+2,0,none⟩ λM=>R (J1 #[M.v,J3 false]) D:=λ{hh} d hd=>by
  refine d.ret λn x=>?_
  have:=C n x;rw[hd] at this;exact this
 have key: ∀(o:Bool),(e.kind=2->(o=true↔s.asked=0/\s.taken=0/\s.fresh=true))->(e.kind≠2->o=false)->J (o,()) H:=λo E N=>by
  refine L _ _ (ag.intro (λk=>?_) (λk=>?_))
  ·have k:o=true:=k;have g:e.kind=2:=Decidable.byContradiction λh=>by rw[N h] at k;cases k
   refine AC.mk (d.bM (j:=0) rfl) (d.set (x':=({s with asked:=e.id}:bg).V a b c) (by decide) rfl λz m=>v m ?_);unfold Dv;rw[if_pos g,if_pos ((E g).1 k)]
  ·have k:o=false:=k;refine aj.mk λU F=>AC.mk (d.bM (j:=1) rfl) (ag.intro (λi=>?_) (λi=>?_))
   ·have i:e.kind=3:=by simpa using i
    refine AC.mk (d.cM (j:=5) rfl) (AC.mk (d.bM (j:=3) rfl) (F _ _ (ag.intro (λf=>?_) (λf=>?_))))
    ·have f:s.asked=e.ref:=by simpa using f
     refine AC.mk (d.bM (j:=0) rfl) (d.set (x':=({s with asked:=0}:bg).V a b c) (by decide) rfl λz m=>⟨m.bM (j:=0) rfl,?_⟩);refine m.set (x':=({s with asked:=0,taken:=e.id}:bg).V a b c) (by decide) rfl λO B=>B.set (x':=({s with asked:=0,taken:=e.id,fresh:=false}:bg).V a b c) (by decide) rfl λV Q=>v Q ?_
     unfold Dv;rw[if_neg (by omega),if_pos i,if_pos f]
    ·have f:s.asked≠e.ref:=by simpa using f
     refine aj.mk λS w=>AC.mk (d.bM (j:=1) rfl) (ag.no (by simp[i]) (w _ _ (ag.no rfl ?_)))
     refine aj.mk λG p=>AC.mk (d.bM (j:=1) rfl) (ag.no (by simp[i]) (p _ _ (ag.no rfl (no d ?_))))
     unfold Dv;rw[if_neg (by omega),if_pos i,if_neg f]
   ·have i:e.kind≠3:=by simpa using i
    refine F _ _ (ag.no rfl (aj.mk λS w=>AC.mk (d.bM (j:=1) rfl) (ag.intro (λl=>?_) (λl=>?_))))
    ·have l:e.kind=4:=by simpa using l
     refine AC.mk (d.cM (j:=6) rfl) (AC.mk (d.bM (j:=3) rfl) (w _ _ (ag.intro (λf=>?_) (λf=>?_))))
     ·have f:s.taken=e.ref:=by simpa using f
      refine d.set (x':=({s with taken:=0}:bg).V a b c) (by decide) rfl λz m=>v m ?_
      unfold Dv;rw[if_neg (by omega),if_neg i,if_pos l,if_pos f]
     ·have f:s.taken≠e.ref:=by simpa using f
      refine aj.mk λG p=>AC.mk (d.bM (j:=1) rfl) (ag.no (by simp[l]) (p _ _ (ag.no rfl (no d ?_))))
      unfold Dv;rw[if_neg (by omega),if_neg i,if_pos l,if_neg f]
    ·have l:e.kind≠4:=by simpa using l
     refine w _ _ (ag.no rfl (aj.mk λG p=>AC.mk (d.bM (j:=1) rfl) (ag.intro (λu=>?_) (λu=>?_))))
     ·have u:e.kind=5:=by simpa using u
      refine AC.mk (d.cM (j:=6) rfl) (AC.mk (d.bM (j:=3) rfl) (p _ _ (ag.intro (λf=>?_) (λf=>?_))))
      ·have f:s.taken=e.ref:=by simpa using f
       refine d.set (x':=({s with taken:=0}:bg).V a b c) (by decide) rfl λz m=>m.set (x':=({s with taken:=0,fresh:=true}:bg).V a b c) (by decide) rfl λO B=>v B ?_
       unfold Dv;rw[if_neg (by omega),if_neg i,if_neg l,if_pos f]
      ·have f:s.taken≠e.ref:=by simpa using f
       refine no d ?_;unfold Dv;rw[if_neg (by omega),if_neg i,if_neg l,if_neg f]
     ·have u:e.kind≠5:=by simpa using u
      have g:e.kind=2:=by omega
      refine p _ _ (ag.no rfl (no d ?_));unfold Dv;rw[if_pos g,if_neg λh=>by rw[(E g).2 h] at k;cases k]
 refine AC.mk (d.bM (j:=1) rfl) (ag.intro (λg=>?_) (λg=>key _ (λh=>by simp[h] at g) λ_=>rfl));have g:e.kind=2:=by simpa using g
 refine AC.mk (d.cM (j:=5) rfl) (ag.intro (λq=>?_) (λq=>key _ (λ_=>by simp at q;simp[q]) λh=>absurd g h));have q:s.asked=0:=by simpa using q
 refine AC.mk (d.cM (j:=6) rfl) (ag.intro (λr=>?_) (λr=>key _ (λ_=>by simp at r;simp[r]) λh=>absurd g h));have r:s.taken=0:=by simpa using r
 exact Ac.mk (d.cM (j:=7) rfl) (key _ (λ_=>by simp[q,r]) λh=>absurd g h)
theorem Xb {s:bg}{a b c:Sl}{d:Int}(k: ∀g,Ext h g->R ((ik s d).V a ⟨none,0,0⟩ ⟨none,0,0⟩).v g):AA A P IV #[(s.V a b c).v,J6 J9 d] h R:=by
 refine ADZ ?_;unfold WP;refine ao.mk λJ _ l n K=>ao.mk λL _ o i M=>?_
 have p:=i.ai l (λh=>h);refine af.bM (dJ:=(({s with status:=d}:bg).V a b c).c) p (of_decide_eq_true rfl) rfl λN q r _=>?_
 refine af.bM (dJ:=(({s with status:=d,asked:=0}:bg).V a b c).c) q (of_decide_eq_true rfl) rfl λO t u _=>?_
 refine af.bM (dJ:=(({s with status:=d,asked:=0,taken:=0}:bg).V a b c).c) t (of_decide_eq_true rfl) rfl λQ v w _=>?_
 refine af.bM (dJ:=(({s with status:=d,asked:=0,taken:=0,fresh:=false}:bg).V a b c).c) v (of_decide_eq_true rfl) rfl λS z B _=>?_
 refine af.bM (dJ:=(({s with status:=d,asked:=0,taken:=0,fresh:=false}:bg).V a ⟨none,0,0⟩ c).c) z (of_decide_eq_true rfl) rfl λT C D _=>?_
 refine af.bM (dJ:=(({s with status:=d,asked:=0,taken:=0,fresh:=false}:bg).V a ⟨none,0,0⟩ ⟨none,0,0⟩).c) C (of_decide_eq_true rfl) rfl λU E F _=>?_
 have m:=((((r.trans u).trans w).trans B).trans D).trans F;have G:=m.ai o (by omega);refine Az.mk (({s with status:=d,asked:=0,taken:=0,fresh:=false}:bg).V a ⟨none,0,0⟩ ⟨none,0,0⟩) (FB E) ?_;refine aF.mk G (A0 12) λH j I V=>Az.mk _ (FB (by rw[O8] at j;exact j)) (k H ?_)
 exact((n.trans i).more m λc f=>by subst f;exact A0 _).more I λc f=>by subst f;omega
theorem pO {s:bg}{a b c:Sl}(k:b.len=s.aw.length)(l: ∀j,Ext h j->R (J3 (decide (O6 s))) j):AA A P Ky #[(s.V a b c).v] h R:=by
 refine AEK ?_;unfold Yz;refine ao.mk λm _ i n o=>?_
 have g:=l m n;refine AC.mk (AB i rfl) (ag.intro (λd=>?_) (λd=>?_))
 ·have d:s.asked=0:=by simpa using d
  refine AC.mk (AB i rfl) (ag.intro (λf=>?_) (λf=>?_))
  ·have f:s.taken=0:=by simpa using f
   refine AZ.mk (s:=b) (AB i rfl) ?_;have e:decide (O6 s)=(((b.len:Nat):Int)==(0:Int)):=by rw[k,Fc];simp[O6,d,f,Ts]
   rw[e] at g;exact g
  ·have f:s.taken≠0:=by simpa using f
   rw[show decide (O6 s)=false from by simp[O6,f]] at g;exact g
 ·have d:s.asked≠0:=by simpa using d
  rw[show decide (O6 s)=false from by simp[O6,d]] at g;exact g
end
end Go.Lf.G
namespace Go.Lf
open Go
structure Dc (s:bg) (n:Nat):Prop where
 aw:s.aw.length<=n
 al:s.al.length<=n
 steps:s.prog.steps.length<=16
 aA:0<=s.prog.aA/\s.prog.aA<=16000
 ba:0<=s.ba/\s.ba<=1099511627776
 next:0<=s.next/\s.next<=501
 st:0<=s.status/\s.status<=4
 waits: ∀x∈s.prog.steps,0<=x.wait/\x.wait<=1000
theorem Dc.zero:Dc Sy 0:=⟨by decide,by decide,by decide,by decide,by decide,by decide,by decide,λx a=>by cases a⟩
theorem AQP {x:bP}(a:NF x=true):0<=x.wait/\x.wait<=1000:=by
 unfold NF at a
 repeat' split at a
 all_goals first|(simp only[A4,DA,decide_eq_true_eq,Ba] at a;omega)|cases a
theorem RZ {a:Ev}(d:Ej a=true):(1<=a.kind/\a.kind<=18)/\(1<=a.id/\a.id<=500)/\(0<=a.tick/\a.tick<=1099511627776)/\(a.kind=1-> ∃p,JG (bl a.data)=some p/\Fz p=true)/\(a.kind=12->Ak a.data=true):=by
 unfold Ej at d;rw[A4] at d;obtain⟨c,b⟩:=d;simp only[Ed,A4] at c;refine⟨Ba.1 c.1.1.1.1.1.1.1,Ba.1 c.1.1.1.1.1.1.2,Ba.1 c.1.1.1.1.1.2,λe=>?_,λe=>?_⟩
 ·unfold KC at b;rw[if_pos e] at b;obtain⟨p,f⟩:=Option.isSome_iff_exists.1 b;exact⟨p,f,(wh f).1⟩
 ·unfold KC at b;rw[if_neg (by omega),if_pos e] at b;exact b
theorem xE {p:ck}(a:Fz p=true):p.steps.length<=16/\(0<=p.aA/\p.aA<=16000)/\ ∀x∈p.steps,NF x=true:=by simp only[Fz,A4,decide_eq_true_eq,Fl] at a;exact⟨a.1.1,Ba.1 a.1.2,a.2⟩
structure mu (s t:bg):Prop where
 prog:t.prog=s.prog
 next:t.next=s.next
 ba:t.ba=s.ba
theorem QF {s t:bg}{b:Ev}(a:Dv s b=some t):mu s t/\t.aw=s.aw/\t.al=s.al/\t.status=s.status:=by
 unfold Dv at a
 repeat' split at a
 all_goals first|(cases a;exact⟨⟨rfl,rfl,rfl⟩,rfl,rfl,rfl⟩)|cases a
theorem xF {s t:bg}{b:Ev}(a:KO s b=some t):mu s t/\(t.aw=s.aw\/t.aw= [])/\(t.al=s.al\/t.al= [])/\(t.status=s.status\/(1<=t.status/\t.status<=4)):=by
 unfold KO at a
 repeat' split at a
 all_goals first|(cases a;first|exact⟨⟨rfl,rfl,rfl⟩,.inl rfl,.inl rfl,.inl rfl⟩|exact⟨⟨rfl,rfl,rfl⟩,.inr rfl,.inr rfl,.inr (by simp only[ik];omega)⟩)|cases a
theorem xG {s t:bg}{b:Ev}(a:Li s b=some t):mu s t/\t.aw.length<=s.aw.length+1/\t.al=s.al/\t.status=s.status:=by
 unfold Li at a;split at a
 ·obtain⟨x,c,a⟩:=Option.bind_eq_some_iff.1 a;split at a
  ·cases a
  ·cases a;exact⟨⟨rfl,rfl,rfl⟩,by simp,rfl,rfl⟩
 ·obtain⟨i,d,a⟩:=Option.bind_eq_some_iff.1 a;obtain⟨e,f,a⟩:=Option.bind_eq_some_iff.1 a
  repeat' split at a
  all_goals first|(cases a;exact⟨⟨rfl,rfl,rfl⟩,by first|(simp only[R2];omega)|(have:=A0v s.aw i;simp only;omega),rfl,rfl⟩)|cases a
theorem xH {s t:bg}{b:Ev}(a:KA s b=some t):mu s t/\t.aw=s.aw/\t.al.length<=s.al.length+1/\t.status=s.status:=by
 unfold KA at a;split at a
 ·obtain⟨x,c,rfl⟩:=Option.map_eq_some_iff.1 a;exact⟨⟨rfl,rfl,rfl⟩,rfl,by simp,rfl⟩
 ·obtain⟨i,d,rfl⟩:=Option.map_eq_some_iff.1 a;exact⟨⟨rfl,rfl,rfl⟩,rfl,by have:=A0v s.al i;simp only;omega,rfl⟩
theorem AKW {s t:bg}{g:Ev}(a:Pi s g=some t): ∃u:bg,t= {u with next:=s.next+1}/\mu s u/\u.aw.length<=s.aw.length+1/\u.al.length<=s.al.length+1/\(u.status=s.status\/(1<=u.status/\u.status<=4)):=by
 unfold Pi at a;obtain⟨u,b,rfl⟩:=Option.map_eq_some_iff.1 a;refine⟨u,rfl,?_⟩;split at b
 ·obtain⟨c,d,e,f⟩:=QF b;exact⟨c,by rw[d];omega,by rw[e];omega,.inl f⟩
 ·split at b
  ·obtain⟨c,d,e,f⟩:=xG b;exact⟨c,d,by rw[e];omega,.inl f⟩
  ·split at b
   ·obtain⟨c,d,e,f⟩:=xH b;exact⟨c,by rw[d];omega,e,.inl f⟩
   ·obtain⟨c,d,e,f⟩:=xF b;exact⟨c,by rcases d with a|a<;>rw[a]<;>simp,by rcases e with a|a<;>rw[a]<;>simp,f⟩
theorem Ti {s:bg}{c:Ev}{g:Nat}(b:Dc s g)(a:(Bo s c).1=0):Dc (Bo s c).2 (g+1):=by
 have ok:=Qc a;obtain⟨w,y,j,k,_⟩:=RZ ok;unfold Bo at a ⊢;rw[if_neg (by simp[ok])] at a ⊢;split at a
 ·rename_i f;rw[if_pos f];split at a
  ·rename_i d;rw[if_pos d];obtain⟨p,l,m⟩:=k d.1;obtain⟨n,o,q⟩:=xE m;show Dc (XL c) _;unfold XL;rw[l,HI];exact⟨An _,An _,n,o,j,by show(0:Int)<=2/\(2:Int)<=501;omega,by show(0:Int)<=0/\(0:Int)<=4;omega,λx r=>AQP (q x r)⟩
  ·cases a
 ·rename_i f;rw[if_neg f];split at a
  ·cases a
  ·rename_i d;rw[if_neg d];split at a
   ·cases a
   ·rename_i h;rw[if_neg h];have z:c.id=s.next:=by simpa using h
    cases i:Pi s c with
    |none=>rw[i] at a;cases a
    |some t=>
     obtain⟨u,rfl,e,A,B,v⟩:=AKW i;have C:=b.aw;have D:=b.al;exact⟨by show u.aw.length<=_;omega,by show u.al.length<=_;omega,by show u.prog.steps.length<=_;rw[e.prog];exact b.steps,by show 0<=u.prog.aA/\_;rw[e.prog];exact b.aA,by show 0<=u.ba/\_;rw[e.ba];exact b.ba,by show 0<=s.next+1/\s.next+1<=501;omega,by
      have:=b.st;show 0<=u.status/\u.status<=4;rcases v with a|a<;>omega,by show ∀x∈u.prog.steps,_;rw[e.prog];exact b.waits⟩
theorem UN: ∀ {l:List Ev} {s t:bg} {a:Nat},Dc s a->El s l=some t->Dc t (a+l.length)
 | [],s,t,a,c,b=>by cases b;exact c
 |e::l,s,t,a,c,b=>by
  rw[El] at b;split at b
  ·rename_i d;have:=UN (Ti c d) b;rw[A5];rw[show a+(l.length+1)=a+1+l.length from by omega];exact this
  ·cases b
end Go.Lf
namespace Go.Lf
open Go
variable {α : Type} {E : cF α} {A : ar} {P : Q1}
theorem Mod.mod {d:Nat->Prop}{b c:aa}(a:Mod (λ_=>False) b c):Mod d b c:=a.ak λ_ _ b=>b.elim
def xI(A:ar)(P:Q1)(t f:Q7)(c:Nat)(s:Sl)(i:Int)(b:Int)(d:aa)(e:A2O):Prop:=
 aI ((0:Int)<=((s.len:Nat):Int)/\((s.len:Nat):Int)<=((s.cap:Nat):Int))<|
 aI ((0:Int)<=b/\b<=(((((s.len:Nat):Int).toNat):Nat):Int))<|
 aI ((0:Int)<=i/\i<=((b.toNat:Nat):Int))<|
 ag (i==b) (
  e (.slice s.p s.len s.cap) d) (
  aI ((0:Int)<=i/\i<=((s.cap:Nat):Int))<|
  aI ((0:Int)<=b/\b<=((s.len:Nat):Int))<|
  BI A P (Builtin.append_ #[t,t] t #[.slice (BB s.p s.cap 0 c) (i.toNat-0) (s.cap-0),.slice (BB s.p s.cap b.toNat c) (s.len-b.toNat) (s.cap-b.toNat)]) d λv g=> ∃a:Sl,v= .slice a.p a.len a.cap/\(
  aI ((0:Int)<=((s.len:Nat):Int)/\((s.len:Nat):Int)<=((a.cap:Nat):Int))<|
  aI ((0:Int)<=((a.len:Nat):Int)/\((a.len:Nat):Int)<=((((s.len:Nat):Int).toNat:Nat):Int))<|
  BI A P (Builtin.clear_ #[t] f #[.slice (BB a.p a.cap (((a.len:Nat):Int).toNat) c) ((((s.len:Nat):Int).toNat)-(((a.len:Nat):Int).toNat)) (a.cap-(((a.len:Nat):Int).toNat))]) g λv1 h=>v1= .tuple #[]/\(
  e (.slice a.p a.len a.cap) h)))
theorem ASx {t m T:Q7}{a:J0}(o:P.underlying t=some (.slice T))(p:(zeroValue T).calc P=some a)(f: ∀v∈a.cells.toList,MC v=true){d:aa}{b e q:Nat}{g:Array J0}{K:A2O}
  (h:d[b]? =some (.cells g T (0,0))) (B:e+a.cells.size<=g.size)
  (r: ∀c,c[b]? =some (.cells (gY g e a.cells.toList) T (0,0))->Mod (· =b) d c->c.size=d.size->K (.tuple #[]) c):
  BI A P (Builtin.clear_ #[t] m #[.slice (some ⟨b,e,none⟩) 1 q]) d K:=by
 intro n;have s:(Builtin.zeroCells a.cells 1).toList=a.cells.toList:=by
  unfold Builtin.zeroCells;rw[IS];apply List.ext_getElem
  ·simp
  ·intro i f C;simp at f;simp[As f,f]
 have j:=run_storeCells_cells (P:=P) b e a.cells.toList 0 (A.at d n)
  (λk l=>by
   show(ah d ⟨b,e+0+k,none⟩).isSome=true;rw[Hr h,Fm (by simp at l;omega)];rfl)
  (λk l=>PI h) (λv u=>PS (f v u))
 obtain⟨c,w,x,y,z⟩:=cV (A:=A) a.cells.toList e (n:=n) h;rw[G0,w] at j;refine⟨.tuple #[],c,n,?_,r c x y z⟩;simp[Builtin.clear_,BM o,Df p,s,j,Result.andThen]
theorem ANc {l:List α}{a:Nat}:(l.flatMap E.enc).take (a*E.w)=(l.take a).flatMap E.enc:=by
 induction l generalizing a with
 |nil=>simp
 |cons x l b=>
  cases a with
  |zero=>simp
  |succ a=>
   rw[AH,I0,AH,Kx,E.len,AG (by rw[E.len,By];omega),By,IS,N2,b]
theorem ANh {l:List α}{a:Nat}:(l.flatMap E.enc).drop (a*E.w)=(l.drop a).flatMap E.enc:=by
 induction l generalizing a with
 |nil=>simp
 |cons x l b=>
  cases a with
  |zero=>simp
  |succ a=>
   rw[AH,HU,PJ,E.len,HD (by rw[E.len,By];omega),By,IS,N2,b,CT]
theorem xJ {t Q T:Q7}{zv:J0}{R:Nat}(S:QE P t T E.w R=true)(U:(zeroValue T).calc P=some zv)(V: ∀v∈zv.cells.toList,MC v=true)(D:zv.cells.size=E.w){c:aa}{s:Sl}{l:List α}{i:Nat}{F:A2O}
  (G:Own E T c s l) (H:i<l.length)
  (W: ∀r,Own E T r ⟨s.p,l.length-1,s.cap⟩ (l.eraseIdx i)->Mod (λb=>s.ai=some b) c r->F (.slice s.p (l.length-1) s.cap) r):xI A P t Q E.w s (i:Int) ((i+1:Nat):Int) c F:=by
 obtain⟨I,X,z,Y,az,w,aA,aC⟩:=qC S;have J:=G.len;rcases G.row with⟨rfl,rfl⟩|⟨g,n,f,y,Z,ab,j,K⟩
 ·simp at H
 have ac:s.len*E.w<=s.cap*E.w:=AN _ Z;unfold xI;refine⟨⟨by omega,by omega⟩,⟨by omega,by omega⟩,⟨by omega,by omega⟩,ag.no (by simp;omega) ⟨⟨by omega,by omega⟩,⟨by omega,by omega⟩,?_⟩⟩;rw[A6,A6,A6,HA,HA];have ad:BB s.p s.cap 0 E.w=some ⟨g,0,none⟩:=by unfold BB;rw[if_neg (by omega),f];simp[Bf]
 rw[ad]
 let m:=s.len-(i+1)
 let e:List J0:=(l.drop (i+1)).flatMap E.enc
 have nl:e.length=m*E.w:=by simp only[e,m];rw[Jm,DG,J]
 obtain⟨a,ae,af⟩: ∃a,BB s.p s.cap (i+1) E.w=some a/\ ∀h u,e[h]? =some u->(A.at c 0).cell? (a.add h)=some u:=by
  unfold BB;by_cases L:s.cap=i+1
  ·rw[if_pos L,f];refine⟨_,rfl,λh u d=>?_⟩;have:m=0:=by simp only[m];omega
   have d:=(List.getElem?_eq_some_iff.1 d).1;rw[nl,this] at d;omega
  ·rw[if_neg L,f];refine⟨_,rfl,λh u d=>?_⟩;show ah c ((Addr.add ⟨g,0,none⟩ ((i+1)*E.w)).add h)=some u;rw[Bf,Bf,AI,Hr y];simp only[e] at d;rw[<- ANh,C5,<-K,Ek] at d;split at d
   ·simpa using d
   ·cases d
 rw[ae];intro o;have ai: ∀u∈e,u.oneCell'=true:=λu aj=>by
  obtain⟨x,_,ak⟩:=List.mem_flatMap.1 aj;exact PS (E.one x u ak)
 have al:i*E.w+m*E.w<=s.cap*E.w:=by rw[<- By];exact AN _ (by simp only[m];omega)
 have M:=run_append_room (P:=P) (A.at c o) t t T X I Y g i s.cap n y a m (s.cap-(i+1)) e (by rw[nl,w]) (λh u d=>af h u d) ai (by simp only[m];omega) (by rw[w,nl,j];exact al);rw[w] at M
 let row:Array J0:=(n.toList.take (i*E.w)++e++n.toList.drop (i*E.w+e.length)).toArray
 obtain⟨k,am,an,ao,aD⟩: ∃k,(A.at c o).setRow g row=A.at k o/\k[g]? =some (.cells row T (0,0))/\Mod (· =g) c k/\k.size=c.size:=by
  refine⟨_,rfl,?_,⟨?_,λb p ap=>?_⟩,?_⟩
  ·show(c.modify g _)[g]? =_;rw[GF,if_pos rfl,y];rfl
  ·show c.size<=(c.modify g _).size;simp
  ·show(c.modify g _)[b]? =_;rw[GF,if_neg (Ne.symm ap)]
  ·show(c.modify g _).size=_;simp
 refine⟨_,k,o,M.trans (by rw[<- am]),⟨some ⟨g,0,none⟩,i+m,s.cap⟩,rfl,⟨by omega,by show((s.len:Nat):Int)<=((s.cap:Nat):Int);omega⟩,⟨by omega,by show((i+m:Nat):Int)<=_;simp only[m];omega⟩,?_⟩;have B:i+m=l.length-1:=by simp only[m];omega
 dsimp only[Int.toNat_natCast];rw[B];have aq:BB (some ⟨g,0,none⟩) s.cap (l.length-1) E.w=some ⟨g,(l.length-1)*E.w,none⟩:=by unfold BB;rw[if_neg (by omega)];simp[Bf]
 rw[aq,show s.len-(l.length-1)=1 from by omega];have q:row.size=n.size:=by simp only[row,List.size_toArray,A1,Ax,DG,DQ];rw[nl];omega
 have N:(l.length-1)*E.w+E.w<=s.cap*E.w:=by rw[show(l.length-1)*E.w+E.w=l.length*E.w from by rw[<- Nat.succ_mul];congr 1;omega,<-J];exact ac
 refine ASx I U V an (by rw[q,D,j];exact N) λO ar au aE=>⟨rfl,?_⟩
 rw[<- f];have av:Mod (λb=>s.ai=some b) c O:=(ao.ak λb _ p=>by subst p;simp[Sl.ai,f]).trans (au.ak λb _ p=>by subst p;simp[Sl.ai,f]);refine W O ⟨by rw[List.length_eraseIdx,if_pos H],.inr ⟨g,_,f,ar,by show l.length-1<=s.cap;omega,ab,?_,?_⟩⟩ av
 ·show(gY _ _ _).size=s.cap*E.w;rw[IQ,q,j]
 ·show(gY row ((l.length-1)*E.w) zv.cells.toList).toList.take ((l.length-1)*E.w)=_;have aw:zv.cells.toList.length=E.w:=by rw[DQ,D]
  have C:row.size=s.cap*E.w:=by rw[q,j]
  rw[OL _ _ _ (by rw[aw,C];exact N),A3,Kx];have ax:(l.length-1)*E.w<=row.toList.length:=by
   have C:row.toList.length=s.cap*E.w:=by rw[DQ,q,j]
   rw[C];omega
  rw[Ax,Fk ax,Mn,I3,AK,Se,Nat.min_self];simp only[row];have ay:i*E.w<=n.toList.length:=by rw[DQ,j];omega
  rw[A3,Kx,Ax,Fk ay,AG (by rw[Ax,<-B,By];omega)];rw[<- B,By,Tr,<-nl,Kx,Mn,I3,AK,AG (A0 _)];rw[List.eraseIdx_eq_take_drop_succ,Ge,<-ANc,<-K,Se,Fk (AN _ (by omega))]
end Go.Lf
