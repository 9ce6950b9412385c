/-
 Contract: what is in memory goes into a table (chapter 9).
-/
import Derived.Test.YtgpmoonnachoaaaGreatDoorLfU15ToZ10
import Derived.Lib.AtoiAllCases
import Derived.Test.YtgpmoonnachoaaaGreatDoorLfU2ToS3
import Derived.Test.YtgpmoonnachoaaaGreatDoorCards
import Derived.Test.YtgpmoonnachoaaaGreatDoorTie
import Derived.Deep.DeepHandedRow
import Derived.Lib.LaidTab
import Derived.Stop.LaidErr
import Derived.Test.YtgpmoonnachoaaaGreatDoorLfX2ToS5
import Derived.Test.YtgpmoonnachoaaaGreatDoorRows
import Derived.WalkKit
import Derived.ProofKit
import Derived.OpenShut
import Derived.JoinedCond
import Derived.Deep.Slices
import Derived.Carry
import Derived.Test.YtgpmoonnachoaaaGreatDoorLfG1
import Derived.Test.YtgpmoonnachoaaaGreatDoorLfKToGA
set_option maxRecDepth 100000
set_option linter.unusedVariables false
set_option linter.unusedSimpArgs false
open Go.IntKind renaming i64→J9,wrap→J8
open Go.Value renaming string→J7,int→J6,pointer→J5,slice→J4,bool→J3,tuple→J1
open Go.Obj renaming cells→J2
open Go renaming Value→J0,Addr→Q6,TypeId→Q7,FuncId→Q8,Program→Q1
open Go.Addr renaming add→Q9,mk→Q5
namespace Go.Lf.G
open Go
open M (Sorted Af CY BA Ag Au BV Ai bB BH)
section
variable {A : aq} {B : cH} {g h : aa} {q : Hp} {k : Nat -> Nat} {st : Db} {m : Bx} {D : Bt} {aI c : Nat} {R : A2P}
theorem Es.sr {d:bQ}(L:Es d st D)(l:Sv st D aI c)(hA:aI<=100000){a:Nat}(e:st.aw<a):D.L a= []:=by
 by_cases b:a<=99999999
 ·exact L.ok.jH b (L.gG a (by omega) b λ_=>by omega)
 ·exact L.ok.gH (.inr (by have:=l.aQ;omega))
theorem AMp {F:bQ}{made:Bool}{m:Bx}{s:Nat}(hd:m.down=false)(d:made=true-> ∃b,ff m (aC nl s)=some (b,bF)):(m.fuel=0/\NE m (aC nl s) made=(30,NP m))\/((NE m (aC nl s) made).1=0/\JO m (NE m (aC nl s) made).2/\ ∀x,ff (NE m (aC nl s) made).2 x=ff m x):=by
 cases made with
 |false=>exact .inr ⟨rfl,JO.refl hd,λx=>rfl⟩
 |true=>
  obtain⟨b,e⟩:=d rfl;rcases OY hd e with a|⟨a,f,i⟩
  ·exact .inl a
  ·refine .inr ⟨a,f,λx=>?_⟩;show ff (Hg m (aC nl s)).2 x=_
   simp_all [YV]
theorem AOC {m:Bx}(g:G9 m)(k:A2Q)(made:Bool):bg (NE m k made).2.files<=bg m.files:=by
 cases made with
 |false=>exact A0 _
 |true=>exact o0 g k
theorem AQq {a b x:Nat}(d:b<=a+x):b+1000000<=a+(x+1000000):=by omega
theorem AOU(a:Nat):8400*a+1100001+1000000<=20000*a+10000000:=by omega
theorem APl(aY:bY g)(S:Bz B g h q k st m D aI c)(hA:aI+2<=B.A)
  (be: ∀h' ao,oJ B h h' q k m ao (aI+2)->kD (ff ao) (aI+2) c (Cm st)->R (J6 J9 30) h')
  (ca: ∀h' bf bH bJ ao r,bf.d=q.d->bf.b=q.b->Bz B g h' bf bH bJ ao r (aI+2) c->JO m ao->bJ.fr= []->Cm bJ=Cm st->(bJ.ts.length<=3\/bJ.ts.length=st.ts.length)->(∀ v,¬dd v->ff ao v=ff m v)->Mod (λc=>k c≠0) h h'->(∀ c,bH c≠0->k c≠0\/h.size<=c)->R (J6 J9 0) h'):
  AA A P Oi #[Ar q.d] h R:=by
 have dN:=S;obtain⟨V,hd,L,l,aZ,b⟩:=S;have fP:=B.hA;have dO:=B.hC;have dP:=B.wt (a:=aI) (by omega);have dQ:=L.dj l;have fQ:=l.next;have fR:=l.aK;have fS:=l.aw;have fT:=l.aQ;have fU:=l.aW;have fV:=L.eN;have fW:=l.cn;have dR:=L.iY l;have a0:st.next∉st.ts.map (·.1):=λcb=>by
  obtain⟨p,aj,e⟩:=List.mem_map.1 cb;have:=L.below p aj;omega
 refine ABG ?_;unfold Te;refine ai.mk λK dS=>Yx V (dS _ _ (af.no rfl ?_))
 refine aD (AY.mk (AB V.cell rfl) ?_);refine M.su V.fresh ⟨_,_,rfl,?_⟩;refine af.intro (λbI=>?_) (λbI=>?_)
 ·have o:st.fr= []:=CH (by have:((st.fr.length:Nat):Int)=0:=(by simpa using bI);omega);exact ca h q k st m D rfl rfl (dN.aI (by omega)) (JO.refl hd) o rfl (.inr rfl) (λ_ _=>rfl) Mod.refl (λc b=> .inl b)
 have dT:st.fr≠ []:=λe=>by
  rw[e] at bI;cases bI
 have bK:G6 st.fr:=⟨dT,λx E=>oL (V.fresh.aS x E),V.fresh.sorted,by omega⟩;have fX:=ALv bK;have dU:(Jc st.fr).length<=8400*B.C+1100000:=by omega
 refine aD (AC.mk (AB V.cell rfl) (aD (AY.mk (AB V.cell rfl) ?_)));refine M.sv V.fresh λfv w cQ cR cS=>⟨_,rfl,⟨AB (V.on cR).cell rfl,?_⟩⟩
 rw[M.sk] at cQ;refine M.We cQ (λ_ _=>rfl) (by omega) λcc Y cT fY dV=>⟨cc,rfl,?_⟩
 have bL:=cR.trans dV;have bN:=V.on bL;have fZ:=bL.size;refine⟨AB bN.cell rfl,?_⟩;refine zW (n:=st.next) aY bN hd bK cT.view (λc b=>cT.lt b) (by omega) dR (ASk dU aZ dP dO) (λbh ay az ac dW dX bO dY a1 dZ=>⟨_,_,rfl,af.yes rfl ?_⟩) λay az bP ac t aM aN ak cd a1 dZ cU f0 f1 cV bO bS=>⟨_,_,rfl,af.no rfl ?_⟩
 ·refine JV bN dW (bO.aj λc _ b=> .inl b) dY λd0 d1 d2 d3 d4=>⟨_,rfl,?_⟩
  have ce:=L.jG (F':=ff ac) (l.mono (Ix aI 2) (A0 _)) (λx E=>a1 x (E _ a0)) λn u=>by
   by_cases e:n=st.next
   ·omega
   ·rw[a1 _ λaO=>e (JQ aO)] at u;have:=L.fB l u;omega
  have bi:bg ac.files<=bg m.files+(8400*B.C+1100001):=by omega
  have H:=B.step2 aZ bi (Ix _ _);exact be d0 ac ⟨bh,d1,⟨az,d2,λc b=>(d4 c b).imp id λh=>by omega⟩,dX,(Ext.mod bL).trans d3,λv I=>a1 v (Qs I _),AE H (Lo (AS _ (BY _)) _)⟩ ce.2
 have f2:=bO.size;have f3:=cU.fB;have cW:Mod (λc=>k c≠0) h ay:=(Ext.mod bL).trans (bO.aj λc _ b=>by rw[V.kb c b];decide);have bj: ∀x,x≠aX st.next->ff ac x=ff m x:=λx E=>by rw[a1,if_neg E]
 have cX:bg ac.files<=bg m.files+(8400*B.C+1100001):=by omega
 have d5: ∀n,ff ac (aC nl n)=ff m (aC nl n):=λn=>bj _ (Lt n _)
 have cY: ∀ {F':bQ},(∀ n,F' (aX n)≠none->ff ac (aX n)≠none)-> ∀n,F' (aX n)≠none->n<8*(aI+1)+8:=λad n u=>by
  by_cases e:n=st.next
  ·omega
  ·have o:=ad n u;rw[bj _ λaO=>e (JQ aO)] at o;have:=L.fB l o;omega
 refine aD (AY.mk (AB ak.cell rfl) ?_);have cZ:=AMp (F:=ff m) (made:=st.bq) (s:=st.aw) cd.up λcb=>⟨_,by rw[d5];exact L.jF cb⟩
 refine Wv (ak.ib aY) ak.log ak.box ak.lB (by decide) (by omega) (λd6 J bT c0 a2=>⟨_,_,rfl,?_⟩) λc1 J bT c0 a2=>⟨_,_,rfl,?_⟩
 ·rcases cZ with⟨c3,a3⟩|⟨a3,_,_⟩
  ·rw[a3] at bT ⊢;refine af.yes rfl ?_;refine JV (q:= {q with Sb:=az}) ak bT (a2.aj λc _ b=> .inl b) (λc b=> .inl b) λd7 d8 d9 ea eb=>⟨_,rfl,?_⟩
   have ce:=L.jG (F':=ff (NP ac)) (l.mono (Ix aI 2) (A0 _)) (λx E=>bj x (E _ a0)) λn u=>by
    have:=cY (F':=ff (NP ac)) (λn u=>u) n u;omega
   have H:=B.step2 aZ cX (Ix _ _);refine be d7 (NP ac) ⟨(λz=>by have:=cd.calm z;rw[c3] at this;cases this),d8,⟨az,d9,λc b=>?_⟩,rfl,cW.then (ea.aj λc _ b=>?_),λv I=>bj v (Qs I _),AE H (Lo (AS _ (BY _)) _)⟩ ce.2
   ·rcases eb c b with o|o
    ·by_cases Z:c<Y.size
     ·rw[bS c Z] at o;exact .inl o
     ·exact .inr (by omega)
    ·exact .inr (by omega)
   ·by_cases Z:c<Y.size
    ·rw[bS c Z] at b;exact .inl b
    ·exact .inr (by omega)
  ·exact absurd a3 d6
 refine af.no rfl ?_;rcases cZ with⟨c3,a3⟩|⟨a3,ec,ed⟩
 ·rw[a3] at c1;cases c1
 have ee:=AOC ak.box.aS (aC nl st.aw) st.bq;have ag:=ak.boxed (j:=3) (bJ:= {st with aw:=st.aw+1,bq:=false}) bT (a2.aj λc _ b=>b.imp id λh=> .inl ⟨rfl,h⟩) (λc b=> .inl b) rfl rfl rfl rfl (.inr c0) (.inl ⟨by decide,rfl⟩);generalize (NE ac (aC nl st.aw) st.bq).2=ab at*
 have f4:=a2.size;have c5: ∀c,c<ay.size->Ld bP ay.size az 2 c=bP c:=λc b=>GM b
 generalize Ld bP ay.size az 2=ap at*
 have ef:Mod (λc=>k c≠0) h J:=cW.then (a2.aj λc _ b=>by
  have o:bP c≠0:=by
   rcases b with b|b
   ·rw[ak.kb c b];decide
   ·rw[b,ak.kl];decide
  by_cases Z:c<Y.size
  ·rw[bS c Z] at o;exact .inl o
  ·exact .inr (by omega))
 have cf: ∀c,ap c≠0->k c≠0\/h.size<=c:=λc b=>by
  by_cases Z:c<Y.size
  ·rw[c5 c (by omega),bS c Z] at b;exact .inl b
  ·exact .inr (by omega)
 have cg: ∀c,J.size<=c->ap c=0:=λc b=>Decidable.byContradiction λh=>by
  have:=(ag.own c h).2;omega
 have ch: ∀c,aM<=c->c<aN->ap c=0:=λc aq c2=>by rw[c5 c (by omega)];exact cV c aq
 have ci: ∀x,ff ab x=ff ac x:=ed;have a4: ∀x,x≠aX st.next->ff ab x=ff m x:=λx E=>(ci x).trans (bj x E)
 have eg:ff ab (aX st.next)=some (AX (Jc st.fr),bF):=by rw[ci,a1,if_pos rfl]
 have cj:JO m ab:=cd.trans ec;have bi:bg ab.files<=bg m.files+(8400*B.C+1100001):=AE ee cX;have eh:BJ (ff ab) D:=L.ok.fX λx E=>a4 x (E st.next (by rw[L.names];exact a0))
 have c6: ∀ {F':bQ},(∀ n,F' (aX n)≠none->ff ab (aX n)≠none)-> ∀n,F' (aX n)≠none->n<8*(aI+1)+8:=λad n u=>cY (F':=ff ab) (λn u=>by rw[<- ci];exact u) n (ad n u)
 have ei: ∀(z:aa) (y:Hp) (ck:Nat->Nat),bM g z y ck {st with ts:=(st.next,st.fr)::st.ts,next:=st.next+1,aV:=st.aw+1,aw:=st.aw+1,bq:=false} ab->y.d=q.d->y.b=q.b->Mod (λc=>k c≠0) h z->(∀ c,ck c≠0->k c≠0\/h.size<=c)->
   AA A P Jt #[Ar y.d] z λej c7=> ∃cl:Int,ej=J6 J9 cl/\(
         af (cl != (0:Int)) (
          AA A P Cg #[Ar y.d,J6 J9 cl] c7 λek el=> ∃c8:Int,ek=J6 J9 c8/\(
          R (J6 J9 c8) el)) (
          AA A P QM #[] c7 λen c9=> ∃da:Q2,en=J5 da/\(
          At (some (⟨y.d,0,none⟩:Q6)) λeo=>
          ae c9 (eo.add 3) (J5 da) λar=>
          At (some (⟨y.d,0,none⟩:Q6)) λep=>
          AY ar (ep.add 1) λeq=>
          AA A P JG #[J5 eq,J6 J9 (st.aw:Int)] ar λer av=> ∃cm:Int,er=J6 J9 cm/\(
          af (cm != (0:Int)) (
           AA A P Cg #[Ar y.d,J6 J9 cm] av λes cn=> ∃db:Int,es=J6 J9 db/\(
           R (J6 J9 db) cn)) (
           At (some (⟨y.d,0,none⟩:Q6)) λet=>
           AZ av (et.add 4) λeu=>
           af (decide (((eu.len:Nat):Int)>=(4:Int))) (
            AA A P JY #[Ar y.d] av λev ew=> ∃dc:Int,ev=J6 J9 dc/\(
            R (J6 J9 dc) ew)) (
            R (J6 J9 0) av)))))):=by
  intro z y ck bk bm aA bU a5;have ex:hG (cP {st with ts:=(st.next,st.fr)::st.ts,next:=st.next+1,aV:=st.aw+1,aw:=st.aw+1,bq:=false}):=by
   refine⟨by show st.next+1<=_;omega,by show 1<=st.aw+1/\st.aw+1<=_;omega,?_,λn u=>?_,?_⟩
   ·show((st.next,st.fr)::st.ts |>.map (·.1)).length<=_;simp;omega
   ·show n<st.next+1;rcases List.mem_cons.1 u with rfl|u
    ·exact Hj _
    ·obtain⟨p,aj,rfl⟩:=List.mem_map.1 u;have:=L.below p aj;omega
   ·exact List.nodup_cons.2 ⟨a0,L.nd⟩
  have ey: ∀n∈st.next::st.ts.map (·.1),ff ab (aX n)=some (AX (Jc ((KO D.T st.next st.fr) n)),bF)/\G6 ((KO D.T st.next st.fr) n):=λn u=>by
   by_cases e:n=st.next
   ·subst e;rw[EL];exact⟨eg,bK⟩
   ·rw[F6 e,a4 _ λaO=>e (JQ aO)];rcases List.mem_cons.1 u with o|o
    ·exact absurd o e
    ·exact L.ok.cO n (by rw[L.names];exact o)
  have de: ∀r:Bt,r.T=KO D.T st.next st.fr->(st.next::st.ts.map (·.1)).map r.T=st.fr::aF st:=λr bV=>by
   rw[B9,bV,EL];congr 1;rw[<- L.aF,L.names];refine CC λn u=>F6 λe=>a0 (e▸u)
  have df: ∀r:Bt,r.L=D.L->r.aQ=D.aQ->Ao r=cP {st with ts:=(st.next,st.fr)::st.ts,next:=st.next+1,aV:=st.aw+1,aw:=st.aw+1,bq:=false}->r.T=KO D.T st.next st.fr->cA r=Cm st/\N8 r<=c/\Em r= []:=λr ez dg a6 bV=>by
   have aA:=ANQ (f:=st.aw+1) ez dg (by rw[a6];rfl) λn u=>L.sr l (by omega) (by omega)
   have dh:Em r= []:=by unfold Em;rw[aA];rfl
   have di:(Ao r).names=st.next::st.ts.map (·.1):=by rw[a6];rfl
   refine⟨?_,?_,dh⟩
   ·unfold cA;rw[dh,di,de r bV];exact AHs V.fW
   ·unfold N8;rw[aA,di];have C:((st.next::st.ts.map (·.1)).map λn=>(r.T n).length)=((st.next::st.ts.map (·.1)).map r.T).map List.length:=by rw[Bk];rfl
    rw[C,de r bV];have:((st.fr::aF st).map List.length).sum=st.fr.length+M.total (aF st):=by simp[M.total]
    rw[this];simpa using dQ
  have dj: ∀(r:Bt) (F':bQ),BJ F' r->r.aQ=D.aQ->r.aW<=max D.aW (st.aK+1)->Ao r=cP {st with ts:=(st.next,st.fr)::st.ts,next:=st.next+1,aV:=st.aw+1,aw:=st.aw+1,bq:=false}->cA r=Cm st->N8 r<=c->(∀ n,F' (aX n)≠none->ff ab (aX n)≠none)->Rec F' (aI+1) c (Cm st):=λr F' o dg u a6 eA eC ad=>by
   refine⟨r,o,⟨by omega,by omega,?_,?_,?_,eC,c6 ad⟩,eA⟩
   ·rw[a6];show st.next+1<=_;omega
   ·rw[a6];show st.aw+1<=_;omega
   ·rw[a6];show((st.next,st.fr)::st.ts |>.map (·.1)).length<=_;simp;omega
  have eD:bg ab.files+1000000<=8000000000000:=by have o:=B.wt (a:=aI+1) (by omega);have H:bg ab.files+1000000<=B.W0+(aI+1)*B.K:=B.step (d:=8400*B.C+1100001+1000000) aZ (AQq bi) (AOU B.C);exact AE H o
  have dk: ∀ {dl:Nat},dl<=B.W0+(aI+1)*B.K->dl<=B.W0+(aI+2)*B.K:=λh=>AE h (Lo (AS _ (BY _)) _)
  refine zX (T:=KO D.T st.next st.fr) aY bk cj.up eh ex ey ⟨L.aK,by show st.aK+2<=_;omega⟩ (λn W ah=>by rw[a4 _ (QZ n _)];exact L.jE n W ah) eD
   (λbh w co am eF eG bW cS eH a7 cp=>⟨_,rfl,af.yes rfl ?_⟩) λw co cq am D3 cr dm dn a8 dp eI cs eJ a7 eK cp bW eL=>⟨_,rfl,af.no rfl ?_⟩
  ·refine JV bk eF (bW.aj λc _ b=>b.imp id .inr) cS λY eM eN eO cc=>⟨_,rfl,?_⟩
   have eP:Mod (λc=>k c≠0) h Y:=bU.then (eO.aj λc _ b=>a5 c b);refine be Y am ⟨λz=>bh (cj.calm z),by rw[<- bm];exact eM,⟨co,by rw[<- aA];exact eN,λc b=>?_⟩,eG,eP,λv I=>?_,dk (B.step2 aZ bi cp)⟩ λG bn=>?_
   ·rcases cc c b with o|o
    ·exact a5 c o
    ·exact .inr (by have:=bU.size;omega)
   ·rw[a7 v λn=>lj I n,a4 v (Qs I _)]
   ·obtain⟨r,dq,nx⟩:=eH G bn;have dr: ∀n,G (aX n)≠none->ff ab (aX n)≠none:=λn u=>by
     have:=bn.some u;rwa [a7 _ λj e=>QZ j n e.symm] at this
    have bX:r.aW<=max D.aW (st.aK+1):=nx.aW;rcases nx.last with⟨an,C⟩|⟨an,C⟩
    ·obtain⟨bo,bZ⟩:=AHd nx.L nx.aQ an C;have:=L.next;have eQ:Rec G (aI+1) c (Cm st):=⟨r,dq,⟨by rw[nx.aQ];omega,by omega,by rw[an];omega,by rw[an,L.aV];omega,by rw[an,L.iG];omega,by rw[bZ];exact l.bX,c6 dr⟩,by rw[bo];exact L.map⟩;exact eQ.mono (BY _) (A0 _)
    ·obtain⟨bo,bZ,_⟩:=df r nx.L nx.aQ an C;exact(dj r G dq nx.aQ bX an bo bZ dr).mono (BY _) (A0 _)
  ·obtain⟨bo,bZ,eR⟩:=df D3 eI cs a8 dp;have f5:=bW.size;have bX:D3.aW<=max D.aW (st.aK+1):=eJ;have ct:bg am.files<=B.W0+(aI+1)*B.K:=B.step2 aZ bi cp;have ds:JO m am:=cj.trans dm;have dt:Mod (λc=>k c≠0) h w:=bU.then (bW.aj λc _ b=>by
    rcases b with b|b
    ·exact a5 c (by rw[bk.kb c b];decide)
    ·exact a5 c (by rw[b,bk.kn];decide))
   have eS: ∀c,cq c≠0->k c≠0\/h.size<=c:=λc b=>by
    by_cases Z:c<z.size
    ·rw[eL c Z] at b;exact a5 c b
    ·exact .inr (by have:=bU.size;omega)
   refine M.sw λc9 eT cu f6=>⟨_,rfl,?_⟩
   have eU:=cr.on cu;refine aD (ae.dr eU.cell (by simp) λar eV cv f7=>?_);have eW:M.cU ar w.size [] []:=eT.mod cv λc b e=>by
    have f8:c=w.size:=by
     rcases b with rfl|⟨x,E,_⟩
     ·rfl
     ·cases E
    have:=cr.ia;have C:(y.d:Nat)<w.size:=this;have f9:c=y.d:=e;omega
   have du:Mod (λc=>c=w.size\/c=y.d) w ar:=(Ext.mod cu).trans (cv.aj λc _ b=> .inr b);have ax:=cr.renew (h':=ar) (gI:=w.size) eW (A0 _) (by simpa [eB] using eV) (by
    refine⟨du.size,λc b u=>?_⟩;exact du.get c b (by rintro(h|h);omega;exact u h))
   have cw:Mod (λc=>k c≠0) h ar:=(dt.trans (Ext.mod cu)).then (cv.aj λc _ b=>by
    have e:c=y.d:=b;rw[e];exact a5 _ (by rw[bk.kd];decide))
   have b0: ∀c,Ld cq w.size (· =w.size) 5 c≠0->k c≠0\/h.size<=c:=λc b=>by
    by_cases Z:c<w.size
    ·rw[GM Z] at b;exact eS c b
    ·exact .inr (by have:=dt.size;omega)
   generalize Ld cq w.size (· =w.size) 5=dv at*
   refine aD (AY.mk (AB ax.cell rfl) ?_);have ga:=cw.size;have eX:bg am.files<=8000000000000:=AE ct (B.wt (a:=aI+1) (by omega));have cx: ∀x,x≠aX st.next->(∀ n,x≠aC nn n)->ff am x=ff m x:=λx o H=>(a7 x H).trans (a4 x o)
   have eY:(Ao D3).aV=st.aw+1:=by rw[a8];rfl
   have dw: ∀ {F':bQ},(∀ x,F' x=ff am x\/(F' x=none/\ ∃n:Nat,1<=n/\n<=99999999/\n<=st.aw/\x=aC nl n))->BJ F' (Ng D3 F')/\cA (Ng D3 F')=Cm st/\N8 (Ng D3 F')<=c/\Em (Ng D3 F')= []:=λ{F'} ad=>by
    have o: ∀n,n<=99999999->F' (aC nl n)=ff am (aC nl n)\/(F' (aC nl n)=none/\n<(Ao D3).aV):=λn ah=>by
     rcases ad (aC nl n) with o|⟨o,j,_,_,gb,e⟩
     ·exact .inl o
     ·refine .inr ⟨o,?_⟩;rw[eY,Ig e];omega
    have H:=APZ dn o λx E=>by
     rcases ad x with w|⟨_,j,_,eZ,_,e⟩
     ·exact w
     ·exact absurd e (E j eZ)
    have Y:=AJs dn o;have ay:Em (Ng D3 F')=Em D3:=by unfold Em;rw[Y]
    refine⟨H,?_,?_,by rw[ay];exact eR⟩
    ·rw[<- bo];unfold cA;rw[ay];rfl
    ·have:N8 (Ng D3 F')=N8 D3:=by unfold N8;rw[Y];rfl
     omega
   refine zV (ax.ib aY) (λh' x=>ax.fY aY (x.aj λc _ b=> .inl b)) ax.log ax.box dm.up ax.lB (by decide) eX (λe0=>absurd e0 (by show ¬(st.aw:Int)>=((st.aw+1:Nat):Int);omega))
    (λbh av aP O cy e1 b1 cz cB bp=>⟨_,rfl,af.yes rfl ?_⟩) λ_ av aP O cy dx b1 cz cB bp dy=>⟨_,rfl,af.no rfl ?_⟩
   ·have ad: ∀x,ff O x=ff am x\/(ff O x=none/\ ∃n:Nat,1<=n/\n<=99999999/\n<=st.aw/\x=aC nl n):=λx=>by
     rcases bp x with o|⟨o,n,W,ah,b2,e⟩
     ·exact .inl o
     ·exact .inr ⟨o,n,W,ah,by omega,e⟩
    obtain⟨cC,cD,c4,_⟩:=dw ad;refine JV (q:= {y with Sb:=co,ft:=w.size,ns:= []}) ax cy (b1.aj λc _ b=> .inl b) (λc b=> .inl (cz c b)) λcn e2 e3 e4 e5=>⟨_,rfl,?_⟩
    refine be cn O ⟨λz=>bh (ds.calm z),by rw[<- bm];exact e2,⟨aP,by rw[<- aA];exact e3,λc b=>?_⟩,e1,cw.then (e4.aj λc _ b=>b0 c b),λv I=>?_,dk (AE cB ct)⟩ λG bn=>?_
    ·rcases e5 c b with o|o
     ·exact b0 c o
     ·exact .inr (by omega)
    ·rcases bp v with o|⟨_,n,_,_,_,e⟩
     ·rw[o,cx v (Qs I _) λn=>lj I n]
     ·exact absurd e (oK I n)
    ·refine(dj (Ng D3 (ff O)) G (cC.dQ bn) cs bX a8 cD c4 λn u=>?_).mono (BY _) (A0 _);have o:=bn.some u;rcases bp (aX n) with H|⟨_,j,_,_,_,e⟩
     ·rwa [H,a7 _ λj e=>QZ j n e.symm] at o
     ·exact absurd e.symm (Lt j n)
   ·have ad: ∀x,ff O x=ff am x\/(ff O x=none/\ ∃n:Nat,1<=n/\n<=99999999/\n<=st.aw/\x=aC nl n):=λx=>by
     by_cases E: ∃n:Nat,1<=n/\n<=99999999/\(n:Int)<=(st.aw:Int)/\x=aC nl n
     ·obtain⟨n,W,ah,b2,rfl⟩:=E;exact .inr ⟨bp n W ah b2,n,W,ah,by omega,rfl⟩
     ·exact .inl (dy x λn W ah b2 e=>E ⟨n,W,ah,b2,e⟩)
    obtain⟨cC,cD,c4,e6⟩:=dw ad;have b3:=ax.boxed (j:=2) (bJ:= {st with fr:= [],ts:=(st.next,st.fr)::st.ts,next:=st.next+1,aV:=st.aw+1,aw:=st.aw+1,aK:=st.aK+1,bq:=false}) cy (b1.aj λc _ b=> .inl b) (λc b=> .inl (cz c b)) rfl rfl rfl rfl (.inl ⟨by decide,rfl,rfl⟩) (.inl ⟨by decide,rfl⟩);have br:Mod (λc=>k c≠0) h av:=cw.then (b1.aj λc _ b=>b0 c (by rw[ax.kb c b];decide));have bs: ∀c,Ld dv ar.size aP 2 c≠0->k c≠0\/h.size<=c:=λc b=>by
     by_cases Z:c<ar.size
     ·rw[GM Z] at b;exact b0 c b
     ·exact .inr (by omega)
    generalize Ld dv ar.size aP 2=dz at*
    have cE: ∀x,(∀ n,x≠aC nl n)->ff O x=ff am x:=λx E=>dy x λn _ _ _=>E n
    have e7: ∀p∈(st.next,st.fr)::st.ts,(Ng D3 (ff O)).T p.1=p.2:=λp aj=>by
     show D3.T p.1=p.2;rw[dp];rcases List.mem_cons.1 aj with rfl|aj
     ·exact EL
     ·rw[F6 λe=>a0 (by rw[<- e];exact List.mem_map.2 ⟨p,aj,rfl⟩)];exact L.ck p aj
    have dA:Es (ff O) {st with fr:= [],ts:=(st.next,st.fr)::st.ts,next:=st.next+1,aV:=st.aw+1,aw:=st.aw+1,aK:=st.aK+1,bq:=false} (Ng D3 (ff O)):=
     ⟨cC,congrArg Nt.names a8,e7,congrArg Nt.aV a8,by rw[show Ao (Ng D3 (ff O))=_ from a8];exact A0 _,λp aj=>by
      show p.1<st.next+1;rcases List.mem_cons.1 aj with rfl|aj
      ·exact Hj _
      ·have:=L.below p aj;omega,e6.symm,λn W ah _=>by
      have W:st.aw+1<=n:=W;rcases ad (aC nl n) with o|o
      ·rw[o,cx _ (Lt n _) λj=>WA n j];exact L.gG n (by omega) ah λ_=>by omega
      ·exact o.1,(λh=>by cases h),λn W ah=>by
      have W:st.aK+1<=n:=W;rw[cE _ λj e=>WA j n e.symm];exact eK n W ah,⟨by show 1<=st.aw+1;omega,A0 _⟩,by show 1<=st.aK+1;omega,λn u=>by
      rw[cE _ λj e=>Lt j n e.symm,a7 _ λj e=>QZ j n e.symm] at u;by_cases e:n=st.next
      ·subst e;exact Cl
      ·rw[a4 _ λaO=>e (JQ aO)] at u;exact AG _ (L.clean n u)⟩
    have gc:(Ng D3 (ff O)).aW<=max D.aW (st.aK+1):=bX;have gd:(Ng D3 (ff O)).aQ=D.aQ:=cs;have e8:Sv {st with fr:= [],ts:=(st.next,st.fr)::st.ts,next:=st.next+1,aV:=st.aw+1,aw:=st.aw+1,aK:=st.aK+1,bq:=false} (Ng D3 (ff O)) (aI+1) c:=
     ⟨by show st.aw+1<=_;omega,by show st.aK+1<=_;omega,by show st.next+1<=_;omega,by show((st.next,st.fr)::st.ts).length<=_;simp;omega,c4,by omega,by omega⟩
    have dB:Bz B g av {y with Sb:=aP,ft:=w.size,ns:= []} dz {st with fr:= [],ts:=(st.next,st.fr)::st.ts,next:=st.next+1,aV:=st.aw+1,aw:=st.aw+1,aK:=st.aK+1,bq:=false} O (Ng D3 (ff O)) (aI+1) c:=
     ⟨b3,dx.up,dA,e8,AE cB ct,b⟩
    have cF:Cm {st with fr:= [],ts:=(st.next,st.fr)::st.ts,next:=st.next+1,aV:=st.aw+1,aw:=st.aw+1,aK:=st.aK+1,bq:=false}=Cm st:=by rw[<- cD];exact dA.map.symm
    have cG:JO m O:=ds.trans dx;have cH: ∀v,¬dd v->ff O v=ff m v:=λv I=>by rw[cE v λn=>oK I n,cx v (Qs I _) λn=>lj I n]
    refine aD (AZ.mk (s:=y.tp) (AB b3.cell rfl) ?_);have e9:=b3.ck.len;have fa:=b3.da;have ge:y.tp.len=st.ts.length+1:=by have an:y.tp.len=y.ps.length:=e9;have C:y.ps.length=((st.next,st.fr)::st.ts).length:=fa;rw[an,C];rfl
    refine af.intro (λdC=>?_) (λdC=>?_)
    ·refine AJ6 (q:= {y with Sb:=aP,ft:=w.size,ns:= []}) aY dB (by omega) (λh' ao aQ dD=>⟨_,rfl,?_⟩) λh' bf bH bJ ao r an C S' fb fc fd gf fe fg fh=>⟨_,rfl,?_⟩
     ·rw[cF] at dD;obtain⟨S',fi,fj⟩:=aQ.box;refine be h' ao ⟨λz=>aQ.fuel (cG.calm z),by rw[<- bm];exact aQ.dn,⟨S',by rw[<- aA];exact fi,λc b=>?_⟩,aQ.down,br.then (aQ.mod.aj λc _ b=>bs c b),λv I=>(aQ.fw v I).trans (cH v I),aQ.wt⟩ dD;rcases fj c b with o|o
      ·exact bs c o
      ·exact .inr (by have:=br.size;omega)
     ·refine ca h' bf bH bJ ao r (an.trans bm) (C.trans aA) S' (cG.trans fb) fc (fd.trans cF) (.inl (by omega)) (λv I=>(fe v I).trans (cH v I)) (br.then (fg.aj λc _ b=>bs c b)) λc b=>?_
      rcases fh c b with o|o
      ·exact bs c o
      ·exact .inr (by have:=br.size;omega)
    ·have gg: ¬((y.tp.len:Nat):Int)>=4:=of_decide_eq_false dC;refine ca av {y with Sb:=aP,ft:=w.size,ns:= []} dz _ O _ bm aA (dB.aI (BY _)) cG rfl cF (.inl ?_) cH br bs;show((st.next,st.fr)::st.ts).length<=3;rw[A5];omega
 refine ai.mk λfk fl=>?_
 have a9: ∀c,q.tp.ah=some c->ap c=6:=ag.kt;have aR: ∀c,q.np.ah=some c->ap c=7:=ag.kx;have fin: ∀(z:aa) (tp np:Sl) (N:Nat),Own fM BK z tp (t::q.ps)->Own IJ Bq z np ((st.next:Int)::eE st)->Mod (λc=>q.tp.ah=some c\/q.np.ah=some c) J z->(∀ c,tp.ah=some c->(q.tp.ah=some c\/J.size<=c)/\c<N)->(∀ c,np.ah=some c->q.np.ah=some c\/(J.size<=c/\N<=c))->
   ae z ((⟨q.d,0,none⟩:Q6).add 4) (J4 tp.p tp.len tp.cap) λdE=>ae dE ((⟨q.d,0,none⟩:Q6).add 5) (J4 np.p np.len np.cap) λaS=>fk () aS:=by
  intro z tp np N fm on bt b4 b5;have aT:ap q.d=1:=ag.kd;have nd: ¬(q.tp.ah=some q.d\/q.np.ah=some q.d):=by
   rintro(h|h)
   ·have:=a9 _ h;rw[aT] at this;cases this
   ·have:=aR _ h;rw[aT] at this;cases this
  have fn:=bt.ah ag.cell nd;have gh:=bt.size;have gi:q.d<J.size:=ag.ia;refine ae.dr fn (by simp) λdE fo fp gj=>ae.dr fo (by simp) λaS fq fs gk=>?_
  have aU:Mod (· =q.d) z aS:=fp.trans fs;have cI: ∀c,tp.ah=some c-> ¬c=q.d:=λc b e=>by
   rcases(b4 c b).1 with h|h
   ·exact nd (.inl (e▸h))
   ·omega
  have dF: ∀c,np.ah=some c-> ¬c=q.d:=λc b e=>by
   rcases b5 c b with h|h
   ·exact nd (.inr (e▸h))
   ·omega
  have dG:=fm.mod aU cI;have dH:=on.mod aU dF;have gl:=ag.ext.size;have ba:=ag.eX (h':=aS) (tp:=tp) (np:=np) (ps:=t::q.ps) (ts:=(st.next,st.fr)::st.ts) (next:=st.next) (aV:=st.aV) (S:=λc=>aM<=c/\c<aN)
   (by simpa [eB] using fq) ((bt.aj λc _ b=> .inr b).trans (aU.aj λc _ b=> .inl b)) dG dH (by have:=V.da;simp[this])
   (λc b=>by
    obtain⟨o,H⟩:=b4 c b;by_cases e:q.tp.ah=some c
    ·exact .inl e
    ·have w:J.size<=c:=o.resolve_left e;refine .inr ⟨cg c w,by omega,λC=>?_,λh=>by omega⟩;rcases b5 c C with Y|Y
     ·have:=aR c Y;rw[cg c w] at this;cases this
     ·omega)
   (λc b=>by
    by_cases e:q.np.ah=some c
    ·exact .inl e
    ·have w:=(b5 c b).resolve_left e;refine .inr ⟨cg c w.1,by omega,λC=>?_,λh=>by omega⟩;have:=(b4 c C).2;omega)
   (λc b=>⟨by have:=bN.ext.size;omega,by have:=aU.size;omega⟩)
   (λi t' p o H=>by
    cases i with
    |zero=>
     simp only[Hv,BW] at o H;subst o H;have fu:bR J t st.fr (Mx st.fr) aM aN:=cU.mod a2 λc aq c2 b=>by
      have aE:=cV c aq;rcases b with b|b
      ·have:=ak.kb c b;rw[aE] at this;cases this
      ·have:=ak.kl;rw[<- b,aE] at this;cases this
     have fw:bR z t st.fr (Mx st.fr) aM aN:=fu.mod bt λc aq c2 b=>by
      have aE:=ch c aq c2;rcases b with b|b
      ·have:=a9 c b;rw[aE] at this;cases this
      ·have:=aR c b;rw[aE] at this;cases this
     refine .inr ⟨aM,aN,fw.mod aU λc aq c2 b=>?_,by have:=aU.size;omega,λc aq c2=>⟨⟨aq,c2⟩,ch c aq c2⟩,bK⟩;have aE:=ch c aq c2;rw[b,aT] at aE;cases aE
    |succ i=>exact .inl ⟨i,by simpa using o,by simpa using H⟩)
  have dI: ∀c,LY ap J.size tp np (λc=>aM<=c/\c<aN) c≠0->k c≠0\/h.size<=c:=λc b=>by
   by_cases e:ap c=0
   ·by_cases Z:c<Y.size
    ·exfalso;apply b;unfold LY;rw[if_neg (by simp[e]),if_neg λC=>?_,if_neg λC=>?_,if_neg (by omega)]
     ·rcases b5 c C with bu|bu
      ·have:=aR c bu;rw[e] at this;cases this
      ·omega
     ·rcases(b4 c C).1 with bu|bu
      ·have:=a9 c bu;rw[e] at this;cases this
      ·omega
    ·exact .inr (by omega)
   ·exact cf c e
  generalize LY ap J.size tp np (λc=>aM<=c/\c<aN)=bv at*
  have fx:Mod (λc=>k c≠0) h aS:=(ef.then (bt.aj λc _ b=>cf c (by
   rcases b with b|b
   ·rw[a9 c b];decide
   ·rw[aR c b];decide))).then (aU.aj λc _ b=>cf c (by rw[b,aT];decide))
  refine fl _ _ ?_;refine aD (AC.mk (AB ba.cell rfl) (aD (ae.dr ba.cell (by simp) λfy cJ fz fA=>aD (ae.dr cJ (by simp) λcK b6 fB gm=>?_))));have fC:J8 J9 (((st.next:Nat):Int)+(1:Int))=((st.next+1:Nat):Int):=Aa (by omega);have fE:J8 J9 (((st.aw:Nat):Int)+(1:Int))=((st.aw+1:Nat):Int):=Aa (by omega);have b7:Mod (· =q.d) aS cK:=fz.trans fB;have gn: ∀c,tp.ah=some c-> ¬c=q.d:=cI;have fF:=ba.eX (h':=cK) (tp:=tp) (np:=np) (ps:=t::q.ps) (ts:=(st.next,st.fr)::st.ts) (next:=st.next+1) (aV:=st.aw+1) (S:=λ_=>False)
   (by rw[fC,fE] at b6;simpa [eB] using b6) (b7.aj λc _ b=> .inl b) (dG.mod b7 cI) (dH.mod b7 dF) (by have:=V.da;simp[this]) (λc b=> .inl b) (λc b=> .inl b) (λc h=>h.elim) (λi t' p o H=> .inl ⟨i,o,H⟩)
  have fG: ∀c,LY bv aS.size tp np (λ_=>False) c≠0->k c≠0\/h.size<=c:=λc b=>by
   by_cases e:bv c=0
   ·exfalso;apply b;unfold LY;rw[if_neg (by simp[e]),if_neg λC=>?_,if_neg λC=>?_,if_neg λh=>h]
    ·have o:bv c=7:=ba.kx c C;rw[e] at o;cases o
    ·have o:bv c=6:=ba.kt c C;rw[e] at o;cases o
   ·exact dI c e
  exact ei cK {q with Sb:=az,tp:=tp,np:=np,ps:=t::q.ps} _ fF rfl rfl (fx.then (b7.aj λc _ b=>dI c (by
   have o:bv q.d=1:=ba.kd;rw[b,o];decide))) fG
 have cL:=ag.cell;have b8:Own fM BK J q.tp q.ps:=ag.ck;have b9:Own IJ Bq J q.np (eE st):=ag.names;have cM:q.ps.length<=1000000:=by rw[V.da];omega
 have cN:(eE st).length<=1000000:=by simp[eE];omega
 have bb: ∀c,q.tp.ah=some c->q.np.ah≠some c:=λc o H=>by
  have:=a9 c o;rw[aR c H] at this;cases this
 have bw: ∀c,q.tp.ah=some c->c<J.size:=λc b=>b8.lt b
 have bc: ∀c,q.np.ah=some c->c<J.size:=λc b=>b9.lt b
 refine aD (AZ.mk (s:=q.tp) (AB cL rfl) (aD (AZ.mk (s:=q.np) (AB cL rfl) (aD (AC.mk (AB cL rfl) ?_)))));have Q: ∀ {z:aa},Mod (λc=>q.tp.ah=some c\/q.np.ah=some c) J z->z[q.d]? =some (J2 (eB {q with Sb:=az} {st with aw:=st.aw+1,bq:=false} false) FH (0,0)):=λx=>x.ah ag.cell (by
  have aT:ap q.d=1:=ag.kd;rintro(h|h)
  ·have:=a9 _ h;rw[aT] at this;cases this
  ·have:=aR _ h;rw[aT] at this;cases this)
 refine⟨?_,?_⟩
 ·refine al.mk λfH _ dJ aW go=>⟨AB (Q (Ext.mod aW)) rfl,AB (Q (Ext.mod aW)) rfl,AB (Q (Ext.mod aW)) rfl,?_,?_⟩
  ·refine qH (b8.ext aW) dJ (λe=>by have:=bw _ e;omega) cM λaG X aH au aJ=>⟨_,rfl,?_⟩
   have U:Mod (λc=>q.tp.ah=some c\/q.np.ah=some c) J X:=(Ext.mod aW).trans (au.aj λc _ b=> .inl b);refine⟨AB (Q U) rfl,AB (Q U) rfl,al.mk λfI _ fJ bx gp=>⟨AB (Q (U.trans (Ext.mod bx))) rfl,AB (Q (U.trans (Ext.mod bx))) rfl,?_⟩⟩;have bz:Own IJ Bq fI q.np (eE st):=(((b9.ext aW).mod au λc b e=>bb c e b)).ext bx;refine qI bz fJ (λe=>by have:=bc _ e;have:=U.size;omega) cN λbA bB bC aL bD=>⟨_,rfl,?_⟩
   have dK:=U.size;have bE: ∀c,aG.ah=some c->c<X.size:=λc b=>aH.lt b
   refine fin bB aG bA X.size (((aH.ext bx)).mod aL λc b e=>?_) bC ((U.trans (Ext.mod bx)).trans (aL.aj λc _ b=> .inr b)) (λc b=>⟨(aJ c b).imp id λh=>by omega,bE c b⟩) λc b=>(bD c b).imp id λh=>⟨by omega,by omega⟩
   rcases aJ c b with o|o
   ·exact bb c o e
   ·have:=bc c e;omega
  ·refine al.mk λfy _ cJ dL fA=>?_
   have bG:=aW.trans dL;refine⟨AB (Q (Ext.mod bG)) rfl,AB (Q (Ext.mod bG)) rfl,?_⟩;refine qH (b8.ext bG) (dL.ah dJ λh=>h) (λe=>by have:=bw _ e;omega) cM λaG X aH au aJ=>⟨_,rfl,?_⟩
   have U:Mod (λc=>q.tp.ah=some c\/q.np.ah=some c) J X:=(Ext.mod bG).trans (au.aj λc _ b=> .inl b);refine⟨AB (Q U) rfl,AB (Q U) rfl,?_⟩;have dK:=U.size;have bz:Own IJ Bq X q.np (eE st):=(b9.ext bG).mod au λc b e=>bb c e b
   have b6:X[fH.size]? =some (J2 #[J6 J9 (st.next:Int)] Bq (0,0)):=au.ah cJ (λe=>by have:=bw _ e;omega);refine qI bz b6 (λe=>by have:=bc _ e;omega) cN λbA bB bC aL bD=>⟨_,rfl,?_⟩
   have bE: ∀c,aG.ah=some c->c<X.size:=λc b=>aH.lt b
   refine fin bB aG bA X.size (aH.mod aL λc b e=>?_) bC (U.trans (aL.aj λc _ b=> .inr b)) (λc b=>⟨(aJ c b).imp id λh=>by omega,bE c b⟩) λc b=>(bD c b).imp id λh=>⟨by omega,by omega⟩
   rcases aJ c b with o|o
   ·exact bb c o e
   ·have:=bc c e;omega
 ·refine al.mk λgq _ fK cO gr=>⟨AB (Q (Ext.mod cO)) rfl,AB (Q (Ext.mod cO)) rfl,al.mk λgs _ fL dM gt=>?_⟩
  have bd:=cO.trans dM;refine⟨AB (Q (Ext.mod bd)) rfl,AB (Q (Ext.mod bd)) rfl,AB (Q (Ext.mod bd)) rfl,?_⟩;refine qH (b8.ext bd) fL (λe=>by have:=bw _ e;omega) cM λaG X aH au aJ=>⟨_,rfl,?_⟩
  have U:Mod (λc=>q.tp.ah=some c\/q.np.ah=some c) J X:=(Ext.mod bd).trans (au.aj λc _ b=> .inl b);refine⟨AB (Q U) rfl,AB (Q U) rfl,?_⟩;have dK:=U.size;have bz:Own IJ Bq X q.np (eE st):=(b9.ext bd).mod au λc b e=>bb c e b
  have fO:X[J.size]? =some (J2 #[J6 J9 (st.next:Int)] Bq (0,0)):=au.ah (dM.ah fK λh=>h) (λe=>by have:=bw _ e;omega);refine qI bz fO (λe=>by have:=bc _ e;omega) cN λbA bB bC aL bD=>⟨_,rfl,?_⟩
  have bE: ∀c,aG.ah=some c->c<X.size:=λc b=>aH.lt b
  refine fin bB aG bA X.size (aH.mod aL λc b e=>?_) bC (U.trans (aL.aj λc _ b=> .inr b)) (λc b=>⟨(aJ c b).imp id λh=>by omega,bE c b⟩) λc b=>(bD c b).imp id λh=>⟨by omega,by omega⟩
  rcases aJ c b with o|o
  ·exact bb c o e
  ·have:=bc c e;omega
end
def GG:List Pr->Int
 | []=>0
 |x::l=>if Ai x≠0 then Ai x else GG l
def EY(l:List Pr):Int:=if l.length=0 then 1 else if l.length>64 then 2 else GG l
theorem zn: ∀ {l:List Pr},GG l=0->BV l
 | [],_=>zN
 |x::l,a=>by
  unfold GG at a;split at a
  ·rename_i b;exact absurd a b
  ·rename_i b;intro d c;rcases List.mem_cons.1 c with rfl|c
   ·exact Decidable.not_not.1 b
   ·exact zn a d c
theorem zo {l:List Pr}(a:EY l=0):YR l/\BV l/\l≠ []:=by
 unfold EY at a;split at a
 ·cases a
 ·rename_i b;split at a
  ·cases a
  ·rename_i e;have:=zn a;exact⟨⟨by omega,λx c=>oL (this x c)⟩,this,λd=>b (by rw[d];rfl)⟩
theorem AHN {l:List Pr}{i:Nat}{x:Pr}(a:l[i]? =some x)(d:GG (l.take i)=0):GG l=if Ai x≠0 then Ai x else GG l:=by
 split
 ·rename_i e
  induction l generalizing i with
  |nil=>simp at a
  |cons f l g=>
   cases i with
   |zero=>
    simp at a;subst a;unfold GG;rw[if_pos e]
   |succ i=>
    have b:GG (f::l.take i)=0:=d;unfold GG at b ⊢;split at b
    ·rename_i c;exact absurd b c
    ·rename_i c;rw[if_neg c];exact g (by simpa using a) b
 ·rfl
theorem zr: ∀ {l:List Pr} {x:Pr},GG l=0->Ai x=0->GG (l++ [x])=0
 | [],x,_,b=>by show GG [x]=0;unfold GG;rw[if_neg (by simp[b])];rfl
 |y::l,x,b,d=>by
  have a:GG (y::l)=0:=b;show GG (y::(l++ [x]))=0;unfold GG at a ⊢;split at a
  ·rename_i c;exact absurd a c
  ·rename_i c;rw[if_neg c];exact zr a d
theorem zt {O:aq}{h:aa}{s:Sl}{l:List Pr}{n:A2P}(v:View BR h s l)(j: ∀B,Ext h B->n (J6 J9 (EY l)) B):AA O P PZ #[J4 s.p s.len s.cap] h n:=by
 refine AGu ?_;unfold uT;rw[v.len];refine af.intro (λe=>?_) (λe=>?_)
 ·have o:l.length=0:=by have:((l.length:Nat):Int)=0:=(by simpa using e);omega
  have:=j h Mod.refl;unfold EY at this;rwa [if_pos o] at this
 have o:l.length≠0:=λf=>by rw[f] at e;cases e
 refine af.intro (λe=>?_) (λe=>?_)
 ·have u:l.length>64:=by have:=of_decide_eq_true e;omega
  have:=j h Mod.refl;unfold EY at this;rwa [if_neg o,if_pos u] at this
 have u: ¬l.length>64:=by have:=of_decide_eq_false e;omega
 have Q:EY l=GG l:=by unfold EY;rw[if_neg o,if_neg u]
 rw[Q] at j;refine Loop.rule (λC x d=> ∃i:Nat,x=((i:Int),())/\C=l.length-i/\i<=l.length/\Ext h d/\GG (l.take i)=0) ?_ ⟨0,rfl,rfl,by omega,Mod.refl,rfl⟩;rintro K C _ d ⟨i,rfl,rfl,Z,w,q⟩ R;dsimp only;refine af.intro (λe=>?_) (λe=>?_)
 ·have r:i<l.length:=by have:=of_decide_eq_true e;omega
  have ag:l[i]? =some l[i]:=A2 r;rw[<- v.len];refine(v.ext w).idx ag λa _ c=>?_
  obtain⟨S,T,c2⟩:=c.pair;refine AJ.mk S (AJ.mk T (Ac.mk c2 (al.pair λb k _ m U ab=>?_)));have y:=w.trans U;generalize l[i]=p at*
  have D:=AHN ag q;refine ai.mk λE F=>?_
  have V:Ai p=1-> ∀d,Ext h d->n (J6 J9 1) d:=λf d x=>by
   have:=j d x;rw[D,if_pos (by rw[f];decide),f] at this;exact this
  have W:Ai p=2-> ∀d,Ext h d->n (J6 J9 2) d:=λf d x=>by
   have:=j d x;rw[D,if_pos (by rw[f];decide),f] at this;exact this
  have z:Ai p=if(decide (p.key=⟨#[]⟩)||(p.gone&& !decide (p.val=⟨#[]⟩))) then 1 else if(decide (p.key.size>64)||decide (p.val.size>8192)) then 2 else 0:=rfl;have G:(decide (p.key=⟨#[]⟩)||(p.gone&& !decide (p.val=⟨#[]⟩)))=true->E (true,()) k:=λf=>F _ _ (af.yes rfl (V (by rw[z,if_pos f]) k y))
  have H:(decide (p.key=⟨#[]⟩)||(p.gone&& !decide (p.val=⟨#[]⟩)))=false->E (false,()) k:=λf=>F _ _ (af.no rfl (by
   refine ai.mk λI J=>?_
   have iy:(decide (p.key.size>64)||decide (p.val.size>8192))=true->I (true,()) k:=λA=>J _ _ (af.yes rfl (W (by rw[z,if_neg (by rw[f];decide),if_pos A]) k y))
   have X:(decide (p.key.size>64)||decide (p.val.size>8192))=false->I (false,()) k:=λA=>J _ _ (af.no rfl (by
    have Y:Ai p=0:=by rw[z,if_neg (by rw[f];decide),if_neg (by rw[A];decide)]
    rw[Aa (by omega)];refine R (l.length-(i+1)) _ _ (by omega) ⟨i+1,rfl,rfl,r,y,?_⟩;rw[Ax,ag];exact zr q Y))
   refine AJ.mk (AO m rfl) (af.intro (λg=>?_) (λg=>?_))
   ·have L:p.key.size>64:=by have:=of_decide_eq_true g;omega
    exact iy (by simp[L])
   ·have L: ¬p.key.size>64:=by have:=of_decide_eq_false g;omega
    refine AJ.mk (AB m rfl) ?_;by_cases M:p.val.size>8192
    ·rw[decide_eq_true (show((p.val.size:Int)>(8192:Int)) by omega)];exact iy (by simp[M])
    ·rw[decide_eq_false (show ¬((p.val.size:Int)>(8192:Int)) by omega)];exact X (by simp[M];omega)))
  refine AJ.mk (AO m rfl) ?_;rw[CU];refine af.intro (λg=>?_) (λg=>?_)
  ·exact G (by rw[g];rfl)
  ·refine Ac.mk (AB m rfl) (af.intro (λt=>?_) (λt=>?_))
   ·refine AJ.mk (AB m rfl) ?_;rw[CU];cases N:decide (p.val=(⟨#[]⟩:A2Q)) with
    |true=>exact H (by rw[g,t,N];rfl)
    |false=>exact G (by rw[g,t,N];rfl)
   ·exact H (by rw[g,t];rfl)
 ·have r:i=l.length:=by have:=of_decide_eq_false e;omega
  subst r;rw[BE] at q;have:=j d w;rwa [q] at this
theorem zu {e:bQ}{D:Bt}(h:BJ e D){s:Nat}(f:s<=99999999){b:List Pr}(j:YR b): ∀d∈(D.L s).map (BX s)++ [BX s b],d.length<=1048576:=λd a=>by
 rcases List.mem_append.1 a with a|a
 ·obtain⟨c,i,rfl⟩:=List.mem_map.1 a;have:=ZI f (h.gq s c i);omega
 grind [List.mem_singleton,ZI]
theorem AJQ(a:List (List UInt8))(b:List UInt8):aJ (a++ [b])=aJ a++Ct b:=by simp
theorem AJS {i j:bQ}{D:Bt}{s:Nat}{b:List Pr}(h:BJ i D)(n:1<=s/\s+1<=99999999)(l:YR b)(d: ∀e,j e=if e=aC nl s then some (AX (aJ ((D.L s).map (BX s)++ [BX s b])),bF) else i e):BJ j (TA D s b):=by
 refine AQt h n l (λf _ _ o=> .inl ?_) (λf _ _=> .inl ?_) (λf=> .inl ?_) (λe p r=>?_) ⟨_,by rw[d,if_pos rfl],?_⟩
 ·rw[d,if_neg λa=>o (Ig a)]
 ·rw[d,if_neg λa=>WA s f a.symm]
 ·rw[d,if_neg λa=>Lt s f a.symm]
 ·simp_all
 ·rw[EO,AW];have:=Ra (rs:=(D.L s).map (BX s)++ [BX s b]) (zu h (by omega) l) (t:= []) UD;rw[AK] at this;exact this
theorem AJz {j F1 G:bQ}{D:Bt}{s:Nat}{b:List Pr}(h:BJ j D)(z:1<=s/\s+1<=99999999)(C:YR b)(o: ∀e,F1 e=if e=aC nl s then some (AX (aJ ((D.L s).map (BX s))),AX (Ct (BX s b))) else j e)(c:MZ F1 G):
  BJ G {D with aQ:=max D.aQ (s+1)}\/BJ G (TA D s b):=by
 have E: ∀a,1<=a->a<=99999999->a≠s->Nk (j (aC nl a)) (G (aC nl a)):=λa l n t=>by
  have d:F1 (aC nl a)=j (aC nl a):=by rw[o,if_neg λd=>t (Ig d)]
  have:=c.bZ (x:=aC nl a) λp w=>(h.log.has a p l n (d▸w)).1
  rwa [d] at this
 have F: ∀a,1<=a->a<=99999999->Nk (j (aC nn a)) (G (aC nn a)):=λa l n=>by
  have d:F1 (aC nn a)=j (aC nn a):=by rw[o,if_neg λd=>WA s a d.symm]
  have:=c.bZ (x:=aC nn a) λp w=>(h.note.has a p l n (d▸w)).1
  rwa [d] at this
 have ft: ∀a,F1 (aX a)=j (aX a):=λa=>by rw[o,if_neg λd=>Lt s a d.symm]
 have H: ∀a∈(Ao D).names,G (aX a)=some (AX (Jc (D.T a)),bF)/\G6 (D.T a):=λa N=>by
  obtain⟨O,I⟩:=h.cO a N;have:=c.bZ (x:=aX a) λp w=>by grind
  rw[ft] at this;exact⟨VM this I O,I⟩
 have J: ∀e,(∀ a,e≠aC nl a)->G e≠none->j e≠none:=λe u P Q=>P (by
  have:=c e;rw[o,if_neg (u s),Q] at this;exact this)
 have K:=c (aC nl s);rw[o,if_pos rfl] at K;obtain⟨S,y⟩:=K;have i:=zj (rs:=(D.L s).map (BX s)) (r:=BX s b) (zu h (by omega) C) S;have L:(G (aC nl s)=none/\(D.L s).map (BX s)= []\/ ∃e,G (aC nl s)=some (e,bF)/\NR (bl e) ((D.L s).map (BX s)))->BJ G {D with aQ:=max D.aQ (s+1)}:=λT=>by
  refine⟨?_,h.note.aN h.cE.2.2.1 F,H,h.gq,h.dP,λe u hd=>h.dA e (J e (λa d=>by grind [UG]) u) hd,by have:=h.cE;refine⟨?_,?_,this.2.2.1,this.2.2.2⟩<;>simp only[]<;>omega⟩;have:=h.log.put (G:=G) (eY:=max D.aQ (s+1)) (s:=s) (v:=(D.L s).map (BX s)) ⟨z.1,by omega⟩ (by omega) (λa l n t=>E a l n t) T (by omega);have d:(KO (λa=>(D.L a).map (BX a)) s ((D.L s).map (BX s)))=λa=>(D.L a).map (BX a):=by
   funext a
   grind [EL,F6]
  rw[d] at this;exact this
 split at y
 ·rename_i U;left;refine L (.inl ⟨y,?_⟩);rw[U] at i;have M: ∀rs,NR (bl bF) rs->rs= []:=λrs V=>rJ V
  rcases i with i|i
  ·exact M _ i
  ·have:=M _ i;simp at this
 ·rcases i with i|i
  ·exact .inl (L (.inr ⟨_,y,i⟩))
  ·right;have W:(D.L s++ [b]).map (BX s)=(D.L s).map (BX s)++ [BX s b]:=by rw[AW];rfl
   refine⟨?_,h.note.aN h.cE.2.2.1 F,H,λa x f=>?_,h.dP,λe u hd=>h.dA e (J e (λa d=>by grind [UG]) u) hd,by have:=h.cE;refine⟨?_,?_,this.2.2.1,this.2.2.2⟩<;>simp only[TA]<;>omega⟩
   ·have:=h.log.put (G:=G) (eY:=max D.aQ (s+1)) (s:=s) (v:=(D.L s++ [b]).map (BX s)) ⟨z.1,by omega⟩ (by omega) (λa l n t=>E a l n t) (.inr ⟨_,y,by rw[W];exact i⟩) (by omega);have d:(KO (λa=>(D.L a).map (BX a)) s ((D.L s++ [b]).map (BX s)))=λa=>((TA D s b).L a).map (BX a):=by
     funext a;show _=(KO D.L s (D.L s++ [b]) a).map (BX a)
     grind [EL,F6]
    rw[d] at this;exact this
   ·by_cases d:a=s
    ·have f:x∈KO D.L s (D.L s++ [b]) a:=f;rw[d,EL] at f;rcases List.mem_append.1 f with f|f
     ·exact h.gq s x f
     ·rw[List.mem_singleton.1 f];exact C
    ·have f:x∈KO D.L s (D.L s++ [b]) a:=f;rw[F6 d] at f;exact h.gq a x f
theorem ASb {b:bQ}{D:Bt}(h:BJ b D){t:Nat}(d:D.aQ<=t):IP {D with aQ:=t}=IP D:=by
 unfold IP;exact Ti d λa e _=>by
  show(if a<(Ao D).aV then [] else D.L a)= [];split
  ·rfl
  ·exact h.gH (.inr e)
section
variable {A : aq} {B : cH} {g h : aa} {q : Hp} {k : Nat -> Nat} {st : Db} {m : Bx} {D : Bt} {aI c : Nat} {R : A2P}
theorem ASd(a:bM g h q k st m)(b:R (J6 J9 (st.aw:Int)) h):AA A P Im #[Ar q.lg] h R:=by refine Oc ?_;unfold LZ;exact af.no rfl (aD (AC.mk (AB a.log rfl) b))
theorem AJf(a:Nat):600000<=20000*a+10000000:=by omega
theorem cH.up(B:cH){d a:Nat}{b:Nat}(e:a<=b)(h:d<=B.W0+a*B.K):d<=B.W0+b*B.K:=AE h (Lo (AS _ e) _)
structure mH (st bJ:Db) (l:List Pr):Prop where
 map:Cm bJ=cz (Cm st) l
 full:4096<=M.Eb (BA st.fr l)->bJ.fr= []/\(bJ.ts.length<=3\/bJ.ts.length=st.ts.length)
 less:M.Eb (BA st.fr l)<4096->bJ.fr=BA st.fr l/\bJ.ts=st.ts
theorem zw {s:Sl}{l:List Pr}(ap:bY g)(br:Bz B g h q k st m D aI c)(hA:aI+3<=B.A)(ab:View BR h s l)(aq:l≠ []-> ∀b,s.ah=some b->b<h.size/\k b=0)(aG:EY l=0->c+l.length<=B.C)
  (bs:EY l≠0-> ∀o,Ext h o->R (J6 J9 (EY l)) o)
  (a4:EY l=0-> ∀o v,oJ B h o q k m v (aI+3)->(∀ G,MZ (ff v) G->Rec G (aI+3) (c+l.length) (Cm st)\/Rec G (aI+3) (c+l.length) (cz (Cm st) l))->R (J6 J9 30) o)
  (bt:EY l=0-> ∀o v,oJ B h o q k m v (aI+3)->kD (ff v) (aI+3) (c+l.length) (cz (Cm st) l)->R (J6 J9 0) o)
  (a5:EY l=0-> ∀o ac ar bJ v aH,ac.d=q.d->ac.b=q.b->Bz B g o ac ar bJ v aH (aI+3) (c+l.length)->JO m v->mH st bJ l->(∀ n,¬dd n->ff v n=ff m n)->Mod (λc=>k c≠0) h o->(∀ c,ar c≠0->k c≠0\/h.size<=c)->R (J6 J9 0) o):
  AA A P Kr #[Ar q.d,J4 s.p s.len s.cap] h R:=by
 obtain⟨V,hd,L,w,aK,e⟩:=br;have cx:=B.hA;have cy:=B.hC;have bu:=B.wt (a:=aI) (by omega);have cB:=w.aw;have cC:=L.eN;have cD:=w.aQ;refine ABA ?_;unfold Tw;refine ai.mk λK bv=>Yx V (bv _ _ (af.no rfl ?_))
 refine zt ab λbw ad=>⟨_,rfl,?_⟩
 refine af.intro (λQ=>bs (by simpa using Q) bw ad) (λQ=>?_);have S:EY l=0:=by simpa using Q
 obtain⟨E,bx,ae⟩:=zo S
 replace aq:=aq ae
 replace aG:=aG S
 have W:=V.on ad;refine aD (AY.mk (AB W.cell rfl) (aD (AY.mk (AB W.cell rfl) ?_)));refine ASd W ⟨_,rfl,⟨AB W.cell rfl,?_⟩⟩;refine APK (by omega) E.len E.ok (ab.ext ad) (λb E=>by have:=(aq b E).1;have:=ad.size;omega) λX aL=>⟨_,rfl,⟨AB (W.on aL).cell rfl,?_⟩⟩
 have N:=W.on aL;have aM:=ad.trans aL;have cE:=aM.size;have cF:=ZI (s:=st.aw) (by omega) E;have au:(AX (BX st.aw l)).size=(BX st.aw l).length:=AP _;refine yK (N.ib ap) N.log N.box N.lB (λo x=>N.fY ap (x.aj λc _ e=> .inl e)) (by decide) (by omega) (by rw[au];omega) (AE aK bu) λav p aw ax aN a6=>⟨_,rfl,?_⟩
 rw[show bl (AX (BX st.aw l))=BX st.aw l from EO _] at aw ax ⊢;have bz:=Zc V.box.aS (aC nl st.aw) (AX (Ct (BX st.aw l)));have cG:=(JL (r:=BX st.aw l) (by omega)).2;rw[AP] at bz;have a7: ∀c,p c->q.Sb c\/X.size<=c:=λc e=>(a6 c e).imp id λh=>h.1
 have bA:((ff m (aC nl st.aw)).getD (bF,bF))=(AX (aJ ((D.L st.aw).map (BX st.aw))),bF):=by
  cases a8:st.bq with
  |true=>rw[L.jF a8];rfl
  |false=>
   have a9:=L.gG st.aw (A0 _) (by omega) (by rw[a8];simp);rw[a9,L.ok.jH (by omega) a9];rfl
 have ba: ∀f,st.aw<f->D.L f= []:=λf y=>L.sr w (by omega) y
 have bb:1<=st.aw/\st.aw+1<=99999999:=⟨by omega,by omega⟩;have bc:(Ao D).aV<=st.aw:=by rw[L.aV];exact L.eN.2
 obtain⟨bB,bC⟩:=APV L.ok bc ba E;have bD:=zQ L.ok (b:=l) bc ba;have bd:N8 (TA D st.aw l)=N8 D+l.length:=by
  unfold N8;rw[bD,NO,A1];have:(Ao (TA D st.aw l)).names.map (λf=>((TA D st.aw l).T f).length)=(Ao D).names.map λf=>(D.T f).length:=rfl
  rw[this];simp;omega
 have bE: ∀ {F':bQ},(∀ f,F' (aX f)≠none->ff m (aX f)≠none)-> ∀f,F' (aX f)≠none->f<8*aI+8:=λbG f y=>by
  have:=L.fB w (bG f y);have:=w.next;omega
 have bH: ∀ {be:Nat},be<=B.W0+(aI+1)*B.K->be<=B.W0+(aI+3)*B.K:=λh=>B.up (by omega) h
 rcases Rj (k:=aC nl st.aw) (d:=AX (Ct (BX st.aw l))) hd (yM (by decide) (by omega)) with⟨aO,aP⟩|⟨aP,aR,bI⟩
 ·rw[aP] at aw ⊢;refine af.yes rfl ?_;refine JV N aw (aN.aj λc _ e=>e.imp id .inl) a7 λbK bL bN bO bP=>⟨_,rfl,?_⟩
  refine a4 S bK (NP m) ⟨by rw[aO];decide,bL,⟨p,bN,λc e=>(bP c e).imp id λh=>by omega⟩,rfl,(Ext.mod aM).trans bO,λ_ _=>rfl,B.up (by omega) aK⟩ λG ay=> .inl ?_
  exact(L.p6 w G ay).mono (by omega) (by omega)
 rw[aP] at ax ⊢;refine af.no rfl ?_;rw[decide_eq_true rfl,IF] at ax;generalize (EN m (aC nl st.aw) (AX (Ct (BX st.aw l)))).2=z at*
 have ah: ∀n,ff z n=if n=aC nl st.aw then some (AX (aJ ((D.L st.aw).map (BX st.aw))),AX (Ct (BX st.aw l))) else ff m n:=λn=>by
  rw[bI,bA];simp only[RZ]
 have cH: ¬p q.lg:=λe=>by
  rcases a6 _ e with h|h
  ·exact N.lB h
  ·exact h.2 rfl
 have H:=N.boxed (j:=3) (bJ:= {st with bq:=true}) aw (aN.aj λc _ e=>e.imp id λh=> .inl ⟨rfl,h⟩) a7 rfl rfl rfl rfl (.inr ax) (.inl ⟨by decide,rfl⟩);have bR:Grow k (Ld k X.size p 2) X.size:=rR;have az: ∀c,Ld k X.size p 2 c≠0->k c≠0\/h.size<=c:=λc e=>by
  by_cases aj:c<X.size
  ·rw[bR c aj] at e;exact .inl e
  ·exact .inr (by omega)
 generalize Ld k X.size p 2=bf at*
 have aA:Mod (λc=>k c≠0) h av:=(Ext.mod aM).trans (aN.aj λc _ e=>by
  rcases e with e|e
  ·rw[V.kb c e];decide
  ·rw[e,V.kl];decide)
 refine aD (AY.mk (AB H.cell rfl) ?_);refine yL (H.ib ap) H.log H.box H.lB (by decide) (by show st.aw<=_;omega) λaS ak cI aT=>⟨_,rfl,?_⟩
 have bS:ff z (aC nl st.aw)=some (AX (aJ ((D.L st.aw).map (BX st.aw))),AX (Ct (BX st.aw l))):=by rw[ah,if_pos rfl]
 have ak:Cu aS q.b p (Hg z (aC nl st.aw)).2:=ak;have bT:=o0 H.box.aS (aC nl st.aw);have bh:bg z.files<=B.W0+(aI+1)*B.K:=B.step (d:=600000) aK (by omega) (AJf B.C);show af ((Hg z (aC nl st.aw)).1 != 0) _ _;rcases OY aR.up bS with⟨aO,am⟩|⟨am,bU,bV⟩
 ·rw[am] at ak;have bW:NE z (aC nl st.aw) true=(30,NP z):=am;rw[am];refine af.yes rfl ?_;show AA A P Cg #[_,J6 J9 (NE z (aC nl st.aw) true).1] aS _;rw[bW];refine JV (q:= {q with Sb:=p}) H ak (aT.aj λc _ e=> .inl e) (λc e=> .inl e) λbX bZ b0 b1 b2=>⟨_,rfl,?_⟩
  refine a4 S bX (NP z) ⟨(λI=>by have:=aR.calm I;rw[aO] at this;cases this),bZ,⟨p,b0,λc e=>?_⟩,rfl,aA.then (b1.aj λc _ e=>az c e),λn u=>?_,bH bh⟩ λG ay=>?_
  ·rcases b2 c e with F|F
   ·exact az c F
   ·exact .inr (by have:=aA.size;omega)
  ·rw[oR,ah,if_neg (oK u _)]
  ·have b3: ∀f,G (aX f)≠none->ff m (aX f)≠none:=λf y=>by
    have F:ff z (aX f)≠none:=ay.some y;rwa [ah,if_neg λJ=>Lt _ f J.symm] at F
   have C:=L.jI w (F':=G) (bE b3);rcases AJz L.ok bb E (F1:=ff (NP z)) ah ay with aU|aU
   ·left;have au:=ASb L.ok (t:=max D.aQ (st.aw+1)) (by omega);have em:cA {D with aQ:=max D.aQ (st.aw+1)}=cA D:=by unfold cA Em;rw[au];rfl
    have b4:N8 {D with aQ:=max D.aQ (st.aw+1)}=N8 D:=by unfold N8;rw[au];rfl
    refine⟨_,aU,⟨by show max D.aQ (st.aw+1)<=_;omega,by have:=C.aW;show D.aW<=_;omega,by have:=C.next;show(Ao D).next<=_;omega,by have:=C.aV;show(Ao D).aV<=_;omega,by have:=C.cn;show(Ao D).names.length<=_;omega,by rw[b4];have:=C.bX;omega,λf y=>by have:=C.mX f y;omega⟩,by rw[em];exact L.map⟩
   ·right;refine⟨_,aU,⟨by show max D.aQ (st.aw+1)<=_;omega,by have:=C.aW;show D.aW<=_;omega,by have:=C.next;show(Ao D).next<=_;omega,by have:=C.aV;show(Ao D).aV<=_;omega,by have:=C.cn;show(Ao D).names.length<=_;omega,by rw[bd];have:=C.bX;omega,λf y=>by have:=C.mX f y;omega⟩,by rw[bC,L.map]⟩
 rw[am];refine af.no rfl ?_;generalize (Hg z (aC nl st.aw)).2=O at*
 have Y: ∀n,ff O n=if n=aC nl st.aw then some (AX (aJ ((D.L st.aw).map (BX st.aw)++ [BX st.aw l])),bF) else ff m n:=λn=>by
  rw[bV];by_cases u:n=aC nl st.aw
  ·rw[if_pos u,if_pos u];simp only[Aj,AJQ]
  ·rw[if_neg u,if_neg u,ah,if_neg u]
 have b5:=AJS L.ok bb E Y;have b6:=H.boxed (j:=2) (bJ:= {st with bq:=true}) ak (aT.aj λc _ e=> .inl e) (λc e=> .inl e) rfl rfl rfl rfl (.inl ⟨by decide,rfl,rfl⟩) (.inl ⟨by decide,rfl⟩);have b7:Mod (λc=>k c≠0) h aS:=aA.then (aT.aj λc _ e=>az c (by rw[H.kb c e];decide));have b8: ∀c,Ld bf av.size p 2 c≠0->k c≠0\/h.size<=c:=λc e=>by
  by_cases aj:c<av.size
  ·rw[GM aj] at e;exact az c e
  ·exact .inr (by have:=aA.size;omega)
 generalize Ld bf av.size p 2=b9 at*
 have aE:JO m O:=aR.trans bU;have cJ:=L.dj w;have cK:=E.len;refine Loop.rule (λbi x I=> ∃(i:Nat) (an:List M.DX) (ao:Nat->Nat),x=((i:Int),())/\bi=l.length-i/\i<=l.length/\bM g I {q with Sb:=p,ns:=an} ao {st with bq:=true,fr:=BA st.fr (l.take i)} O/\Mod (λc=>k c≠0) h I/\(∀ c,ao c≠0->k c≠0\/h.size<=c)) ?_
  ⟨0,q.ns,b9,rfl,rfl,As _,b6,b7,b8⟩
 rintro cL bi _ I ⟨i,an,ao,rfl,rfl,cM,Z,aa,T⟩ bj;dsimp only;have ca:=ab.mod aa λb E ae=>ae (aq b E).2
 have cN:=aa.size;refine af.intro (λQ=>?_) (λQ=>?_)
 ·have aF:i<l.length:=by have:=of_decide_eq_true Q;have:=ab.len;omega
  have ag:l[i]? =some l[i]:=A2 aF;refine ca.idx ag λa _ cb=>?_
  obtain⟨cc,cd,c2⟩:=cb.pair;refine AJ.mk cc (AJ.mk cd (Ac.mk c2 (al.pair λb ce _ aV bk cO=>?_)));have aW:=Z.on bk;refine aD (AY.mk (AB aW.cell rfl) ?_);refine AJ.mk (AO aV rfl) (AJ.mk (AB aV rfl) (Ac.mk (AB aV rfl) ?_));have cf:=M.Qt (l:=l.take i) (t:=st.fr);rw[AD] at cf;refine M.sx (x:=l[i]) aW.fresh (by show(BA st.fr (l.take i)).length<_;omega) λcg cP ch bm ci=>⟨_,rfl,?_⟩
  have cj:=aW.p7 ch bm ci;rw[Aa (by omega)];refine bj (l.length-(i+1)) _ _ (by omega) ⟨i+1,cg,_,rfl,rfl,aF,by rw[M.sy ag];exact cj,(aa.trans (Ext.mod bk)).then (bm.aj λc _ e=>T c (by rw[Z.kf c e];decide)),λc e=>?_⟩;by_cases aj:c<ce.size
  ·rw[GM aj] at e;exact T c e
  omega
 have aF:i=l.length:=by have:=of_decide_eq_false Q;have:=ab.len;omega
 subst aF;rw[BE] at Z;clear bj;have aY:Cm {st with bq:=true,fr:=BA st.fr l}=cz (Cm st) l:=zH V.fW bx;have ck:Es (ff O) {st with bq:=true,fr:=BA st.fr l} (TA D st.aw l):=
  ⟨b5,L.names,L.ck,L.aV,L.next,L.below,by rw[bB,<-L.fr],λf aZ a0 ae=>by
   have bn:f≠st.aw:=ae rfl;rw[Y,if_neg λJ=>bn (Ig J)];exact L.gG f aZ a0 λ_=>bn,λ_=>by
   show ff O (aC nl st.aw)=some (AX (aJ ((KO D.L st.aw (D.L st.aw++ [l]) st.aw).map (BX st.aw))),bF);rw[Y,if_pos rfl,EL,AW];rfl,λf aZ a0=>by
   rw[Y,if_neg λJ=>WA _ f J.symm];exact L.jE f aZ a0,L.eN,L.aK,λf y=>by
   rw[Y,if_neg λJ=>Lt _ f J.symm] at y;exact L.clean f y⟩
 have cl:Sv {st with bq:=true,fr:=BA st.fr l} (TA D st.aw l) (aI+1) (c+l.length):=
  ⟨by show st.aw<=_;omega,by have:=w.aK;show st.aK<=_;omega,by have:=w.next;show st.next<=_;omega,by have:=w.cn;show st.ts.length<=_;omega,by rw[bd];have:=w.bX;omega,by show max D.aQ (st.aw+1)<=_;omega,by have:=w.aW;show D.aW<=_;omega⟩
 have bo:Bz B g I {q with Sb:=p,ns:=an} ao {st with bq:=true,fr:=BA st.fr l} O (TA D st.aw l) (aI+1) (c+l.length):=
  ⟨Z,aE.up,ck,cl,AE bT bh,aG⟩
 have a1: ∀n,¬dd n->ff O n=ff m n:=λn u=>by rw[Y,if_neg (oK u _)]
 refine ai.mk λcQ a2=>?_
 refine aD (AY.mk (AB Z.cell rfl) ?_);refine M.su Z.fresh ⟨_,_,rfl,?_⟩;refine af.intro (λa3=>?_) (λa3=>?_)
 ·have cR:4096<=M.Eb (BA st.fr l):=by have:=of_decide_eq_true a3;have J:M.Eb ({st with bq:=true,fr:=BA st.fr l}:Db).fr=M.Eb (BA st.fr l):=rfl;omega
  refine APl (q:= {q with Sb:=p,ns:=an}) ap bo (by omega) (λo v U bp=>⟨_,rfl,a2 _ _ ?_⟩) λo ac ar bJ v aH cm cn S' co cp cq cr cs ct cu=>⟨_,rfl,a2 _ _ ?_⟩
  ·rw[aY] at bp;obtain⟨S',cv,cw⟩:=U.box;refine bt S o v ⟨λI=>U.fuel (aE.calm I),U.dn,⟨S',cv,λc e=>?_⟩,U.down,aa.then (U.mod.aj λc _ e=>T c e),λn u=>(U.fw n u).trans (a1 n u),U.wt⟩ bp;rcases cw c e with F|F
   ·exact T c F
   ·exact .inr (by omega)
  ·refine a5 S o ac ar bJ v aH cm cn S' (aE.trans co) ⟨cq.trans aY,λ_=>⟨cp,cr⟩,λh=>absurd h (by omega)⟩ (λn u=>(cs n u).trans (a1 n u)) (aa.then (ct.aj λc _ e=>T c e)) λc e=>?_
   rcases cu c e with F|F
   ·exact T c F
   ·exact .inr (by omega)
 ·have cS:M.Eb (BA st.fr l)<4096:=by have:=of_decide_eq_false a3;have J:M.Eb ({st with bq:=true,fr:=BA st.fr l}:Db).fr=M.Eb (BA st.fr l):=rfl;omega
  refine a2 _ _ ?_;exact a5 S I {q with Sb:=p,ns:=an} ao _ O _ rfl rfl (bo.aI (by omega)) aE ⟨aY,λh=>absurd h (by omega),λ_=>⟨rfl,rfl⟩⟩ a1 aa T
end
theorem zx: ∀(l:List UInt8) (a:Nat),mg l->TL a l<=999999999999->Lib.parseUint10 a l= .ok (TL a l)
 | [],a,_,_=>rfl
 |c::l,a,hd,b=>by
  have h:TL a (c::l)=TL (a*10+(c.toNat-48)) l:=rfl;rw[h] at b ⊢;have d:=hd c (by simp);have f:=qP l (a*10+(c.toNat-48));unfold Lib.parseUint10;rw[if_pos d,if_neg (by omega),if_neg (by omega)];exact zx l _ (λx e=>hd x (AG _ e)) b
theorem APM {a:Nat}(i:a<=999999999999):Lib.atoiAll (Lib.decDigits a)= .ok (a:Int):=by
 obtain⟨b,d⟩:=Y9 a;cases e:Lib.decDigits a with
 |nil=>
  have:=congrArg List.length e;rw[Lib.decDigits_length] at this;have:=Lib.nDigits_pos a;simp at *;omega
 |cons c j=>
  rw[e] at b d;have o:=b c (by simp);have f:=zx (c::j) 0 b (by rw[d];exact i);rw[d] at f;unfold Lib.atoiAll;simp only[];have l: ¬(c.toNat=43\/c.toNat=45):=by omega
  have n: ¬c.toNat=45:=by omega
  rw[if_neg l];unfold Lib.parseMag;rw[if_neg (by simp),f];simp only[n,not_false_eq_true,true_and,false_and,if_false];rw[if_neg (by omega)]
theorem AQn {A:aq}{h:aa}{a:Nat}{R:A2P}(f:a<=999999999999)(d: ∀e,Ext h e->R (J1 #[J6 J9 (a:Int),.nilIface]) e):AA A P Ub #[J7 (AX (Lib.decDigits a))] h R:=by
 intro m;have i:(Lib.decDigits a).length<=20:=by rw[Lib.decDigits_length];exact Lib.nDigits_le20 a (by omega)
 refine Calls.mono (Proofs.Any.strconv_Atoi_ok Proofs.Tryz.gE (AX (Lib.decDigits a)) (by rw[AP];omega) (a:Int) (by rw[show(AX (Lib.decDigits a)).data.toList=Lib.decDigits a from Be _];exact APM f) (A.at h m)) ?_;rintro j l ⟨rfl,c|⟨t,c⟩⟩
 ·subst c;exact⟨_,rfl,h,m,rfl,d h Mod.refl⟩
 ·subst c;refine⟨_,rfl,_,_,rfl,d _ ?_⟩;refine⟨?_,λb n _=>?_⟩
  ·simp[Lib.bytesWorld,World.freeze,World.alloc,World.drew,aq.at]
  ·simp[Lib.bytesWorld,World.freeze,World.alloc,World.drew,aq.at,GF,Array.getElem?_push];rw[if_neg (by omega),if_neg (by omega)]
theorem AIU {A:aq}{h:aa}{s:Sl}{l:List Int}{v:Int}{R:A2P}(d:View IJ h s l)(t:l.length<=1000000)(n:R (J3 (decide (v∈l))) h):AA A P Eg #[J4 s.p s.len s.cap,J6 J9 v] h R:=by
 refine Le ?_;unfold Gs;refine NL ?_;unfold Ij;refine Loop.rule (λo x p=> ∃i:Nat,x=((i:Int),())/\o=l.length-i/\i<=l.length/\p=h/\v∉l.take i) ?_ ⟨0,rfl,rfl,As _,rfl,by simp⟩;rintro K o _ _ ⟨i,rfl,rfl,u,rfl,e⟩ r;dsimp only;rw[d.len];refine af.intro (λf=>?_) (λf=>?_)
 ·have b:i<l.length:=by have:=of_decide_eq_true f;omega
  have ag:l[i]? =some l[i]:=A2 b;rw[<- d.len];refine d.idx ag λa _ c=>AC.mk c.int ?_
  refine af.intro (λq=>?_) (λq=>?_)
  ·have j:v=l[i]:=by simpa using q
   refine⟨_,rfl,?_⟩;rw[decide_eq_true (show((i:Int)>=0) by omega)];rwa [decide_eq_true (show v∈l by rw[j];exact Bm b)] at n
  ·have j:v≠l[i]:=by simpa using q
   rw[Aa (by omega)];refine r (l.length-(i+1)) _ _ (by omega) ⟨i+1,rfl,rfl,b,rfl,?_⟩;rw[Ax,ag];simp only[Ds,HT,HM,not_or];exact⟨e,j⟩
 ·have b:i=l.length:=by have:=of_decide_eq_false f;omega
  subst b;rw[BE] at e;refine⟨_,rfl,?_⟩;rwa [decide_eq_false e] at n
section
variable {A : aq} {g h : aa} {q : Hp} {k : Nat -> Nat} {st : Db} {m : Bx} {D : Bt} {R : A2P}
theorem AJZ(b:bM g h q k st m)(d:Nat):LY k d q.tp q.np (λ_=>False)=k:=by
 funext c;unfold LY;by_cases a:k c=0
 ·rw[if_neg (by simp[a]),if_neg (λh=>by have:=b.kt c h;rw[a] at this;cases this),if_neg (λh=>by have:=b.kx c h;rw[a] at this;cases this),if_neg (λh=>h),a]
 ·rw[if_pos a]
theorem bM.jJ {h':aa}{next:Nat}(b:bM g h q k st m)(a:h'[q.d]? =some (J2 (eB q {st with next:=next} false) FH (0,0)))(x:Mod (· =q.d) h h'):bM g h' q k {st with next:=next} m:=by have R:=b.rest (C:=λc=>c=1) (h':=h') (x.aj λc _ a=>by rw[a];exact b.kd) (by decide);have:=b.eX (h':=h') (tp:=q.tp) (np:=q.np) (ps:=q.ps) (ts:=st.ts) (next:=next) (aV:=st.aV) (S:=λ_=>False) a (x.aj λc _ a=> .inl a) (R.ck (by decide)) (R.names (by decide)) b.da (λc a=> .inl a) (λc a=> .inl a) (λc h=>h.elim) (λi t p d e=> .inl ⟨i,d,e⟩);rw[AJZ b] at this;exact this
theorem AQ9 {m:Bx}{x:A2Q}:ff m x≠none↔x∈m.files.map (·.name):=by rw[<- yD (k:=x),VL];cases ff m x<;>simp
theorem APh {s:A2Q}(h:(dt s 0 != (116:Int))=false)(l:2<=s.size):(bl s).head? =some 116:=by
 have d:bl s=s.data.toList:=rfl;have a:=A7 s;cases b:bl s with
 |nil=>rw[b] at a;simp at a;omega
 |cons c n=>
  have e:dt s 0=116:=by simpa using h
  have f:s.data.toList[0]? =some c:=by rw[<- d,b];rfl
  have o:(c.toNat:Int)=116:=by have:=Nu (i:=0) f;rw[<- e];exact this.symm
  have j:c.toNat=116:=by omega
  have:c=116:=by apply UInt8.toNat_inj.1;rw[j];rfl
  rw[this];rfl
theorem AOH {N:Nat}(a2:bY g)(E:bM g h q k st m)(hd:m.down=false)(aC:BJ (ff m) D)(a3:(Ao D).names=st.ts.map (·.1))(bB:N<=99999999)(a4: ∀b,ff m (aX b)≠none->b<N)(a5:st.next<=N)(bC:st.ts.length<=100000)(a6:m.files.length<=8000000000000)
  (a7:m.fuel≠ -1-> ∀h' S' n,Cu h' q.b S' n->n.down=true->Mod (λc=>k c≠0) h h'->(∀ c,S' c->k c≠0\/h.size<=c)->BJ (ff n) D->(∀ e,(∀ b,e≠aX b)->ff n e=ff m e)->(∀ b,ff n (aX b)≠none->ff m (aX b)≠none)->bg n.files<=bg m.files->R (J6 J9 30) h')
  (a8: ∀h' S' aE n ac,bM g h' {q with Sb:=S'} aE {st with next:=ac} n->JO m n->BJ (ff n) D->(∀ e,(∀ b,e≠aX b)->ff n e=ff m e)->(∀ b,ff n (aX b)≠none->b∈st.ts.map (·.1))->st.next<=ac->ac<=N->bg n.files<=bg m.files->
   Mod (λc=>k c≠0) h h'->(∀ c,aE c≠0->k c≠0\/h.size<=c)->R (J6 J9 0) h'):AA A P Ot #[Ar q.d] h R:=by
 refine AA7 ?_;unfold Tx;refine aD (AY.mk (AO E.cell rfl) ?_);refine vZ E.box λad r ah S a9=>⟨ad,_,rfl,?_⟩
 have ba:kg m=(m.files.map (·.name),0):=by unfold kg;rw[if_neg (by simp[hd])]
 rw[ba] at ah ⊢;refine af.no rfl ?_;dsimp only at ah;have bb:=yE E.box.aS;have aj:=λx=>AQ9 (m:=m) (x:=x)
 have bD:(m.files.map (·.name)).length<=8000000000000:=by simpa using a6
 generalize m.files.map (·.name)=d at*
 have bc:=E.on S;have bE:=S.size;have v1:=ah.view;refine Loop.rule (λaF x u=> ∃(i:Nat) (H:Nat->Prop) (v:Nat->Nat) (l:Bx) (next:Nat),x=((i:Int),())/\aF=d.length-i/\i<=d.length/\bM g u {q with Sb:=H} v {st with next:=next} l/\JO m l/\BJ (ff l) D/\(∀ e,(∀ b,e≠aX b)->ff l e=ff m e)/\(∀ e,e∉d.take i->ff l e=ff m e)/\
   (∀ b,aX b∈d.take i->b∉st.ts.map (·.1)->ff l (aX b)=none)/\(∀ b,ff l (aX b)≠none->ff m (aX b)≠none)/\st.next<=next/\next<=N/\bg l.files<=bg m.files/\Mod (λc=>k c≠0) r u/\Grow k v r.size) ?_
  ⟨0,q.Sb,k,m,st.next,rfl,rfl,As _,bc,JO.refl hd,aC,λ_ _=>rfl,λ_ _=>rfl,by simp,λ_ h=>h,A0 _,a5,A0 _,Mod.refl,Grow.refl⟩
 rintro K aF _ u ⟨i,H,v,l,next,rfl,rfl,bF,I,J,T,U,aN,V,sub,aG,aH,W,L,M⟩ aI;dsimp only;have bG:=L.size;have aJ: ∀c,v c≠0->k c≠0\/h.size<=c:=λc f=>by
  by_cases ak:c<r.size
  ·rw[M c ak] at f;exact .inl f
  ·exact .inr (by omega)
 have bd: ∀c,ad.ah=some c->k c=0:=λc f=>Decidable.byContradiction λh=>by
  have:=(E.own c h).2;have:=a9 c f;omega
 have be:View Fs u ad d:=v1.mod L λc f al=>al (bd c f)
 rw[v1.len];refine af.intro (λam=>?_) (λam=>?_)
 ·have B:i<d.length:=by have:=of_decide_eq_true am;omega
  have ag:d[i]? =some d[i]:=A2 B;have aK:d[i]∈d:=Bm B;have X:d.take (i+1)=d.take i++ [d[i]]:=by rw[Ax,ag];rfl
  have bf:d[i]∉d.take i:=λt=>by
   obtain⟨j,bh,o⟩:=DA t;have bH:j<i:=by have:=bh;simp at this;omega
   rw[List.getElem_take] at o;have:=(LO (h₀:=by omega) (h₁:=B) bb).1 o;omega
  rw[Aa (by omega)];refine ai.mk λbi aL=>?_
  rw[<- v1.len];refine be.idx ag λa _ c=>AJ.mk c.str ?_
  have skip: ∀O Y,bM g O {q with Sb:=H} Y {st with next:=next} l->Mod (λc=>k c≠0) r O->Grow k Y r.size->(∀ b,d[i]=aX b->b∈st.ts.map (·.1))->bi () O:=λO Y Z an bj ao=>aL _ _ (by
   refine aI (d.length-(i+1)) _ _ (by omega) ⟨i+1,H,Y,l,next,rfl,rfl,B,Z,J,T,U,λe w=>aN e λt=>w (by rw[X];exact List.mem_append.2 (.inl t)),λb y aa=>?_,sub,aG,aH,W,an,bj⟩;rw[X] at y;rcases List.mem_append.1 y with y|y
   ·exact V b y aa
   ·exact absurd (ao b (List.mem_singleton.1 y).symm) aa)
  refine ai.mk λbk aM=>?_
  have aO:(∀ b,d[i]≠aX b)->bk (true,()) u:=λao=>aM _ _ (af.yes rfl (skip u v I L M λb o=>absurd o (ao b)))
  have bm: ∀b,2<=(aX b).size:=λb=>by
   have r:=A7 (aX b);rw[XH] at r;have ap:=Lib.nDigits_pos b;have F:=Lib.decDigits_length b;rw[A5] at r;omega
  refine af.intro (λaq=>?_) (λaq=>?_)
  ·have ap:=of_decide_eq_true aq;exact aO λb o=>by have:=bm b;rw[<- o] at this;omega
  ·have ap:2<=d[i].size:=by have:=of_decide_eq_false aq;omega
   refine⟨⟨GP _,by omega⟩,?_⟩;cases ar:(dt d[i] 0 != (116:Int)) with
   |true=>
    refine aO λb o=>?_
    have:dt d[i] 0=116:=by
     rw[o];have:=Nu (s:=aX b) (i:=0) (c:=116) (by
      have F:=XH b;show(bl (aX b))[0]? =_;rw[F];rfl)
     exact this
    rw[this] at ar;cases ar
   |false=>
    obtain⟨b,z⟩:=aC.dA d[i] ((aj _).2 aK) (APh ar ap);have aP:ff m (aX b)≠none:=by rw[<- z];exact(aj _).2 aK
    have bI:=a4 b aP;refine aM _ _ (af.no rfl ⟨⟨by omega,by omega⟩,?_⟩);have bn:d[i].extract ((1:Int).toNat) d[i].size=AX (Lib.decDigits b):=by rw[show(1:Int).toNat=1 from rfl,rk,z];have:(aX b).data.toList=116::Lib.decDigits b:=XH b;rw[this];rfl
    rw[bn];refine AQn (by omega) λO au=>⟨_,_,rfl,?_⟩
    have Z:=I.on au;have an:=L.trans (Ext.mod au);refine ai.mk λbK aQ=>⟨trivial,af.yes rfl ?_⟩
    refine QU (Z.ib a2) (by omega) λaR av=>⟨_,rfl,?_⟩
    have G:=Z.on av;have aS:=an.trans (Ext.mod av);have bo:bO (aX b) d[i]=true:=by rw[z,CU];exact decide_eq_true rfl
    rw[bo];refine af.yes rfl (aD (AZ.mk (s:=q.np) (AB G.cell rfl) ?_));refine AIU G.names.view (by simp[eE];omega) ⟨_,rfl,?_⟩;have aT:((b:Int)∈eE ({st with next:=next}:Db))↔b∈st.ts.map (·.1):=by
     simp only[eE,List.mem_map];constructor
     ·rintro⟨p,aw,o⟩;exact⟨p,aw,by omega⟩
     ·rintro⟨p,aw,o⟩;exact⟨p,aw,by omega⟩
    by_cases t:b∈st.ts.map (·.1)
    ·rw[decide_eq_true (aT.2 t)];exact aQ _ _ (af.no rfl (skip aR v G aS M λab o=>by rw[z] at o;rw[<- JQ o];exact t))
    rw[decide_eq_false λh=>t (aT.1 h)];refine aQ _ _ (af.yes rfl ?_);refine aD (AY.mk (AO G.cell rfl) ?_);have bp:(ff l (aX b)).isSome=true:=by
     rw[aN (aX b) (by rw[<- z];exact bf)];cases bq:ff m (aX b) with
     |none=>exact absurd bq aP
     |some p=>rfl
    rw[z];refine XG G.box λaU ax ay aV aW=>⟨_,rfl,?_⟩
    have aY:Mod (λc=>k c≠0) r aU:=aS.then (aV.aj λc _ f=>by
     have aZ:v c≠0:=by rw[I.kb c f];decide
     by_cases ak:c<r.size
     ·rw[M c ak] at aZ;exact .inl aZ
     ·exact .inr (by omega))
    have bL:=(au.trans av).size;rcases RF (k:=aX b) J.up bp with⟨br,az⟩|⟨az,bs,Q⟩
    ·rw[az] at ay ⊢;refine af.yes rfl ?_;refine a7 (λu=>by have:=J.calm u;rw[br] at this;cases this) aU ax (NP l) ay rfl ((Ext.mod S).trans aY) (λc f=>?_) T U sub W;exact aJ c (by
      have:=I.kb c (aW c f);rw[this];decide)
    ·rw[az];refine af.no rfl ?_;have aA:=G.boxed (j:=2) (bJ:= {st with next:=next}) ay (aV.aj λc _ f=> .inl f) (λc f=> .inl (aW c f)) rfl rfl rfl rfl (.inl ⟨by decide,rfl,rfl⟩) (.inl ⟨by decide,rfl⟩);refine aD (AC.mk (AB aA.cell rfl) ?_);have bt:J8 J9 ((b:Int)+(1:Int))=((b+1:Nat):Int):=Aa (by omega);rw[bt];have bu:(if(((b+1:Nat):Int):Int)>((next:Nat):Int) then((b+1:Nat):Int) else((next:Nat):Int))=((max (b+1) next:Nat):Int):=by split<;>omega
     refine aD (ae.dr aA.cell (by simp) λbv a0 a1 bN=>?_);rw[bu] at a0;have bw:=aA.jJ (h':=bv) (next:=max (b+1) next) (by simpa [eB] using a0) a1;have bx:Grow k (Ld v aR.size ax 2) r.size:=λc f=>by rw[GM (by omega)];exact M c f
     have bz:=Zd (m:=l) (aX b);refine aL _ _ ?_;refine aI (d.length-(i+1)) _ _ (by omega) ⟨i+1,ax,_,_,max (b+1) next,rfl,rfl,B,bw,J.trans bs,?_,λe w=>?_,λe w=>?_,λab C aa=>?_,λab C=>?_,by omega,by omega,AE bz W,?_,bx⟩
     ·refine T.fX λx bA=>?_
      rw[Q,if_neg (bA b (by rw[a3];exact t))]
     ·rw[Q,if_neg (w b)];exact U e w
     ·rw[X] at w;simp only[HT,HM,not_or] at w;rw[Q,if_neg (by rw[<- z];exact w.2)];exact aN e w.1
     ·rw[Q];split
      ·rfl
      ·rename_i al;rw[X] at C;rcases List.mem_append.1 C with F|F
       ·exact V ab F aa
       ·exact absurd ((List.mem_singleton.1 F).trans z) al
     ·rw[Q] at C;split at C
      ·exact absurd rfl C
      ·exact sub ab C
     ·refine aY.trans (a1.aj λc _ f=>?_);have:c=q.d:=f;rw[this,E.kd];decide
 ·have B:i=d.length:=by have:=of_decide_eq_false am;omega
  subst B;rw[BE] at aN V;refine a8 u H v l next I J T U (λb y=>?_) aG aH W ((Ext.mod S).trans L) aJ
  by_cases t:b∈st.ts.map (·.1)
  ·exact t
  ·exact absurd (V b ((aj _).1 (sub b y)) t) y
end
theorem AN9 {f:Type}{c:Nat->List f}{l:List Nat}{d:Nat}(g:l.Pairwise (· < ·))(h: ∀a∈l,a<d)(i: ∀a,a<d->a∉l->c a= []):(List.range d).flatMap c=l.flatMap c:=by
 have j:l=(List.range d).filter λa=>decide (a∈l):=by
  refine wz g (List.pairwise_lt_range.sublist Gk) λa=>?_
  simp only[List.mem_filter,LI,decide_eq_true_eq];exact⟨λb=>⟨h a b,b⟩,λb=>b.2⟩
 have key: ∀L:List Nat,(∀ a∈L,a<d)->L.flatMap c=(L.filter λa=>decide (a∈l)).flatMap c:=by
  intro L
  induction L with
  |nil=>intro _;rfl
  |cons a L k=>
   intro e;rw[AH,AT,k λm n=>e m (AG _ n)];by_cases b:a∈l
   ·rw[if_pos (by simpa using b),AH]
   ·rw[if_neg (by simpa using b),i a (e a (by simp)) b,CT]
 rw[key _ λa o=>List.mem_range.1 o,<-j]
theorem AO1 {l:List Nat}(e:l.Pairwise (· < ·)){a:Nat}(d:a∈l):a<=l.getLast?.getD 0:=by
 cases b:l.getLast? with
 |none=>
  rw[List.getLast?_eq_none_iff] at b;subst b;cases d
 |some x=>
  show a<=x;obtain⟨f,rfl⟩:=List.getLast?_eq_some_iff.1 b;rcases List.mem_append.1 d with c|c
  ·exact Nat.le_of_lt ((List.pairwise_append.1 e).2.2 a c x (by simp))
  ·rw[List.mem_singleton.1 c];exact A0 _
theorem Xx {m:Bx}{b:A2Q}{e:Nat}{g:Nat->List (List UInt8)}{l:List Nat}(hd:m.down=false)(n:gy (ff m) b e g)(j:mE b m l)(y:1<=e/\e<=99999999):
  Sr b m l=((List.range e).flatMap g).map AX/\l.getLast?.getD 0+1<=e/\(∀ a,l.getLast?.getD 0+1<=a->a<=99999999->ff m (aC b a)=none):=by
 have o: ∀a,1<=a->a<=99999999->(a∈l↔ff m (aC b a)≠none):=λa h c=>by
  rw[j.mem,VL];constructor
  ·rintro⟨_,_,d⟩ r;rw[r] at d;cases d
  ·intro d;refine⟨h,c,?_⟩;cases i:ff m (aC b a) with
   |none=>exact absurd i d
   |some p=>rfl
 have q: ∀a∈l,a<e:=λa f=>by
  obtain⟨h,c,_⟩:=(j.mem a).1 f;have k:=(o a h c).1 f;exact Decidable.byContradiction λd=>k (n.out a (by omega) c)
 have k:Sr b m l=l.flatMap λa=>(g a).map AX:=AQw hd λa f=>by
  obtain⟨h,c,_⟩:=(j.mem a).1 f;have k:=(o a h c).1 f;cases i:ff m (aC b a) with
  |none=>exact absurd i k
  |some p=>
   obtain⟨s,t⟩:=n.has a p h c i;refine⟨p,rfl,?_⟩;rw[s,YV,Bk];have:(g a).map (bl∘AX)=g a:=by
    conv=>rhs;rw[<- KB (g a)]
    exact CC λx _=>EO x
   rw[this];exact t
 refine⟨?_,?_,λa f c=>?_⟩
 ·rw[k,Lq];refine(AN9 j.inc q λa f u=>?_).symm;by_cases v:a=0
  ·rw[n.ly a (.inl v)];rfl
  ·have i:ff m (aC b a)=none:=Decidable.byContradiction λd=>u ((o a (by omega) (by omega)).2 d)
   rw[n.iw a (by omega) (by omega) i];rfl
 ·cases w:l.getLast? with
  |none=>show 0+1<=e;omega
  |some x=>
   have:=q x (T4 w);show x+1<=e;omega
 ·exact Decidable.byContradiction λd=>by
   have:=AO1 j.inc ((o a (by omega) c).2 d);omega
open Classical in
noncomputable def kM (Sb:Nat->Prop) (a nt ft b d:Nat) (tp np:Sl) (e T:Nat->Prop):Nat->Nat:=λc=>
 if Sb c then 2 else if c<a then 0 else if c=nt then 4 else if c=ft then 5 else if c=b then 1 else if c=d then 3 else if tp.ah=some c then 6 else if np.ah=some c then 7 else if e c then 5 else if T c then 8 else 0
theorem zy {Sb:Nat->Prop}{d nt ft e f:Nat}{tp np:Sl}{g T:Nat->Prop}{c:Nat}(h:kM Sb d nt ft e f tp np g T c≠0):Sb c\/(d<=c/\(c=nt\/c=ft\/c=e\/c=f\/tp.ah=some c\/np.ah=some c\/g c\/T c)):=by
 by_cases a:Sb c
 ·exact .inl a
 by_cases b:c<d
 ·exact absurd (by unfold kM;rw[if_neg a,if_pos b]) h
 refine .inr ⟨by omega,Classical.byContradiction λi=>h ?_⟩;simp only[not_or] at i;obtain⟨j,k,l,m,n,o,p,q⟩:=i;unfold kM;rw[if_neg a,if_neg b,if_neg j,if_neg k,if_neg l,if_neg m,if_neg n,if_neg o,if_neg p,if_neg q]
theorem bM.make {g h:aa}{q:Hp}{st:Db}{m:Bx}{N0 NB NC ND:Nat}(cell:h[q.d]? =some (J2 (eB q st false) FH (0,0)))(n:Cu h q.b q.Sb m)(o:ET h q.lg q.b nl st.aw st.bq)(r:ET h q.nt q.b nn st.aK false)(fresh:M.cU h q.ft q.ns st.fr)
  (s:Own fM BK h q.tp q.ps) (y:q.ps.length=st.ts.length) (names:Own IJ Bq h q.np (eE st)) (ext:Ext g h) (I:g.size<=N0) (u: ∀c,q.Sb c->g.size<=c/\c<N0)
  (J:N0<=q.nt) (K:q.nt<q.ft) (L:q.ft<q.d) (N:q.d<NB) (O:NB<=NC) (P:NC<=q.lg) (Q:q.lg<ND) (k: ∀c,q.np.ah=some c->q.d<c/\c<NB) (l: ∀c,q.tp.ah=some c->NB<=c/\c<NC) (v: ∀c,M.cR q.ft q.ns c->c=q.ft\/ND<=c)
  (z: ∀(i:Nat) (t:Nat) (p:Nat×List Pr),q.ps[i]? =some t->st.ts[i]? =some p-> ∃e f,bR h t p.2 (Mx p.2) e f/\NB<=e/\f<=NC/\(∀ c,q.tp.ah=some c-> ¬(e<=c/\c<f))/\G6 p.2) (R:NC<=h.size):
  ∃w,bM g h q w st m/\ ∀c,w c≠0->q.Sb c\/N0<=c:=by
 let T:Nat->Prop:=λc=>(NB<=c/\c<NC)/\q.tp.ah≠some c
 have d: ∀c,N0<=c-> ¬q.Sb c:=λc b j=>by have:=(u c j).2;omega
 refine⟨kM q.Sb N0 q.nt q.ft q.d q.lg q.tp q.np (M.cR q.ft q.ns) T,⟨cell,n,o,r,fresh,s,y,λi t p A B=>?_,names,?_,λc b=>?_,?_,?_,λc b=>?_,λc b=>?_,λc b=>?_,λc b=>?_,ext⟩,λc b=>?_⟩
 ·obtain⟨e,f,C,S,U,D,E⟩:=z i t p A B;refine⟨e,f,C,by omega,λc F c2=>?_,E⟩;have x:T c:=⟨⟨by omega,by omega⟩,λa=>D c a ⟨F,c2⟩⟩;have G: ¬M.cR q.ft q.ns c:=λH=>by rcases v c H with h|h<;>omega
  unfold kM;rw[if_neg (d c (by omega)),if_neg (by omega),if_neg (by omega),if_neg (by omega),if_neg (by omega),if_neg (by omega),if_neg x.2,if_neg (λa=>by have:=k c a;omega),if_neg G,if_pos x]
 ·unfold kM;rw[if_neg (d _ (by omega)),if_neg (by omega),if_neg (by omega),if_neg (by omega),if_pos rfl]
 ·unfold kM;rw[if_pos b]
 ·unfold kM;rw[if_neg (d _ (by omega)),if_neg (by omega),if_neg (by omega),if_neg (by omega),if_neg (by omega),if_pos rfl]
 ·unfold kM;rw[if_neg (d _ (by omega)),if_neg (by omega),if_pos rfl]
 ·unfold kM;rcases v c b with rfl|h
  ·rw[if_neg (d _ (by omega)),if_neg (by omega),if_neg (by omega),if_pos rfl]
  ·rw[if_neg (d c (by omega)),if_neg (by omega),if_neg (by omega),if_neg (by omega),if_neg (by omega),if_neg (by omega),if_neg (λa=>by have:=l c a;omega),if_neg (λa=>by have:=k c a;omega),if_pos b]
 ·have:=l c b;unfold kM;rw[if_neg (d c (by omega)),if_neg (by omega),if_neg (by omega),if_neg (by omega),if_neg (by omega),if_neg (by omega),if_pos b]
 ·have:=k c b;unfold kM;rw[if_neg (d c (by omega)),if_neg (by omega),if_neg (by omega),if_neg (by omega),if_neg (by omega),if_neg (by omega),if_neg (λa=>by have:=l c a;omega),if_pos b]
 ·rcases zy b with j|⟨V,a|a|a|a|a|a|a|a⟩
  ·exact⟨(u c j).1,n.lt j⟩
  ·exact⟨by omega,by rw[a];exact Ah r⟩
  ·exact⟨by omega,by rw[a];exact fresh.lt (.inl rfl)⟩
  ·exact⟨by omega,by rw[a];exact Ah cell⟩
  ·exact⟨by omega,by rw[a];exact Ah o⟩
  ·exact⟨by omega,s.lt a⟩
  ·exact⟨by omega,names.lt a⟩
  ·exact⟨by omega,fresh.lt a⟩
  ·exact⟨by omega,by have:=a.1.2;omega⟩
 ·exact(zy b).imp id λh=>h.1
def KF(D:Bt):List (Nat×List Pr):=(List.range D.aQ).flatMap λa=>(D.L a).map λb=>(a,b)
def PN(f:Nat)(l:List (Nat×List Pr)):List (List Pr):=(l.filter λp=>decide (f<=p.1)).map (·.2)
theorem Yn(f:Nat)(a b:List (Nat×List Pr)):PN f (a++b)=PN f a++PN f b:=by simp[PN]
theorem zA(D:Bt):PN (Ao D).aV (KF D)=IP D:=by
 unfold KF IP;have key: ∀L:List Nat,PN (Ao D).aV (L.flatMap λa=>(D.L a).map λb=>(a,b))=L.flatMap λa=>if a<(Ao D).aV then [] else D.L a:=by
  intro L
  induction L with
  |nil=>rfl
  |cons a L d=>
   rw[AH,AH,Yn,d];congr 1;unfold PN;rw[P2];split
   ·rename_i h;have:(λb:List Pr=>decide ((Ao D).aV<=((a,b):Nat×List Pr).1))=λ_=>false:=by funext b;simp;omega
    simp[G0];omega
   ·rename_i h;simp[G0];intro b _;omega
 exact key _
theorem AR3 {d:bQ}{D:Bt}(h:BJ d D): ∀p∈KF D,p.1<=99999999/\YR p.2:=λp e=>by
 obtain⟨a,f,i⟩:=List.mem_flatMap.1 e;obtain⟨b,j,rfl⟩:=List.mem_map.1 i;have:=List.mem_range.1 f;have:=h.cE;exact⟨by show a<=_;omega,h.gq a b j⟩
theorem ANq(D:Bt):((List.range D.aQ).flatMap λa=>(D.L a).map (BX a)).map AX=(KF D).map λp=>AX (BX p.1 p.2):=by
 unfold KF;rw[Lq,Lq];unfold List.flatMap;congr 1;refine CC λa _=>?_
 rw[Bk,Bk];rfl
theorem ARg {f:Nat}{l:List (Nat×List Pr)}(i:Nat):(PN f (l.take i)).flatten.length<=(PN f l).flatten.length:=by
 conv=>rhs;rw[<- CN i l,Yn,NO,A1]
 omega
theorem AKO(D:Bt):((List.range D.aW).flatMap λa=>(D.N a).map EF).map AX=(NU D).map λx=>AX (EF x):=by unfold NU;rw[Lq,Lq];unfold List.flatMap;congr 1;exact CC λa _=>by rw[Bk];rfl
theorem View.modn {e:Type}{d:cD e}{h f:aa}{s:Sl}{l:List e}{j:Nat->Prop}(v:View d h s l)(m:Mod j h f)(o: ∀c,s.ah=some c->c<h.size-> ¬j c):View d f s l:=by refine⟨v.len,v.cap,λi x p=>?_⟩;obtain⟨a,k,n⟩:=v.cells i x p;refine⟨a,k,n.mod m ?_⟩;have r:=d.pos;have t:=d.len x;obtain⟨u,q⟩: ∃u,(d.enc x)[0]? =some u:=⟨_,A2 (by omega)⟩;have:=VD (n 0 u q);rw[aU,aU] at this;rw[aU];exact o _ (by simp[Sl.ah,k]) this
section
variable {A : aq} {B : cH} {g h : aa} {b : Nat} {Sb : Nat -> Prop} {m : Bx} {D : Bt} {aI c : Nat} {R : A2P}
theorem AOB(E:bY g)(aG:Cu h b Sb m)(Q:Ext g h)(b9: ∀c,Sb c->g.size<=c)(hd:m.down=false)(ab:BJ (ff m) D)(C:AIG (ff m) D aI c)(d:c<=B.C)(hA:aI+1<=B.A)(bo:bg m.files<=B.W0+aI*B.K)
  (di:m.fuel≠ -1-> ∀ah dj S' aj,Cu ah b S' aj->aj.down=true->Mod Sb h ah->(∀ c,S' c->Sb c\/h.size<=c)->kD (ff aj) (aI+1) c (cA D)->(∀ w,¬dd w->ff aj w=ff m w)->bg aj.files<=B.W0+(aI+1)*B.K->R (J1 #[Ar dj,J6 J9 30]) ah)
  (dk: ∀ah bp ca cb aj dl,bp.b=b->Bz B g ah bp ca cb aj dl (aI+1) c->JO m aj->Cm cb=cA D->(∀ w,¬dd w->ff aj w=ff m w)->Mod Sb h ah->(∀ c,ca c≠0->Sb c\/h.size<=c)->R (J1 #[Ar bp.d,J6 J9 0]) ah):
  AA A P Ry #[Ar b] h R:=by
 have fa:=B.hA;have fb:=B.hC;have cc:=AE bo (B.wt (a:=aI) (by omega));have ax:=ab.cE;have S:=zl ab;have fc:=C.aQ;have fd:=C.aW;have fe:=C.aV;have dm:=C.next;have fg:=C.cn;have ak: ∀c,Sb c->c<h.size:=λc d=>aG.lt d
 refine AIR ?_;unfold uQ;refine yJ (E.ext Q) aG hd (by decide) (by decide) cc (λah l aV dn _=>?_) λj l nt sl aV dn cd ce cf v1 fh=>⟨_,_,_,rfl,af.no rfl ?_⟩
 ·obtain⟨_,dp,_⟩:=Xx hd ab.note aV ax.2.2;omega
 obtain⟨cg,dp,dq⟩:=Xx hd ab.note aV ax.2.2;rw[AKO] at cg;have bq:=rE (nm:=nn) (m:=m) hd aV.inc;rw[cg] at v1 bq;have dr:1<=l.getLast?.getD 0+1:=by omega
 generalize l.getLast?.getD 0+1=aK at*
 refine M.sw λo ds br fi=>⟨_,rfl,al.mk λI _ ch aW fj=>?_⟩
 have ci:=cd.trans br;have cj:=ci.trans aW;have dt:nt<j.size:=Ah cf;have ck:ET I nt b nn aK false:=ET.ext (ET.ext cf br) aW;have cl:M.cU I j.size [] []:=ds.ext aW;have cm:=(v1.ext br).ext aW;have fk:=cd.size;refine ai.mk λK du=>?_
 have bs: ∀(hB:aa) (np:Sl),Ext h hB->hB[o.size]? =some (J2 #[Ar b,J5 none,Ar nt,Ar j.size,J4 none 0 0,J4 np.p np.len np.cap,J6 J9 ((Ao D).next:Int),J6 J9 ((Ao D).aV:Int),J3 false] FH (0,0))->
   Own IJ Bq hB np ((Ao D).names.map λn:Nat=>(n:Int))->(∀ c,np.ah=some c->o.size<c)->ET hB nt b nn aK false->M.cU hB j.size [] []->K () hB:=by
  intro hB np aY aH ap ac dv dw;refine du _ _ ?_;have fl:=aY.size;have fm:=E.ext (Q.trans aY);have dx:o.size<hB.size:=Ah aH;have fn:h.size<=o.size:=ci.size;refine AZ.mk (s:=np) (AB aH rfl) ?_;have cn:np.len=(Ao D).names.length:=by rw[ap.len];simp
  refine Loop.rule (λF x k=> ∃(i:Nat) (tp:Sl) (ps:List Nat),x=((i:Int),())/\F=(Ao D).names.length-i/\i<=(Ao D).names.length/\Mod (λc=>c=o.size\/hB.size<=c) hB k/\
    k[o.size]? =some (J2 #[Ar b,J5 none,Ar nt,Ar j.size,J4 tp.p tp.len tp.cap,J4 np.p np.len np.cap,J6 J9 ((Ao D).next:Int),J6 J9 ((Ao D).aV:Int),J3 false] FH (0,0))/\
    Own fM BK k tp ps/\ps.length=i/\(∀ c,tp.ah=some c->hB.size<=c)/\ ∀(r t n:Nat),ps[r]? =some t->(Ao D).names[r]? =some n-> ∃T U,bR k t (D.T n) (Mx (D.T n)) T U/\hB.size<=T/\U<=k.size/\ ∀c,tp.ah=some c-> ¬(T<=c/\c<U)) ?_
   ⟨0,⟨none,0,0⟩,[],rfl,rfl,As _,Mod.refl,aH,Own.nil,rfl,λc d=>by simp[Sl.ah] at d,λr t n e=>by simp at e⟩
  rintro fo F _ k ⟨i,tp,ps,rfl,rfl,U,J,aq,ao,bt,ar,co⟩ cp;dsimp only;have cq:=J.size;have V:Ext h k:=aY.then (J.aj λc _ d=>by omega);have dy:View IJ k np ((Ao D).names.map λn:Nat=>(n:Int)):=ap.view.mod J λc d e=>by
   have:=ac c d;have:=ap.lt d;omega
  rw[cn];refine af.intro (λu=>?_) (λu=>?_)
  ·have v:i<(Ao D).names.length:=by have:=of_decide_eq_true u;omega
   have ag:(Ao D).names[i]? =some (Ao D).names[i]:=A2 v;have cr:(Ao D).names[i]∈(Ao D).names:=Bm v;have fp:=S.below _ cr;have fq:=S.next;have fr:=S.cn;obtain⟨dz,dA⟩:=ab.cO _ cr;rw[<- cn];refine dy.idx (i:=i) (x:=((Ao D).names[i]:Int)) (by rw[By,ag];rfl) λa _ au=>AC.mk au.int ?_
   generalize (Ao D).names[i]=nm at*
   refine QU (E.ext (Q.trans V)) (by omega) λaZ bu=>⟨_,rfl,?_⟩
   refine pg (aG.ext (V.trans bu)) ⟨_,_,rfl,?_⟩;rw[qT hd,dz];dsimp only;rw[YV];refine af.no rfl ?_;refine z6 dA.eM λa0 t cs dB=>⟨_,_,rfl,af.no rfl ?_⟩
   have a1:=bu.trans cs;have ct:=Am a1 aq;refine AZ.mk (s:=tp) (AB ct rfl) ?_;have fs:=bu.size;have ft:=cs.size;refine al.aY (E:=fM) (x:=t) (s:=tp) (l:=ps) rfl w6 (ao.ext a1) (by omega) (by simp[maxLen];omega) λaJ fu dC aL bv _=>?_
   have dD:=aL.ah ct (λe=>by have:=ar _ e;omega);refine ae.dr dD (by simp) λfv dE a2 fw=>?_
   rw[Aa (by omega)];have cu: ∀c,aJ.ah=some c->hB.size<=c:=λc d=>by
    rcases bv c d with h|h
    ·exact ar c h
    ·omega
   have fx:=aL.size;refine cp ((Ao D).names.length-(i+1)) _ _ (by omega) ⟨i+1,aJ,ps++ [t],rfl,rfl,v,?_,by simpa using dE,dC.mod a2 (λc d e=>by have:=cu c d;omega),by simp[bt],cu,λr t' n ad W=>?_⟩
   ·exact(J.trans (Ext.mod a1)).trans ((aL.aj λc _ d=> .inr (ar c d)).trans (a2.aj λc _ d=> .inl d))
   ·by_cases cv:r<ps.length
    ·rw[GC cv] at ad;obtain⟨T,bw,bx,bz,cw,a3⟩:=co r t' n ad W;refine⟨T,bw,((bx.ext a1).mod aL λc am c2 d=>a3 c d ⟨am,c2⟩).mod a2 (λc am c2 d=>by omega),bz,by omega,λc d cx=>?_⟩;rcases bv c d with h|h
     ·exact a3 c h cx
     ·omega
    ·have dF:r=ps.length:=by have:=(List.getElem?_eq_some_iff.1 ad).1;simp at this;omega
     subst dF;rw[Fc (A0 _)] at ad;simp at ad;subst ad;rw[bt,ag] at W;cases W;refine⟨aZ.size,a0.size,(dB.mod aL λc am c2 d=>by have:=ao.lt d;omega).mod a2 (λc am c2 d=>by omega),by omega,by omega,λc d cx=>?_⟩;rcases bv c d with h|h
     ·have:=ao.lt h;omega
     ·omega
  have v:i=(Ao D).names.length:=by have:=of_decide_eq_false u;omega
  clear cp U u;have dG:ET k nt b nn aK false:=dv.mod J (by omega);have dH:M.cU k j.size [] []:=dw.mod J λc d e=>by
   rcases d with rfl|⟨w,y,_⟩
   ·omega
   ·cases y
  refine yJ (E.ext (Q.trans V)) (aG.ext V) hd (by decide) (by decide) cc (λah bA a4 dI _=>?_) λdJ bA X bB a4 dI ay dK cy cz bC=>⟨_,_,_,rfl,af.no rfl ?_⟩
  ·obtain⟨_,dL,_⟩:=Xx hd ab.log a4 ⟨ax.1,ax.2.1⟩;omega
  obtain⟨cB,dL,dM⟩:=Xx hd ab.log a4 ⟨ax.1,ax.2.1⟩;rw[ANq] at cB;have cC:=rE (nm:=nl) (m:=m) hd a4.inc;rw[cB] at cz cC;have fy:1<=bA.getLast?.getD 0+1:=by omega
  generalize bA.getLast?.getD 0+1=a5 at*
  have dN:=Am ay aq;have fz:X<dJ.size:=Ah cy;refine ae.dr dN (by simp) λaM dO av fA=>?_
  have fB:=ay.size;have fC:o.size<k.size:=Ah aq;have dP:ET aM X b nl a5 false:=ET.mod cy av (by omega);have dQ:Cu aM b Sb m:=((aG.ext V).ext ay).mod av λc d e=>by have:=ak c d;omega
  have dR: ¬Sb X:=λd=>by have:=ak _ d;have:=V.size;omega
  have a6:Ext h aM:=(V.trans ay).then (av.aj λc _ d=> .inr (by omega));have fE:=av.size;refine Loop.rule (λF (_:Unit) Q=> ∃s:Nat,F=(Ao D).aV-s/\ET Q X b nl s false/\Cu Q b Sb m/\Mod (λc=>Sb c\/c=X) aM Q/\a5<=s/\(s=a5\/s<=(Ao D).aV)) ?_ ⟨a5,rfl,dP,dQ,Mod.refl,A0 _,.inl rfl⟩;rintro fF F _ H ⟨s,rfl,bD,cD,Y,fG,fH⟩ cE;have fI:=S.aV;have az:=Y.ah dO (by rintro(h|h);have:=ak _ h;omega;omega);have cF:Ext g H:=(Q.trans a6).then (Y.aj λc _ d=>by
   rcases d with d|rfl
   ·exact .inr (b9 c d)
   ·exact .inr (by have:=Q.size;have:=V.size;omega))
  have dS:bY H:=E.ext cF;refine AY.mk (AB az rfl) (AC.mk (AB az rfl) ?_);refine Oc ?_;unfold LZ;refine af.no rfl (aD (AC.mk (AB bD rfl) ⟨_,rfl,?_⟩));refine⟨AB az rfl,?_⟩;refine af.intro (λbE=>?_) (λbE=>?_)
  ·have bF:=of_decide_eq_true bE;refine AY.mk (AB az rfl) ?_;refine Wv dS bD cD dR (by decide) (by omega) (λbG=>absurd rfl bG) λ_ fJ dT dU dV=>⟨_,_,rfl,af.no rfl ?_⟩
   exact cE ((Ao D).aV-(s+1)) _ _ (by omega) ⟨s+1,rfl,dU,dT,Y.trans dV,by omega,.inr (by omega)⟩
  have dW:(Ao D).aV<=s:=by have:=of_decide_eq_false bE;omega
  clear cE;have fK:=Y.size;have cG:View Fs H bB ((KF D).map λp=>AX (BX p.1 p.2)):=(cz.mod av λc d e=>by have:=(bC c d).1;omega).mod Y λc d e=>by
   have j:=bC c d;rcases e with e|e
   ·have:=ak c e;have:=V.size;omega
   ·exact j.2 e
  have dX: ∀c,bB.ah=some c->k.size<=c:=λc d=>(bC c d).1
  have dY:M.cU H j.size [] []:=((dH.ext ay).mod av λc d e=>by
   rcases d with rfl|⟨w,y,_⟩
   ·omega
   ·cases y).mod Y λc d e=>by
   rcases d with rfl|⟨w,y,_⟩
   ·rcases e with e|e
    ·have:=ak _ e;omega
    ·have:=V.size;omega
   ·cases y
  have cH:bB.len=(KF D).length:=by rw[cG.len];simp
  have dZ:=AR3 ab;have d0:=C.bX;have fL:(PN (Ao D).aV (KF D)).flatten.length<=c:=by rw[zA];have:N8 D=_:=rfl;unfold N8 at d0;omega
  refine Loop.rule (λF aO y=> ∃(i:Nat) (ns:List M.DX),aO=((i:Int),())/\F=(KF D).length-i/\i<=(KF D).length/\Mod (λc=>c=j.size\/H.size<=c) H y/\M.cU y j.size ns (BA [] (PN (Ao D).aV ((KF D).take i)).flatten)/\ ∀c,M.cR j.size ns c->c=j.size\/H.size<=c) ?_
   ⟨0,[],rfl,rfl,As _,Mod.refl,dY,λc d=>by
    rcases d with rfl|⟨w,y,_⟩
    ·exact .inl rfl
    ·cases y⟩
  rintro fO F _ an ⟨i,ns,rfl,rfl,U,L,aP,bH⟩ bI;dsimp only;have fP:=L.size;have d1:=View.modn cG L λc d bF e=>by have:=dX c d;omega
  have cI:=L.ah az (by omega);rw[cH];refine af.intro (λu=>?_) (λu=>?_)
  ·have v:i<(KF D).length:=by have:=of_decide_eq_true u;omega
   have ag:(KF D)[i]? =some (KF D)[i]:=A2 v;obtain⟨cJ,a7⟩:=dZ _ (Bm v);have cK:(KF D).take (i+1)=(KF D).take i++ [(KF D)[i]]:=by rw[Ax,ag];rfl
   have d2:=ARg (f:=(Ao D).aV) (l:=KF D) (i+1);refine ai.mk λfQ bJ=>?_
   rw[<- cH];refine d1.idx (i:=i) (x:=AX (BX (KF D)[i].1 (KF D)[i].2)) (by rw[By,ag];rfl) λa _ au=>AJ.mk au.str ?_
   have d3:J8 J9 ((i:Int)+(1:Int))=((i+1:Nat):Int):=Aa (by rw[AN] at cC;omega);rw[d3] at bJ;generalize (KF D)[i]=d4 at*
   obtain⟨bK,z⟩:=d4;dsimp only at cJ a7 ⊢;refine AJ9 cJ a7.len a7.ok λcL d5 cM aA d6=>⟨_,_,_,rfl,af.no rfl ?_⟩
   have d7:=Am aA cI;refine AC.mk (AB d7 rfl) ?_;refine af.intro (λbL=>?_) (λbL=>?_)
   ·have bF:=of_decide_eq_true bL;refine bJ _ _ (bI ((KF D).length-(i+1)) _ _ (by omega) ⟨i+1,ns,rfl,rfl,v,L.trans (Ext.mod aA),?_,bH⟩);have e:PN (Ao D).aV ((KF D).take (i+1))=PN (Ao D).aV ((KF D).take i):=by
     rw[cK,Yn];have:PN (Ao D).aV [(bK,z)]= []:=by unfold PN;rw[AT,if_neg (by simp;omega)];rfl
     rw[this,AK]
    rw[e];exact aP.ext aA
   ·have d8:(Ao D).aV<=bK:=by have:=of_decide_eq_false bL;omega
    have e:(PN (Ao D).aV ((KF D).take (i+1))).flatten=(PN (Ao D).aV ((KF D).take i)).flatten++z:=by
     rw[cK,Yn];have:PN (Ao D).aV [(bK,z)]= [z]:=by unfold PN;rw[AT,if_pos (by simpa using d8)];rfl
     rw[this];simp
    rw[e,A1] at d2;have fR:=aA.size;refine Loop.rule (λF aO a8=> ∃(r:Nat) (aQ:List M.DX),aO=((r:Int),())/\F=z.length-r/\r<=z.length/\Mod (λc=>c=j.size\/H.size<=c) H a8/\M.cU a8 j.size aQ (BA (BA [] (PN (Ao D).aV ((KF D).take i)).flatten) (z.take r))/\(∀ c,M.cR j.size aQ c->c=j.size\/H.size<=c)/\View BR a8 cL z/\(∀ c,cL.ah=some c-> ¬M.cR j.size aQ c)/\d5.size<=a8.size) ?_
     ⟨0,ns,rfl,rfl,As _,L.trans (Ext.mod aA),aP.ext aA,bH,cM.view,λc d aR=>by have:=d6 c d;have:=aP.lt aR;omega,A0 _⟩
    rintro fS F _ fT ⟨r,aQ,rfl,rfl,cv,a9,bN,bO,ba,cN,fU⟩ d9;dsimp only;have ea:=a9.ah az (by omega);have fV:=a7.len;rw[ba.len];refine af.intro (λu=>?_) (λu=>?_)
    ·have bb:r<z.length:=by have:=of_decide_eq_true u;omega
     have cO:z[r]? =some z[r]:=A2 bb;rw[<- ba.len];refine ba.idx cO λa _ au=>?_
     obtain⟨cP,eb,ec⟩:=au.pair;refine AJ.mk cP (AJ.mk eb (Ac.mk ec (al.pair λfW fX _ bP aS fY=>?_)));have ed:=Am aS ea;refine AY.mk (AB ed rfl) ?_;refine AJ.mk (AO bP rfl) (AJ.mk (AB bP rfl) (Ac.mk (AB bP rfl) ?_));have ee:=M.Qt (l:=(PN (Ao D).aV ((KF D).take i)).flatten) (t:= []);have ef:=M.Qt (l:=z.take r) (t:=BA [] (PN (Ao D).aV ((KF D).take i)).flatten);rw[AD] at ef;simp only[GO,AI] at ee;refine M.sx (x:=z[r]) (bN.ext aS) (by omega) λeg fZ eh bQ cQ=>⟨_,rfl,?_⟩
     rw[Aa (by omega)];have f0:=a9.size;have f1:=aS.size;refine d9 (z.length-(r+1)) _ _ (by omega) ⟨r+1,eg,rfl,rfl,bb,(a9.trans (Ext.mod aS)).trans (bQ.aj λc _ d=>bO c d),by rw[M.sy cO];exact eh,λc d=>?_,(ba.ext aS).mod bQ (λc d aR=>cN c d aR),λc d aR=>?_,by have:=bQ.size;omega⟩
     ·rcases cQ c d with h|h
      ·exact bO c h
      ·exact .inr (by omega)
     ·rcases cQ c aR with h|h
      ·exact cN c d h
      ·have:=cM.lt d;omega
    ·have bb:r=z.length:=by have:=of_decide_eq_false u;omega
     subst bb;rw[BE] at bN;refine bJ _ _ (bI ((KF D).length-(i+1)) _ _ (by omega) ⟨i+1,aQ,rfl,rfl,v,a9,?_,bO⟩);rw[e,zM];exact bN
  have ei:i=(KF D).length:=by have:=of_decide_eq_false u;omega
  subst ei;rw[BE,zA] at aP;clear bI;have bc:Mod (λc=>c=o.size) k aM:=(Ext.mod ay).trans av;have aN: ∀c,hB.size<=c->c<k.size-> ¬(c=o.size)/\ ¬(Sb c\/c=X)/\ ¬(c=j.size\/H.size<=c):=λc am c2=>by
   refine⟨by omega,?_,by omega⟩;rintro(h|h)
   ·have:=ak c h;have:=aY.size;omega
   ·omega
  have bd: ∀c,h.size<=c->c<k.size->c≠o.size->c≠j.size-> ¬(c=o.size)/\ ¬(Sb c\/c=X)/\ ¬(c=j.size\/H.size<=c):=λc am c2 ej c4=>by
   refine⟨ej,?_,by omega⟩;rintro(h|h)
   ·have:=ak c h;omega
   ·omega
  have ek:Own fM BK an tp ps:=((ao.mod bc λc d=>(aN c (ar c d) (ao.lt d)).1).mod Y λc d=>(aN c (ar c d) (ao.lt d)).2.1).mod L λc d=>(aN c (ar c d) (ao.lt d)).2.2
  have O: ∀c,np.ah=some c->h.size<=c/\c<k.size/\c≠o.size/\c≠j.size:=λc d=>by have:=ac c d;have:=ap.lt d;omega
  have el:Own IJ Bq an np ((Ao D).names.map λn:Nat=>(n:Int)):=(((ap.mod J λc d e=>by have:=O c d;have:=ap.lt d;omega).mod bc λc d=>(bd c (O c d).1 (O c d).2.1 (O c d).2.2.1 (O c d).2.2.2).1).mod Y λc d=>(bd c (O c d).1 (O c d).2.1 (O c d).2.2.1 (O c d).2.2.2).2.1).mod L λc d=>(bd c (O c d).1 (O c d).2.1 (O c d).2.2.1 (O c d).2.2.2).2.2
  have bS:=bd nt ce (by omega) (by omega) (by omega);have en:ET an nt b nn aK false:=((dG.mod bc bS.1).mod Y bS.2.1).mod L bS.2.2;have eo:ET an X b nl s false:=bD.mod L (by omega);have ep:Cu an b Sb m:=cD.mod L λc d=>by have:=ak c d;omega
  have eq:Ext g an:=cF.then (L.aj λc _ d=> .inr (by have:=Q.size;omega));have er: ∀(i:Nat) (t:Nat) (p:Nat×List Pr),ps[i]? =some t->((Ao D).names.map λn=>(n,D.T n))[i]? =some p-> ∃T U,bR an t p.2 (Mx p.2) T U/\hB.size<=T/\U<=k.size/\(∀ c,tp.ah=some c-> ¬(T<=c/\c<U))/\G6 p.2:=λcR t p ad W=>by
   rw[By] at W;cases be:(Ao D).names[cR]? with
   |none=>rw[be] at W;cases W
   |some n=>
    rw[be] at W;cases W;obtain⟨T,bw,bx,bz,cw,a3⟩:=co cR t n ad be;refine⟨T,bw,((bx.mod bc λc am c2=>(aN c (by omega) (by omega)).1).mod Y λc am c2=>(aN c (by omega) (by omega)).2.1).mod L λc am c2=>(aN c (by omega) (by omega)).2.2,bz,cw,a3,(ab.cO n (AM be)).2⟩
  have cS:((Ao D).names.map λn=>(n,D.T n)).map (·.1)=(Ao D).names:=by rw[Bk];exact KB _
  obtain⟨cP,es,bf⟩:=bM.make (g:=g) (h:=an) (q:=⟨o.size,b,X,nt,j.size,Sb,ns,tp,np,ps⟩) (st:=⟨Em D,(Ao D).names.map λn=>(n,D.T n),(Ao D).next,(Ao D).aV,s,aK,false⟩) (m:=m) (N0:=h.size) (NB:=hB.size) (NC:=k.size) (ND:=H.size)
   (by simpa [eB] using cI) ep eo en aP ek (by simp[bt,v]) (by unfold eE;rw[Bk];exact el) eq Q.size (λc d=>⟨b9 c d,ak c d⟩)
   ce dt (by show j.size<o.size;omega) dx cq dK (by show X<H.size;omega) (λc d=>⟨ac c d,ap.lt d⟩) (λc d=>⟨ar c d,ao.lt d⟩) bH er (by omega)
  have bT:Mod Sb h an:=by refine⟨by have:=a6.size;omega,λc d Z=>?_⟩;have ad:=a6.get c d (λh=>h);have f2:=a6.size;have W:=Y.get c (by omega) (by rintro(h|h);exact Z h;have:=V.size;omega);have et:=L.get c (by omega) (by omega);exact et.trans (W.trans ad)
  have f3:=bT.size;have cT: ∀n,ff m (aX n)≠none->n<8*aI+8:=C.mX;have f4:=VK m.files;refine AOH (N:=8*aI+8) (q:=⟨o.size,b,X,nt,j.size,Sb,ns,tp,np,ps⟩) E es hd ab cS.symm (by omega) cT dm (by simp;omega) (by omega)
   (λeu bU cU aE ev ew bV ex bW aT ey bX=>⟨_,rfl,?_⟩) λbU cU ez aE aF eA cV bW aT eC cW eD bX bV eF=>⟨_,rfl,?_⟩
  ·refine di eu bU o.size cU aE ev ew (bT.then (bV.aj λc _ d=>bf c d)) (λc d=>?_) (λG cX=>⟨D,bW.dQ cX,?_,rfl⟩) (λw y=>aT w λn=>Qs y n) (AE bX (B.up (BY _) bo))
   ·rcases ex c d with h|h
    ·exact bf c h
    ·exact .inr (by omega)
   ·refine AIG.mono ⟨C.aQ,C.aW,C.next,C.aV,C.cn,C.bX,λn Z=>cT n (ey n (cX.some Z))⟩ (BY _) (A0 _)
  ·have eG: ∀n,ff aE (aC nl n)=ff m (aC nl n):=λn=>aT _ (Lt n)
   have eH: ∀n,ff aE (aC nn n)=ff m (aC nn n):=λn=>aT _ (QZ n)
   have cY:Es (ff aE) ⟨Em D,(Ao D).names.map λn=>(n,D.T n),aF,(Ao D).aV,s,aK,false⟩ D:=
    ⟨bW,cS.symm,λp bZ=>by
     obtain⟨n,_,rfl⟩:=List.mem_map.1 bZ;rfl,rfl,cW,λp bZ=>by
     obtain⟨n,Z,rfl⟩:=List.mem_map.1 bZ;have j:=S.below n Z;have o:(Ao D).next<=aF:=cW;show n<aF;omega,rfl,λn bh b0 _=>by
     have bh:s<=n:=bh;rw[eG];exact dM n (by omega) b0,(λh=>by cases h),λn bh b0=>by rw[eH];exact dq n bh b0,⟨S.aV.1,dW⟩,dr,λn Z=>eC n Z⟩
   have eI:Sv ⟨Em D,(Ao D).names.map λn=>(n,D.T n),aF,(Ao D).aV,s,aK,false⟩ D (aI+1) c:=by have f5:aF<=8*aI+8:=eD;exact⟨by show s<=_;omega,by show aK<=_;omega,by show aF<=_;omega,by show((Ao D).names.map _).length<=_;simp;omega,C.bX,by omega,by omega⟩
   refine dk bU _ ez _ aE D rfl ⟨eA,cV.up,cY,eI,AE bX (B.up (BY _) bo),d⟩ cV cY.map.symm (λw y=>aT w λn=>Qs y n) (bT.then (bV.aj λc _ d=>bf c d)) λc d=>?_
   rcases eF c d with h|h
   ·exact bf c h
   ·exact .inr (by omega)
 have cZ:sl.len=(NU D).length:=by rw[cm.len];simp
 refine af.intro (λu=>?_) (λu=>?_)
 ·have bG:NU D≠ []:=λe=>by
   have:=of_decide_eq_true u;rw[cZ,e] at this;simp at this
  obtain⟨aw,x,bi⟩: ∃aw x,NU D=aw++ [x]:=⟨_,_,(List.dropLast_concat_getLast bG).symm⟩;have bj:Ao D=x:=by unfold Ao;rw[bi,SZ];rfl
  have c0:sl.len=aw.length+1:=by rw[cZ,bi];simp
  have f6:aw.length<=8000000000000:=by rw[bi] at bq;simp at bq;omega
  rw[c0];have eJ:J8 J9 (((aw.length+1:Nat):Int)-(1:Int))=((aw.length:Nat):Int):=by rw[wrap_i64 (by omega) (by omega)];omega
  rw[eJ,<-c0];rw[bj] at S bs;have eK:((NU D).map λx=>AX (EF x))[aw.length]? =some (AX (EF x)):=by rw[bi];simp
  refine cm.idx eK λa _ au=>AJ.mk au.str ?_
  have f7:=S.next;have f8:=S.aV;have f9:=S.cn;have c1:=S.below;have c3:EF x=Bd x.next++(Bd x.aV++(Bd x.names.length++(x.names.flatMap Bd++ []))):=by simp[EF,A3]
  rw[c3];have c5:=zk S;rw[c3] at c5;simp only[A1] at c5;refine Jp λc6 c7 b1=>⟨_,rfl,?_⟩
  have aH:=Am b1 ch;refine DN (most:=2147483647) c7 (by simp only[A1];omega) (by decide) λga c8 eL=>⟨_,rfl,?_⟩
  rw[CP (by omega) (by omega)] at c8 ⊢;refine DN (most:=99999999) c8 (by simp only[A1];omega) (by decide) λaZ c9 eM=>⟨_,rfl,?_⟩
  rw[CP (by omega) (by omega)] at c9 ⊢;have gb:=b1.size;have bk:I.size≠o.size:=by omega
  have da:Mod (· =I.size) c6 aZ:=eL.trans eM;have eN:=da.ah aH (by omega);refine ae.dr eN (by simp) λgc eO eP gd=>ae.dr eO (by simp) λa0 eQ eR ge=>?_
  have db:Mod (· =o.size) aZ a0:=eP.trans eR;have eS:Ia a0 I.size ⟨Bd x.names.length++(x.names.flatMap Bd++ []),false⟩:=db.ah c9 bk;refine DN (most:=65536) eS (by simp only[A1];omega) (by decide) λeT dc de=>⟨_,rfl,?_⟩
  rw[CP (by omega) (by omega)] at dc ⊢;have eU:=de.ah eQ (λe=>bk e.symm);have eV:Mod (λc=>o.size<=c) I eT:=(Ext.mod b1).trans (((da.aj λc _ d=>by omega).trans (db.aj λc _ d=>by omega)).trans (de.aj λc _ d=>by omega));refine Loop.rule (λF aO k=> ∃(i:Nat) (np:Sl),aO=((i:Int),())/\F=x.names.length-i/\i<=x.names.length/\Mod (λc=>o.size<=c) I k/\Ia k I.size ⟨(x.names.drop i).flatMap Bd++ [],false⟩/\Own IJ Bq k np ((x.names.take i).map λn:Nat=>(n:Int))/\(∀ c,np.ah=some c->I.size<c)/\
    k[o.size]? =some (J2 #[Ar b,J5 none,Ar nt,Ar j.size,J4 none 0 0,J4 np.p np.len np.cap,J6 J9 (x.next:Int),J6 J9 (x.aV:Int),J3 false] FH (0,0))) ?_
   ⟨0,⟨none,0,0⟩,rfl,rfl,As _,eV,dc,Own.nil,λc d=>by simp[Sl.ah] at d,by simpa using eU⟩
  rintro gf F _ k ⟨i,np,rfl,rfl,U,J,bm,b2,ac,aq⟩ eW;have cq:=J.size;dsimp only;refine af.intro (λu=>?_) (λu=>?_)
  ·have v:i<x.names.length:=by have:=of_decide_eq_true u;omega
   have ag:x.names[i]? =some x.names[i]:=A2 v;have eX:x.names.drop i=x.names[i]::x.names.drop (i+1):=DH v;have gg:=c1 _ (Bm v);refine AZ.mk (s:=np) (AB aq rfl) ?_;rw[eX,AH,A3] at bm;have gh:((x.names.drop (i+1)).flatMap Bd).length<=600000:=by
    have:=Uu (l:=x.names.drop (i+1)) λn Z=>by have:=c1 n (I0 Z);omega
    have e:=DE (l:=x.names) (i:=i+1);omega
   have gi:=AV (n:=x.names[i]) (by omega);refine DN (most:=2147483647) bm (by simp only[A1,GO];omega) (by decide) λb3 df bn=>⟨_,rfl,?_⟩
   rw[CP (by omega) (by omega)] at df ⊢;have b4:=bn.ah aq (λe=>bk e.symm);refine⟨AB b4 rfl,al.mk λeY _ eZ aU gj=>⟨AB (Am aU b4) rfl,?_⟩⟩;have e0:Own IJ Bq b3 np ((x.names.take i).map λn:Nat=>(n:Int)):=b2.mod bn λc d e=>by have:=ac c d;omega
   have e1:=e0.ext aU;have src:View IJ eY ⟨some ⟨b3.size,0,none⟩,1,1⟩ [(x.names[i]:Int)]:=(Own.lit (E:=IJ) (l:= [(x.names[i]:Int)]) eZ rfl (by simp[maxLen])).view;refine Fz (s:=np) (src:=⟨some ⟨b3.size,0,none⟩,1,1⟩) rC e1 src (by simp;omega) (by simp[maxLen];omega) λaJ gk e2 b5 e3 _=>?_
   have e4:=b5.ah (Am aU b4) (λe=>by have:=ac _ e;omega);refine ae.dr e4 (by simp) λgl e5 b6 gm=>?_
   rw[Aa (by omega)];have gn:=bn.size;have dg: ∀c,aJ.ah=some c->I.size<c:=λc d=>by
    rcases e3 c d with h|h
    ·exact ac c h
    ·omega
   have go:I.size<c6.size:=Ah c7;refine eW (x.names.length-(i+1)) _ _ (by omega) ⟨i+1,aJ,rfl,rfl,v,?_,?_,?_,dg,by simpa using e5⟩
   ·exact J.trans ((((bn.aj λc _ d=>by omega).trans (Ext.mod aU)).trans (b5.aj λc _ d=>by have:=ac c d;omega)).trans (b6.aj λc _ d=>by omega))
   ·have e6:=aU.ah df (λh=>h);have e7:=b5.ah e6 (λe=>by have:=ac _ e;omega);exact b6.ah e7 bk
   ·rw[Ax,ag];simp only[Ds,AW,B9,Mu];exact e2.mod b6 λc d e=>by have:=dg c d;omega
  ·have v:i=x.names.length:=by have:=of_decide_eq_false u;omega
   subst v;rw[BE] at b2;rw[IT] at bm;refine MQ bm ⟨_,rfl,?_⟩;have e8:Ya ⟨([]:List Nat).flatMap Bd++ [],false⟩=true:=rfl;rw[e8];refine af.no rfl ?_;have e9: ∀ {b7:Nat} {dh:Obj},I[b7]? =some dh->b7<o.size->k[b7]? =some dh:=λe bF=>J.ah e (by omega)
   refine bs k np ⟨by omega,λc d Z=>?_⟩ aq b2 (λc d=>by have:=ac c d;omega) (e9 ck (by omega)) (cl.mod J λc d e=>?_)
   ·have b8:=cj.get c d Z;rw[<- b8];exact J.get c (by omega) (by omega)
   ·rcases d with rfl|⟨w,y,_⟩
    ·omega
    ·cases y
 ·have b8:NU D= []:=by have:=of_decide_eq_false u;exact CH (by omega)
  have bj:Ao D=⟨1,1,[]⟩:=by unfold Ao;rw[b8];rfl
  refine bs I ⟨none,0,0⟩ cj (by rw[bj];exact ch) (by rw[bj];exact Own.nil) (λc d=>by simp[Sl.ah] at d) ck cl
end
open M (Sorted Af CY BA Ag Au BV Ai bB BH aP BF)
theorem zB(key:A2Q): ∀ {l:List Pr},Sorted l->(BF key l=true-> ∃p,l[aP key l]? =some p/\Af key l=some p)/\(BF key l=false->Af key l=none)
 | [],_=>⟨(λh=>by cases h),λ_=>rfl⟩
 |x::l,s=>by
  have d:=List.pairwise_cons.1 s;have e:=zB key d.2;rw[zE,UL,M.BD];by_cases h:aM x.key key=true
  ·rw[if_pos h,if_pos h,if_neg (M.Lj h)];exact⟨λb=>by obtain⟨p,f,i⟩:=e.1 b;exact⟨p,by simpa using f,i⟩,e.2⟩
  ·rw[if_neg h,if_neg h];by_cases a:x.key=key
   ·rw[if_pos a];exact⟨λ_=>⟨x,rfl,rfl⟩,λj=>by simp[a] at j⟩
   ·rw[if_neg a];refine⟨λb=>by simp[a] at b,λ_=>M.EJ λn o r=>h ?_⟩;have:=d.1 n o;rwa [r] at this
section
variable {A : aq} {B : cH} {g h : aa} {q : Hp} {k : Nat -> Nat} {st : Db} {m : Bx} {D : Bt} {aI c : Nat} {R : A2P}
theorem Bz.dj(a:Bz B g h q k st m D aI c):st.fr.length<=1000000/\st.ts.length<=100000/\(Ag (st.fr::aF st)).length<=1099511627776/\(Cm st).length<=100000:=by have d:=a.eZ.dj a.lim;have e:=a.eZ.jK a.lim;have f:=a.hc;have i:=B.hC;have b:=a.eZ.lC.cn;rw[a.eZ.iG] at b;have j:(Cm st).length<=(Ag (st.fr::aF st)).length:=rL _;omega
theorem Bz.sorted(a:Bz B g h q k st m D aI c):Sorted (Cm st):=Ew _ _
end
def D0:Bt:=⟨λ_=> [],λ_=> [],λ_=> [],1,1⟩
theorem ATm:Ao D0=⟨1,1,[]⟩:=rfl
theorem ATb {e:bQ}(i: ∀a,e (aC nl a)=none)(d: ∀a,e (aC nn a)=none)(j: ∀x,e x≠none->(bl x).head? ≠some 116):BJ e D0/\AIG e D0 0 0/\cA D0= []:=by
 refine⟨⟨⟨λa p _ _ h=>?_,λ_ _ _ _=>rfl,λa _ _=>i a,λ_ _=>rfl⟩,⟨λa p _ _ h=>?_,λ_ _ _ _=>rfl,λa _ _=>d a,λ_ _=>rfl⟩,λa d=>?_,λa b l=>?_,λa x f=>?_,λx f hd=>absurd hd (j x f),by decide⟩,⟨by decide,by decide,by decide,by decide,by decide,by decide,λa d=>?_⟩,rfl⟩
 ·rw[i a] at h;cases h
 ·rw[d a] at h;cases h
 ·rw[ATm] at d;cases d
 ·cases l
 ·cases f
 ·exact absurd (rI a) (j _ d)
section
variable {A : aq} {B : cH} {g h : aa} {q : Hp} {k : Nat -> Nat} {st : Db} {m : Bx} {D : Bt} {aI c : Nat} {R : A2P}
theorem Bz.on {b:aa}(a:Bz B g h q k st m D aI c)(x:Ext h b):Bz B g b q k st m D aI c:=⟨a.mem.on x,a.up,a.eZ,a.lim,a.wt,a.hc⟩
theorem Bz.beside {b:aa}{d:Nat->Prop}(a:Bz B g h q k st m D aI c)(x:Mod d h b)(hX: ∀c,d c->k c=0/\g.size<=c):Bz B g b q k st m D aI c:=⟨a.mem.beside x hX,a.up,a.eZ,a.lim,a.wt,a.hc⟩
theorem Bz.more {b:Nat}(a:Bz B g h q k st m D aI c)(d:c<=b)(e:b<=B.C):Bz B g h q k st m D aI b:=⟨a.mem,a.up,a.eZ,a.lim.mono (A0 _) d,a.wt,e⟩
theorem Bz.free(a:Bz B g h q k st m D aI c){x:Nat}(d:h.size<=x):k x=0:=Decidable.byContradiction λb=>by
 have:=(a.mem.own x b).2;omega
theorem Bz.base(a:Bz B g h q k st m D aI c){x:Nat}(d:x<g.size):k x=0:=Decidable.byContradiction λb=>by
 have:=(a.mem.own x b).1;omega
theorem AOz {b:Nat}{Sb:Nat->Prop}(p:bY g)(r:Cu h b Sb m)(s:Ext g h)(t: ∀c,Sb c->g.size<=c)(hd:m.down=false)(o:m.fuel= -1)(u: ∀j,ff m (aC nl j)=none)(v: ∀j,ff m (aC nn j)=none)(w: ∀x,ff m x≠none->(bl x).head? ≠some 116)(hA:1<=B.A)(N:bg m.files<=B.W0)
  (y: ∀a d f i e l,d.b=b->Bz B g a d f i e l 1 0->e.fuel= -1->Cm i= []->(∀ n,¬dd n->ff e n=ff m n)->Mod Sb h a->(∀ c,f c≠0->Sb c\/h.size<=c)->R (J1 #[Ar d.d,J6 J9 0]) a):AA A P Ry #[Ar b] h R:=by
 obtain⟨z,C,E⟩:=ATb u v w;refine AOB (B:=B) p r s t hd z C (As _) hA (by omega) (λF=>absurd o F) λa d f i e l G H I J K L M=>?_
 exact y a d f i e l G H (I.calm o) (J.trans E) K L M
end
abbrev kb:A2Q:=⟨#[98]⟩
abbrev v1:A2Q:=⟨#[49]⟩
abbrev v2:A2Q:=⟨#[50]⟩
open Go Go.ChangeShapes Go.WideShapes Go.ChangeAt Go.RowKit Go.Proofs.YtgpmoonnachoaaaGreatDoor
def listed:List (String×DataW Unit):=Rows.archiveMovesRow.laid
theorem AM6: ∃(x c a b:String×DataW Unit),listed= [x,c,(oI,Lib.tabData .u64 Lib.pow10Tab),a,b]:=⟨_,_,_,_,rfl⟩
theorem ATd:P.globalNamed oI=some 2:=by kernel_rfl
theorem AS9:(P.globals[2]?).map (·.type)=some Tf:=by kernel_rfl
theorem ATc:P.underlying Tf=some (.array 20 Yt):=by kernel_rfl
theorem ASm:P.underlying Yt=some (.int .u64):=by kernel_rfl
theorem ATp:P.cellsOf Yt=1:=by kernel_rfl
theorem ATx:P.cellsOf Tf=20:=by kernel_rfl
theorem AKl:listed.filter (λx=>x.2.handleName?.isSome)= []:=by kernel_rfl
theorem qG {b:World}(a:laidMetH P listed b):laidMet P listed b:=by unfold laidMetH at a;rw[AKl] at a;exact a
theorem ARi {c:World}(e:laidMetH P listed c):Lib.TabIs P c oI .u64 Lib.pow10Tab:=by have d:=qG e;obtain⟨x,g,a,b,f⟩:=AM6;rw[f] at d;exact Lib.tabIs_of_head (rest:= [a,b]) ATd AS9 ATc ASm ATp ATx (laidMet.tail (laidMet.tail d))
theorem ARk {a:World}(c:laidMetH P listed a):cU a.heap:=λd e=>by
 have b:=ARi c;unfold Lib.TabIs World.var? at b ⊢;exact b
def nS : String := String.ofList [Char.ofNat 42] ++ "errors.errorString"
def vV:String:=Rows.archiveMovesRow.named.getD 1 (String.ofList [])
def vW:String:=Rows.archiveMovesRow.named.getD 0 (String.ofList [])
theorem AS8: ∃(x a z b:String×DataW Unit) (text:List UInt8),listed= [x,a,z,(vV,.iface nS (.ptr (.agg [.lit (.string text)]))),b]:=⟨_,_,_,_,_,rfl⟩
theorem ASM: ∃(x a z b:String×DataW Unit) (text:List UInt8),listed= [x,a,z,b,(vW,.iface nS (.ptr (.agg [.lit (.string text)])))]:=⟨_,_,_,_,_,rfl⟩
theorem ATs:P.globalNamed vV=some 1:=by kernel_rfl
theorem ATS:P.globalNamed vW=some 0:=by kernel_rfl
theorem ASh:(P.globals[1]?).map (·.type)=some nR:=by kernel_rfl
theorem ASJ:(P.globals[0]?).map (·.type)=some nR:=by kernel_rfl
theorem ATq: ∃a,P.underlying nR=some (.interface a):=⟨_,Proofs.Tryz.underlying293⟩
theorem AST(u:Q7)(a:P.typeName? 3 u=some nS):u=EX:=
 typeName_ptr_named (nm := "errors.errorString") (by kernel_rfl) (by kernel_rfl) (by decide) u a
theorem ATZ:P.underlying EX=some (.pointer FC):=by kernel_rfl
theorem AT7: ∃f:Field,P.underlying FC=some (.struct #[f])/\f.type=Az/\f.offset=0:=⟨_,Proofs.Tryz.underlying388,rfl,rfl⟩
theorem AT5:P.cellsOf FC=1:=by kernel_rfl
theorem vX {b:String}{text:List UInt8}{h:List (String×DataW Unit)}{a:World}{g:Nat}(i:laidMet P ((b,.iface nS (.ptr (.agg [.lit (.string text)])))::h) a)(c:P.globalNamed b=some g)(j:(P.globals[g]?).map (·.type)=some nR):lh a.heap g:=by
 obtain⟨p,k⟩:=ATq;obtain⟨f,l,m,n⟩:=AT7;obtain⟨d,q,o,_,_,_⟩:=laid_sentinel i c j k AST ATZ l m n vS AT5 vU;have e:a.cell? ⟨g,0,none⟩=some (.iface EX (.pointer (some d))):=by simpa using World.var?_cell c o 0
 refine⟨.iface EX (.pointer (some d)),?_,.inr ⟨_,_,rfl⟩⟩;unfold ag;unfold World.cell? at e;exact e
theorem ASl {d:World}(b:laidMetH P listed d):bY d.heap:=by
 refine⟨ARk b,?_,?_⟩
 ·have a:=qG b;obtain⟨x,e,z,f,t,c⟩:=ASM;rw[c] at a;exact vX (laidMet.tail (laidMet.tail (laidMet.tail (laidMet.tail a)))) ATS ASJ
 ·have a:=qG b;obtain⟨x,e,z,f,t,c⟩:=AS8;rw[c] at a;exact vX (laidMet.tail (laidMet.tail (laidMet.tail a))) ATs ASh
theorem ARY {l:List A2Q}{x:A2Q}(a:x∈l):x.size+1<=(l.map (·.size+1)).sum:=by
 induction l with
 |nil=>cases a
 |cons c l b=>
  simp only[B9,FF];rcases List.mem_cons.1 a with rfl|a
  ·omega
  ·have:=b a;omega
def AJB:DataW Unit->Array J0
 | .agg ds=>(ds.map λ| .lit (.int a z)=>Value.int a z|_=> .bool false).toArray
 |_=> #[]
def fill(a:DataW Unit):Obj->Obj
 | .cells _ t frozen=> .cells (AJB a) t frozen
 |o=>o
def je(b:Nat):Obj->Obj
 | .cells _ t frozen=> .cells #[.iface EX (.pointer (some ⟨b,0,none⟩))] t frozen
 |o=>o
abbrev AQj:A2Q:=⟨#[118,97,108,117,101,32,111,117,116,32,111,102,32,114,97,110,103,101]⟩
abbrev AQ8:A2Q:=⟨#[105,110,118,97,108,105,100,32,115,121,110,116,97,120]⟩
noncomputable def low:Nat:=(World.holding P default ⟨#[],#[],[]⟩).heap.size
noncomputable def ZJ (os:Os):World:=
 let a:=World.holding P os ⟨#[.cells #[.string AQj] FC,.cells #[.string AQ8] FC],#[],[]⟩
 {a with heap:=((((a.heap.modify 2 (fill Rows.laid_internal_strconv_uint64pow10)).modify 4 (fill Rows.laid_math_bits_deBruijn32tab)).modify 5 (fill Rows.laid_math_bits_deBruijn64tab)).modify 1 (je low)).modify 0 (je (low+1))}
theorem AIz(os:Os)(args:Array J0):laidMet P listed ((ZJ os).forCall (λ_ _=>0) ⟨#[],args,[]⟩).memory:=
 laidMet_of_run' 8 (by kernel_rfl) (by kernel_rfl)
end Go.Lf.G
namespace Go.Lf.G.M
open Go Go.ChangeShapes Go.WideShapes Go.ChangeAt Go.RowKit Go.Proofs.YtgpmoonnachoaaaGreatDoor
def lY(a:World):aq:=⟨a.tape,a.os,a.output⟩
section
variable {H : Type} {enc : Q7 × J0 -> H} {w : World} {base : Nat} {spare : Nat -> Bool} {held : Bool}
instance:Inhabited Pr:=⟨⟨⟨#[]⟩,⟨#[]⟩,false⟩⟩
instance:Inhabited Sl:=⟨⟨none,0,0⟩⟩
end
end Go.Lf.G.M
namespace Go.Lf.G
open Go
open M (Sorted Af CY BA Ag Au BV Ai bB BH aP BF)
structure ATY where
 kind:Int
 bs:Sl
 key:A2Q
 til:A2Q
 most:Int
 ks:Sl
structure AUB (N:Nat) (h:aa) (x:ATY) (l:List Pr) (ks:List Int):Prop where
 bs:View BR h x.bs l
 ks:View IJ h x.ks ks
 key:x.key.size<=N
theorem AR0 {e:Type}{d:cD e}{h:aa}{s:Sl}{l:List e}(v:View d h s l)(f:l≠ []){b:Nat}(i:s.ah=some b):b<h.size:=by
 cases l with
 |nil=>exact absurd rfl f
 |cons x l=>
  obtain⟨a,j,n⟩:=v.cells 0 x rfl;have p:=d.pos;have r:=d.len x;obtain⟨u,o⟩: ∃u,(d.enc x)[0]? =some u:=⟨_,A2 (by omega)⟩;have:=VD (n 0 u o);rw[aU,aU] at this;have t:a.block=b:=by simpa [Sl.ah,j] using i
  omega
section
variable {A : aq} {B : cH} {g h : aa} {q : Hp} {k : Nat -> Nat} {st : Db} {m : Bx} {D : Bt} {aI c : Nat} {R : A2P}
theorem Bz.put {b a:Nat}(d:Bz B g h q k st m D aI c)(e:aI<=b)(f:c<=a)(i:a<=B.C):Bz B g h q k st m D b a:=(d.aI e).more f i
theorem Bz.args(a:Bz B g h q k st m D aI c){s:Sl}{l:List Pr}(v:View BR g s l):l≠ []-> ∀b,s.ah=some b->b<h.size/\k b=0:=λd b e=>by
 have f:=AR0 v d e;have:=a.mem.ext.size;exact⟨by omega,a.base f⟩
end
theorem AJV {A:aq}{B:cH}{g h:aa}{q:Hp}{k:Nat->Nat}{st:Db}{m:Bx}{D:Bt}{aI c:Nat}{R:A2P}{s:Sl}{l:List Pr}(u:bY g)(j:Bz B g h q k st m D aI c)(i:m.fuel= -1)(hA:aI+3<=B.A)(v:View BR h s l)(w:l≠ []-> ∀b,s.ah=some b->b<h.size/\k b=0)(x:c+64<=B.C)
  (y: ∀e n z C f G,n.d=q.d->n.b=q.b->Bz B g e n z C f G (aI+3) (c+64)->f.fuel= -1->Cm C=(if EY l=0 then cz (Cm st) l else Cm st)->(∀ o,¬dd o->ff f o=ff m o)->Mod (λc=>k c≠0) h e->(∀ c,z c≠0->k c≠0\/h.size<=c)->R (J6 J9 (EY l)) e):
  AA A P Kr #[Ar q.d,J4 s.p s.len s.cap] h R:=by
 by_cases a:EY l=0
 ·have W:=(zo a).1.len;refine zw (B:=B) (s:=s) u j hA v w (λ_=>by omega) (λE=>absurd a E) (λ_ e f p=>absurd i p.fuel) (λ_ e f p=>absurd i p.fuel) λ_ r H I J K L M N O Q S T U V=>?_
  have:=y r H I J K L M N (O.put (A0 _) (by omega) x) (Q.calm i) (by rw[if_pos a];exact S.map) T U V;rwa [a] at this
 ·refine zw (B:=B) (s:=s) u j hA v w (λd=>absurd d a) (λE r F=>?_) (λd=>absurd d a) (λd=>absurd d a) (λd=>absurd d a);exact y r q k st m D rfl rfl ((j.on F).put (by omega) (by omega) x) i (by rw[if_neg a]) (λ_ _=>rfl) (F.aj λc _ t=>t.elim) λc t=> .inl t
open Go Go.ChangeShapes Go.WideShapes Go.ChangeAt Go.RowKit Go.Proofs.YtgpmoonnachoaaaGreatDoor
section
variable {H : Type} {enc : Q7 × J0 -> H} {w : World} {base : Nat} {spare : Nat -> Bool} {held : Bool}
end
section
variable {H : Type} {enc : Q7 × J0 -> H} {w : World} {base : Nat} {spare : Nat -> Bool} {held : Bool}
end
def Jo(c:aq)(names:Sl)(U:Int)(V:aa)(f:A2P):=AA c P Jd #[] V λv o=> ∃x:Bool,v=J3 x/\(af (!x) (f (J3 false) o) (af (decide ((names.len:Int)>12)) (f (J3 true) o) (AA c P Gm #[] o λv1 y=> ∃d:Q2,v1=J5 d/\(af (d.isNone) (f (J3 false) y) (Loop (λK (s:Sl×Int×Unit) p=>af (decide (s.2.1<(names.len:Int))) (ai (λ(q:Sl×Unit) W=>K ((⟨q.1.p,q.1.len,q.1.cap⟩:Sl),(J8 J9 (s.2.1+1)),()) W) λz=>bI names.p names.len s.2.1 λa=>AJ p (a.add (s.2.1.toNat*1)) λX=>al p (J2 #[.int .u8 (J8 .u8 (J8 J9 ((97:Int)+s.2.1)))] Di) λb Y=>BI c P (convert Cs Az (J4 (some (Q5 b 0 none)) 1 1)) Y λv2 Z=> ∃g:A2Q,v2=J7 g/\(aG ((((⟨#[119]⟩:A2Q).size+g.size:Nat):Int)<=IntKind.i64.max)<| AA c P JK #[J7 ((⟨#[119]⟩:A2Q)++g),J6 J9 3] Z λab ac=> ∃A:Int,∃ad:Int,ab=J1 #[J6 J9 A,J6 J9 ad]/\(ai (λ(ae:Bool×Unit) i=>af ae.1 (z ((⟨s.1.p,s.1.len,s.1.cap⟩:Sl),()) i) (At d λah=>aG ((0:Int)<=0/\0<(2:Int))<| AY i ((ah.add 2).add ((0:Int).toNat*1)) λaj=>At d λak=>AY i (ak.add 4) λam=>AA c P Dg #[J5 aj,(.iface Dq (J5 am)),J6 J9 0,(⟨1,((⟨#[119]⟩:A2Q)++g),((⟨#[119]⟩:A2Q)++g),(⟨#[]⟩:A2Q),(⟨none,0,0⟩:Sl),0,(⟨none,0,0⟩:Sl),0,0,0,0,false⟩:cq).v] i λan B=>EC λC=>an=C.v/\(af (C.err != 0) (f (J3 false) B) (al B (J2 #[J7 ((⟨#[119]⟩:A2Q)++g)] Az) λao ap=>BI c P (Builtin.append_ #[BQ,BQ] BQ #[J4 s.1.p s.1.len s.1.cap,J4 (some (Q5 ao 0 none)) 1 1]) ap λar au=> ∃h:Sl,ar=J4 h.p h.len h.cap/\(z ((⟨h.p,h.len,h.cap⟩:Sl),()) au))))) λD=>AA c P Jj #[J7 X] ac λav E=> ∃F:Bool,av=J3 F/\(af (!F) (D (true,()) E) (D ((A != 0),()) E))))) (Loop (λaw (G:Int×Unit) j=>af (decide (G.1<(J8 J9 (((J8 J9 ((U.tmod (3:Int))+3)).tmod (3:Int))+2)))) (At d λax=>aG ((0:Int)<=0/\0<(2:Int))<| AY j ((ax.add 2).add ((0:Int).toNat*1)) λay=>At d λaz=>AY j (az.add 4) λaA=>AA c P OD #[J5 ay,J5 aA,J6 J9 0] j λaC H=> ∃aD:Int,∃I:Int,aC=J1 #[J6 J9 aD,J6 J9 I]/\(af (I != 0) (f (J3 false) H) (aw ((J8 J9 (G.1+1)),()) H))) (Loop (λaF (k:Int×Unit) e=>af (decide (k.1<(s.1.len:Int))) (bI s.1.p s.1.len k.1 λaH=>AJ e (aH.add (k.1.toNat*1)) λaI=>ai (λ(J:(Q2)×Unit) l=>ai (λ(aJ:Bool×Unit) L=>af aJ.1 (f (J3 false) L) (aF ((J8 J9 (k.1+1)),()) L)) λM=>At J.1 λaK=>AC J9 l aK λaL=>af (aL != 0) (M (true,()) l) (At J.1 λaM=>AJ l ((aM.add 3).add 1) λaN=>M ((!bO aN aI),()) l)) λN=>At d λr=>aG ((0:Int)<=0/\0<(2:Int))<| AY e ((r.add 2).add ((0:Int).toNat*1)) λm=>At d λt=>AY e (t.add 4) λn=>And (AA c P BN #[J5 m,J5 n,J6 J9 0,J7 (⟨#[]⟩:A2Q)] e λaO aP=>EC λO=>aO=O.v/\(al aP (J2 bj.z.c Ae) λQ u=>And (ag u (t.add 4)=some (J5 n))<| And (ag u ((r.add 2).add ((0:Int).toNat*1))=some (J5 m))<| aE u (Q5 Q 0 none) O.l λaQ=>N ((some (Q5 Q 0 none)),()) aQ))<| al e (J2 bj.z.c Ae) λR w=>And (ag w (t.add 4)=some (J5 n))<| And (ag w ((r.add 2).add ((0:Int).toNat*1))=some (J5 m))<| AA c P BN #[J5 m,J5 n,J6 J9 0,J7 (⟨#[]⟩:A2Q)] w λaR aS=>EC λS=>aR=S.v/\(aE aS (Q5 R 0 none) S.l λaT=>N ((some (Q5 R 0 none)),()) aT)) (At d λaU=>aG ((0:Int)<=0/\0<(2:Int))<| AY e ((aU.add 2).add ((0:Int).toNat*1)) λaV=>At d λaW=>AY e (aW.add 4) λaX=>AA c P BN #[J5 aV,J5 aX,J6 J9 0,J7 (⟨#[]⟩:A2Q)] e λaY aZ=>EC λT=>aY=T.v/\(f (J3 (T.err==200)) aZ))) (0,()) j)) (0,()) p)) ((⟨none,0,0⟩:Sl),0,()) y)))))
theorem PO {a names b c d}(e:Jo a names b c d):AA a P Jm #[J4 names.p names.len names.cap,J6 J9 b] c d:=Ad (AL AU (AL Cy (AL Cy (AL AU (AL Cy (AL AU (AL (AL AU (.block (.loop [(6,.one .sl),(27,.one (.int J9))] [1,5,25,26] (AL AU (AL FJ (AL (.bH [(6,.one .sl)] [1,5,25,26,27] (Ca 3 (AL (AL (.bz [(49,.one .bool)] [1,5,6,9,25,26,27]) FJ) nJ))) AU)))))) (AL (AL AU (.block (.loop [(76,.one (.int J9))] [5,6,75] lR))) (AL (AL AU (.block (.loop [(96,.one (.int J9))] [5,94,95] (AL AU (AL FJ (AL (.block (AL AU (AL (.bz [(16,.one .ptr)] [5,15,94,95,96]) (AL (.bz [(119,.one .bool)] [5,94,95,96]) EI)))) AU)))))) Bn))))))))) (by kernel_rfl) e
end Go.Lf.G
namespace Go.Lf
open G
open Go
abbrev bd.V(s:bd)(a b c:Sl):bG:=⟨a,s.prog.az,s.status,s.next,s.aZ,s.asked,s.taken,s.fresh,b,c,s.cancel,s.aR⟩
end Go.Lf
namespace Go.Lf.G
open Go
structure JI (h:aa) (s:bd) (a b c:Sl):Prop where
 steps:View QP h a s.prog.steps
 au:View fq h b s.au
 ak:View gg h c s.ak
theorem JI.mod {g:Nat->Prop}{h j:aa}{s:bd}{a b c:Sl}(i:JI h s a b c)(m:Mod g h j)(k: ∀x,a.ah=some x-> ¬g x)(l: ∀x,b.ah=some x-> ¬g x)(n: ∀x,c.ah=some x-> ¬g x):JI j s a b c:=
 ⟨i.steps.mod m λx d f=>k x d f,i.au.mod m λx d f=>l x d f,i.ak.mod m λx d f=>n x d f⟩
theorem JI.ext {h f:aa}{s:bd}{a b c:Sl}(d:JI h s a b c)(x:Ext h f):JI f s a b c:=⟨d.steps.ext x,d.au.ext x,d.ak.ext x⟩
structure D3 (h hh:aa) (T0 T1 T2:Q7) (x:bG) (e:Ev) (y:bG):Prop where
 ext:Ext h hh
 b0:hh[h.size]? =some (J2 x.c T0 (0,0))
 b1:hh[h.size+1]? =some (J2 e.c T1 (0,0))
 b2:hh[h.size+2]? =some (J2 y.c T2 (0,0))
section
variable {A : aq} {h hh : aa} {T0 T1 T2 : Q7} {x y : bG} {e : Ev} {R : A2P}
theorem lN {K:Nat->Nat->Nat->aa->Prop}(m: ∀hh,D3 h hh T0 T1 T2 x e y->K h.size (h.size+1) (h.size+2) hh):
  al h (J2 x.c T0) λb f=>al f (J2 e.c T1) λn g=>al g (J2 y.c T2) λo a=>K b n o a:=by
 refine al.mk λf _ p q c=>al.mk λg _ i j k=>al.mk λa _ l d r=>?_
 rw[c] at i;rw[k,c] at l;have:=m a ⟨(q.trans j).trans d,d.ah (j.ah p (λh=>h)) (λh=>h),d.ah i (λh=>h),l⟩;rw[k,c];exact this
theorem D3.on {b:aa}(a:D3 h hh T0 T1 T2 x e y)(m:Ext hh b):D3 h b T0 T1 T2 x e y:=⟨a.ext.trans m,m.ah a.b0 (λh=>h),m.ah a.b1 (λh=>h),m.ah a.b2 (λh=>h)⟩
theorem D3.set {c:Nat}{v:J0}{x':bG}{K:aa->Prop}(a:D3 h hh T0 T1 T2 x e y)(d:c<12)(f:x.c.setIfInBounds c v=x'.c)(g: ∀h',D3 h h' T0 T1 T2 x' e y->K h'):ae hh ((⟨h.size,0,none⟩:Q6).add c) v K:=
 ae.bL a.b0 d f λh' i m s=>g h' ⟨a.ext.more m λb j=>by subst j;exact A0 _,i,m.ah a.b1 (by omega),m.ah a.b2 (by omega)⟩
theorem D3.ir {j:Nat}{v:J0}{x':bG}{K:aa->Prop}(d:D3 h hh T0 T1 T2 x e y)(f:j<12)(g:x.c.setIfInBounds j v=x'.c)(i: ∀a,D3 h a T0 T1 T2 x' e y->Mod (λc=>c=h.size) hh a->K a):ae hh ((⟨h.size,0,none⟩:Q6).add j) v K:=
 ae.bL d.b0 f g λa k m s=>i a ⟨d.ext.more m λb l=>by subst l;exact A0 _,k,m.ah d.b1 (by omega),m.ah d.b2 (by omega)⟩ m
theorem D3.oT {v:J0}{x':bG}{K:aa->Prop}(b:D3 h hh T0 T1 T2 x e y)(d:x.c.setIfInBounds 0 v=x'.c)(f: ∀a,D3 h a T0 T1 T2 x' e y->Mod (λc=>c=h.size) hh a->K a):ae hh (⟨h.size,0,none⟩:Q6) v K:=
 b.ir (j:=0) (by decide) d f
theorem D3.cM {j:Nat}{v:J0}(a:D3 h hh T0 T1 T2 x e y)(b:x.c[j]? =some v):ag hh ((⟨h.size,0,none⟩:Q6).add j)=some v:=AB a.b0 b
theorem D3.bL {j:Nat}{v:J0}(a:D3 h hh T0 T1 T2 x e y)(b:e.c[j]? =some v):ag hh ((⟨h.size+1,0,none⟩:Q6).add j)=some v:=AB a.b1 b
theorem FB {h:aa}{b:Nat}{T:Q7}{fr:Nat×Nat}{x:bG}(a:h[b]? =some (J2 x.c T fr)):Cells h ⟨b,0,none⟩ x.l:=Cr a rfl
theorem QX {h:aa}{b:Nat}{T:Q7}{fr:Nat×Nat}{x:Ev}(a:h[b]? =some (J2 x.c T fr)):Cells h ⟨b,0,none⟩ x.l:=Cr a rfl
theorem PD(x y:bG):gw y.c 0 x.l=x.c:=rfl
theorem pL(x y:Ev):gw y.c 0 x.l=x.c:=rfl
theorem pM(x y:bP):gw y.c 0 x.l=x.c:=rfl
theorem D3.js(a:D3 h hh T0 T1 T2 x e y):ag hh (⟨h.size,0,none⟩:Q6)=some (J4 x.steps.p x.steps.len x.steps.cap)/\ag hh ((⟨h.size,0,none⟩:Q6).add 1)=some (J6 J9 x.az)/\ag hh ((⟨h.size,0,none⟩:Q6).add 2)=some (J6 J9 x.status)/\ag hh ((⟨h.size,0,none⟩:Q6).add 3)=some (J6 J9 x.next)/\ag hh ((⟨h.size,0,none⟩:Q6).add 4)=some (J6 J9 x.aZ)/\ag hh ((⟨h.size,0,none⟩:Q6).add 5)=some (J6 J9 x.asked)/\ag hh ((⟨h.size,0,none⟩:Q6).add 6)=some (J6 J9 x.taken)/\ag hh ((⟨h.size,0,none⟩:Q6).add 7)=some (J3 x.fresh)/\ag hh ((⟨h.size,0,none⟩:Q6).add 8)=some (J4 x.au.p x.au.len x.au.cap)/\ag hh ((⟨h.size,0,none⟩:Q6).add 9)=some (J4 x.ak.p x.ak.len x.ak.cap)/\ag hh ((⟨h.size,0,none⟩:Q6).add 10)=some (J3 x.cancel)/\ag hh ((⟨h.size,0,none⟩:Q6).add 11)=some (J3 x.aR):=
 ⟨a.cM (j:=0) rfl,a.cM (j:=1) rfl,a.cM (j:=2) rfl,a.cM (j:=3) rfl,a.cM (j:=4) rfl,a.cM (j:=5) rfl,a.cM (j:=6) rfl,a.cM (j:=7) rfl,a.cM (j:=8) rfl,a.cM (j:=9) rfl,a.cM (j:=10) rfl,a.cM (j:=11) rfl⟩
theorem D3.eV {K:bG->Prop}(a:D3 h hh T0 T1 T2 x e y)(b:K x):A8 hh ⟨h.size,0,none⟩ K:=A8.mk x (FB a.b0) b
theorem D3.kH {K:Ev->Prop}(a:D3 h hh T0 T1 T2 x e y)(b:K e):Np hh ⟨h.size+1,0,none⟩ K:=Np.mk e (QX a.b1) b
theorem D3.mN {z:bG}{K:aa->Prop}(d:D3 h hh T0 T1 T2 x e y)(g: ∀a,D3 h a T0 T1 T2 z e y->Mod (λc=>c=h.size) hh a->K a):aE hh ⟨h.size,0,none⟩ z.l K:=
 aE.mk d.b0 (A0 12) λa f m s=>g a ⟨d.ext.more m λb i=>by subst i;exact A0 _,(by rw[PD] at f;exact f),m.ah d.b1 (by omega),m.ah d.b2 (by omega)⟩ m
theorem D3.tell {z:bG}{K:bG->aa->Prop}(c:D3 h hh T0 T1 T2 x e y)(g: ∀a,Ext h a->K z a):aE hh ⟨h.size+2,0,none⟩ z.l λd=>A8 d ⟨h.size+2,0,none⟩ λi=>K i d:=
 aE.mk c.b2 (A0 12) λa f m s=>A8.mk z (FB (by rw[PD] at f;exact f)) (g a (c.ext.more m λb j=>by subst j;omega))
theorem D3.iT {z:bG}{K:bG->aa->Prop}(d:D3 h hh T0 T1 T2 x e y)(i: ∀a,Ext h a->Mod (λc=>c=h.size+2) hh a->K z a):aE hh ⟨h.size+2,0,none⟩ z.l λf=>A8 f ⟨h.size+2,0,none⟩ λj=>K j f:=
 aE.mk d.b2 (A0 12) λa g m s=>A8.mk z (FB (by rw[PD] at g;exact g)) (i a (d.ext.more m λb k=>by subst k;omega) m)
theorem D3.ret {K:bG->aa->Prop}(a:D3 h hh T0 T1 T2 x e y)(d: ∀b,Ext h b->K x b):A8 hh ⟨h.size,0,none⟩ λt=>aE hh ⟨h.size+2,0,none⟩ t.l λc=>A8 c ⟨h.size+2,0,none⟩ λf=>K f c:=
 a.eV (a.tell d)
theorem D3.oU {K:bG->aa->Prop}(b:D3 h hh T0 T1 T2 x e y)(f: ∀a,Ext h a->Mod (λc=>c=h.size+2) hh a->K x a):A8 hh ⟨h.size,0,none⟩ λt=>aE hh ⟨h.size+2,0,none⟩ t.l λd=>A8 d ⟨h.size+2,0,none⟩ λg=>K g d:=
 b.eV (b.iT f)
theorem AIX {s:bd}{a b c:Sl}(T:2<=e.kind/\e.kind<=5)(C: ∀n,Ext h n->R (J1 #[(((Dv s e).getD s).V a b c).v,J3 (Dv s e).isSome]) n):AA A P MM #[(s.V a b c).v,e.v] h R:=by
 refine Xr ?_;unfold QR;refine lN λH d=>?_
 refine ai.mk λK I=>ai.mk λJ L=>?_
 have v: ∀ {t:bd} {hh:aa},D3 h hh Av A9 Av (t.V a b c) e bG.z->Dv s e=some t->K () hh:=λ{t hh} d hd=>by
  refine I _ _ (d.ret λn x=>?_);have:=C n x;rw[hd] at this;exact this
 have no: ∀ {hh:aa},D3 h hh Av A9 Av (s.V a b c) e bG.z->Dv s e=none->A8 hh ⟨h.size,0,none⟩ λt=>aE hh ⟨h.size+2,0,none⟩ t.l λD=>A8 D ⟨h.size+2,0,none⟩ λM=>R (J1 #[M.v,J3 false]) D:=λ{hh} d hd=>by
  refine d.ret λn x=>?_
  have:=C n x;rw[hd] at this;exact this
 have key: ∀(o:Bool),(e.kind=2->(o=true↔s.asked=0/\s.taken=0/\s.fresh=true))->(e.kind≠2->o=false)->J (o,()) H:=λo E N=>by
  refine L _ _ (af.intro (λk=>?_) (λk=>?_))
  ·have k:o=true:=k;have g:e.kind=2:=Decidable.byContradiction λh=>by rw[N h] at k;cases k
   refine AC.mk (d.bL (j:=0) rfl) (d.set (x':=({s with asked:=e.id}:bd).V a b c) (by decide) rfl λz m=>v m ?_);unfold Dv;rw[if_pos g,if_pos ((E g).1 k)]
  ·have k:o=false:=k;refine ai.mk λU F=>AC.mk (d.bL (j:=1) rfl) (af.intro (λi=>?_) (λi=>?_))
   ·have i:e.kind=3:=by simpa using i
    refine AC.mk (d.cM (j:=5) rfl) (AC.mk (d.bL (j:=3) rfl) (F _ _ (af.intro (λf=>?_) (λf=>?_))))
    ·have f:s.asked=e.ref:=by simpa using f
     refine AC.mk (d.bL (j:=0) rfl) (d.set (x':=({s with asked:=0}:bd).V a b c) (by decide) rfl λz m=>⟨m.bL (j:=0) rfl,?_⟩);refine m.set (x':=({s with asked:=0,taken:=e.id}:bd).V a b c) (by decide) rfl λO B=>B.set (x':=({s with asked:=0,taken:=e.id,fresh:=false}:bd).V a b c) (by decide) rfl λV Q=>v Q ?_
     unfold Dv;rw[if_neg (by omega),if_pos i,if_pos f]
    ·have f:s.asked≠e.ref:=by simpa using f
     refine ai.mk λS w=>AC.mk (d.bL (j:=1) rfl) (af.no (by simp[i]) (w _ _ (af.no rfl ?_)))
     refine ai.mk λG p=>AC.mk (d.bL (j:=1) rfl) (af.no (by simp[i]) (p _ _ (af.no rfl (no d ?_))))
     unfold Dv;rw[if_neg (by omega),if_pos i,if_neg f]
   ·have i:e.kind≠3:=by simpa using i
    refine F _ _ (af.no rfl (ai.mk λS w=>AC.mk (d.bL (j:=1) rfl) (af.intro (λl=>?_) (λl=>?_))))
    ·have l:e.kind=4:=by simpa using l
     refine AC.mk (d.cM (j:=6) rfl) (AC.mk (d.bL (j:=3) rfl) (w _ _ (af.intro (λf=>?_) (λf=>?_))))
     ·have f:s.taken=e.ref:=by simpa using f
      refine d.set (x':=({s with taken:=0}:bd).V a b c) (by decide) rfl λz m=>v m ?_
      unfold Dv;rw[if_neg (by omega),if_neg i,if_pos l,if_pos f]
     ·have f:s.taken≠e.ref:=by simpa using f
      refine ai.mk λG p=>AC.mk (d.bL (j:=1) rfl) (af.no (by simp[l]) (p _ _ (af.no rfl (no d ?_))))
      unfold Dv;rw[if_neg (by omega),if_neg i,if_pos l,if_neg f]
    ·have l:e.kind≠4:=by simpa using l
     refine w _ _ (af.no rfl (ai.mk λG p=>AC.mk (d.bL (j:=1) rfl) (af.intro (λu=>?_) (λu=>?_))))
     ·have u:e.kind=5:=by simpa using u
      refine AC.mk (d.cM (j:=6) rfl) (AC.mk (d.bL (j:=3) rfl) (p _ _ (af.intro (λf=>?_) (λf=>?_))))
      ·have f:s.taken=e.ref:=by simpa using f
       refine d.set (x':=({s with taken:=0}:bd).V a b c) (by decide) rfl λz m=>m.set (x':=({s with taken:=0,fresh:=true}:bd).V a b c) (by decide) rfl λO B=>v B ?_
       unfold Dv;rw[if_neg (by omega),if_neg i,if_neg l,if_pos f]
      ·have f:s.taken≠e.ref:=by simpa using f
       refine no d ?_;unfold Dv;rw[if_neg (by omega),if_neg i,if_neg l,if_neg f]
     ·have u:e.kind≠5:=by simpa using u
      have g:e.kind=2:=by omega
      refine p _ _ (af.no rfl (no d ?_));unfold Dv;rw[if_pos g,if_neg λh=>by rw[(E g).2 h] at k;cases k]
 refine AC.mk (d.bL (j:=1) rfl) (af.intro (λg=>?_) (λg=>key _ (λh=>by simp[h] at g) λ_=>rfl));have g:e.kind=2:=by simpa using g
 refine AC.mk (d.cM (j:=5) rfl) (af.intro (λq=>?_) (λq=>key _ (λ_=>by simp at q;simp[q]) λh=>absurd g h));have q:s.asked=0:=by simpa using q
 refine AC.mk (d.cM (j:=6) rfl) (af.intro (λr=>?_) (λr=>key _ (λ_=>by simp at r;simp[r]) λh=>absurd g h));have r:s.taken=0:=by simpa using r
 exact Ac.mk (d.cM (j:=7) rfl) (key _ (λ_=>by simp[q,r]) λh=>absurd g h)
theorem Xb {s:bd}{a b c:Sl}{d:Int}(k: ∀g,Ext h g->R ((ik s d).V a ⟨none,0,0⟩ ⟨none,0,0⟩).v g):AA A P IV #[(s.V a b c).v,J6 J9 d] h R:=by
 refine ADR ?_;unfold WQ;refine al.mk λJ _ l n K=>al.mk λL _ o i M=>?_
 have p:=i.ah l (λh=>h);refine ae.bL (dH:=(({s with status:=d}:bd).V a b c).c) p (of_decide_eq_true rfl) rfl λN q r _=>?_
 refine ae.bL (dH:=(({s with status:=d,asked:=0}:bd).V a b c).c) q (of_decide_eq_true rfl) rfl λO t u _=>?_
 refine ae.bL (dH:=(({s with status:=d,asked:=0,taken:=0}:bd).V a b c).c) t (of_decide_eq_true rfl) rfl λQ v w _=>?_
 refine ae.bL (dH:=(({s with status:=d,asked:=0,taken:=0,fresh:=false}:bd).V a b c).c) v (of_decide_eq_true rfl) rfl λS z B _=>?_
 refine ae.bL (dH:=(({s with status:=d,asked:=0,taken:=0,fresh:=false}:bd).V a ⟨none,0,0⟩ c).c) z (of_decide_eq_true rfl) rfl λT C D _=>?_
 refine ae.bL (dH:=(({s with status:=d,asked:=0,taken:=0,fresh:=false}:bd).V a ⟨none,0,0⟩ ⟨none,0,0⟩).c) C (of_decide_eq_true rfl) rfl λU E F _=>?_
 have m:=((((r.trans u).trans w).trans B).trans D).trans F;have G:=m.ah o (by omega);refine A8.mk (({s with status:=d,asked:=0,taken:=0,fresh:=false}:bd).V a ⟨none,0,0⟩ ⟨none,0,0⟩) (FB E) ?_;refine aE.mk G (A0 12) λH j I V=>A8.mk _ (FB (by rw[PD] at j;exact j)) (k H ?_)
 exact((n.trans i).more m λc f=>by subst f;exact A0 _).more I λc f=>by subst f;omega
theorem pN {s:bd}{a b c:Sl}(k:b.len=s.au.length)(l: ∀j,Ext h j->R (J3 (decide (O8 s))) j):AA A P Kw #[(s.V a b c).v] h R:=by
 refine AEF ?_;unfold Yz;refine al.mk λm _ i n o=>?_
 have g:=l m n;refine AC.mk (AB i rfl) (af.intro (λd=>?_) (λd=>?_))
 ·have d:s.asked=0:=by simpa using d
  refine AC.mk (AB i rfl) (af.intro (λf=>?_) (λf=>?_))
  ·have f:s.taken=0:=by simpa using f
   refine AZ.mk (s:=b) (AB i rfl) ?_;have e:decide (O8 s)=(((b.len:Nat):Int)==(0:Int)):=by rw[k,DQ];simp[O8,d,f,TO]
   rw[e] at g;exact g
  ·have f:s.taken≠0:=by simpa using f
   rw[show decide (O8 s)=false from by simp[O8,f]] at g;exact g
 ·have d:s.asked≠0:=by simpa using d
  rw[show decide (O8 s)=false from by simp[O8,d]] at g;exact g
end
end Go.Lf.G
namespace Go.Lf
open Go
structure Dc (s:bd) (n:Nat):Prop where
 au:s.au.length<=n
 ak:s.ak.length<=n
 steps:s.prog.steps.length<=16
 az:0<=s.prog.az/\s.prog.az<=16000
 aZ:0<=s.aZ/\s.aZ<=1099511627776
 next:0<=s.next/\s.next<=501
 st:0<=s.status/\s.status<=4
 waits: ∀x∈s.prog.steps,0<=x.wait/\x.wait<=1000
theorem Dc.zero:Dc Sy 0:=⟨by decide,by decide,by decide,by decide,by decide,by decide,by decide,λx a=>by cases a⟩
theorem AQY {x:bP}(a:NA x=true):0<=x.wait/\x.wait<=1000:=by
 unfold NA at a
 repeat' split at a
 all_goals first|(simp only[A4,DB,decide_eq_true_eq,Bb] at a;omega)|cases a
theorem Rb {a:Ev}(d:Ej a=true):(1<=a.kind/\a.kind<=18)/\(1<=a.id/\a.id<=500)/\(0<=a.tick/\a.tick<=1099511627776)/\(a.kind=1-> ∃p,JE (bl a.data)=some p/\F4 p=true)/\(a.kind=12->Ak a.data=true):=by
 unfold Ej at d;rw[A4] at d;obtain⟨c,b⟩:=d;simp only[Ee,A4] at c;refine⟨Bb.1 c.1.1.1.1.1.1.1,Bb.1 c.1.1.1.1.1.1.2,Bb.1 c.1.1.1.1.1.2,λe=>?_,λe=>?_⟩
 ·unfold KD at b;rw[if_pos e] at b;obtain⟨p,f⟩:=Option.isSome_iff_exists.1 b;exact⟨p,f,(wo f).1⟩
 ·unfold KD at b;rw[if_neg (by omega),if_pos e] at b;exact b
theorem xI {p:cj}(a:F4 p=true):p.steps.length<=16/\(0<=p.az/\p.az<=16000)/\ ∀x∈p.steps,NA x=true:=by simp only[F4,A4,decide_eq_true_eq,Fo] at a;exact⟨a.1.1,Bb.1 a.1.2,a.2⟩
structure mu (s t:bd):Prop where
 prog:t.prog=s.prog
 next:t.next=s.next
 aZ:t.aZ=s.aZ
theorem QF {s t:bd}{b:Ev}(a:Dv s b=some t):mu s t/\t.au=s.au/\t.ak=s.ak/\t.status=s.status:=by
 unfold Dv at a
 repeat' split at a
 all_goals first|(cases a;exact⟨⟨rfl,rfl,rfl⟩,rfl,rfl,rfl⟩)|cases a
theorem xJ {s t:bd}{b:Ev}(a:KP s b=some t):mu s t/\(t.au=s.au\/t.au= [])/\(t.ak=s.ak\/t.ak= [])/\(t.status=s.status\/(1<=t.status/\t.status<=4)):=by
 unfold KP at a
 repeat' split at a
 all_goals first|(cases a;first|exact⟨⟨rfl,rfl,rfl⟩,.inl rfl,.inl rfl,.inl rfl⟩|exact⟨⟨rfl,rfl,rfl⟩,.inr rfl,.inr rfl,.inr (by simp only[ik];omega)⟩)|cases a
theorem xL {s t:bd}{b:Ev}(a:Li s b=some t):mu s t/\t.au.length<=s.au.length+1/\t.ak=s.ak/\t.status=s.status:=by
 unfold Li at a;split at a
 ·obtain⟨x,c,a⟩:=Option.bind_eq_some_iff.1 a;split at a
  ·cases a
  ·cases a;exact⟨⟨rfl,rfl,rfl⟩,by simp,rfl,rfl⟩
 ·obtain⟨i,d,a⟩:=Option.bind_eq_some_iff.1 a;obtain⟨e,f,a⟩:=Option.bind_eq_some_iff.1 a
  repeat' split at a
  all_goals first|(cases a;exact⟨⟨rfl,rfl,rfl⟩,by first|(simp only[RC];omega)|(have:=A0w s.au i;simp only;omega),rfl,rfl⟩)|cases a
theorem xM {s t:bd}{b:Ev}(a:KC s b=some t):mu s t/\t.au=s.au/\t.ak.length<=s.ak.length+1/\t.status=s.status:=by
 unfold KC at a;split at a
 ·obtain⟨x,c,rfl⟩:=Option.map_eq_some_iff.1 a;exact⟨⟨rfl,rfl,rfl⟩,rfl,by simp,rfl⟩
 ·obtain⟨i,d,rfl⟩:=Option.map_eq_some_iff.1 a;exact⟨⟨rfl,rfl,rfl⟩,rfl,by have:=A0w s.ak i;simp only;omega,rfl⟩
theorem AKT {s t:bd}{g:Ev}(a:Pi s g=some t): ∃u:bd,t= {u with next:=s.next+1}/\mu s u/\u.au.length<=s.au.length+1/\u.ak.length<=s.ak.length+1/\(u.status=s.status\/(1<=u.status/\u.status<=4)):=by
 unfold Pi at a;obtain⟨u,b,rfl⟩:=Option.map_eq_some_iff.1 a;refine⟨u,rfl,?_⟩;split at b
 ·obtain⟨c,d,e,f⟩:=QF b;exact⟨c,by rw[d];omega,by rw[e];omega,.inl f⟩
 ·split at b
  ·obtain⟨c,d,e,f⟩:=xL b;exact⟨c,d,by rw[e];omega,.inl f⟩
  ·split at b
   ·obtain⟨c,d,e,f⟩:=xM b;exact⟨c,by rw[d];omega,e,.inl f⟩
   ·obtain⟨c,d,e,f⟩:=xJ b;exact⟨c,by rcases d with a|a<;>rw[a]<;>simp,by rcases e with a|a<;>rw[a]<;>simp,f⟩
theorem Tj {s:bd}{c:Ev}{g:Nat}(b:Dc s g)(a:(Bp s c).1=0):Dc (Bp s c).2 (g+1):=by
 have ok:=Qd a;obtain⟨w,y,j,k,_⟩:=Rb ok;unfold Bp at a ⊢;rw[if_neg (by simp[ok])] at a ⊢;split at a
 ·rename_i f;rw[if_pos f];split at a
  ·rename_i d;rw[if_pos d];obtain⟨p,l,m⟩:=k d.1;obtain⟨n,o,q⟩:=xI m;show Dc (XM c) _;unfold XM;rw[l,HI];exact⟨As _,As _,n,o,j,by show(0:Int)<=2/\(2:Int)<=501;omega,by show(0:Int)<=0/\(0:Int)<=4;omega,λx r=>AQY (q x r)⟩
  ·cases a
 ·rename_i f;rw[if_neg f];split at a
  ·cases a
  ·rename_i d;rw[if_neg d];split at a
   ·cases a
   ·rename_i h;rw[if_neg h];have z:c.id=s.next:=by simpa using h
    cases i:Pi s c with
    |none=>rw[i] at a;cases a
    |some t=>
     obtain⟨u,rfl,e,A,B,v⟩:=AKT i;have C:=b.au;have D:=b.ak;exact⟨by show u.au.length<=_;omega,by show u.ak.length<=_;omega,by show u.prog.steps.length<=_;rw[e.prog];exact b.steps,by show 0<=u.prog.az/\_;rw[e.prog];exact b.az,by show 0<=u.aZ/\_;rw[e.aZ];exact b.aZ,by show 0<=s.next+1/\s.next+1<=501;omega,by
      have:=b.st;show 0<=u.status/\u.status<=4;rcases v with a|a<;>omega,by show ∀x∈u.prog.steps,_;rw[e.prog];exact b.waits⟩
theorem UO: ∀ {l:List Ev} {s t:bd} {a:Nat},Dc s a->El s l=some t->Dc t (a+l.length)
 | [],s,t,a,c,b=>by cases b;exact c
 |e::l,s,t,a,c,b=>by
  rw[El] at b;split at b
  ·rename_i d;have:=UO (Tj c d) b;rw[A5];rw[show a+(l.length+1)=a+1+l.length from by omega];exact this
  ·cases b
end Go.Lf
namespace Go.Lf
open Go
variable {α : Type} {E : cD α} {A : aq} {P : Q1}
theorem Mod.mod {d:Nat->Prop}{b c:aa}(a:Mod (λ_=>False) b c):Mod d b c:=a.aj λ_ _ b=>b.elim
def xN(A:aq)(P:Q1)(t f:Q7)(c:Nat)(s:Sl)(i:Int)(b:Int)(d:aa)(e:A2P):Prop:=
 aG ((0:Int)<=((s.len:Nat):Int)/\((s.len:Nat):Int)<=((s.cap:Nat):Int))<|
 aG ((0:Int)<=b/\b<=(((((s.len:Nat):Int).toNat):Nat):Int))<|
 aG ((0:Int)<=i/\i<=((b.toNat:Nat):Int))<|
 af (i==b) (
  e (.slice s.p s.len s.cap) d) (
  aG ((0:Int)<=i/\i<=((s.cap:Nat):Int))<|
  aG ((0:Int)<=b/\b<=((s.len:Nat):Int))<|
  BI A P (Builtin.append_ #[t,t] t #[.slice (BC s.p s.cap 0 c) (i.toNat-0) (s.cap-0),.slice (BC s.p s.cap b.toNat c) (s.len-b.toNat) (s.cap-b.toNat)]) d λv g=> ∃a:Sl,v= .slice a.p a.len a.cap/\(
  aG ((0:Int)<=((s.len:Nat):Int)/\((s.len:Nat):Int)<=((a.cap:Nat):Int))<|
  aG ((0:Int)<=((a.len:Nat):Int)/\((a.len:Nat):Int)<=((((s.len:Nat):Int).toNat:Nat):Int))<|
  BI A P (Builtin.clear_ #[t] f #[.slice (BC a.p a.cap (((a.len:Nat):Int).toNat) c) ((((s.len:Nat):Int).toNat)-(((a.len:Nat):Int).toNat)) (a.cap-(((a.len:Nat):Int).toNat))]) g λv1 h=>v1= .tuple #[]/\(
  e (.slice a.p a.len a.cap) h)))
theorem AS5 {t m T:Q7}{a:J0}(o:P.underlying t=some (.slice T))(p:(zeroValue T).calc P=some a)(f: ∀v∈a.cells.toList,Lx v=true){d:aa}{b e q:Nat}{g:Array J0}{K:A2P}
  (h:d[b]? =some (.cells g T (0,0))) (B:e+a.cells.size<=g.size)
  (r: ∀c,c[b]? =some (.cells (gZ g e a.cells.toList) T (0,0))->Mod (· =b) d c->c.size=d.size->K (.tuple #[]) c):
  BI A P (Builtin.clear_ #[t] m #[.slice (some ⟨b,e,none⟩) 1 q]) d K:=by
 intro n;have s:(Builtin.zeroCells a.cells 1).toList=a.cells.toList:=by
  unfold Builtin.zeroCells;rw[Jx];apply List.ext_getElem
  ·simp
  ·intro i f C;simp at f;simp[An f,f]
 have j:=run_storeCells_cells (P:=P) b e a.cells.toList 0 (A.at d n)
  (λk l=>by
   show(ag d ⟨b,e+0+k,none⟩).isSome=true;rw[Hr h,Ft (by simp at l;omega)];rfl)
  (λk l=>PL h) (λv u=>PT (f v u))
 obtain⟨c,w,x,y,z⟩:=cT (A:=A) a.cells.toList e (n:=n) h;rw[G3,w] at j;refine⟨.tuple #[],c,n,?_,r c x y z⟩;simp[Builtin.clear_,BM o,Df p,s,j,Result.andThen]
theorem ANe {l:List α}{a:Nat}:(l.flatMap E.enc).take (a*E.w)=(l.take a).flatMap E.enc:=by
 induction l generalizing a with
 |nil=>simp
 |cons x l b=>
  cases a with
  |zero=>simp
  |succ a=>
   rw[AH,I2,AH,KK,E.len,AF (by rw[E.len,BT];omega),BT,Jx,N5,b]
theorem ANj {l:List α}{a:Nat}:(l.flatMap E.enc).drop (a*E.w)=(l.drop a).flatMap E.enc:=by
 induction l generalizing a with
 |nil=>simp
 |cons x l b=>
  cases a with
  |zero=>simp
  |succ a=>
   rw[AH,HW,R2,E.len,HD (by rw[E.len,BT];omega),BT,Jx,N5,b,CT]
theorem xO {t Q T:Q7}{zv:J0}{R:Nat}(S:QE P t T E.w R=true)(U:(zeroValue T).calc P=some zv)(V: ∀v∈zv.cells.toList,Lx v=true)(D:zv.cells.size=E.w){c:aa}{s:Sl}{l:List α}{i:Nat}{F:A2P}
  (G:Own E T c s l) (H:i<l.length)
  (W: ∀r,Own E T r ⟨s.p,l.length-1,s.cap⟩ (l.eraseIdx i)->Mod (λb=>s.ah=some b) c r->F (.slice s.p (l.length-1) s.cap) r):xN A P t Q E.w s (i:Int) ((i+1:Nat):Int) c F:=by
 obtain⟨I,X,z,Y,az,w,aA,aC⟩:=qA S;have J:=G.len;rcases G.row with⟨rfl,rfl⟩|⟨g,n,f,y,Z,ab,j,K⟩
 ·simp at H
 have ac:s.len*E.w<=s.cap*E.w:=AS _ Z;unfold xN;refine⟨⟨by omega,by omega⟩,⟨by omega,by omega⟩,⟨by omega,by omega⟩,af.no (by simp;omega) ⟨⟨by omega,by omega⟩,⟨by omega,by omega⟩,?_⟩⟩;rw[A6,A6,A6,HA,HA];have ad:BC s.p s.cap 0 E.w=some ⟨g,0,none⟩:=by unfold BC;rw[if_neg (by omega),f];simp[Bh]
 rw[ad]
 let m:=s.len-(i+1)
 let e:List J0:=(l.drop (i+1)).flatMap E.enc
 have nl:e.length=m*E.w:=by simp only[e,m];rw[Jl,DE,J]
 obtain⟨a,ae,ah⟩: ∃a,BC s.p s.cap (i+1) E.w=some a/\ ∀h u,e[h]? =some u->(A.at c 0).cell? (a.add h)=some u:=by
  unfold BC;by_cases L:s.cap=i+1
  ·rw[if_pos L,f];refine⟨_,rfl,λh u d=>?_⟩;have:m=0:=by simp only[m];omega
   have d:=(List.getElem?_eq_some_iff.1 d).1;rw[nl,this] at d;omega
  ·rw[if_neg L,f];refine⟨_,rfl,λh u d=>?_⟩;show ag c ((Addr.add ⟨g,0,none⟩ ((i+1)*E.w)).add h)=some u;rw[Bh,Bh,AI,Hr y];simp only[e] at d;rw[<- ANj,C5,<-K,F2] at d;split at d
   ·simpa using d
   ·cases d
 rw[ae];intro o;have ai: ∀u∈e,u.oneCell'=true:=λu aj=>by
  obtain⟨x,_,ak⟩:=List.mem_flatMap.1 aj;exact PT (E.one x u ak)
 have al:i*E.w+m*E.w<=s.cap*E.w:=by rw[<- BT];exact AS _ (by simp only[m];omega)
 have M:=run_append_room (P:=P) (A.at c o) t t T X I Y g i s.cap n y a m (s.cap-(i+1)) e (by rw[nl,w]) (λh u d=>ah h u d) ai (by simp only[m];omega) (by rw[w,nl,j];exact al);rw[w] at M
 let row:Array J0:=(n.toList.take (i*E.w)++e++n.toList.drop (i*E.w+e.length)).toArray
 obtain⟨k,am,an,ao,aD⟩: ∃k,(A.at c o).setRow g row=A.at k o/\k[g]? =some (.cells row T (0,0))/\Mod (· =g) c k/\k.size=c.size:=by
  refine⟨_,rfl,?_,⟨?_,λb p ap=>?_⟩,?_⟩
  ·show(c.modify g _)[g]? =_;rw[GF,if_pos rfl,y];rfl
  ·show c.size<=(c.modify g _).size;simp
  ·show(c.modify g _)[b]? =_;rw[GF,if_neg (Ne.symm ap)]
  ·show(c.modify g _).size=_;simp
 refine⟨_,k,o,M.trans (by rw[<- am]),⟨some ⟨g,0,none⟩,i+m,s.cap⟩,rfl,⟨by omega,by show((s.len:Nat):Int)<=((s.cap:Nat):Int);omega⟩,⟨by omega,by show((i+m:Nat):Int)<=_;simp only[m];omega⟩,?_⟩;have B:i+m=l.length-1:=by simp only[m];omega
 dsimp only[Int.toNat_natCast];rw[B];have aq:BC (some ⟨g,0,none⟩) s.cap (l.length-1) E.w=some ⟨g,(l.length-1)*E.w,none⟩:=by unfold BC;rw[if_neg (by omega)];simp[Bh]
 rw[aq,show s.len-(l.length-1)=1 from by omega];have q:row.size=n.size:=by simp only[row,List.size_toArray,A1,AD,DE,DO];rw[nl];omega
 have N:(l.length-1)*E.w+E.w<=s.cap*E.w:=by rw[show(l.length-1)*E.w+E.w=l.length*E.w from by rw[<- Nat.succ_mul];congr 1;omega,<-J];exact ac
 refine AS5 I U V an (by rw[q,D,j];exact N) λO ar au aE=>⟨rfl,?_⟩
 rw[<- f];have av:Mod (λb=>s.ah=some b) c O:=(ao.aj λb _ p=>by subst p;simp[Sl.ah,f]).trans (au.aj λb _ p=>by subst p;simp[Sl.ah,f]);refine W O ⟨by rw[List.length_eraseIdx,if_pos H],.inr ⟨g,_,f,ar,by show l.length-1<=s.cap;omega,ab,?_,?_⟩⟩ av
 ·show(gZ _ _ _).size=s.cap*E.w;rw[IQ,q,j]
 ·show(gZ row ((l.length-1)*E.w) zv.cells.toList).toList.take ((l.length-1)*E.w)=_;have aw:zv.cells.toList.length=E.w:=by rw[DO,D]
  have C:row.size=s.cap*E.w:=by rw[q,j]
  rw[OO _ _ _ (by rw[aw,C];exact N),A3,KK];have ax:(l.length-1)*E.w<=row.toList.length:=by
   have C:row.toList.length=s.cap*E.w:=by rw[DO,q,j]
   rw[C];omega
  rw[AD,Fm ax,MA,Is,AK,Sh,Nat.min_self];simp only[row];have ay:i*E.w<=n.toList.length:=by rw[DO,j];omega
  rw[A3,KK,AD,Fm ay,AF (by rw[AD,<-B,BT];omega)];rw[<- B,BT,Ts,<-nl,KK,MA,Is,AK,AF (A0 _)];rw[List.eraseIdx_eq_take_drop_succ,Ge,<-ANe,<-K,Sh,Fm (AS _ (by omega))]
end Go.Lf
