/-
 Contract: what is in memory goes into a table (chapter 9).
-/
import Derived.Test.YtgpmoonnachoaaaGreatDoorLfU15ToZ10
import Derived.Lib.AtoiAllCases
import Derived.Test.YtgpmoonnachoaaaGreatDoorLfU2ToS3
import Derived.Test.YtgpmoonnachoaaaGreatDoorCards
import Derived.Test.YtgpmoonnachoaaaGreatDoorTie
import Derived.Deep.DeepHandedRow
import Derived.Lib.LaidTab
import Derived.Stop.LaidErr
import Derived.Test.YtgpmoonnachoaaaGreatDoorLfX2ToS5
import Derived.Test.YtgpmoonnachoaaaGreatDoorRows
import Derived.WalkKit
import Derived.ProofKit
import Derived.OpenShut
import Derived.JoinedCond
import Derived.Deep.Slices
import Derived.Carry
import Derived.Test.YtgpmoonnachoaaaGreatDoorLfG1
import Derived.Test.YtgpmoonnachoaaaGreatDoorLfKToGA
set_option maxRecDepth 100000
set_option linter.unusedVariables false
set_option linter.unusedSimpArgs false
open Go.IntKind renaming i64→J9,wrap→J8
open Go.Value renaming string→J7,int→J6,pointer→J5,slice→J4,bool→J3,tuple→J1
open Go.Obj renaming cells→J2
open Go renaming Value→J0,Addr→Q6,TypeId→Q7,FuncId→Q8,Program→Q1
open Go.Addr renaming add→Q9,mk→Q5
namespace Go.Lf.G
open Go
open M (Sorted Af CZ A7 Ah Ar BV Aj bB BC)
section
variable {A : al} {B : cz} {g h : aa} {q : Hp} {k : Nat -> Nat} {st : Db} {m : Bx} {D : Bo} {aH c : Nat} {R : A2J}
theorem Ee.sP {d:bO}(L:Ee d st D)(l:TH st D aH c)(hA:aH<=100000){a:Nat}(e:st.aw<a):D.L a= []:=by
 by_cases b:a<=99999999
 ·exact L.ok.jC b (L.gE a (by omega) b λ_=>by omega)
 ·exact L.ok.gF (.inr (by have:=l.aO;omega))
theorem AMf {F:bO}{made:Bool}{m:Bx}{s:Nat}(hd:m.down=false)(d:made=true-> ∃b,ff m (aC nl s)=some (b,bq)):(m.fuel=0/\NI m (aC nl s) made=(30,NU m))\/((NI m (aC nl s) made).1=0/\Jf m (NI m (aC nl s) made).2/\ ∀x,ff (NI m (aC nl s) made).2 x=ff m x):=by
 cases made with
 |false=>exact .inr ⟨rfl,Jf.refl hd,λx=>rfl⟩
 |true=>
  obtain⟨b,e⟩:=d rfl;rcases Od hd e with a|⟨a,f,i⟩
  ·exact .inl a
  ·refine .inr ⟨a,f,λx=>?_⟩;show ff (FR m (aC nl s)).2 x=_
   simp_all [VT]
theorem AN3 {m:Bx}(g:Hm m)(k:A2K)(a:Bool):ba (NI m k a).2.files<=ba m.files:=by
 cases a with
 |false=>exact A0 _
 |true=>exact YO g k
theorem AQj {a b x:Nat}(d:b<=a+x):b+1000000<=a+(x+1000000):=by omega
theorem AOM(a:Nat):8400*a+1100001+1000000<=20000*a+10000000:=by omega
theorem APY(aV:cp g)(S:Br B g h q k st m D aH c)(hA:aH+2<=B.A)
  (be: ∀h' an,oR B h h' q k m an (aH+2)->kg (ff an) (aH+2) c (Cr st)->R (J6 J9 30) h')
  (b8: ∀h' bf bG bH an r,bf.d=q.d->bf.b=q.b->Br B g h' bf bG bH an r (aH+2) c->Jf m an->bH.fr= []->Cr bH=Cr st->(bH.ts.length<=3\/bH.ts.length=st.ts.length)->(∀ v,¬cF v->ff an v=ff m v)->Mod (λc=>k c≠0) h h'->(∀ c,bG c≠0->k c≠0\/h.size<=c)->R (J6 J9 0) h'):
  AA A P Oq #[Ap q.d] h R:=by
 have dP:=S;obtain⟨V,hd,L,l,aY,b⟩:=S;have fR:=B.hA;have dQ:=B.hC;have dR:=B.wt (a:=aH) (by omega);have dS:=L.dk l;have fS:=l.next;have fT:=l.aJ;have fU:=l.aw;have fV:=l.aO;have fW:=l.aY;have fX:=L.eM;have fY:=l.cn;have dT:=L.iX l;have aZ:st.next∉st.ts.map (·.1):=λb9=>by
  obtain⟨p,aj,e⟩:=List.mem_map.1 b9;have:=L.below p aj;omega
 refine ABf ?_;unfold Tz;refine ai.mk λK dU=>Za V (dU _ _ (af.no rfl ?_))
 refine aD (AX.mk (AB V.cell rfl) ?_);refine M.sQ V.fresh ⟨_,_,rfl,?_⟩;refine af.intro (λbI=>?_) (λbI=>?_)
 ·have o:st.fr= []:=CT (by have:((st.fr.length:Nat):Int)=0:=(by simpa using bI);omega);exact b8 h q k st m D rfl rfl (dP.aH (by omega)) (Jf.refl hd) o rfl (.inr rfl) (λ_ _=>rfl) Mod.refl (λc b=> .inl b)
 have dV:st.fr≠ []:=λe=>by
  rw[e] at bI;cases bI
 have bJ:Ha st.fr:=⟨dV,λx E=>oT (V.fresh.aQ x E),V.fresh.sorted,by omega⟩;have fZ:=ALn bJ;have dW:(Js st.fr).length<=8400*B.C+1100000:=by omega
 refine aD (AC.mk (AB V.cell rfl) (aD (AX.mk (AB V.cell rfl) ?_)));refine M.sR V.fresh λfv w cT cU cV=>⟨_,rfl,⟨AB (V.on cU).cell rfl,?_⟩⟩
 rw[M.sL] at cT;refine M.Wq cT (λ_ _=>rfl) (by omega) λca Y cW f0 dX=>⟨ca,rfl,?_⟩
 have bL:=cU.trans dX;have bM:=V.on bL;have f1:=bL.size;refine⟨AB bM.cell rfl,?_⟩;refine API (n:=st.next) aV bM hd bJ cW.view (λc b=>cW.lt b) (by omega) dT (ASh dW aY dR dQ) (λbg ax ay ac dY dZ bN d0 a0 d1=>⟨_,_,rfl,af.yes rfl ?_⟩) λax ay bP ac t aL aM ak cb a0 d1 cX f2 f3 cY bN bQ=>⟨_,_,rfl,af.no rfl ?_⟩
 ·refine Jl bM dY (bN.aj λc _ b=> .inl b) d0 λd2 d3 d4 d5 d6=>⟨_,rfl,?_⟩
  have cc:=L.jB (F':=ff ac) (l.mono (Ix aH 2) (A0 _)) (λx E=>a0 x (E _ aZ)) λn u=>by
   by_cases e:n=st.next
   ·omega
   ·rw[a0 _ λaN=>e (Jg aN)] at u;have:=L.fA l u;omega
  have bh:ba ac.files<=ba m.files+(8400*B.C+1100001):=by omega
  have H:=B.step2 aY bh (Ix _ _);exact be d2 ac ⟨bg,d3,⟨ay,d4,λc b=>(d6 c b).imp id λh=>by omega⟩,dZ,(Ext.mod bL).trans d5,λv I=>a0 v (RA I _),AH H (Kx (AN _ (BW _)) _)⟩ cc.2
 have f4:=bN.size;have f5:=cX.fA;have cZ:Mod (λc=>k c≠0) h ax:=(Ext.mod bL).trans (bN.aj λc _ b=>by rw[V.kb c b];decide);have bi: ∀x,x≠aX st.next->ff ac x=ff m x:=λx E=>by rw[a0,if_neg E]
 have c0:ba ac.files<=ba m.files+(8400*B.C+1100001):=by omega
 have d7: ∀n,ff ac (aC nl n)=ff m (aC nl n):=λn=>bi _ (MI n _)
 have c3: ∀ {F':bO},(∀ n,F' (aX n)≠none->ff ac (aX n)≠none)-> ∀n,F' (aX n)≠none->n<8*(aH+1)+8:=λad n u=>by
  by_cases e:n=st.next
  ·omega
  ·have o:=ad n u;rw[bi _ λaN=>e (Jg aN)] at o;have:=L.fA l o;omega
 refine aD (AX.mk (AB ak.cell rfl) ?_);have c4:=AMf (F:=ff m) (made:=st.bo) (s:=st.aw) cb.up λb9=>⟨_,by rw[d7];exact L.jA b9⟩
 refine XD (ak.ib aV) ak.log ak.box ak.lD (by decide) (by omega) (λd8 J bS c5 a1=>⟨_,_,rfl,?_⟩) λc6 J bS c5 a1=>⟨_,_,rfl,?_⟩
 ·rcases c4 with⟨c7,a2⟩|⟨a2,_,_⟩
  ·rw[a2] at bS ⊢;refine af.yes rfl ?_;refine Jl (q:= {q with Sb:=ay}) ak bS (a1.aj λc _ b=> .inl b) (λc b=> .inl b) λd9 ea eb ec ed=>⟨_,rfl,?_⟩
   have cc:=L.jB (F':=ff (NU ac)) (l.mono (Ix aH 2) (A0 _)) (λx E=>bi x (E _ aZ)) λn u=>by
    have:=c3 (F':=ff (NU ac)) (λn u=>u) n u;omega
   have H:=B.step2 aY c0 (Ix _ _);refine be d9 (NU ac) ⟨(λz=>by have:=cb.calm z;rw[c7] at this;cases this),ea,⟨ay,eb,λc b=>?_⟩,rfl,cZ.then (ec.aj λc _ b=>?_),λv I=>bi v (RA I _),AH H (Kx (AN _ (BW _)) _)⟩ cc.2
   ·rcases ed c b with o|o
    ·by_cases Z:c<Y.size
     ·rw[bQ c Z] at o;exact .inl o
     ·exact .inr (by omega)
    ·exact .inr (by omega)
   ·by_cases Z:c<Y.size
    ·rw[bQ c Z] at b;exact .inl b
    ·exact .inr (by omega)
  ·exact absurd a2 d8
 refine af.no rfl ?_;rcases c4 with⟨c7,a2⟩|⟨a2,ee,ef⟩
 ·rw[a2] at c6;cases c6
 have eh:=AN3 ak.box.aQ (aC nl st.aw) st.bo;have ag:=ak.boxed (j:=3) (bH:= {st with aw:=st.aw+1,bo:=false}) bS (a1.aj λc _ b=>b.imp id λh=> .inl ⟨rfl,h⟩) (λc b=> .inl b) rfl rfl rfl rfl (.inr c5) (.inl ⟨by decide,rfl⟩);generalize (NI ac (aC nl st.aw) st.bo).2=ab at*
 have f6:=a1.size;have c8: ∀c,c<ax.size->Jm bP ax.size ay 2 c=bP c:=λc b=>GY b
 generalize Jm bP ax.size ay 2=ap at*
 have ei:Mod (λc=>k c≠0) h J:=cZ.then (a1.aj λc _ b=>by
  have o:bP c≠0:=by
   rcases b with b|b
   ·rw[ak.kb c b];decide
   ·rw[b,ak.kl];decide
  by_cases Z:c<Y.size
  ·rw[bQ c Z] at o;exact .inl o
  ·exact .inr (by omega))
 have cd: ∀c,ap c≠0->k c≠0\/h.size<=c:=λc b=>by
  by_cases Z:c<Y.size
  ·rw[c8 c (by omega),bQ c Z] at b;exact .inl b
  ·exact .inr (by omega)
 have ce: ∀c,J.size<=c->ap c=0:=λc b=>Decidable.byContradiction λh=>by
  have:=(ag.own c h).2;omega
 have cf: ∀c,aL<=c->c<aM->ap c=0:=λc c1 c2=>by rw[c8 c (by omega)];exact cY c c1
 have cg: ∀x,ff ab x=ff ac x:=ef;have a3: ∀x,x≠aX st.next->ff ab x=ff m x:=λx E=>(cg x).trans (bi x E)
 have ej:ff ab (aX st.next)=some (AY (Js st.fr),bq):=by rw[cg,a0,if_pos rfl]
 have ch:Jf m ab:=cb.trans ee;have bh:ba ab.files<=ba m.files+(8400*B.C+1100001):=AH eh c0;have ek:BG (ff ab) D:=L.ok.fV λx E=>a3 x (E st.next (by rw[L.names];exact aZ))
 have c9: ∀ {F':bO},(∀ n,F' (aX n)≠none->ff ab (aX n)≠none)-> ∀n,F' (aX n)≠none->n<8*(aH+1)+8:=λad n u=>c3 (F':=ff ab) (λn u=>by rw[<- cg];exact u) n (ad n u)
 have el: ∀(z:aa) (y:Hp) (ci:Nat->Nat),bK g z y ci {st with ts:=(st.next,st.fr)::st.ts,next:=st.next+1,aW:=st.aw+1,aw:=st.aw+1,bo:=false} ab->y.d=q.d->y.b=q.b->Mod (λc=>k c≠0) h z->(∀ c,ci c≠0->k c≠0\/h.size<=c)->
   AA A P KM #[Ap y.d] z λen da=> ∃cj:Int,en=J6 J9 cj/\(
         af (cj != (0:Int)) (
          AA A P Cm #[Ap y.d,J6 J9 cj] da λep eq=> ∃db:Int,ep=J6 J9 db/\(
          R (J6 J9 db) eq)) (
          AA A P QZ #[] da λer dc=> ∃dd:Q2,er=J5 dd/\(
          At (some (⟨y.d,0,none⟩:Q6)) λes=>
          ae dc (es.add 3) (J5 dd) λaq=>
          At (some (⟨y.d,0,none⟩:Q6)) λet=>
          AX aq (et.add 1) λeu=>
          AA A P JY #[J5 eu,J6 J9 (st.aw:Int)] aq λev au=> ∃ck:Int,ev=J6 J9 ck/\(
          af (ck != (0:Int)) (
           AA A P Cm #[Ap y.d,J6 J9 ck] au λew cl=> ∃de:Int,ew=J6 J9 de/\(
           R (J6 J9 de) cl)) (
           At (some (⟨y.d,0,none⟩:Q6)) λex=>
           Aa au (ex.add 4) λey=>
           af (decide (((ey.len:Nat):Int)>=(4:Int))) (
            AA A P Jp #[Ap y.d] au λez eA=> ∃df:Int,ez=J6 J9 df/\(
            R (J6 J9 df) eA)) (
            R (J6 J9 0) au)))))):=by
  intro z y ci bj bk az bT a4;have eB:gY (cQ {st with ts:=(st.next,st.fr)::st.ts,next:=st.next+1,aW:=st.aw+1,aw:=st.aw+1,bo:=false}):=by
   refine⟨by show st.next+1<=_;omega,by show 1<=st.aw+1/\st.aw+1<=_;omega,?_,λn u=>?_,?_⟩
   ·show((st.next,st.fr)::st.ts |>.map (·.1)).length<=_;simp;omega
   ·show n<st.next+1;rcases List.mem_cons.1 u with rfl|u
    ·exact Hh _
    ·obtain⟨p,aj,rfl⟩:=List.mem_map.1 u;have:=L.below p aj;omega
   ·exact List.nodup_cons.2 ⟨aZ,L.nd⟩
  have eC: ∀n∈st.next::st.ts.map (·.1),ff ab (aX n)=some (AY (Js ((Kc D.T st.next st.fr) n)),bq)/\Ha ((Kc D.T st.next st.fr) n):=λn u=>by
   by_cases e:n=st.next
   ·subst e;rw[EM];exact⟨ej,bJ⟩
   ·rw[GL e,a3 _ λaN=>e (Jg aN)];rcases List.mem_cons.1 u with o|o
    ·exact absurd o e
    ·exact L.ok.cO n (by rw[L.names];exact o)
  have dg: ∀r:Bo,r.T=Kc D.T st.next st.fr->(st.next::st.ts.map (·.1)).map r.T=st.fr::aE st:=λr bU=>by
   rw[BT,bU,EM];congr 1;rw[<- L.aE,L.names];refine CH λn u=>GL λe=>aZ (e▸u)
  have dh: ∀r:Bo,r.L=D.L->r.aO=D.aO->Ao r=cQ {st with ts:=(st.next,st.fr)::st.ts,next:=st.next+1,aW:=st.aw+1,aw:=st.aw+1,bo:=false}->r.T=Kc D.T st.next st.fr->cC r=Cr st/\OG r<=c/\Es r= []:=λr eD di a5 bU=>by
   have az:=ANC (f:=st.aw+1) eD di (by rw[a5];rfl) λn u=>L.sP l (by omega) (by omega)
   have dj:Es r= []:=by unfold Es;rw[az];rfl
   have dk:(Ao r).names=st.next::st.ts.map (·.1):=by rw[a5];rfl
   refine⟨?_,?_,dj⟩
   ·unfold cC;rw[dj,dk,dg r bU];exact AHp V.fU
   ·unfold OG;rw[az,dk];have C:((st.next::st.ts.map (·.1)).map λn=>(r.T n).length)=((st.next::st.ts.map (·.1)).map r.T).map List.length:=by rw[AT];rfl
    rw[C,dg r bU];have:((st.fr::aE st).map List.length).sum=st.fr.length+M.total (aE st):=by simp[M.total]
    rw[this];simpa using dS
  have dl: ∀(r:Bo) (F':bO),BG F' r->r.aO=D.aO->r.aY<=max D.aY (st.aJ+1)->Ao r=cQ {st with ts:=(st.next,st.fr)::st.ts,next:=st.next+1,aW:=st.aw+1,aw:=st.aw+1,bo:=false}->cC r=Cr st->OG r<=c->(∀ n,F' (aX n)≠none->ff ab (aX n)≠none)->Rec F' (aH+1) c (Cr st):=λr F' o di u a5 eE eF ad=>by
   refine⟨r,o,⟨by omega,by omega,?_,?_,?_,eF,c9 ad⟩,eE⟩
   ·rw[a5];show st.next+1<=_;omega
   ·rw[a5];show st.aw+1<=_;omega
   ·rw[a5];show((st.next,st.fr)::st.ts |>.map (·.1)).length<=_;simp;omega
  have eG:ba ab.files+1000000<=8000000000000:=by have o:=B.wt (a:=aH+1) (by omega);have H:ba ab.files+1000000<=B.W0+(aH+1)*B.K:=B.step (d:=8400*B.C+1100001+1000000) aY (AQj bh) (AOM B.C);exact AH H o
  have dm: ∀ {dn:Nat},dn<=B.W0+(aH+1)*B.K->dn<=B.W0+(aH+2)*B.K:=λh=>AH h (Kx (AN _ (BW _)) _)
  refine ALd (T:=Kc D.T st.next st.fr) aV bj ch.up ek eB eC ⟨L.aJ,by show st.aJ+2<=_;omega⟩ (λn W ah=>by rw[a3 _ (Ql n _)];exact L.jz n W ah) eG
   (λbg w cm al eH eI bV cV eJ a6 cn=>⟨_,rfl,af.yes rfl ?_⟩) λw cm co al D3 cq dp dq a7 dr eK cr eL a6 eM cn bV eN=>⟨_,rfl,af.no rfl ?_⟩
  ·refine Jl bj eH (bV.aj λc _ b=>b.imp id .inr) cV λY eO eP eQ ca=>⟨_,rfl,?_⟩
   have eR:Mod (λc=>k c≠0) h Y:=bT.then (eQ.aj λc _ b=>a4 c b);refine be Y al ⟨λz=>bg (ch.calm z),by rw[<- bk];exact eO,⟨cm,by rw[<- az];exact eP,λc b=>?_⟩,eI,eR,λv I=>?_,dm (B.step2 aY bh cn)⟩ λG bm=>?_
   ·rcases ca c b with o|o
    ·exact a4 c o
    ·exact .inr (by have:=bT.size;omega)
   ·rw[a6 v λn=>lj I n,a3 v (RA I _)]
   ·obtain⟨r,ds,nx⟩:=eJ G bm;have dt: ∀n,G (aX n)≠none->ff ab (aX n)≠none:=λn u=>by
     have:=bm.some u;rwa [a6 _ λj e=>Ql j n e.symm] at this
    have bW:r.aY<=max D.aY (st.aJ+1):=nx.aY;rcases nx.last with⟨am,C⟩|⟨am,C⟩
    ·obtain⟨bn,bX⟩:=AHb nx.L nx.aO am C;have:=L.next;have eS:Rec G (aH+1) c (Cr st):=⟨r,ds,⟨by rw[nx.aO];omega,by omega,by rw[am];omega,by rw[am,L.aW];omega,by rw[am,L.iF];omega,by rw[bX];exact l.bW,c9 dt⟩,by rw[bn];exact L.map⟩;exact eS.mono (BW _) (A0 _)
    ·obtain⟨bn,bX,_⟩:=dh r nx.L nx.aO am C;exact(dl r G ds nx.aO bW am bn bX dt).mono (BW _) (A0 _)
  ·obtain⟨bn,bX,eT⟩:=dh D3 eK cr a7 dr;have f7:=bV.size;have bW:D3.aY<=max D.aY (st.aJ+1):=eL;have cs:ba al.files<=B.W0+(aH+1)*B.K:=B.step2 aY bh cn;have du:Jf m al:=ch.trans dp;have dv:Mod (λc=>k c≠0) h w:=bT.then (bV.aj λc _ b=>by
    rcases b with b|b
    ·exact a4 c (by rw[bj.kb c b];decide)
    ·exact a4 c (by rw[b,bj.kn];decide))
   have eU: ∀c,co c≠0->k c≠0\/h.size<=c:=λc b=>by
    by_cases Z:c<z.size
    ·rw[eN c Z] at b;exact a4 c b
    ·exact .inr (by have:=bT.size;omega)
   refine M.sS λdc eV ct f8=>⟨_,rfl,?_⟩
   have eW:=cq.on ct;refine aD (ae.dt eW.cell (by simp) λaq eX cu f9=>?_);have eY:M.cY aq w.size [] []:=eV.mod cu λc b e=>by
    have ga:c=w.size:=by
     rcases b with rfl|⟨x,E,_⟩
     ·rfl
     ·cases E
    have:=cq.ia;have C:(y.d:Nat)<w.size:=this;have gb:c=y.d:=e;omega
   have dw:Mod (λc=>c=w.size\/c=y.d) w aq:=(Ext.mod ct).trans (cu.aj λc _ b=> .inr b);have av:=cq.renew (h':=aq) (gG:=w.size) eY (A0 _) (by simpa [eg] using eX) (by
    refine⟨dw.size,λc b u=>?_⟩;exact dw.get c b (by rintro(h|h);omega;exact u h))
   have cv:Mod (λc=>k c≠0) h aq:=(dv.trans (Ext.mod ct)).then (cu.aj λc _ b=>by
    have e:c=y.d:=b;rw[e];exact a4 _ (by rw[bj.kd];decide))
   have bY: ∀c,Jm co w.size (· =w.size) 5 c≠0->k c≠0\/h.size<=c:=λc b=>by
    by_cases Z:c<w.size
    ·rw[GY Z] at b;exact eU c b
    ·exact .inr (by have:=dv.size;omega)
   generalize Jm co w.size (· =w.size) 5=dx at*
   refine aD (AX.mk (AB av.cell rfl) ?_);have gc:=cv.size;have eZ:ba al.files<=8000000000000:=AH cs (B.wt (a:=aH+1) (by omega));have cw: ∀x,x≠aX st.next->(∀ n,x≠aC nn n)->ff al x=ff m x:=λx o H=>(a6 x H).trans (a3 x o)
   have e0:(Ao D3).aW=st.aw+1:=by rw[a7];rfl
   have dy: ∀ {F':bO},(∀ x,F' x=ff al x\/(F' x=none/\ ∃n:Nat,1<=n/\n<=99999999/\n<=st.aw/\x=aC nl n))->BG F' (Np D3 F')/\cC (Np D3 F')=Cr st/\OG (Np D3 F')<=c/\Es (Np D3 F')= []:=λ{F'} ad=>by
    have o: ∀n,n<=99999999->F' (aC nl n)=ff al (aC nl n)\/(F' (aC nl n)=none/\n<(Ao D3).aW):=λn ah=>by
     rcases ad (aC nl n) with o|⟨o,j,_,_,gd,e⟩
     ·exact .inl o
     ·refine .inr ⟨o,?_⟩;rw[e0,Iw e];omega
    have H:=APQ dq o λx E=>by
     rcases ad x with w|⟨_,j,_,e1,_,e⟩
     ·exact w
     ·exact absurd e (E j e1)
    have Y:=AJp dq o;have ax:Es (Np D3 F')=Es D3:=by unfold Es;rw[Y]
    refine⟨H,?_,?_,by rw[ax];exact eT⟩
    ·rw[<- bn];unfold cC;rw[ax];rfl
    ·have:OG (Np D3 F')=OG D3:=by unfold OG;rw[Y];rfl
     omega
   refine AFy (av.ib aV) (λh' x=>av.fW aV (x.aj λc _ b=> .inl b)) av.log av.box dp.up av.lD (by decide) eZ (λe2=>absurd e2 (by show ¬(st.aw:Int)>=((st.aw+1:Nat):Int);omega))
    (λbg au aO O cx e3 bZ cy cz bp=>⟨_,rfl,af.yes rfl ?_⟩) λ_ au aO O cx dz bZ cy cz bp dA=>⟨_,rfl,af.no rfl ?_⟩
   ·have ad: ∀x,ff O x=ff al x\/(ff O x=none/\ ∃n:Nat,1<=n/\n<=99999999/\n<=st.aw/\x=aC nl n):=λx=>by
     rcases bp x with o|⟨o,n,W,ah,b0,e⟩
     ·exact .inl o
     ·exact .inr ⟨o,n,W,ah,by omega,e⟩
    obtain⟨cB,cD,cE,_⟩:=dy ad;refine Jl (q:= {y with Sb:=cm,ft:=w.size,ns:= []}) av cx (bZ.aj λc _ b=> .inl b) (λc b=> .inl (cy c b)) λcl e4 e5 e6 e7=>⟨_,rfl,?_⟩
    refine be cl O ⟨λz=>bg (du.calm z),by rw[<- bk];exact e4,⟨aO,by rw[<- az];exact e5,λc b=>?_⟩,e3,cv.then (e6.aj λc _ b=>bY c b),λv I=>?_,dm (AH cz cs)⟩ λG bm=>?_
    ·rcases e7 c b with o|o
     ·exact bY c o
     ·exact .inr (by omega)
    ·rcases bp v with o|⟨_,n,_,_,_,e⟩
     ·rw[o,cw v (RA I _) λn=>lj I n]
     ·exact absurd e (oS I n)
    ·refine(dl (Np D3 (ff O)) G (cB.dP bm) cr bW a7 cD cE λn u=>?_).mono (BW _) (A0 _);have o:=bm.some u;rcases bp (aX n) with H|⟨_,j,_,_,_,e⟩
     ·rwa [H,a6 _ λj e=>Ql j n e.symm] at o
     ·exact absurd e.symm (MI j n)
   ·have ad: ∀x,ff O x=ff al x\/(ff O x=none/\ ∃n:Nat,1<=n/\n<=99999999/\n<=st.aw/\x=aC nl n):=λx=>by
     by_cases E: ∃n:Nat,1<=n/\n<=99999999/\(n:Int)<=(st.aw:Int)/\x=aC nl n
     ·obtain⟨n,W,ah,b0,rfl⟩:=E;exact .inr ⟨bp n W ah b0,n,W,ah,by omega,rfl⟩
     ·exact .inl (dA x λn W ah b0 e=>E ⟨n,W,ah,b0,e⟩)
    obtain⟨cB,cD,cE,e8⟩:=dy ad;have b1:=av.boxed (j:=2) (bH:= {st with fr:= [],ts:=(st.next,st.fr)::st.ts,next:=st.next+1,aW:=st.aw+1,aw:=st.aw+1,aJ:=st.aJ+1,bo:=false}) cx (bZ.aj λc _ b=> .inl b) (λc b=> .inl (cy c b)) rfl rfl rfl rfl (.inl ⟨by decide,rfl,rfl⟩) (.inl ⟨by decide,rfl⟩);have br:Mod (λc=>k c≠0) h au:=cv.then (bZ.aj λc _ b=>bY c (by rw[av.kb c b];decide));have bs: ∀c,Jm dx aq.size aO 2 c≠0->k c≠0\/h.size<=c:=λc b=>by
     by_cases Z:c<aq.size
     ·rw[GY Z] at b;exact bY c b
     ·exact .inr (by omega)
    generalize Jm dx aq.size aO 2=dB at*
    have cG: ∀x,(∀ n,x≠aC nl n)->ff O x=ff al x:=λx E=>dA x λn _ _ _=>E n
    have e9: ∀p∈(st.next,st.fr)::st.ts,(Np D3 (ff O)).T p.1=p.2:=λp aj=>by
     show D3.T p.1=p.2;rw[dr];rcases List.mem_cons.1 aj with rfl|aj
     ·exact EM
     ·rw[GL λe=>aZ (by rw[<- e];exact List.mem_map.2 ⟨p,aj,rfl⟩)];exact L.cj p aj
    have dC:Ee (ff O) {st with fr:= [],ts:=(st.next,st.fr)::st.ts,next:=st.next+1,aW:=st.aw+1,aw:=st.aw+1,aJ:=st.aJ+1,bo:=false} (Np D3 (ff O)):=
     ⟨cB,congrArg Nt.names a7,e9,congrArg Nt.aW a7,by rw[show Ao (Np D3 (ff O))=_ from a7];exact A0 _,λp aj=>by
      show p.1<st.next+1;rcases List.mem_cons.1 aj with rfl|aj
      ·exact Hh _
      ·have:=L.below p aj;omega,e8.symm,λn W ah _=>by
      have W:st.aw+1<=n:=W;rcases ad (aC nl n) with o|o
      ·rw[o,cw _ (MI n _) λj=>WO n j];exact L.gE n (by omega) ah λ_=>by omega
      ·exact o.1,(λh=>by cases h),λn W ah=>by
      have W:st.aJ+1<=n:=W;rw[cG _ λj e=>WO j n e.symm];exact eM n W ah,⟨by show 1<=st.aw+1;omega,A0 _⟩,by show 1<=st.aJ+1;omega,λn u=>by
      rw[cG _ λj e=>MI j n e.symm,a6 _ λj e=>Ql j n e.symm] at u;by_cases e:n=st.next
      ·subst e;exact CC
      ·rw[a3 _ λaN=>e (Jg aN)] at u;exact AG _ (L.clean n u)⟩
    have ge:(Np D3 (ff O)).aY<=max D.aY (st.aJ+1):=bW;have gf:(Np D3 (ff O)).aO=D.aO:=cr;have fa:TH {st with fr:= [],ts:=(st.next,st.fr)::st.ts,next:=st.next+1,aW:=st.aw+1,aw:=st.aw+1,aJ:=st.aJ+1,bo:=false} (Np D3 (ff O)) (aH+1) c:=
     ⟨by show st.aw+1<=_;omega,by show st.aJ+1<=_;omega,by show st.next+1<=_;omega,by show((st.next,st.fr)::st.ts).length<=_;simp;omega,cE,by omega,by omega⟩
    have dD:Br B g au {y with Sb:=aO,ft:=w.size,ns:= []} dB {st with fr:= [],ts:=(st.next,st.fr)::st.ts,next:=st.next+1,aW:=st.aw+1,aw:=st.aw+1,aJ:=st.aJ+1,bo:=false} O (Np D3 (ff O)) (aH+1) c:=
     ⟨b1,dz.up,dC,fa,AH cz cs,b⟩
    have cH:Cr {st with fr:= [],ts:=(st.next,st.fr)::st.ts,next:=st.next+1,aW:=st.aw+1,aw:=st.aw+1,aJ:=st.aJ+1,bo:=false}=Cr st:=by rw[<- cD];exact dC.map.symm
    have cI:Jf m O:=du.trans dz;have cJ: ∀v,¬cF v->ff O v=ff m v:=λv I=>by rw[cG v λn=>oS I n,cw v (RA I _) λn=>lj I n]
    refine aD (Aa.mk (s:=y.tp) (AB b1.cell rfl) ?_);have fb:=b1.cj.len;have fc:=b1.da;have gg:y.tp.len=st.ts.length+1:=by have am:y.tp.len=y.ps.length:=fb;have C:y.ps.length=((st.next,st.fr)::st.ts).length:=fc;rw[am,C];rfl
    refine af.intro (λdE=>?_) (λdE=>?_)
    ·refine AJ5 (q:= {y with Sb:=aO,ft:=w.size,ns:= []}) aV dD (by omega) (λh' an aP dF=>⟨_,rfl,?_⟩) λh' bf bG bH an r am C S' fd fe fg gh fh fi fj=>⟨_,rfl,?_⟩
     ·rw[cH] at dF;obtain⟨S',fk,fl⟩:=aP.box;refine be h' an ⟨λz=>aP.fuel (cI.calm z),by rw[<- bk];exact aP.dn,⟨S',by rw[<- az];exact fk,λc b=>?_⟩,aP.down,br.then (aP.mod.aj λc _ b=>bs c b),λv I=>(aP.dV v I).trans (cJ v I),aP.wt⟩ dF;rcases fl c b with o|o
      ·exact bs c o
      ·exact .inr (by have:=br.size;omega)
     ·refine b8 h' bf bG bH an r (am.trans bk) (C.trans az) S' (cI.trans fd) fe (fg.trans cH) (.inl (by omega)) (λv I=>(fh v I).trans (cJ v I)) (br.then (fi.aj λc _ b=>bs c b)) λc b=>?_
      rcases fj c b with o|o
      ·exact bs c o
      ·exact .inr (by have:=br.size;omega)
    ·have gi: ¬((y.tp.len:Nat):Int)>=4:=of_decide_eq_false dE;refine b8 au {y with Sb:=aO,ft:=w.size,ns:= []} dB _ O _ bk az (dD.aH (BW _)) cI rfl cH (.inl ?_) cJ br bs;show((st.next,st.fr)::st.ts).length<=3;rw[A6];omega
 refine ai.mk λfm fn=>?_
 have a8: ∀c,q.tp.ag=some c->ap c=6:=ag.kt;have aQ: ∀c,q.np.ag=some c->ap c=7:=ag.kx;have cK: ∀(z:aa) (tp np:Sl) (N:Nat),Own fL BK z tp (t::q.ps)->Own IY Bq z np ((st.next:Int)::eo st)->Mod (λc=>q.tp.ag=some c\/q.np.ag=some c) J z->(∀ c,tp.ag=some c->(q.tp.ag=some c\/J.size<=c)/\c<N)->(∀ c,np.ag=some c->q.np.ag=some c\/(J.size<=c/\N<=c))->
   ae z ((⟨q.d,0,none⟩:Q6).add 4) (J4 tp.p tp.len tp.cap) λdG=>ae dG ((⟨q.d,0,none⟩:Q6).add 5) (J4 np.p np.len np.cap) λaR=>fm () aR:=by
  intro z tp np N fo on bt b2 b3;have aS:ap q.d=1:=ag.kd;have nd: ¬(q.tp.ag=some q.d\/q.np.ag=some q.d):=by
   rintro(h|h)
   ·have:=a8 _ h;rw[aS] at this;cases this
   ·have:=aQ _ h;rw[aS] at this;cases this
  have fp:=bt.ag ag.cell nd;have gj:=bt.size;have gk:q.d<J.size:=ag.ia;refine ae.dt fp (by simp) λdG fq fs gl=>ae.dt fq (by simp) λaR fu fw gm=>?_
  have aT:Mod (· =q.d) z aR:=fs.trans fw;have cL: ∀c,tp.ag=some c-> ¬c=q.d:=λc b e=>by
   rcases(b2 c b).1 with h|h
   ·exact nd (.inl (e▸h))
   ·omega
  have dH: ∀c,np.ag=some c-> ¬c=q.d:=λc b e=>by
   rcases b3 c b with h|h
   ·exact nd (.inr (e▸h))
   ·omega
  have dI:=fo.mod aT cL;have dJ:=on.mod aT dH;have gn:=ag.ext.size;have a9:=ag.eY (h':=aR) (tp:=tp) (np:=np) (ps:=t::q.ps) (ts:=(st.next,st.fr)::st.ts) (next:=st.next) (aW:=st.aW) (S:=λc=>aL<=c/\c<aM)
   (by simpa [eg] using fu) ((bt.aj λc _ b=> .inr b).trans (aT.aj λc _ b=> .inl b)) dI dJ (by have:=V.da;simp[this])
   (λc b=>by
    obtain⟨o,H⟩:=b2 c b;by_cases e:q.tp.ag=some c
    ·exact .inl e
    ·have w:J.size<=c:=o.resolve_left e;refine .inr ⟨ce c w,by omega,λC=>?_,λh=>by omega⟩;rcases b3 c C with Y|Y
     ·have:=aQ c Y;rw[ce c w] at this;cases this
     ·omega)
   (λc b=>by
    by_cases e:q.np.ag=some c
    ·exact .inl e
    ·have w:=(b3 c b).resolve_left e;refine .inr ⟨ce c w.1,by omega,λC=>?_,λh=>by omega⟩;have:=(b2 c C).2;omega)
   (λc b=>⟨by have:=bM.ext.size;omega,by have:=aT.size;omega⟩)
   (λi t' p o H=>by
    cases i with
    |zero=>
     simp only[Hn,BE] at o H;subst o H;have fx:bR J t st.fr (NG st.fr) aL aM:=cX.mod a1 λc c1 c2 b=>by
      have aA:=cY c c1;rcases b with b|b
      ·have:=ak.kb c b;rw[aA] at this;cases this
      ·have:=ak.kl;rw[<- b,aA] at this;cases this
     have fy:bR z t st.fr (NG st.fr) aL aM:=fx.mod bt λc c1 c2 b=>by
      have aA:=cf c c1 c2;rcases b with b|b
      ·have:=a8 c b;rw[aA] at this;cases this
      ·have:=aQ c b;rw[aA] at this;cases this
     refine .inr ⟨aL,aM,fy.mod aT λc c1 c2 b=>?_,by have:=aT.size;omega,λc c1 c2=>⟨⟨c1,c2⟩,cf c c1 c2⟩,bJ⟩;have aA:=cf c c1 c2;rw[b,aS] at aA;cases aA
    |succ i=>exact .inl ⟨i,by simpa using o,by simpa using H⟩)
  have dK: ∀c,Lp ap J.size tp np (λc=>aL<=c/\c<aM) c≠0->k c≠0\/h.size<=c:=λc b=>by
   by_cases e:ap c=0
   ·by_cases Z:c<Y.size
    ·exfalso;apply b;unfold Lp;rw[if_neg (by simp[e]),if_neg λC=>?_,if_neg λC=>?_,if_neg (by omega)]
     ·rcases b3 c C with bu|bu
      ·have:=aQ c bu;rw[e] at this;cases this
      ·omega
     ·rcases(b2 c C).1 with bu|bu
      ·have:=a8 c bu;rw[e] at this;cases this
      ·omega
    ·exact .inr (by omega)
   ·exact cd c e
  generalize Lp ap J.size tp np (λc=>aL<=c/\c<aM)=bv at*
  have fz:Mod (λc=>k c≠0) h aR:=(ei.then (bt.aj λc _ b=>cd c (by
   rcases b with b|b
   ·rw[a8 c b];decide
   ·rw[aQ c b];decide))).then (aT.aj λc _ b=>cd c (by rw[b,aS];decide))
  refine fn _ _ ?_;refine aD (AC.mk (AB a9.cell rfl) (aD (ae.dt a9.cell (by simp) λfA cM fB fC=>aD (ae.dt cM (by simp) λcN b4 fE go=>?_))));have fF:J8 J9 (((st.next:Nat):Int)+(1:Int))=((st.next+1:Nat):Int):=Ab (by omega);have fG:J8 J9 (((st.aw:Nat):Int)+(1:Int))=((st.aw+1:Nat):Int):=Ab (by omega);have b5:Mod (· =q.d) aR cN:=fB.trans fE;have gp: ∀c,tp.ag=some c-> ¬c=q.d:=cL;have fH:=a9.eY (h':=cN) (tp:=tp) (np:=np) (ps:=t::q.ps) (ts:=(st.next,st.fr)::st.ts) (next:=st.next+1) (aW:=st.aw+1) (S:=λ_=>False)
   (by rw[fF,fG] at b4;simpa [eg] using b4) (b5.aj λc _ b=> .inl b) (dI.mod b5 cL) (dJ.mod b5 dH) (by have:=V.da;simp[this]) (λc b=> .inl b) (λc b=> .inl b) (λc h=>h.elim) (λi t' p o H=> .inl ⟨i,o,H⟩)
  have fI: ∀c,Lp bv aR.size tp np (λ_=>False) c≠0->k c≠0\/h.size<=c:=λc b=>by
   by_cases e:bv c=0
   ·exfalso;apply b;unfold Lp;rw[if_neg (by simp[e]),if_neg λC=>?_,if_neg λC=>?_,if_neg λh=>h]
    ·have o:bv c=7:=a9.kx c C;rw[e] at o;cases o
    ·have o:bv c=6:=a9.kt c C;rw[e] at o;cases o
   ·exact dK c e
  exact el cN {q with Sb:=ay,tp:=tp,np:=np,ps:=t::q.ps} _ fH rfl rfl (fz.then (b5.aj λc _ b=>dK c (by
   have o:bv q.d=1:=a9.kd;rw[b,o];decide))) fI
 have cO:=ag.cell;have b6:Own fL BK J q.tp q.ps:=ag.cj;have b7:Own IY Bq J q.np (eo st):=ag.names;have cP:q.ps.length<=1000000:=by rw[V.da];omega
 have cR:(eo st).length<=1000000:=by simp[eo];omega
 have bb: ∀c,q.tp.ag=some c->q.np.ag≠some c:=λc o H=>by
  have:=a8 c o;rw[aQ c H] at this;cases this
 have bw: ∀c,q.tp.ag=some c->c<J.size:=λc b=>b6.lt b
 have bc: ∀c,q.np.ag=some c->c<J.size:=λc b=>b7.lt b
 refine aD (Aa.mk (s:=q.tp) (AB cO rfl) (aD (Aa.mk (s:=q.np) (AB cO rfl) (aD (AC.mk (AB cO rfl) ?_)))));have Q: ∀ {z:aa},Mod (λc=>q.tp.ag=some c\/q.np.ag=some c) J z->z[q.d]? =some (J2 (eg {q with Sb:=ay} {st with aw:=st.aw+1,bo:=false} false) FP (0,0)):=λx=>x.ag ag.cell (by
  have aS:ap q.d=1:=ag.kd;rintro(h|h)
  ·have:=a8 _ h;rw[aS] at this;cases this
  ·have:=aQ _ h;rw[aS] at this;cases this)
 refine⟨?_,?_⟩
 ·refine ao.mk λfJ _ dL aU gq=>⟨AB (Q (Ext.mod aU)) rfl,AB (Q (Ext.mod aU)) rfl,AB (Q (Ext.mod aU)) rfl,?_,?_⟩
  ·refine qT (b6.ext aU) dL (λe=>by have:=bw _ e;omega) cP λaF X aG ar aI=>⟨_,rfl,?_⟩
   have U:Mod (λc=>q.tp.ag=some c\/q.np.ag=some c) J X:=(Ext.mod aU).trans (ar.aj λc _ b=> .inl b);refine⟨AB (Q U) rfl,AB (Q U) rfl,ao.mk λfK _ fM bx gr=>⟨AB (Q (U.trans (Ext.mod bx))) rfl,AB (Q (U.trans (Ext.mod bx))) rfl,?_⟩⟩;have bz:Own IY Bq fK q.np (eo st):=(((b7.ext aU).mod ar λc b e=>bb c e b)).ext bx;refine qU bz fM (λe=>by have:=bc _ e;have:=U.size;omega) cR λbA bB bC aK bD=>⟨_,rfl,?_⟩
   have dM:=U.size;have bE: ∀c,aF.ag=some c->c<X.size:=λc b=>aG.lt b
   refine cK bB aF bA X.size (((aG.ext bx)).mod aK λc b e=>?_) bC ((U.trans (Ext.mod bx)).trans (aK.aj λc _ b=> .inr b)) (λc b=>⟨(aI c b).imp id λh=>by omega,bE c b⟩) λc b=>(bD c b).imp id λh=>⟨by omega,by omega⟩
   rcases aI c b with o|o
   ·exact bb c o e
   ·have:=bc c e;omega
  ·refine ao.mk λfA _ cM dN fC=>?_
   have bF:=aU.trans dN;refine⟨AB (Q (Ext.mod bF)) rfl,AB (Q (Ext.mod bF)) rfl,?_⟩;refine qT (b6.ext bF) (dN.ag dL λh=>h) (λe=>by have:=bw _ e;omega) cP λaF X aG ar aI=>⟨_,rfl,?_⟩
   have U:Mod (λc=>q.tp.ag=some c\/q.np.ag=some c) J X:=(Ext.mod bF).trans (ar.aj λc _ b=> .inl b);refine⟨AB (Q U) rfl,AB (Q U) rfl,?_⟩;have dM:=U.size;have bz:Own IY Bq X q.np (eo st):=(b7.ext bF).mod ar λc b e=>bb c e b
   have b4:X[fJ.size]? =some (J2 #[J6 J9 (st.next:Int)] Bq (0,0)):=ar.ag cM (λe=>by have:=bw _ e;omega);refine qU bz b4 (λe=>by have:=bc _ e;omega) cR λbA bB bC aK bD=>⟨_,rfl,?_⟩
   have bE: ∀c,aF.ag=some c->c<X.size:=λc b=>aG.lt b
   refine cK bB aF bA X.size (aG.mod aK λc b e=>?_) bC (U.trans (aK.aj λc _ b=> .inr b)) (λc b=>⟨(aI c b).imp id λh=>by omega,bE c b⟩) λc b=>(bD c b).imp id λh=>⟨by omega,by omega⟩
   rcases aI c b with o|o
   ·exact bb c o e
   ·have:=bc c e;omega
 ·refine ao.mk λgs _ fO cS gt=>⟨AB (Q (Ext.mod cS)) rfl,AB (Q (Ext.mod cS)) rfl,ao.mk λgu _ fP dO gv=>?_⟩
  have bd:=cS.trans dO;refine⟨AB (Q (Ext.mod bd)) rfl,AB (Q (Ext.mod bd)) rfl,AB (Q (Ext.mod bd)) rfl,?_⟩;refine qT (b6.ext bd) fP (λe=>by have:=bw _ e;omega) cP λaF X aG ar aI=>⟨_,rfl,?_⟩
  have U:Mod (λc=>q.tp.ag=some c\/q.np.ag=some c) J X:=(Ext.mod bd).trans (ar.aj λc _ b=> .inl b);refine⟨AB (Q U) rfl,AB (Q U) rfl,?_⟩;have dM:=U.size;have bz:Own IY Bq X q.np (eo st):=(b7.ext bd).mod ar λc b e=>bb c e b
  have fQ:X[J.size]? =some (J2 #[J6 J9 (st.next:Int)] Bq (0,0)):=ar.ag (dO.ag fO λh=>h) (λe=>by have:=bw _ e;omega);refine qU bz fQ (λe=>by have:=bc _ e;omega) cR λbA bB bC aK bD=>⟨_,rfl,?_⟩
  have bE: ∀c,aF.ag=some c->c<X.size:=λc b=>aG.lt b
  refine cK bB aF bA X.size (aG.mod aK λc b e=>?_) bC (U.trans (aK.aj λc _ b=> .inr b)) (λc b=>⟨(aI c b).imp id λh=>by omega,bE c b⟩) λc b=>(bD c b).imp id λh=>⟨by omega,by omega⟩
  rcases aI c b with o|o
  ·exact bb c o e
  ·have:=bc c e;omega
end
def GR:List Pr->Int
 | []=>0
 |x::l=>if Aj x≠0 then Aj x else GR l
def Eu(l:List Pr):Int:=if l.length=0 then 1 else if l.length>64 then 2 else GR l
theorem zx: ∀ {l:List Pr},GR l=0->BV l
 | [],_=>zS
 |x::l,a=>by
  unfold GR at a;split at a
  ·rename_i b;exact absurd a b
  ·rename_i b;intro d c;rcases List.mem_cons.1 c with rfl|c
   ·exact Decidable.not_not.1 b
   ·exact zx a d c
theorem zy {l:List Pr}(a:Eu l=0):Yn l/\BV l/\l≠ []:=by
 unfold Eu at a;split at a
 ·cases a
 ·rename_i b;split at a
  ·cases a
  ·rename_i e;have:=zx a;exact⟨⟨by omega,λx c=>oT (this x c)⟩,this,λd=>b (by rw[d];rfl)⟩
theorem AHN {l:List Pr}{i:Nat}{x:Pr}(a:l[i]? =some x)(d:GR (l.take i)=0):GR l=if Aj x≠0 then Aj x else GR l:=by
 split
 ·rename_i e
  induction l generalizing i with
  |nil=>simp at a
  |cons f l g=>
   cases i with
   |zero=>
    simp at a;subst a;unfold GR;rw[if_pos e]
   |succ i=>
    have b:GR (f::l.take i)=0:=d;unfold GR at b ⊢;split at b
    ·rename_i c;exact absurd b c
    ·rename_i c;rw[if_neg c];exact g (by simpa using a) b
 ·rfl
theorem zz: ∀ {l:List Pr} {x:Pr},GR l=0->Aj x=0->GR (l++ [x])=0
 | [],x,_,b=>by show GR [x]=0;unfold GR;rw[if_neg (by simp[b])];rfl
 |y::l,x,b,d=>by
  have a:GR (y::l)=0:=b;show GR (y::(l++ [x]))=0;unfold GR at a ⊢;split at a
  ·rename_i c;exact absurd a c
  ·rename_i c;rw[if_neg c];exact zz a d
theorem zA {Q:al}{h:aa}{s:Sl}{l:List Pr}{n:A2J}(v:View BM h s l)(j: ∀B,Ext h B->n (J6 J9 (Eu l)) B):AA Q P Pi #[J4 s.p s.len s.cap] h n:=by
 refine AGy ?_;unfold uP;rw[v.len];refine af.intro (λe=>?_) (λe=>?_)
 ·have o:l.length=0:=by have:((l.length:Nat):Int)=0:=(by simpa using e);omega
  have:=j h Mod.refl;unfold Eu at this;rwa [if_pos o] at this
 have o:l.length≠0:=λf=>by rw[f] at e;cases e
 refine af.intro (λe=>?_) (λe=>?_)
 ·have u:l.length>64:=by have:=of_decide_eq_true e;omega
  have:=j h Mod.refl;unfold Eu at this;rwa [if_neg o,if_pos u] at this
 have u: ¬l.length>64:=by have:=of_decide_eq_false e;omega
 have R:Eu l=GR l:=by unfold Eu;rw[if_neg o,if_neg u]
 rw[R] at j;refine Loop.rule (λC x d=> ∃i:Nat,x=((i:Int),())/\C=l.length-i/\i<=l.length/\Ext h d/\GR (l.take i)=0) ?_ ⟨0,rfl,rfl,by omega,Mod.refl,rfl⟩;rintro K C _ d ⟨i,rfl,rfl,Z,w,q⟩ S;dsimp only;refine af.intro (λe=>?_) (λe=>?_)
 ·have r:i<l.length:=by have:=of_decide_eq_true e;omega
  have ah:l[i]? =some l[i]:=A2 r;rw[<- v.len];refine(v.ext w).idx ah λa _ c=>?_
  obtain⟨T,c1,c2⟩:=c.pair;refine AJ.mk T (AJ.mk c1 (AZ.mk c2 (ao.pair λb k _ m U ab=>?_)));have y:=w.trans U;generalize l[i]=p at*
  have D:=AHN ah q;refine ai.mk λE F=>?_
  have V:Aj p=1-> ∀d,Ext h d->n (J6 J9 1) d:=λf d x=>by
   have:=j d x;rw[D,if_pos (by rw[f];decide),f] at this;exact this
  have W:Aj p=2-> ∀d,Ext h d->n (J6 J9 2) d:=λf d x=>by
   have:=j d x;rw[D,if_pos (by rw[f];decide),f] at this;exact this
  have z:Aj p=if(decide (p.key=⟨#[]⟩)||(p.gone&& !decide (p.val=⟨#[]⟩))) then 1 else if(decide (p.key.size>64)||decide (p.val.size>8192)) then 2 else 0:=rfl;have G:(decide (p.key=⟨#[]⟩)||(p.gone&& !decide (p.val=⟨#[]⟩)))=true->E (true,()) k:=λf=>F _ _ (af.yes rfl (V (by rw[z,if_pos f]) k y))
  have H:(decide (p.key=⟨#[]⟩)||(p.gone&& !decide (p.val=⟨#[]⟩)))=false->E (false,()) k:=λf=>F _ _ (af.no rfl (by
   refine ai.mk λI J=>?_
   have L:(decide (p.key.size>64)||decide (p.val.size>8192))=true->I (true,()) k:=λA=>J _ _ (af.yes rfl (W (by rw[z,if_neg (by rw[f];decide),if_pos A]) k y))
   have X:(decide (p.key.size>64)||decide (p.val.size>8192))=false->I (false,()) k:=λA=>J _ _ (af.no rfl (by
    have Y:Aj p=0:=by rw[z,if_neg (by rw[f];decide),if_neg (by rw[A];decide)]
    rw[Ab (by omega)];refine S (l.length-(i+1)) _ _ (by omega) ⟨i+1,rfl,rfl,r,y,?_⟩;rw[AD,ah];exact zz q Y))
   refine AJ.mk (AL m rfl) (af.intro (λg=>?_) (λg=>?_))
   ·have M:p.key.size>64:=by have:=of_decide_eq_true g;omega
    exact L (by simp[M])
   ·have M: ¬p.key.size>64:=by have:=of_decide_eq_false g;omega
    refine AJ.mk (AB m rfl) ?_;by_cases N:p.val.size>8192
    ·rw[decide_eq_true (show((p.val.size:Int)>(8192:Int)) by omega)];exact L (by simp[N])
    ·rw[decide_eq_false (show ¬((p.val.size:Int)>(8192:Int)) by omega)];exact X (by simp[N];omega)))
  refine AJ.mk (AL m rfl) ?_;rw[Cn];refine af.intro (λg=>?_) (λg=>?_)
  ·exact G (by rw[g];rfl)
  ·refine AZ.mk (AB m rfl) (af.intro (λt=>?_) (λt=>?_))
   ·refine AJ.mk (AB m rfl) ?_;rw[Cn];cases O:decide (p.val=(⟨#[]⟩:A2K)) with
    |true=>exact H (by rw[g,t,O];rfl)
    |false=>exact G (by rw[g,t,O];rfl)
   ·exact H (by rw[g,t];rfl)
 ·have r:i=l.length:=by have:=of_decide_eq_false e;omega
  subst r;rw[Bk] at q;have:=j d w;rwa [q] at this
theorem zB {e:bO}{D:Bo}(h:BG e D){s:Nat}(f:s<=99999999){b:List Pr}(j:Yn b): ∀d∈(D.L s).map (BX s)++ [BX s b],d.length<=1048576:=λd a=>by
 rcases List.mem_append.1 a with a|a
 ·obtain⟨c,i,rfl⟩:=List.mem_map.1 a;have:=Zk f (h.fQ s c i);omega
 grind [List.mem_singleton,Zk]
theorem AJJ(a:List (List UInt8))(b:List UInt8):aI (a++ [b])=aI a++CY b:=by simp
theorem AJL {i j:bO}{D:Bo}{s:Nat}{b:List Pr}(h:BG i D)(n:1<=s/\s+1<=99999999)(l:Yn b)(d: ∀e,j e=if e=aC nl s then some (AY (aI ((D.L s).map (BX s)++ [BX s b])),bq) else i e):BG j (TL D s b):=by
 refine AQm h n l (λf _ _ o=> .inl ?_) (λf _ _=> .inl ?_) (λf=> .inl ?_) (λe p r=>?_) ⟨_,by rw[d,if_pos rfl],?_⟩
 ·rw[d,if_neg λa=>o (Iw a)]
 ·rw[d,if_neg λa=>WO s f a.symm]
 ·rw[d,if_neg λa=>MI s f a.symm]
 ·simp_all
 ·rw[EF,C2];have:=Rq (rs:=(D.L s).map (BX s)++ [BX s b]) (zB h (by omega) l) (t:= []) UT;rw[AM] at this;exact this
theorem AJv {j F1 G:bO}{D:Bo}{s:Nat}{b:List Pr}(h:BG j D)(z:1<=s/\s+1<=99999999)(C:Yn b)(o: ∀e,F1 e=if e=aC nl s then some (AY (aI ((D.L s).map (BX s))),AY (CY (BX s b))) else j e)(c:Md F1 G):
  BG G {D with aO:=max D.aO (s+1)}\/BG G (TL D s b):=by
 have E: ∀a,1<=a->a<=99999999->a≠s->Nr (j (aC nl a)) (G (aC nl a)):=λa l n t=>by
  have d:F1 (aC nl a)=j (aC nl a):=by rw[o,if_neg λd=>t (Iw d)]
  have:=c.bX (x:=aC nl a) λp w=>(h.log.has a p l n (d▸w)).1
  rwa [d] at this
 have F: ∀a,1<=a->a<=99999999->Nr (j (aC nn a)) (G (aC nn a)):=λa l n=>by
  have d:F1 (aC nn a)=j (aC nn a):=by rw[o,if_neg λd=>WO s a d.symm]
  have:=c.bX (x:=aC nn a) λp w=>(h.note.has a p l n (d▸w)).1
  rwa [d] at this
 have ft: ∀a,F1 (aX a)=j (aX a):=λa=>by rw[o,if_neg λd=>MI s a d.symm]
 have H: ∀a∈(Ao D).names,G (aX a)=some (AY (Js (D.T a)),bq)/\Ha (D.T a):=λa N=>by
  obtain⟨O,I⟩:=h.cO a N;have:=c.bX (x:=aX a) λp w=>by grind
  rw[ft] at this;exact⟨VV this I O,I⟩
 have J: ∀e,(∀ a,e≠aC nl a)->G e≠none->j e≠none:=λe u P Q=>P (by
  have:=c e;rw[o,if_neg (u s),Q] at this;exact this)
 have K:=c (aC nl s);rw[o,if_pos rfl] at K;obtain⟨S,y⟩:=K;have i:=zt (rs:=(D.L s).map (BX s)) (r:=BX s b) (zB h (by omega) C) S;have L:(G (aC nl s)=none/\(D.L s).map (BX s)= []\/ ∃e,G (aC nl s)=some (e,bq)/\NW (bl e) ((D.L s).map (BX s)))->BG G {D with aO:=max D.aO (s+1)}:=λT=>by
  refine⟨?_,h.note.aS h.cq.2.2.1 F,H,h.fQ,h.dI,λe u hd=>h.dj e (J e (λa d=>by grind [Q3]) u) hd,by have:=h.cq;refine⟨?_,?_,this.2.2.1,this.2.2.2⟩<;>simp only[]<;>omega⟩;have:=h.log.put (G:=G) (eZ:=max D.aO (s+1)) (s:=s) (v:=(D.L s).map (BX s)) ⟨z.1,by omega⟩ (by omega) (λa l n t=>E a l n t) T (by omega);have d:(Kc (λa=>(D.L a).map (BX a)) s ((D.L s).map (BX s)))=λa=>(D.L a).map (BX a):=by
   funext a
   grind [EM,GL]
  rw[d] at this;exact this
 split at y
 ·rename_i U;left;refine L (.inl ⟨y,?_⟩);rw[U] at i;have M: ∀rs,NW (bl bq) rs->rs= []:=λrs V=>sj V
  rcases i with i|i
  ·exact M _ i
  ·have:=M _ i;simp at this
 ·rcases i with i|i
  ·exact .inl (L (.inr ⟨_,y,i⟩))
  ·right;have W:(D.L s++ [b]).map (BX s)=(D.L s).map (BX s)++ [BX s b]:=by rw[C2];rfl
   refine⟨?_,h.note.aS h.cq.2.2.1 F,H,λa x f=>?_,h.dI,λe u hd=>h.dj e (J e (λa d=>by grind [Q3]) u) hd,by have:=h.cq;refine⟨?_,?_,this.2.2.1,this.2.2.2⟩<;>simp only[TL]<;>omega⟩
   ·have:=h.log.put (G:=G) (eZ:=max D.aO (s+1)) (s:=s) (v:=(D.L s++ [b]).map (BX s)) ⟨z.1,by omega⟩ (by omega) (λa l n t=>E a l n t) (.inr ⟨_,y,by rw[W];exact i⟩) (by omega);have d:(Kc (λa=>(D.L a).map (BX a)) s ((D.L s++ [b]).map (BX s)))=λa=>((TL D s b).L a).map (BX a):=by
     funext a;show _=(Kc D.L s (D.L s++ [b]) a).map (BX a)
     grind [EM,GL]
    rw[d] at this;exact this
   ·by_cases d:a=s
    ·have f:x∈Kc D.L s (D.L s++ [b]) a:=f;rw[d,EM] at f;rcases List.mem_append.1 f with f|f
     ·exact h.fQ s x f
     ·rw[List.mem_singleton.1 f];exact C
    ·have f:x∈Kc D.L s (D.L s++ [b]) a:=f;rw[GL d] at f;exact h.fQ a x f
theorem ASb {b:bO}{D:Bo}(h:BG b D){t:Nat}(d:D.aO<=t):Ie {D with aO:=t}=Ie D:=by
 unfold Ie;exact UC d λa e _=>by
  show(if a<(Ao D).aW then [] else D.L a)= [];split
  ·rfl
  ·exact h.gF (.inr e)
section
variable {A : al} {B : cz} {g h : aa} {q : Hp} {k : Nat -> Nat} {st : Db} {m : Bx} {D : Bo} {aH c : Nat} {R : A2J}
theorem ASc(a:bK g h q k st m)(b:R (J6 J9 (st.aw:Int)) h):AA A P I7 #[Ap q.lg] h R:=by refine Oh ?_;unfold Lr;exact af.no rfl (aD (AC.mk (AB a.log rfl) b))
theorem AJY(a:Nat):600000<=20000*a+10000000:=by omega
theorem cz.up(B:cz){d a:Nat}{b:Nat}(e:a<=b)(h:d<=B.W0+a*B.K):d<=B.W0+b*B.K:=AH h (Kx (AN _ e) _)
structure mL (st bH:Db) (l:List Pr):Prop where
 map:Cr bH=cy (Cr st) l
 full:4096<=M.Eg (A7 st.fr l)->bH.fr= []/\(bH.ts.length<=3\/bH.ts.length=st.ts.length)
 less:M.Eg (A7 st.fr l)<4096->bH.fr=A7 st.fr l/\bH.ts=st.ts
theorem zC {s:Sl}{l:List Pr}(ap:cp g)(bs:Br B g h q k st m D aH c)(hA:aH+3<=B.A)(ab:View BM h s l)(aq:l≠ []-> ∀b,s.ag=some b->b<h.size/\k b=0)(aG:Eu l=0->c+l.length<=B.C)
  (bt:Eu l≠0-> ∀o,Ext h o->R (J6 J9 (Eu l)) o)
  (a4:Eu l=0-> ∀o v,oR B h o q k m v (aH+3)->(∀ G,Md (ff v) G->Rec G (aH+3) (c+l.length) (Cr st)\/Rec G (aH+3) (c+l.length) (cy (Cr st) l))->R (J6 J9 30) o)
  (bu:Eu l=0-> ∀o v,oR B h o q k m v (aH+3)->kg (ff v) (aH+3) (c+l.length) (cy (Cr st) l)->R (J6 J9 0) o)
  (a5:Eu l=0-> ∀o ac ar bH v aJ,ac.d=q.d->ac.b=q.b->Br B g o ac ar bH v aJ (aH+3) (c+l.length)->Jf m v->mL st bH l->(∀ n,¬cF n->ff v n=ff m n)->Mod (λc=>k c≠0) h o->(∀ c,ar c≠0->k c≠0\/h.size<=c)->R (J6 J9 0) o):
  AA A P LM #[Ap q.d,J4 s.p s.len s.cap] h R:=by
 obtain⟨V,hd,L,w,aK,e⟩:=bs;have cw:=B.hA;have cx:=B.hC;have bv:=B.wt (a:=aH) (by omega);have cz:=w.aw;have cB:=L.eM;have cD:=w.aO;refine ABa ?_;unfold UL;refine ai.mk λK bw=>Za V (bw _ _ (af.no rfl ?_))
 refine zA ab λbx ad=>⟨_,rfl,?_⟩
 refine af.intro (λQ=>bt (by simpa using Q) bx ad) (λQ=>?_);have S:Eu l=0:=by simpa using Q
 obtain⟨E,bz,ae⟩:=zy S
 replace aq:=aq ae
 replace aG:=aG S
 have W:=V.on ad;refine aD (AX.mk (AB W.cell rfl) (aD (AX.mk (AB W.cell rfl) ?_)));refine ASc W ⟨_,rfl,⟨AB W.cell rfl,?_⟩⟩;refine APC (by omega) E.len E.ok (ab.ext ad) (λb E=>by have:=(aq b E).1;have:=ad.size;omega) λX aL=>⟨_,rfl,⟨AB (W.on aL).cell rfl,?_⟩⟩
 have N:=W.on aL;have aM:=ad.trans aL;have cE:=aM.size;have cG:=Zk (s:=st.aw) (by omega) E;have au:(AY (BX st.aw l)).size=(BX st.aw l).length:=AP _;refine yN (N.ib ap) N.log N.box N.lD (λo x=>N.fW ap (x.aj λc _ e=> .inl e)) (by decide) (by omega) (by rw[au];omega) (AH aK bv) λav p aw ax aN a6=>⟨_,rfl,?_⟩
 rw[show bl (AY (BX st.aw l))=BX st.aw l from EF _] at aw ax ⊢;have bA:=VK V.box.aQ (aC nl st.aw) (AY (CY (BX st.aw l)));have cH:=(Jc (r:=BX st.aw l) (by omega)).2;rw[AP] at bA;have a7: ∀c,p c->q.Sb c\/X.size<=c:=λc e=>(a6 c e).imp id λh=>h.1
 have bB:((ff m (aC nl st.aw)).getD (bq,bq))=(AY (aI ((D.L st.aw).map (BX st.aw))),bq):=by
  cases a8:st.bo with
  |true=>rw[L.jA a8];rfl
  |false=>
   have a9:=L.gE st.aw (A0 _) (by omega) (by rw[a8];simp);rw[a9,L.ok.jC (by omega) a9];rfl
 have bb: ∀f,st.aw<f->D.L f= []:=λf y=>L.sP w (by omega) y
 have bc:1<=st.aw/\st.aw+1<=99999999:=⟨by omega,by omega⟩;have bd:(Ao D).aW<=st.aw:=by rw[L.aW];exact L.eM.2
 obtain⟨bC,bD⟩:=APN L.ok bd bb E;have bE:=zV L.ok (b:=l) bd bb;have be:OG (TL D st.aw l)=OG D+l.length:=by
  unfold OG;rw[bE,N2,A1];have:(Ao (TL D st.aw l)).names.map (λf=>((TL D st.aw l).T f).length)=(Ao D).names.map λf=>(D.T f).length:=rfl
  rw[this];simp;omega
 have bF: ∀ {F':bO},(∀ f,F' (aX f)≠none->ff m (aX f)≠none)-> ∀f,F' (aX f)≠none->f<8*aH+8:=λbG f y=>by
  have:=L.fA w (bG f y);have:=w.next;omega
 have bI: ∀ {bf:Nat},bf<=B.W0+(aH+1)*B.K->bf<=B.W0+(aH+3)*B.K:=λh=>B.up (by omega) h
 rcases R3 (k:=aC nl st.aw) (d:=AY (CY (BX st.aw l))) hd (yP (by decide) (by omega)) with⟨aP,aQ⟩|⟨aQ,aR,bJ⟩
 ·rw[aQ] at aw ⊢;refine af.yes rfl ?_;refine Jl N aw (aN.aj λc _ e=>e.imp id .inl) a7 λbL bM bN bP bQ=>⟨_,rfl,?_⟩
  refine a4 S bL (NU m) ⟨by rw[aP];decide,bM,⟨p,bN,λc e=>(bQ c e).imp id λh=>by omega⟩,rfl,(Ext.mod aM).trans bP,λ_ _=>rfl,B.up (by omega) aK⟩ λG ay=> .inl ?_
  exact(L.pq w G ay).mono (by omega) (by omega)
 rw[aQ] at ax ⊢;refine af.no rfl ?_;rw[decide_eq_true rfl,HI] at ax;generalize (CS m (aC nl st.aw) (AY (CY (BX st.aw l)))).2=z at*
 have ag: ∀n,ff z n=if n=aC nl st.aw then some (AY (aI ((D.L st.aw).map (BX st.aw))),AY (CY (BX st.aw l))) else ff m n:=λn=>by
  rw[bJ,bB];simp only[MV]
 have cI: ¬p q.lg:=λe=>by
  rcases a6 _ e with h|h
  ·exact N.lD h
  ·exact h.2 rfl
 have H:=N.boxed (j:=3) (bH:= {st with bo:=true}) aw (aN.aj λc _ e=>e.imp id λh=> .inl ⟨rfl,h⟩) a7 rfl rfl rfl rfl (.inr ax) (.inl ⟨by decide,rfl⟩);have bR:Grow k (Jm k X.size p 2) X.size:=sA;have az: ∀c,Jm k X.size p 2 c≠0->k c≠0\/h.size<=c:=λc e=>by
  by_cases aj:c<X.size
  ·rw[bR c aj] at e;exact .inl e
  ·exact .inr (by omega)
 generalize Jm k X.size p 2=bg at*
 have aA:Mod (λc=>k c≠0) h av:=(Ext.mod aM).trans (aN.aj λc _ e=>by
  rcases e with e|e
  ·rw[V.kb c e];decide
  ·rw[e,V.kl];decide)
 refine aD (AX.mk (AB H.cell rfl) ?_);refine yO (H.ib ap) H.log H.box H.lD (by decide) (by show st.aw<=_;omega) λaS ak cJ aT=>⟨_,rfl,?_⟩
 have bS:ff z (aC nl st.aw)=some (AY (aI ((D.L st.aw).map (BX st.aw))),AY (CY (BX st.aw l))):=by rw[ag,if_pos rfl]
 have ak:Cf aS q.b p (FR z (aC nl st.aw)).2:=ak;have bT:=YO H.box.aQ (aC nl st.aw);have bh:ba z.files<=B.W0+(aH+1)*B.K:=B.step (d:=600000) aK (by omega) (AJY B.C);show af ((FR z (aC nl st.aw)).1 != 0) _ _;rcases Od aR.up bS with⟨aP,al⟩|⟨al,bU,bV⟩
 ·rw[al] at ak;have bW:NI z (aC nl st.aw) true=(30,NU z):=al;rw[al];refine af.yes rfl ?_;show AA A P Cm #[_,J6 J9 (NI z (aC nl st.aw) true).1] aS _;rw[bW];refine Jl (q:= {q with Sb:=p}) H ak (aT.aj λc _ e=> .inl e) (λc e=> .inl e) λbX bY bZ b0 b1=>⟨_,rfl,?_⟩
  refine a4 S bX (NU z) ⟨(λI=>by have:=aR.calm I;rw[aP] at this;cases this),bY,⟨p,bZ,λc e=>?_⟩,rfl,aA.then (b0.aj λc _ e=>az c e),λn u=>?_,bI bh⟩ λG ay=>?_
  ·rcases b1 c e with F|F
   ·exact az c F
   ·exact .inr (by have:=aA.size;omega)
  ·rw[p8,ag,if_neg (oS u _)]
  ·have b2: ∀f,G (aX f)≠none->ff m (aX f)≠none:=λf y=>by
    have F:ff z (aX f)≠none:=ay.some y;rwa [ag,if_neg λJ=>MI _ f J.symm] at F
   have C:=L.jD w (F':=G) (bF b2);rcases AJv L.ok bc E (F1:=ff (NU z)) ag ay with aU|aU
   ·left;have au:=ASb L.ok (t:=max D.aO (st.aw+1)) (by omega);have em:cC {D with aO:=max D.aO (st.aw+1)}=cC D:=by unfold cC Es;rw[au];rfl
    have b3:OG {D with aO:=max D.aO (st.aw+1)}=OG D:=by unfold OG;rw[au];rfl
    refine⟨_,aU,⟨by show max D.aO (st.aw+1)<=_;omega,by have:=C.aY;show D.aY<=_;omega,by have:=C.next;show(Ao D).next<=_;omega,by have:=C.aW;show(Ao D).aW<=_;omega,by have:=C.cn;show(Ao D).names.length<=_;omega,by rw[b3];have:=C.bW;omega,λf y=>by have:=C.nc f y;omega⟩,by rw[em];exact L.map⟩
   ·right;refine⟨_,aU,⟨by show max D.aO (st.aw+1)<=_;omega,by have:=C.aY;show D.aY<=_;omega,by have:=C.next;show(Ao D).next<=_;omega,by have:=C.aW;show(Ao D).aW<=_;omega,by have:=C.cn;show(Ao D).names.length<=_;omega,by rw[be];have:=C.bW;omega,λf y=>by have:=C.nc f y;omega⟩,by rw[bD,L.map]⟩
 rw[al];refine af.no rfl ?_;generalize (FR z (aC nl st.aw)).2=O at*
 have Y: ∀n,ff O n=if n=aC nl st.aw then some (AY (aI ((D.L st.aw).map (BX st.aw)++ [BX st.aw l])),bq) else ff m n:=λn=>by
  rw[bV];by_cases u:n=aC nl st.aw
  ·rw[if_pos u,if_pos u];simp only[Ak,AJJ]
  ·rw[if_neg u,if_neg u,ag,if_neg u]
 have b4:=AJL L.ok bc E Y;have b5:=H.boxed (j:=2) (bH:= {st with bo:=true}) ak (aT.aj λc _ e=> .inl e) (λc e=> .inl e) rfl rfl rfl rfl (.inl ⟨by decide,rfl,rfl⟩) (.inl ⟨by decide,rfl⟩);have b6:Mod (λc=>k c≠0) h aS:=aA.then (aT.aj λc _ e=>az c (by rw[H.kb c e];decide));have b7: ∀c,Jm bg av.size p 2 c≠0->k c≠0\/h.size<=c:=λc e=>by
  by_cases aj:c<av.size
  ·rw[GY aj] at e;exact az c e
  ·exact .inr (by have:=aA.size;omega)
 generalize Jm bg av.size p 2=b8 at*
 have aE:Jf m O:=aR.trans bU;have cK:=L.dk w;have cL:=E.len;refine Loop.rule (λbi x I=> ∃(i:Nat) (am:List M.DL) (an:Nat->Nat),x=((i:Int),())/\bi=l.length-i/\i<=l.length/\bK g I {q with Sb:=p,ns:=am} an {st with bo:=true,fr:=A7 st.fr (l.take i)} O/\Mod (λc=>k c≠0) h I/\(∀ c,an c≠0->k c≠0\/h.size<=c)) ?_
  ⟨0,q.ns,b8,rfl,rfl,A5 _,b5,b6,b7⟩
 rintro cM bi _ I ⟨i,am,an,rfl,rfl,cN,Z,aa,T⟩ bj;dsimp only;have b9:=ab.mod aa λb E ae=>ae (aq b E).2
 have cO:=aa.size;refine af.intro (λQ=>?_) (λQ=>?_)
 ·have aF:i<l.length:=by have:=of_decide_eq_true Q;have:=ab.len;omega
  have ah:l[i]? =some l[i]:=A2 aF;refine b9.idx ah λa _ ca=>?_
  obtain⟨cb,c1,c2⟩:=ca.pair;refine AJ.mk cb (AJ.mk c1 (AZ.mk c2 (ao.pair λb cc _ aV bk cP=>?_)));have aW:=Z.on bk;refine aD (AX.mk (AB aW.cell rfl) ?_);refine AJ.mk (AL aV rfl) (AJ.mk (AB aV rfl) (AZ.mk (AB aV rfl) ?_));have cd:=M.RB (l:=l.take i) (t:=st.fr);rw[As] at cd;refine M.sT (x:=l[i]) aW.fresh (by show(A7 st.fr (l.take i)).length<_;omega) λce cQ cf bm cg=>⟨_,rfl,?_⟩
  have ch:=aW.pv cf bm cg;rw[Ab (by omega)];refine bj (l.length-(i+1)) _ _ (by omega) ⟨i+1,ce,_,rfl,rfl,aF,by rw[M.sU ah];exact ch,(aa.trans (Ext.mod bk)).then (bm.aj λc _ e=>T c (by rw[Z.kf c e];decide)),λc e=>?_⟩;by_cases aj:c<cc.size
  ·rw[GY aj] at e;exact T c e
  omega
 have aF:i=l.length:=by have:=of_decide_eq_false Q;have:=ab.len;omega
 subst aF;rw[Bk] at Z;clear bj;have aY:Cr {st with bo:=true,fr:=A7 st.fr l}=cy (Cr st) l:=zK V.fU bz;have ci:Ee (ff O) {st with bo:=true,fr:=A7 st.fr l} (TL D st.aw l):=
  ⟨b4,L.names,L.cj,L.aW,L.next,L.below,by rw[bC,<-L.fr],λf aZ a0 ae=>by
   have bn:f≠st.aw:=ae rfl;rw[Y,if_neg λJ=>bn (Iw J)];exact L.gE f aZ a0 λ_=>bn,λ_=>by
   show ff O (aC nl st.aw)=some (AY (aI ((Kc D.L st.aw (D.L st.aw++ [l]) st.aw).map (BX st.aw))),bq);rw[Y,if_pos rfl,EM,C2];rfl,λf aZ a0=>by
   rw[Y,if_neg λJ=>WO _ f J.symm];exact L.jz f aZ a0,L.eM,L.aJ,λf y=>by
   rw[Y,if_neg λJ=>MI _ f J.symm] at y;exact L.clean f y⟩
 have cj:TH {st with bo:=true,fr:=A7 st.fr l} (TL D st.aw l) (aH+1) (c+l.length):=
  ⟨by show st.aw<=_;omega,by have:=w.aJ;show st.aJ<=_;omega,by have:=w.next;show st.next<=_;omega,by have:=w.cn;show st.ts.length<=_;omega,by rw[be];have:=w.bW;omega,by show max D.aO (st.aw+1)<=_;omega,by have:=w.aY;show D.aY<=_;omega⟩
 have bp:Br B g I {q with Sb:=p,ns:=am} an {st with bo:=true,fr:=A7 st.fr l} O (TL D st.aw l) (aH+1) (c+l.length):=
  ⟨Z,aE.up,ci,cj,AH bT bh,aG⟩
 have a1: ∀n,¬cF n->ff O n=ff m n:=λn u=>by rw[Y,if_neg (oS u _)]
 refine ai.mk λcR a2=>?_
 refine aD (AX.mk (AB Z.cell rfl) ?_);refine M.sQ Z.fresh ⟨_,_,rfl,?_⟩;refine af.intro (λa3=>?_) (λa3=>?_)
 ·have cS:4096<=M.Eg (A7 st.fr l):=by have:=of_decide_eq_true a3;have J:M.Eg ({st with bo:=true,fr:=A7 st.fr l}:Db).fr=M.Eg (A7 st.fr l):=rfl;omega
  refine APY (q:= {q with Sb:=p,ns:=am}) ap bp (by omega) (λo v U br=>⟨_,rfl,a2 _ _ ?_⟩) λo ac ar bH v aJ ck cl S' cm cn co cq cr cs ct=>⟨_,rfl,a2 _ _ ?_⟩
  ·rw[aY] at br;obtain⟨S',cu,cv⟩:=U.box;refine bu S o v ⟨λI=>U.fuel (aE.calm I),U.dn,⟨S',cu,λc e=>?_⟩,U.down,aa.then (U.mod.aj λc _ e=>T c e),λn u=>(U.dV n u).trans (a1 n u),U.wt⟩ br;rcases cv c e with F|F
   ·exact T c F
   ·exact .inr (by omega)
  ·refine a5 S o ac ar bH v aJ ck cl S' (aE.trans cm) ⟨co.trans aY,λ_=>⟨cn,cq⟩,λh=>absurd h (by omega)⟩ (λn u=>(cr n u).trans (a1 n u)) (aa.then (cs.aj λc _ e=>T c e)) λc e=>?_
   rcases ct c e with F|F
   ·exact T c F
   ·exact .inr (by omega)
 ·have cT:M.Eg (A7 st.fr l)<4096:=by have:=of_decide_eq_false a3;have J:M.Eg ({st with bo:=true,fr:=A7 st.fr l}:Db).fr=M.Eg (A7 st.fr l):=rfl;omega
  refine a2 _ _ ?_;exact a5 S I {q with Sb:=p,ns:=am} an _ O _ rfl rfl (bp.aH (by omega)) aE ⟨aY,λh=>absurd h (by omega),λ_=>⟨rfl,rfl⟩⟩ a1 aa T
end
theorem zD: ∀(l:List UInt8) (a:Nat),mu l->TV a l<=999999999999->Lib.parseUint10 a l= .ok (TV a l)
 | [],a,_,_=>rfl
 |c::l,a,hd,b=>by
  have h:TV a (c::l)=TV (a*10+(c.toNat-48)) l:=rfl;rw[h] at b ⊢;have d:=hd c (by simp);have f:=re l (a*10+(c.toNat-48));unfold Lib.parseUint10;rw[if_pos d,if_neg (by omega),if_neg (by omega)];exact zD l _ (λx e=>hd x (AG _ e)) b
theorem APE {a:Nat}(i:a<=999999999999):Lib.atoiAll (Lib.decDigits a)= .ok (a:Int):=by
 obtain⟨b,d⟩:=Ze a;cases e:Lib.decDigits a with
 |nil=>
  have:=congrArg List.length e;rw[Lib.decDigits_length] at this;have:=Lib.nDigits_pos a;simp at *;omega
 |cons c j=>
  rw[e] at b d;have o:=b c (by simp);have f:=zD (c::j) 0 b (by rw[d];exact i);rw[d] at f;unfold Lib.atoiAll;simp only[];have l: ¬(c.toNat=43\/c.toNat=45):=by omega
  have n: ¬c.toNat=45:=by omega
  rw[if_neg l];unfold Lib.parseMag;rw[if_neg (by simp),f];simp only[n,not_false_eq_true,true_and,false_and,if_false];rw[if_neg (by omega)]
theorem AQg {A:al}{h:aa}{a:Nat}{R:A2J}(f:a<=999999999999)(d: ∀e,Ext h e->R (J1 #[J6 J9 (a:Int),.nilIface]) e):AA A P Uj #[J7 (AY (Lib.decDigits a))] h R:=by
 intro m;have i:(Lib.decDigits a).length<=20:=by rw[Lib.decDigits_length];exact Lib.nDigits_le20 a (by omega)
 refine Calls.mono (Proofs.Any.strconv_Atoi_ok Proofs.Tryz.gC (AY (Lib.decDigits a)) (by rw[AP];omega) (a:Int) (by rw[show(AY (Lib.decDigits a)).data.toList=Lib.decDigits a from Bl _];exact APE f) (A.at h m)) ?_;rintro j l ⟨rfl,c|⟨t,c⟩⟩
 ·subst c;exact⟨_,rfl,h,m,rfl,d h Mod.refl⟩
 ·subst c;refine⟨_,rfl,_,_,rfl,d _ ?_⟩;refine⟨?_,λb n _=>?_⟩
  ·simp[Lib.bytesWorld,World.freeze,World.alloc,World.drew,al.at]
  ·simp[Lib.bytesWorld,World.freeze,World.alloc,World.drew,al.at,Gk,Array.getElem?_push];rw[if_neg (by omega),if_neg (by omega)]
theorem AIO {A:al}{h:aa}{s:Sl}{l:List Int}{v:Int}{R:A2J}(d:View IY h s l)(t:l.length<=1000000)(n:R (J3 (decide (v∈l))) h):AA A P Em #[J4 s.p s.len s.cap,J6 J9 v] h R:=by
 refine Lt ?_;unfold Gz;refine NQ ?_;unfold I4;refine Loop.rule (λo x p=> ∃i:Nat,x=((i:Int),())/\o=l.length-i/\i<=l.length/\p=h/\v∉l.take i) ?_ ⟨0,rfl,rfl,A5 _,rfl,by simp⟩;rintro K o _ _ ⟨i,rfl,rfl,u,rfl,e⟩ r;dsimp only;rw[d.len];refine af.intro (λf=>?_) (λf=>?_)
 ·have b:i<l.length:=by have:=of_decide_eq_true f;omega
  have ah:l[i]? =some l[i]:=A2 b;rw[<- d.len];refine d.idx ah λa _ c=>AC.mk c.int ?_
  refine af.intro (λq=>?_) (λq=>?_)
  ·have j:v=l[i]:=by simpa using q
   refine⟨_,rfl,?_⟩;rw[decide_eq_true (show((i:Int)>=0) by omega)];rwa [decide_eq_true (show v∈l by rw[j];exact AW b)] at n
  ·have j:v≠l[i]:=by simpa using q
   rw[Ab (by omega)];refine r (l.length-(i+1)) _ _ (by omega) ⟨i+1,rfl,rfl,b,rfl,?_⟩;rw[AD,ah];simp only[CA,HS,HJ,not_or];exact⟨e,j⟩
 ·have b:i=l.length:=by have:=of_decide_eq_false f;omega
  subst b;rw[Bk] at e;refine⟨_,rfl,?_⟩;rwa [decide_eq_false e] at n
section
variable {A : al} {g h : aa} {q : Hp} {k : Nat -> Nat} {st : Db} {m : Bx} {D : Bo} {R : A2J}
theorem AJS(b:bK g h q k st m)(d:Nat):Lp k d q.tp q.np (λ_=>False)=k:=by
 funext c;unfold Lp;by_cases a:k c=0
 ·rw[if_neg (by simp[a]),if_neg (λh=>by have:=b.kt c h;rw[a] at this;cases this),if_neg (λh=>by have:=b.kx c h;rw[a] at this;cases this),if_neg (λh=>h),a]
 ·rw[if_pos a]
theorem bK.jE {h':aa}{next:Nat}(b:bK g h q k st m)(a:h'[q.d]? =some (J2 (eg q {st with next:=next} false) FP (0,0)))(x:Mod (· =q.d) h h'):bK g h' q k {st with next:=next} m:=by have R:=b.rest (C:=λc=>c=1) (h':=h') (x.aj λc _ a=>by rw[a];exact b.kd) (by decide);have:=b.eY (h':=h') (tp:=q.tp) (np:=q.np) (ps:=q.ps) (ts:=st.ts) (next:=next) (aW:=st.aW) (S:=λ_=>False) a (x.aj λc _ a=> .inl a) (R.cj (by decide)) (R.names (by decide)) b.da (λc a=> .inl a) (λc a=> .inl a) (λc h=>h.elim) (λi t p d e=> .inl ⟨i,d,e⟩);rw[AJS b] at this;exact this
theorem AQ6 {m:Bx}{x:A2K}:ff m x≠none↔x∈m.files.map (·.name):=by rw[<- yG (k:=x),SI];cases ff m x<;>simp
theorem APU {s:A2K}(h:(dq s 0 != (116:Int))=false)(l:2<=s.size):(bl s).head? =some 116:=by
 have d:bl s=s.data.toList:=rfl;have a:=A8 s;cases b:bl s with
 |nil=>rw[b] at a;simp at a;omega
 |cons c n=>
  have e:dq s 0=116:=by simpa using h
  have f:s.data.toList[0]? =some c:=by rw[<- d,b];rfl
  have o:(c.toNat:Int)=116:=by have:=N8 (i:=0) f;rw[<- e];exact this.symm
  have j:c.toNat=116:=by omega
  have:c=116:=by apply UInt8.toNat_inj.1;rw[j];rfl
  rw[this];rfl
theorem AN8 {N:Nat}(a2:cp g)(E:bK g h q k st m)(hd:m.down=false)(aC:BG (ff m) D)(a3:(Ao D).names=st.ts.map (·.1))(bB:N<=99999999)(a4: ∀b,ff m (aX b)≠none->b<N)(a5:st.next<=N)(bC:st.ts.length<=100000)(a6:m.files.length<=8000000000000)
  (a7:m.fuel≠ -1-> ∀h' S' n,Cf h' q.b S' n->n.down=true->Mod (λc=>k c≠0) h h'->(∀ c,S' c->k c≠0\/h.size<=c)->BG (ff n) D->(∀ e,(∀ b,e≠aX b)->ff n e=ff m e)->(∀ b,ff n (aX b)≠none->ff m (aX b)≠none)->ba n.files<=ba m.files->R (J6 J9 30) h')
  (a8: ∀h' S' aE n ac,bK g h' {q with Sb:=S'} aE {st with next:=ac} n->Jf m n->BG (ff n) D->(∀ e,(∀ b,e≠aX b)->ff n e=ff m e)->(∀ b,ff n (aX b)≠none->b∈st.ts.map (·.1))->st.next<=ac->ac<=N->ba n.files<=ba m.files->
   Mod (λc=>k c≠0) h h'->(∀ c,aE c≠0->k c≠0\/h.size<=c)->R (J6 J9 0) h'):AA A P Ow #[Ap q.d] h R:=by
 refine ABY ?_;unfold UM;refine aD (AX.mk (AL E.cell rfl) ?_);refine vQ E.box λad r ag S a9=>⟨ad,_,rfl,?_⟩
 have bb:jU m=(m.files.map (·.name),0):=by unfold jU;rw[if_neg (by simp[hd])]
 rw[bb] at ag ⊢;refine af.no rfl ?_;dsimp only at ag;have bc:=yH E.box.aQ;have aj:=λx=>AQ6 (m:=m) (x:=x)
 have bD:(m.files.map (·.name)).length<=8000000000000:=by simpa using a6
 generalize m.files.map (·.name)=d at*
 have bd:=E.on S;have bE:=S.size;have v1:=ag.view;refine Loop.rule (λaF x u=> ∃(i:Nat) (H:Nat->Prop) (v:Nat->Nat) (l:Bx) (next:Nat),x=((i:Int),())/\aF=d.length-i/\i<=d.length/\bK g u {q with Sb:=H} v {st with next:=next} l/\Jf m l/\BG (ff l) D/\(∀ e,(∀ b,e≠aX b)->ff l e=ff m e)/\(∀ e,e∉d.take i->ff l e=ff m e)/\
   (∀ b,aX b∈d.take i->b∉st.ts.map (·.1)->ff l (aX b)=none)/\(∀ b,ff l (aX b)≠none->ff m (aX b)≠none)/\st.next<=next/\next<=N/\ba l.files<=ba m.files/\Mod (λc=>k c≠0) r u/\Grow k v r.size) ?_
  ⟨0,q.Sb,k,m,st.next,rfl,rfl,A5 _,bd,Jf.refl hd,aC,λ_ _=>rfl,λ_ _=>rfl,by simp,λ_ h=>h,A0 _,a5,A0 _,Mod.refl,Grow.refl⟩
 rintro K aF _ u ⟨i,H,v,l,next,rfl,rfl,bF,I,J,T,U,aS,V,sub,aG,aH,W,L,M⟩ aI;dsimp only;have bG:=L.size;have aJ: ∀c,v c≠0->k c≠0\/h.size<=c:=λc f=>by
  by_cases ak:c<r.size
  ·rw[M c ak] at f;exact .inl f
  ·exact .inr (by omega)
 have be: ∀c,ad.ag=some c->k c=0:=λc f=>Decidable.byContradiction λh=>by
  have:=(E.own c h).2;have:=a9 c f;omega
 have bf:View Ik u ad d:=v1.mod L λc f al=>al (be c f)
 rw[v1.len];refine af.intro (λam=>?_) (λam=>?_)
 ·have B:i<d.length:=by have:=of_decide_eq_true am;omega
  have ah:d[i]? =some d[i]:=A2 B;have aK:d[i]∈d:=AW B;have X:d.take (i+1)=d.take i++ [d[i]]:=by rw[AD,ah];rfl
  have bg:d[i]∉d.take i:=λt=>by
   obtain⟨j,bh,o⟩:=Dd t;have bI:j<i:=by have:=bh;simp at this;omega
   rw[List.getElem_take] at o;have:=(Lq (h₀:=by omega) (h₁:=B) bc).1 o;omega
  rw[Ab (by omega)];refine ai.mk λbi aL=>?_
  rw[<- v1.len];refine bf.idx ah λa _ c=>AJ.mk c.str ?_
  have skip: ∀O Y,bK g O {q with Sb:=H} Y {st with next:=next} l->Mod (λc=>k c≠0) r O->Grow k Y r.size->(∀ b,d[i]=aX b->b∈st.ts.map (·.1))->bi () O:=λO Y Z an bj ao=>aL _ _ (by
   refine aI (d.length-(i+1)) _ _ (by omega) ⟨i+1,H,Y,l,next,rfl,rfl,B,Z,J,T,U,λe w=>aS e λt=>w (by rw[X];exact List.mem_append.2 (.inl t)),λb y aa=>?_,sub,aG,aH,W,an,bj⟩;rw[X] at y;rcases List.mem_append.1 y with y|y
   ·exact V b y aa
   ·exact absurd (ao b (List.mem_singleton.1 y).symm) aa)
  refine ai.mk λbk aM=>?_
  have aN:(∀ b,d[i]≠aX b)->bk (true,()) u:=λao=>aM _ _ (af.yes rfl (skip u v I L M λb o=>absurd o (ao b)))
  have bm: ∀b,2<=(aX b).size:=λb=>by
   have r:=A8 (aX b);rw[XO] at r;have ap:=Lib.nDigits_pos b;have F:=Lib.decDigits_length b;rw[A6] at r;omega
  refine af.intro (λaq=>?_) (λaq=>?_)
  ·have ap:=of_decide_eq_true aq;exact aN λb o=>by have:=bm b;rw[<- o] at this;omega
  ·have ap:2<=d[i].size:=by have:=of_decide_eq_false aq;omega
   refine⟨⟨GO _,by omega⟩,?_⟩;cases ar:(dq d[i] 0 != (116:Int)) with
   |true=>
    refine aN λb o=>?_
    have:dq d[i] 0=116:=by
     rw[o];have:=N8 (s:=aX b) (i:=0) (c:=116) (by
      have F:=XO b;show(bl (aX b))[0]? =_;rw[F];rfl)
     exact this
    rw[this] at ar;cases ar
   |false=>
    obtain⟨b,z⟩:=aC.dj d[i] ((aj _).2 aK) (APU ar ap);have aO:ff m (aX b)≠none:=by rw[<- z];exact(aj _).2 aK
    have bJ:=a4 b aO;refine aM _ _ (af.no rfl ⟨⟨by omega,by omega⟩,?_⟩);have bn:d[i].extract ((1:Int).toNat) d[i].size=AY (Lib.decDigits b):=by rw[show(1:Int).toNat=1 from rfl,rI,z];have:(aX b).data.toList=116::Lib.decDigits b:=XO b;rw[this];rfl
    rw[bn];refine AQg (by omega) λO au=>⟨_,_,rfl,?_⟩
    have Z:=I.on au;have an:=L.trans (Ext.mod au);refine ai.mk λbL aP=>⟨trivial,af.yes rfl ?_⟩
    refine Qh (Z.ib a2) (by omega) λaQ av=>⟨_,rfl,?_⟩
    have G:=Z.on av;have aR:=an.trans (Ext.mod av);have bo:bQ (aX b) d[i]=true:=by rw[z,Cn];exact decide_eq_true rfl
    rw[bo];refine af.yes rfl (aD (Aa.mk (s:=q.np) (AB G.cell rfl) ?_));refine AIO G.names.view (by simp[eo];omega) ⟨_,rfl,?_⟩;have aT:((b:Int)∈eo ({st with next:=next}:Db))↔b∈st.ts.map (·.1):=by
     simp only[eo,List.mem_map];constructor
     ·rintro⟨p,aw,o⟩;exact⟨p,aw,by omega⟩
     ·rintro⟨p,aw,o⟩;exact⟨p,aw,by omega⟩
    by_cases t:b∈st.ts.map (·.1)
    ·rw[decide_eq_true (aT.2 t)];exact aP _ _ (af.no rfl (skip aQ v G aR M λab o=>by rw[z] at o;rw[<- Jg o];exact t))
    rw[decide_eq_false λh=>t (aT.1 h)];refine aP _ _ (af.yes rfl ?_);refine aD (AX.mk (AL G.cell rfl) ?_);have bp:(ff l (aX b)).isSome=true:=by
     rw[aS (aX b) (by rw[<- z];exact bg)];cases bq:ff m (aX b) with
     |none=>exact absurd bq aO
     |some p=>rfl
    rw[z];refine R8 G.box λaU ax ay aV aW=>⟨_,rfl,?_⟩
    have aY:Mod (λc=>k c≠0) r aU:=aR.then (aV.aj λc _ f=>by
     have aZ:v c≠0:=by rw[I.kb c f];decide
     by_cases ak:c<r.size
     ·rw[M c ak] at aZ;exact .inl aZ
     ·exact .inr (by omega))
    have bM:=(au.trans av).size;rcases RZ (k:=aX b) J.up bp with⟨br,az⟩|⟨az,bs,Q⟩
    ·rw[az] at ay ⊢;refine af.yes rfl ?_;refine a7 (λu=>by have:=J.calm u;rw[br] at this;cases this) aU ax (NU l) ay rfl ((Ext.mod S).trans aY) (λc f=>?_) T U sub W;exact aJ c (by
      have:=I.kb c (aW c f);rw[this];decide)
    ·rw[az];refine af.no rfl ?_;have aA:=G.boxed (j:=2) (bH:= {st with next:=next}) ay (aV.aj λc _ f=> .inl f) (λc f=> .inl (aW c f)) rfl rfl rfl rfl (.inl ⟨by decide,rfl,rfl⟩) (.inl ⟨by decide,rfl⟩);refine aD (AC.mk (AB aA.cell rfl) ?_);have bt:J8 J9 ((b:Int)+(1:Int))=((b+1:Nat):Int):=Ab (by omega);rw[bt];have bu:(if(((b+1:Nat):Int):Int)>((next:Nat):Int) then((b+1:Nat):Int) else((next:Nat):Int))=((max (b+1) next:Nat):Int):=by split<;>omega
     refine aD (ae.dt aA.cell (by simp) λbv a0 a1 bN=>?_);rw[bu] at a0;have bw:=aA.jE (h':=bv) (next:=max (b+1) next) (by simpa [eg] using a0) a1;have bx:Grow k (Jm v aQ.size ax 2) r.size:=λc f=>by rw[GY (by omega)];exact M c f
     have bz:=VL (m:=l) (aX b);refine aL _ _ ?_;refine aI (d.length-(i+1)) _ _ (by omega) ⟨i+1,ax,_,_,max (b+1) next,rfl,rfl,B,bw,J.trans bs,?_,λe w=>?_,λe w=>?_,λab C aa=>?_,λab C=>?_,by omega,by omega,AH bz W,?_,bx⟩
     ·refine T.fV λx bA=>?_
      rw[Q,if_neg (bA b (by rw[a3];exact t))]
     ·rw[Q,if_neg (w b)];exact U e w
     ·rw[X] at w;simp only[HS,HJ,not_or] at w;rw[Q,if_neg (by rw[<- z];exact w.2)];exact aS e w.1
     ·rw[Q];split
      ·rfl
      ·rename_i al;rw[X] at C;rcases List.mem_append.1 C with F|F
       ·exact V ab F aa
       ·exact absurd ((List.mem_singleton.1 F).trans z) al
     ·rw[Q] at C;split at C
      ·exact absurd rfl C
      ·exact sub ab C
     ·refine aY.trans (a1.aj λc _ f=>?_);have:c=q.d:=f;rw[this,E.kd];decide
 ·have B:i=d.length:=by have:=of_decide_eq_false am;omega
  subst B;rw[Bk] at aS V;refine a8 u H v l next I J T U (λb y=>?_) aG aH W ((Ext.mod S).trans L) aJ
  by_cases t:b∈st.ts.map (·.1)
  ·exact t
  ·exact absurd (V b ((aj _).1 (sub b y)) t) y
end
theorem ANz {f:Type}{c:Nat->List f}{l:List Nat}{d:Nat}(g:l.Pairwise (· < ·))(h: ∀a∈l,a<d)(i: ∀a,a<d->a∉l->c a= []):(List.range d).flatMap c=l.flatMap c:=by
 have j:l=(List.range d).filter λa=>decide (a∈l):=by
  refine wu g (List.pairwise_lt_range.sublist G4) λa=>?_
  simp only[List.mem_filter,Ln,decide_eq_true_eq];exact⟨λb=>⟨h a b,b⟩,λb=>b.2⟩
 have key: ∀L:List Nat,(∀ a∈L,a<d)->L.flatMap c=(L.filter λa=>decide (a∈l)).flatMap c:=by
  intro L
  induction L with
  |nil=>intro _;rfl
  |cons a L k=>
   intro e;rw[AF,AS,k λm n=>e m (AG _ n)];by_cases b:a∈l
   ·rw[if_pos (by simpa using b),AF]
   ·rw[if_neg (by simpa using b),i a (e a (by simp)) b,DA]
 rw[key _ λa o=>List.mem_range.1 o,<-j]
theorem AOt {l:List Nat}(e:l.Pairwise (· < ·)){a:Nat}(d:a∈l):a<=l.getLast?.getD 0:=by
 cases b:l.getLast? with
 |none=>
  rw[List.getLast?_eq_none_iff] at b;subst b;cases d
 |some x=>
  show a<=x;obtain⟨f,rfl⟩:=List.getLast?_eq_some_iff.1 b;rcases List.mem_append.1 d with c|c
  ·exact Nat.le_of_lt ((List.pairwise_append.1 e).2.2 a c x (by simp))
  ·rw[List.mem_singleton.1 c];exact A0 _
theorem YI {m:Bx}{b:A2K}{e:Nat}{g:Nat->List (List UInt8)}{l:List Nat}(hd:m.down=false)(n:gu (ff m) b e g)(j:mI b m l)(y:1<=e/\e<=99999999):
  TF b m l=((List.range e).flatMap g).map AY/\l.getLast?.getD 0+1<=e/\(∀ a,l.getLast?.getD 0+1<=a->a<=99999999->ff m (aC b a)=none):=by
 have o: ∀a,1<=a->a<=99999999->(a∈l↔ff m (aC b a)≠none):=λa h c=>by
  rw[j.mem,SI];constructor
  ·rintro⟨_,_,d⟩ r;rw[r] at d;cases d
  ·intro d;refine⟨h,c,?_⟩;cases i:ff m (aC b a) with
   |none=>exact absurd i d
   |some p=>rfl
 have q: ∀a∈l,a<e:=λa f=>by
  obtain⟨h,c,_⟩:=(j.mem a).1 f;have k:=(o a h c).1 f;exact Decidable.byContradiction λd=>k (n.out a (by omega) c)
 have k:TF b m l=l.flatMap λa=>(g a).map AY:=AQo hd λa f=>by
  obtain⟨h,c,_⟩:=(j.mem a).1 f;have k:=(o a h c).1 f;cases i:ff m (aC b a) with
  |none=>exact absurd i k
  |some p=>
   obtain⟨s,t⟩:=n.has a p h c i;refine⟨p,rfl,?_⟩;rw[s,VT,AT];have:(g a).map (bl∘AY)=g a:=by
    conv=>rhs;rw[<- Kd (g a)]
    exact CH λx _=>EF x
   rw[this];exact t
 refine⟨?_,?_,λa f c=>?_⟩
 ·rw[k,KB];refine(ANz j.inc q λa f u=>?_).symm;by_cases v:a=0
  ·rw[n.lB a (.inl v)];rfl
  ·have i:ff m (aC b a)=none:=Decidable.byContradiction λd=>u ((o a (by omega) (by omega)).2 d)
   rw[n.iu a (by omega) (by omega) i];rfl
 ·cases w:l.getLast? with
  |none=>show 0+1<=e;omega
  |some x=>
   have:=q x (SD w);show x+1<=e;omega
 ·exact Decidable.byContradiction λd=>by
   have:=AOt j.inc ((o a (by omega) c).2 d);omega
open Classical in
noncomputable def kM (Sb:Nat->Prop) (a nt ft b d:Nat) (tp np:Sl) (e T:Nat->Prop):Nat->Nat:=λc=>
 if Sb c then 2 else if c<a then 0 else if c=nt then 4 else if c=ft then 5 else if c=b then 1 else if c=d then 3 else if tp.ag=some c then 6 else if np.ag=some c then 7 else if e c then 5 else if T c then 8 else 0
theorem zE {Sb:Nat->Prop}{d nt ft e f:Nat}{tp np:Sl}{g T:Nat->Prop}{c:Nat}(h:kM Sb d nt ft e f tp np g T c≠0):Sb c\/(d<=c/\(c=nt\/c=ft\/c=e\/c=f\/tp.ag=some c\/np.ag=some c\/g c\/T c)):=by
 by_cases a:Sb c
 ·exact .inl a
 by_cases b:c<d
 ·exact absurd (by unfold kM;rw[if_neg a,if_pos b]) h
 refine .inr ⟨by omega,Classical.byContradiction λi=>h ?_⟩;simp only[not_or] at i;obtain⟨j,k,l,m,n,o,p,q⟩:=i;unfold kM;rw[if_neg a,if_neg b,if_neg j,if_neg k,if_neg l,if_neg m,if_neg n,if_neg o,if_neg p,if_neg q]
theorem bK.make {g h:aa}{q:Hp}{st:Db}{m:Bx}{N0 NB NC ND:Nat}(cell:h[q.d]? =some (J2 (eg q st false) FP (0,0)))(n:Cf h q.b q.Sb m)(o:EY h q.lg q.b nl st.aw st.bo)(r:EY h q.nt q.b nn st.aJ false)(fresh:M.cY h q.ft q.ns st.fr)
  (s:Own fL BK h q.tp q.ps) (y:q.ps.length=st.ts.length) (names:Own IY Bq h q.np (eo st)) (ext:Ext g h) (H:g.size<=N0) (u: ∀c,q.Sb c->g.size<=c/\c<N0)
  (I:N0<=q.nt) (J:q.nt<q.ft) (K:q.ft<q.d) (L:q.d<NB) (N:NB<=NC) (O:NC<=q.lg) (P:q.lg<ND) (k: ∀c,q.np.ag=some c->q.d<c/\c<NB) (l: ∀c,q.tp.ag=some c->NB<=c/\c<NC) (v: ∀c,M.cS q.ft q.ns c->c=q.ft\/ND<=c)
  (z: ∀(i:Nat) (t:Nat) (p:Nat×List Pr),q.ps[i]? =some t->st.ts[i]? =some p-> ∃e f,bR h t p.2 (NG p.2) e f/\NB<=e/\f<=NC/\(∀ c,q.tp.ag=some c-> ¬(e<=c/\c<f))/\Ha p.2) (Q:NC<=h.size):
  ∃w,bK g h q w st m/\ ∀c,w c≠0->q.Sb c\/N0<=c:=by
 let T:Nat->Prop:=λc=>(NB<=c/\c<NC)/\q.tp.ag≠some c
 have d: ∀c,N0<=c-> ¬q.Sb c:=λc b j=>by have:=(u c j).2;omega
 refine⟨kM q.Sb N0 q.nt q.ft q.d q.lg q.tp q.np (M.cS q.ft q.ns) T,⟨cell,n,o,r,fresh,s,y,λi t p A B=>?_,names,?_,λc b=>?_,?_,?_,λc b=>?_,λc b=>?_,λc b=>?_,λc b=>?_,ext⟩,λc b=>?_⟩
 ·obtain⟨e,f,C,R,S,D,E⟩:=z i t p A B;refine⟨e,f,C,by omega,λc c1 c2=>?_,E⟩;have x:T c:=⟨⟨by omega,by omega⟩,λa=>D c a ⟨c1,c2⟩⟩;have F: ¬M.cS q.ft q.ns c:=λG=>by rcases v c G with h|h<;>omega
  unfold kM;rw[if_neg (d c (by omega)),if_neg (by omega),if_neg (by omega),if_neg (by omega),if_neg (by omega),if_neg (by omega),if_neg x.2,if_neg (λa=>by have:=k c a;omega),if_neg F,if_pos x]
 ·unfold kM;rw[if_neg (d _ (by omega)),if_neg (by omega),if_neg (by omega),if_neg (by omega),if_pos rfl]
 ·unfold kM;rw[if_pos b]
 ·unfold kM;rw[if_neg (d _ (by omega)),if_neg (by omega),if_neg (by omega),if_neg (by omega),if_neg (by omega),if_pos rfl]
 ·unfold kM;rw[if_neg (d _ (by omega)),if_neg (by omega),if_pos rfl]
 ·unfold kM;rcases v c b with rfl|h
  ·rw[if_neg (d _ (by omega)),if_neg (by omega),if_neg (by omega),if_pos rfl]
  ·rw[if_neg (d c (by omega)),if_neg (by omega),if_neg (by omega),if_neg (by omega),if_neg (by omega),if_neg (by omega),if_neg (λa=>by have:=l c a;omega),if_neg (λa=>by have:=k c a;omega),if_pos b]
 ·have:=l c b;unfold kM;rw[if_neg (d c (by omega)),if_neg (by omega),if_neg (by omega),if_neg (by omega),if_neg (by omega),if_neg (by omega),if_pos b]
 ·have:=k c b;unfold kM;rw[if_neg (d c (by omega)),if_neg (by omega),if_neg (by omega),if_neg (by omega),if_neg (by omega),if_neg (by omega),if_neg (λa=>by have:=l c a;omega),if_pos b]
 ·rcases zE b with j|⟨U,a|a|a|a|a|a|a|a⟩
  ·exact⟨(u c j).1,n.lt j⟩
  ·exact⟨by omega,by rw[a];exact Ai r⟩
  ·exact⟨by omega,by rw[a];exact fresh.lt (.inl rfl)⟩
  ·exact⟨by omega,by rw[a];exact Ai cell⟩
  ·exact⟨by omega,by rw[a];exact Ai o⟩
  ·exact⟨by omega,s.lt a⟩
  ·exact⟨by omega,names.lt a⟩
  ·exact⟨by omega,fresh.lt a⟩
  ·exact⟨by omega,by have:=a.1.2;omega⟩
 ·exact(zE b).imp id λh=>h.1
def KW(D:Bo):List (Nat×List Pr):=(List.range D.aO).flatMap λa=>(D.L a).map λb=>(a,b)
def PT(f:Nat)(l:List (Nat×List Pr)):List (List Pr):=(l.filter λp=>decide (f<=p.1)).map (·.2)
theorem ZK(f:Nat)(a b:List (Nat×List Pr)):PT f (a++b)=PT f a++PT f b:=by simp[PT]
theorem zF(D:Bo):PT (Ao D).aW (KW D)=Ie D:=by
 unfold KW Ie;have key: ∀L:List Nat,PT (Ao D).aW (L.flatMap λa=>(D.L a).map λb=>(a,b))=L.flatMap λa=>if a<(Ao D).aW then [] else D.L a:=by
  intro L
  induction L with
  |nil=>rfl
  |cons a L d=>
   rw[AF,AF,ZK,d];congr 1;unfold PT;rw[On];split
   ·rename_i h;have:(λb:List Pr=>decide ((Ao D).aW<=((a,b):Nat×List Pr).1))=λ_=>false:=by funext b;simp;omega
    simp[FF];omega
   ·rename_i h;simp[FF];intro b _;omega
 exact key _
theorem ARy {d:bO}{D:Bo}(h:BG d D): ∀p∈KW D,p.1<=99999999/\Yn p.2:=λp e=>by
 obtain⟨a,f,i⟩:=List.mem_flatMap.1 e;obtain⟨b,j,rfl⟩:=List.mem_map.1 i;have:=List.mem_range.1 f;have:=h.cq;exact⟨by show a<=_;omega,h.fQ a b j⟩
theorem ANh(D:Bo):((List.range D.aO).flatMap λa=>(D.L a).map (BX a)).map AY=(KW D).map λp=>AY (BX p.1 p.2):=by
 unfold KW;rw[KB,KB];unfold List.flatMap;congr 1;refine CH λa _=>?_
 rw[AT,AT];rfl
theorem ARc {f:Nat}{l:List (Nat×List Pr)}(i:Nat):(PT f (l.take i)).flatten.length<=(PT f l).flatten.length:=by
 conv=>rhs;rw[<- DE i l,ZK,N2,A1]
 omega
theorem AKQ(D:Bo):((List.range D.aY).flatMap λa=>(D.N a).map EG).map AY=(Nf D).map λx=>AY (EG x):=by unfold Nf;rw[KB,KB];unfold List.flatMap;congr 1;exact CH λa _=>by rw[AT];rfl
theorem View.modn {e:Type}{d:cE e}{h f:aa}{s:Sl}{l:List e}{j:Nat->Prop}(v:View d h s l)(m:Mod j h f)(o: ∀c,s.ag=some c->c<h.size-> ¬j c):View d f s l:=by refine⟨v.len,v.cap,λi x p=>?_⟩;obtain⟨a,k,n⟩:=v.cells i x p;refine⟨a,k,n.mod m ?_⟩;have r:=d.pos;have t:=d.len x;obtain⟨u,q⟩: ∃u,(d.enc x)[0]? =some u:=⟨_,A2 (by omega)⟩;have:=VN (n 0 u q);rw[aU,aU] at this;rw[aU];exact o _ (by simp[Sl.ag,k]) this
section
variable {A : al} {B : cz} {g h : aa} {b : Nat} {Sb : Nat -> Prop} {m : Bx} {D : Bo} {aH c : Nat} {R : A2J}
theorem AN1(E:cp g)(aF:Cf h b Sb m)(Q:Ext g h)(b7: ∀c,Sb c->g.size<=c)(hd:m.down=false)(ab:BG (ff m) D)(C:jj (ff m) D aH c)(d:c<=B.C)(hA:aH+1<=B.A)(bn:ba m.files<=B.W0+aH*B.K)
  (dj:m.fuel≠ -1-> ∀ag dk S' aj,Cf ag b S' aj->aj.down=true->Mod Sb h ag->(∀ c,S' c->Sb c\/h.size<=c)->kg (ff aj) (aH+1) c (cC D)->(∀ w,¬cF w->ff aj w=ff m w)->ba aj.files<=B.W0+(aH+1)*B.K->R (J1 #[Ap dk,J6 J9 30]) ag)
  (dl: ∀ag bo b8 b9 aj dm,bo.b=b->Br B g ag bo b8 b9 aj dm (aH+1) c->Jf m aj->Cr b9=cC D->(∀ w,¬cF w->ff aj w=ff m w)->Mod Sb h ag->(∀ c,b8 c≠0->Sb c\/h.size<=c)->R (J1 #[Ap bo.d,J6 J9 0]) ag):
  AA A P SN #[Ap b] h R:=by
 have fa:=B.hA;have fb:=B.hC;have ca:=AH bn (B.wt (a:=aH) (by omega));have aw:=ab.cq;have S:=zw ab;have fc:=C.aO;have fd:=C.aY;have fe:=C.aW;have dn:=C.next;have fg:=C.cn;have ak: ∀c,Sb c->c<h.size:=λc d=>aF.lt d
 refine AIL ?_;unfold uM;refine yM (E.ext Q) aF hd (by decide) (by decide) ca (λag l aU dp _=>?_) λj l nt sl aU dp cb cc cd v1 fh=>⟨_,_,_,rfl,af.no rfl ?_⟩
 ·obtain⟨_,dq,_⟩:=YI hd ab.note aU aw.2.2;omega
 obtain⟨ce,dq,dr⟩:=YI hd ab.note aU aw.2.2;rw[AKQ] at ce;have bp:=rY (nm:=nn) (m:=m) hd aU.inc;rw[ce] at v1 bp;have ds:1<=l.getLast?.getD 0+1:=by omega
 generalize l.getLast?.getD 0+1=aJ at*
 refine M.sS λo dt bq fi=>⟨_,rfl,ao.mk λI _ cf aV fj=>?_⟩
 have cg:=cb.trans bq;have ch:=cg.trans aV;have du:nt<j.size:=Ai cd;have ci:EY I nt b nn aJ false:=EY.ext (EY.ext cd bq) aV;have cj:M.cY I j.size [] []:=dt.ext aV;have ck:=(v1.ext bq).ext aV;have fk:=cb.size;refine ai.mk λK dv=>?_
 have br: ∀(hB:aa) (np:Sl),Ext h hB->hB[o.size]? =some (J2 #[Ap b,J5 none,Ap nt,Ap j.size,J4 none 0 0,J4 np.p np.len np.cap,J6 J9 ((Ao D).next:Int),J6 J9 ((Ao D).aW:Int),J3 false] FP (0,0))->
   Own IY Bq hB np ((Ao D).names.map λn:Nat=>(n:Int))->(∀ c,np.ag=some c->o.size<c)->EY hB nt b nn aJ false->M.cY hB j.size [] []->K () hB:=by
  intro hB np aW aG an ac dw dx;refine dv _ _ ?_;have fl:=aW.size;have fm:=E.ext (Q.trans aW);have dy:o.size<hB.size:=Ai aG;have fn:h.size<=o.size:=cg.size;refine Aa.mk (s:=np) (AB aG rfl) ?_;have cl:np.len=(Ao D).names.length:=by rw[an.len];simp
  refine Loop.rule (λF x k=> ∃(i:Nat) (tp:Sl) (ps:List Nat),x=((i:Int),())/\F=(Ao D).names.length-i/\i<=(Ao D).names.length/\Mod (λc=>c=o.size\/hB.size<=c) hB k/\
    k[o.size]? =some (J2 #[Ap b,J5 none,Ap nt,Ap j.size,J4 tp.p tp.len tp.cap,J4 np.p np.len np.cap,J6 J9 ((Ao D).next:Int),J6 J9 ((Ao D).aW:Int),J3 false] FP (0,0))/\
    Own fL BK k tp ps/\ps.length=i/\(∀ c,tp.ag=some c->hB.size<=c)/\ ∀(r t n:Nat),ps[r]? =some t->(Ao D).names[r]? =some n-> ∃T U,bR k t (D.T n) (NG (D.T n)) T U/\hB.size<=T/\U<=k.size/\ ∀c,tp.ag=some c-> ¬(T<=c/\c<U)) ?_
   ⟨0,⟨none,0,0⟩,[],rfl,rfl,A5 _,Mod.refl,aG,Own.nil,rfl,λc d=>by simp[Sl.ag] at d,λr t n e=>by simp at e⟩
  rintro fo F _ k ⟨i,tp,ps,rfl,rfl,U,J,ap,am,bs,aq,cm⟩ cn;dsimp only;have co:=J.size;have V:Ext h k:=aW.then (J.aj λc _ d=>by omega);have dz:View IY k np ((Ao D).names.map λn:Nat=>(n:Int)):=an.view.mod J λc d e=>by
   have:=ac c d;have:=an.lt d;omega
  rw[cl];refine af.intro (λu=>?_) (λu=>?_)
  ·have v:i<(Ao D).names.length:=by have:=of_decide_eq_true u;omega
   have ah:(Ao D).names[i]? =some (Ao D).names[i]:=A2 v;have cq:(Ao D).names[i]∈(Ao D).names:=AW v;have fp:=S.below _ cq;have fq:=S.next;have fr:=S.cn;obtain⟨dA,dB⟩:=ab.cO _ cq;rw[<- cl];refine dz.idx (i:=i) (x:=((Ao D).names[i]:Int)) (by rw[C5,ah];rfl) λa _ ar=>AC.mk ar.int ?_
   generalize (Ao D).names[i]=nm at*
   refine Qh (E.ext (Q.trans V)) (by omega) λaY bt=>⟨_,rfl,?_⟩
   refine YZ (aF.ext (V.trans bt)) ⟨_,_,rfl,?_⟩;rw[YS hd,dA];dsimp only;rw[VT];refine af.no rfl ?_;refine zg dB.eL λaZ t cr dC=>⟨_,_,rfl,af.no rfl ?_⟩
   have a0:=bt.trans cr;have cs:=Am a0 ap;refine Aa.mk (s:=tp) (AB cs rfl) ?_;have fs:=bt.size;have ft:=cr.size;refine ao.aZ (E:=fL) (x:=t) (s:=tp) (l:=ps) rfl vR (am.ext a0) (by omega) (by simp[maxLen];omega) λaI fu dD aK bu _=>?_
   have dE:=aK.ag cs (λe=>by have:=aq _ e;omega);refine ae.dt dE (by simp) λfv dF a1 fw=>?_
   rw[Ab (by omega)];have ct: ∀c,aI.ag=some c->hB.size<=c:=λc d=>by
    rcases bu c d with h|h
    ·exact aq c h
    ·omega
   have fx:=aK.size;refine cn ((Ao D).names.length-(i+1)) _ _ (by omega) ⟨i+1,aI,ps++ [t],rfl,rfl,v,?_,by simpa using dF,dD.mod a1 (λc d e=>by have:=ct c d;omega),by simp[bs],ct,λr t' n ad W=>?_⟩
   ·exact(J.trans (Ext.mod a0)).trans ((aK.aj λc _ d=> .inr (aq c d)).trans (a1.aj λc _ d=> .inl d))
   ·by_cases cu:r<ps.length
    ·rw[Ge cu] at ad;obtain⟨T,bv,bw,bx,cv,a2⟩:=cm r t' n ad W;refine⟨T,bv,((bw.ext a0).mod aK λc c1 c2 d=>a2 c d ⟨c1,c2⟩).mod a1 (λc c1 c2 d=>by omega),bx,by omega,λc d cw=>?_⟩;rcases bu c d with h|h
     ·exact a2 c h cw
     ·omega
    ·have dG:r=ps.length:=by have:=(List.getElem?_eq_some_iff.1 ad).1;simp at this;omega
     subst dG;rw[F2 (A0 _)] at ad;simp at ad;subst ad;rw[bs,ah] at W;cases W;refine⟨aY.size,aZ.size,(dC.mod aK λc c1 c2 d=>by have:=am.lt d;omega).mod a1 (λc c1 c2 d=>by omega),by omega,by omega,λc d cw=>?_⟩;rcases bu c d with h|h
     ·have:=am.lt h;omega
     ·omega
  have v:i=(Ao D).names.length:=by have:=of_decide_eq_false u;omega
  clear cn U u;have dH:EY k nt b nn aJ false:=dw.mod J (by omega);have dI:M.cY k j.size [] []:=dx.mod J λc d e=>by
   rcases d with rfl|⟨w,y,_⟩
   ·omega
   ·cases y
  refine yM (E.ext (Q.trans V)) (aF.ext V) hd (by decide) (by decide) ca (λag bz a3 dJ _=>?_) λdK bz X bA a3 dJ ax dL cx cy bB=>⟨_,_,_,rfl,af.no rfl ?_⟩
  ·obtain⟨_,dM,_⟩:=YI hd ab.log a3 ⟨aw.1,aw.2.1⟩;omega
  obtain⟨cz,dM,dN⟩:=YI hd ab.log a3 ⟨aw.1,aw.2.1⟩;rw[ANh] at cz;have cB:=rY (nm:=nl) (m:=m) hd a3.inc;rw[cz] at cy cB;have fy:1<=bz.getLast?.getD 0+1:=by omega
  generalize bz.getLast?.getD 0+1=a4 at*
  have dO:=Am ax ap;have fz:X<dK.size:=Ai cx;refine ae.dt dO (by simp) λaL dP au fA=>?_
  have fB:=ax.size;have fC:o.size<k.size:=Ai ap;have dQ:EY aL X b nl a4 false:=EY.mod cx au (by omega);have dR:Cf aL b Sb m:=((aF.ext V).ext ax).mod au λc d e=>by have:=ak c d;omega
  have dS: ¬Sb X:=λd=>by have:=ak _ d;have:=V.size;omega
  have a5:Ext h aL:=(V.trans ax).then (au.aj λc _ d=> .inr (by omega));have fE:=au.size;refine Loop.rule (λF (_:Unit) Q=> ∃s:Nat,F=(Ao D).aW-s/\EY Q X b nl s false/\Cf Q b Sb m/\Mod (λc=>Sb c\/c=X) aL Q/\a4<=s/\(s=a4\/s<=(Ao D).aW)) ?_ ⟨a4,rfl,dQ,dR,Mod.refl,A0 _,.inl rfl⟩;rintro fF F _ H ⟨s,rfl,bC,cD,Y,fG,fH⟩ cE;have fI:=S.aW;have ay:=Y.ag dP (by rintro(h|h);have:=ak _ h;omega;omega);have cG:Ext g H:=(Q.trans a5).then (Y.aj λc _ d=>by
   rcases d with d|rfl
   ·exact .inr (b7 c d)
   ·exact .inr (by have:=Q.size;have:=V.size;omega))
  have dT:cp H:=E.ext cG;refine AX.mk (AB ay rfl) (AC.mk (AB ay rfl) ?_);refine Oh ?_;unfold Lr;refine af.no rfl (aD (AC.mk (AB bC rfl) ⟨_,rfl,?_⟩));refine⟨AB ay rfl,?_⟩;refine af.intro (λbD=>?_) (λbD=>?_)
  ·have bE:=of_decide_eq_true bD;refine AX.mk (AB ay rfl) ?_;refine XD dT bC cD dS (by decide) (by omega) (λbF=>absurd rfl bF) λ_ fJ dU dV dW=>⟨_,_,rfl,af.no rfl ?_⟩
   exact cE ((Ao D).aW-(s+1)) _ _ (by omega) ⟨s+1,rfl,dV,dU,Y.trans dW,by omega,.inr (by omega)⟩
  have dX:(Ao D).aW<=s:=by have:=of_decide_eq_false bD;omega
  clear cE;have fK:=Y.size;have cH:View Ik H bA ((KW D).map λp=>AY (BX p.1 p.2)):=(cy.mod au λc d e=>by have:=(bB c d).1;omega).mod Y λc d e=>by
   have j:=bB c d;rcases e with e|e
   ·have:=ak c e;have:=V.size;omega
   ·exact j.2 e
  have dY: ∀c,bA.ag=some c->k.size<=c:=λc d=>(bB c d).1
  have dZ:M.cY H j.size [] []:=((dI.ext ax).mod au λc d e=>by
   rcases d with rfl|⟨w,y,_⟩
   ·omega
   ·cases y).mod Y λc d e=>by
   rcases d with rfl|⟨w,y,_⟩
   ·rcases e with e|e
    ·have:=ak _ e;omega
    ·have:=V.size;omega
   ·cases y
  have cI:bA.len=(KW D).length:=by rw[cH.len];simp
  have d0:=ARy ab;have d1:=C.bW;have fM:(PT (Ao D).aW (KW D)).flatten.length<=c:=by rw[zF];have:OG D=_:=rfl;unfold OG at d1;omega
  refine Loop.rule (λF aM y=> ∃(i:Nat) (ns:List M.DL),aM=((i:Int),())/\F=(KW D).length-i/\i<=(KW D).length/\Mod (λc=>c=j.size\/H.size<=c) H y/\M.cY y j.size ns (A7 [] (PT (Ao D).aW ((KW D).take i)).flatten)/\ ∀c,M.cS j.size ns c->c=j.size\/H.size<=c) ?_
   ⟨0,[],rfl,rfl,A5 _,Mod.refl,dZ,λc d=>by
    rcases d with rfl|⟨w,y,_⟩
    ·exact .inl rfl
    ·cases y⟩
  rintro fO F _ al ⟨i,ns,rfl,rfl,U,L,aN,bG⟩ bH;dsimp only;have fP:=L.size;have d2:=View.modn cH L λc d bE e=>by have:=dY c d;omega
  have cJ:=L.ag ay (by omega);rw[cI];refine af.intro (λu=>?_) (λu=>?_)
  ·have v:i<(KW D).length:=by have:=of_decide_eq_true u;omega
   have ah:(KW D)[i]? =some (KW D)[i]:=A2 v;obtain⟨cK,a6⟩:=d0 _ (AW v);have cL:(KW D).take (i+1)=(KW D).take i++ [(KW D)[i]]:=by rw[AD,ah];rfl
   have d3:=ARc (f:=(Ao D).aW) (l:=KW D) (i+1);refine ai.mk λfQ bI=>?_
   rw[<- cI];refine d2.idx (i:=i) (x:=AY (BX (KW D)[i].1 (KW D)[i].2)) (by rw[C5,ah];rfl) λa _ ar=>AJ.mk ar.str ?_
   have d4:J8 J9 ((i:Int)+(1:Int))=((i+1:Nat):Int):=Ab (by rw[B9] at cB;omega);rw[d4] at bI;generalize (KW D)[i]=d5 at*
   obtain⟨bJ,z⟩:=d5;dsimp only at cK a6 ⊢;refine AJ8 cK a6.len a6.ok λcM d6 cN az d7=>⟨_,_,_,rfl,af.no rfl ?_⟩
   have d8:=Am az cJ;refine AC.mk (AB d8 rfl) ?_;refine af.intro (λbL=>?_) (λbL=>?_)
   ·have bE:=of_decide_eq_true bL;refine bI _ _ (bH ((KW D).length-(i+1)) _ _ (by omega) ⟨i+1,ns,rfl,rfl,v,L.trans (Ext.mod az),?_,bG⟩);have e:PT (Ao D).aW ((KW D).take (i+1))=PT (Ao D).aW ((KW D).take i):=by
     rw[cL,ZK];have:PT (Ao D).aW [(bJ,z)]= []:=by unfold PT;rw[AS,if_neg (by simp;omega)];rfl
     rw[this,AM]
    rw[e];exact aN.ext az
   ·have d9:(Ao D).aW<=bJ:=by have:=of_decide_eq_false bL;omega
    have e:(PT (Ao D).aW ((KW D).take (i+1))).flatten=(PT (Ao D).aW ((KW D).take i)).flatten++z:=by
     rw[cL,ZK];have:PT (Ao D).aW [(bJ,z)]= [z]:=by unfold PT;rw[AS,if_pos (by simpa using d9)];rfl
     rw[this];simp
    rw[e,A1] at d3;have fR:=az.size;refine Loop.rule (λF aM a7=> ∃(r:Nat) (aO:List M.DL),aM=((r:Int),())/\F=z.length-r/\r<=z.length/\Mod (λc=>c=j.size\/H.size<=c) H a7/\M.cY a7 j.size aO (A7 (A7 [] (PT (Ao D).aW ((KW D).take i)).flatten) (z.take r))/\(∀ c,M.cS j.size aO c->c=j.size\/H.size<=c)/\View BM a7 cM z/\(∀ c,cM.ag=some c-> ¬M.cS j.size aO c)/\d6.size<=a7.size) ?_
     ⟨0,ns,rfl,rfl,A5 _,L.trans (Ext.mod az),aN.ext az,bG,cN.view,λc d aP=>by have:=d7 c d;have:=aN.lt aP;omega,A0 _⟩
    rintro fS F _ fT ⟨r,aO,rfl,rfl,cu,a8,bM,bN,a9,cO,fU⟩ ea;dsimp only;have eb:=a8.ag ay (by omega);have fV:=a6.len;rw[a9.len];refine af.intro (λu=>?_) (λu=>?_)
    ·have bb:r<z.length:=by have:=of_decide_eq_true u;omega
     have cP:z[r]? =some z[r]:=A2 bb;rw[<- a9.len];refine a9.idx cP λa _ ar=>?_
     obtain⟨cQ,ec,ed⟩:=ar.pair;refine AJ.mk cQ (AJ.mk ec (AZ.mk ed (ao.pair λfW fX _ bO aQ fY=>?_)));have ee:=Am aQ eb;refine AX.mk (AB ee rfl) ?_;refine AJ.mk (AL bO rfl) (AJ.mk (AB bO rfl) (AZ.mk (AB bO rfl) ?_));have ef:=M.RB (l:=(PT (Ao D).aW ((KW D).take i)).flatten) (t:= []);have eh:=M.RB (l:=z.take r) (t:=A7 [] (PT (Ao D).aW ((KW D).take i)).flatten);rw[As] at eh;simp only[GB,AI] at ef;refine M.sT (x:=z[r]) (bM.ext aQ) (by omega) λei fZ ej bP cR=>⟨_,rfl,?_⟩
     rw[Ab (by omega)];have f0:=a8.size;have f1:=aQ.size;refine ea (z.length-(r+1)) _ _ (by omega) ⟨r+1,ei,rfl,rfl,bb,(a8.trans (Ext.mod aQ)).trans (bP.aj λc _ d=>bN c d),by rw[M.sU cP];exact ej,λc d=>?_,(a9.ext aQ).mod bP (λc d aP=>cO c d aP),λc d aP=>?_,by have:=bP.size;omega⟩
     ·rcases cR c d with h|h
      ·exact bN c h
      ·exact .inr (by omega)
     ·rcases cR c aP with h|h
      ·exact cO c d h
      ·have:=cN.lt d;omega
    ·have bb:r=z.length:=by have:=of_decide_eq_false u;omega
     subst bb;rw[Bk] at bM;refine bI _ _ (bH ((KW D).length-(i+1)) _ _ (by omega) ⟨i+1,aO,rfl,rfl,v,a8,?_,bN⟩);rw[e,zR];exact bM
  have ek:i=(KW D).length:=by have:=of_decide_eq_false u;omega
  subst ek;rw[Bk,zF] at aN;clear bH;have bc:Mod (λc=>c=o.size) k aL:=(Ext.mod ax).trans au;have aS: ∀c,hB.size<=c->c<k.size-> ¬(c=o.size)/\ ¬(Sb c\/c=X)/\ ¬(c=j.size\/H.size<=c):=λc c1 c2=>by
   refine⟨by omega,?_,by omega⟩;rintro(h|h)
   ·have:=ak c h;have:=aW.size;omega
   ·omega
  have bd: ∀c,h.size<=c->c<k.size->c≠o.size->c≠j.size-> ¬(c=o.size)/\ ¬(Sb c\/c=X)/\ ¬(c=j.size\/H.size<=c):=λc c1 c2 c3 f2=>by
   refine⟨c3,?_,by omega⟩;rintro(h|h)
   ·have:=ak c h;omega
   ·omega
  have el:Own fL BK al tp ps:=((am.mod bc λc d=>(aS c (aq c d) (am.lt d)).1).mod Y λc d=>(aS c (aq c d) (am.lt d)).2.1).mod L λc d=>(aS c (aq c d) (am.lt d)).2.2
  have O: ∀c,np.ag=some c->h.size<=c/\c<k.size/\c≠o.size/\c≠j.size:=λc d=>by have:=ac c d;have:=an.lt d;omega
  have en:Own IY Bq al np ((Ao D).names.map λn:Nat=>(n:Int)):=(((an.mod J λc d e=>by have:=O c d;have:=an.lt d;omega).mod bc λc d=>(bd c (O c d).1 (O c d).2.1 (O c d).2.2.1 (O c d).2.2.2).1).mod Y λc d=>(bd c (O c d).1 (O c d).2.1 (O c d).2.2.1 (O c d).2.2.2).2.1).mod L λc d=>(bd c (O c d).1 (O c d).2.1 (O c d).2.2.1 (O c d).2.2.2).2.2
  have bQ:=bd nt cc (by omega) (by omega) (by omega);have ep:EY al nt b nn aJ false:=((dH.mod bc bQ.1).mod Y bQ.2.1).mod L bQ.2.2;have eq:EY al X b nl s false:=bC.mod L (by omega);have er:Cf al b Sb m:=cD.mod L λc d=>by have:=ak c d;omega
  have es:Ext g al:=cG.then (L.aj λc _ d=> .inr (by have:=Q.size;omega));have et: ∀(i:Nat) (t:Nat) (p:Nat×List Pr),ps[i]? =some t->((Ao D).names.map λn=>(n,D.T n))[i]? =some p-> ∃T U,bR al t p.2 (NG p.2) T U/\hB.size<=T/\U<=k.size/\(∀ c,tp.ag=some c-> ¬(T<=c/\c<U))/\Ha p.2:=λcS t p ad W=>by
   rw[C5] at W;cases be:(Ao D).names[cS]? with
   |none=>rw[be] at W;cases W
   |some n=>
    rw[be] at W;cases W;obtain⟨T,bv,bw,bx,cv,a2⟩:=cm cS t n ad be;refine⟨T,bv,((bw.mod bc λc c1 c2=>(aS c (by omega) (by omega)).1).mod Y λc c1 c2=>(aS c (by omega) (by omega)).2.1).mod L λc c1 c2=>(aS c (by omega) (by omega)).2.2,bx,cv,a2,(ab.cO n (AK be)).2⟩
  have cT:((Ao D).names.map λn=>(n,D.T n)).map (·.1)=(Ao D).names:=by rw[AT];exact Kd _
  obtain⟨cQ,eu,bf⟩:=bK.make (g:=g) (h:=al) (q:=⟨o.size,b,X,nt,j.size,Sb,ns,tp,np,ps⟩) (st:=⟨Es D,(Ao D).names.map λn=>(n,D.T n),(Ao D).next,(Ao D).aW,s,aJ,false⟩) (m:=m) (N0:=h.size) (NB:=hB.size) (NC:=k.size) (ND:=H.size)
   (by simpa [eg] using cJ) er eq ep aN el (by simp[bs,v]) (by unfold eo;rw[AT];exact en) es Q.size (λc d=>⟨b7 c d,ak c d⟩)
   cc du (by show j.size<o.size;omega) dy co dL (by show X<H.size;omega) (λc d=>⟨ac c d,an.lt d⟩) (λc d=>⟨aq c d,am.lt d⟩) bG et (by omega)
  have bS:Mod Sb h al:=by refine⟨by have:=a5.size;omega,λc d Z=>?_⟩;have ad:=a5.get c d (λh=>h);have f3:=a5.size;have W:=Y.get c (by omega) (by rintro(h|h);exact Z h;have:=V.size;omega);have ev:=L.get c (by omega) (by omega);exact ev.trans (W.trans ad)
  have f4:=bS.size;have cU: ∀n,ff m (aX n)≠none->n<8*aH+8:=C.nc;have f5:=VU m.files;refine AN8 (N:=8*aH+8) (q:=⟨o.size,b,X,nt,j.size,Sb,ns,tp,np,ps⟩) E eu hd ab cT.symm (by omega) cU dn (by simp;omega) (by omega)
   (λew bT cV aA ex ey bU ez bV aR eA bW=>⟨_,rfl,?_⟩) λbT cV eB aA aE eC cW bV aR eD cX eE bW bU eF=>⟨_,rfl,?_⟩
  ·refine dj ew bT o.size cV aA ex ey (bS.then (bU.aj λc _ d=>bf c d)) (λc d=>?_) (λG cY=>⟨D,bV.dP cY,?_,rfl⟩) (λw y=>aR w λn=>RA y n) (AH bW (B.up (BW _) bn))
   ·rcases ez c d with h|h
    ·exact bf c h
    ·exact .inr (by omega)
   ·refine jj.mono ⟨C.aO,C.aY,C.next,C.aW,C.cn,C.bW,λn Z=>cU n (eA n (cY.some Z))⟩ (BW _) (A0 _)
  ·have eG: ∀n,ff aA (aC nl n)=ff m (aC nl n):=λn=>aR _ (MI n)
   have eH: ∀n,ff aA (aC nn n)=ff m (aC nn n):=λn=>aR _ (Ql n)
   have cZ:Ee (ff aA) ⟨Es D,(Ao D).names.map λn=>(n,D.T n),aE,(Ao D).aW,s,aJ,false⟩ D:=
    ⟨bV,cT.symm,λp bX=>by
     obtain⟨n,_,rfl⟩:=List.mem_map.1 bX;rfl,rfl,cX,λp bX=>by
     obtain⟨n,Z,rfl⟩:=List.mem_map.1 bX;have j:=S.below n Z;have o:(Ao D).next<=aE:=cX;show n<aE;omega,rfl,λn bg bY _=>by
     have bg:s<=n:=bg;rw[eG];exact dN n (by omega) bY,(λh=>by cases h),λn bg bY=>by rw[eH];exact dr n bg bY,⟨S.aW.1,dX⟩,ds,λn Z=>eD n Z⟩
   have eI:TH ⟨Es D,(Ao D).names.map λn=>(n,D.T n),aE,(Ao D).aW,s,aJ,false⟩ D (aH+1) c:=by have f6:aE<=8*aH+8:=eE;exact⟨by show s<=_;omega,by show aJ<=_;omega,by show aE<=_;omega,by show((Ao D).names.map _).length<=_;simp;omega,C.bW,by omega,by omega⟩
   refine dl bT _ eB _ aA D rfl ⟨eC,cW.up,cZ,eI,AH bW (B.up (BW _) bn),d⟩ cW cZ.map.symm (λw y=>aR w λn=>RA y n) (bS.then (bU.aj λc _ d=>bf c d)) λc d=>?_
   rcases eF c d with h|h
   ·exact bf c h
   ·exact .inr (by omega)
 have c0:sl.len=(Nf D).length:=by rw[ck.len];simp
 refine af.intro (λu=>?_) (λu=>?_)
 ·have bF:Nf D≠ []:=λe=>by
   have:=of_decide_eq_true u;rw[c0,e] at this;simp at this
  obtain⟨av,x,bh⟩: ∃av x,Nf D=av++ [x]:=⟨_,_,(List.dropLast_concat_getLast bF).symm⟩;have bi:Ao D=x:=by unfold Ao;rw[bh,Ss];rfl
  have c4:sl.len=av.length+1:=by rw[c0,bh];simp
  have f7:av.length<=8000000000000:=by rw[bh] at bp;simp at bp;omega
  rw[c4];have eJ:J8 J9 (((av.length+1:Nat):Int)-(1:Int))=((av.length:Nat):Int):=by rw[wrap_i64 (by omega) (by omega)];omega
  rw[eJ,<-c4];rw[bi] at S br;have eK:((Nf D).map λx=>AY (EG x))[av.length]? =some (AY (EG x)):=by rw[bh];simp
  refine ck.idx eK λa _ ar=>AJ.mk ar.str ?_
  have f8:=S.next;have f9:=S.aW;have ga:=S.cn;have c5:=S.below;have c6:EG x=BU x.next++(BU x.aW++(BU x.names.length++(x.names.flatMap BU++ []))):=by simp[EG,A4]
  rw[c6];have c7:=zu S;rw[c6] at c7;simp only[A1] at c7;refine KI λc8 c9 bZ=>⟨_,rfl,?_⟩
  have aG:=Am bZ cf;refine DY (most:=2147483647) c9 (by simp only[A1];omega) (by decide) λgb da eL=>⟨_,rfl,?_⟩
  rw[Co (by omega) (by omega)] at da ⊢;refine DY (most:=99999999) da (by simp only[A1];omega) (by decide) λaY db eM=>⟨_,rfl,?_⟩
  rw[Co (by omega) (by omega)] at db ⊢;have gc:=bZ.size;have bj:I.size≠o.size:=by omega
  have dc:Mod (· =I.size) c8 aY:=eL.trans eM;have eN:=dc.ag aG (by omega);refine ae.dt eN (by simp) λgd eO eP ge=>ae.dt eO (by simp) λaZ eQ eR gf=>?_
  have dd:Mod (· =o.size) aY aZ:=eP.trans eR;have eS:Ip aZ I.size ⟨BU x.names.length++(x.names.flatMap BU++ []),false⟩:=dd.ag db bj;refine DY (most:=65536) eS (by simp only[A1];omega) (by decide) λeT de df=>⟨_,rfl,?_⟩
  rw[Co (by omega) (by omega)] at de ⊢;have eU:=df.ag eQ (λe=>bj e.symm);have eV:Mod (λc=>o.size<=c) I eT:=(Ext.mod bZ).trans (((dc.aj λc _ d=>by omega).trans (dd.aj λc _ d=>by omega)).trans (df.aj λc _ d=>by omega));refine Loop.rule (λF aM k=> ∃(i:Nat) (np:Sl),aM=((i:Int),())/\F=x.names.length-i/\i<=x.names.length/\Mod (λc=>o.size<=c) I k/\Ip k I.size ⟨(x.names.drop i).flatMap BU++ [],false⟩/\Own IY Bq k np ((x.names.take i).map λn:Nat=>(n:Int))/\(∀ c,np.ag=some c->I.size<c)/\
    k[o.size]? =some (J2 #[Ap b,J5 none,Ap nt,Ap j.size,J4 none 0 0,J4 np.p np.len np.cap,J6 J9 (x.next:Int),J6 J9 (x.aW:Int),J3 false] FP (0,0))) ?_
   ⟨0,⟨none,0,0⟩,rfl,rfl,A5 _,eV,de,Own.nil,λc d=>by simp[Sl.ag] at d,by simpa using eU⟩
  rintro gg F _ k ⟨i,np,rfl,rfl,U,J,bk,b0,ac,ap⟩ eW;have co:=J.size;dsimp only;refine af.intro (λu=>?_) (λu=>?_)
  ·have v:i<x.names.length:=by have:=of_decide_eq_true u;omega
   have ah:x.names[i]? =some x.names[i]:=A2 v;have eX:x.names.drop i=x.names[i]::x.names.drop (i+1):=Fl v;have gh:=c5 _ (AW v);refine Aa.mk (s:=np) (AB ap rfl) ?_;rw[eX,AF,A4] at bk;have gi:((x.names.drop (i+1)).flatMap BU).length<=600000:=by
    have:=VC (l:=x.names.drop (i+1)) λn Z=>by have:=c5 n (HX Z);omega
    have e:=Cl (l:=x.names) (i:=i+1);omega
   have gj:=AV (n:=x.names[i]) (by omega);refine DY (most:=2147483647) bk (by simp only[A1,GB];omega) (by decide) λb1 dg bm=>⟨_,rfl,?_⟩
   rw[Co (by omega) (by omega)] at dg ⊢;have b2:=bm.ag ap (λe=>bj e.symm);refine⟨AB b2 rfl,ao.mk λeY _ eZ aT gk=>⟨AB (Am aT b2) rfl,?_⟩⟩;have e0:Own IY Bq b1 np ((x.names.take i).map λn:Nat=>(n:Int)):=b0.mod bm λc d e=>by have:=ac c d;omega
   have e1:=e0.ext aT;have src:View IY eY ⟨some ⟨b1.size,0,none⟩,1,1⟩ [(x.names[i]:Int)]:=(Own.lit (E:=IY) (l:= [(x.names[i]:Int)]) eZ rfl (by simp[maxLen])).view;refine GG (s:=np) (src:=⟨some ⟨b1.size,0,none⟩,1,1⟩) rW e1 src (by simp;omega) (by simp[maxLen];omega) λaI gl e2 b3 e3 _=>?_
   have e4:=b3.ag (Am aT b2) (λe=>by have:=ac _ e;omega);refine ae.dt e4 (by simp) λgm e5 b4 gn=>?_
   rw[Ab (by omega)];have go:=bm.size;have dh: ∀c,aI.ag=some c->I.size<c:=λc d=>by
    rcases e3 c d with h|h
    ·exact ac c h
    ·omega
   have gp:I.size<c8.size:=Ai c9;refine eW (x.names.length-(i+1)) _ _ (by omega) ⟨i+1,aI,rfl,rfl,v,?_,?_,?_,dh,by simpa using e5⟩
   ·exact J.trans ((((bm.aj λc _ d=>by omega).trans (Ext.mod aT)).trans (b3.aj λc _ d=>by have:=ac c d;omega)).trans (b4.aj λc _ d=>by omega))
   ·have e6:=aT.ag dg (λh=>h);have e7:=b3.ag e6 (λe=>by have:=ac _ e;omega);exact b4.ag e7 bj
   ·rw[AD,ah];simp only[CA,C2,BT,Rg];exact e2.mod b4 λc d e=>by have:=dh c d;omega
  ·have v:i=x.names.length:=by have:=of_decide_eq_false u;omega
   subst v;rw[Bk] at b0;rw[OR] at bk;refine MU bk ⟨_,rfl,?_⟩;have e8:SK ⟨([]:List Nat).flatMap BU++ [],false⟩=true:=rfl;rw[e8];refine af.no rfl ?_;have e9: ∀ {b5:Nat} {di:Obj},I[b5]? =some di->b5<o.size->k[b5]? =some di:=λe bE=>J.ag e (by omega)
   refine br k np ⟨by omega,λc d Z=>?_⟩ ap b0 (λc d=>by have:=ac c d;omega) (e9 ci (by omega)) (cj.mod J λc d e=>?_)
   ·have b6:=ch.get c d Z;rw[<- b6];exact J.get c (by omega) (by omega)
   ·rcases d with rfl|⟨w,y,_⟩
    ·omega
    ·cases y
 ·have b6:Nf D= []:=by have:=of_decide_eq_false u;exact CT (by omega)
  have bi:Ao D=⟨1,1,[]⟩:=by unfold Ao;rw[b6];rfl
  refine br I ⟨none,0,0⟩ ch (by rw[bi];exact cf) (by rw[bi];exact Own.nil) (λc d=>by simp[Sl.ag] at d) ci cj
end
open M (Sorted Af CZ A7 Ah Ar BV Aj bB BC aR BH)
section
variable {A : al} {B : cz} {g h : aa} {q : Hp} {k : Nat -> Nat} {st : Db} {m : Bx} {D : Bo} {aH c : Nat} {R : A2J}
theorem Br.dk(a:Br B g h q k st m D aH c):st.fr.length<=1000000/\st.ts.length<=100000/\(Ah (st.fr::aE st)).length<=1099511627776/\(Cr st).length<=100000:=by have d:=a.eE.dk a.lim;have e:=a.eE.jF a.lim;have f:=a.hc;have i:=B.hC;have b:=a.eE.lE.cn;rw[a.eE.iF] at b;have j:(Cr st).length<=(Ah (st.fr::aE st)).length:=sn _;omega
theorem Br.sorted(a:Br B g h q k st m D aH c):Sorted (Cr st):=FH _ _
end
def D0:Bo:=⟨λ_=> [],λ_=> [],λ_=> [],1,1⟩
theorem ATq:Ao D0=⟨1,1,[]⟩:=rfl
theorem ATg {e:bO}(i: ∀a,e (aC nl a)=none)(d: ∀a,e (aC nn a)=none)(j: ∀x,e x≠none->(bl x).head? ≠some 116):BG e D0/\jj e D0 0 0/\cC D0= []:=by
 refine⟨⟨⟨λa p _ _ h=>?_,λ_ _ _ _=>rfl,λa _ _=>i a,λ_ _=>rfl⟩,⟨λa p _ _ h=>?_,λ_ _ _ _=>rfl,λa _ _=>d a,λ_ _=>rfl⟩,λa d=>?_,λa b l=>?_,λa x f=>?_,λx f hd=>absurd hd (j x f),by decide⟩,⟨by decide,by decide,by decide,by decide,by decide,by decide,λa d=>?_⟩,rfl⟩
 ·rw[i a] at h;cases h
 ·rw[d a] at h;cases h
 ·rw[ATq] at d;cases d
 ·cases l
 ·cases f
 ·exact absurd (Xx a) (j _ d)
section
variable {A : al} {B : cz} {g h : aa} {q : Hp} {k : Nat -> Nat} {st : Db} {m : Bx} {D : Bo} {aH c : Nat} {R : A2J}
theorem Br.on {b:aa}(a:Br B g h q k st m D aH c)(x:Ext h b):Br B g b q k st m D aH c:=⟨a.mem.on x,a.up,a.eE,a.lim,a.wt,a.hc⟩
theorem Br.beside {b:aa}{d:Nat->Prop}(a:Br B g h q k st m D aH c)(x:Mod d h b)(hX: ∀c,d c->k c=0/\g.size<=c):Br B g b q k st m D aH c:=⟨a.mem.beside x hX,a.up,a.eE,a.lim,a.wt,a.hc⟩
theorem Br.more {b:Nat}(a:Br B g h q k st m D aH c)(d:c<=b)(e:b<=B.C):Br B g h q k st m D aH b:=⟨a.mem,a.up,a.eE,a.lim.mono (A0 _) d,a.wt,e⟩
theorem Br.free(a:Br B g h q k st m D aH c){x:Nat}(d:h.size<=x):k x=0:=Decidable.byContradiction λb=>by
 have:=(a.mem.own x b).2;omega
theorem Br.base(a:Br B g h q k st m D aH c){x:Nat}(d:x<g.size):k x=0:=Decidable.byContradiction λb=>by
 have:=(a.mem.own x b).1;omega
theorem AOr {b:Nat}{Sb:Nat->Prop}(p:cp g)(r:Cf h b Sb m)(s:Ext g h)(t: ∀c,Sb c->g.size<=c)(hd:m.down=false)(o:m.fuel= -1)(u: ∀j,ff m (aC nl j)=none)(v: ∀j,ff m (aC nn j)=none)(w: ∀x,ff m x≠none->(bl x).head? ≠some 116)(hA:1<=B.A)(N:ba m.files<=B.W0)
  (y: ∀a d f i e l,d.b=b->Br B g a d f i e l 1 0->e.fuel= -1->Cr i= []->(∀ n,¬cF n->ff e n=ff m n)->Mod Sb h a->(∀ c,f c≠0->Sb c\/h.size<=c)->R (J1 #[Ap d.d,J6 J9 0]) a):AA A P SN #[Ap b] h R:=by
 obtain⟨z,C,E⟩:=ATg u v w;refine AN1 (B:=B) p r s t hd z C (A5 _) hA (by omega) (λF=>absurd o F) λa d f i e l G H I J K L M=>?_
 exact y a d f i e l G H (I.calm o) (J.trans E) K L M
end
abbrev kb:A2K:=⟨#[98]⟩
abbrev v1:A2K:=⟨#[49]⟩
abbrev v2:A2K:=⟨#[50]⟩
open Go Go.ChangeShapes Go.WideShapes Go.ChangeAt Go.RowKit Go.Proofs.YtgpmoonnachoaaaGreatDoor
def listed:List (String×DataW Unit):=Rows.archiveMovesRow.laid
theorem AMw: ∃(x c a b:String×DataW Unit),listed= [x,c,(oQ,Lib.tabData .u64 Lib.pow10Tab),a,b]:=⟨_,_,_,_,rfl⟩
theorem ATj:P.globalNamed oQ=some 2:=by kernel_rfl
theorem AS8:(P.globals[2]?).map (·.type)=some UA:=by kernel_rfl
theorem ATh:P.underlying UA=some (.array 20 ZU):=by kernel_rfl
theorem ASj:P.underlying ZU=some (.int .u64):=by kernel_rfl
theorem ATu:P.cellsOf ZU=1:=by kernel_rfl
theorem AT3:P.cellsOf UA=20:=by kernel_rfl
theorem AKo:listed.filter (λx=>x.2.handleName?.isSome)= []:=by kernel_rfl
theorem qR {b:World}(a:laidMetH P listed b):laidMet P listed b:=by unfold laidMetH at a;rw[AKo] at a;exact a
theorem ARe {c:World}(e:laidMetH P listed c):Lib.TabIs P c oQ .u64 Lib.pow10Tab:=by have d:=qR e;obtain⟨x,g,a,b,f⟩:=AMw;rw[f] at d;exact Lib.tabIs_of_head (rest:= [a,b]) ATj AS8 ATh ASj ATu AT3 (laidMet.tail (laidMet.tail d))
theorem ARg {a:World}(c:laidMetH P listed a):cY a.heap:=λd e=>by
 have b:=ARe c;unfold Lib.TabIs World.var? at b ⊢;exact b
def nZ : String := String.ofList [Char.ofNat 42] ++ "errors.errorString"
def vM:String:=Rows.archiveMovesRow.named.getD 1 (String.ofList [])
def vN:String:=Rows.archiveMovesRow.named.getD 0 (String.ofList [])
theorem AS7: ∃(x a z b:String×DataW Unit) (text:List UInt8),listed= [x,a,z,(vM,.iface nZ (.ptr (.agg [.lit (.string text)]))),b]:=⟨_,_,_,_,_,rfl⟩
theorem ASI: ∃(x a z b:String×DataW Unit) (text:List UInt8),listed= [x,a,z,b,(vN,.iface nZ (.ptr (.agg [.lit (.string text)])))]:=⟨_,_,_,_,_,rfl⟩
theorem ATy:P.globalNamed vM=some 1:=by kernel_rfl
theorem ATV:P.globalNamed vN=some 0:=by kernel_rfl
theorem ASf:(P.globals[1]?).map (·.type)=some nY:=by kernel_rfl
theorem ASH:(P.globals[0]?).map (·.type)=some nY:=by kernel_rfl
theorem ATv: ∃a,P.underlying nY=some (.interface a):=⟨_,Proofs.Tryz.underlying293⟩
theorem ASQ(u:Q7)(a:P.typeName? 3 u=some nZ):u=Ea:=
 typeName_ptr_named (nm := "errors.errorString") (by kernel_rfl) (by kernel_rfl) (by decide) u a
theorem ATd:P.underlying Ea=some (.pointer FL):=by kernel_rfl
theorem AUG: ∃f:Field,P.underlying FL=some (.struct #[f])/\f.type=BI/\f.offset=0:=⟨_,Proofs.Tryz.underlying388,rfl,rfl⟩
theorem AUE:P.cellsOf FL=1:=by kernel_rfl
theorem vO {b:String}{text:List UInt8}{h:List (String×DataW Unit)}{a:World}{g:Nat}(i:laidMet P ((b,.iface nZ (.ptr (.agg [.lit (.string text)])))::h) a)(c:P.globalNamed b=some g)(j:(P.globals[g]?).map (·.type)=some nY):lh a.heap g:=by
 obtain⟨p,k⟩:=ATv;obtain⟨f,l,m,n⟩:=AUG;obtain⟨d,q,o,_,_,_⟩:=laid_sentinel i c j k ASQ ATd l m n ASw AUE AUD;have e:a.cell? ⟨g,0,none⟩=some (.iface Ea (.pointer (some d))):=by simpa using World.var?_cell c o 0
 refine⟨.iface Ea (.pointer (some d)),?_,.inr ⟨_,_,rfl⟩⟩;unfold ah;unfold World.cell? at e;exact e
theorem ASi {d:World}(b:laidMetH P listed d):cp d.heap:=by
 refine⟨ARg b,?_,?_⟩
 ·have a:=qR b;obtain⟨x,e,z,f,t,c⟩:=ASI;rw[c] at a;exact vO (laidMet.tail (laidMet.tail (laidMet.tail (laidMet.tail a)))) ATV ASH
 ·have a:=qR b;obtain⟨x,e,z,f,t,c⟩:=AS7;rw[c] at a;exact vO (laidMet.tail (laidMet.tail (laidMet.tail a))) ATy ASf
def AI6:DataW Unit->Array J0
 | .agg ds=>(ds.map λ| .lit (.int a z)=>Value.int a z|_=> .bool false).toArray
 |_=> #[]
def fill(a:DataW Unit):Obj->Obj
 | .cells _ t frozen=> .cells (AI6 a) t frozen
 |o=>o
def ja(b:Nat):Obj->Obj
 | .cells _ t frozen=> .cells #[.iface Ea (.pointer (some ⟨b,0,none⟩))] t frozen
 |o=>o
abbrev AQa:A2K:=⟨#[118,97,108,117,101,32,111,117,116,32,111,102,32,114,97,110,103,101]⟩
abbrev AQ5:A2K:=⟨#[105,110,118,97,108,105,100,32,115,121,110,116,97,120]⟩
noncomputable def low:Nat:=(World.holding P default ⟨#[],#[],[]⟩).heap.size
noncomputable def Zl (os:Os):World:=
 let a:=World.holding P os ⟨#[.cells #[.string AQa] FL,.cells #[.string AQ5] FL],#[],[]⟩
 {a with heap:=((((a.heap.modify 2 (fill Rows.laid_internal_strconv_uint64pow10)).modify 4 (fill Rows.laid_math_bits_deBruijn32tab)).modify 5 (fill Rows.laid_math_bits_deBruijn64tab)).modify 1 (ja low)).modify 0 (ja (low+1))}
theorem AIt(os:Os)(args:Array J0):laidMet P listed ((Zl os).forCall (λ_ _=>0) ⟨#[],args,[]⟩).memory:=
 laidMet_of_run' 8 (by kernel_rfl) (by kernel_rfl)
end Go.Lf.G
namespace Go.Lf.G.M
open Go Go.ChangeShapes Go.WideShapes Go.ChangeAt Go.RowKit Go.Proofs.YtgpmoonnachoaaaGreatDoor
def mj(a:World):al:=⟨a.tape,a.os,a.output⟩
section
variable {H : Type} {enc : Q7 × J0 -> H} {w : World} {base : Nat} {spare : Nat -> Bool} {held : Bool}
instance:Inhabited Pr:=⟨⟨⟨#[]⟩,⟨#[]⟩,false⟩⟩
instance:Inhabited Sl:=⟨⟨none,0,0⟩⟩
end
end Go.Lf.G.M
namespace Go.Lf.G
open Go
open M (Sorted Af CZ A7 Ah Ar BV Aj bB BC aR BH)
structure ATc where
 kind:Int
 bs:Sl
 key:A2K
 til:A2K
 most:Int
 ks:Sl
structure AUK (N:Nat) (h:aa) (x:ATc) (l:List Pr) (ks:List Int):Prop where
 bs:View BM h x.bs l
 ks:View IY h x.ks ks
 key:x.key.size<=N
theorem ARu {e:Type}{d:cE e}{h:aa}{s:Sl}{l:List e}(v:View d h s l)(f:l≠ []){b:Nat}(i:s.ag=some b):b<h.size:=by
 cases l with
 |nil=>exact absurd rfl f
 |cons x l=>
  obtain⟨a,j,n⟩:=v.cells 0 x rfl;have p:=d.pos;have r:=d.len x;obtain⟨u,o⟩: ∃u,(d.enc x)[0]? =some u:=⟨_,A2 (by omega)⟩;have:=VN (n 0 u o);rw[aU,aU] at this;have t:a.block=b:=by simpa [Sl.ag,j] using i
  omega
section
variable {A : al} {B : cz} {g h : aa} {q : Hp} {k : Nat -> Nat} {st : Db} {m : Bx} {D : Bo} {aH c : Nat} {R : A2J}
theorem Br.put {b a:Nat}(d:Br B g h q k st m D aH c)(e:aH<=b)(f:c<=a)(i:a<=B.C):Br B g h q k st m D b a:=(d.aH e).more f i
theorem Br.args(a:Br B g h q k st m D aH c){s:Sl}{l:List Pr}(v:View BM g s l):l≠ []-> ∀b,s.ag=some b->b<h.size/\k b=0:=λd b e=>by
 have f:=ARu v d e;have:=a.mem.ext.size;exact⟨by omega,a.base f⟩
end
theorem AJP {A:al}{B:cz}{g h:aa}{q:Hp}{k:Nat->Nat}{st:Db}{m:Bx}{D:Bo}{aH c:Nat}{R:A2J}{s:Sl}{l:List Pr}(u:cp g)(j:Br B g h q k st m D aH c)(i:m.fuel= -1)(hA:aH+3<=B.A)(v:View BM h s l)(w:l≠ []-> ∀b,s.ag=some b->b<h.size/\k b=0)(x:c+64<=B.C)
  (y: ∀e n z C f G,n.d=q.d->n.b=q.b->Br B g e n z C f G (aH+3) (c+64)->f.fuel= -1->Cr C=(if Eu l=0 then cy (Cr st) l else Cr st)->(∀ o,¬cF o->ff f o=ff m o)->Mod (λc=>k c≠0) h e->(∀ c,z c≠0->k c≠0\/h.size<=c)->R (J6 J9 (Eu l)) e):
  AA A P LM #[Ap q.d,J4 s.p s.len s.cap] h R:=by
 by_cases a:Eu l=0
 ·have W:=(zy a).1.len;refine zC (B:=B) (s:=s) u j hA v w (λ_=>by omega) (λE=>absurd a E) (λ_ e f p=>absurd i p.fuel) (λ_ e f p=>absurd i p.fuel) λ_ r H I J K L M N O Q S T U V=>?_
  have:=y r H I J K L M N (O.put (A0 _) (by omega) x) (Q.calm i) (by rw[if_pos a];exact S.map) T U V;rwa [a] at this
 ·refine zC (B:=B) (s:=s) u j hA v w (λd=>absurd d a) (λE r F=>?_) (λd=>absurd d a) (λd=>absurd d a) (λd=>absurd d a);exact y r q k st m D rfl rfl ((j.on F).put (by omega) (by omega) x) i (by rw[if_neg a]) (λ_ _=>rfl) (F.aj λc _ t=>t.elim) λc t=> .inl t
open Go Go.ChangeShapes Go.WideShapes Go.ChangeAt Go.RowKit Go.Proofs.YtgpmoonnachoaaaGreatDoor
section
variable {H : Type} {enc : Q7 × J0 -> H} {w : World} {base : Nat} {spare : Nat -> Bool} {held : Bool}
end
section
variable {H : Type} {enc : Q7 × J0 -> H} {w : World} {base : Nat} {spare : Nat -> Bool} {held : Bool}
end
def IR(c:al)(T:Int)(U:aa)(d:A2J):=AA c P Jz #[] U λv t=> ∃u:Bool,v=J3 u/\(af (!u) (d (J3 false) t) (ao t (J2 #[J5 none,J5 none,J5 none,J5 none] GJ) λb V=>AA c P VP #[] V λv1 W=> ∃w:Q2,v1=J5 w/\(AA c P Hu #[J5 (some (Q5 b 0 none)),J5 w] W λv2 i=> ∃x:Bool,v2=J3 x/\(af (!x) (d (J3 false) i) (ai (λ(X:(Q2)×Unit) j=>At X.1 λa=>AC J9 j a λY=>af (Y != 0) (d (J3 false) j) (AX j (Q9 (Q5 b 0 none) 2) λZ=>AX j (Q9 (Q5 b 0 none) 3) λab=>AA c P F7 #[J5 Z,J5 ab,J7 (⟨#[111,112,101,110]⟩:A2K),.agg #[J7 (⟨#[]⟩:A2K),J7 (⟨#[]⟩:A2K),J3 false]] j λac n=> ∃ad:Bool,∃y:Int,ac=J1 #[J3 ad,J6 J9 y]/\(AX n (Q9 (Q5 b 0 none) 2) λag=>AX n (Q9 (Q5 b 0 none) 3) λaj=>AA c P F7 #[J5 ag,J5 aj,J7 (⟨#[110,111,110,101]⟩:A2K),.agg #[J7 (⟨#[]⟩:A2K),J7 (⟨#[]⟩:A2K),J3 false]] n λak am=> ∃an:Bool,∃z:Int,ak=J1 #[J3 an,J6 J9 z]/\(AA c P Gh #[J5 (some (Q5 b 0 none)),J6 J9 ((J8 J9 ((T.tmod (30:Int))+30)).tmod (30:Int))] am λap aq=> ∃A:A2K,∃B:A2K,∃C:Bool,∃D:Bool,ap=J1 #[.agg #[J7 A,J7 B,J3 C],J3 D]/\(ao aq (J2 #[J7 (⟨#[]⟩:A2K),J7 (⟨#[]⟩:A2K),J3 false] AQ) λe ar=>ae ar (Q5 e 0 none) (J7 A) λau=>ae au (Q9 (Q5 e 0 none) 1) (J7 B) λav=>ae av (Q9 (Q5 e 0 none) 2) (J3 C) λo=>ai (λ(aw:Bool×Unit) p=>af aw.1 (d (J3 false) p) (AX p (Q9 (Q5 b 0 none) 1) λax=>AA c P NJ #[J5 ax,J7 (⟨#[104,111,115,116,49]⟩:A2K),J6 J9 1] p λay az=> ∃E:Q2,∃aA:Int,ay=J1 #[J5 E,J6 J9 aA]/\(AA c P EN #[J5 E,J6 J9 0] az λaC aD=> ∃aE:Int,∃aF:Int,aC=J1 #[J6 J9 aE,J6 J9 aF]/\(AA c P FU #[J5 (some (Q5 b 0 none))] aD λaG F=> ∃f:Sl,∃G:Bool,aG=J1 #[J4 f.p f.len f.cap,J3 G]/\(AX F (Q9 (Q5 b 0 none) 1) λaH=>AA c P Iz #[J5 aH] F λaI g=> ∃H:Int,aI=J6 J9 H/\(AX g (Q9 (Q5 b 0 none) 2) λaJ=>AX g (Q9 (Q5 b 0 none) 3) λaK=>AJ g (Q5 e 0 none) λaM=>AJ g (Q9 (Q5 e 0 none) 1) λaN=>AZ g (Q9 (Q5 e 0 none) 2) λaO=>AA c P F7 #[J5 aJ,J5 aK,J7 (⟨#[119]⟩:A2K),.agg #[J7 aM,J7 aN,J3 aO]] g λaP aQ=> ∃aR:Bool,∃I:Int,aP=J1 #[J3 aR,J6 J9 I]/\(AA c P FU #[J5 (some (Q5 b 0 none))] aQ λaS k=> ∃h:Sl,∃J:Bool,aS=J1 #[J4 h.p h.len h.cap,J3 J]/\(af G (af J (af (I==170) (AX k (Q9 (Q5 b 0 none) 1) λaT=>AA c P Iz #[J5 aT] k λaU L=> ∃M:Int,aU=J6 J9 M/\(af (M==H) (AA c P KY #[J4 f.p f.len f.cap,J4 h.p h.len h.cap] L λaV aW=> ∃N:Bool,aV=J3 N/\(d (J3 N) aW)) (d (J3 false) L))) (d (J3 false) k)) (d (J3 false) k)) (d (J3 false) k))))))))) λq=>af (y != 183) (q (true,()) o) (af (z != 180) (q (true,()) o) (q ((!D),()) o))))))) λK=>AX i (Q9 (Q5 b 0 none) 2) λl=>AX i (Q9 (Q5 b 0 none) 3) λm=>And (AA c P Ca #[J5 l,(.iface BR (J5 m)),J6 J9 0,(⟨1,(⟨#[113]⟩:A2K),(⟨#[111,112,101,110]⟩:A2K),(⟨#[]⟩:A2K),(⟨none,0,0⟩:Sl),0,(⟨none,0,0⟩:Sl),0,0,0,0,false⟩:bY).v] i λaX aY=>Ia λO=>aX=O.v/\(ao aY (J2 bS.z.c Cb) λQ r=>And (ah r (Q9 (Q5 b 0 none) 3)=some (J5 m))<| And (ah r (Q9 (Q5 b 0 none) 2)=some (J5 l))<| aL r (Q5 Q 0 none) O.l λaZ=>K ((some (Q5 Q 0 none)),()) aZ))<| ao i (J2 bS.z.c Cb) λR s=>And (ah s (Q9 (Q5 b 0 none) 3)=some (J5 m))<| And (ah s (Q9 (Q5 b 0 none) 2)=some (J5 l))<| AA c P Ca #[J5 l,(.iface BR (J5 m)),J6 J9 0,(⟨1,(⟨#[113]⟩:A2K),(⟨#[111,112,101,110]⟩:A2K),(⟨#[]⟩:A2K),(⟨none,0,0⟩:Sl),0,(⟨none,0,0⟩:Sl),0,0,0,0,false⟩:bY).v] s λa0 a1=>Ia λS=>a0=S.v/\(aL a1 (Q5 R 0 none) S.l λa2=>K ((some (Q5 R 0 none)),()) a2))))))
theorem Mh {a b c d}(e:IR a b c d):AA a P Ib #[J6 J9 b] c d:=Ac (AO AU (AO Ct (CQ 2 (AO Ct (AO (AO (.bz [(4,.one .ptr)] [0,3]) Ct) (CQ 3 (AO (AO (.bz [(87,.one .bool)] [3,9]) EI) (CQ 7 AU)))))))) (by kernel_rfl) e
end Go.Lf.G
namespace Go.Lf
open G
open Go
abbrev bg.V(s:bg)(a b c:Sl):bG:=⟨a,s.prog.az,s.status,s.next,s.bd,s.asked,s.taken,s.fresh,b,c,s.cancel,s.aP⟩
end Go.Lf
namespace Go.Lf.G
open Go
structure Jv (h:aa) (s:bg) (a b c:Sl):Prop where
 steps:View Qb h a s.prog.steps
 au:View fj h b s.au
 ak:View gb h c s.ak
theorem Jv.mod {g:Nat->Prop}{h j:aa}{s:bg}{a b c:Sl}(i:Jv h s a b c)(m:Mod g h j)(k: ∀x,a.ag=some x-> ¬g x)(l: ∀x,b.ag=some x-> ¬g x)(n: ∀x,c.ag=some x-> ¬g x):Jv j s a b c:=
 ⟨i.steps.mod m λx d f=>k x d f,i.au.mod m λx d f=>l x d f,i.ak.mod m λx d f=>n x d f⟩
theorem Jv.ext {h f:aa}{s:bg}{a b c:Sl}(d:Jv h s a b c)(x:Ext h f):Jv f s a b c:=⟨d.steps.ext x,d.au.ext x,d.ak.ext x⟩
structure D3 (h hh:aa) (T0 T1 T2:Q7) (x:bG) (e:Ev) (y:bG):Prop where
 ext:Ext h hh
 b0:hh[h.size]? =some (J2 x.c T0 (0,0))
 b1:hh[h.size+1]? =some (J2 e.c T1 (0,0))
 b2:hh[h.size+2]? =some (J2 y.c T2 (0,0))
section
variable {A : al} {h hh : aa} {T0 T1 T2 : Q7} {x y : bG} {e : Ev} {R : A2J}
theorem lS {K:Nat->Nat->Nat->aa->Prop}(m: ∀hh,D3 h hh T0 T1 T2 x e y->K h.size (h.size+1) (h.size+2) hh):
  ao h (J2 x.c T0) λb f=>ao f (J2 e.c T1) λn g=>ao g (J2 y.c T2) λo a=>K b n o a:=by
 refine ao.mk λf _ p q c=>ao.mk λg _ i j k=>ao.mk λa _ l d r=>?_
 rw[c] at i;rw[k,c] at l;have:=m a ⟨(q.trans j).trans d,d.ag (j.ag p (λh=>h)) (λh=>h),d.ag i (λh=>h),l⟩;rw[k,c];exact this
theorem D3.on {b:aa}(a:D3 h hh T0 T1 T2 x e y)(m:Ext hh b):D3 h b T0 T1 T2 x e y:=⟨a.ext.trans m,m.ag a.b0 (λh=>h),m.ag a.b1 (λh=>h),m.ag a.b2 (λh=>h)⟩
theorem D3.set {c:Nat}{v:J0}{x':bG}{K:aa->Prop}(a:D3 h hh T0 T1 T2 x e y)(d:c<12)(f:x.c.setIfInBounds c v=x'.c)(g: ∀h',D3 h h' T0 T1 T2 x' e y->K h'):ae hh ((⟨h.size,0,none⟩:Q6).add c) v K:=
 ae.bJ a.b0 d f λh' i m s=>g h' ⟨a.ext.more m λb j=>by subst j;exact A0 _,i,m.ag a.b1 (by omega),m.ag a.b2 (by omega)⟩
theorem D3.iv {j:Nat}{v:J0}{x':bG}{K:aa->Prop}(d:D3 h hh T0 T1 T2 x e y)(f:j<12)(g:x.c.setIfInBounds j v=x'.c)(i: ∀a,D3 h a T0 T1 T2 x' e y->Mod (λc=>c=h.size) hh a->K a):ae hh ((⟨h.size,0,none⟩:Q6).add j) v K:=
 ae.bJ d.b0 f g λa k m s=>i a ⟨d.ext.more m λb l=>by subst l;exact A0 _,k,m.ag d.b1 (by omega),m.ag d.b2 (by omega)⟩ m
theorem D3.pa {v:J0}{x':bG}{K:aa->Prop}(b:D3 h hh T0 T1 T2 x e y)(d:x.c.setIfInBounds 0 v=x'.c)(f: ∀a,D3 h a T0 T1 T2 x' e y->Mod (λc=>c=h.size) hh a->K a):ae hh (⟨h.size,0,none⟩:Q6) v K:=
 b.iv (j:=0) (by decide) d f
theorem D3.cN {j:Nat}{v:J0}(a:D3 h hh T0 T1 T2 x e y)(b:x.c[j]? =some v):ah hh ((⟨h.size,0,none⟩:Q6).add j)=some v:=AB a.b0 b
theorem D3.bJ {j:Nat}{v:J0}(a:D3 h hh T0 T1 T2 x e y)(b:e.c[j]? =some v):ah hh ((⟨h.size+1,0,none⟩:Q6).add j)=some v:=AB a.b1 b
theorem FK {h:aa}{b:Nat}{T:Q7}{fr:Nat×Nat}{x:bG}(a:h[b]? =some (J2 x.c T fr)):Cells h ⟨b,0,none⟩ x.l:=Dw a rfl
theorem Qj {h:aa}{b:Nat}{T:Q7}{fr:Nat×Nat}{x:Ev}(a:h[b]? =some (J2 x.c T fr)):Cells h ⟨b,0,none⟩ x.l:=Dw a rfl
theorem PK(x y:bG):gq y.c 0 x.l=x.c:=rfl
theorem pU(x y:Ev):gq y.c 0 x.l=x.c:=rfl
theorem pV(x y:bP):gq y.c 0 x.l=x.c:=rfl
theorem D3.jq(a:D3 h hh T0 T1 T2 x e y):ah hh (⟨h.size,0,none⟩:Q6)=some (J4 x.steps.p x.steps.len x.steps.cap)/\ah hh ((⟨h.size,0,none⟩:Q6).add 1)=some (J6 J9 x.az)/\ah hh ((⟨h.size,0,none⟩:Q6).add 2)=some (J6 J9 x.status)/\ah hh ((⟨h.size,0,none⟩:Q6).add 3)=some (J6 J9 x.next)/\ah hh ((⟨h.size,0,none⟩:Q6).add 4)=some (J6 J9 x.bd)/\ah hh ((⟨h.size,0,none⟩:Q6).add 5)=some (J6 J9 x.asked)/\ah hh ((⟨h.size,0,none⟩:Q6).add 6)=some (J6 J9 x.taken)/\ah hh ((⟨h.size,0,none⟩:Q6).add 7)=some (J3 x.fresh)/\ah hh ((⟨h.size,0,none⟩:Q6).add 8)=some (J4 x.au.p x.au.len x.au.cap)/\ah hh ((⟨h.size,0,none⟩:Q6).add 9)=some (J4 x.ak.p x.ak.len x.ak.cap)/\ah hh ((⟨h.size,0,none⟩:Q6).add 10)=some (J3 x.cancel)/\ah hh ((⟨h.size,0,none⟩:Q6).add 11)=some (J3 x.aP):=
 ⟨a.cN (j:=0) rfl,a.cN (j:=1) rfl,a.cN (j:=2) rfl,a.cN (j:=3) rfl,a.cN (j:=4) rfl,a.cN (j:=5) rfl,a.cN (j:=6) rfl,a.cN (j:=7) rfl,a.cN (j:=8) rfl,a.cN (j:=9) rfl,a.cN (j:=10) rfl,a.cN (j:=11) rfl⟩
theorem D3.eW {K:bG->Prop}(a:D3 h hh T0 T1 T2 x e y)(b:K x):Ay hh ⟨h.size,0,none⟩ K:=Ay.mk x (FK a.b0) b
theorem D3.kq {K:Ev->Prop}(a:D3 h hh T0 T1 T2 x e y)(b:K e):Mj hh ⟨h.size+1,0,none⟩ K:=Mj.mk e (Qj a.b1) b
theorem D3.mS {z:bG}{K:aa->Prop}(d:D3 h hh T0 T1 T2 x e y)(g: ∀a,D3 h a T0 T1 T2 z e y->Mod (λc=>c=h.size) hh a->K a):aL hh ⟨h.size,0,none⟩ z.l K:=
 aL.mk d.b0 (A0 12) λa f m s=>g a ⟨d.ext.more m λb i=>by subst i;exact A0 _,(by rw[PK] at f;exact f),m.ag d.b1 (by omega),m.ag d.b2 (by omega)⟩ m
theorem D3.tell {z:bG}{K:bG->aa->Prop}(c:D3 h hh T0 T1 T2 x e y)(g: ∀a,Ext h a->K z a):aL hh ⟨h.size+2,0,none⟩ z.l λd=>Ay d ⟨h.size+2,0,none⟩ λi=>K i d:=
 aL.mk c.b2 (A0 12) λa f m s=>Ay.mk z (FK (by rw[PK] at f;exact f)) (g a (c.ext.more m λb j=>by subst j;omega))
theorem D3.iT {z:bG}{K:bG->aa->Prop}(d:D3 h hh T0 T1 T2 x e y)(i: ∀a,Ext h a->Mod (λc=>c=h.size+2) hh a->K z a):aL hh ⟨h.size+2,0,none⟩ z.l λf=>Ay f ⟨h.size+2,0,none⟩ λj=>K j f:=
 aL.mk d.b2 (A0 12) λa g m s=>Ay.mk z (FK (by rw[PK] at g;exact g)) (i a (d.ext.more m λb k=>by subst k;omega) m)
theorem D3.ret {K:bG->aa->Prop}(a:D3 h hh T0 T1 T2 x e y)(d: ∀b,Ext h b->K x b):Ay hh ⟨h.size,0,none⟩ λt=>aL hh ⟨h.size+2,0,none⟩ t.l λc=>Ay c ⟨h.size+2,0,none⟩ λf=>K f c:=
 a.eW (a.tell d)
theorem D3.pd {K:bG->aa->Prop}(b:D3 h hh T0 T1 T2 x e y)(f: ∀a,Ext h a->Mod (λc=>c=h.size+2) hh a->K x a):Ay hh ⟨h.size,0,none⟩ λt=>aL hh ⟨h.size+2,0,none⟩ t.l λd=>Ay d ⟨h.size+2,0,none⟩ λg=>K g d:=
 b.eW (b.iT f)
theorem AIS {s:bg}{a b c:Sl}(T:2<=e.kind/\e.kind<=5)(C: ∀n,Ext h n->R (J1 #[(((Dq s e).getD s).V a b c).v,J3 (Dq s e).isSome]) n):AA A P MS #[(s.V a b c).v,e.v] h R:=by
 refine YE ?_;unfold Qf;refine lS λH d=>?_
 refine ai.mk λK I=>ai.mk λJ L=>?_
 have v: ∀ {t:bg} {hh:aa},D3 h hh Au Ae Au (t.V a b c) e bG.z->Dq s e=some t->K () hh:=λ{t hh} d hd=>by
  refine I _ _ (d.ret λn x=>?_);have:=C n x;rw[hd] at this;exact this
 have no: ∀ {hh:aa},D3 h hh Au Ae Au (s.V a b c) e bG.z->Dq s e=none->Ay hh ⟨h.size,0,none⟩ λt=>aL hh ⟨h.size+2,0,none⟩ t.l λD=>Ay D ⟨h.size+2,0,none⟩ λM=>R (J1 #[M.v,J3 false]) D:=λ{hh} d hd=>by
  refine d.ret λn x=>?_
  have:=C n x;rw[hd] at this;exact this
 have key: ∀(o:Bool),(e.kind=2->(o=true↔s.asked=0/\s.taken=0/\s.fresh=true))->(e.kind≠2->o=false)->J (o,()) H:=λo E N=>by
  refine L _ _ (af.intro (λk=>?_) (λk=>?_))
  ·have k:o=true:=k;have g:e.kind=2:=Decidable.byContradiction λh=>by rw[N h] at k;cases k
   refine AC.mk (d.bJ (j:=0) rfl) (d.set (x':=({s with asked:=e.id}:bg).V a b c) (by decide) rfl λz m=>v m ?_);unfold Dq;rw[if_pos g,if_pos ((E g).1 k)]
  ·have k:o=false:=k;refine ai.mk λU F=>AC.mk (d.bJ (j:=1) rfl) (af.intro (λi=>?_) (λi=>?_))
   ·have i:e.kind=3:=by simpa using i
    refine AC.mk (d.cN (j:=5) rfl) (AC.mk (d.bJ (j:=3) rfl) (F _ _ (af.intro (λf=>?_) (λf=>?_))))
    ·have f:s.asked=e.ref:=by simpa using f
     refine AC.mk (d.bJ (j:=0) rfl) (d.set (x':=({s with asked:=0}:bg).V a b c) (by decide) rfl λz m=>⟨m.bJ (j:=0) rfl,?_⟩);refine m.set (x':=({s with asked:=0,taken:=e.id}:bg).V a b c) (by decide) rfl λO B=>B.set (x':=({s with asked:=0,taken:=e.id,fresh:=false}:bg).V a b c) (by decide) rfl λV Q=>v Q ?_
     unfold Dq;rw[if_neg (by omega),if_pos i,if_pos f]
    ·have f:s.asked≠e.ref:=by simpa using f
     refine ai.mk λS w=>AC.mk (d.bJ (j:=1) rfl) (af.no (by simp[i]) (w _ _ (af.no rfl ?_)))
     refine ai.mk λG p=>AC.mk (d.bJ (j:=1) rfl) (af.no (by simp[i]) (p _ _ (af.no rfl (no d ?_))))
     unfold Dq;rw[if_neg (by omega),if_pos i,if_neg f]
   ·have i:e.kind≠3:=by simpa using i
    refine F _ _ (af.no rfl (ai.mk λS w=>AC.mk (d.bJ (j:=1) rfl) (af.intro (λl=>?_) (λl=>?_))))
    ·have l:e.kind=4:=by simpa using l
     refine AC.mk (d.cN (j:=6) rfl) (AC.mk (d.bJ (j:=3) rfl) (w _ _ (af.intro (λf=>?_) (λf=>?_))))
     ·have f:s.taken=e.ref:=by simpa using f
      refine d.set (x':=({s with taken:=0}:bg).V a b c) (by decide) rfl λz m=>v m ?_
      unfold Dq;rw[if_neg (by omega),if_neg i,if_pos l,if_pos f]
     ·have f:s.taken≠e.ref:=by simpa using f
      refine ai.mk λG p=>AC.mk (d.bJ (j:=1) rfl) (af.no (by simp[l]) (p _ _ (af.no rfl (no d ?_))))
      unfold Dq;rw[if_neg (by omega),if_neg i,if_pos l,if_neg f]
    ·have l:e.kind≠4:=by simpa using l
     refine w _ _ (af.no rfl (ai.mk λG p=>AC.mk (d.bJ (j:=1) rfl) (af.intro (λu=>?_) (λu=>?_))))
     ·have u:e.kind=5:=by simpa using u
      refine AC.mk (d.cN (j:=6) rfl) (AC.mk (d.bJ (j:=3) rfl) (p _ _ (af.intro (λf=>?_) (λf=>?_))))
      ·have f:s.taken=e.ref:=by simpa using f
       refine d.set (x':=({s with taken:=0}:bg).V a b c) (by decide) rfl λz m=>m.set (x':=({s with taken:=0,fresh:=true}:bg).V a b c) (by decide) rfl λO B=>v B ?_
       unfold Dq;rw[if_neg (by omega),if_neg i,if_neg l,if_pos f]
      ·have f:s.taken≠e.ref:=by simpa using f
       refine no d ?_;unfold Dq;rw[if_neg (by omega),if_neg i,if_neg l,if_neg f]
     ·have u:e.kind≠5:=by simpa using u
      have g:e.kind=2:=by omega
      refine p _ _ (af.no rfl (no d ?_));unfold Dq;rw[if_pos g,if_neg λh=>by rw[(E g).2 h] at k;cases k]
 refine AC.mk (d.bJ (j:=1) rfl) (af.intro (λg=>?_) (λg=>key _ (λh=>by simp[h] at g) λ_=>rfl));have g:e.kind=2:=by simpa using g
 refine AC.mk (d.cN (j:=5) rfl) (af.intro (λq=>?_) (λq=>key _ (λ_=>by simp at q;simp[q]) λh=>absurd g h));have q:s.asked=0:=by simpa using q
 refine AC.mk (d.cN (j:=6) rfl) (af.intro (λr=>?_) (λr=>key _ (λ_=>by simp at r;simp[r]) λh=>absurd g h));have r:s.taken=0:=by simpa using r
 exact AZ.mk (d.cN (j:=7) rfl) (key _ (λ_=>by simp[q,r]) λh=>absurd g h)
theorem Xn {s:bg}{a b c:Sl}{d:Int}(k: ∀g,Ext h g->R ((Zh s d).V a ⟨none,0,0⟩ ⟨none,0,0⟩).v g):AA A P Ii #[(s.V a b c).v,J6 J9 d] h R:=by
 refine ADl ?_;unfold WZ;refine ao.mk λJ _ l n K=>ao.mk λL _ o i M=>?_
 have p:=i.ag l (λh=>h);refine ae.bJ (dH:=(({s with status:=d}:bg).V a b c).c) p (of_decide_eq_true rfl) rfl λN q r _=>?_
 refine ae.bJ (dH:=(({s with status:=d,asked:=0}:bg).V a b c).c) q (of_decide_eq_true rfl) rfl λO t u _=>?_
 refine ae.bJ (dH:=(({s with status:=d,asked:=0,taken:=0}:bg).V a b c).c) t (of_decide_eq_true rfl) rfl λQ v w _=>?_
 refine ae.bJ (dH:=(({s with status:=d,asked:=0,taken:=0,fresh:=false}:bg).V a b c).c) v (of_decide_eq_true rfl) rfl λS z B _=>?_
 refine ae.bJ (dH:=(({s with status:=d,asked:=0,taken:=0,fresh:=false}:bg).V a ⟨none,0,0⟩ c).c) z (of_decide_eq_true rfl) rfl λT C D _=>?_
 refine ae.bJ (dH:=(({s with status:=d,asked:=0,taken:=0,fresh:=false}:bg).V a ⟨none,0,0⟩ ⟨none,0,0⟩).c) C (of_decide_eq_true rfl) rfl λU E F _=>?_
 have m:=((((r.trans u).trans w).trans B).trans D).trans F;have G:=m.ag o (by omega);refine Ay.mk (({s with status:=d,asked:=0,taken:=0,fresh:=false}:bg).V a ⟨none,0,0⟩ ⟨none,0,0⟩) (FK E) ?_;refine aL.mk G (A0 12) λH j I V=>Ay.mk _ (FK (by rw[PK] at j;exact j)) (k H ?_)
 exact((n.trans i).more m λc f=>by subst f;exact A0 _).more I λc f=>by subst f;omega
theorem pW {s:bg}{a b c:Sl}(k:b.len=s.au.length)(l: ∀j,Ext h j->R (J3 (decide (PI s))) j):AA A P LQ #[(s.V a b c).v] h R:=by
 refine AET ?_;unfold Zb;refine ao.mk λm _ i n o=>?_
 have g:=l m n;refine AC.mk (AB i rfl) (af.intro (λd=>?_) (λd=>?_))
 ·have d:s.asked=0:=by simpa using d
  refine AC.mk (AB i rfl) (af.intro (λf=>?_) (λf=>?_))
  ·have f:s.taken=0:=by simpa using f
   refine Aa.mk (s:=b) (AB i rfl) ?_;have e:decide (PI s)=(((b.len:Nat):Int)==(0:Int)):=by rw[k,G0];simp[PI,d,f,SU]
   rw[e] at g;exact g
  ·have f:s.taken≠0:=by simpa using f
   rw[show decide (PI s)=false from by simp[PI,f]] at g;exact g
 ·have d:s.asked≠0:=by simpa using d
  rw[show decide (PI s)=false from by simp[PI,d]] at g;exact g
end
end Go.Lf.G
namespace Go.Lf
open Go
structure EU (s:bg) (n:Nat):Prop where
 au:s.au.length<=n
 ak:s.ak.length<=n
 steps:s.prog.steps.length<=16
 az:0<=s.prog.az/\s.prog.az<=16000
 bd:0<=s.bd/\s.bd<=1099511627776
 next:0<=s.next/\s.next<=501
 st:0<=s.status/\s.status<=4
 waits: ∀x∈s.prog.steps,0<=x.wait/\x.wait<=1000
theorem EU.zero:EU Tx 0:=⟨by decide,by decide,by decide,by decide,by decide,by decide,by decide,λx a=>by cases a⟩
theorem AQJ {x:bP}(a:NH x=true):0<=x.wait/\x.wait<=1000:=by
 unfold NH at a
 repeat' split at a
 all_goals first|(simp only[A3,Ds,decide_eq_true_eq,Bc] at a;omega)|cases a
theorem Rs {a:Ev}(d:Di a=true):(1<=a.kind/\a.kind<=18)/\(1<=a.id/\a.id<=500)/\(0<=a.tick/\a.tick<=1099511627776)/\(a.kind=1-> ∃p,JW (bl a.data)=some p/\GI p=true)/\(a.kind=12->Ag a.data=true):=by
 unfold Di at d;rw[A3] at d;obtain⟨c,b⟩:=d;simp only[Ei,A3] at c;refine⟨Bc.1 c.1.1.1.1.1.1.1,Bc.1 c.1.1.1.1.1.1.2,Bc.1 c.1.1.1.1.1.2,λe=>?_,λe=>?_⟩
 ·unfold KV at b;rw[if_pos e] at b;obtain⟨p,f⟩:=Option.isSome_iff_exists.1 b;exact⟨p,f,(w7 f).1⟩
 ·unfold KV at b;rw[if_neg (by omega),if_pos e] at b;exact b
theorem xE {p:cu}(a:GI p=true):p.steps.length<=16/\(0<=p.az/\p.az<=16000)/\ ∀x∈p.steps,NH x=true:=by simp only[GI,A3,decide_eq_true_eq,DO] at a;exact⟨a.1.1,Bc.1 a.1.2,a.2⟩
structure mB (s t:bg):Prop where
 prog:t.prog=s.prog
 next:t.next=s.next
 bd:t.bd=s.bd
theorem QQ {s t:bg}{b:Ev}(a:Dq s b=some t):mB s t/\t.au=s.au/\t.ak=s.ak/\t.status=s.status:=by
 unfold Dq at a
 repeat' split at a
 all_goals first|(cases a;exact⟨⟨rfl,rfl,rfl⟩,rfl,rfl,rfl⟩)|cases a
theorem xF {s t:bg}{b:Ev}(a:KE s b=some t):mB s t/\(t.au=s.au\/t.au= [])/\(t.ak=s.ak\/t.ak= [])/\(t.status=s.status\/(1<=t.status/\t.status<=4)):=by
 unfold KE at a
 repeat' split at a
 all_goals first|(cases a;first|exact⟨⟨rfl,rfl,rfl⟩,.inl rfl,.inl rfl,.inl rfl⟩|exact⟨⟨rfl,rfl,rfl⟩,.inr rfl,.inr rfl,.inr (by simp only[Zh];omega)⟩)|cases a
theorem xG {s t:bg}{b:Ev}(a:L6 s b=some t):mB s t/\t.au.length<=s.au.length+1/\t.ak=s.ak/\t.status=s.status:=by
 unfold L6 at a;split at a
 ·obtain⟨x,c,a⟩:=Option.bind_eq_some_iff.1 a;split at a
  ·cases a
  ·cases a;exact⟨⟨rfl,rfl,rfl⟩,by simp,rfl,rfl⟩
 ·obtain⟨i,d,a⟩:=Option.bind_eq_some_iff.1 a;obtain⟨e,f,a⟩:=Option.bind_eq_some_iff.1 a
  repeat' split at a
  all_goals first|(cases a;exact⟨⟨rfl,rfl,rfl⟩,by first|(simp only[Pl];omega)|(have:=A0p s.au i;simp only;omega),rfl,rfl⟩)|cases a
theorem xH {s t:bg}{b:Ev}(a:KU s b=some t):mB s t/\t.au=s.au/\t.ak.length<=s.ak.length+1/\t.status=s.status:=by
 unfold KU at a;split at a
 ·obtain⟨x,c,rfl⟩:=Option.map_eq_some_iff.1 a;exact⟨⟨rfl,rfl,rfl⟩,rfl,by simp,rfl⟩
 ·obtain⟨i,d,rfl⟩:=Option.map_eq_some_iff.1 a;exact⟨⟨rfl,rfl,rfl⟩,rfl,by have:=A0p s.ak i;simp only;omega,rfl⟩
theorem AKV {s t:bg}{g:Ev}(a:O7 s g=some t): ∃u:bg,t= {u with next:=s.next+1}/\mB s u/\u.au.length<=s.au.length+1/\u.ak.length<=s.ak.length+1/\(u.status=s.status\/(1<=u.status/\u.status<=4)):=by
 unfold O7 at a;obtain⟨u,b,rfl⟩:=Option.map_eq_some_iff.1 a;refine⟨u,rfl,?_⟩;split at b
 ·obtain⟨c,d,e,f⟩:=QQ b;exact⟨c,by rw[d];omega,by rw[e];omega,.inl f⟩
 ·split at b
  ·obtain⟨c,d,e,f⟩:=xG b;exact⟨c,d,by rw[e];omega,.inl f⟩
  ·split at b
   ·obtain⟨c,d,e,f⟩:=xH b;exact⟨c,by rw[d];omega,e,.inl f⟩
   ·obtain⟨c,d,e,f⟩:=xF b;exact⟨c,by rcases d with a|a<;>rw[a]<;>simp,by rcases e with a|a<;>rw[a]<;>simp,f⟩
theorem UD {s:bg}{c:Ev}{g:Nat}(b:EU s g)(a:(Bh s c).1=0):EU (Bh s c).2 (g+1):=by
 have ok:=Qo a;obtain⟨w,y,j,k,_⟩:=Rs ok;unfold Bh at a ⊢;rw[if_neg (by simp[ok])] at a ⊢;split at a
 ·rename_i f;rw[if_pos f];split at a
  ·rename_i d;rw[if_pos d];obtain⟨p,l,m⟩:=k d.1;obtain⟨n,o,q⟩:=xE m;show EU (XX c) _;unfold XX;rw[l,GS];exact⟨A5 _,A5 _,n,o,j,by show(0:Int)<=2/\(2:Int)<=501;omega,by show(0:Int)<=0/\(0:Int)<=4;omega,λx r=>AQJ (q x r)⟩
  ·cases a
 ·rename_i f;rw[if_neg f];split at a
  ·cases a
  ·rename_i d;rw[if_neg d];split at a
   ·cases a
   ·rename_i h;rw[if_neg h];have z:c.id=s.next:=by simpa using h
    cases i:O7 s c with
    |none=>rw[i] at a;cases a
    |some t=>
     obtain⟨u,rfl,e,A,B,v⟩:=AKV i;have C:=b.au;have D:=b.ak;exact⟨by show u.au.length<=_;omega,by show u.ak.length<=_;omega,by show u.prog.steps.length<=_;rw[e.prog];exact b.steps,by show 0<=u.prog.az/\_;rw[e.prog];exact b.az,by show 0<=u.bd/\_;rw[e.bd];exact b.bd,by show 0<=s.next+1/\s.next+1<=501;omega,by
      have:=b.st;show 0<=u.status/\u.status<=4;rcases v with a|a<;>omega,by show ∀x∈u.prog.steps,_;rw[e.prog];exact b.waits⟩
theorem xI: ∀ {l:List Ev} {s t:bg} {a:Nat},EU s a->FM s l=some t->EU t (a+l.length)
 | [],s,t,a,c,b=>by cases b;exact c
 |e::l,s,t,a,c,b=>by
  rw[FM] at b;split at b
  ·rename_i d;have:=xI (UD c d) b;rw[A6];rw[show a+(l.length+1)=a+1+l.length from by omega];exact this
  ·cases b
end Go.Lf
namespace Go.Lf
open Go
variable {α : Type} {E : cE α} {A : al} {P : Q1}
theorem Mod.mod {d:Nat->Prop}{b c:aa}(a:Mod (λ_=>False) b c):Mod d b c:=a.aj λ_ _ b=>b.elim
def xJ(A:al)(P:Q1)(t f:Q7)(c:Nat)(s:Sl)(i:Int)(b:Int)(d:aa)(e:A2J):Prop:=
 aG ((0:Int)<=((s.len:Nat):Int)/\((s.len:Nat):Int)<=((s.cap:Nat):Int))<|
 aG ((0:Int)<=b/\b<=(((((s.len:Nat):Int).toNat):Nat):Int))<|
 aG ((0:Int)<=i/\i<=((b.toNat:Nat):Int))<|
 af (i==b) (
  e (.slice s.p s.len s.cap) d) (
  aG ((0:Int)<=i/\i<=((s.cap:Nat):Int))<|
  aG ((0:Int)<=b/\b<=((s.len:Nat):Int))<|
  BD A P (Builtin.append_ #[t,t] t #[.slice (Az s.p s.cap 0 c) (i.toNat-0) (s.cap-0),.slice (Az s.p s.cap b.toNat c) (s.len-b.toNat) (s.cap-b.toNat)]) d λv g=> ∃a:Sl,v= .slice a.p a.len a.cap/\(
  aG ((0:Int)<=((s.len:Nat):Int)/\((s.len:Nat):Int)<=((a.cap:Nat):Int))<|
  aG ((0:Int)<=((a.len:Nat):Int)/\((a.len:Nat):Int)<=((((s.len:Nat):Int).toNat:Nat):Int))<|
  BD A P (Builtin.clear_ #[t] f #[.slice (Az a.p a.cap (((a.len:Nat):Int).toNat) c) ((((s.len:Nat):Int).toNat)-(((a.len:Nat):Int).toNat)) (a.cap-(((a.len:Nat):Int).toNat))]) g λv1 h=>v1= .tuple #[]/\(
  e (.slice a.p a.len a.cap) h)))
theorem AS3 {t m T:Q7}{a:J0}(o:P.underlying t=some (.slice T))(p:(zeroValue T).calc P=some a)(f: ∀v∈a.cells.toList,ML v=true){d:aa}{b e q:Nat}{g:Array J0}{K:A2J}
  (h:d[b]? =some (.cells g T (0,0))) (B:e+a.cells.size<=g.size)
  (r: ∀c,c[b]? =some (.cells (gX g e a.cells.toList) T (0,0))->Mod (· =b) d c->c.size=d.size->K (.tuple #[]) c):
  BD A P (Builtin.clear_ #[t] m #[.slice (some ⟨b,e,none⟩) 1 q]) d K:=by
 intro n;have s:(Builtin.zeroCells a.cells 1).toList=a.cells.toList:=by
  unfold Builtin.zeroCells;rw[N4];apply List.ext_getElem
  ·simp
  ·intro i f C;simp at f;simp[AE f,f]
 have j:=run_storeCells_cells (P:=P) b e a.cells.toList 0 (A.at d n)
  (λk l=>by
   show(ah d ⟨b,e+0+k,none⟩).isSome=true;rw[IG h,Fo (by simp at l;omega)];rfl)
  (λk l=>PQ h) (λv u=>Pb (f v u))
 obtain⟨c,w,x,y,z⟩:=cW (A:=A) a.cells.toList e (n:=n) h;rw[FG,w] at j;refine⟨.tuple #[],c,n,?_,r c x y z⟩;simp[Builtin.clear_,BL o,Da p,s,j,Result.andThen]
theorem ANT {l:List α}{a:Nat}:(l.flatMap E.enc).take (a*E.w)=(l.take a).flatMap E.enc:=by
 induction l generalizing a with
 |nil=>simp
 |cons x l b=>
  cases a with
  |zero=>simp
  |succ a=>
   rw[AF,I0,AF,Kf,E.len,Ax (by rw[E.len,Bm];omega),Bm,N4,MA,b]
theorem ANX {l:List α}{a:Nat}:(l.flatMap E.enc).drop (a*E.w)=(l.drop a).flatMap E.enc:=by
 induction l generalizing a with
 |nil=>simp
 |cons x l b=>
  cases a with
  |zero=>simp
  |succ a=>
   rw[AF,HU,P4,E.len,HA (by rw[E.len,Bm];omega),Bm,N4,MA,b,DA]
theorem xL {t R T:Q7}{zv:J0}{S:Nat}(U:QP P t T E.w S=true)(V:(zeroValue T).calc P=some zv)(W: ∀v∈zv.cells.toList,ML v=true)(F:zv.cells.size=E.w){c:aa}{s:Sl}{l:List α}{i:Nat}{G:A2J}
  (H:Own E T c s l) (I:i<l.length)
  (X: ∀w,Own E T w ⟨s.p,l.length-1,s.cap⟩ (l.eraseIdx i)->Mod (λb=>s.ag=some b) c w->G (.slice s.p (l.length-1) s.cap) w):xJ A P t R E.w s (i:Int) ((i+1:Nat):Int) c G:=by
 obtain⟨J,Y,z,Z,aA,y,aC,aD⟩:=qI U;have K:=H.len;rcases H.row with⟨rfl,rfl⟩|⟨g,o,h,B,ab,ac,k,L⟩
 ·simp at I
 have ad:s.len*E.w<=s.cap*E.w:=AN _ ab;unfold xJ;refine⟨⟨by omega,by omega⟩,⟨by omega,by omega⟩,⟨by omega,by omega⟩,af.no (by simp;omega) ⟨⟨by omega,by omega⟩,⟨by omega,by omega⟩,?_⟩⟩;rw[An,An,An,Hv,Hv];have ae:Az s.p s.cap 0 E.w=some ⟨g,0,none⟩:=by unfold Az;rw[if_neg (by omega),h];simp[Be]
 rw[ae]
 let m:=s.len-(i+1)
 let f:List J0:=(l.drop (i+1)).flatMap E.enc
 have nl:f.length=m*E.w:=by simp only[f,m];rw[KF,Cl,K]
 obtain⟨a,ag,ai⟩: ∃a,Az s.p s.cap (i+1) E.w=some a/\ ∀j u,f[j]? =some u->(A.at c 0).cell? (a.add j)=some u:=by
  unfold Az;by_cases M:s.cap=i+1
  ·rw[if_pos M,h];refine⟨_,rfl,λj u d=>?_⟩;have:m=0:=by simp only[m];omega
   have d:=(List.getElem?_eq_some_iff.1 d).1;rw[nl,this] at d;omega
  ·rw[if_neg M,h];refine⟨_,rfl,λj u d=>?_⟩;show ah c ((Addr.add ⟨g,0,none⟩ ((i+1)*E.w)).add j)=some u;rw[Be,Be,AI,IG B];simp only[f] at d;rw[<- ANX,BY,<-L,F0] at d;split at d
   ·simpa using d
   ·cases d
 rw[ag];intro p;have aj: ∀u∈f,u.oneCell'=true:=λu ak=>by
  obtain⟨x,_,al⟩:=List.mem_flatMap.1 ak;exact Pb (E.one x u al)
 have am:i*E.w+m*E.w<=s.cap*E.w:=by rw[<- Bm];exact AN _ (by simp only[m];omega)
 have N:=run_append_room (P:=P) (A.at c p) t t T Y J Z g i s.cap o B a m (s.cap-(i+1)) f (by rw[nl,y]) (λj u d=>ai j u d) aj (by simp only[m];omega) (by rw[y,nl,k];exact am);rw[y] at N
 let e:Array J0:=(o.toList.take (i*E.w)++f++o.toList.drop (i*E.w+f.length)).toArray
 obtain⟨n,an,ao,ap,aE⟩: ∃n,(A.at c p).setRow g e=A.at n p/\n[g]? =some (.cells e T (0,0))/\Mod (· =g) c n/\n.size=c.size:=by
  refine⟨_,rfl,?_,⟨?_,λb q aq=>?_⟩,?_⟩
  ·show(c.modify g _)[g]? =_;rw[Gk,if_pos rfl,B];rfl
  ·show c.size<=(c.modify g _).size;simp
  ·show(c.modify g _)[b]? =_;rw[Gk,if_neg (Ne.symm aq)]
  ·show(c.modify g _).size=_;simp
 refine⟨_,n,p,N.trans (by rw[<- an]),⟨some ⟨g,0,none⟩,i+m,s.cap⟩,rfl,⟨by omega,by show((s.len:Nat):Int)<=((s.cap:Nat):Int);omega⟩,⟨by omega,by show((i+m:Nat):Int)<=_;simp only[m];omega⟩,?_⟩;have C:i+m=l.length-1:=by simp only[m];omega
 dsimp only[Int.toNat_natCast];rw[C];have ar:Az (some ⟨g,0,none⟩) s.cap (l.length-1) E.w=some ⟨g,(l.length-1)*E.w,none⟩:=by unfold Az;rw[if_neg (by omega)];simp[Be]
 rw[ar,show s.len-(l.length-1)=1 from by omega];have r:e.size=o.size:=by simp only[e,List.size_toArray,A1,As,Cl,DP];rw[nl];omega
 have O:(l.length-1)*E.w+E.w<=s.cap*E.w:=by rw[show(l.length-1)*E.w+E.w=l.length*E.w from by rw[<- Nat.succ_mul];congr 1;omega,<-K];exact ad
 refine AS3 J V W ao (by rw[r,F,k];exact O) λQ au av aF=>⟨rfl,?_⟩
 rw[<- h];have aw:Mod (λb=>s.ag=some b) c Q:=(ap.aj λb _ q=>by subst q;simp[Sl.ag,h]).trans (av.aj λb _ q=>by subst q;simp[Sl.ag,h]);refine X Q ⟨by rw[List.length_eraseIdx,if_pos I],.inr ⟨g,_,h,au,by show l.length-1<=s.cap;omega,ac,?_,?_⟩⟩ aw
 ·show(gX _ _ _).size=s.cap*E.w;rw[Ig,r,k]
 ·show(gX e ((l.length-1)*E.w) zv.cells.toList).toList.take ((l.length-1)*E.w)=_;have ax:zv.cells.toList.length=E.w:=by rw[DP,F]
  have D:e.size=s.cap*E.w:=by rw[r,k]
  rw[OU _ _ _ (by rw[ax,D];exact O),A4,Kf];have ay:(l.length-1)*E.w<=e.toList.length:=by
   have D:e.toList.length=s.cap*E.w:=by rw[DP,r,k]
   rw[D];omega
  rw[As,Fk ay,LI,Is,AM,Rr,Nat.min_self];simp only[e];have az:i*E.w<=o.toList.length:=by rw[DP,k];omega
  rw[A4,Kf,As,Fk az,Ax (by rw[As,<-C,Bm];omega)];rw[<- C,Bm,SR,<-nl,Kf,LI,Is,AM,Ax (A0 _)];rw[List.eraseIdx_eq_take_drop_succ,Fm,<-ANT,<-L,Rr,Fk (AN _ (by omega))]
end Go.Lf
