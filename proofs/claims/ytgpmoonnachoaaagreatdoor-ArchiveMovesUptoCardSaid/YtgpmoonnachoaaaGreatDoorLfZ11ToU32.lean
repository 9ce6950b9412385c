/-
 Contract: what is in memory goes into a table (chapter 9).
-/
import Derived.Test.YtgpmoonnachoaaaGreatDoorLfU15ToZ10
import Derived.Lib.AtoiAllCases
import Derived.Test.YtgpmoonnachoaaaGreatDoorLfU2ToS3
import Derived.Test.YtgpmoonnachoaaaGreatDoorCards
import Derived.Test.YtgpmoonnachoaaaGreatDoorTie
import Derived.Deep.DeepHandedRow
import Derived.Lib.LaidTab
import Derived.Stop.LaidErr
import Derived.Test.YtgpmoonnachoaaaGreatDoorLfX2ToS5
import Derived.Test.YtgpmoonnachoaaaGreatDoorRows
import Derived.WalkKit
import Derived.ProofKit
import Derived.OpenShut
import Derived.JoinedCond
import Derived.Deep.Slices
import Derived.Carry
import Derived.Test.YtgpmoonnachoaaaGreatDoorLfG1
import Derived.Test.YtgpmoonnachoaaaGreatDoorLfKToGA
set_option maxRecDepth 100000
set_option linter.unusedVariables false
set_option linter.unusedSimpArgs false
open Go.IntKind renaming i64→J9,wrap→J8
open Go.Value renaming string→J7,int→J6,pointer→J5,slice→J4,bool→J3,tuple→J1
open Go.Obj renaming cells→J2
open Go renaming Value→J0,Addr→Q6,TypeId→Q7,FuncId→Q8,Program→Q1
open Go.Addr renaming add→Q9,mk→Q5
namespace Go.Lf.G
open Go
open M (Sorted Ad Bu Ay Ae Am BL Ag bo A9)
section
variable {A : al} {B : cu} {g h : aa} {q : Hp} {k : Nat -> Nat} {st : Db} {m : Bx} {D : Bn} {aH c : Nat} {R : A2L}
theorem Ei.sZ {d:bP}(L:Ei d st D)(l:TR st D aH c)(hA:aH<=100000){a:Nat}(e:st.aw<a):D.L a= []:=by
 by_cases b:a<=99999999
 ·exact L.ok.jH b (L.gL a (by omega) b λ_=>by omega)
 ·exact L.ok.gM (.inr (by have:=l.aP;omega))
theorem AM3 {F:bP}{made:Bool}{m:Bx}{s:Nat}(hd:m.down=false)(d:made=true-> ∃b,ff m (aC nl s)=some (b,bq)):(m.fuel=0/\NS m (aC nl s) made=(30,Ng m))\/((NS m (aC nl s) made).1=0/\Jk m (NS m (aC nl s) made).2/\ ∀x,ff (NS m (aC nl s) made).2 x=ff m x):=by
 cases made with
 |false=>exact .inr ⟨rfl,Jk.refl hd,λx=>rfl⟩
 |true=>
  obtain⟨b,e⟩:=d rfl;rcases Ot hd e with a|⟨a,f,i⟩
  ·exact .inl a
  ·refine .inr ⟨a,f,λx=>?_⟩;show ff (FY m (aC nl s)).2 x=_
   simp_all [Vi]
theorem AOL {m:Bx}(g:Hq m)(k:A2M)(made:Bool):ba (NS m k made).2.files<=ba m.files:=by
 cases made with
 |false=>exact A0 _
 |true=>exact YW g k
theorem AQ2 {a b x:Nat}(d:b<=a+x):b+1000000<=a+(x+1000000):=by omega
theorem AOe(a:Nat):8400*a+1100001+1000000<=20000*a+10000000:=by omega
theorem APo(aV:cy g)(S:Bq B g h q k st m D aH c)(hA:aH+2<=B.A)
  (be: ∀h' an,pa B h h' q k m an (aH+2)->kC (ff an) (aH+2) c (Cr st)->R (J6 J9 30) h')
  (b8: ∀h' bf bG bH an r,bf.d=q.d->bf.b=q.b->Bq B g h' bf bG bH an r (aH+2) c->Jk m an->bH.fr= []->Cr bH=Cr st->(bH.ts.length<=3\/bH.ts.length=st.ts.length)->(∀ v,¬cG v->ff an v=ff m v)->Mod (λc=>k c≠0) h h'->(∀ c,bG c≠0->k c≠0\/h.size<=c)->R (J6 J9 0) h'):
  AA A P O8 #[Ar q.d] h R:=by
 have dP:=S;obtain⟨V,hd,L,l,aY,b⟩:=S;have fQ:=B.hA;have dQ:=B.hC;have dR:=B.wt (a:=aH) (by omega);have dS:=L.dq l;have fR:=l.next;have fT:=l.aJ;have fU:=l.aw;have fV:=l.aP;have fW:=l.aY;have fX:=L.eT;have fY:=l.ct;have dT:=L.j7 l;have aZ:st.next∉st.ts.map (·.1):=λb9=>by
  obtain⟨p,aj,e⟩:=List.mem_map.1 b9;have:=L.below p aj;omega
 refine ABq ?_;unfold UJ;refine ai.mk λK dU=>Zf V (dU _ _ (af.no rfl ?_))
 refine aD (AY.mk (AB V.cell rfl) ?_);refine M.ta V.fresh ⟨_,_,rfl,?_⟩;refine af.intro (λbI=>?_) (λbI=>?_)
 ·have o:st.fr= []:=DA (by have:((st.fr.length:Nat):Int)=0:=(by simpa using bI);omega);exact b8 h q k st m D rfl rfl (dP.aH (by omega)) (Jk.refl hd) o rfl (.inr rfl) (λ_ _=>rfl) Mod.refl (λc b=> .inl b)
 have dV:st.fr≠ []:=λe=>by
  rw[e] at bI;cases bI
 have bJ:Hl st.fr:=⟨dV,λx E=>pg (V.fresh.aR x E),V.fresh.sorted,by omega⟩;have fZ:=AMA bJ;have dW:(Jy st.fr).length<=8400*B.C+1100000:=by omega
 refine aD (AC.mk (AB V.cell rfl) (aD (AY.mk (AB V.cell rfl) ?_)));refine M.tc V.fresh λfv w cS cT cU=>⟨_,rfl,⟨AB (V.on cT).cell rfl,?_⟩⟩
 rw[M.sU] at cS;refine M.XF cS (λ_ _=>rfl) (by omega) λca Y cV f0 dX=>⟨ca,rfl,?_⟩
 have bK:=cT.trans dX;have bM:=V.on bK;have f1:=bK.size;refine⟨AB bM.cell rfl,?_⟩;refine APY (n:=st.next) aV bM hd bJ cV.view (λc b=>cV.lt b) (by omega) dT (AS0 dW aY dR dQ) (λbg ax ay ac dY dZ bN d0 a0 d1=>⟨_,_,rfl,af.yes rfl ?_⟩) λax ay bO ac t aL aM ak cb a0 d1 cX f2 f3 cY bN bQ=>⟨_,_,rfl,af.no rfl ?_⟩
 ·refine Jr bM dY (bN.aj λc _ b=> .inl b) d0 λd2 d3 d4 d5 d6=>⟨_,rfl,?_⟩
  have cc:=L.jG (F':=ff ac) (l.mono (ID aH 2) (A0 _)) (λx E=>a0 x (E _ aZ)) λn u=>by
   by_cases e:n=st.next
   ·omega
   ·rw[a0 _ λaN=>e (Jl aN)] at u;have:=L.fJ l u;omega
  have bh:ba ac.files<=ba m.files+(8400*B.C+1100001):=by omega
  have H:=B.step2 aY bh (ID _ _);exact be d2 ac ⟨bg,d3,⟨ay,d4,λc b=>(d6 c b).imp id λh=>by omega⟩,dZ,(Ext.mod bK).trans d5,λv I=>a0 v (RP I _),AG H (KK (AN _ (BY _)) _)⟩ cc.2
 have f4:=bN.size;have f5:=cX.fJ;have cZ:Mod (λc=>k c≠0) h ax:=(Ext.mod bK).trans (bN.aj λc _ b=>by rw[V.kb c b];decide);have bi: ∀x,x≠aX st.next->ff ac x=ff m x:=λx E=>by rw[a0,if_neg E]
 have c0:ba ac.files<=ba m.files+(8400*B.C+1100001):=by omega
 have d7: ∀n,ff ac (aC nl n)=ff m (aC nl n):=λn=>bi _ (MQ n _)
 have c3: ∀ {F':bP},(∀ n,F' (aX n)≠none->ff ac (aX n)≠none)-> ∀n,F' (aX n)≠none->n<8*(aH+1)+8:=λad n u=>by
  by_cases e:n=st.next
  ·omega
  ·have o:=ad n u;rw[bi _ λaN=>e (Jl aN)] at o;have:=L.fJ l o;omega
 refine aD (AY.mk (AB ak.cell rfl) ?_);have c4:=AM3 (F:=ff m) (made:=st.br) (s:=st.aw) cb.up λb9=>⟨_,by rw[d7];exact L.jF b9⟩
 refine XR (ak.im aV) ak.log ak.box ak.lL (by decide) (by omega) (λd8 J bR c5 a1=>⟨_,_,rfl,?_⟩) λc6 J bR c5 a1=>⟨_,_,rfl,?_⟩
 ·rcases c4 with⟨c7,a2⟩|⟨a2,_,_⟩
  ·rw[a2] at bR ⊢;refine af.yes rfl ?_;refine Jr (q:= {q with Sb:=ay}) ak bR (a1.aj λc _ b=> .inl b) (λc b=> .inl b) λd9 ea eb ec ed=>⟨_,rfl,?_⟩
   have cc:=L.jG (F':=ff (Ng ac)) (l.mono (ID aH 2) (A0 _)) (λx E=>bi x (E _ aZ)) λn u=>by
    have:=c3 (F':=ff (Ng ac)) (λn u=>u) n u;omega
   have H:=B.step2 aY c0 (ID _ _);refine be d9 (Ng ac) ⟨(λz=>by have:=cb.calm z;rw[c7] at this;cases this),ea,⟨ay,eb,λc b=>?_⟩,rfl,cZ.then (ec.aj λc _ b=>?_),λv I=>bi v (RP I _),AG H (KK (AN _ (BY _)) _)⟩ cc.2
   ·rcases ed c b with o|o
    ·by_cases Z:c<Y.size
     ·rw[bQ c Z] at o;exact .inl o
     ·exact .inr (by omega)
    ·exact .inr (by omega)
   ·by_cases Z:c<Y.size
    ·rw[bQ c Z] at b;exact .inl b
    ·exact .inr (by omega)
  ·exact absurd a2 d8
 refine af.no rfl ?_;rcases c4 with⟨c7,a2⟩|⟨a2,ee,ef⟩
 ·rw[a2] at c6;cases c6
 have eg:=AOL ak.box.aR (aC nl st.aw) st.br;have ag:=ak.boxed (j:=3) (bH:= {st with aw:=st.aw+1,br:=false}) bR (a1.aj λc _ b=>b.imp id λh=> .inl ⟨rfl,h⟩) (λc b=> .inl b) rfl rfl rfl rfl (.inr c5) (.inl ⟨by decide,rfl⟩);generalize (NS ac (aC nl st.aw) st.br).2=ab at*
 have f6:=a1.size;have c8: ∀c,c<ax.size->Js bO ax.size ay 2 c=bO c:=λc b=>Gd b
 generalize Js bO ax.size ay 2=ap at*
 have eh:Mod (λc=>k c≠0) h J:=cZ.then (a1.aj λc _ b=>by
  have o:bO c≠0:=by
   rcases b with b|b
   ·rw[ak.kb c b];decide
   ·rw[b,ak.kl];decide
  by_cases Z:c<Y.size
  ·rw[bQ c Z] at o;exact .inl o
  ·exact .inr (by omega))
 have cd: ∀c,ap c≠0->k c≠0\/h.size<=c:=λc b=>by
  by_cases Z:c<Y.size
  ·rw[c8 c (by omega),bQ c Z] at b;exact .inl b
  ·exact .inr (by omega)
 have ce: ∀c,J.size<=c->ap c=0:=λc b=>Decidable.byContradiction λh=>by
  have:=(ag.own c h).2;omega
 have cf: ∀c,aL<=c->c<aM->ap c=0:=λc c1 c2=>by rw[c8 c (by omega)];exact cY c c1
 have cg: ∀x,ff ab x=ff ac x:=ef;have a3: ∀x,x≠aX st.next->ff ab x=ff m x:=λx E=>(cg x).trans (bi x E)
 have ei:ff ab (aX st.next)=some (AX (Jy st.fr),bq):=by rw[cg,a0,if_pos rfl]
 have ch:Jk m ab:=cb.trans ee;have bh:ba ab.files<=ba m.files+(8400*B.C+1100001):=AG eg c0;have ej:BJ (ff ab) D:=L.ok.gf λx E=>a3 x (E st.next (by rw[L.names];exact aZ))
 have c9: ∀ {F':bP},(∀ n,F' (aX n)≠none->ff ab (aX n)≠none)-> ∀n,F' (aX n)≠none->n<8*(aH+1)+8:=λad n u=>c3 (F':=ff ab) (λn u=>by rw[<- cg];exact u) n (ad n u)
 have ek: ∀(z:aa) (y:Hp) (ci:Nat->Nat),bL g z y ci {st with ts:=(st.next,st.fr)::st.ts,next:=st.next+1,aW:=st.aw+1,aw:=st.aw+1,br:=false} ab->y.d=q.d->y.b=q.b->Mod (λc=>k c≠0) h z->(∀ c,ci c≠0->k c≠0\/h.size<=c)->
   AA A P KV #[Ar y.d] z λel da=> ∃cj:Int,el=J6 J9 cj/\(
         af (cj != (0:Int)) (
          AA A P Cj #[Ar y.d,J6 J9 cj] da λen eo=> ∃db:Int,en=J6 J9 db/\(
          R (J6 J9 db) eo)) (
          AA A P Qj #[] da λep dc=> ∃dd:Q2,ep=J5 dd/\(
          At (some (⟨y.d,0,none⟩:Q6)) λeq=>
          ae dc (eq.add 3) (J5 dd) λaq=>
          At (some (⟨y.d,0,none⟩:Q6)) λer=>
          AY aq (er.add 1) λes=>
          AA A P Je #[J5 es,J6 J9 (st.aw:Int)] aq λet au=> ∃ck:Int,et=J6 J9 ck/\(
          af (ck != (0:Int)) (
           AA A P Cj #[Ar y.d,J6 J9 ck] au λeu cl=> ∃de:Int,eu=J6 J9 de/\(
           R (J6 J9 de) cl)) (
           At (some (⟨y.d,0,none⟩:Q6)) λev=>
           Aa au (ev.add 4) λew=>
           af (decide (((ew.len:Nat):Int)>=(4:Int))) (
            AA A P Ju #[Ar y.d] au λex ey=> ∃df:Int,ex=J6 J9 df/\(
            R (J6 J9 df) ey)) (
            R (J6 J9 0) au)))))):=by
  intro z y ci bj bk az bT a4;have ez:ib (cW {st with ts:=(st.next,st.fr)::st.ts,next:=st.next+1,aW:=st.aw+1,aw:=st.aw+1,br:=false}):=by
   refine⟨by show st.next+1<=_;omega,by show 1<=st.aw+1/\st.aw+1<=_;omega,?_,λn u=>?_,?_⟩
   ·show((st.next,st.fr)::st.ts |>.map (·.1)).length<=_;simp;omega
   ·show n<st.next+1;rcases List.mem_cons.1 u with rfl|u
    ·exact Hn _
    ·obtain⟨p,aj,rfl⟩:=List.mem_map.1 u;have:=L.below p aj;omega
   ·exact List.nodup_cons.2 ⟨aZ,L.nd⟩
  have eA: ∀n∈st.next::st.ts.map (·.1),ff ab (aX n)=some (AX (Jy ((Kv D.T st.next st.fr) n)),bq)/\Hl ((Kv D.T st.next st.fr) n):=λn u=>by
   by_cases e:n=st.next
   ·subst e;rw[EQ];exact⟨ei,bJ⟩
   ·rw[GQ e,a3 _ λaN=>e (Jl aN)];rcases List.mem_cons.1 u with o|o
    ·exact absurd o e
    ·exact L.ok.cS n (by rw[L.names];exact o)
  have dg: ∀r:Bn,r.T=Kv D.T st.next st.fr->(st.next::st.ts.map (·.1)).map r.T=st.fr::aE st:=λr bU=>by
   rw[BW,bU,EQ];congr 1;rw[<- L.aE,L.names];refine CM λn u=>GQ λe=>aZ (e▸u)
  have dh: ∀r:Bn,r.L=D.L->r.aP=D.aP->Aq r=cW {st with ts:=(st.next,st.fr)::st.ts,next:=st.next+1,aW:=st.aw+1,aw:=st.aw+1,br:=false}->r.T=Kv D.T st.next st.fr->cH r=Cr st/\OT r<=c/\Ey r= []:=λr eB di a5 bU=>by
   have az:=ANc (f:=st.aw+1) eB di (by rw[a5];rfl) λn u=>L.sZ l (by omega) (by omega)
   have dj:Ey r= []:=by unfold Ey;rw[az];rfl
   have dk:(Aq r).names=st.next::st.ts.map (·.1):=by rw[a5];rfl
   refine⟨?_,?_,dj⟩
   ·unfold cH;rw[dj,dk,dg r bU];exact AH9 V.gb
   ·unfold OT;rw[az,dk];have C:((st.next::st.ts.map (·.1)).map λn=>(r.T n).length)=((st.next::st.ts.map (·.1)).map r.T).map List.length:=by rw[AW];rfl
    rw[C,dg r bU];have:((st.fr::aE st).map List.length).sum=st.fr.length+M.total (aE st):=by simp[M.total]
    rw[this];simpa using dS
  have dl: ∀(r:Bn) (F':bP),BJ F' r->r.aP=D.aP->r.aY<=max D.aY (st.aJ+1)->Aq r=cW {st with ts:=(st.next,st.fr)::st.ts,next:=st.next+1,aW:=st.aw+1,aw:=st.aw+1,br:=false}->cH r=Cr st->OT r<=c->(∀ n,F' (aX n)≠none->ff ab (aX n)≠none)->Rec F' (aH+1) c (Cr st):=λr F' o di u a5 eC eD ad=>by
   refine⟨r,o,⟨by omega,by omega,?_,?_,?_,eD,c9 ad⟩,eC⟩
   ·rw[a5];show st.next+1<=_;omega
   ·rw[a5];show st.aw+1<=_;omega
   ·rw[a5];show((st.next,st.fr)::st.ts |>.map (·.1)).length<=_;simp;omega
  have eG:ba ab.files+1000000<=8000000000000:=by have o:=B.wt (a:=aH+1) (by omega);have H:ba ab.files+1000000<=B.W0+(aH+1)*B.K:=B.step (d:=8400*B.C+1100001+1000000) aY (AQ2 bh) (AOe B.C);exact AG H o
  have dm: ∀ {dn:Nat},dn<=B.W0+(aH+1)*B.K->dn<=B.W0+(aH+2)*B.K:=λh=>AG h (KK (AN _ (BY _)) _)
  refine AL1 (T:=Kv D.T st.next st.fr) aV bj ch.up ej ez eA ⟨L.aJ,by show st.aJ+2<=_;omega⟩ (λn W ah=>by rw[a3 _ (Qt n _)];exact L.jE n W ah) eG
   (λbg w cm al eH eI bV cU eJ a6 cn=>⟨_,rfl,af.yes rfl ?_⟩) λw cm co al D3 cp dp dq a7 dr eK cq eL a6 eM cn bV eN=>⟨_,rfl,af.no rfl ?_⟩
  ·refine Jr bj eH (bV.aj λc _ b=>b.imp id .inr) cU λY eO eP eQ ca=>⟨_,rfl,?_⟩
   have eR:Mod (λc=>k c≠0) h Y:=bT.then (eQ.aj λc _ b=>a4 c b);refine be Y al ⟨λz=>bg (ch.calm z),by rw[<- bk];exact eO,⟨cm,by rw[<- az];exact eP,λc b=>?_⟩,eI,eR,λv I=>?_,dm (B.step2 aY bh cn)⟩ λG bm=>?_
   ·rcases ca c b with o|o
    ·exact a4 c o
    ·exact .inr (by have:=bT.size;omega)
   ·rw[a6 v λn=>lC I n,a3 v (RP I _)]
   ·obtain⟨r,ds,nx⟩:=eJ G bm;have dt: ∀n,G (aX n)≠none->ff ab (aX n)≠none:=λn u=>by
     have:=bm.some u;rwa [a6 _ λj e=>Qt j n e.symm] at this
    have bW:r.aY<=max D.aY (st.aJ+1):=nx.aY;rcases nx.last with⟨am,C⟩|⟨am,C⟩
    ·obtain⟨bn,bX⟩:=AHv nx.L nx.aP am C;have:=L.next;have eS:Rec G (aH+1) c (Cr st):=⟨r,ds,⟨by rw[nx.aP];omega,by omega,by rw[am];omega,by rw[am,L.aW];omega,by rw[am,L.iK];omega,by rw[bX];exact l.bY,c9 dt⟩,by rw[bn];exact L.map⟩;exact eS.mono (BY _) (A0 _)
    ·obtain⟨bn,bX,_⟩:=dh r nx.L nx.aP am C;exact(dl r G ds nx.aP bW am bn bX dt).mono (BY _) (A0 _)
  ·obtain⟨bn,bX,eT⟩:=dh D3 eK cq a7 dr;have f7:=bV.size;have bW:D3.aY<=max D.aY (st.aJ+1):=eL;have cr:ba al.files<=B.W0+(aH+1)*B.K:=B.step2 aY bh cn;have du:Jk m al:=ch.trans dp;have dv:Mod (λc=>k c≠0) h w:=bT.then (bV.aj λc _ b=>by
    rcases b with b|b
    ·exact a4 c (by rw[bj.kb c b];decide)
    ·exact a4 c (by rw[b,bj.kn];decide))
   have eU: ∀c,co c≠0->k c≠0\/h.size<=c:=λc b=>by
    by_cases Z:c<z.size
    ·rw[eN c Z] at b;exact a4 c b
    ·exact .inr (by have:=bT.size;omega)
   refine M.td λdc eV cs f8=>⟨_,rfl,?_⟩
   have eW:=cp.on cs;refine aD (ae.dw eW.cell (by simp) λaq eX ct f9=>?_);have eY:M.dh aq w.size [] []:=eV.mod ct λc b e=>by
    have ga:c=w.size:=by
     rcases b with rfl|⟨x,E,_⟩
     ·rfl
     ·cases E
    have:=cp.ik;have C:(y.d:Nat)<w.size:=this;have gb:c=y.d:=e;omega
   have dw:Mod (λc=>c=w.size\/c=y.d) w aq:=(Ext.mod cs).trans (ct.aj λc _ b=> .inr b);have av:=cp.renew (h':=aq) (gN:=w.size) eY (A0 _) (by simpa [eE] using eX) (by
    refine⟨dw.size,λc b u=>?_⟩;exact dw.get c b (by rintro(h|h);omega;exact u h))
   have cu:Mod (λc=>k c≠0) h aq:=(dv.trans (Ext.mod cs)).then (ct.aj λc _ b=>by
    have e:c=y.d:=b;rw[e];exact a4 _ (by rw[bj.kd];decide))
   have bY: ∀c,Js co w.size (· =w.size) 5 c≠0->k c≠0\/h.size<=c:=λc b=>by
    by_cases Z:c<w.size
    ·rw[Gd Z] at b;exact eU c b
    ·exact .inr (by have:=dv.size;omega)
   generalize Js co w.size (· =w.size) 5=dx at*
   refine aD (AY.mk (AB av.cell rfl) ?_);have gc:=cu.size;have eZ:ba al.files<=8000000000000:=AG cr (B.wt (a:=aH+1) (by omega));have cv: ∀x,x≠aX st.next->(∀ n,x≠aC nn n)->ff al x=ff m x:=λx o H=>(a6 x H).trans (a3 x o)
   have e0:(Aq D3).aW=st.aw+1:=by rw[a7];rfl
   have dy: ∀ {F':bP},(∀ x,F' x=ff al x\/(F' x=none/\ ∃n:Nat,1<=n/\n<=99999999/\n<=st.aw/\x=aC nl n))->BJ F' (Nz D3 F')/\cH (Nz D3 F')=Cr st/\OT (Nz D3 F')<=c/\Ey (Nz D3 F')= []:=λ{F'} ad=>by
    have o: ∀n,n<=99999999->F' (aC nl n)=ff al (aC nl n)\/(F' (aC nl n)=none/\n<(Aq D3).aW):=λn ah=>by
     rcases ad (aC nl n) with o|⟨o,j,_,_,gd,e⟩
     ·exact .inl o
     ·refine .inr ⟨o,?_⟩;rw[e0,Iz e];omega
    have H:=APg dq o λx E=>by
     rcases ad x with w|⟨_,j,_,e1,_,e⟩
     ·exact w
     ·exact absurd e (E j e1)
    have Y:=AKF dq o;have ax:Ey (Nz D3 F')=Ey D3:=by unfold Ey;rw[Y]
    refine⟨H,?_,?_,by rw[ax];exact eT⟩
    ·rw[<- bn];unfold cH;rw[ax];rfl
    ·have:OT (Nz D3 F')=OT D3:=by unfold OT;rw[Y];rfl
     omega
   refine AGA (av.im aV) (λh' x=>av.gg aV (x.aj λc _ b=> .inl b)) av.log av.box dp.up av.lL (by decide) eZ (λe2=>absurd e2 (by show ¬(st.aw:Int)>=((st.aw+1:Nat):Int);omega))
    (λbg au aO O cw e3 bZ cx cz bo=>⟨_,rfl,af.yes rfl ?_⟩) λ_ au aO O cw dz bZ cx cz bo dA=>⟨_,rfl,af.no rfl ?_⟩
   ·have ad: ∀x,ff O x=ff al x\/(ff O x=none/\ ∃n:Nat,1<=n/\n<=99999999/\n<=st.aw/\x=aC nl n):=λx=>by
     rcases bo x with o|⟨o,n,W,ah,b0,e⟩
     ·exact .inl o
     ·exact .inr ⟨o,n,W,ah,by omega,e⟩
    obtain⟨cB,cC,cD,_⟩:=dy ad;refine Jr (q:= {y with Sb:=cm,ft:=w.size,ns:= []}) av cw (bZ.aj λc _ b=> .inl b) (λc b=> .inl (cx c b)) λcl e4 e5 e6 e7=>⟨_,rfl,?_⟩
    refine be cl O ⟨λz=>bg (du.calm z),by rw[<- bk];exact e4,⟨aO,by rw[<- az];exact e5,λc b=>?_⟩,e3,cu.then (e6.aj λc _ b=>bY c b),λv I=>?_,dm (AG cz cr)⟩ λG bm=>?_
    ·rcases e7 c b with o|o
     ·exact bY c o
     ·exact .inr (by omega)
    ·rcases bo v with o|⟨_,n,_,_,_,e⟩
     ·rw[o,cv v (RP I _) λn=>lC I n]
     ·exact absurd e (pd I n)
    ·refine(dl (Nz D3 (ff O)) G (cB.dV bm) cq bW a7 cC cD λn u=>?_).mono (BY _) (A0 _);have o:=bm.some u;rcases bo (aX n) with H|⟨_,j,_,_,_,e⟩
     ·rwa [H,a6 _ λj e=>Qt j n e.symm] at o
     ·exact absurd e.symm (MQ j n)
   ·have ad: ∀x,ff O x=ff al x\/(ff O x=none/\ ∃n:Nat,1<=n/\n<=99999999/\n<=st.aw/\x=aC nl n):=λx=>by
     by_cases E: ∃n:Nat,1<=n/\n<=99999999/\(n:Int)<=(st.aw:Int)/\x=aC nl n
     ·obtain⟨n,W,ah,b0,rfl⟩:=E;exact .inr ⟨bo n W ah b0,n,W,ah,by omega,rfl⟩
     ·exact .inl (dA x λn W ah b0 e=>E ⟨n,W,ah,b0,e⟩)
    obtain⟨cB,cC,cD,e8⟩:=dy ad;have b1:=av.boxed (j:=2) (bH:= {st with fr:= [],ts:=(st.next,st.fr)::st.ts,next:=st.next+1,aW:=st.aw+1,aw:=st.aw+1,aJ:=st.aJ+1,br:=false}) cw (bZ.aj λc _ b=> .inl b) (λc b=> .inl (cx c b)) rfl rfl rfl rfl (.inl ⟨by decide,rfl,rfl⟩) (.inl ⟨by decide,rfl⟩);have bp:Mod (λc=>k c≠0) h au:=cu.then (bZ.aj λc _ b=>bY c (by rw[av.kb c b];decide));have bs: ∀c,Js dx aq.size aO 2 c≠0->k c≠0\/h.size<=c:=λc b=>by
     by_cases Z:c<aq.size
     ·rw[Gd Z] at b;exact bY c b
     ·exact .inr (by omega)
    generalize Js dx aq.size aO 2=dB at*
    have cE: ∀x,(∀ n,x≠aC nl n)->ff O x=ff al x:=λx E=>dA x λn _ _ _=>E n
    have e9: ∀p∈(st.next,st.fr)::st.ts,(Nz D3 (ff O)).T p.1=p.2:=λp aj=>by
     show D3.T p.1=p.2;rw[dr];rcases List.mem_cons.1 aj with rfl|aj
     ·exact EQ
     ·rw[GQ λe=>aZ (by rw[<- e];exact List.mem_map.2 ⟨p,aj,rfl⟩)];exact L.ck p aj
    have dC:Ei (ff O) {st with fr:= [],ts:=(st.next,st.fr)::st.ts,next:=st.next+1,aW:=st.aw+1,aw:=st.aw+1,aJ:=st.aJ+1,br:=false} (Nz D3 (ff O)):=
     ⟨cB,congrArg Nt.names a7,e9,congrArg Nt.aW a7,by rw[show Aq (Nz D3 (ff O))=_ from a7];exact A0 _,λp aj=>by
      show p.1<st.next+1;rcases List.mem_cons.1 aj with rfl|aj
      ·exact Hn _
      ·have:=L.below p aj;omega,e8.symm,λn W ah _=>by
      have W:st.aw+1<=n:=W;rcases ad (aC nl n) with o|o
      ·rw[o,cv _ (MQ n _) λj=>Wj n j];exact L.gL n (by omega) ah λ_=>by omega
      ·exact o.1,(λh=>by cases h),λn W ah=>by
      have W:st.aJ+1<=n:=W;rw[cE _ λj e=>Wj j n e.symm];exact eM n W ah,⟨by show 1<=st.aw+1;omega,A0 _⟩,by show 1<=st.aJ+1;omega,λn u=>by
      rw[cE _ λj e=>MQ j n e.symm,a6 _ λj e=>Qt j n e.symm] at u;by_cases e:n=st.next
      ·subst e;exact CH
      ·rw[a3 _ λaN=>e (Jl aN)] at u;exact AH _ (L.clean n u)⟩
    have ge:(Nz D3 (ff O)).aY<=max D.aY (st.aJ+1):=bW;have gf:(Nz D3 (ff O)).aP=D.aP:=cq;have fa:TR {st with fr:= [],ts:=(st.next,st.fr)::st.ts,next:=st.next+1,aW:=st.aw+1,aw:=st.aw+1,aJ:=st.aJ+1,br:=false} (Nz D3 (ff O)) (aH+1) c:=
     ⟨by show st.aw+1<=_;omega,by show st.aJ+1<=_;omega,by show st.next+1<=_;omega,by show((st.next,st.fr)::st.ts).length<=_;simp;omega,cD,by omega,by omega⟩
    have dD:Bq B g au {y with Sb:=aO,ft:=w.size,ns:= []} dB {st with fr:= [],ts:=(st.next,st.fr)::st.ts,next:=st.next+1,aW:=st.aw+1,aw:=st.aw+1,aJ:=st.aJ+1,br:=false} O (Nz D3 (ff O)) (aH+1) c:=
     ⟨b1,dz.up,dC,fa,AG cz cr,b⟩
    have cF:Cr {st with fr:= [],ts:=(st.next,st.fr)::st.ts,next:=st.next+1,aW:=st.aw+1,aw:=st.aw+1,aJ:=st.aJ+1,br:=false}=Cr st:=by rw[<- cC];exact dC.map.symm
    have cI:Jk m O:=du.trans dz;have cJ: ∀v,¬cG v->ff O v=ff m v:=λv I=>by rw[cE v λn=>pd I n,cv v (RP I _) λn=>lC I n]
    refine aD (Aa.mk (s:=y.tp) (AB b1.cell rfl) ?_);have fb:=b1.ck.len;have fc:=b1.dj;have gg:y.tp.len=st.ts.length+1:=by have am:y.tp.len=y.ps.length:=fb;have C:y.ps.length=((st.next,st.fr)::st.ts).length:=fc;rw[am,C];rfl
    refine af.intro (λdE=>?_) (λdE=>?_)
    ·refine AKT (q:= {y with Sb:=aO,ft:=w.size,ns:= []}) aV dD (by omega) (λh' an aP dF=>⟨_,rfl,?_⟩) λh' bf bG bH an r am C S' fd fe fg gh fh fi fj=>⟨_,rfl,?_⟩
     ·rw[cF] at dF;obtain⟨S',fk,fl⟩:=aP.box;refine be h' an ⟨λz=>aP.fuel (cI.calm z),by rw[<- bk];exact aP.dn,⟨S',by rw[<- az];exact fk,λc b=>?_⟩,aP.down,bp.then (aP.mod.aj λc _ b=>bs c b),λv I=>(aP.dQ v I).trans (cJ v I),aP.wt⟩ dF;rcases fl c b with o|o
      ·exact bs c o
      ·exact .inr (by have:=bp.size;omega)
     ·refine b8 h' bf bG bH an r (am.trans bk) (C.trans az) S' (cI.trans fd) fe (fg.trans cF) (.inl (by omega)) (λv I=>(fh v I).trans (cJ v I)) (bp.then (fi.aj λc _ b=>bs c b)) λc b=>?_
      rcases fj c b with o|o
      ·exact bs c o
      ·exact .inr (by have:=bp.size;omega)
    ·have gi: ¬((y.tp.len:Nat):Int)>=4:=of_decide_eq_false dE;refine b8 au {y with Sb:=aO,ft:=w.size,ns:= []} dB _ O _ bk az (dD.aH (BY _)) cI rfl cF (.inl ?_) cJ bp bs;show((st.next,st.fr)::st.ts).length<=3;rw[A6];omega
 refine ai.mk λfm fn=>?_
 have a8: ∀c,q.tp.ag=some c->ap c=6:=ag.kt;have aQ: ∀c,q.np.ag=some c->ap c=7:=ag.kx;have cK: ∀(z:aa) (tp np:Sl) (N:Nat),Own fS BM z tp (t::q.ps)->Own Ib Bp z np ((st.next:Int)::eF st)->Mod (λc=>q.tp.ag=some c\/q.np.ag=some c) J z->(∀ c,tp.ag=some c->(q.tp.ag=some c\/J.size<=c)/\c<N)->(∀ c,np.ag=some c->q.np.ag=some c\/(J.size<=c/\N<=c))->
   ae z ((⟨q.d,0,none⟩:Q6).add 4) (J4 tp.p tp.len tp.cap) λdG=>ae dG ((⟨q.d,0,none⟩:Q6).add 5) (J4 np.p np.len np.cap) λaR=>fm () aR:=by
  intro z tp np N fo on bt b2 b3;have aS:ap q.d=1:=ag.kd;have nd: ¬(q.tp.ag=some q.d\/q.np.ag=some q.d):=by
   rintro(h|h)
   ·have:=a8 _ h;rw[aS] at this;cases this
   ·have:=aQ _ h;rw[aS] at this;cases this
  have fp:=bt.ag ag.cell nd;have gj:=bt.size;have gk:q.d<J.size:=ag.ik;refine ae.dw fp (by simp) λdG fq fs gl=>ae.dw fq (by simp) λaR fu fw gm=>?_
  have aT:Mod (· =q.d) z aR:=fs.trans fw;have cL: ∀c,tp.ag=some c-> ¬c=q.d:=λc b e=>by
   rcases(b2 c b).1 with h|h
   ·exact nd (.inl (e▸h))
   ·omega
  have dH: ∀c,np.ag=some c-> ¬c=q.d:=λc b e=>by
   rcases b3 c b with h|h
   ·exact nd (.inr (e▸h))
   ·omega
  have dI:=fo.mod aT cL;have dJ:=on.mod aT dH;have gn:=ag.ext.size;have a9:=ag.fj (h':=aR) (tp:=tp) (np:=np) (ps:=t::q.ps) (ts:=(st.next,st.fr)::st.ts) (next:=st.next) (aW:=st.aW) (S:=λc=>aL<=c/\c<aM)
   (by simpa [eE] using fu) ((bt.aj λc _ b=> .inr b).trans (aT.aj λc _ b=> .inl b)) dI dJ (by have:=V.dj;simp[this])
   (λc b=>by
    obtain⟨o,H⟩:=b2 c b;by_cases e:q.tp.ag=some c
    ·exact .inl e
    ·have w:J.size<=c:=o.resolve_left e;refine .inr ⟨ce c w,by omega,λC=>?_,λh=>by omega⟩;rcases b3 c C with Y|Y
     ·have:=aQ c Y;rw[ce c w] at this;cases this
     ·omega)
   (λc b=>by
    by_cases e:q.np.ag=some c
    ·exact .inl e
    ·have w:=(b3 c b).resolve_left e;refine .inr ⟨ce c w.1,by omega,λC=>?_,λh=>by omega⟩;have:=(b2 c C).2;omega)
   (λc b=>⟨by have:=bM.ext.size;omega,by have:=aT.size;omega⟩)
   (λi t' p o H=>by
    cases i with
    |zero=>
     simp only[HC,BT] at o H;subst o H;have fx:bS J t st.fr (NQ st.fr) aL aM:=cX.mod a1 λc c1 c2 b=>by
      have aA:=cY c c1;rcases b with b|b
      ·have:=ak.kb c b;rw[aA] at this;cases this
      ·have:=ak.kl;rw[<- b,aA] at this;cases this
     have fy:bS z t st.fr (NQ st.fr) aL aM:=fx.mod bt λc c1 c2 b=>by
      have aA:=cf c c1 c2;rcases b with b|b
      ·have:=a8 c b;rw[aA] at this;cases this
      ·have:=aQ c b;rw[aA] at this;cases this
     refine .inr ⟨aL,aM,fy.mod aT λc c1 c2 b=>?_,by have:=aT.size;omega,λc c1 c2=>⟨⟨c1,c2⟩,cf c c1 c2⟩,bJ⟩;have aA:=cf c c1 c2;rw[b,aS] at aA;cases aA
    |succ i=>exact .inl ⟨i,by simpa using o,by simpa using H⟩)
  have dK: ∀c,MC ap J.size tp np (λc=>aL<=c/\c<aM) c≠0->k c≠0\/h.size<=c:=λc b=>by
   by_cases e:ap c=0
   ·by_cases Z:c<Y.size
    ·exfalso;apply b;unfold MC;rw[if_neg (by simp[e]),if_neg λC=>?_,if_neg λC=>?_,if_neg (by omega)]
     ·rcases b3 c C with bu|bu
      ·have:=aQ c bu;rw[e] at this;cases this
      ·omega
     ·rcases(b2 c C).1 with bu|bu
      ·have:=a8 c bu;rw[e] at this;cases this
      ·omega
    ·exact .inr (by omega)
   ·exact cd c e
  generalize MC ap J.size tp np (λc=>aL<=c/\c<aM)=bv at*
  have fz:Mod (λc=>k c≠0) h aR:=(eh.then (bt.aj λc _ b=>cd c (by
   rcases b with b|b
   ·rw[a8 c b];decide
   ·rw[aQ c b];decide))).then (aT.aj λc _ b=>cd c (by rw[b,aS];decide))
  refine fn _ _ ?_;refine aD (AC.mk (AB a9.cell rfl) (aD (ae.dw a9.cell (by simp) λfA cM fB fC=>aD (ae.dw cM (by simp) λcN b4 fE go=>?_))));have fF:J8 J9 (((st.next:Nat):Int)+(1:Int))=((st.next+1:Nat):Int):=Ab (by omega);have fG:J8 J9 (((st.aw:Nat):Int)+(1:Int))=((st.aw+1:Nat):Int):=Ab (by omega);have b5:Mod (· =q.d) aR cN:=fB.trans fE;have gp: ∀c,tp.ag=some c-> ¬c=q.d:=cL;have fH:=a9.fj (h':=cN) (tp:=tp) (np:=np) (ps:=t::q.ps) (ts:=(st.next,st.fr)::st.ts) (next:=st.next+1) (aW:=st.aw+1) (S:=λ_=>False)
   (by rw[fF,fG] at b4;simpa [eE] using b4) (b5.aj λc _ b=> .inl b) (dI.mod b5 cL) (dJ.mod b5 dH) (by have:=V.dj;simp[this]) (λc b=> .inl b) (λc b=> .inl b) (λc h=>h.elim) (λi t' p o H=> .inl ⟨i,o,H⟩)
  have fI: ∀c,MC bv aR.size tp np (λ_=>False) c≠0->k c≠0\/h.size<=c:=λc b=>by
   by_cases e:bv c=0
   ·exfalso;apply b;unfold MC;rw[if_neg (by simp[e]),if_neg λC=>?_,if_neg λC=>?_,if_neg λh=>h]
    ·have o:bv c=7:=a9.kx c C;rw[e] at o;cases o
    ·have o:bv c=6:=a9.kt c C;rw[e] at o;cases o
   ·exact dK c e
  exact ek cN {q with Sb:=ay,tp:=tp,np:=np,ps:=t::q.ps} _ fH rfl rfl (fz.then (b5.aj λc _ b=>dK c (by
   have o:bv q.d=1:=a9.kd;rw[b,o];decide))) fI
 have cO:=ag.cell;have b6:Own fS BM J q.tp q.ps:=ag.ck;have b7:Own Ib Bp J q.np (eF st):=ag.names;have cP:q.ps.length<=1000000:=by rw[V.dj];omega
 have cQ:(eF st).length<=1000000:=by simp[eF];omega
 have bb: ∀c,q.tp.ag=some c->q.np.ag≠some c:=λc o H=>by
  have:=a8 c o;rw[aQ c H] at this;cases this
 have bw: ∀c,q.tp.ag=some c->c<J.size:=λc b=>b6.lt b
 have bc: ∀c,q.np.ag=some c->c<J.size:=λc b=>b7.lt b
 refine aD (Aa.mk (s:=q.tp) (AB cO rfl) (aD (Aa.mk (s:=q.np) (AB cO rfl) (aD (AC.mk (AB cO rfl) ?_)))));have Q: ∀ {z:aa},Mod (λc=>q.tp.ag=some c\/q.np.ag=some c) J z->z[q.d]? =some (J2 (eE {q with Sb:=ay} {st with aw:=st.aw+1,br:=false} false) FW (0,0)):=λx=>x.ag ag.cell (by
  have aS:ap q.d=1:=ag.kd;rintro(h|h)
  ·have:=a8 _ h;rw[aS] at this;cases this
  ·have:=aQ _ h;rw[aS] at this;cases this)
 refine⟨?_,?_⟩
 ·refine ao.mk λfJ _ dL aU gq=>⟨AB (Q (Ext.mod aU)) rfl,AB (Q (Ext.mod aU)) rfl,AB (Q (Ext.mod aU)) rfl,?_,?_⟩
  ·refine rf (b6.ext aU) dL (λe=>by have:=bw _ e;omega) cP λaF X aG ar aI=>⟨_,rfl,?_⟩
   have U:Mod (λc=>q.tp.ag=some c\/q.np.ag=some c) J X:=(Ext.mod aU).trans (ar.aj λc _ b=> .inl b);refine⟨AB (Q U) rfl,AB (Q U) rfl,ao.mk λfK _ fL bx gr=>⟨AB (Q (U.trans (Ext.mod bx))) rfl,AB (Q (U.trans (Ext.mod bx))) rfl,?_⟩⟩;have bz:Own Ib Bp fK q.np (eF st):=(((b7.ext aU).mod ar λc b e=>bb c e b)).ext bx;refine rh bz fL (λe=>by have:=bc _ e;have:=U.size;omega) cQ λbA bB bC aK bD=>⟨_,rfl,?_⟩
   have dM:=U.size;have bE: ∀c,aF.ag=some c->c<X.size:=λc b=>aG.lt b
   refine cK bB aF bA X.size (((aG.ext bx)).mod aK λc b e=>?_) bC ((U.trans (Ext.mod bx)).trans (aK.aj λc _ b=> .inr b)) (λc b=>⟨(aI c b).imp id λh=>by omega,bE c b⟩) λc b=>(bD c b).imp id λh=>⟨by omega,by omega⟩
   rcases aI c b with o|o
   ·exact bb c o e
   ·have:=bc c e;omega
  ·refine ao.mk λfA _ cM dN fC=>?_
   have bF:=aU.trans dN;refine⟨AB (Q (Ext.mod bF)) rfl,AB (Q (Ext.mod bF)) rfl,?_⟩;refine rf (b6.ext bF) (dN.ag dL λh=>h) (λe=>by have:=bw _ e;omega) cP λaF X aG ar aI=>⟨_,rfl,?_⟩
   have U:Mod (λc=>q.tp.ag=some c\/q.np.ag=some c) J X:=(Ext.mod bF).trans (ar.aj λc _ b=> .inl b);refine⟨AB (Q U) rfl,AB (Q U) rfl,?_⟩;have dM:=U.size;have bz:Own Ib Bp X q.np (eF st):=(b7.ext bF).mod ar λc b e=>bb c e b
   have b4:X[fJ.size]? =some (J2 #[J6 J9 (st.next:Int)] Bp (0,0)):=ar.ag cM (λe=>by have:=bw _ e;omega);refine rh bz b4 (λe=>by have:=bc _ e;omega) cQ λbA bB bC aK bD=>⟨_,rfl,?_⟩
   have bE: ∀c,aF.ag=some c->c<X.size:=λc b=>aG.lt b
   refine cK bB aF bA X.size (aG.mod aK λc b e=>?_) bC (U.trans (aK.aj λc _ b=> .inr b)) (λc b=>⟨(aI c b).imp id λh=>by omega,bE c b⟩) λc b=>(bD c b).imp id λh=>⟨by omega,by omega⟩
   rcases aI c b with o|o
   ·exact bb c o e
   ·have:=bc c e;omega
 ·refine ao.mk λgs _ fM cR gt=>⟨AB (Q (Ext.mod cR)) rfl,AB (Q (Ext.mod cR)) rfl,ao.mk λgu _ fO dO gv=>?_⟩
  have bd:=cR.trans dO;refine⟨AB (Q (Ext.mod bd)) rfl,AB (Q (Ext.mod bd)) rfl,AB (Q (Ext.mod bd)) rfl,?_⟩;refine rf (b6.ext bd) fO (λe=>by have:=bw _ e;omega) cP λaF X aG ar aI=>⟨_,rfl,?_⟩
  have U:Mod (λc=>q.tp.ag=some c\/q.np.ag=some c) J X:=(Ext.mod bd).trans (ar.aj λc _ b=> .inl b);refine⟨AB (Q U) rfl,AB (Q U) rfl,?_⟩;have dM:=U.size;have bz:Own Ib Bp X q.np (eF st):=(b7.ext bd).mod ar λc b e=>bb c e b
  have fP:X[J.size]? =some (J2 #[J6 J9 (st.next:Int)] Bp (0,0)):=ar.ag (dO.ag fM λh=>h) (λe=>by have:=bw _ e;omega);refine rh bz fP (λe=>by have:=bc _ e;omega) cQ λbA bB bC aK bD=>⟨_,rfl,?_⟩
  have bE: ∀c,aF.ag=some c->c<X.size:=λc b=>aG.lt b
  refine cK bB aF bA X.size (aG.mod aK λc b e=>?_) bC (U.trans (aK.aj λc _ b=> .inr b)) (λc b=>⟨(aI c b).imp id λh=>by omega,bE c b⟩) λc b=>(bD c b).imp id λh=>⟨by omega,by omega⟩
  rcases aI c b with o|o
  ·exact bb c o e
  ·have:=bc c e;omega
end
def GX:List Pr->Int
 | []=>0
 |x::l=>if Ag x≠0 then Ag x else GX l
def Eo(l:List Pr):Int:=if l.length=0 then 1 else if l.length>64 then 2 else GX l
theorem zQ: ∀ {l:List Pr},GX l=0->BL l
 | [],_=>AJN
 |x::l,a=>by
  unfold GX at a;split at a
  ·rename_i b;exact absurd a b
  ·rename_i b;intro d c;rcases List.mem_cons.1 c with rfl|c
   ·exact Decidable.not_not.1 b
   ·exact zQ a d c
theorem zR {l:List Pr}(a:Eo l=0):Yw l/\BL l/\l≠ []:=by
 unfold Eo at a;split at a
 ·cases a
 ·rename_i b;split at a
  ·cases a
  ·rename_i e;have:=zQ a;exact⟨⟨by omega,λx c=>pg (this x c)⟩,this,λd=>b (by rw[d];rfl)⟩
theorem AHg {l:List Pr}{i:Nat}{x:Pr}(a:l[i]? =some x)(d:GX (l.take i)=0):GX l=if Ag x≠0 then Ag x else GX l:=by
 split
 ·rename_i e
  induction l generalizing i with
  |nil=>simp at a
  |cons f l g=>
   cases i with
   |zero=>
    simp at a;subst a;unfold GX;rw[if_pos e]
   |succ i=>
    have b:GX (f::l.take i)=0:=d;unfold GX at b ⊢;split at b
    ·rename_i c;exact absurd b c
    ·rename_i c;rw[if_neg c];exact g (by simpa using a) b
 ·rfl
theorem zS: ∀ {l:List Pr} {x:Pr},GX l=0->Ag x=0->GX (l++ [x])=0
 | [],x,_,b=>by show GX [x]=0;unfold GX;rw[if_neg (by simp[b])];rfl
 |y::l,x,b,d=>by
  have a:GX (y::l)=0:=b;show GX (y::(l++ [x]))=0;unfold GX at a ⊢;split at a
  ·rename_i c;exact absurd a c
  ·rename_i c;rw[if_neg c];exact zS a d
theorem zT {Q:al}{h:aa}{s:Sl}{l:List Pr}{n:A2L}(v:View BO h s l)(j: ∀B,Ext h B->n (J6 J9 (Eo l)) B):AA Q P Pw #[J4 s.p s.len s.cap] h n:=by
 refine AHG ?_;unfold vA;rw[v.len];refine af.intro (λe=>?_) (λe=>?_)
 ·have o:l.length=0:=by have:((l.length:Nat):Int)=0:=(by simpa using e);omega
  have:=j h Mod.refl;unfold Eo at this;rwa [if_pos o] at this
 have o:l.length≠0:=λf=>by rw[f] at e;cases e
 refine af.intro (λe=>?_) (λe=>?_)
 ·have u:l.length>64:=by have:=of_decide_eq_true e;omega
  have:=j h Mod.refl;unfold Eo at this;rwa [if_neg o,if_pos u] at this
 have u: ¬l.length>64:=by have:=of_decide_eq_false e;omega
 have R:Eo l=GX l:=by unfold Eo;rw[if_neg o,if_neg u]
 rw[R] at j;refine Loop.rule (λC x d=> ∃i:Nat,x=((i:Int),())/\C=l.length-i/\i<=l.length/\Ext h d/\GX (l.take i)=0) ?_ ⟨0,rfl,rfl,by omega,Mod.refl,rfl⟩;rintro K C _ d ⟨i,rfl,rfl,Z,w,q⟩ S;dsimp only;refine af.intro (λe=>?_) (λe=>?_)
 ·have r:i<l.length:=by have:=of_decide_eq_true e;omega
  have ah:l[i]? =some l[i]:=A2 r;rw[<- v.len];refine(v.ext w).idx ah λa _ c=>?_
  obtain⟨T,c1,c2⟩:=c.pair;refine AJ.mk T (AJ.mk c1 (AZ.mk c2 (ao.pair λb k _ m U ab=>?_)));have y:=w.trans U;generalize l[i]=p at*
  have D:=AHg ah q;refine ai.mk λE F=>?_
  have V:Ag p=1-> ∀d,Ext h d->n (J6 J9 1) d:=λf d x=>by
   have:=j d x;rw[D,if_pos (by rw[f];decide),f] at this;exact this
  have W:Ag p=2-> ∀d,Ext h d->n (J6 J9 2) d:=λf d x=>by
   have:=j d x;rw[D,if_pos (by rw[f];decide),f] at this;exact this
  have z:Ag p=if(decide (p.key=⟨#[]⟩)||(p.gone&& !decide (p.val=⟨#[]⟩))) then 1 else if(decide (p.key.size>64)||decide (p.val.size>8192)) then 2 else 0:=rfl;have G:(decide (p.key=⟨#[]⟩)||(p.gone&& !decide (p.val=⟨#[]⟩)))=true->E (true,()) k:=λf=>F _ _ (af.yes rfl (V (by rw[z,if_pos f]) k y))
  have H:(decide (p.key=⟨#[]⟩)||(p.gone&& !decide (p.val=⟨#[]⟩)))=false->E (false,()) k:=λf=>F _ _ (af.no rfl (by
   refine ai.mk λI J=>?_
   have L:(decide (p.key.size>64)||decide (p.val.size>8192))=true->I (true,()) k:=λA=>J _ _ (af.yes rfl (W (by rw[z,if_neg (by rw[f];decide),if_pos A]) k y))
   have X:(decide (p.key.size>64)||decide (p.val.size>8192))=false->I (false,()) k:=λA=>J _ _ (af.no rfl (by
    have Y:Ag p=0:=by rw[z,if_neg (by rw[f];decide),if_neg (by rw[A];decide)]
    rw[Ab (by omega)];refine S (l.length-(i+1)) _ _ (by omega) ⟨i+1,rfl,rfl,r,y,?_⟩;rw[AD,ah];exact zS q Y))
   refine AJ.mk (AL m rfl) (af.intro (λg=>?_) (λg=>?_))
   ·have M:p.key.size>64:=by have:=of_decide_eq_true g;omega
    exact L (by simp[M])
   ·have M: ¬p.key.size>64:=by have:=of_decide_eq_false g;omega
    refine AJ.mk (AB m rfl) ?_;by_cases N:p.val.size>8192
    ·rw[decide_eq_true (show((p.val.size:Int)>(8192:Int)) by omega)];exact L (by simp[N])
    ·rw[decide_eq_false (show ¬((p.val.size:Int)>(8192:Int)) by omega)];exact X (by simp[N];omega)))
  refine AJ.mk (AL m rfl) ?_;rw[Cn];refine af.intro (λg=>?_) (λg=>?_)
  ·exact G (by rw[g];rfl)
  ·refine AZ.mk (AB m rfl) (af.intro (λt=>?_) (λt=>?_))
   ·refine AJ.mk (AB m rfl) ?_;rw[Cn];cases O:decide (p.val=(⟨#[]⟩:A2M)) with
    |true=>exact H (by rw[g,t,O];rfl)
    |false=>exact G (by rw[g,t,O];rfl)
   ·exact H (by rw[g,t];rfl)
 ·have r:i=l.length:=by have:=of_decide_eq_false e;omega
  subst r;rw[Bm] at q;have:=j d w;rwa [q] at this
theorem zU {e:bP}{D:Bn}(h:BJ e D){s:Nat}(f:s<=99999999){b:List Pr}(j:Yw b): ∀d∈(D.L s).map (BZ s)++ [BZ s b],d.length<=1048576:=λd a=>by
 rcases List.mem_append.1 a with a|a
 ·obtain⟨c,i,rfl⟩:=List.mem_map.1 a;have:=Zn f (h.fX s c i);omega
 grind [List.mem_singleton,Zn]
theorem AJi(a:List (List UInt8))(b:List UInt8):aI (a++ [b])=aI a++Ca b:=by simp
theorem AJk {i j:bP}{D:Bn}{s:Nat}{b:List Pr}(h:BJ i D)(n:1<=s/\s+1<=99999999)(l:Yw b)(d: ∀e,j e=if e=aC nl s then some (AX (aI ((D.L s).map (BZ s)++ [BZ s b])),bq) else i e):BJ j (TV D s b):=by
 refine AQ5 h n l (λf _ _ o=> .inl ?_) (λf _ _=> .inl ?_) (λf=> .inl ?_) (λe p r=>?_) ⟨_,by rw[d,if_pos rfl],?_⟩
 ·rw[d,if_neg λa=>o (Iz a)]
 ·rw[d,if_neg λa=>Wj s f a.symm]
 ·rw[d,if_neg λa=>MQ s f a.symm]
 ·simp_all
 ·rw[EJ,C2];have:=R4 (rs:=(D.L s).map (BZ s)++ [BZ s b]) (zU h (by omega) l) (t:= []) Uf;rw[AK] at this;exact this
theorem AKK {j F1 G:bP}{D:Bn}{s:Nat}{b:List Pr}(h:BJ j D)(z:1<=s/\s+1<=99999999)(C:Yw b)(o: ∀e,F1 e=if e=aC nl s then some (AX (aI ((D.L s).map (BZ s))),AX (Ca (BZ s b))) else j e)(c:Mm F1 G):
  BJ G {D with aP:=max D.aP (s+1)}\/BJ G (TV D s b):=by
 have E: ∀a,1<=a->a<=99999999->a≠s->N8 (j (aC nl a)) (G (aC nl a)):=λa l n t=>by
  have d:F1 (aC nl a)=j (aC nl a):=by rw[o,if_neg λd=>t (Iz d)]
  have:=c.bZ (x:=aC nl a) λp w=>(h.log.has a p l n (d▸w)).1
  rwa [d] at this
 have F: ∀a,1<=a->a<=99999999->N8 (j (aC nn a)) (G (aC nn a)):=λa l n=>by
  have d:F1 (aC nn a)=j (aC nn a):=by rw[o,if_neg λd=>Wj s a d.symm]
  have:=c.bZ (x:=aC nn a) λp w=>(h.note.has a p l n (d▸w)).1
  rwa [d] at this
 have ft: ∀a,F1 (aX a)=j (aX a):=λa=>by rw[o,if_neg λd=>MQ s a d.symm]
 have H: ∀a∈(Aq D).names,G (aX a)=some (AX (Jy (D.T a)),bq)/\Hl (D.T a):=λa N=>by
  obtain⟨O,I⟩:=h.cS a N;have:=c.bZ (x:=aX a) λp w=>by grind
  rw[ft] at this;exact⟨Vk this I O,I⟩
 have J: ∀e,(∀ a,e≠aC nl a)->G e≠none->j e≠none:=λe u P Q=>P (by
  have:=c e;rw[o,if_neg (u s),Q] at this;exact this)
 have K:=c (aC nl s);rw[o,if_pos rfl] at K;obtain⟨S,y⟩:=K;have i:=zM (rs:=(D.L s).map (BZ s)) (r:=BZ s b) (zU h (by omega) C) S;have L:(G (aC nl s)=none/\(D.L s).map (BZ s)= []\/ ∃e,G (aC nl s)=some (e,bq)/\Ni (bl e) ((D.L s).map (BZ s)))->BJ G {D with aP:=max D.aP (s+1)}:=λT=>by
  refine⟨?_,h.note.aS h.cz.2.2.1 F,H,h.fX,h.dM,λe u hd=>h.dp e (J e (λa d=>by grind [RN]) u) hd,by have:=h.cz;refine⟨?_,?_,this.2.2.1,this.2.2.2⟩<;>simp only[]<;>omega⟩;have:=h.log.put (G:=G) (fq:=max D.aP (s+1)) (s:=s) (v:=(D.L s).map (BZ s)) ⟨z.1,by omega⟩ (by omega) (λa l n t=>E a l n t) T (by omega);have d:(Kv (λa=>(D.L a).map (BZ a)) s ((D.L s).map (BZ s)))=λa=>(D.L a).map (BZ a):=by
   funext a
   grind [EQ,GQ]
  rw[d] at this;exact this
 split at y
 ·rename_i U;left;refine L (.inl ⟨y,?_⟩);rw[U] at i;have M: ∀rs,Ni (bl bq) rs->rs= []:=λrs V=>sy V
  rcases i with i|i
  ·exact M _ i
  ·have:=M _ i;simp at this
 ·rcases i with i|i
  ·exact .inl (L (.inr ⟨_,y,i⟩))
  ·right;have W:(D.L s++ [b]).map (BZ s)=(D.L s).map (BZ s)++ [BZ s b]:=by rw[C2];rfl
   refine⟨?_,h.note.aS h.cz.2.2.1 F,H,λa x f=>?_,h.dM,λe u hd=>h.dp e (J e (λa d=>by grind [RN]) u) hd,by have:=h.cz;refine⟨?_,?_,this.2.2.1,this.2.2.2⟩<;>simp only[TV]<;>omega⟩
   ·have:=h.log.put (G:=G) (fq:=max D.aP (s+1)) (s:=s) (v:=(D.L s++ [b]).map (BZ s)) ⟨z.1,by omega⟩ (by omega) (λa l n t=>E a l n t) (.inr ⟨_,y,by rw[W];exact i⟩) (by omega);have d:(Kv (λa=>(D.L a).map (BZ a)) s ((D.L s++ [b]).map (BZ s)))=λa=>((TV D s b).L a).map (BZ a):=by
     funext a;show _=(Kv D.L s (D.L s++ [b]) a).map (BZ a)
     grind [EQ,GQ]
    rw[d] at this;exact this
   ·by_cases d:a=s
    ·have f:x∈Kv D.L s (D.L s++ [b]) a:=f;rw[d,EQ] at f;rcases List.mem_append.1 f with f|f
     ·exact h.fX s x f
     ·rw[List.mem_singleton.1 f];exact C
    ·have f:x∈Kv D.L s (D.L s++ [b]) a:=f;rw[GQ d] at f;exact h.fX a x f
theorem ASt {b:bP}{D:Bn}(h:BJ b D){t:Nat}(d:D.aP<=t):Ig {D with aP:=t}=Ig D:=by
 unfold Ig;exact UN d λa e _=>by
  show(if a<(Aq D).aW then [] else D.L a)= [];split
  ·rfl
  ·exact h.gM (.inr e)
section
variable {A : al} {B : cu} {g h : aa} {q : Hp} {k : Nat -> Nat} {st : Db} {m : Bx} {D : Bn} {aH c : Nat} {R : A2L}
theorem ASu(a:bL g h q k st m)(b:R (J6 J9 (st.aw:Int)) h):AA A P JA #[Ar q.lg] h R:=by refine Ow ?_;unfold ME;exact af.no rfl (aD (AC.mk (AB a.log rfl) b))
theorem AJy(a:Nat):600000<=20000*a+10000000:=by omega
theorem cu.up(B:cu){d a:Nat}{b:Nat}(e:a<=b)(h:d<=B.W0+a*B.K):d<=B.W0+b*B.K:=AG h (KK (AN _ e) _)
structure mY (st bH:Db) (l:List Pr):Prop where
 map:Cr bH=cq (Cr st) l
 full:4096<=M.El (Ay st.fr l)->bH.fr= []/\(bH.ts.length<=3\/bH.ts.length=st.ts.length)
 less:M.El (Ay st.fr l)<4096->bH.fr=Ay st.fr l/\bH.ts=st.ts
theorem zV {s:Sl}{l:List Pr}(ap:cy g)(bs:Bq B g h q k st m D aH c)(hA:aH+3<=B.A)(ab:View BO h s l)(aq:l≠ []-> ∀b,s.ag=some b->b<h.size/\k b=0)(aG:Eo l=0->c+l.length<=B.C)
  (bt:Eo l≠0-> ∀o,Ext h o->R (J6 J9 (Eo l)) o)
  (a4:Eo l=0-> ∀o v,pa B h o q k m v (aH+3)->(∀ G,Mm (ff v) G->Rec G (aH+3) (c+l.length) (Cr st)\/Rec G (aH+3) (c+l.length) (cq (Cr st) l))->R (J6 J9 30) o)
  (bu:Eo l=0-> ∀o v,pa B h o q k m v (aH+3)->kC (ff v) (aH+3) (c+l.length) (cq (Cr st) l)->R (J6 J9 0) o)
  (a5:Eo l=0-> ∀o ac ar bH v aJ,ac.d=q.d->ac.b=q.b->Bq B g o ac ar bH v aJ (aH+3) (c+l.length)->Jk m v->mY st bH l->(∀ n,¬cG n->ff v n=ff m n)->Mod (λc=>k c≠0) h o->(∀ c,ar c≠0->k c≠0\/h.size<=c)->R (J6 J9 0) o):
  AA A P Ld #[Ar q.d,J4 s.p s.len s.cap] h R:=by
 obtain⟨V,hd,L,w,aK,e⟩:=bs;have cw:=B.hA;have cx:=B.hC;have bv:=B.wt (a:=aH) (by omega);have cz:=w.aw;have cB:=L.eT;have cC:=w.aP;refine ABi ?_;unfold UZ;refine ai.mk λK bw=>Zf V (bw _ _ (af.no rfl ?_))
 refine zT ab λbx ad=>⟨_,rfl,?_⟩
 refine af.intro (λQ=>bt (by simpa using Q) bx ad) (λQ=>?_);have S:Eo l=0:=by simpa using Q
 obtain⟨E,bz,ae⟩:=zR S
 replace aq:=aq ae
 replace aG:=aG S
 have W:=V.on ad;refine aD (AY.mk (AB W.cell rfl) (aD (AY.mk (AB W.cell rfl) ?_)));refine ASu W ⟨_,rfl,⟨AB W.cell rfl,?_⟩⟩;refine APS (by omega) E.len E.ok (ab.ext ad) (λb E=>by have:=(aq b E).1;have:=ad.size;omega) λX aL=>⟨_,rfl,⟨AB (W.on aL).cell rfl,?_⟩⟩
 have N:=W.on aL;have aM:=ad.trans aL;have cD:=aM.size;have cE:=Zn (s:=st.aw) (by omega) E;have au:(AX (BZ st.aw l)).size=(BZ st.aw l).length:=AP _;refine zj (N.im ap) N.log N.box N.lL (λo x=>N.gg ap (x.aj λc _ e=> .inl e)) (by decide) (by omega) (by rw[au];omega) (AG aK bv) λav p aw ax aN a6=>⟨_,rfl,?_⟩
 rw[show bl (AX (BZ st.aw l))=BZ st.aw l from EJ _] at aw ax ⊢;have bA:=VY V.box.aR (aC nl st.aw) (AX (Ca (BZ st.aw l)));have cF:=(Jh (r:=BZ st.aw l) (by omega)).2;rw[AP] at bA;have a7: ∀c,p c->q.Sb c\/X.size<=c:=λc e=>(a6 c e).imp id λh=>h.1
 have bB:((ff m (aC nl st.aw)).getD (bq,bq))=(AX (aI ((D.L st.aw).map (BZ st.aw))),bq):=by
  cases a8:st.br with
  |true=>rw[L.jF a8];rfl
  |false=>
   have a9:=L.gL st.aw (A0 _) (by omega) (by rw[a8];simp);rw[a9,L.ok.jH (by omega) a9];rfl
 have bb: ∀f,st.aw<f->D.L f= []:=λf y=>L.sZ w (by omega) y
 have bc:1<=st.aw/\st.aw+1<=99999999:=⟨by omega,by omega⟩;have bd:(Aq D).aW<=st.aw:=by rw[L.aW];exact L.eT.2
 obtain⟨bC,bD⟩:=APd L.ok bd bb E;have bE:=AFZ L.ok (b:=l) bd bb;have be:OT (TV D st.aw l)=OT D+l.length:=by
  unfold OT;rw[bE,N5,A1];have:(Aq (TV D st.aw l)).names.map (λf=>((TV D st.aw l).T f).length)=(Aq D).names.map λf=>(D.T f).length:=rfl
  rw[this];simp;omega
 have bF: ∀ {F':bP},(∀ f,F' (aX f)≠none->ff m (aX f)≠none)-> ∀f,F' (aX f)≠none->f<8*aH+8:=λbG f y=>by
  have:=L.fJ w (bG f y);have:=w.next;omega
 have bI: ∀ {bf:Nat},bf<=B.W0+(aH+1)*B.K->bf<=B.W0+(aH+3)*B.K:=λh=>B.up (by omega) h
 rcases SC (k:=aC nl st.aw) (d:=AX (Ca (BZ st.aw l))) hd (zl (by decide) (by omega)) with⟨aO,aQ⟩|⟨aQ,aR,bJ⟩
 ·rw[aQ] at aw ⊢;refine af.yes rfl ?_;refine Jr N aw (aN.aj λc _ e=>e.imp id .inl) a7 λbK bM bN bO bQ=>⟨_,rfl,?_⟩
  refine a4 S bK (Ng m) ⟨by rw[aO];decide,bM,⟨p,bN,λc e=>(bQ c e).imp id λh=>by omega⟩,rfl,(Ext.mod aM).trans bO,λ_ _=>rfl,B.up (by omega) aK⟩ λG ay=> .inl ?_
  exact(L.pF w G ay).mono (by omega) (by omega)
 rw[aQ] at ax ⊢;refine af.no rfl ?_;rw[decide_eq_true rfl,HL] at ax;generalize (CS m (aC nl st.aw) (AX (Ca (BZ st.aw l)))).2=z at*
 have ag: ∀n,ff z n=if n=aC nl st.aw then some (AX (aI ((D.L st.aw).map (BZ st.aw))),AX (Ca (BZ st.aw l))) else ff m n:=λn=>by
  rw[bJ,bB];simp only[Mh]
 have cI: ¬p q.lg:=λe=>by
  rcases a6 _ e with h|h
  ·exact N.lL h
  ·exact h.2 rfl
 have H:=N.boxed (j:=3) (bH:= {st with br:=true}) aw (aN.aj λc _ e=>e.imp id λh=> .inl ⟨rfl,h⟩) a7 rfl rfl rfl rfl (.inr ax) (.inl ⟨by decide,rfl⟩);have bR:Grow k (Js k X.size p 2) X.size:=sJ;have az: ∀c,Js k X.size p 2 c≠0->k c≠0\/h.size<=c:=λc e=>by
  by_cases aj:c<X.size
  ·rw[bR c aj] at e;exact .inl e
  ·exact .inr (by omega)
 generalize Js k X.size p 2=bg at*
 have aA:Mod (λc=>k c≠0) h av:=(Ext.mod aM).trans (aN.aj λc _ e=>by
  rcases e with e|e
  ·rw[V.kb c e];decide
  ·rw[e,V.kl];decide)
 refine aD (AY.mk (AB H.cell rfl) ?_);refine zk (H.im ap) H.log H.box H.lL (by decide) (by show st.aw<=_;omega) λaS ak cJ aT=>⟨_,rfl,?_⟩
 have bS:ff z (aC nl st.aw)=some (AX (aI ((D.L st.aw).map (BZ st.aw))),AX (Ca (BZ st.aw l))):=by rw[ag,if_pos rfl]
 have ak:Ce aS q.b p (FY z (aC nl st.aw)).2:=ak;have bT:=YW H.box.aR (aC nl st.aw);have bh:ba z.files<=B.W0+(aH+1)*B.K:=B.step (d:=600000) aK (by omega) (AJy B.C);show af ((FY z (aC nl st.aw)).1 != 0) _ _;rcases Ot aR.up bS with⟨aO,al⟩|⟨al,bU,bV⟩
 ·rw[al] at ak;have bW:NS z (aC nl st.aw) true=(30,Ng z):=al;rw[al];refine af.yes rfl ?_;show AA A P Cj #[_,J6 J9 (NS z (aC nl st.aw) true).1] aS _;rw[bW];refine Jr (q:= {q with Sb:=p}) H ak (aT.aj λc _ e=> .inl e) (λc e=> .inl e) λbX bY bZ b0 b1=>⟨_,rfl,?_⟩
  refine a4 S bX (Ng z) ⟨(λI=>by have:=aR.calm I;rw[aO] at this;cases this),bY,⟨p,bZ,λc e=>?_⟩,rfl,aA.then (b0.aj λc _ e=>az c e),λn u=>?_,bI bh⟩ λG ay=>?_
  ·rcases b1 c e with F|F
   ·exact az c F
   ·exact .inr (by have:=aA.size;omega)
  ·rw[px,ag,if_neg (pd u _)]
  ·have b2: ∀f,G (aX f)≠none->ff m (aX f)≠none:=λf y=>by
    have F:ff z (aX f)≠none:=ay.some y;rwa [ag,if_neg λJ=>MQ _ f J.symm] at F
   have C:=L.jI w (F':=G) (bF b2);rcases AKK L.ok bc E (F1:=ff (Ng z)) ag ay with aU|aU
   ·left;have au:=ASt L.ok (t:=max D.aP (st.aw+1)) (by omega);have em:cH {D with aP:=max D.aP (st.aw+1)}=cH D:=by unfold cH Ey;rw[au];rfl
    have b3:OT {D with aP:=max D.aP (st.aw+1)}=OT D:=by unfold OT;rw[au];rfl
    refine⟨_,aU,⟨by show max D.aP (st.aw+1)<=_;omega,by have:=C.aY;show D.aY<=_;omega,by have:=C.next;show(Aq D).next<=_;omega,by have:=C.aW;show(Aq D).aW<=_;omega,by have:=C.ct;show(Aq D).names.length<=_;omega,by rw[b3];have:=C.bY;omega,λf y=>by have:=C.nD f y;omega⟩,by rw[em];exact L.map⟩
   ·right;refine⟨_,aU,⟨by show max D.aP (st.aw+1)<=_;omega,by have:=C.aY;show D.aY<=_;omega,by have:=C.next;show(Aq D).next<=_;omega,by have:=C.aW;show(Aq D).aW<=_;omega,by have:=C.ct;show(Aq D).names.length<=_;omega,by rw[be];have:=C.bY;omega,λf y=>by have:=C.nD f y;omega⟩,by rw[bD,L.map]⟩
 rw[al];refine af.no rfl ?_;generalize (FY z (aC nl st.aw)).2=O at*
 have Y: ∀n,ff O n=if n=aC nl st.aw then some (AX (aI ((D.L st.aw).map (BZ st.aw)++ [BZ st.aw l])),bq) else ff m n:=λn=>by
  rw[bV];by_cases u:n=aC nl st.aw
  ·rw[if_pos u,if_pos u];simp only[Ao,AJi]
  ·rw[if_neg u,if_neg u,ag,if_neg u]
 have b4:=AJk L.ok bc E Y;have b5:=H.boxed (j:=2) (bH:= {st with br:=true}) ak (aT.aj λc _ e=> .inl e) (λc e=> .inl e) rfl rfl rfl rfl (.inl ⟨by decide,rfl,rfl⟩) (.inl ⟨by decide,rfl⟩);have b6:Mod (λc=>k c≠0) h aS:=aA.then (aT.aj λc _ e=>az c (by rw[H.kb c e];decide));have b7: ∀c,Js bg av.size p 2 c≠0->k c≠0\/h.size<=c:=λc e=>by
  by_cases aj:c<av.size
  ·rw[Gd aj] at e;exact az c e
  ·exact .inr (by have:=aA.size;omega)
 generalize Js bg av.size p 2=b8 at*
 have aE:Jk m O:=aR.trans bU;have cK:=L.dq w;have cL:=E.len;refine Loop.rule (λbi x I=> ∃(i:Nat) (am:List M.DT) (an:Nat->Nat),x=((i:Int),())/\bi=l.length-i/\i<=l.length/\bL g I {q with Sb:=p,ns:=am} an {st with br:=true,fr:=Ay st.fr (l.take i)} O/\Mod (λc=>k c≠0) h I/\(∀ c,an c≠0->k c≠0\/h.size<=c)) ?_
  ⟨0,q.ns,b8,rfl,rfl,A5 _,b5,b6,b7⟩
 rintro cM bi _ I ⟨i,am,an,rfl,rfl,cN,Z,aa,T⟩ bj;dsimp only;have b9:=ab.mod aa λb E ae=>ae (aq b E).2
 have cO:=aa.size;refine af.intro (λQ=>?_) (λQ=>?_)
 ·have aF:i<l.length:=by have:=of_decide_eq_true Q;have:=ab.len;omega
  have ah:l[i]? =some l[i]:=A2 aF;refine b9.idx ah λa _ ca=>?_
  obtain⟨cb,c1,c2⟩:=ca.pair;refine AJ.mk cb (AJ.mk c1 (AZ.mk c2 (ao.pair λb cc _ aV bk cP=>?_)));have aW:=Z.on bk;refine aD (AY.mk (AB aW.cell rfl) ?_);refine AJ.mk (AL aV rfl) (AJ.mk (AB aV rfl) (AZ.mk (AB aV rfl) ?_));have cd:=M.RQ (l:=l.take i) (t:=st.fr);rw[An] at cd;refine M.tf (x:=l[i]) aW.fresh (by show(Ay st.fr (l.take i)).length<_;omega) λce cQ cf bm cg=>⟨_,rfl,?_⟩
  have ch:=aW.pG cf bm cg;rw[Ab (by omega)];refine bj (l.length-(i+1)) _ _ (by omega) ⟨i+1,ce,_,rfl,rfl,aF,by rw[M.th ah];exact ch,(aa.trans (Ext.mod bk)).then (bm.aj λc _ e=>T c (by rw[Z.kf c e];decide)),λc e=>?_⟩;by_cases aj:c<cc.size
  ·rw[Gd aj] at e;exact T c e
  omega
 have aF:i=l.length:=by have:=of_decide_eq_false Q;have:=ab.len;omega
 subst aF;rw[Bm] at Z;clear bj;have aY:Cr {st with br:=true,fr:=Ay st.fr l}=cq (Cr st) l:=ABA V.gb bz;have ci:Ei (ff O) {st with br:=true,fr:=Ay st.fr l} (TV D st.aw l):=
  ⟨b4,L.names,L.ck,L.aW,L.next,L.below,by rw[bC,<-L.fr],λf aZ a0 ae=>by
   have bn:f≠st.aw:=ae rfl;rw[Y,if_neg λJ=>bn (Iz J)];exact L.gL f aZ a0 λ_=>bn,λ_=>by
   show ff O (aC nl st.aw)=some (AX (aI ((Kv D.L st.aw (D.L st.aw++ [l]) st.aw).map (BZ st.aw))),bq);rw[Y,if_pos rfl,EQ,C2];rfl,λf aZ a0=>by
   rw[Y,if_neg λJ=>Wj _ f J.symm];exact L.jE f aZ a0,L.eT,L.aJ,λf y=>by
   rw[Y,if_neg λJ=>MQ _ f J.symm] at y;exact L.clean f y⟩
 have cj:TR {st with br:=true,fr:=Ay st.fr l} (TV D st.aw l) (aH+1) (c+l.length):=
  ⟨by show st.aw<=_;omega,by have:=w.aJ;show st.aJ<=_;omega,by have:=w.next;show st.next<=_;omega,by have:=w.ct;show st.ts.length<=_;omega,by rw[be];have:=w.bY;omega,by show max D.aP (st.aw+1)<=_;omega,by have:=w.aY;show D.aY<=_;omega⟩
 have bo:Bq B g I {q with Sb:=p,ns:=am} an {st with br:=true,fr:=Ay st.fr l} O (TV D st.aw l) (aH+1) (c+l.length):=
  ⟨Z,aE.up,ci,cj,AG bT bh,aG⟩
 have a1: ∀n,¬cG n->ff O n=ff m n:=λn u=>by rw[Y,if_neg (pd u _)]
 refine ai.mk λcR a2=>?_
 refine aD (AY.mk (AB Z.cell rfl) ?_);refine M.ta Z.fresh ⟨_,_,rfl,?_⟩;refine af.intro (λa3=>?_) (λa3=>?_)
 ·have cS:4096<=M.El (Ay st.fr l):=by have:=of_decide_eq_true a3;have J:M.El ({st with br:=true,fr:=Ay st.fr l}:Db).fr=M.El (Ay st.fr l):=rfl;omega
  refine APo (q:= {q with Sb:=p,ns:=am}) ap bo (by omega) (λo v U bp=>⟨_,rfl,a2 _ _ ?_⟩) λo ac ar bH v aJ ck cl S' cm cn co cp cr cs ct=>⟨_,rfl,a2 _ _ ?_⟩
  ·rw[aY] at bp;obtain⟨S',cu,cv⟩:=U.box;refine bu S o v ⟨λI=>U.fuel (aE.calm I),U.dn,⟨S',cu,λc e=>?_⟩,U.down,aa.then (U.mod.aj λc _ e=>T c e),λn u=>(U.dQ n u).trans (a1 n u),U.wt⟩ bp;rcases cv c e with F|F
   ·exact T c F
   ·exact .inr (by omega)
  ·refine a5 S o ac ar bH v aJ ck cl S' (aE.trans cm) ⟨co.trans aY,λ_=>⟨cn,cp⟩,λh=>absurd h (by omega)⟩ (λn u=>(cr n u).trans (a1 n u)) (aa.then (cs.aj λc _ e=>T c e)) λc e=>?_
   rcases ct c e with F|F
   ·exact T c F
   ·exact .inr (by omega)
 ·have cT:M.El (Ay st.fr l)<4096:=by have:=of_decide_eq_false a3;have J:M.El ({st with br:=true,fr:=Ay st.fr l}:Db).fr=M.El (Ay st.fr l):=rfl;omega
  refine a2 _ _ ?_;exact a5 S I {q with Sb:=p,ns:=am} an _ O _ rfl rfl (bo.aH (by omega)) aE ⟨aY,λh=>absurd h (by omega),λ_=>⟨rfl,rfl⟩⟩ a1 aa T
end
theorem zW: ∀(l:List UInt8) (a:Nat),mK l->Ti a l<=999999999999->Lib.parseUint10 a l= .ok (Ti a l)
 | [],a,_,_=>rfl
 |c::l,a,hd,b=>by
  have h:Ti a (c::l)=Ti (a*10+(c.toNat-48)) l:=rfl;rw[h] at b ⊢;have d:=hd c (by simp);have f:=rq l (a*10+(c.toNat-48));unfold Lib.parseUint10;rw[if_pos d,if_neg (by omega),if_neg (by omega)];exact zW l _ (λx e=>hd x (AH _ e)) b
theorem APU {a:Nat}(i:a<=999999999999):Lib.atoiAll (Lib.decDigits a)= .ok (a:Int):=by
 obtain⟨b,d⟩:=Zh a;cases e:Lib.decDigits a with
 |nil=>
  have:=congrArg List.length e;rw[Lib.decDigits_length] at this;have:=Lib.nDigits_pos a;simp at *;omega
 |cons c j=>
  rw[e] at b d;have o:=b c (by simp);have f:=zW (c::j) 0 b (by rw[d];exact i);rw[d] at f;unfold Lib.atoiAll;simp only[];have l: ¬(c.toNat=43\/c.toNat=45):=by omega
  have n: ¬c.toNat=45:=by omega
  rw[if_neg l];unfold Lib.parseMag;rw[if_neg (by simp),f];simp only[n,not_false_eq_true,true_and,false_and,if_false];rw[if_neg (by omega)]
theorem AQz {A:al}{h:aa}{a:Nat}{R:A2L}(f:a<=999999999999)(d: ∀e,Ext h e->R (J1 #[J6 J9 (a:Int),.nilIface]) e):AA A P Ux #[J7 (AX (Lib.decDigits a))] h R:=by
 intro m;have i:(Lib.decDigits a).length<=20:=by rw[Lib.decDigits_length];exact Lib.nDigits_le20 a (by omega)
 refine Calls.mono (Proofs.Any.strconv_Atoi_ok Proofs.Tryz.gJ (AX (Lib.decDigits a)) (by rw[AP];omega) (a:Int) (by rw[show(AX (Lib.decDigits a)).data.toList=Lib.decDigits a from BX _];exact APU f) (A.at h m)) ?_;rintro j l ⟨rfl,c|⟨t,c⟩⟩
 ·subst c;exact⟨_,rfl,h,m,rfl,d h Mod.refl⟩
 ·subst c;refine⟨_,rfl,_,_,rfl,d _ ?_⟩;refine⟨?_,λb n _=>?_⟩
  ·simp[Lib.bytesWorld,World.freeze,World.alloc,World.drew,al.at]
  ·simp[Lib.bytesWorld,World.freeze,World.alloc,World.drew,al.at,GO,Array.getElem?_push];rw[if_neg (by omega),if_neg (by omega)]
theorem AIm {A:al}{h:aa}{s:Sl}{l:List Int}{v:Int}{R:A2L}(d:View Ib h s l)(t:l.length<=1000000)(n:R (J3 (decide (v∈l))) h):AA A P Eu #[J4 s.p s.len s.cap,J6 J9 v] h R:=by
 refine MH ?_;unfold G7;refine Na ?_;unfold I6;refine Loop.rule (λo x p=> ∃i:Nat,x=((i:Int),())/\o=l.length-i/\i<=l.length/\p=h/\v∉l.take i) ?_ ⟨0,rfl,rfl,A5 _,rfl,by simp⟩;rintro K o _ _ ⟨i,rfl,rfl,u,rfl,e⟩ r;dsimp only;rw[d.len];refine af.intro (λf=>?_) (λf=>?_)
 ·have b:i<l.length:=by have:=of_decide_eq_true f;omega
  have ah:l[i]? =some l[i]:=A2 b;rw[<- d.len];refine d.idx ah λa _ c=>AC.mk c.int ?_
  refine af.intro (λq=>?_) (λq=>?_)
  ·have j:v=l[i]:=by simpa using q
   refine⟨_,rfl,?_⟩;rw[decide_eq_true (show((i:Int)>=0) by omega)];rwa [decide_eq_true (show v∈l by rw[j];exact B9 b)] at n
  ·have j:v≠l[i]:=by simpa using q
   rw[Ab (by omega)];refine r (l.length-(i+1)) _ _ (by omega) ⟨i+1,rfl,rfl,b,rfl,?_⟩;rw[AD,ah];simp only[CD,HW,HM,not_or];exact⟨e,j⟩
 ·have b:i=l.length:=by have:=of_decide_eq_false f;omega
  subst b;rw[Bm] at e;refine⟨_,rfl,?_⟩;rwa [decide_eq_false e] at n
section
variable {A : al} {g h : aa} {q : Hp} {k : Nat -> Nat} {st : Db} {m : Bx} {D : Bn} {R : A2L}
theorem AJr(b:bL g h q k st m)(d:Nat):MC k d q.tp q.np (λ_=>False)=k:=by
 funext c;unfold MC;by_cases a:k c=0
 ·rw[if_neg (by simp[a]),if_neg (λh=>by have:=b.kt c h;rw[a] at this;cases this),if_neg (λh=>by have:=b.kx c h;rw[a] at this;cases this),if_neg (λh=>h),a]
 ·rw[if_pos a]
theorem bL.jJ {h':aa}{next:Nat}(b:bL g h q k st m)(a:h'[q.d]? =some (J2 (eE q {st with next:=next} false) FW (0,0)))(x:Mod (· =q.d) h h'):bL g h' q k {st with next:=next} m:=by have R:=b.rest (C:=λc=>c=1) (h':=h') (x.aj λc _ a=>by rw[a];exact b.kd) (by decide);have:=b.fj (h':=h') (tp:=q.tp) (np:=q.np) (ps:=q.ps) (ts:=st.ts) (next:=next) (aW:=st.aW) (S:=λ_=>False) a (x.aj λc _ a=> .inl a) (R.ck (by decide)) (R.names (by decide)) b.dj (λc a=> .inl a) (λc a=> .inl a) (λc h=>h.elim) (λi t p d e=> .inl ⟨i,d,e⟩);rw[AJr b] at this;exact this
theorem ARS {m:Bx}{x:A2M}:ff m x≠none↔x∈m.files.map (·.name):=by rw[<- yY (k:=x),Sd];cases ff m x<;>simp
theorem APk {s:A2M}(h:(du s 0 != (116:Int))=false)(l:2<=s.size):(bl s).head? =some 116:=by
 have d:bl s=s.data.toList:=rfl;have a:=BB s;cases b:bl s with
 |nil=>rw[b] at a;simp at a;omega
 |cons c n=>
  have e:du s 0=116:=by simpa using h
  have f:s.data.toList[0]? =some c:=by rw[<- d,b];rfl
  have o:(c.toNat:Int)=116:=by have:=OH (i:=0) f;rw[<- e];exact this.symm
  have j:c.toNat=116:=by omega
  have:c=116:=by apply UInt8.toNat_inj.1;rw[j];rfl
  rw[this];rfl
theorem AOQ {N:Nat}(a2:cy g)(E:bL g h q k st m)(hd:m.down=false)(aC:BJ (ff m) D)(a3:(Aq D).names=st.ts.map (·.1))(bB:N<=99999999)(a4: ∀b,ff m (aX b)≠none->b<N)(a5:st.next<=N)(bC:st.ts.length<=100000)(a6:m.files.length<=8000000000000)
  (a7:m.fuel≠ -1-> ∀h' S' n,Ce h' q.b S' n->n.down=true->Mod (λc=>k c≠0) h h'->(∀ c,S' c->k c≠0\/h.size<=c)->BJ (ff n) D->(∀ e,(∀ b,e≠aX b)->ff n e=ff m e)->(∀ b,ff n (aX b)≠none->ff m (aX b)≠none)->ba n.files<=ba m.files->R (J6 J9 30) h')
  (a8: ∀h' S' aE n ac,bL g h' {q with Sb:=S'} aE {st with next:=ac} n->Jk m n->BJ (ff n) D->(∀ e,(∀ b,e≠aX b)->ff n e=ff m e)->(∀ b,ff n (aX b)≠none->b∈st.ts.map (·.1))->st.next<=ac->ac<=N->ba n.files<=ba m.files->
   Mod (λc=>k c≠0) h h'->(∀ c,aE c≠0->k c≠0\/h.size<=c)->R (J6 J9 0) h'):AA A P PG #[Ar q.d] h R:=by
 refine ABf ?_;unfold Ua;refine aD (AY.mk (AL E.cell rfl) ?_);refine wo E.box λad r ag S a9=>⟨ad,_,rfl,?_⟩
 have bb:kg m=(m.files.map (·.name),0):=by unfold kg;rw[if_neg (by simp[hd])]
 rw[bb] at ag ⊢;refine af.no rfl ?_;dsimp only at ag;have bc:=yZ E.box.aR;have aj:=λx=>ARS (m:=m) (x:=x)
 have bD:(m.files.map (·.name)).length<=8000000000000:=by simpa using a6
 generalize m.files.map (·.name)=d at*
 have bd:=E.on S;have bE:=S.size;have v1:=ag.view;refine Loop.rule (λaF x u=> ∃(i:Nat) (H:Nat->Prop) (v:Nat->Nat) (l:Bx) (next:Nat),x=((i:Int),())/\aF=d.length-i/\i<=d.length/\bL g u {q with Sb:=H} v {st with next:=next} l/\Jk m l/\BJ (ff l) D/\(∀ e,(∀ b,e≠aX b)->ff l e=ff m e)/\(∀ e,e∉d.take i->ff l e=ff m e)/\
   (∀ b,aX b∈d.take i->b∉st.ts.map (·.1)->ff l (aX b)=none)/\(∀ b,ff l (aX b)≠none->ff m (aX b)≠none)/\st.next<=next/\next<=N/\ba l.files<=ba m.files/\Mod (λc=>k c≠0) r u/\Grow k v r.size) ?_
  ⟨0,q.Sb,k,m,st.next,rfl,rfl,A5 _,bd,Jk.refl hd,aC,λ_ _=>rfl,λ_ _=>rfl,by simp,λ_ h=>h,A0 _,a5,A0 _,Mod.refl,Grow.refl⟩
 rintro K aF _ u ⟨i,H,v,l,next,rfl,rfl,bF,I,J,T,U,aS,V,sub,aG,aH,W,L,M⟩ aI;dsimp only;have bG:=L.size;have aJ: ∀c,v c≠0->k c≠0\/h.size<=c:=λc f=>by
  by_cases ak:c<r.size
  ·rw[M c ak] at f;exact .inl f
  ·exact .inr (by omega)
 have be: ∀c,ad.ag=some c->k c=0:=λc f=>Decidable.byContradiction λh=>by
  have:=(E.own c h).2;have:=a9 c f;omega
 have bf:View Im u ad d:=v1.mod L λc f al=>al (be c f)
 rw[v1.len];refine af.intro (λam=>?_) (λam=>?_)
 ·have B:i<d.length:=by have:=of_decide_eq_true am;omega
  have ah:d[i]? =some d[i]:=A2 B;have aK:d[i]∈d:=B9 B;have X:d.take (i+1)=d.take i++ [d[i]]:=by rw[AD,ah];rfl
  have bg:d[i]∉d.take i:=λt=>by
   obtain⟨j,bh,o⟩:=DB t;have bI:j<i:=by have:=bh;simp at this;omega
   rw[List.getElem_take] at o;have:=(Lz (h₀:=by omega) (h₁:=B) bc).1 o;omega
  rw[Ab (by omega)];refine ai.mk λbi aL=>?_
  rw[<- v1.len];refine bf.idx ah λa _ c=>AJ.mk c.str ?_
  have skip: ∀O Y,bL g O {q with Sb:=H} Y {st with next:=next} l->Mod (λc=>k c≠0) r O->Grow k Y r.size->(∀ b,d[i]=aX b->b∈st.ts.map (·.1))->bi () O:=λO Y Z an bj ao=>aL _ _ (by
   refine aI (d.length-(i+1)) _ _ (by omega) ⟨i+1,H,Y,l,next,rfl,rfl,B,Z,J,T,U,λe w=>aS e λt=>w (by rw[X];exact List.mem_append.2 (.inl t)),λb y aa=>?_,sub,aG,aH,W,an,bj⟩;rw[X] at y;rcases List.mem_append.1 y with y|y
   ·exact V b y aa
   ·exact absurd (ao b (List.mem_singleton.1 y).symm) aa)
  refine ai.mk λbk aM=>?_
  have aN:(∀ b,d[i]≠aX b)->bk (true,()) u:=λao=>aM _ _ (af.yes rfl (skip u v I L M λb o=>absurd o (ao b)))
  have bm: ∀b,2<=(aX b).size:=λb=>by
   have r:=BB (aX b);rw[Xd] at r;have ap:=Lib.nDigits_pos b;have F:=Lib.decDigits_length b;rw[A6] at r;omega
  refine af.intro (λaq=>?_) (λaq=>?_)
  ·have ap:=of_decide_eq_true aq;exact aN λb o=>by have:=bm b;rw[<- o] at this;omega
  ·have ap:2<=d[i].size:=by have:=of_decide_eq_false aq;omega
   refine⟨⟨Hb _,by omega⟩,?_⟩;cases ar:(du d[i] 0 != (116:Int)) with
   |true=>
    refine aN λb o=>?_
    have:du d[i] 0=116:=by
     rw[o];have:=OH (s:=aX b) (i:=0) (c:=116) (by
      have F:=Xd b;show(bl (aX b))[0]? =_;rw[F];rfl)
     exact this
    rw[this] at ar;cases ar
   |false=>
    obtain⟨b,z⟩:=aC.dp d[i] ((aj _).2 aK) (APk ar ap);have aO:ff m (aX b)≠none:=by rw[<- z];exact(aj _).2 aK
    have bJ:=a4 b aO;refine aM _ _ (af.no rfl ⟨⟨by omega,by omega⟩,?_⟩);have bn:d[i].extract ((1:Int).toNat) d[i].size=AX (Lib.decDigits b):=by rw[show(1:Int).toNat=1 from rfl,rR,z];have:(aX b).data.toList=116::Lib.decDigits b:=Xd b;rw[this];rfl
    rw[bn];refine AQz (by omega) λO au=>⟨_,_,rfl,?_⟩
    have Z:=I.on au;have an:=L.trans (Ext.mod au);refine ai.mk λbK aP=>⟨trivial,af.yes rfl ?_⟩
    refine Qq (Z.im a2) (by omega) λaQ av=>⟨_,rfl,?_⟩
    have G:=Z.on av;have aR:=an.trans (Ext.mod av);have bo:bR (aX b) d[i]=true:=by rw[z,Cn];exact decide_eq_true rfl
    rw[bo];refine af.yes rfl (aD (Aa.mk (s:=q.np) (AB G.cell rfl) ?_));refine AIm G.names.view (by simp[eF];omega) ⟨_,rfl,?_⟩;have aT:((b:Int)∈eF ({st with next:=next}:Db))↔b∈st.ts.map (·.1):=by
     simp only[eF,List.mem_map];constructor
     ·rintro⟨p,aw,o⟩;exact⟨p,aw,by omega⟩
     ·rintro⟨p,aw,o⟩;exact⟨p,aw,by omega⟩
    by_cases t:b∈st.ts.map (·.1)
    ·rw[decide_eq_true (aT.2 t)];exact aP _ _ (af.no rfl (skip aQ v G aR M λab o=>by rw[z] at o;rw[<- Jl o];exact t))
    rw[decide_eq_false λh=>t (aT.1 h)];refine aP _ _ (af.yes rfl ?_);refine aD (AY.mk (AL G.cell rfl) ?_);have bp:(ff l (aX b)).isSome=true:=by
     rw[aS (aX b) (by rw[<- z];exact bg)];cases bq:ff m (aX b) with
     |none=>exact absurd bq aO
     |some p=>rfl
    rw[z];refine SK G.box λaU ax ay aV aW=>⟨_,rfl,?_⟩
    have aY:Mod (λc=>k c≠0) r aU:=aR.then (aV.aj λc _ f=>by
     have aZ:v c≠0:=by rw[I.kb c f];decide
     by_cases ak:c<r.size
     ·rw[M c ak] at aZ;exact .inl aZ
     ·exact .inr (by omega))
    have bM:=(au.trans av).size;rcases Rk (k:=aX b) J.up bp with⟨br,az⟩|⟨az,bs,Q⟩
    ·rw[az] at ay ⊢;refine af.yes rfl ?_;refine a7 (λu=>by have:=J.calm u;rw[br] at this;cases this) aU ax (Ng l) ay rfl ((Ext.mod S).trans aY) (λc f=>?_) T U sub W;exact aJ c (by
      have:=I.kb c (aW c f);rw[this];decide)
    ·rw[az];refine af.no rfl ?_;have aA:=G.boxed (j:=2) (bH:= {st with next:=next}) ay (aV.aj λc _ f=> .inl f) (λc f=> .inl (aW c f)) rfl rfl rfl rfl (.inl ⟨by decide,rfl,rfl⟩) (.inl ⟨by decide,rfl⟩);refine aD (AC.mk (AB aA.cell rfl) ?_);have bt:J8 J9 ((b:Int)+(1:Int))=((b+1:Nat):Int):=Ab (by omega);rw[bt];have bu:(if(((b+1:Nat):Int):Int)>((next:Nat):Int) then((b+1:Nat):Int) else((next:Nat):Int))=((max (b+1) next:Nat):Int):=by split<;>omega
     refine aD (ae.dw aA.cell (by simp) λbv a0 a1 bN=>?_);rw[bu] at a0;have bw:=aA.jJ (h':=bv) (next:=max (b+1) next) (by simpa [eE] using a0) a1;have bx:Grow k (Js v aQ.size ax 2) r.size:=λc f=>by rw[Gd (by omega)];exact M c f
     have bz:=VZ (m:=l) (aX b);refine aL _ _ ?_;refine aI (d.length-(i+1)) _ _ (by omega) ⟨i+1,ax,_,_,max (b+1) next,rfl,rfl,B,bw,J.trans bs,?_,λe w=>?_,λe w=>?_,λab C aa=>?_,λab C=>?_,by omega,by omega,AG bz W,?_,bx⟩
     ·refine T.gf λx bA=>?_
      rw[Q,if_neg (bA b (by rw[a3];exact t))]
     ·rw[Q,if_neg (w b)];exact U e w
     ·rw[X] at w;simp only[HW,HM,not_or] at w;rw[Q,if_neg (by rw[<- z];exact w.2)];exact aS e w.1
     ·rw[Q];split
      ·rfl
      ·rename_i al;rw[X] at C;rcases List.mem_append.1 C with F|F
       ·exact V ab F aa
       ·exact absurd ((List.mem_singleton.1 F).trans z) al
     ·rw[Q] at C;split at C
      ·exact absurd rfl C
      ·exact sub ab C
     ·refine aY.trans (a1.aj λc _ f=>?_);have:c=q.d:=f;rw[this,E.kd];decide
 ·have B:i=d.length:=by have:=of_decide_eq_false am;omega
  subst B;rw[Bm] at aS V;refine a8 u H v l next I J T U (λb y=>?_) aG aH W ((Ext.mod S).trans L) aJ
  by_cases t:b∈st.ts.map (·.1)
  ·exact t
  ·exact absurd (V b ((aj _).1 (sub b y)) t) y
end
theorem AOI {f:Type}{c:Nat->List f}{l:List Nat}{d:Nat}(g:l.Pairwise (· < ·))(h: ∀a∈l,a<d)(i: ∀a,a<d->a∉l->c a= []):(List.range d).flatMap c=l.flatMap c:=by
 have j:l=(List.range d).filter λa=>decide (a∈l):=by
  refine wS g (List.pairwise_lt_range.sublist Gk) λa=>?_
  simp only[List.mem_filter,Lq,decide_eq_true_eq];exact⟨λb=>⟨h a b,b⟩,λb=>b.2⟩
 have key: ∀L:List Nat,(∀ a∈L,a<d)->L.flatMap c=(L.filter λa=>decide (a∈l)).flatMap c:=by
  intro L
  induction L with
  |nil=>intro _;rfl
  |cons a L k=>
   intro e;rw[AF,AT,k λm n=>e m (AH _ n)];by_cases b:a∈l
   ·rw[if_pos (by simpa using b),AF]
   ·rw[if_neg (by simpa using b),i a (e a (by simp)) b,CN]
 rw[key _ λa o=>List.mem_range.1 o,<-j]
theorem APB {l:List Nat}(e:l.Pairwise (· < ·)){a:Nat}(d:a∈l):a<=l.getLast?.getD 0:=by
 cases b:l.getLast? with
 |none=>
  rw[List.getLast?_eq_none_iff] at b;subst b;cases d
 |some x=>
  show a<=x;obtain⟨f,rfl⟩:=List.getLast?_eq_some_iff.1 b;rcases List.mem_append.1 d with c|c
  ·exact Nat.le_of_lt ((List.pairwise_append.1 e).2.2 a c x (by simp))
  ·rw[List.mem_singleton.1 c];exact A0 _
theorem YQ {m:Bx}{b:A2M}{e:Nat}{g:Nat->List (List UInt8)}{l:List Nat}(hd:m.down=false)(n:gD (ff m) b e g)(j:mV b m l)(y:1<=e/\e<=99999999):
  TP b m l=((List.range e).flatMap g).map AX/\l.getLast?.getD 0+1<=e/\(∀ a,l.getLast?.getD 0+1<=a->a<=99999999->ff m (aC b a)=none):=by
 have o: ∀a,1<=a->a<=99999999->(a∈l↔ff m (aC b a)≠none):=λa h c=>by
  rw[j.mem,Sd];constructor
  ·rintro⟨_,_,d⟩ r;rw[r] at d;cases d
  ·intro d;refine⟨h,c,?_⟩;cases i:ff m (aC b a) with
   |none=>exact absurd i d
   |some p=>rfl
 have q: ∀a∈l,a<e:=λa f=>by
  obtain⟨h,c,_⟩:=(j.mem a).1 f;have k:=(o a h c).1 f;exact Decidable.byContradiction λd=>k (n.out a (by omega) c)
 have k:TP b m l=l.flatMap λa=>(g a).map AX:=AQ7 hd λa f=>by
  obtain⟨h,c,_⟩:=(j.mem a).1 f;have k:=(o a h c).1 f;cases i:ff m (aC b a) with
  |none=>exact absurd i k
  |some p=>
   obtain⟨s,t⟩:=n.has a p h c i;refine⟨p,rfl,?_⟩;rw[s,Vi,AW];have:(g a).map (bl∘AX)=g a:=by
    conv=>rhs;rw[<- Kp (g a)]
    exact CM λx _=>EJ x
   rw[this];exact t
 refine⟨?_,?_,λa f c=>?_⟩
 ·rw[k,Lk];refine(AOI j.inc q λa f u=>?_).symm;by_cases v:a=0
  ·rw[n.lJ a (.inl v)];rfl
  ·have i:ff m (aC b a)=none:=Decidable.byContradiction λd=>u ((o a (by omega) (by omega)).2 d)
   rw[n.iA a (by omega) (by omega) i];rfl
 ·cases w:l.getLast? with
  |none=>show 0+1<=e;omega
  |some x=>
   have:=q x (SP w);show x+1<=e;omega
 ·exact Decidable.byContradiction λd=>by
   have:=APB j.inc ((o a (by omega) c).2 d);omega
open Classical in
noncomputable def kM (Sb:Nat->Prop) (a nt ft b d:Nat) (tp np:Sl) (e T:Nat->Prop):Nat->Nat:=λc=>
 if Sb c then 2 else if c<a then 0 else if c=nt then 4 else if c=ft then 5 else if c=b then 1 else if c=d then 3 else if tp.ag=some c then 6 else if np.ag=some c then 7 else if e c then 5 else if T c then 8 else 0
theorem zX {Sb:Nat->Prop}{d nt ft e f:Nat}{tp np:Sl}{g T:Nat->Prop}{c:Nat}(h:kM Sb d nt ft e f tp np g T c≠0):Sb c\/(d<=c/\(c=nt\/c=ft\/c=e\/c=f\/tp.ag=some c\/np.ag=some c\/g c\/T c)):=by
 by_cases a:Sb c
 ·exact .inl a
 by_cases b:c<d
 ·exact absurd (by unfold kM;rw[if_neg a,if_pos b]) h
 refine .inr ⟨by omega,Classical.byContradiction λi=>h ?_⟩;simp only[not_or] at i;obtain⟨j,k,l,m,n,o,p,q⟩:=i;unfold kM;rw[if_neg a,if_neg b,if_neg j,if_neg k,if_neg l,if_neg m,if_neg n,if_neg o,if_neg p,if_neg q]
theorem bL.make {g h:aa}{q:Hp}{st:Db}{m:Bx}{N0 NB NC ND:Nat}(cell:h[q.d]? =some (J2 (eE q st false) FW (0,0)))(n:Ce h q.b q.Sb m)(o:Ed h q.lg q.b nl st.aw st.br)(r:Ed h q.nt q.b nn st.aJ false)(fresh:M.dh h q.ft q.ns st.fr)
  (s:Own fS BM h q.tp q.ps) (y:q.ps.length=st.ts.length) (names:Own Ib Bp h q.np (eF st)) (ext:Ext g h) (H:g.size<=N0) (u: ∀c,q.Sb c->g.size<=c/\c<N0)
  (I:N0<=q.nt) (J:q.nt<q.ft) (K:q.ft<q.d) (L:q.d<NB) (N:NB<=NC) (O:NC<=q.lg) (P:q.lg<ND) (k: ∀c,q.np.ag=some c->q.d<c/\c<NB) (l: ∀c,q.tp.ag=some c->NB<=c/\c<NC) (v: ∀c,M.cY q.ft q.ns c->c=q.ft\/ND<=c)
  (z: ∀(i:Nat) (t:Nat) (p:Nat×List Pr),q.ps[i]? =some t->st.ts[i]? =some p-> ∃e f,bS h t p.2 (NQ p.2) e f/\NB<=e/\f<=NC/\(∀ c,q.tp.ag=some c-> ¬(e<=c/\c<f))/\Hl p.2) (Q:NC<=h.size):
  ∃w,bL g h q w st m/\ ∀c,w c≠0->q.Sb c\/N0<=c:=by
 let T:Nat->Prop:=λc=>(NB<=c/\c<NC)/\q.tp.ag≠some c
 have d: ∀c,N0<=c-> ¬q.Sb c:=λc b j=>by have:=(u c j).2;omega
 refine⟨kM q.Sb N0 q.nt q.ft q.d q.lg q.tp q.np (M.cY q.ft q.ns) T,⟨cell,n,o,r,fresh,s,y,λi t p A B=>?_,names,?_,λc b=>?_,?_,?_,λc b=>?_,λc b=>?_,λc b=>?_,λc b=>?_,ext⟩,λc b=>?_⟩
 ·obtain⟨e,f,C,R,S,D,E⟩:=z i t p A B;refine⟨e,f,C,by omega,λc c1 c2=>?_,E⟩;have x:T c:=⟨⟨by omega,by omega⟩,λa=>D c a ⟨c1,c2⟩⟩;have F: ¬M.cY q.ft q.ns c:=λG=>by rcases v c G with h|h<;>omega
  unfold kM;rw[if_neg (d c (by omega)),if_neg (by omega),if_neg (by omega),if_neg (by omega),if_neg (by omega),if_neg (by omega),if_neg x.2,if_neg (λa=>by have:=k c a;omega),if_neg F,if_pos x]
 ·unfold kM;rw[if_neg (d _ (by omega)),if_neg (by omega),if_neg (by omega),if_neg (by omega),if_pos rfl]
 ·unfold kM;rw[if_pos b]
 ·unfold kM;rw[if_neg (d _ (by omega)),if_neg (by omega),if_neg (by omega),if_neg (by omega),if_neg (by omega),if_pos rfl]
 ·unfold kM;rw[if_neg (d _ (by omega)),if_neg (by omega),if_pos rfl]
 ·unfold kM;rcases v c b with rfl|h
  ·rw[if_neg (d _ (by omega)),if_neg (by omega),if_neg (by omega),if_pos rfl]
  ·rw[if_neg (d c (by omega)),if_neg (by omega),if_neg (by omega),if_neg (by omega),if_neg (by omega),if_neg (by omega),if_neg (λa=>by have:=l c a;omega),if_neg (λa=>by have:=k c a;omega),if_pos b]
 ·have:=l c b;unfold kM;rw[if_neg (d c (by omega)),if_neg (by omega),if_neg (by omega),if_neg (by omega),if_neg (by omega),if_neg (by omega),if_pos b]
 ·have:=k c b;unfold kM;rw[if_neg (d c (by omega)),if_neg (by omega),if_neg (by omega),if_neg (by omega),if_neg (by omega),if_neg (by omega),if_neg (λa=>by have:=l c a;omega),if_pos b]
 ·rcases zX b with j|⟨U,a|a|a|a|a|a|a|a⟩
  ·exact⟨(u c j).1,n.lt j⟩
  ·exact⟨by omega,by rw[a];exact Aj r⟩
  ·exact⟨by omega,by rw[a];exact fresh.lt (.inl rfl)⟩
  ·exact⟨by omega,by rw[a];exact Aj cell⟩
  ·exact⟨by omega,by rw[a];exact Aj o⟩
  ·exact⟨by omega,s.lt a⟩
  ·exact⟨by omega,names.lt a⟩
  ·exact⟨by omega,fresh.lt a⟩
  ·exact⟨by omega,by have:=a.1.2;omega⟩
 ·exact(zX b).imp id λh=>h.1
def Kk(D:Bn):List (Nat×List Pr):=(List.range D.aP).flatMap λa=>(D.L a).map λb=>(a,b)
def Pi(f:Nat)(l:List (Nat×List Pr)):List (List Pr):=(l.filter λp=>decide (f<=p.1)).map (·.2)
theorem ZT(f:Nat)(a b:List (Nat×List Pr)):Pi f (a++b)=Pi f a++Pi f b:=by simp[Pi]
theorem zY(D:Bn):Pi (Aq D).aW (Kk D)=Ig D:=by
 unfold Kk Ig;have key: ∀L:List Nat,Pi (Aq D).aW (L.flatMap λa=>(D.L a).map λb=>(a,b))=L.flatMap λa=>if a<(Aq D).aW then [] else D.L a:=by
  intro L
  induction L with
  |nil=>rfl
  |cons a L d=>
   rw[AF,AF,ZT,d];congr 1;unfold Pi;rw[ON];split
   ·rename_i h;have:(λb:List Pr=>decide ((Aq D).aW<=((a,b):Nat×List Pr).1))=λ_=>false:=by funext b;simp;omega
    simp[G0];omega
   ·rename_i h;simp[G0];intro b _;omega
 exact key _
theorem ASH {d:bP}{D:Bn}(h:BJ d D): ∀p∈Kk D,p.1<=99999999/\Yw p.2:=λp e=>by
 obtain⟨a,f,i⟩:=List.mem_flatMap.1 e;obtain⟨b,j,rfl⟩:=List.mem_map.1 i;have:=List.mem_range.1 f;have:=h.cz;exact⟨by show a<=_;omega,h.fX a b j⟩
theorem AN2(D:Bn):((List.range D.aP).flatMap λa=>(D.L a).map (BZ a)).map AX=(Kk D).map λp=>AX (BZ p.1 p.2):=by
 unfold Kk;rw[Lk,Lk];unfold List.flatMap;congr 1;refine CM λa _=>?_
 rw[AW,AW];rfl
theorem ARw {f:Nat}{l:List (Nat×List Pr)}(i:Nat):(Pi f (l.take i)).flatten.length<=(Pi f l).flatten.length:=by
 conv=>rhs;rw[<- DO i l,ZT,N5,A1]
 omega
theorem AKo(D:Bn):((List.range D.aY).flatMap λa=>(D.N a).map EK).map AX=(Np D).map λx=>AX (EK x):=by unfold Np;rw[Lk,Lk];unfold List.flatMap;congr 1;exact CM λa _=>by rw[AW];rfl
theorem View.modn {e:Type}{d:cJ e}{h f:aa}{s:Sl}{l:List e}{j:Nat->Prop}(v:View d h s l)(m:Mod j h f)(o: ∀c,s.ag=some c->c<h.size-> ¬j c):View d f s l:=by refine⟨v.len,v.cap,λi x p=>?_⟩;obtain⟨a,k,n⟩:=v.cells i x p;refine⟨a,k,n.mod m ?_⟩;have r:=d.pos;have t:=d.len x;obtain⟨u,q⟩: ∃u,(d.enc x)[0]? =some u:=⟨_,A2 (by omega)⟩;have:=Vb (n 0 u q);rw[aU,aU] at this;rw[aU];exact o _ (by simp[Sl.ag,k]) this
section
variable {A : al} {B : cu} {g h : aa} {b : Nat} {Sb : Nat -> Prop} {m : Bx} {D : Bn} {aH c : Nat} {R : A2L}
theorem AOK(E:cy g)(aF:Ce h b Sb m)(Q:Ext g h)(b7: ∀c,Sb c->g.size<=c)(hd:m.down=false)(ab:BJ (ff m) D)(C:jq (ff m) D aH c)(d:c<=B.C)(hA:aH+1<=B.A)(bn:ba m.files<=B.W0+aH*B.K)
  (dj:m.fuel≠ -1-> ∀ag dk S' aj,Ce ag b S' aj->aj.down=true->Mod Sb h ag->(∀ c,S' c->Sb c\/h.size<=c)->kC (ff aj) (aH+1) c (cH D)->(∀ w,¬cG w->ff aj w=ff m w)->ba aj.files<=B.W0+(aH+1)*B.K->R (J1 #[Ar dk,J6 J9 30]) ag)
  (dl: ∀ag bo b8 b9 aj dm,bo.b=b->Bq B g ag bo b8 b9 aj dm (aH+1) c->Jk m aj->Cr b9=cH D->(∀ w,¬cG w->ff aj w=ff m w)->Mod Sb h ag->(∀ c,b8 c≠0->Sb c\/h.size<=c)->R (J1 #[Ar bo.d,J6 J9 0]) ag):
  AA A P Sj #[Ar b] h R:=by
 have fa:=B.hA;have fb:=B.hC;have ca:=AG bn (B.wt (a:=aH) (by omega));have aw:=ab.cz;have S:=zP ab;have fc:=C.aP;have fd:=C.aY;have fe:=C.aW;have dn:=C.next;have fg:=C.ct;have ak: ∀c,Sb c->c<h.size:=λc d=>aF.lt d
 refine AIj ?_;unfold vu;refine zi (E.ext Q) aF hd (by decide) (by decide) ca (λag l aU dp _=>?_) λj l nt sl aU dp cb cc cd v1 fh=>⟨_,_,_,rfl,af.no rfl ?_⟩
 ·obtain⟨_,dq,_⟩:=YQ hd ab.note aU aw.2.2;omega
 obtain⟨ce,dq,dr⟩:=YQ hd ab.note aU aw.2.2;rw[AKo] at ce;have bp:=sr (nm:=nn) (m:=m) hd aU.inc;rw[ce] at v1 bp;have ds:1<=l.getLast?.getD 0+1:=by omega
 generalize l.getLast?.getD 0+1=aJ at*
 refine M.td λo dt bq fi=>⟨_,rfl,ao.mk λI _ cf aV fj=>?_⟩
 have cg:=cb.trans bq;have ch:=cg.trans aV;have du:nt<j.size:=Aj cd;have ci:Ed I nt b nn aJ false:=Ed.ext (Ed.ext cd bq) aV;have cj:M.dh I j.size [] []:=dt.ext aV;have ck:=(v1.ext bq).ext aV;have fk:=cb.size;refine ai.mk λK dv=>?_
 have br: ∀(hB:aa) (np:Sl),Ext h hB->hB[o.size]? =some (J2 #[Ar b,J5 none,Ar nt,Ar j.size,J4 none 0 0,J4 np.p np.len np.cap,J6 J9 ((Aq D).next:Int),J6 J9 ((Aq D).aW:Int),J3 false] FW (0,0))->
   Own Ib Bp hB np ((Aq D).names.map λn:Nat=>(n:Int))->(∀ c,np.ag=some c->o.size<c)->Ed hB nt b nn aJ false->M.dh hB j.size [] []->K () hB:=by
  intro hB np aW aG an ac dw dx;refine dv _ _ ?_;have fl:=aW.size;have fm:=E.ext (Q.trans aW);have dy:o.size<hB.size:=Aj aG;have fn:h.size<=o.size:=cg.size;refine Aa.mk (s:=np) (AB aG rfl) ?_;have cl:np.len=(Aq D).names.length:=by rw[an.len];simp
  refine Loop.rule (λF x k=> ∃(i:Nat) (tp:Sl) (ps:List Nat),x=((i:Int),())/\F=(Aq D).names.length-i/\i<=(Aq D).names.length/\Mod (λc=>c=o.size\/hB.size<=c) hB k/\
    k[o.size]? =some (J2 #[Ar b,J5 none,Ar nt,Ar j.size,J4 tp.p tp.len tp.cap,J4 np.p np.len np.cap,J6 J9 ((Aq D).next:Int),J6 J9 ((Aq D).aW:Int),J3 false] FW (0,0))/\
    Own fS BM k tp ps/\ps.length=i/\(∀ c,tp.ag=some c->hB.size<=c)/\ ∀(r t n:Nat),ps[r]? =some t->(Aq D).names[r]? =some n-> ∃T U,bS k t (D.T n) (NQ (D.T n)) T U/\hB.size<=T/\U<=k.size/\ ∀c,tp.ag=some c-> ¬(T<=c/\c<U)) ?_
   ⟨0,⟨none,0,0⟩,[],rfl,rfl,A5 _,Mod.refl,aG,Own.nil,rfl,λc d=>by simp[Sl.ag] at d,λr t n e=>by simp at e⟩
  rintro fo F _ k ⟨i,tp,ps,rfl,rfl,U,J,ap,am,bs,aq,cm⟩ cn;dsimp only;have co:=J.size;have V:Ext h k:=aW.then (J.aj λc _ d=>by omega);have dz:View Ib k np ((Aq D).names.map λn:Nat=>(n:Int)):=an.view.mod J λc d e=>by
   have:=ac c d;have:=an.lt d;omega
  rw[cl];refine af.intro (λu=>?_) (λu=>?_)
  ·have v:i<(Aq D).names.length:=by have:=of_decide_eq_true u;omega
   have ah:(Aq D).names[i]? =some (Aq D).names[i]:=A2 v;have cp:(Aq D).names[i]∈(Aq D).names:=B9 v;have fp:=S.below _ cp;have fq:=S.next;have fr:=S.ct;obtain⟨dA,dB⟩:=ab.cS _ cp;rw[<- cl];refine dz.idx (i:=i) (x:=((Aq D).names[i]:Int)) (by rw[Cl,ah];rfl) λa _ ar=>AC.mk ar.int ?_
   generalize (Aq D).names[i]=nm at*
   refine Qq (E.ext (Q.trans V)) (by omega) λaY bt=>⟨_,rfl,?_⟩
   refine Yi (aF.ext (V.trans bt)) ⟨_,_,rfl,?_⟩;rw[Yb hd,dA];dsimp only;rw[Vi];refine af.no rfl ?_;refine zF dB.eQ λaZ t cq dC=>⟨_,_,rfl,af.no rfl ?_⟩
   have a0:=bt.trans cq;have cr:=Ap a0 ap;refine Aa.mk (s:=tp) (AB cr rfl) ?_;have fs:=bt.size;have ft:=cq.size;refine ao.aZ (E:=fS) (x:=t) (s:=tp) (l:=ps) rfl wq (am.ext a0) (by omega) (by simp[maxLen];omega) λaI fu dD aK bu _=>?_
   have dE:=aK.ag cr (λe=>by have:=aq _ e;omega);refine ae.dw dE (by simp) λfv dF a1 fw=>?_
   rw[Ab (by omega)];have cs: ∀c,aI.ag=some c->hB.size<=c:=λc d=>by
    rcases bu c d with h|h
    ·exact aq c h
    ·omega
   have fx:=aK.size;refine cn ((Aq D).names.length-(i+1)) _ _ (by omega) ⟨i+1,aI,ps++ [t],rfl,rfl,v,?_,by simpa using dF,dD.mod a1 (λc d e=>by have:=cs c d;omega),by simp[bs],cs,λr t' n ad W=>?_⟩
   ·exact(J.trans (Ext.mod a0)).trans ((aK.aj λc _ d=> .inr (aq c d)).trans (a1.aj λc _ d=> .inl d))
   ·by_cases ct:r<ps.length
    ·rw[GF ct] at ad;obtain⟨T,bv,bw,bx,cu,a2⟩:=cm r t' n ad W;refine⟨T,bv,((bw.ext a0).mod aK λc c1 c2 d=>a2 c d ⟨c1,c2⟩).mod a1 (λc c1 c2 d=>by omega),bx,by omega,λc d cv=>?_⟩;rcases bu c d with h|h
     ·exact a2 c h cv
     ·omega
    ·have dG:r=ps.length:=by have:=(List.getElem?_eq_some_iff.1 ad).1;simp at this;omega
     subst dG;rw[Fk (A0 _)] at ad;simp at ad;subst ad;rw[bs,ah] at W;cases W;refine⟨aY.size,aZ.size,(dC.mod aK λc c1 c2 d=>by have:=am.lt d;omega).mod a1 (λc c1 c2 d=>by omega),by omega,by omega,λc d cv=>?_⟩;rcases bu c d with h|h
     ·have:=am.lt h;omega
     ·omega
  have v:i=(Aq D).names.length:=by have:=of_decide_eq_false u;omega
  clear cn U u;have dH:Ed k nt b nn aJ false:=dw.mod J (by omega);have dI:M.dh k j.size [] []:=dx.mod J λc d e=>by
   rcases d with rfl|⟨w,y,_⟩
   ·omega
   ·cases y
  refine zi (E.ext (Q.trans V)) (aF.ext V) hd (by decide) (by decide) ca (λag bz a3 dJ _=>?_) λdK bz X bA a3 dJ ax dL cw cx bB=>⟨_,_,_,rfl,af.no rfl ?_⟩
  ·obtain⟨_,dM,_⟩:=YQ hd ab.log a3 ⟨aw.1,aw.2.1⟩;omega
  obtain⟨cz,dM,dN⟩:=YQ hd ab.log a3 ⟨aw.1,aw.2.1⟩;rw[AN2] at cz;have cB:=sr (nm:=nl) (m:=m) hd a3.inc;rw[cz] at cx cB;have fy:1<=bz.getLast?.getD 0+1:=by omega
  generalize bz.getLast?.getD 0+1=a4 at*
  have dO:=Ap ax ap;have fz:X<dK.size:=Aj cw;refine ae.dw dO (by simp) λaL dP au fA=>?_
  have fB:=ax.size;have fC:o.size<k.size:=Aj ap;have dQ:Ed aL X b nl a4 false:=Ed.mod cw au (by omega);have dR:Ce aL b Sb m:=((aF.ext V).ext ax).mod au λc d e=>by have:=ak c d;omega
  have dS: ¬Sb X:=λd=>by have:=ak _ d;have:=V.size;omega
  have a5:Ext h aL:=(V.trans ax).then (au.aj λc _ d=> .inr (by omega));have fE:=au.size;refine Loop.rule (λF (_:Unit) Q=> ∃s:Nat,F=(Aq D).aW-s/\Ed Q X b nl s false/\Ce Q b Sb m/\Mod (λc=>Sb c\/c=X) aL Q/\a4<=s/\(s=a4\/s<=(Aq D).aW)) ?_ ⟨a4,rfl,dQ,dR,Mod.refl,A0 _,.inl rfl⟩;rintro fF F _ H ⟨s,rfl,bC,cC,Y,fG,fH⟩ cD;have fI:=S.aW;have ay:=Y.ag dP (by rintro(h|h);have:=ak _ h;omega;omega);have cE:Ext g H:=(Q.trans a5).then (Y.aj λc _ d=>by
   rcases d with d|rfl
   ·exact .inr (b7 c d)
   ·exact .inr (by have:=Q.size;have:=V.size;omega))
  have dT:cy H:=E.ext cE;refine AY.mk (AB ay rfl) (AC.mk (AB ay rfl) ?_);refine Ow ?_;unfold ME;refine af.no rfl (aD (AC.mk (AB bC rfl) ⟨_,rfl,?_⟩));refine⟨AB ay rfl,?_⟩;refine af.intro (λbD=>?_) (λbD=>?_)
  ·have bE:=of_decide_eq_true bD;refine AY.mk (AB ay rfl) ?_;refine XR dT bC cC dS (by decide) (by omega) (λbF=>absurd rfl bF) λ_ fJ dU dV dW=>⟨_,_,rfl,af.no rfl ?_⟩
   exact cD ((Aq D).aW-(s+1)) _ _ (by omega) ⟨s+1,rfl,dV,dU,Y.trans dW,by omega,.inr (by omega)⟩
  have dX:(Aq D).aW<=s:=by have:=of_decide_eq_false bD;omega
  clear cD;have fK:=Y.size;have cF:View Im H bA ((Kk D).map λp=>AX (BZ p.1 p.2)):=(cx.mod au λc d e=>by have:=(bB c d).1;omega).mod Y λc d e=>by
   have j:=bB c d;rcases e with e|e
   ·have:=ak c e;have:=V.size;omega
   ·exact j.2 e
  have dY: ∀c,bA.ag=some c->k.size<=c:=λc d=>(bB c d).1
  have dZ:M.dh H j.size [] []:=((dI.ext ax).mod au λc d e=>by
   rcases d with rfl|⟨w,y,_⟩
   ·omega
   ·cases y).mod Y λc d e=>by
   rcases d with rfl|⟨w,y,_⟩
   ·rcases e with e|e
    ·have:=ak _ e;omega
    ·have:=V.size;omega
   ·cases y
  have cI:bA.len=(Kk D).length:=by rw[cF.len];simp
  have d0:=ASH ab;have d1:=C.bY;have fL:(Pi (Aq D).aW (Kk D)).flatten.length<=c:=by rw[zY];have:OT D=_:=rfl;unfold OT at d1;omega
  refine Loop.rule (λF aM y=> ∃(i:Nat) (ns:List M.DT),aM=((i:Int),())/\F=(Kk D).length-i/\i<=(Kk D).length/\Mod (λc=>c=j.size\/H.size<=c) H y/\M.dh y j.size ns (Ay [] (Pi (Aq D).aW ((Kk D).take i)).flatten)/\ ∀c,M.cY j.size ns c->c=j.size\/H.size<=c) ?_
   ⟨0,[],rfl,rfl,A5 _,Mod.refl,dZ,λc d=>by
    rcases d with rfl|⟨w,y,_⟩
    ·exact .inl rfl
    ·cases y⟩
  rintro fM F _ al ⟨i,ns,rfl,rfl,U,L,aN,bG⟩ bH;dsimp only;have fO:=L.size;have d2:=View.modn cF L λc d bE e=>by have:=dY c d;omega
  have cJ:=L.ag ay (by omega);rw[cI];refine af.intro (λu=>?_) (λu=>?_)
  ·have v:i<(Kk D).length:=by have:=of_decide_eq_true u;omega
   have ah:(Kk D)[i]? =some (Kk D)[i]:=A2 v;obtain⟨cK,a6⟩:=d0 _ (B9 v);have cL:(Kk D).take (i+1)=(Kk D).take i++ [(Kk D)[i]]:=by rw[AD,ah];rfl
   have d3:=ARw (f:=(Aq D).aW) (l:=Kk D) (i+1);refine ai.mk λfP bI=>?_
   rw[<- cI];refine d2.idx (i:=i) (x:=AX (BZ (Kk D)[i].1 (Kk D)[i].2)) (by rw[Cl,ah];rfl) λa _ ar=>AJ.mk ar.str ?_
   have d4:J8 J9 ((i:Int)+(1:Int))=((i+1:Nat):Int):=Ab (by rw[AS] at cB;omega);rw[d4] at bI;generalize (Kk D)[i]=d5 at*
   obtain⟨bJ,z⟩:=d5;dsimp only at cK a6 ⊢;refine AKW cK a6.len a6.ok λcM d6 cN az d7=>⟨_,_,_,rfl,af.no rfl ?_⟩
   have d8:=Ap az cJ;refine AC.mk (AB d8 rfl) ?_;refine af.intro (λbK=>?_) (λbK=>?_)
   ·have bE:=of_decide_eq_true bK;refine bI _ _ (bH ((Kk D).length-(i+1)) _ _ (by omega) ⟨i+1,ns,rfl,rfl,v,L.trans (Ext.mod az),?_,bG⟩);have e:Pi (Aq D).aW ((Kk D).take (i+1))=Pi (Aq D).aW ((Kk D).take i):=by
     rw[cL,ZT];have:Pi (Aq D).aW [(bJ,z)]= []:=by unfold Pi;rw[AT,if_neg (by simp;omega)];rfl
     rw[this,AK]
    rw[e];exact aN.ext az
   ·have d9:(Aq D).aW<=bJ:=by have:=of_decide_eq_false bK;omega
    have e:(Pi (Aq D).aW ((Kk D).take (i+1))).flatten=(Pi (Aq D).aW ((Kk D).take i)).flatten++z:=by
     rw[cL,ZT];have:Pi (Aq D).aW [(bJ,z)]= [z]:=by unfold Pi;rw[AT,if_pos (by simpa using d9)];rfl
     rw[this];simp
    rw[e,A1] at d3;have fQ:=az.size;refine Loop.rule (λF aM a7=> ∃(r:Nat) (aO:List M.DT),aM=((r:Int),())/\F=z.length-r/\r<=z.length/\Mod (λc=>c=j.size\/H.size<=c) H a7/\M.dh a7 j.size aO (Ay (Ay [] (Pi (Aq D).aW ((Kk D).take i)).flatten) (z.take r))/\(∀ c,M.cY j.size aO c->c=j.size\/H.size<=c)/\View BO a7 cM z/\(∀ c,cM.ag=some c-> ¬M.cY j.size aO c)/\d6.size<=a7.size) ?_
     ⟨0,ns,rfl,rfl,A5 _,L.trans (Ext.mod az),aN.ext az,bG,cN.view,λc d aP=>by have:=d7 c d;have:=aN.lt aP;omega,A0 _⟩
    rintro fR F _ fT ⟨r,aO,rfl,rfl,ct,a8,bM,bN,a9,cO,fU⟩ ea;dsimp only;have eb:=a8.ag ay (by omega);have fV:=a6.len;rw[a9.len];refine af.intro (λu=>?_) (λu=>?_)
    ·have bb:r<z.length:=by have:=of_decide_eq_true u;omega
     have cP:z[r]? =some z[r]:=A2 bb;rw[<- a9.len];refine a9.idx cP λa _ ar=>?_
     obtain⟨cQ,ec,ed⟩:=ar.pair;refine AJ.mk cQ (AJ.mk ec (AZ.mk ed (ao.pair λfW fX _ bO aQ fY=>?_)));have ee:=Ap aQ eb;refine AY.mk (AB ee rfl) ?_;refine AJ.mk (AL bO rfl) (AJ.mk (AB bO rfl) (AZ.mk (AB bO rfl) ?_));have ef:=M.RQ (l:=(Pi (Aq D).aW ((Kk D).take i)).flatten) (t:= []);have eg:=M.RQ (l:=z.take r) (t:=Ay [] (Pi (Aq D).aW ((Kk D).take i)).flatten);rw[An] at eg;simp only[GP,AI] at ef;refine M.tf (x:=z[r]) (bM.ext aQ) (by omega) λeh fZ ei bP cR=>⟨_,rfl,?_⟩
     rw[Ab (by omega)];have f0:=a8.size;have f1:=aQ.size;refine ea (z.length-(r+1)) _ _ (by omega) ⟨r+1,eh,rfl,rfl,bb,(a8.trans (Ext.mod aQ)).trans (bP.aj λc _ d=>bN c d),by rw[M.th cP];exact ei,λc d=>?_,(a9.ext aQ).mod bP (λc d aP=>cO c d aP),λc d aP=>?_,by have:=bP.size;omega⟩
     ·rcases cR c d with h|h
      ·exact bN c h
      ·exact .inr (by omega)
     ·rcases cR c aP with h|h
      ·exact cO c d h
      ·have:=cN.lt d;omega
    ·have bb:r=z.length:=by have:=of_decide_eq_false u;omega
     subst bb;rw[Bm] at bM;refine bI _ _ (bH ((Kk D).length-(i+1)) _ _ (by omega) ⟨i+1,aO,rfl,rfl,v,a8,?_,bN⟩);rw[e,AID];exact bM
  have ej:i=(Kk D).length:=by have:=of_decide_eq_false u;omega
  subst ej;rw[Bm,zY] at aN;clear bH;have bc:Mod (λc=>c=o.size) k aL:=(Ext.mod ax).trans au;have aS: ∀c,hB.size<=c->c<k.size-> ¬(c=o.size)/\ ¬(Sb c\/c=X)/\ ¬(c=j.size\/H.size<=c):=λc c1 c2=>by
   refine⟨by omega,?_,by omega⟩;rintro(h|h)
   ·have:=ak c h;have:=aW.size;omega
   ·omega
  have bd: ∀c,h.size<=c->c<k.size->c≠o.size->c≠j.size-> ¬(c=o.size)/\ ¬(Sb c\/c=X)/\ ¬(c=j.size\/H.size<=c):=λc c1 c2 c3 f2=>by
   refine⟨c3,?_,by omega⟩;rintro(h|h)
   ·have:=ak c h;omega
   ·omega
  have ek:Own fS BM al tp ps:=((am.mod bc λc d=>(aS c (aq c d) (am.lt d)).1).mod Y λc d=>(aS c (aq c d) (am.lt d)).2.1).mod L λc d=>(aS c (aq c d) (am.lt d)).2.2
  have O: ∀c,np.ag=some c->h.size<=c/\c<k.size/\c≠o.size/\c≠j.size:=λc d=>by have:=ac c d;have:=an.lt d;omega
  have el:Own Ib Bp al np ((Aq D).names.map λn:Nat=>(n:Int)):=(((an.mod J λc d e=>by have:=O c d;have:=an.lt d;omega).mod bc λc d=>(bd c (O c d).1 (O c d).2.1 (O c d).2.2.1 (O c d).2.2.2).1).mod Y λc d=>(bd c (O c d).1 (O c d).2.1 (O c d).2.2.1 (O c d).2.2.2).2.1).mod L λc d=>(bd c (O c d).1 (O c d).2.1 (O c d).2.2.1 (O c d).2.2.2).2.2
  have bQ:=bd nt cc (by omega) (by omega) (by omega);have en:Ed al nt b nn aJ false:=((dH.mod bc bQ.1).mod Y bQ.2.1).mod L bQ.2.2;have eo:Ed al X b nl s false:=bC.mod L (by omega);have ep:Ce al b Sb m:=cC.mod L λc d=>by have:=ak c d;omega
  have eq:Ext g al:=cE.then (L.aj λc _ d=> .inr (by have:=Q.size;omega));have er: ∀(i:Nat) (t:Nat) (p:Nat×List Pr),ps[i]? =some t->((Aq D).names.map λn=>(n,D.T n))[i]? =some p-> ∃T U,bS al t p.2 (NQ p.2) T U/\hB.size<=T/\U<=k.size/\(∀ c,tp.ag=some c-> ¬(T<=c/\c<U))/\Hl p.2:=λcS t p ad W=>by
   rw[Cl] at W;cases be:(Aq D).names[cS]? with
   |none=>rw[be] at W;cases W
   |some n=>
    rw[be] at W;cases W;obtain⟨T,bv,bw,bx,cu,a2⟩:=cm cS t n ad be;refine⟨T,bv,((bw.mod bc λc c1 c2=>(aS c (by omega) (by omega)).1).mod Y λc c1 c2=>(aS c (by omega) (by omega)).2.1).mod L λc c1 c2=>(aS c (by omega) (by omega)).2.2,bx,cu,a2,(ab.cS n (AM be)).2⟩
  have cT:((Aq D).names.map λn=>(n,D.T n)).map (·.1)=(Aq D).names:=by rw[AW];exact Kp _
  obtain⟨cQ,es,bf⟩:=bL.make (g:=g) (h:=al) (q:=⟨o.size,b,X,nt,j.size,Sb,ns,tp,np,ps⟩) (st:=⟨Ey D,(Aq D).names.map λn=>(n,D.T n),(Aq D).next,(Aq D).aW,s,aJ,false⟩) (m:=m) (N0:=h.size) (NB:=hB.size) (NC:=k.size) (ND:=H.size)
   (by simpa [eE] using cJ) ep eo en aN ek (by simp[bs,v]) (by unfold eF;rw[AW];exact el) eq Q.size (λc d=>⟨b7 c d,ak c d⟩)
   cc du (by show j.size<o.size;omega) dy co dL (by show X<H.size;omega) (λc d=>⟨ac c d,an.lt d⟩) (λc d=>⟨aq c d,am.lt d⟩) bG er (by omega)
  have bR:Mod Sb h al:=by refine⟨by have:=a5.size;omega,λc d Z=>?_⟩;have ad:=a5.get c d (λh=>h);have f3:=a5.size;have W:=Y.get c (by omega) (by rintro(h|h);exact Z h;have:=V.size;omega);have et:=L.get c (by omega) (by omega);exact et.trans (W.trans ad)
  have f4:=bR.size;have cU: ∀n,ff m (aX n)≠none->n<8*aH+8:=C.nD;have f5:=Vj m.files;refine AOQ (N:=8*aH+8) (q:=⟨o.size,b,X,nt,j.size,Sb,ns,tp,np,ps⟩) E es hd ab cT.symm (by omega) cU dn (by simp;omega) (by omega)
   (λeu bT cV aA ev ew bU ex bV aR ey bW=>⟨_,rfl,?_⟩) λbT cV ez aA aE eA cW bV aR eB cX eC bW bU eD=>⟨_,rfl,?_⟩
  ·refine dj eu bT o.size cV aA ev ew (bR.then (bU.aj λc _ d=>bf c d)) (λc d=>?_) (λG cY=>⟨D,bV.dV cY,?_,rfl⟩) (λw y=>aR w λn=>RP y n) (AG bW (B.up (BY _) bn))
   ·rcases ex c d with h|h
    ·exact bf c h
    ·exact .inr (by omega)
   ·refine jq.mono ⟨C.aP,C.aY,C.next,C.aW,C.ct,C.bY,λn Z=>cU n (ey n (cY.some Z))⟩ (BY _) (A0 _)
  ·have eG: ∀n,ff aA (aC nl n)=ff m (aC nl n):=λn=>aR _ (MQ n)
   have eH: ∀n,ff aA (aC nn n)=ff m (aC nn n):=λn=>aR _ (Qt n)
   have cZ:Ei (ff aA) ⟨Ey D,(Aq D).names.map λn=>(n,D.T n),aE,(Aq D).aW,s,aJ,false⟩ D:=
    ⟨bV,cT.symm,λp bX=>by
     obtain⟨n,_,rfl⟩:=List.mem_map.1 bX;rfl,rfl,cX,λp bX=>by
     obtain⟨n,Z,rfl⟩:=List.mem_map.1 bX;have j:=S.below n Z;have o:(Aq D).next<=aE:=cX;show n<aE;omega,rfl,λn bg bY _=>by
     have bg:s<=n:=bg;rw[eG];exact dN n (by omega) bY,(λh=>by cases h),λn bg bY=>by rw[eH];exact dr n bg bY,⟨S.aW.1,dX⟩,ds,λn Z=>eB n Z⟩
   have eI:TR ⟨Ey D,(Aq D).names.map λn=>(n,D.T n),aE,(Aq D).aW,s,aJ,false⟩ D (aH+1) c:=by have f6:aE<=8*aH+8:=eC;exact⟨by show s<=_;omega,by show aJ<=_;omega,by show aE<=_;omega,by show((Aq D).names.map _).length<=_;simp;omega,C.bY,by omega,by omega⟩
   refine dl bT _ ez _ aA D rfl ⟨eA,cW.up,cZ,eI,AG bW (B.up (BY _) bn),d⟩ cW cZ.map.symm (λw y=>aR w λn=>RP y n) (bR.then (bU.aj λc _ d=>bf c d)) λc d=>?_
   rcases eD c d with h|h
   ·exact bf c h
   ·exact .inr (by omega)
 have c0:sl.len=(Np D).length:=by rw[ck.len];simp
 refine af.intro (λu=>?_) (λu=>?_)
 ·have bF:Np D≠ []:=λe=>by
   have:=of_decide_eq_true u;rw[c0,e] at this;simp at this
  obtain⟨av,x,bh⟩: ∃av x,Np D=av++ [x]:=⟨_,_,(List.dropLast_concat_getLast bF).symm⟩;have bi:Aq D=x:=by unfold Aq;rw[bh,SO];rfl
  have c4:sl.len=av.length+1:=by rw[c0,bh];simp
  have f7:av.length<=8000000000000:=by rw[bh] at bp;simp at bp;omega
  rw[c4];have eJ:J8 J9 (((av.length+1:Nat):Int)-(1:Int))=((av.length:Nat):Int):=by rw[wrap_i64 (by omega) (by omega)];omega
  rw[eJ,<-c4];rw[bi] at S br;have eK:((Np D).map λx=>AX (EK x))[av.length]? =some (AX (EK x)):=by rw[bh];simp
  refine ck.idx eK λa _ ar=>AJ.mk ar.str ?_
  have f8:=S.next;have f9:=S.aW;have ga:=S.ct;have c5:=S.below;have c6:EK x=Bb x.next++(Bb x.aW++(Bb x.names.length++(x.names.flatMap Bb++ []))):=by simp[EK,A4]
  rw[c6];have c7:=zN S;rw[c6] at c7;simp only[A1] at c7;refine KP λc8 c9 bZ=>⟨_,rfl,?_⟩
  have aG:=Ap bZ cf;refine De (most:=2147483647) c9 (by simp only[A1];omega) (by decide) λgb da eL=>⟨_,rfl,?_⟩
  rw[Co (by omega) (by omega)] at da ⊢;refine De (most:=99999999) da (by simp only[A1];omega) (by decide) λaY db eM=>⟨_,rfl,?_⟩
  rw[Co (by omega) (by omega)] at db ⊢;have gc:=bZ.size;have bj:I.size≠o.size:=by omega
  have dc:Mod (· =I.size) c8 aY:=eL.trans eM;have eN:=dc.ag aG (by omega);refine ae.dw eN (by simp) λgd eO eP ge=>ae.dw eO (by simp) λaZ eQ eR gf=>?_
  have dd:Mod (· =o.size) aY aZ:=eP.trans eR;have eS:Ir aZ I.size ⟨Bb x.names.length++(x.names.flatMap Bb++ []),false⟩:=dd.ag db bj;refine De (most:=65536) eS (by simp only[A1];omega) (by decide) λeT de df=>⟨_,rfl,?_⟩
  rw[Co (by omega) (by omega)] at de ⊢;have eU:=df.ag eQ (λe=>bj e.symm);have eV:Mod (λc=>o.size<=c) I eT:=(Ext.mod bZ).trans (((dc.aj λc _ d=>by omega).trans (dd.aj λc _ d=>by omega)).trans (df.aj λc _ d=>by omega));refine Loop.rule (λF aM k=> ∃(i:Nat) (np:Sl),aM=((i:Int),())/\F=x.names.length-i/\i<=x.names.length/\Mod (λc=>o.size<=c) I k/\Ir k I.size ⟨(x.names.drop i).flatMap Bb++ [],false⟩/\Own Ib Bp k np ((x.names.take i).map λn:Nat=>(n:Int))/\(∀ c,np.ag=some c->I.size<c)/\
    k[o.size]? =some (J2 #[Ar b,J5 none,Ar nt,Ar j.size,J4 none 0 0,J4 np.p np.len np.cap,J6 J9 (x.next:Int),J6 J9 (x.aW:Int),J3 false] FW (0,0))) ?_
   ⟨0,⟨none,0,0⟩,rfl,rfl,A5 _,eV,de,Own.nil,λc d=>by simp[Sl.ag] at d,by simpa using eU⟩
  rintro gg F _ k ⟨i,np,rfl,rfl,U,J,bk,b0,ac,ap⟩ eW;have co:=J.size;dsimp only;refine af.intro (λu=>?_) (λu=>?_)
  ·have v:i<x.names.length:=by have:=of_decide_eq_true u;omega
   have ah:x.names[i]? =some x.names[i]:=A2 v;have eX:x.names.drop i=x.names[i]::x.names.drop (i+1):=Fo v;have gh:=c5 _ (B9 v);refine Aa.mk (s:=np) (AB ap rfl) ?_;rw[eX,AF,A4] at bk;have gi:((x.names.drop (i+1)).flatMap Bb).length<=600000:=by
    have:=VO (l:=x.names.drop (i+1)) λn Z=>by have:=c5 n (Hj Z);omega
    have e:=Cp (l:=x.names) (i:=i+1);omega
   have gj:=AV (n:=x.names[i]) (by omega);refine De (most:=2147483647) bk (by simp only[A1,GP];omega) (by decide) λb1 dg bm=>⟨_,rfl,?_⟩
   rw[Co (by omega) (by omega)] at dg ⊢;have b2:=bm.ag ap (λe=>bj e.symm);refine⟨AB b2 rfl,ao.mk λeY _ eZ aT gk=>⟨AB (Ap aT b2) rfl,?_⟩⟩;have e0:Own Ib Bp b1 np ((x.names.take i).map λn:Nat=>(n:Int)):=b0.mod bm λc d e=>by have:=ac c d;omega
   have e1:=e0.ext aT;have src:View Ib eY ⟨some ⟨b1.size,0,none⟩,1,1⟩ [(x.names[i]:Int)]:=(Own.lit (E:=Ib) (l:= [(x.names[i]:Int)]) eZ rfl (by simp[maxLen])).view;refine GJ (s:=np) (src:=⟨some ⟨b1.size,0,none⟩,1,1⟩) sn e1 src (by simp;omega) (by simp[maxLen];omega) λaI gl e2 b3 e3 _=>?_
   have e4:=b3.ag (Ap aT b2) (λe=>by have:=ac _ e;omega);refine ae.dw e4 (by simp) λgm e5 b4 gn=>?_
   rw[Ab (by omega)];have go:=bm.size;have dh: ∀c,aI.ag=some c->I.size<c:=λc d=>by
    rcases e3 c d with h|h
    ·exact ac c h
    ·omega
   have gp:I.size<c8.size:=Aj c9;refine eW (x.names.length-(i+1)) _ _ (by omega) ⟨i+1,aI,rfl,rfl,v,?_,?_,?_,dh,by simpa using e5⟩
   ·exact J.trans ((((bm.aj λc _ d=>by omega).trans (Ext.mod aT)).trans (b3.aj λc _ d=>by have:=ac c d;omega)).trans (b4.aj λc _ d=>by omega))
   ·have e6:=aT.ag dg (λh=>h);have e7:=b3.ag e6 (λe=>by have:=ac _ e;omega);exact b4.ag e7 bj
   ·rw[AD,ah];simp only[CD,C2,BW,RM];exact e2.mod b4 λc d e=>by have:=dh c d;omega
  ·have v:i=x.names.length:=by have:=of_decide_eq_false u;omega
   subst v;rw[Bm] at b0;rw[P3] at bk;refine Mg bk ⟨_,rfl,?_⟩;have e8:Sg ⟨([]:List Nat).flatMap Bb++ [],false⟩=true:=rfl;rw[e8];refine af.no rfl ?_;have e9: ∀ {b5:Nat} {di:Obj},I[b5]? =some di->b5<o.size->k[b5]? =some di:=λe bE=>J.ag e (by omega)
   refine br k np ⟨by omega,λc d Z=>?_⟩ ap b0 (λc d=>by have:=ac c d;omega) (e9 ci (by omega)) (cj.mod J λc d e=>?_)
   ·have b6:=ch.get c d Z;rw[<- b6];exact J.get c (by omega) (by omega)
   ·rcases d with rfl|⟨w,y,_⟩
    ·omega
    ·cases y
 ·have b6:Np D= []:=by have:=of_decide_eq_false u;exact DA (by omega)
  have bi:Aq D=⟨1,1,[]⟩:=by unfold Aq;rw[b6];rfl
  refine br I ⟨none,0,0⟩ ch (by rw[bi];exact cf) (by rw[bi];exact Own.nil) (λc d=>by simp[Sl.ag] at d) ci cj
end
open M (Sorted Ad Bu Ay Ae Am BL Ag bo A9 aM A8)
section
variable {A : al} {B : cu} {g h : aa} {q : Hp} {k : Nat -> Nat} {st : Db} {m : Bx} {D : Bn} {aH c : Nat} {R : A2L}
theorem Bq.dq(a:Bq B g h q k st m D aH c):st.fr.length<=1000000/\st.ts.length<=100000/\(Ae (st.fr::aE st)).length<=1099511627776/\(Cr st).length<=100000:=by have d:=a.eJ.dq a.lim;have e:=a.eJ.jK a.lim;have f:=a.hc;have i:=B.hC;have b:=a.eJ.lM.ct;rw[a.eJ.iK] at b;have j:(Cr st).length<=(Ae (st.fr::aE st)).length:=sB _;omega
theorem Bq.sorted(a:Bq B g h q k st m D aH c):Sorted (Cr st):=FM _ _
end
def D0:Bn:=⟨λ_=> [],λ_=> [],λ_=> [],1,1⟩
theorem AT6:Aq D0=⟨1,1,[]⟩:=rfl
theorem ATx {e:bP}(i: ∀a,e (aC nl a)=none)(d: ∀a,e (aC nn a)=none)(j: ∀x,e x≠none->(bl x).head? ≠some 116):BJ e D0/\jq e D0 0 0/\cH D0= []:=by
 refine⟨⟨⟨λa p _ _ h=>?_,λ_ _ _ _=>rfl,λa _ _=>i a,λ_ _=>rfl⟩,⟨λa p _ _ h=>?_,λ_ _ _ _=>rfl,λa _ _=>d a,λ_ _=>rfl⟩,λa d=>?_,λa b l=>?_,λa x f=>?_,λx f hd=>absurd hd (j x f),by decide⟩,⟨by decide,by decide,by decide,by decide,by decide,by decide,λa d=>?_⟩,rfl⟩
 ·rw[i a] at h;cases h
 ·rw[d a] at h;cases h
 ·rw[AT6] at d;cases d
 ·cases l
 ·cases f
 ·exact absurd (YD a) (j _ d)
section
variable {A : al} {B : cu} {g h : aa} {q : Hp} {k : Nat -> Nat} {st : Db} {m : Bx} {D : Bn} {aH c : Nat} {R : A2L}
theorem Bq.on {b:aa}(a:Bq B g h q k st m D aH c)(x:Ext h b):Bq B g b q k st m D aH c:=⟨a.mem.on x,a.up,a.eJ,a.lim,a.wt,a.hc⟩
theorem Bq.beside {b:aa}{d:Nat->Prop}(a:Bq B g h q k st m D aH c)(x:Mod d h b)(hX: ∀c,d c->k c=0/\g.size<=c):Bq B g b q k st m D aH c:=⟨a.mem.beside x hX,a.up,a.eJ,a.lim,a.wt,a.hc⟩
theorem Bq.more {b:Nat}(a:Bq B g h q k st m D aH c)(d:c<=b)(e:b<=B.C):Bq B g h q k st m D aH b:=⟨a.mem,a.up,a.eJ,a.lim.mono (A0 _) d,a.wt,e⟩
theorem Bq.free(a:Bq B g h q k st m D aH c){x:Nat}(d:h.size<=x):k x=0:=Decidable.byContradiction λb=>by
 have:=(a.mem.own x b).2;omega
theorem Bq.base(a:Bq B g h q k st m D aH c){x:Nat}(d:x<g.size):k x=0:=Decidable.byContradiction λb=>by
 have:=(a.mem.own x b).1;omega
theorem AO9 {b:Nat}{Sb:Nat->Prop}(p:cy g)(r:Ce h b Sb m)(s:Ext g h)(t: ∀c,Sb c->g.size<=c)(hd:m.down=false)(o:m.fuel= -1)(u: ∀j,ff m (aC nl j)=none)(v: ∀j,ff m (aC nn j)=none)(w: ∀x,ff m x≠none->(bl x).head? ≠some 116)(hA:1<=B.A)(N:ba m.files<=B.W0)
  (y: ∀a d f i e l,d.b=b->Bq B g a d f i e l 1 0->e.fuel= -1->Cr i= []->(∀ n,¬cG n->ff e n=ff m n)->Mod Sb h a->(∀ c,f c≠0->Sb c\/h.size<=c)->R (J1 #[Ar d.d,J6 J9 0]) a):AA A P Sj #[Ar b] h R:=by
 obtain⟨z,C,E⟩:=ATx u v w;refine AOK (B:=B) p r s t hd z C (A5 _) hA (by omega) (λF=>absurd o F) λa d f i e l G H I J K L M=>?_
 exact y a d f i e l G H (I.calm o) (J.trans E) K L M
end
abbrev kb:A2M:=⟨#[98]⟩
abbrev v1:A2M:=⟨#[49]⟩
abbrev v2:A2M:=⟨#[50]⟩
open Go Go.ChangeShapes Go.WideShapes Go.ChangeAt Go.RowKit Go.Proofs.YtgpmoonnachoaaaGreatDoor
def listed:List (String×DataW Unit):=Rows.archiveMovesRow.laid
theorem ANJ: ∃(x c a b:String×DataW Unit),listed= [x,c,(ACM,Lib.tabData .u64 Lib.pow10Tab),a,b]:=⟨_,_,_,_,rfl⟩
theorem ATz:P.globalNamed ACM=some 2:=by kernel_rfl
theorem ATQ:(P.globals[2]?).map (·.type)=some UL:=by kernel_rfl
theorem ATy:P.underlying UL=some (.array 20 ZZ):=by kernel_rfl
theorem AS2:P.underlying ZZ=some (.int .u64):=by kernel_rfl
theorem AUA:P.cellsOf ZZ=1:=by kernel_rfl
theorem AUJ:P.cellsOf UL=20:=by kernel_rfl
theorem ALB:listed.filter (λx=>x.2.handleName?.isSome)= []:=by kernel_rfl
theorem re {b:World}(a:laidMetH P listed b):laidMet P listed b:=by unfold laidMetH at a;rw[ALB] at a;exact a
theorem ARy {c:World}(e:laidMetH P listed c):Lib.TabIs P c ACM .u64 Lib.pow10Tab:=by have d:=re e;obtain⟨x,g,a,b,f⟩:=ANJ;rw[f] at d;exact Lib.tabIs_of_head (rest:= [a,b]) ATz ATQ ATy AS2 AUA AUJ (laidMet.tail (laidMet.tail d))
theorem AR0 {a:World}(c:laidMetH P listed a):dh a.heap:=λd e=>by
 have b:=ARy c;unfold Lib.TabIs World.var? at b ⊢;exact b
def oH : String := String.ofList [Char.ofNat 42] ++ "errors.errorString"
def wh:String:=Rows.archiveMovesRow.named.getD 1 (String.ofList [])
def wk:String:=Rows.archiveMovesRow.named.getD 0 (String.ofList [])
theorem ATP: ∃(x a z b:String×DataW Unit) (text:List UInt8),listed= [x,a,z,(wh,.iface oH (.ptr (.agg [.lit (.string text)]))),b]:=⟨_,_,_,_,_,rfl⟩
theorem ASb: ∃(x a z b:String×DataW Unit) (text:List UInt8),listed= [x,a,z,b,(wk,.iface oH (.ptr (.agg [.lit (.string text)])))]:=⟨_,_,_,_,_,rfl⟩
theorem AUE:P.globalNamed wh=some 1:=by kernel_rfl
theorem ATm:P.globalNamed wk=some 0:=by kernel_rfl
theorem ASx:(P.globals[1]?).map (·.type)=some oG:=by kernel_rfl
theorem ASa:(P.globals[0]?).map (·.type)=some oG:=by kernel_rfl
theorem AUB: ∃a,P.underlying oG=some (.interface a):=⟨_,Proofs.Tryz.underlying293⟩
theorem ASi(u:Q7)(a:P.typeName? 3 u=some oH):u=Ef:=
 typeName_ptr_named (nm := "errors.errorString") (by kernel_rfl) (by kernel_rfl) (by decide) u a
theorem ATt:P.underlying Ef=some (.pointer FQ):=by kernel_rfl
theorem AUY: ∃f:Field,P.underlying FQ=some (.struct #[f])/\f.type=BK/\f.offset=0:=⟨_,Proofs.Tryz.underlying388,rfl,rfl⟩
theorem AUW:P.cellsOf FQ=1:=by kernel_rfl
theorem wm {b:String}{text:List UInt8}{h:List (String×DataW Unit)}{a:World}{g:Nat}(i:laidMet P ((b,.iface oH (.ptr (.agg [.lit (.string text)])))::h) a)(c:P.globalNamed b=some g)(j:(P.globals[g]?).map (·.type)=some oG):lB a.heap g:=by
 obtain⟨p,k⟩:=AUB;obtain⟨f,l,m,n⟩:=AUY;obtain⟨d,q,o,_,_,_⟩:=laid_sentinel i c j k ASi ATt l m n ATF AUW AUV;have e:a.cell? ⟨g,0,none⟩=some (.iface Ef (.pointer (some d))):=by simpa using World.var?_cell c o 0
 refine⟨.iface Ef (.pointer (some d)),?_,.inr ⟨_,_,rfl⟩⟩;unfold ah;unfold World.cell? at e;exact e
theorem AS1 {d:World}(b:laidMetH P listed d):cy d.heap:=by
 refine⟨AR0 b,?_,?_⟩
 ·have a:=re b;obtain⟨x,e,z,f,t,c⟩:=ASb;rw[c] at a;exact wm (laidMet.tail (laidMet.tail (laidMet.tail (laidMet.tail a)))) ATm ASa
 ·have a:=re b;obtain⟨x,e,z,f,t,c⟩:=ATP;rw[c] at a;exact wm (laidMet.tail (laidMet.tail (laidMet.tail a))) AUE ASx
def AJU:DataW Unit->Array J0
 | .agg ds=>(ds.map λ| .lit (.int a z)=>Value.int a z|_=> .bool false).toArray
 |_=> #[]
def fill(a:DataW Unit):Obj->Obj
 | .cells _ t frozen=> .cells (AJU a) t frozen
 |o=>o
def jg(b:Nat):Obj->Obj
 | .cells _ t frozen=> .cells #[.iface Ef (.pointer (some ⟨b,0,none⟩))] t frozen
 |o=>o
abbrev AQu:A2M:=⟨#[118,97,108,117,101,32,111,117,116,32,111,102,32,114,97,110,103,101]⟩
abbrev ARR:A2M:=⟨#[105,110,118,97,108,105,100,32,115,121,110,116,97,120]⟩
noncomputable def low:Nat:=(World.holding P default ⟨#[],#[],[]⟩).heap.size
noncomputable def Zo (os:Os):World:=
 let a:=World.holding P os ⟨#[.cells #[.string AQu] FQ,.cells #[.string ARR] FQ],#[],[]⟩
 {a with heap:=((((a.heap.modify 2 (fill Rows.laid_internal_strconv_uint64pow10)).modify 4 (fill Rows.laid_math_bits_deBruijn32tab)).modify 5 (fill Rows.laid_math_bits_deBruijn64tab)).modify 1 (jg low)).modify 0 (jg (low+1))}
theorem AJI(os:Os)(args:Array J0):laidMet P listed ((Zo os).forCall (λ_ _=>0) ⟨#[],args,[]⟩).memory:=
 laidMet_of_run' 8 (by kernel_rfl) (by kernel_rfl)
end Go.Lf.G
namespace Go.Lf.G.M
open Go Go.ChangeShapes Go.WideShapes Go.ChangeAt Go.RowKit Go.Proofs.YtgpmoonnachoaaaGreatDoor
def mH(a:World):al:=⟨a.tape,a.os,a.output⟩
section
variable {H : Type} {enc : Q7 × J0 -> H} {w : World} {base : Nat} {spare : Nat -> Bool} {held : Bool}
instance:Inhabited Pr:=⟨⟨⟨#[]⟩,⟨#[]⟩,false⟩⟩
instance:Inhabited Sl:=⟨⟨none,0,0⟩⟩
end
end Go.Lf.G.M
namespace Go.Lf.G
open Go
open M (Sorted Ad Bu Ay Ae Am BL Ag bo A9 aM A8)
structure ATs where
 kind:Int
 bs:Sl
 key:A2M
 til:A2M
 most:Int
 ks:Sl
structure AUc (N:Nat) (h:aa) (x:ATs) (l:List Pr) (ks:List Int):Prop where
 bs:View BO h x.bs l
 ks:View Ib h x.ks ks
 key:x.key.size<=N
theorem ASE {e:Type}{d:cJ e}{h:aa}{s:Sl}{l:List e}(v:View d h s l)(f:l≠ []){b:Nat}(i:s.ag=some b):b<h.size:=by
 cases l with
 |nil=>exact absurd rfl f
 |cons x l=>
  obtain⟨a,j,n⟩:=v.cells 0 x rfl;have p:=d.pos;have r:=d.len x;obtain⟨u,o⟩: ∃u,(d.enc x)[0]? =some u:=⟨_,A2 (by omega)⟩;have:=Vb (n 0 u o);rw[aU,aU] at this;have t:a.block=b:=by simpa [Sl.ag,j] using i
  omega
section
variable {A : al} {B : cu} {g h : aa} {q : Hp} {k : Nat -> Nat} {st : Db} {m : Bx} {D : Bn} {aH c : Nat} {R : A2L}
theorem Bq.put {b a:Nat}(d:Bq B g h q k st m D aH c)(e:aH<=b)(f:c<=a)(i:a<=B.C):Bq B g h q k st m D b a:=(d.aH e).more f i
theorem Bq.args(a:Bq B g h q k st m D aH c){s:Sl}{l:List Pr}(v:View BO g s l):l≠ []-> ∀b,s.ag=some b->b<h.size/\k b=0:=λd b e=>by
 have f:=ASE v d e;have:=a.mem.ext.size;exact⟨by omega,a.base f⟩
end
theorem AJo {A:al}{B:cu}{g h:aa}{q:Hp}{k:Nat->Nat}{st:Db}{m:Bx}{D:Bn}{aH c:Nat}{R:A2L}{s:Sl}{l:List Pr}(u:cy g)(j:Bq B g h q k st m D aH c)(i:m.fuel= -1)(hA:aH+3<=B.A)(v:View BO h s l)(w:l≠ []-> ∀b,s.ag=some b->b<h.size/\k b=0)(x:c+64<=B.C)
  (y: ∀e n z C f G,n.d=q.d->n.b=q.b->Bq B g e n z C f G (aH+3) (c+64)->f.fuel= -1->Cr C=(if Eo l=0 then cq (Cr st) l else Cr st)->(∀ o,¬cG o->ff f o=ff m o)->Mod (λc=>k c≠0) h e->(∀ c,z c≠0->k c≠0\/h.size<=c)->R (J6 J9 (Eo l)) e):
  AA A P Ld #[Ar q.d,J4 s.p s.len s.cap] h R:=by
 by_cases a:Eo l=0
 ·have W:=(zR a).1.len;refine zV (B:=B) (s:=s) u j hA v w (λ_=>by omega) (λE=>absurd a E) (λ_ e f p=>absurd i p.fuel) (λ_ e f p=>absurd i p.fuel) λ_ r H I J K L M N O Q S T U V=>?_
  have:=y r H I J K L M N (O.put (A0 _) (by omega) x) (Q.calm i) (by rw[if_pos a];exact S.map) T U V;rwa [a] at this
 ·refine zV (B:=B) (s:=s) u j hA v w (λd=>absurd d a) (λE r F=>?_) (λd=>absurd d a) (λd=>absurd d a) (λd=>absurd d a);exact y r q k st m D rfl rfl ((j.on F).put (by omega) (by omega) x) i (by rw[if_neg a]) (λ_ _=>rfl) (F.aj λc _ t=>t.elim) λc t=> .inl t
open Go Go.ChangeShapes Go.WideShapes Go.ChangeAt Go.RowKit Go.Proofs.YtgpmoonnachoaaaGreatDoor
section
variable {H : Type} {enc : Q7 × J0 -> H} {w : World} {base : Nat} {spare : Nat -> Bool} {held : Bool}
end
section
variable {H : Type} {enc : Q7 × J0 -> H} {w : World} {base : Nat} {spare : Nat -> Bool} {held : Bool}
end
def Ja(a:al)(U:Int)(V:aa)(c:A2L):=AA a P KH #[] V λv p=> ∃q:Bool,v=J3 q/\(af (!q) (c (J3 false) p) (ao p (J2 #[J5 none,J5 none,J5 none,J5 none] GM) λb W=>AA a P Ve #[] W λv1 X=> ∃r:Q2,v1=J5 r/\(AA a P Hy #[J5 (some (Q5 b 0 none)),J5 r] X λv2 t=> ∃u:Bool,v2=J3 u/\(af (!u) (c (J3 false) t) (AA a P Gm #[J5 (some (Q5 b 0 none)),J6 J9 ((J8 J9 ((U.tmod (120:Int))+120)).tmod (120:Int))] t λY Z=> ∃w:A2M,∃x:A2M,∃y:Bool,∃z:Bool,Y=J1 #[.agg #[J7 w,J7 x,J3 y],J3 z]/\(ao Z (J2 #[J7 (⟨#[]⟩:A2M),J7 (⟨#[]⟩:A2M),J3 false] AQ) λd ab=>ae ab (Q5 d 0 none) (J7 w) λac=>ae ac (Q9 (Q5 d 0 none) 1) (J7 x) λad=>ae ad (Q9 (Q5 d 0 none) 2) (J3 y) λag=>AA a P FZ #[J5 (some (Q5 b 0 none))] ag λaj A=> ∃e:Sl,∃B:Bool,aj=J1 #[J4 e.p e.len e.cap,J3 B]/\(ai (λ(ak:Bool×Unit) C=>af ak.1 (c (J3 false) C) (Loop (λam (s:Int×Unit) f=>AY f (Q9 (Q5 b 0 none) 2) λan=>AY f (Q9 (Q5 b 0 none) 3) λap=>AJ f (Q5 d 0 none) λaq=>AJ f (Q9 (Q5 d 0 none) 1) λar=>AZ f (Q9 (Q5 d 0 none) 2) λau=>AA a P JJ #[J5 an,J5 ap,J7 (⟨#[119]⟩:A2M),.agg #[J7 aq,J7 ar,J3 au]] f λav aw=> ∃n:Bool,∃D:Int,av=J1 #[J3 n,J6 J9 D]/\(AA a P FZ #[J5 (some (Q5 b 0 none))] aw λax o=> ∃g:Sl,∃E:Bool,ax=J1 #[J4 g.p g.len g.cap,J3 E]/\(ai (λ(ay:Bool×Unit) j=>af ay.1 (c (J3 false) j) (af n (AY j (Q9 (Q5 b 0 none) 1) λF=>AA a P Ih #[J7 (⟨#[119]⟩:A2M)] j λaz G=> ∃H:A2M,az=J7 H/\(And (ah G (Q9 (Q5 b 0 none) 1)=some (J5 F))<| AA a P ER #[J5 F,J7 H,J7 (⟨#[]⟩:A2M),J6 J9 99] G λaA I=> ∃k:Sl,∃J:Int,aA=J1 #[J4 k.p k.len k.cap,J6 J9 J]/\(AY I (Q9 (Q5 b 0 none) 1) λL=>AA a P KT #[J6 J9 0] I λaC M=> ∃N:A2M,aC=J7 N/\(And (ah M (Q9 (Q5 b 0 none) 1)=some (J5 L))<| AA a P ER #[J5 L,J7 N,J7 (⟨#[]⟩:A2M),J6 J9 9] M λaD h=> ∃l:Sl,∃O:Int,aD=J1 #[J4 l.p l.len l.cap,J6 J9 O]/\(AY h (Q9 (Q5 b 0 none) 2) λaE=>AY h (Q9 (Q5 b 0 none) 3) λaF=>AJ h (Q5 d 0 none) λaG=>AJ h (Q9 (Q5 d 0 none) 1) λaH=>AZ h (Q9 (Q5 d 0 none) 2) λaI=>AA a P JJ #[J5 aE,J5 aF,J7 (⟨#[119]⟩:A2M),.agg #[J7 aG,J7 aH,J3 aI]] h λaJ i=> ∃aK:Bool,∃Q:Int,aJ=J1 #[J3 aK,J6 J9 Q]/\(af (J==0) (af (O==0) (af ((k.len:Int)==0) (af ((l.len:Int)==0) (c (J3 (Q==100)) i) (c (J3 false) i)) (c (J3 false) i)) (c (J3 false) i)) (c (J3 false) i))))))) (am ((J8 J9 (s.1+1)),()) j))) λm=>af (D != 0) (m (true,()) o) (af (!E) (m (true,()) o) (AA a P Kq #[J4 g.p g.len g.cap,J4 e.p e.len e.cap] o λaL R=> ∃S:Bool,aL=J3 S/\(af (!S) (m (true,()) R) (AA a P KF #[J6 J9 (e.len:Int)] R λaM aN=> ∃T:Int,aM=J6 J9 T/\(m ((!(n==(s.1==T))),()) aN)))))))) (1,()) C)) λK=>af (!z) (K (true,()) A) (K ((!B),()) A))))))))
theorem OL {a b c d}(e:Ja a b c d):AA a P JG #[J6 J9 b] c d:=Ac (AO AU (AO Ct (CX 2 (AO Ct (CX 2 (AO (AO (.bB [(47,.one .bool)] [3,4,6]) EH) (AO (AO AU (.block (.loop [(8,.one (.int J9))] [3,4,6] (AO (.block (CX 2 (AO (AO (.bB [(88,.one .bool)] [3,4,6,8,9]) EH) Fz))) AU)))) mw))))))) (by kernel_rfl) e
end Go.Lf.G
namespace Go.Lf
open G
open Go
abbrev bg.V(s:bg)(a b c:Sl):bF:=⟨a,s.prog.az,s.status,s.next,s.bd,s.asked,s.taken,s.fresh,b,c,s.cancel,s.aQ⟩
end Go.Lf
namespace Go.Lf.G
open Go
structure KA (h:aa) (s:bg) (a b c:Sl):Prop where
 steps:View Ql h a s.prog.steps
 au:View fB h b s.au
 ak:View gq h c s.ak
theorem KA.mod {g:Nat->Prop}{h j:aa}{s:bg}{a b c:Sl}(i:KA h s a b c)(m:Mod g h j)(k: ∀x,a.ag=some x-> ¬g x)(l: ∀x,b.ag=some x-> ¬g x)(n: ∀x,c.ag=some x-> ¬g x):KA j s a b c:=
 ⟨i.steps.mod m λx d f=>k x d f,i.au.mod m λx d f=>l x d f,i.ak.mod m λx d f=>n x d f⟩
theorem KA.ext {h f:aa}{s:bg}{a b c:Sl}(d:KA h s a b c)(x:Ext h f):KA f s a b c:=⟨d.steps.ext x,d.au.ext x,d.ak.ext x⟩
structure D3 (h hh:aa) (T0 T1 T2:Q7) (x:bF) (e:Ev) (y:bF):Prop where
 ext:Ext h hh
 b0:hh[h.size]? =some (J2 x.c T0 (0,0))
 b1:hh[h.size+1]? =some (J2 e.c T1 (0,0))
 b2:hh[h.size+2]? =some (J2 y.c T2 (0,0))
section
variable {A : al} {h hh : aa} {T0 T1 T2 : Q7} {x y : bF} {e : Ev} {R : A2L}
theorem mj {K:Nat->Nat->Nat->aa->Prop}(m: ∀hh,D3 h hh T0 T1 T2 x e y->K h.size (h.size+1) (h.size+2) hh):
  ao h (J2 x.c T0) λb f=>ao f (J2 e.c T1) λn g=>ao g (J2 y.c T2) λo a=>K b n o a:=by
 refine ao.mk λf _ p q c=>ao.mk λg _ i j k=>ao.mk λa _ l d r=>?_
 rw[c] at i;rw[k,c] at l;have:=m a ⟨(q.trans j).trans d,d.ag (j.ag p (λh=>h)) (λh=>h),d.ag i (λh=>h),l⟩;rw[k,c];exact this
theorem D3.on {b:aa}(a:D3 h hh T0 T1 T2 x e y)(m:Ext hh b):D3 h b T0 T1 T2 x e y:=⟨a.ext.trans m,m.ag a.b0 (λh=>h),m.ag a.b1 (λh=>h),m.ag a.b2 (λh=>h)⟩
theorem D3.set {c:Nat}{v:J0}{x':bF}{K:aa->Prop}(a:D3 h hh T0 T1 T2 x e y)(d:c<12)(f:x.c.setIfInBounds c v=x'.c)(g: ∀h',D3 h h' T0 T1 T2 x' e y->K h'):ae hh ((⟨h.size,0,none⟩:Q6).add c) v K:=
 ae.bJ a.b0 d f λh' i m s=>g h' ⟨a.ext.more m λb j=>by subst j;exact A0 _,i,m.ag a.b1 (by omega),m.ag a.b2 (by omega)⟩
theorem D3.iB {j:Nat}{v:J0}{x':bF}{K:aa->Prop}(d:D3 h hh T0 T1 T2 x e y)(f:j<12)(g:x.c.setIfInBounds j v=x'.c)(i: ∀a,D3 h a T0 T1 T2 x' e y->Mod (λc=>c=h.size) hh a->K a):ae hh ((⟨h.size,0,none⟩:Q6).add j) v K:=
 ae.bJ d.b0 f g λa k m s=>i a ⟨d.ext.more m λb l=>by subst l;exact A0 _,k,m.ag d.b1 (by omega),m.ag d.b2 (by omega)⟩ m
theorem D3.pz {v:J0}{x':bF}{K:aa->Prop}(b:D3 h hh T0 T1 T2 x e y)(d:x.c.setIfInBounds 0 v=x'.c)(f: ∀a,D3 h a T0 T1 T2 x' e y->Mod (λc=>c=h.size) hh a->K a):ae hh (⟨h.size,0,none⟩:Q6) v K:=
 b.iB (j:=0) (by decide) d f
theorem D3.cR {j:Nat}{v:J0}(a:D3 h hh T0 T1 T2 x e y)(b:x.c[j]? =some v):ah hh ((⟨h.size,0,none⟩:Q6).add j)=some v:=AB a.b0 b
theorem D3.bJ {j:Nat}{v:J0}(a:D3 h hh T0 T1 T2 x e y)(b:e.c[j]? =some v):ah hh ((⟨h.size+1,0,none⟩:Q6).add j)=some v:=AB a.b1 b
theorem Ep {h:aa}{b:Nat}{T:Q7}{fr:Nat×Nat}{x:bF}(a:h[b]? =some (J2 x.c T fr)):Cells h ⟨b,0,none⟩ x.l:=Dn a rfl
theorem Qr {h:aa}{b:Nat}{T:Q7}{fr:Nat×Nat}{x:Ev}(a:h[b]? =some (J2 x.c T fr)):Cells h ⟨b,0,none⟩ x.l:=Dn a rfl
theorem Nn(x y:bF):gB y.c 0 x.l=x.c:=rfl
theorem qg(x y:Ev):gB y.c 0 x.l=x.c:=rfl
theorem qh(x y:bQ):gB y.c 0 x.l=x.c:=rfl
theorem D3.jw(a:D3 h hh T0 T1 T2 x e y):ah hh (⟨h.size,0,none⟩:Q6)=some (J4 x.steps.p x.steps.len x.steps.cap)/\ah hh ((⟨h.size,0,none⟩:Q6).add 1)=some (J6 J9 x.az)/\ah hh ((⟨h.size,0,none⟩:Q6).add 2)=some (J6 J9 x.status)/\ah hh ((⟨h.size,0,none⟩:Q6).add 3)=some (J6 J9 x.next)/\ah hh ((⟨h.size,0,none⟩:Q6).add 4)=some (J6 J9 x.bd)/\ah hh ((⟨h.size,0,none⟩:Q6).add 5)=some (J6 J9 x.asked)/\ah hh ((⟨h.size,0,none⟩:Q6).add 6)=some (J6 J9 x.taken)/\ah hh ((⟨h.size,0,none⟩:Q6).add 7)=some (J3 x.fresh)/\ah hh ((⟨h.size,0,none⟩:Q6).add 8)=some (J4 x.au.p x.au.len x.au.cap)/\ah hh ((⟨h.size,0,none⟩:Q6).add 9)=some (J4 x.ak.p x.ak.len x.ak.cap)/\ah hh ((⟨h.size,0,none⟩:Q6).add 10)=some (J3 x.cancel)/\ah hh ((⟨h.size,0,none⟩:Q6).add 11)=some (J3 x.aQ):=
 ⟨a.cR (j:=0) rfl,a.cR (j:=1) rfl,a.cR (j:=2) rfl,a.cR (j:=3) rfl,a.cR (j:=4) rfl,a.cR (j:=5) rfl,a.cR (j:=6) rfl,a.cR (j:=7) rfl,a.cR (j:=8) rfl,a.cR (j:=9) rfl,a.cR (j:=10) rfl,a.cR (j:=11) rfl⟩
theorem D3.fg {K:bF->Prop}(a:D3 h hh T0 T1 T2 x e y)(b:K x):Az hh ⟨h.size,0,none⟩ K:=Az.mk x (Ep a.b0) b
theorem D3.kG {K:Ev->Prop}(a:D3 h hh T0 T1 T2 x e y)(b:K e):Mt hh ⟨h.size+1,0,none⟩ K:=Mt.mk e (Qr a.b1) b
theorem D3.ni {z:bF}{K:aa->Prop}(d:D3 h hh T0 T1 T2 x e y)(g: ∀a,D3 h a T0 T1 T2 z e y->Mod (λc=>c=h.size) hh a->K a):aL hh ⟨h.size,0,none⟩ z.l K:=
 aL.mk d.b0 (A0 12) λa f m s=>g a ⟨d.ext.more m λb i=>by subst i;exact A0 _,(by rw[Nn] at f;exact f),m.ag d.b1 (by omega),m.ag d.b2 (by omega)⟩ m
theorem D3.tell {z:bF}{K:bF->aa->Prop}(c:D3 h hh T0 T1 T2 x e y)(g: ∀a,Ext h a->K z a):aL hh ⟨h.size+2,0,none⟩ z.l λd=>Az d ⟨h.size+2,0,none⟩ λi=>K i d:=
 aL.mk c.b2 (A0 12) λa f m s=>Az.mk z (Ep (by rw[Nn] at f;exact f)) (g a (c.ext.more m λb j=>by subst j;omega))
theorem D3.iY {z:bF}{K:bF->aa->Prop}(d:D3 h hh T0 T1 T2 x e y)(i: ∀a,Ext h a->Mod (λc=>c=h.size+2) hh a->K z a):aL hh ⟨h.size+2,0,none⟩ z.l λf=>Az f ⟨h.size+2,0,none⟩ λj=>K j f:=
 aL.mk d.b2 (A0 12) λa g m s=>Az.mk z (Ep (by rw[Nn] at g;exact g)) (i a (d.ext.more m λb k=>by subst k;omega) m)
theorem D3.ret {K:bF->aa->Prop}(a:D3 h hh T0 T1 T2 x e y)(d: ∀b,Ext h b->K x b):Az hh ⟨h.size,0,none⟩ λt=>aL hh ⟨h.size+2,0,none⟩ t.l λc=>Az c ⟨h.size+2,0,none⟩ λf=>K f c:=
 a.fg (a.tell d)
theorem D3.pA {K:bF->aa->Prop}(b:D3 h hh T0 T1 T2 x e y)(f: ∀a,Ext h a->Mod (λc=>c=h.size+2) hh a->K x a):Az hh ⟨h.size,0,none⟩ λt=>aL hh ⟨h.size+2,0,none⟩ t.l λd=>Az d ⟨h.size+2,0,none⟩ λg=>K g d:=
 b.fg (b.iY f)
theorem AIr {s:bg}{a b c:Sl}(T:2<=e.kind/\e.kind<=5)(C: ∀n,Ext h n->R (J1 #[(((Dv s e).getD s).V a b c).v,J3 (Dv s e).isSome]) n):AA A P Mf #[(s.V a b c).v,e.v] h R:=by
 refine YN ?_;unfold Qn;refine mj λH d=>?_
 refine ai.mk λK I=>ai.mk λJ L=>?_
 have v: ∀ {t:bg} {hh:aa},D3 h hh Av Ah Av (t.V a b c) e bF.z->Dv s e=some t->K () hh:=λ{t hh} d hd=>by
  refine I _ _ (d.ret λn x=>?_);have:=C n x;rw[hd] at this;exact this
 have no: ∀ {hh:aa},D3 h hh Av Ah Av (s.V a b c) e bF.z->Dv s e=none->Az hh ⟨h.size,0,none⟩ λt=>aL hh ⟨h.size+2,0,none⟩ t.l λD=>Az D ⟨h.size+2,0,none⟩ λM=>R (J1 #[M.v,J3 false]) D:=λ{hh} d hd=>by
  refine d.ret λn x=>?_
  have:=C n x;rw[hd] at this;exact this
 have key: ∀(o:Bool),(e.kind=2->(o=true↔s.asked=0/\s.taken=0/\s.fresh=true))->(e.kind≠2->o=false)->J (o,()) H:=λo E N=>by
  refine L _ _ (af.intro (λk=>?_) (λk=>?_))
  ·have k:o=true:=k;have g:e.kind=2:=Decidable.byContradiction λh=>by rw[N h] at k;cases k
   refine AC.mk (d.bJ (j:=0) rfl) (d.set (x':=({s with asked:=e.id}:bg).V a b c) (by decide) rfl λz m=>v m ?_);unfold Dv;rw[if_pos g,if_pos ((E g).1 k)]
  ·have k:o=false:=k;refine ai.mk λU F=>AC.mk (d.bJ (j:=1) rfl) (af.intro (λi=>?_) (λi=>?_))
   ·have i:e.kind=3:=by simpa using i
    refine AC.mk (d.cR (j:=5) rfl) (AC.mk (d.bJ (j:=3) rfl) (F _ _ (af.intro (λf=>?_) (λf=>?_))))
    ·have f:s.asked=e.ref:=by simpa using f
     refine AC.mk (d.bJ (j:=0) rfl) (d.set (x':=({s with asked:=0}:bg).V a b c) (by decide) rfl λz m=>⟨m.bJ (j:=0) rfl,?_⟩);refine m.set (x':=({s with asked:=0,taken:=e.id}:bg).V a b c) (by decide) rfl λO B=>B.set (x':=({s with asked:=0,taken:=e.id,fresh:=false}:bg).V a b c) (by decide) rfl λV Q=>v Q ?_
     unfold Dv;rw[if_neg (by omega),if_pos i,if_pos f]
    ·have f:s.asked≠e.ref:=by simpa using f
     refine ai.mk λS w=>AC.mk (d.bJ (j:=1) rfl) (af.no (by simp[i]) (w _ _ (af.no rfl ?_)))
     refine ai.mk λG p=>AC.mk (d.bJ (j:=1) rfl) (af.no (by simp[i]) (p _ _ (af.no rfl (no d ?_))))
     unfold Dv;rw[if_neg (by omega),if_pos i,if_neg f]
   ·have i:e.kind≠3:=by simpa using i
    refine F _ _ (af.no rfl (ai.mk λS w=>AC.mk (d.bJ (j:=1) rfl) (af.intro (λl=>?_) (λl=>?_))))
    ·have l:e.kind=4:=by simpa using l
     refine AC.mk (d.cR (j:=6) rfl) (AC.mk (d.bJ (j:=3) rfl) (w _ _ (af.intro (λf=>?_) (λf=>?_))))
     ·have f:s.taken=e.ref:=by simpa using f
      refine d.set (x':=({s with taken:=0}:bg).V a b c) (by decide) rfl λz m=>v m ?_
      unfold Dv;rw[if_neg (by omega),if_neg i,if_pos l,if_pos f]
     ·have f:s.taken≠e.ref:=by simpa using f
      refine ai.mk λG p=>AC.mk (d.bJ (j:=1) rfl) (af.no (by simp[l]) (p _ _ (af.no rfl (no d ?_))))
      unfold Dv;rw[if_neg (by omega),if_neg i,if_pos l,if_neg f]
    ·have l:e.kind≠4:=by simpa using l
     refine w _ _ (af.no rfl (ai.mk λG p=>AC.mk (d.bJ (j:=1) rfl) (af.intro (λu=>?_) (λu=>?_))))
     ·have u:e.kind=5:=by simpa using u
      refine AC.mk (d.cR (j:=6) rfl) (AC.mk (d.bJ (j:=3) rfl) (p _ _ (af.intro (λf=>?_) (λf=>?_))))
      ·have f:s.taken=e.ref:=by simpa using f
       refine d.set (x':=({s with taken:=0}:bg).V a b c) (by decide) rfl λz m=>m.set (x':=({s with taken:=0,fresh:=true}:bg).V a b c) (by decide) rfl λO B=>v B ?_
       unfold Dv;rw[if_neg (by omega),if_neg i,if_neg l,if_pos f]
      ·have f:s.taken≠e.ref:=by simpa using f
       refine no d ?_;unfold Dv;rw[if_neg (by omega),if_neg i,if_neg l,if_neg f]
     ·have u:e.kind≠5:=by simpa using u
      have g:e.kind=2:=by omega
      refine p _ _ (af.no rfl (no d ?_));unfold Dv;rw[if_pos g,if_neg λh=>by rw[(E g).2 h] at k;cases k]
 refine AC.mk (d.bJ (j:=1) rfl) (af.intro (λg=>?_) (λg=>key _ (λh=>by simp[h] at g) λ_=>rfl));have g:e.kind=2:=by simpa using g
 refine AC.mk (d.cR (j:=5) rfl) (af.intro (λq=>?_) (λq=>key _ (λ_=>by simp at q;simp[q]) λh=>absurd g h));have q:s.asked=0:=by simpa using q
 refine AC.mk (d.cR (j:=6) rfl) (af.intro (λr=>?_) (λr=>key _ (λ_=>by simp at r;simp[r]) λh=>absurd g h));have r:s.taken=0:=by simpa using r
 exact AZ.mk (d.cR (j:=7) rfl) (key _ (λ_=>by simp[q,r]) λh=>absurd g h)
theorem X7 {s:bg}{a b c:Sl}{d:Int}(k: ∀g,Ext h g->R ((Zk s d).V a ⟨none,0,0⟩ ⟨none,0,0⟩).v g):AA A P Ik #[(s.V a b c).v,J6 J9 d] h R:=by
 refine AD0 ?_;unfold Wv;refine ao.mk λJ _ l n K=>ao.mk λL _ o i M=>?_
 have p:=i.ag l (λh=>h);refine ae.bJ (dK:=(({s with status:=d}:bg).V a b c).c) p (of_decide_eq_true rfl) rfl λN q r _=>?_
 refine ae.bJ (dK:=(({s with status:=d,asked:=0}:bg).V a b c).c) q (of_decide_eq_true rfl) rfl λO t u _=>?_
 refine ae.bJ (dK:=(({s with status:=d,asked:=0,taken:=0}:bg).V a b c).c) t (of_decide_eq_true rfl) rfl λQ v w _=>?_
 refine ae.bJ (dK:=(({s with status:=d,asked:=0,taken:=0,fresh:=false}:bg).V a b c).c) v (of_decide_eq_true rfl) rfl λS z B _=>?_
 refine ae.bJ (dK:=(({s with status:=d,asked:=0,taken:=0,fresh:=false}:bg).V a ⟨none,0,0⟩ c).c) z (of_decide_eq_true rfl) rfl λT C D _=>?_
 refine ae.bJ (dK:=(({s with status:=d,asked:=0,taken:=0,fresh:=false}:bg).V a ⟨none,0,0⟩ ⟨none,0,0⟩).c) C (of_decide_eq_true rfl) rfl λU E F _=>?_
 have m:=((((r.trans u).trans w).trans B).trans D).trans F;have G:=m.ag o (by omega);refine Az.mk (({s with status:=d,asked:=0,taken:=0,fresh:=false}:bg).V a ⟨none,0,0⟩ ⟨none,0,0⟩) (Ep E) ?_;refine aL.mk G (A0 12) λH j I V=>Az.mk _ (Ep (by rw[Nn] at j;exact j)) (k H ?_)
 exact((n.trans i).more m λc f=>by subst f;exact A0 _).more I λc f=>by subst f;omega
theorem qi {s:bg}{a b c:Sl}(k:b.len=s.au.length)(l: ∀j,Ext h j->R (J3 (decide (PU s))) j):AA A P Lg #[(s.V a b c).v] h R:=by
 refine AEg ?_;unfold Zg;refine ao.mk λm _ i n o=>?_
 have g:=l m n;refine AC.mk (AB i rfl) (af.intro (λd=>?_) (λd=>?_))
 ·have d:s.asked=0:=by simpa using d
  refine AC.mk (AB i rfl) (af.intro (λf=>?_) (λf=>?_))
  ·have f:s.taken=0:=by simpa using f
   refine Aa.mk (s:=b) (AB i rfl) ?_;have e:decide (PU s)=(((b.len:Nat):Int)==(0:Int)):=by rw[k,DS];simp[PU,d,f,T6]
   rw[e] at g;exact g
  ·have f:s.taken≠0:=by simpa using f
   rw[show decide (PU s)=false from by simp[PU,f]] at g;exact g
 ·have d:s.asked≠0:=by simpa using d
  rw[show decide (PU s)=false from by simp[PU,d]] at g;exact g
end
end Go.Lf.G
namespace Go.Lf
open Go
structure Ea (s:bg) (n:Nat):Prop where
 au:s.au.length<=n
 ak:s.ak.length<=n
 steps:s.prog.steps.length<=16
 az:0<=s.prog.az/\s.prog.az<=16000
 bd:0<=s.bd/\s.bd<=1099511627776
 next:0<=s.next/\s.next<=501
 st:0<=s.status/\s.status<=4
 waits: ∀x∈s.prog.steps,0<=x.wait/\x.wait<=1000
theorem Ea.zero:Ea UI 0:=⟨by decide,by decide,by decide,by decide,by decide,by decide,by decide,λx a=>by cases a⟩
theorem AQe {x:bQ}(a:NR x=true):0<=x.wait/\x.wait<=1000:=by
 unfold NR at a
 repeat' split at a
 all_goals first|(simp only[A3,DG,decide_eq_true_eq,Bd] at a;omega)|cases a
theorem R5 {a:Ev}(d:Dl a=true):(1<=a.kind/\a.kind<=18)/\(1<=a.id/\a.id<=500)/\(0<=a.tick/\a.tick<=1099511627776)/\(a.kind=1-> ∃p,Jc (bl a.data)=some p/\GL p=true)/\(a.kind=12->Ak a.data=true):=by
 unfold Dl at d;rw[A3] at d;obtain⟨c,b⟩:=d;simp only[En,A3] at c;refine⟨Bd.1 c.1.1.1.1.1.1.1,Bd.1 c.1.1.1.1.1.1.2,Bd.1 c.1.1.1.1.1.2,λe=>?_,λe=>?_⟩
 ·unfold Ki at b;rw[if_pos e] at b;obtain⟨p,f⟩:=Option.isSome_iff_exists.1 b;exact⟨p,f,(wG f).1⟩
 ·unfold Ki at b;rw[if_neg (by omega),if_pos e] at b;exact b
theorem xY {p:cn}(a:GL p=true):p.steps.length<=16/\(0<=p.az/\p.az<=16000)/\ ∀x∈p.steps,NR x=true:=by simp only[GL,A3,decide_eq_true_eq,E0] at a;exact⟨a.1.1,Bd.1 a.1.2,a.2⟩
structure mO (s t:bg):Prop where
 prog:t.prog=s.prog
 next:t.next=s.next
 bd:t.bd=s.bd
theorem Qa {s t:bg}{b:Ev}(a:Dv s b=some t):mO s t/\t.au=s.au/\t.ak=s.ak/\t.status=s.status:=by
 unfold Dv at a
 repeat' split at a
 all_goals first|(cases a;exact⟨⟨rfl,rfl,rfl⟩,rfl,rfl,rfl⟩)|cases a
theorem xZ {s t:bg}{b:Ev}(a:KL s b=some t):mO s t/\(t.au=s.au\/t.au= [])/\(t.ak=s.ak\/t.ak= [])/\(t.status=s.status\/(1<=t.status/\t.status<=4)):=by
 unfold KL at a
 repeat' split at a
 all_goals first|(cases a;first|exact⟨⟨rfl,rfl,rfl⟩,.inl rfl,.inl rfl,.inl rfl⟩|exact⟨⟨rfl,rfl,rfl⟩,.inr rfl,.inr rfl,.inr (by simp only[Zk];omega)⟩)|cases a
theorem y4 {s t:bg}{b:Ev}(a:MJ s b=some t):mO s t/\t.au.length<=s.au.length+1/\t.ak=s.ak/\t.status=s.status:=by
 unfold MJ at a;split at a
 ·obtain⟨x,c,a⟩:=Option.bind_eq_some_iff.1 a;split at a
  ·cases a
  ·cases a;exact⟨⟨rfl,rfl,rfl⟩,by simp,rfl,rfl⟩
 ·obtain⟨i,d,a⟩:=Option.bind_eq_some_iff.1 a;obtain⟨e,f,a⟩:=Option.bind_eq_some_iff.1 a
  repeat' split at a
  all_goals first|(cases a;exact⟨⟨rfl,rfl,rfl⟩,by first|(simp only[PJ];omega)|(have:=A0q s.au i;simp only;omega),rfl,rfl⟩)|cases a
theorem y5 {s t:bg}{b:Ev}(a:Kh s b=some t):mO s t/\t.au=s.au/\t.ak.length<=s.ak.length+1/\t.status=s.status:=by
 unfold Kh at a;split at a
 ·obtain⟨x,c,rfl⟩:=Option.map_eq_some_iff.1 a;exact⟨⟨rfl,rfl,rfl⟩,rfl,by simp,rfl⟩
 ·obtain⟨i,d,rfl⟩:=Option.map_eq_some_iff.1 a;exact⟨⟨rfl,rfl,rfl⟩,rfl,by have:=A0q s.ak i;simp only;omega,rfl⟩
theorem AKs {s t:bg}{g:Ev}(a:PM s g=some t): ∃u:bg,t= {u with next:=s.next+1}/\mO s u/\u.au.length<=s.au.length+1/\u.ak.length<=s.ak.length+1/\(u.status=s.status\/(1<=u.status/\u.status<=4)):=by
 unfold PM at a;obtain⟨u,b,rfl⟩:=Option.map_eq_some_iff.1 a;refine⟨u,rfl,?_⟩;split at b
 ·obtain⟨c,d,e,f⟩:=Qa b;exact⟨c,by rw[d];omega,by rw[e];omega,.inl f⟩
 ·split at b
  ·obtain⟨c,d,e,f⟩:=y4 b;exact⟨c,d,by rw[e];omega,.inl f⟩
  ·split at b
   ·obtain⟨c,d,e,f⟩:=y5 b;exact⟨c,by rw[d];omega,e,.inl f⟩
   ·obtain⟨c,d,e,f⟩:=xZ b;exact⟨c,by rcases d with a|a<;>rw[a]<;>simp,by rcases e with a|a<;>rw[a]<;>simp,f⟩
theorem UO {s:bg}{c:Ev}{g:Nat}(b:Ea s g)(a:(Bh s c).1=0):Ea (Bh s c).2 (g+1):=by
 have ok:=Qx a;obtain⟨w,y,j,k,_⟩:=R5 ok;unfold Bh at a ⊢;rw[if_neg (by simp[ok])] at a ⊢;split at a
 ·rename_i f;rw[if_pos f];split at a
  ·rename_i d;rw[if_pos d];obtain⟨p,l,m⟩:=k d.1;obtain⟨n,o,q⟩:=xY m;show Ea (Xm c) _;unfold Xm;rw[l,GB];exact⟨A5 _,A5 _,n,o,j,by show(0:Int)<=2/\(2:Int)<=501;omega,by show(0:Int)<=0/\(0:Int)<=4;omega,λx r=>AQe (q x r)⟩
  ·cases a
 ·rename_i f;rw[if_neg f];split at a
  ·cases a
  ·rename_i d;rw[if_neg d];split at a
   ·cases a
   ·rename_i h;rw[if_neg h];have z:c.id=s.next:=by simpa using h
    cases i:PM s c with
    |none=>rw[i] at a;cases a
    |some t=>
     obtain⟨u,rfl,e,A,B,v⟩:=AKs i;have C:=b.au;have D:=b.ak;exact⟨by show u.au.length<=_;omega,by show u.ak.length<=_;omega,by show u.prog.steps.length<=_;rw[e.prog];exact b.steps,by show 0<=u.prog.az/\_;rw[e.prog];exact b.az,by show 0<=u.bd/\_;rw[e.bd];exact b.bd,by show 0<=s.next+1/\s.next+1<=501;omega,by
      have:=b.st;show 0<=u.status/\u.status<=4;rcases v with a|a<;>omega,by show ∀x∈u.prog.steps,_;rw[e.prog];exact b.waits⟩
theorem y6: ∀ {l:List Ev} {s t:bg} {a:Nat},Ea s a->FR s l=some t->Ea t (a+l.length)
 | [],s,t,a,c,b=>by cases b;exact c
 |e::l,s,t,a,c,b=>by
  rw[FR] at b;split at b
  ·rename_i d;have:=y6 (UO c d) b;rw[A6];rw[show a+(l.length+1)=a+1+l.length from by omega];exact this
  ·cases b
end Go.Lf
namespace Go.Lf
open Go
variable {α : Type} {E : cJ α} {A : al} {P : Q1}
theorem Mod.mod {d:Nat->Prop}{b c:aa}(a:Mod (λ_=>False) b c):Mod d b c:=a.aj λ_ _ b=>b.elim
def y7(A:al)(P:Q1)(t f:Q7)(c:Nat)(s:Sl)(i:Int)(b:Int)(d:aa)(e:A2L):Prop:=
 aG ((0:Int)<=((s.len:Nat):Int)/\((s.len:Nat):Int)<=((s.cap:Nat):Int))<|
 aG ((0:Int)<=b/\b<=(((((s.len:Nat):Int).toNat):Nat):Int))<|
 aG ((0:Int)<=i/\i<=((b.toNat:Nat):Int))<|
 af (i==b) (
  e (.slice s.p s.len s.cap) d) (
  aG ((0:Int)<=i/\i<=((s.cap:Nat):Int))<|
  aG ((0:Int)<=b/\b<=((s.len:Nat):Int))<|
  BG A P (Builtin.append_ #[t,t] t #[.slice (A7 s.p s.cap 0 c) (i.toNat-0) (s.cap-0),.slice (A7 s.p s.cap b.toNat c) (s.len-b.toNat) (s.cap-b.toNat)]) d λv g=> ∃a:Sl,v= .slice a.p a.len a.cap/\(
  aG ((0:Int)<=((s.len:Nat):Int)/\((s.len:Nat):Int)<=((a.cap:Nat):Int))<|
  aG ((0:Int)<=((a.len:Nat):Int)/\((a.len:Nat):Int)<=((((s.len:Nat):Int).toNat:Nat):Int))<|
  BG A P (Builtin.clear_ #[t] f #[.slice (A7 a.p a.cap (((a.len:Nat):Int).toNat) c) ((((s.len:Nat):Int).toNat)-(((a.len:Nat):Int).toNat)) (a.cap-(((a.len:Nat):Int).toNat))]) g λv1 h=>v1= .tuple #[]/\(
  e (.slice a.p a.len a.cap) h)))
theorem ATM {t m T:Q7}{a:J0}(o:P.underlying t=some (.slice T))(p:(zeroValue T).calc P=some a)(f: ∀v∈a.cells.toList,MS v=true){d:aa}{b e q:Nat}{g:Array J0}{K:A2L}
  (h:d[b]? =some (.cells g T (0,0))) (B:e+a.cells.size<=g.size)
  (r: ∀c,c[b]? =some (.cells (ia g e a.cells.toList) T (0,0))->Mod (· =b) d c->c.size=d.size->K (.tuple #[]) c):
  BG A P (Builtin.clear_ #[t] m #[.slice (some ⟨b,e,none⟩) 1 q]) d K:=by
 intro n;have s:(Builtin.zeroCells a.cells 1).toList=a.cells.toList:=by
  unfold Builtin.zeroCells;rw[Nd];apply List.ext_getElem
  ·simp
  ·intro i f C;simp at f;simp[AE f,f]
 have j:=run_storeCells_cells (P:=P) b e a.cells.toList 0 (A.at d n)
  (λk l=>by
   show(ah d ⟨b,e+0+k,none⟩).isSome=true;rw[IJ h,FA (by simp at l;omega)];rfl)
  (λk l=>Pe h) (λv u=>Po (f v u))
 obtain⟨c,w,x,y,z⟩:=dd (A:=A) a.cells.toList e (n:=n) h;rw[G4,w] at j;refine⟨.tuple #[],c,n,?_,r c x y z⟩;simp[Builtin.clear_,BN o,DN p,s,j,Result.andThen]
theorem ANp {l:List α}{a:Nat}:(l.flatMap E.enc).take (a*E.w)=(l.take a).flatMap E.enc:=by
 induction l generalizing a with
 |nil=>simp
 |cons x l b=>
  cases a with
  |zero=>simp
  |succ a=>
   rw[AF,I2,AF,Ks,E.len,Ax (by rw[E.len,Bs];omega),Bs,Nd,MY,b]
theorem ANu {l:List α}{a:Nat}:(l.flatMap E.enc).drop (a*E.w)=(l.drop a).flatMap E.enc:=by
 induction l generalizing a with
 |nil=>simp
 |cons x l b=>
  cases a with
  |zero=>simp
  |succ a=>
   rw[AF,I0,PB,E.len,HE (by rw[E.len,Bs];omega),Bs,Nd,MY,b,CN]
theorem y9 {t R T:Q7}{zv:J0}{S:Nat}(U:QZ P t T E.w S=true)(V:(zeroValue T).calc P=some zv)(W: ∀v∈zv.cells.toList,MS v=true)(F:zv.cells.size=E.w){c:aa}{s:Sl}{l:List α}{i:Nat}{G:A2L}
  (H:Own E T c s l) (I:i<l.length)
  (X: ∀w,Own E T w ⟨s.p,l.length-1,s.cap⟩ (l.eraseIdx i)->Mod (λb=>s.ag=some b) c w->G (.slice s.p (l.length-1) s.cap) w):y7 A P t R E.w s (i:Int) ((i+1:Nat):Int) c G:=by
 obtain⟨J,Y,z,Z,aA,y,aC,aD⟩:=qR U;have K:=H.len;rcases H.row with⟨rfl,rfl⟩|⟨g,o,h,B,ab,ac,k,L⟩
 ·simp at I
 have ad:s.len*E.w<=s.cap*E.w:=AN _ ab;unfold y7;refine⟨⟨by omega,by omega⟩,⟨by omega,by omega⟩,⟨by omega,by omega⟩,af.no (by simp;omega) ⟨⟨by omega,by omega⟩,⟨by omega,by omega⟩,?_⟩⟩;rw[As,As,As,HD,HD];have ae:A7 s.p s.cap 0 E.w=some ⟨g,0,none⟩:=by unfold A7;rw[if_neg (by omega),h];simp[Bf]
 rw[ae]
 let m:=s.len-(i+1)
 let f:List J0:=(l.drop (i+1)).flatMap E.enc
 have nl:f.length=m*E.w:=by simp only[f,m];rw[KM,Cp,K]
 obtain⟨a,ag,ai⟩: ∃a,A7 s.p s.cap (i+1) E.w=some a/\ ∀j u,f[j]? =some u->(A.at c 0).cell? (a.add j)=some u:=by
  unfold A7;by_cases M:s.cap=i+1
  ·rw[if_pos M,h];refine⟨_,rfl,λj u d=>?_⟩;have:m=0:=by simp only[m];omega
   have d:=(List.getElem?_eq_some_iff.1 d).1;rw[nl,this] at d;omega
  ·rw[if_neg M,h];refine⟨_,rfl,λj u d=>?_⟩;show ah c ((Addr.add ⟨g,0,none⟩ ((i+1)*E.w)).add j)=some u;rw[Bf,Bf,AI,IJ B];simp only[f] at d;rw[<- ANu,C5,<-L,Fc] at d;split at d
   ·simpa using d
   ·cases d
 rw[ag];intro p;have aj: ∀u∈f,u.oneCell'=true:=λu ak=>by
  obtain⟨x,_,al⟩:=List.mem_flatMap.1 ak;exact Po (E.one x u al)
 have am:i*E.w+m*E.w<=s.cap*E.w:=by rw[<- Bs];exact AN _ (by simp only[m];omega)
 have N:=run_append_room (P:=P) (A.at c p) t t T Y J Z g i s.cap o B a m (s.cap-(i+1)) f (by rw[nl,y]) (λj u d=>ai j u d) aj (by simp only[m];omega) (by rw[y,nl,k];exact am);rw[y] at N
 let e:Array J0:=(o.toList.take (i*E.w)++f++o.toList.drop (i*E.w+f.length)).toArray
 obtain⟨n,an,ao,ap,aE⟩: ∃n,(A.at c p).setRow g e=A.at n p/\n[g]? =some (.cells e T (0,0))/\Mod (· =g) c n/\n.size=c.size:=by
  refine⟨_,rfl,?_,⟨?_,λb q aq=>?_⟩,?_⟩
  ·show(c.modify g _)[g]? =_;rw[GO,if_pos rfl,B];rfl
  ·show c.size<=(c.modify g _).size;simp
  ·show(c.modify g _)[b]? =_;rw[GO,if_neg (Ne.symm aq)]
  ·show(c.modify g _).size=_;simp
 refine⟨_,n,p,N.trans (by rw[<- an]),⟨some ⟨g,0,none⟩,i+m,s.cap⟩,rfl,⟨by omega,by show((s.len:Nat):Int)<=((s.cap:Nat):Int);omega⟩,⟨by omega,by show((i+m:Nat):Int)<=_;simp only[m];omega⟩,?_⟩;have C:i+m=l.length-1:=by simp only[m];omega
 dsimp only[Int.toNat_natCast];rw[C];have ar:A7 (some ⟨g,0,none⟩) s.cap (l.length-1) E.w=some ⟨g,(l.length-1)*E.w,none⟩:=by unfold A7;rw[if_neg (by omega)];simp[Bf]
 rw[ar,show s.len-(l.length-1)=1 from by omega];have r:e.size=o.size:=by simp only[e,List.size_toArray,A1,An,Cp,Ek];rw[nl];omega
 have O:(l.length-1)*E.w+E.w<=s.cap*E.w:=by rw[show(l.length-1)*E.w+E.w=l.length*E.w from by rw[<- Nat.succ_mul];congr 1;omega,<-K];exact ad
 refine ATM J V W ao (by rw[r,F,k];exact O) λQ au av aF=>⟨rfl,?_⟩
 rw[<- h];have aw:Mod (λb=>s.ag=some b) c Q:=(ap.aj λb _ q=>by subst q;simp[Sl.ag,h]).trans (av.aj λb _ q=>by subst q;simp[Sl.ag,h]);refine X Q ⟨by rw[List.length_eraseIdx,if_pos I],.inr ⟨g,_,h,au,by show l.length-1<=s.cap;omega,ac,?_,?_⟩⟩ aw
 ·show(ia _ _ _).size=s.cap*E.w;rw[Ii,r,k]
 ·show(ia e ((l.length-1)*E.w) zv.cells.toList).toList.take ((l.length-1)*E.w)=_;have ax:zv.cells.toList.length=E.w:=by rw[Ek,F]
  have D:e.size=s.cap*E.w:=by rw[r,k]
  rw[Og _ _ _ (by rw[ax,D];exact O),A4,Ks];have ay:(l.length-1)*E.w<=e.toList.length:=by
   have D:e.toList.length=s.cap*E.w:=by rw[Ek,r,k]
   rw[D];omega
  rw[An,Fm ay,LO,It,AK,Mn,Nat.min_self];simp only[e];have az:i*E.w<=o.toList.length:=by rw[Ek,k];omega
  rw[A4,Ks,An,Fm az,Ax (by rw[An,<-C,Bs];omega)];rw[<- C,Bs,T4,<-nl,Ks,LO,It,AK,Ax (A0 _)];rw[List.eraseIdx_eq_take_drop_succ,Ft,<-ANp,<-L,Mn,Fm (AN _ (by omega))]
end Go.Lf
