/-
 Contract: all tables become one (chapter 9).
-/
import Derived.Test.YtecomiijolnjpaaGreatDoorLfX3ToZ9
import Derived.Lib.AtoiAllCases
import Derived.Test.YtecomiijolnjpaaGreatDoorLfU2ToS3
import Derived.Test.YtecomiijolnjpaaGreatDoorCards
import Derived.Test.YtecomiijolnjpaaGreatDoorTie
import Derived.Deep.DeepHandedRow
import Derived.Lib.LaidTab
import Derived.Stop.LaidErr
import Derived.Test.YtecomiijolnjpaaGreatDoorLfX2ToY8
import Derived.Test.YtecomiijolnjpaaGreatDoorRows
import Derived.WalkKit
import Derived.ProofKit
import Derived.OpenShut
import Derived.JoinedCond
import Derived.Deep.Slices
import Derived.Carry
import Derived.Test.YtecomiijolnjpaaGreatDoorLfG1
set_option maxRecDepth 100000
set_option linter.unusedVariables false
set_option linter.unusedSimpArgs false
open Go.IntKind renaming i64→J9,wrap→J8
open Go.Value renaming string→J7,int→J6,pointer→J5,slice→J4,bool→J3,tuple→J1
open Go.Obj renaming cells→J2
open Go renaming Value→J0,Addr→Q6,TypeId→Q7,FuncId→Q8,Program→Q1
open Go.Addr renaming add→Q9,mk→Q5
namespace Go.Lf.G
open Go
open M (Sorted Ae Ca A8 Ag Ar BV Ah bE BF)
structure oy (B:cE) (h h':aa) (q:Hp) (k:Nat->Nat) (m m':Bx) (aJ:Nat):Prop where
 fuel:m.fuel≠ -1
 dn:rz h' q.d
 box: ∃S',Cm h' q.b S' m'/\ ∀c,S' c->k c≠0\/h.size<=c
 down:m'.down=true
 mod:Mod (λc=>k c≠0) h h'
 fg: ∀y,¬dd y->ff m' y=ff m y
 wt:bg m'.files<=B.W0+aJ*B.K
section
variable {A : al} {B : cE} {g h : aa} {q : Hp} {k : Nat -> Nat} {st : Db} {m : Bx} {D : Bl} {aJ c : Nat} {R : A2O}
theorem JS {f:aa}{e:Nat->Prop}{i:Bx}(a:bK g h q k st m)(o:Cm f q.b e i)(j:Mod (λc=>q.Sb c\/c=q.lg\/c=q.nt) h f)(l: ∀c,e c->q.Sb c\/h.size<=c)
  (p: ∀d,rz d q.d->Cm d q.b e i->Mod (λc=>k c≠0) h d->(∀ c,e c->k c≠0\/h.size<=c)->R (J6 J9 30) d):AA A P CV #[Ap q.d,J6 J9 30] f R:=by
 have u:=a.gW;have r:f[q.d]? =some (J2 (dZ q st false) Ey (0,0)):=j.af a.cell (by
  rintro(h|h|h)
  ·exact a.mJ h
  ·exact a.dl h
  ·exact a.dn h)
 have nd: ¬e q.d:=λb=>by
  rcases l _ b with h|h
  ·exact a.mJ h
  ·omega
 refine AQb r λd s n v=>p d s (o.mod n λc b t=>nd (t▸b)) ((j.ai λc _ b=>?_).trans (n.ai λc _ b=>?_)) λc b=>(l c b).imp (λh=>by rw[a.kb c h];decide) id
 ·rcases b with b|rfl|rfl
  ·rw[a.kb c b];decide
  ·rw[a.kl];decide
  ·rw[a.kn];decide
 ·rw[b,a.kd];decide
theorem ARn(a:Nat):dd (aU a):= .inr (.inr ⟨a,rfl⟩)
theorem ARb(a:Nat):dd (aD nn a):= .inr (.inl ⟨a,rfl⟩)
theorem AR4(a:Nat):dd (aD nl a):= .inl ⟨a,rfl⟩
theorem QS {a:A2P}(h: ¬dd a)(b:Nat):a≠aU b:=λd=>h (d▸ARn b)
theorem kN {a:A2P}(h: ¬dd a)(b:Nat):a≠aD nn b:=λd=>h (d▸ARb b)
theorem oz {a:A2P}(h: ¬dd a)(b:Nat):a≠aD nl b:=λd=>h (d▸AR4 b)
theorem AOR(d:bK g h q k st m)(L:El (ff m) st D)(l:R3 st D aJ c)(e:c<=B.C)(a:GI (aF st)≠ []):Gs (GI (aF st)):=by have f:=L.fK l;have i:=L.di l;have j:=B.hC;exact⟨a,λx b=>oA (oB.2 x b),oB.1,by omega⟩
theorem cE.step(B:cE){a w' aJ d:Nat}(h:a<=B.W0+aJ*B.K)(e:w'<=a+d)(hd:d<=20000*B.C+10000000):w'<=B.W0+(aJ+1)*B.K:=by
 have b:(aJ+1)*B.K=aJ*B.K+B.K:=Nat.succ_mul _ _;have f:B.K=20000*B.C+10000000:=rfl;rw[b];generalize aJ*B.K=x at*
 omega
theorem yj {t b a c:Nat}(d:t<=8400*c+1100000)(e:b<=a)(f:a<=8000000000000)(i:c<=100000):b+t+1<=8796093022208:=by omega
theorem AQ0 {a b d x:Nat}(e:b<=a+x)(f:d<=b+700000):d<=a+(x+700000):=by rw[<- GB];exact AF f (Nat.add_le_add_right e _)
theorem ANr(a:Nat):8400*a+1100001+700000<=20000*a+10000000:=by omega
theorem cE.step2(B:cE){a b d aJ:Nat}(h:a<=B.W0+aJ*B.K)(e:b<=a+(8400*B.C+1100001))(f:d<=b+700000):d<=B.W0+(aJ+1)*B.K:=
 B.step h (AQ0 e f) (ANr B.C)
theorem AJK(br:cj g)(S:Bp B g h q k st m D aJ c)(hA:aJ+1<=B.A)
  (bs: ∀h' ac,oy B h h' q k m ac (aJ+1)->jU (ff ac) (aJ+1) c (CZ st)->R (J6 J9 30) h')
  (b3: ∀h' aL b4 bF ac r,aL.d=q.d->aL.b=q.b->Bp B g h' aL b4 bF ac r (aJ+1) c->JN m ac->bF.fr=st.fr->CZ bF=CZ st->bF.ts.length<=1->(∀ E,¬dd E->ff ac E=ff m E)->Mod (λc=>k c≠0) h h'->(∀ c,b4 c≠0->k c≠0\/h.size<=c)->R (J6 J9 0) h'):
  AA A P JW #[Ap q.d] h R:=by
 have cR:=S;obtain⟨u,hd,L,l,aM,b⟩:=S;have eA:=B.hA;have cS:=B.hC;have cT:=B.wt (a:=aJ) (by omega);refine YS ?_;unfold QG;refine ah.mk λK cU=>YV u (cU _ _ (ae.no rfl ?_))
 refine aE (AY.mk (s:=q.tp) (AB u.cell rfl) ?_);have eB:=u.da;have cV:=u.ck.len;have eC:=l.cp;refine ae.intro (λI=>?_) (λI=>?_)
 ·have f:st.ts.length<=1:=by have:=of_decide_eq_true I;omega
  exact b3 h q k st m D rfl rfl (cR.aJ (by omega)) (JN.refl hd) rfl rfl f (λ_ _=>rfl) Mod.refl (λc b=> .inl b)
 refine aE (AY.mk (s:=q.tp) (AB u.cell rfl) ?_);refine Loop.rule (λaN x F=> ∃(i:Nat) (sl:Sl),x=(sl,(i:Int),())/\aN=q.ps.length-i/\i<=q.ps.length/\Ext h F/\(∀ c,sl.af=some c->h.size<=c)/\R9 A F sl ((aF st).take i)) ?_ ⟨0,⟨none,0,0⟩,rfl,rfl,by omega,Mod.refl,λc b=>by simp[Sl.af] at b,R9.nil⟩;rintro eD aN _ F ⟨i,sl,rfl,rfl,a8,aO,bt,a9⟩ b5;dsimp only;refine ae.intro (λI=>?_) (λI=>?_)
 ·have V:i<q.ps.length:=by rw[<- cV];simpa using I
  have cW:i<st.ts.length:=by omega
  have b6:q.ps[i]? =some q.ps[i]:=A2 V;have aP:st.ts[i]? =some st.ts[i]:=A2 cW;have cX:(aF st)[i]? =some st.ts[i].2:=by unfold aF;rw[Bm,aP];rfl
  have b7:=u.on aO;refine b7.ck.view.idx b6 λa _ c=>AZ.mk (Cells.pt c) ?_
  obtain⟨bu,eE,cY,cZ,c0,b8⟩:=b7.cL i _ _ b6 aP;refine ye cY cZ b8.eE λeF bv bw O eG=>⟨_,rfl,YU.mk bw.one.1 ?_⟩
  rw[M.rN] at bw;have v:=b8.many;refine R9.add (a9.ext O) bw (λc b e=>?_) (by omega) (by simp[aF];omega) λc1 h' aL ac c2=>?_
  ·obtain⟨eH,c3,_,_⟩:=a9;have ad:=c3.lt e;have eI:=bt c e;rcases b with f|f|f
   ·have:=c0 c f.1 f.2;have:=(u.own c (by rw[this];decide)).2;omega
   ·omega
   ·omega
  ·rw[Ab (by omega)];refine b5 (q.ps.length-(i+1)) _ _ (by omega) ⟨i+1,c1,rfl,rfl,V,?_,λc b=>?_,?_⟩
   ·exact(aO.trans O).then (ac.ai λc _ b=> .inr (bt c b))
   ·rcases c2 c b with f|f
    ·exact bt c f
    ·have:=aO.size;have:=O.size;omega
   ·rw[Ax,cX];exact aL
 have V:i=q.ps.length:=by
  have: ¬i<q.tp.len:=by simpa using I
  omega
 subst V;rw[AG (by simp[aF];omega)] at a9;clear b5;have c4:=bE.tail u.fT;refine M.rO a9.kX (λc h=>h.elim) (by simp[aF];omega) c4 λeJ b9 c5 ca _=>⟨_,rfl,?_⟩
 refine M.rP (.inr c5) λeK ba c6 cb _=>⟨_,rfl,?_⟩
 have eL:=L.fK l;have eM:=L.di l;have c7:(BF (Ag (aF st))).length<=1099511627776:=by have:(BF (Ag (aF st))).length=(GI (aF st)).length:=rfl;omega
 refine M.Vs c6 (λ_ _=>rfl) c7 λbx aQ az c8 c9=>⟨bx,rfl,?_⟩
 have bz:Ext h aQ:=((aO.trans ca).trans cb).trans c9;have az:Own BZ AR aQ bx (GI (aF st)):=az;have bb:=u.on bz;have eN:=bz.size;refine aE (AY.mk (s:=q.np) (AB bb.cell rfl) ?_);refine aE (ab.dm bb.cell (by simp) λeO da db eP=>?_);refine aE (ab.dm da (by simp) λX bA dc eQ=>?_);have bA:X[q.d]? =some (J2 (dZ {q with tp:=⟨none,0,0⟩,np:=⟨none,0,0⟩} {st with next:=st.next,aT:=st.aT} false) Ey (0,0)):=by simpa using bA
 have aR:Mod (· =q.d) aQ X:=db.trans dc;have ao:=bb.eU (tp:=⟨none,0,0⟩) (np:=⟨none,0,0⟩) (ps:= []) (ts:= []) (next:=st.next) (aT:=st.aT) (S:=λ_=>False) bA (aR.ai λc _ b=> .inl b) Own.nil Own.nil rfl
  (λc b=>by simp[Sl.af] at b) (λc b=>by simp[Sl.af] at b) (λc h=>h.elim) (λi t p f=>by simp at f)
 have de: ∀c,Kr k aQ.size ⟨none,0,0⟩ ⟨none,0,0⟩ (λ_=>False) c=k c:=λc=>by
  unfold Kr;split
  ·rfl
  ·rename_i f;simp[Sl.af];exact(by simpa using f:k c=0).symm
 have df:Kr k aQ.size ⟨none,0,0⟩ ⟨none,0,0⟩ (λ_=>False)=k:=funext de;rw[df] at ao;have aA:Mod (λc=>k c≠0) h X:=(Ext.mod bz).trans (aR.ai λc _ b=>by rw[b,u.kd];decide);have dg:=bb.names.view;have cc:View IE X q.np (eg st):=dg.mod aR λc b e=>by have:=u.kx c b;rw[e,u.kd] at this;cases this
 have cd:=L.iL l;have eR:=l.next;have eS:=l.aK;have bc:st.next∉st.ts.map (·.1):=λv=>by
  obtain⟨p,W,e⟩:=List.mem_map.1 v;have:=L.below p W;omega
 refine ah.mk λdh di=>?_
 have ce: ∀(F:aa) (ap:Hp) (bd:Nat->Nat) (y:Bx) (z:Nat) (w:List (Nat×List Pr)),bK g F ap bd {st with ts:=w,next:=z} y->ap.d=q.d->ap.b=q.b->JN m y->
   (∀ x,x≠aU st.next->ff y x=ff m x)->((w= []/\z=st.next/\GI (aF st)= []/\ff y (aU st.next)=none)\/(w= [(st.next,GI (aF st))]/\z=st.next+1/\ff y (aU st.next)=some (AX (JZ (GI (aF st))),bD)/\Gs (GI (aF st))))->
   bg y.files<=bg m.files+(8400*B.C+1100001)->Mod (λc=>k c≠0) h F->(∀ c,bd c≠0->k c≠0\/h.size<=c)->View IE F q.np (eg st)->(∀ c,q.np.af=some c->bd c=7)->dh () F:=by
  intro F ap bd y z w aq be aC bB Y J cf bf aS dj ba;refine di _ _ ?_;have dk: ∀x,(∀ n,x≠aU n)->ff y x=ff m x:=λx N=>Y x (N _)
  have dl:BD (ff y) D:=L.ok.fU λx N=>Y x (N st.next (by rw[L.names];exact bc))
  have dm:gS (cN {st with ts:=w,next:=z}):=by
   have eT:=L.eF;have eU:=l.au;rcases J with⟨rfl,rfl,_,_⟩|⟨rfl,rfl,_,_⟩
   ·exact⟨by show st.next<=_;omega,by show 1<=st.aT/\st.aT<=_;omega,by simp[cN],by simp[cN],by simp[cN]⟩
   ·exact⟨by show st.next+1<=_;omega,by show 1<=st.aT/\st.aT<=_;omega,by simp[cN],by simp[cN],by simp[cN]⟩
  have dn: ∀n∈(cN {st with ts:=w,next:=z}).names,ff y (aU n)=some (AX (JZ ((λ_=>GI (aF st)) n)),bD)/\Gs ((λ_=>GI (aF st)) n):=λn o=>by
   rcases J with⟨rfl,rfl,_,_⟩|⟨rfl,rfl,f,H⟩
   ·simp[cN] at o
   ·have o:n=st.next:=by simpa [cN] using o
    subst o;exact⟨f,H⟩
  have cg: ∀r:Bl,r.L=D.L->r.aP=D.aP->Aj r=cN {st with ts:=w,next:=z}->r.T=(λ_=>GI (aF st))->cu r=CZ st/\NW r<=c/\Ef r=st.fr:=λr bC bG af bh=>by
   have aC:=zi bC bG (by rw[af];exact L.aT.symm);have ch:Ef r=st.fr:=by unfold Ef;rw[aC];exact L.fr.symm
   have eV:=L.cp;have eW:=l.bV;refine⟨?_,?_,ch⟩
   ·unfold cu;rw[ch,af,bh];rcases J with⟨rfl,rfl,f,_⟩|⟨rfl,rfl,_,_⟩
    ·exact ABa u.fT f
    ·exact VZ u.fT
   ·unfold NW;rw[aC,af,bh];rcases J with⟨rfl,rfl,f,_⟩|⟨rfl,rfl,_,_⟩
    ·show 0+(IM D).flatten.length<=c;omega
    ·show((GI (aF st)).length+0)+(IM D).flatten.length<=c;omega
  have ci: ∀ {ar:bP},(∀ n,ar (aU n)≠none->ff y (aU n)≠none)-> ∀n,ar (aU n)≠none->n<8*(aJ+1)+8:=λbH n o=>by
   by_cases e:n=st.next
   ·omega
   ·have f:=bH n o;rw[Y _ λaV=>e (JO aV)] at f;have:=L.fw l f;omega
  have ck: ∀(r:Bl) (ar:bP),BD ar r->r.L=D.L->r.aP=D.aP->r.aV<=max D.aV (st.aK+1)->Aj r=cN {st with ts:=w,next:=z}->r.T=(λ_=>GI (aF st))->(∀ n,ar (aU n)≠none->ff y (aU n)≠none)->Rec ar (aJ+1) c (CZ st):=λr ar f bC bG o af bh bH=>by
   obtain⟨aW,aX,_⟩:=cg r bC bG af bh;have:=l.aP;have:=l.aV;have:=L.eF;have:=l.au;refine⟨r,f,⟨by omega,by omega,?_,?_,?_,aX,ci bH⟩,aW⟩
   ·rw[af];show z<=_;rcases J with⟨_,rfl,_⟩|⟨_,rfl,_⟩<;>omega
   ·rw[af];show st.aT<=_;omega
   ·rw[af];rcases J with⟨rfl,_⟩|⟨rfl,_⟩<;>simp[cN]
  rw[<- be];have dp:bg y.files+1000000<=8000000000000:=by have f:=B.wt (a:=aJ+1) hA;have H:=B.step (d:=8400*B.C+1100001+1000000) aM (w':=bg y.files+1000000) (by omega) (by omega);omega
  refine yU (T:=λ_=>GI (aF st)) br aq bB.up dl dm dn ⟨L.aK,by show st.aK+2<=_;omega⟩ (λn aY aZ=>by rw[dk _ λk=>OH n k];exact L.jq n aY aZ) dp
   (λbI a0 bJ ag dq dr bi ds dt Z bL=>⟨_,rfl,ae.yes rfl ?_⟩) λa0 bJ cl ag D3 du bM cm au bN bO bQ cn Z dv bL bi co=>⟨_,rfl,ae.no rfl ?_⟩
  ·refine JS aq dq (bi.ai λc _ b=>b.imp id .inr) ds λcp dw dx dy dz=>⟨_,rfl,?_⟩
   have dA:Mod (λc=>k c≠0) h cp:=bf.then (dy.ai λc _ b=>aS c b);have bj:bg ag.files<=B.W0+(aJ+1)*B.K:=B.step2 aM cf bL;refine bs cp ag ⟨λF=>bI (bB.calm F),by rw[<- be];exact dw,⟨bJ,by rw[<- aC];exact dx,λc b=>?_⟩,dr,dA,λE Q=>?_,bj⟩ λG a1=>?_
   ·rcases dz c b with f|f
    ·exact aS c f
    ·exact .inr (by have:=bf.size;omega)
   ·rw[Z E λn=>kN Q n,Y E (QS Q _)]
   ·obtain⟨r,cq,nx⟩:=dt G a1;have cr: ∀n,G (aU n)≠none->ff y (aU n)≠none:=λn o=>by
     have:=a1.some o;rwa [Z _ λj e=>OH j n e.symm] at this
    rcases nx.last with⟨ai,bk⟩|⟨ai,bk⟩
    ·obtain⟨aW,aX⟩:=zj nx.L nx.aP ai bk;have:=l.aP;have:=l.aV;have:=L.eF;have:=l.au;have:=L.next;have dB:=nx.aV;have bR:({st with ts:=w,next:=z}:Db).aK=st.aK:=rfl;rw[bR] at dB;exact⟨r,cq,⟨by rw[nx.aP];omega,by omega,by rw[ai];omega,by rw[ai,L.aT];omega,by rw[ai,L.iy];omega,by rw[aX];exact l.bV,ci cr⟩,by rw[aW];exact L.map⟩
    ·exact ck r G cq nx.L nx.aP nx.aV ai bk cr
  ·
   have bj: ∀ {cs},cs<=bg ag.files->cs<=B.W0+(aJ+1)*B.K:=λdC=>B.step2 aM cf (AF dC bL)
   have dD:View IE a0 q.np (eg st):=dj.mod bi λc b e=>by
    have f:=ba c b;rcases e with e|e
    ·rw[aq.kb c e] at f;cases f
    ·rw[e,aq.kn] at f;cases f
   have dE: ∀c,q.np.af=some c->c<F.size:=λc b=>(aq.own c (by rw[ba c b];decide)).2
   have eX:q.np.len=st.ts.length:=by rw[u.names.len];simp
   have dF:Mod (λc=>k c≠0) h a0:=bf.then (bi.ai λc _ b=>by
    rcases b with b|b
    ·exact aS c (by rw[aq.kb c b];decide)
    ·exact aS c (by rw[b,aq.kn];decide))
   have dG: ∀c,cl c≠0->k c≠0\/h.size<=c:=λc b=>by
    by_cases ad:c<F.size
    ·rw[co c ad] at b;exact aS c b
    ·exact .inr (by have:=bf.size;omega)
   have dH: ∀n,(∃ p∈st.ts,p.1=n)->(ff ag (aU n)).isSome=true/\n≠st.next:=λn o=>by
    obtain⟨p,W,rfl⟩:=o;have ad:=L.below p W;have aj:p.1≠st.next:=by omega
    have f:=(L.ok.cL p.1 (by rw[L.names];exact List.mem_map.2 ⟨p,W,rfl⟩)).1;rw[Z _ λj e=>OH j _ e.symm,Y _ λe=>aj (JO e),f];exact⟨rfl,aj⟩
   have dI:=L.nd;obtain⟨aW,aX,dJ⟩:=cg D3 bO bQ au bN;have eY:bM.up=bM.up:=rfl;refine Loop.rule (λaN x N=> ∃(i:Nat) (bm:Nat->Prop) (a2:Nat->Nat) (C:Bx),x=((i:Int),())/\aN=st.ts.length-i/\i<=st.ts.length/\bK g N {ap with Sb:=bm} a2 {st with ts:=w,next:=z,aK:=st.aK+1} C/\JN m C/\bg C.files<=bg ag.files/\
     (∀ x,(∀ n∈(st.ts.map (·.1)).take i,x≠aU n)->ff C x=ff ag x)/\(∀ n∈(st.ts.map (·.1)).take i,ff C (aU n)=none)/\Mod (λc=>k c≠0) h N/\(∀ c,a2 c≠0->k c≠0\/h.size<=c)/\View IE N q.np (eg st)/\(∀ c,q.np.af=some c->a2 c=7)) ?_
    ⟨0,bJ,cl,ag,rfl,rfl,by omega,du,bB.trans bM,A0 _,λx _=>rfl,by simp,dF,dG,dD,λc b=>by rw[co c (dE c b)];exact ba c b⟩
   rintro eZ aN _ N ⟨i,bm,a2,C,rfl,rfl,a8,al,a3,bS,U,bn,a4,a5,ct,bT⟩ dK;dsimp only;refine ae.intro (λI=>?_) (λI=>?_)
   ·have V:i<st.ts.length:=by have:=of_decide_eq_true I;omega
    have aP:st.ts[i]? =some st.ts[i]:=A2 V;have cv:(st.ts.map (·.1))[i]? =some st.ts[i].1:=by rw[Bm,aP];rfl
    have cw:st.ts[i]∈st.ts:=AW V;have e0:=L.below _ cw;refine ct.idx (i:=i) (x:=(st.ts[i].1:Int)) (by rw[eg,Bm,aP];rfl) λa _ dL=>AC.mk dL.int ?_
    refine aE (AZ.mk (AL al.cell rfl) ?_);refine P6 (al.gX br) (by omega) λbv O=>⟨_,rfl,⟨AL (al.on O).cell rfl,?_⟩⟩
    have bU:=al.on O;refine WO bU.box λb9 cx bV bo cy=>⟨_,rfl,?_⟩
    have dM:st.ts[i].1∉(st.ts.map (·.1)).take i:=λv=>by
     obtain⟨j,a6,e⟩:=DB v;have e1:j<i:=by have:=a6;simp at this;omega
     rw[List.getElem_take] at e;have f:=(List.getElem?_eq_some_iff.1 cv);have H:=(Mb (h₀:=by simp;omega) (h₁:=f.1) dI).1 (e.trans f.2.symm);omega
    have dN:(ff C (aU st.ts[i].1)).isSome=true:=by rw[U _ λn o e=>dM (by rw[JO e];exact o)];exact(dH _ ⟨_,cw,rfl⟩).1
    have bW:(st.ts.map (·.1)).take (i+1)=(st.ts.map (·.1)).take i++ [st.ts[i].1]:=by rw[Ax,cv];rfl
    have dO:Mod (λc=>k c≠0) h b9:=a4.then (((Ext.mod O).trans bo).ai λc _ b=>a5 c (by rw[al.kb c b];decide));rcases Qh (k:=aU st.ts[i].1) a3.up dN with⟨dP,bX⟩|⟨bX,dQ,cz⟩
    ·rw[bX] at bV ⊢;refine ae.yes rfl ?_;refine JS (q:= {ap with Sb:=bm}) bU bV (bo.ai λc _ b=> .inl b) (λc b=> .inl (cy c b)) λcB dR dS dT dU=>⟨_,rfl,?_⟩
     have dV:Mod (λc=>k c≠0) h cB:=(a4.trans (Ext.mod O)).then (dT.ai λc _ b=>a5 c b);have dW: ∀n,ff C (aU n)≠none->ff y (aU n)≠none:=λn o=>by
      by_cases v:n∈(st.ts.map (·.1)).take i
      ·exact absurd (bn n v) o
      ·rw[U _ λj a6 e=>v (by rw[JO e];exact a6),Z _ λj e=>OH j n e.symm] at o;exact o
     have bY:BD (ff C) D3:=cm.fU λx aG=>U x λn o e=>aG n (by
      rw[au];intro v;rcases J with⟨rfl,_⟩|⟨rfl,_⟩
      ·simp[cN] at v
      ·have:n=st.next:=by simpa [cN] using v
       have cC:n∈st.ts.map (·.1):=DQ o;rw[this] at cC;exact bc cC) e
     refine bs cB (Mg C) ⟨(λF=>by have:=a3.calm F;rw[dP] at this;cases this),by rw[<- be];exact dR,⟨cx,by rw[<- aC];exact dS,λc b=>?_⟩,rfl,dV,λE Q=>?_,bj bS⟩ λG a1=>?_
     ·rcases dU c b with f|f
      ·exact a5 c f
      ·exact .inr (by have:=(a4.trans (Ext.mod O)).size;omega)
     ·rw[oG,U E λn _=>QS Q n,Z E λn=>kN Q n,Y E (QS Q _)]
     ·exact ck D3 G (bY.dM a1) bO bQ cn au bN λn o=>dW n (a1.some o)
    ·rw[bX];refine ae.no rfl ?_;have dX:=bU.boxed (j:=2) (bF:= {st with ts:=w,next:=z,aK:=st.aK+1}) bV (bo.ai λc _ b=> .inl b) (λc b=> .inl (cy c b)) rfl rfl rfl rfl (.inl ⟨by decide,rfl,rfl⟩) (.inl ⟨by decide,rfl⟩);have dY:=Yz (m:=C) (aU st.ts[i].1);rw[Ab (by omega)];refine dK (st.ts.length-(i+1)) _ _ (by omega) ⟨i+1,cx,_,_,rfl,rfl,V,dX,a3.trans dQ,AF dY bS,λx aG=>?_,λn o=>?_,dO,λc b=>?_,?_,λc b=>?_⟩
     ·rw[cz,if_neg (aG _ (by rw[bW];simp))];exact U x λn o=>aG n (by rw[bW];exact List.mem_append.2 (.inl o))
     ·rw[cz];split
      ·rfl
      ·rename_i aj;rw[bW] at o;rcases List.mem_append.1 o with o|o
       ·exact bn n o
       ·exact absurd (by rw[List.mem_singleton.1 o]) aj
     ·by_cases ad:c<bv.size
      ·rw[F9 ad] at b;exact a5 c b
      ·exact .inr (by have:=(a4.trans (Ext.mod O)).size;omega)
     ·exact(ct.ext O).mod bo λc b e=>by
       have f:=bT c b;rw[al.kb c e] at f;cases f
     ·have ad:c<bv.size:=by have:=(al.own c (by rw[bT c b];decide)).2;have:=O.size;omega
      rw[F9 ad];exact bT c b
   ·have V:i=st.ts.length:=by have: ¬(i:Int)<((q.np.len:Nat):Int):=of_decide_eq_false I;omega
    subst V;rw[AG (by simp)] at U bn;have d0: ∀n,ff C (aU n)≠none->n=st.next/\ff y (aU n)≠none:=λn o=>by
     by_cases v:n∈st.ts.map (·.1)
     ·exact absurd (bn n v) o
     ·rw[U _ λj a6 e=>v (by rw[JO e];exact a6),Z _ λj e=>OH j n e.symm] at o;refine⟨?_,o⟩;by_cases e:n=st.next
      ·exact e
      ·rw[Y _ λaV=>e (JO aV)] at o;exact absurd (L.clean n o) v
    have cD: ∀n,ff C (aD nl n)=ff m (aD nl n):=λn=>by
     rw[U _ λj _=>LM n j,Z _ λj=>VV n j,Y _ (LM n _)]
    have bY:BD (ff C) D3:=cm.fU λx aG=>U x λn o e=>aG n (by
     rw[au];intro v;rcases J with⟨rfl,_⟩|⟨rfl,_⟩
     ·simp[cN] at v
     ·have:n=st.next:=by simpa [cN] using v
      rw[this] at o;exact bc o) e
    have d1: ∀p∈w,D3.T p.1=p.2:=λp W=>by
     rw[bN];rcases J with⟨rfl,_⟩|⟨rfl,_⟩
     ·cases W
     ·rw[List.mem_singleton.1 W]
    have d2: ∀p∈w,p.1<z:=λp W=>by
     rcases J with⟨rfl,_⟩|⟨rfl,rfl,_⟩
     ·cases W
     ·rw[List.mem_singleton.1 W];exact HP _
    have d3: ∀n,ff C (aU n)≠none->n∈w.map (·.1):=λn o=>by
     obtain⟨e,H⟩:=d0 n o;rcases J with⟨rfl,_,_,a0⟩|⟨rfl,_⟩
     ·rw[e] at H;exact absurd a0 H
     ·simp[e]
    have cE:El (ff C) {st with ts:=w,next:=z,aK:=st.aK+1} D3:=
     ⟨bY,by rw[au];rfl,d1,by rw[au];rfl,by rw[au];exact A0 _,d2,dJ.symm,λn aY aZ aj=>by rw[cD];exact L.gA n aY aZ aj,λv=>by rw[cD,bO];exact L.jr v,
      λn aY aZ=>by rw[U _ λj _=>OH n j];exact dv n aY aZ,L.eF,by show 1<=st.aK+1;omega,d3⟩
    have d4:R3 {st with ts:=w,next:=z,aK:=st.aK+1} D3 (aJ+1) c:=by
     have:=l.au;have:=l.aP;have:=l.aV;have bR:({st with ts:=w,next:=z}:Db).aK=st.aK:=rfl;rw[bR] at cn;refine⟨by show st.au<=_;omega,by show st.aK+1<=_;omega,?_,?_,aX,by rw[bQ];omega,by omega⟩
     ·show z<=_;rcases J with⟨_,rfl,_⟩|⟨_,rfl,_⟩<;>omega
     ·show w.length<=_;rcases J with⟨rfl,_⟩|⟨rfl,_⟩<;>simp
    refine b3 N {ap with Sb:=bm} a2 _ C D3 be aC ⟨al,a3.up,cE,d4,bj bS,b⟩ a3 rfl ?_ ?_ (λE Q=>?_) a4 a5
    ·rw[<- aW];exact cE.map.symm
    ·show w.length<=1;rcases J with⟨rfl,_⟩|⟨rfl,_⟩<;>simp
    ·rw[U E λn _=>QS Q n,Z E λn=>kN Q n,Y E (QS Q _)]
 refine ae.intro (λI=>?_) (λI=>?_)
 ·have aj:GI (aF st)≠ []:=λe=>by
   have f:=of_decide_eq_true I;have H:=az.len;rw[e] at H;simp at H;omega
  have bp:=AOR (B:=B) u L l b aj;have e2:=zg bp;refine aE (AC.mk (AB ao.cell rfl) ?_);have d5:View BZ X bx (GI (aF st)):=az.view.mod aR λc b e=>by have:=c8 c b;have:=u.gW;have:=(aO.trans ca).size;have:=cb.size;omega
  have d6:(JZ (GI (aF st))).length<=8400*B.C+1100000:=by omega
  refine yT (q:= {q with tp:=⟨none,0,0⟩,np:=⟨none,0,0⟩,ps:= []}) (n:=st.next) br ao hd bp d5 (λc b=>by have:=az.lt b;have:=aR.size;omega) (by omega) cd (by have:=yj d6 aM cT cS;exact this) (λbI av cF aH d7 d8 a7 d9 aI ea=>⟨_,_,rfl,ae.yes rfl ?_⟩) λav cF cG aH t bu a8 bZ eb aI ea cH e3 e4 cI a7 cJ=>⟨_,_,rfl,ae.no rfl ?_⟩
  ·refine JS (q:= {q with tp:=⟨none,0,0⟩,np:=⟨none,0,0⟩,ps:= []}) ao d7 (a7.ai λc _ b=> .inl b) d9 λaw ec ed ee ef=>⟨_,rfl,?_⟩
   have eh:BD (ff aH) D/\jU (ff aH) (aJ+1) c (CZ st):=by
    refine L.js (l.mono (Cd _) (A0 _)) (λx N=>aI x (N _ bc)) λn o=>?_
    by_cases e:n=st.next
    ·omega
    ·rw[aI _ λaV=>e (JO aV)] at o;have:=L.fw l o;omega
   have ei:bg aH.files<=bg m.files+(8400*B.C+1100001):=by omega
   exact bs aw aH ⟨bI,ec,⟨cF,ed,λc b=>(ef c b).imp id λh=>by have:=aA.size;omega⟩,d8,aA.then (ee.ai λc _ b=> .inl b),λE Q=>aI E (QS Q _),B.step2 aM ei (ID _ _)⟩ eh.2
  ·refine ak.mk λaw _ ej ax e5=>?_
   have bq:=bZ.on ax;refine aE (AC.mk (AB bq.cell rfl) (ak.mk λek _ el ay e6=>?_));have cK:=bq.on ay;refine aE (ab.dm cK.cell (by simp) λe7 en eo e8=>aE (ab.dm en (by simp) λe9 cL ep fa=>?_));refine aE (AC.mk (AB cL rfl) (aE (ab.dm cL (by simp) λam cM eq fb=>?_)));have er:J8 J9 (((st.next:Nat):Int)+(1:Int))=((st.next+1:Nat):Int):=Ab (by omega);have an:Mod (· =q.d) ek am:=(eo.trans ep).trans eq;have es:am[av.size]? =some (J2 #[Ap t] BG (0,0)):=an.af (ay.af ej λh=>h) (by have:=bZ.gW;show ¬_=q.d;have e:(q.d:Nat)<av.size:=this;omega);have et:am[aw.size]? =some (J2 #[J6 J9 (st.next:Int)] Bb (0,0)):=an.af el (by have:=bq.gW;have e:(q.d:Nat)<aw.size:=this;show ¬_=q.d;omega);have eu:Own fL BG am ⟨some ⟨av.size,0,none⟩,1,1⟩ [t]:=Own.lit (l:= [t]) es rfl (by simp[maxLen]);have on:Own IE Bb am ⟨some ⟨aw.size,0,none⟩,1,1⟩ (([(st.next,GI (aF st))]:List (Nat×List Pr)).map λp=>(p.1:Int)):=Own.lit (l:= [((st.next:Nat):Int)]) et rfl (by simp[maxLen]);have fc:=a7.size;have cO: ∀c,av.size<=c->cG c=0:=λc b=>cI c (by have:=cH.fw;omega)
   have ev:=cK.eU (h':=am) (tp:=⟨some ⟨av.size,0,none⟩,1,1⟩) (np:=⟨some ⟨aw.size,0,none⟩,1,1⟩) (ps:= [t]) (ts:= [(st.next,GI (aF st))]) (next:=st.next+1) (aT:=st.aT) (S:=λc=>bu<=c/\c<a8)
    (by rw[er] at cM;simpa [dZ] using cM) (an.ai λc _ b=> .inl b) eu on rfl
    (λc b=> .inr (by
     have e:av.size=c:=by simpa [Sl.af] using b
     subst e;have b0:=bZ.ext.size;refine⟨cO _ (A0 _),b0,by simp[Sl.af];omega,by omega⟩))
    (λc b=> .inr (by
     have e:aw.size=c:=by simpa [Sl.af] using b
     subst e;have b0:=bq.ext.size;refine⟨cO _ (by omega),b0,by simp[Sl.af];omega,by omega⟩))
    (λc b=>⟨by have:=ao.ext.size;omega,by have:=ax.size;have:=ay.size;have:=an.size;omega⟩)
    (λi t' p f H=>by
     have ew:i=0:=by have:=(List.getElem?_eq_some_iff.1 f).1;simpa using this
     subst ew;simp only[HA,BY] at f H;subst f H;refine .inr ⟨bu,a8,(cH.ext (ax.trans ay)).mod an (λc b1 cP e=>?_),by have:=ax.size;have:=ay.size;have:=an.size;omega,λc b1 cP=>⟨⟨b1,cP⟩,cI c b1⟩,bp⟩;have:=ao.gW;have bk:(q.d:Nat)<X.size:=this;omega)
   have ex:Mod (λc=>k c≠0) h am:=by
    refine(aA.trans ((a7.ai λc _ b=>?_))).trans ((Ext.mod (ax.trans ay)).trans (an.ai λc _ b=>?_))
    ·rw[u.kb c b];decide
    ·rw[b,u.kd];decide
   have b2: ∀c,q.np.af=some c->c<X.size/\k c=7:=λc b=>⟨by have:=u.names.lt b;have:=aA.size;omega,u.kx c b⟩
   refine ce am _ _ aH (st.next+1) _ ev rfl rfl eb (λx N=>by rw[aI,if_neg N]) (.inr ⟨rfl,rfl,by rw[aI,if_pos rfl],bp⟩) (by omega) ex (λc b=>?_) ?_ λc b=>?_
   ·by_cases ad:c<h.size
    ·left;intro ey;have cQ:c<X.size:=by have:=aA.size;omega
     have ai:cG c=0:=by rw[cJ c cQ];exact ey
     have fd:=cQ;apply b;unfold Kr;rw[if_neg (by simp[ai]),if_neg (by simp[Sl.af];omega),if_neg (by simp[Sl.af];have:=ax.size;omega),if_neg (by omega)]
    ·exact .inr (by omega)
   ·refine((cc.mod a7 λc b e=>?_).ext (ax.trans ay)).mod an λc b e=>?_
    ·have:=(b2 c b).2;rw[u.kb c e] at this;cases this
    ·have:=(b2 c b).2;rw[e,u.kd] at this;cases this
   ·obtain⟨f,H⟩:=b2 c b;unfold Kr;rw[cJ c f,H];rfl
 ·have ez:GI (aF st)= []:=by have f:=of_decide_eq_false I;have H:=az.len;exact CC (by omega)
  refine ce X _ k m st.next [] ao rfl rfl (JN.refl hd) (λx _=>rfl) (.inl ⟨rfl,rfl,ez,cd⟩) (by omega) aA (λc b=> .inl b) cc λc b=>u.kx c b
end
section
variable {A : al} {B : cE} {g h : aa} {q : Hp} {k : Nat -> Nat} {st : Db} {m : Bx} {D : Bl} {aJ c : Nat} {R : A2O}
theorem El.rQ {d:bP}(L:El d st D)(l:R3 st D aJ c)(hA:aJ<=100000){a:Nat}(e:st.au<a):D.L a= []:=by
 by_cases b:a<=99999999
 ·exact L.ok.jt b (L.gA a (by omega) b λ_=>by omega)
 ·exact L.ok.gB (.inr (by have:=l.aP;omega))
theorem ALu {F:bP}{made:Bool}{m:Bx}{s:Nat}(hd:m.down=false)(e:made=true-> ∃b,ff m (aD nl s)=some (b,bD)):(m.fuel=0/\MU m (aD nl s) made=(30,Mg m))\/((MU m (aD nl s) made).1=0/\JN m (MU m (aD nl s) made).2/\ ∀x,ff (MU m (aD nl s) made).2 x=ff m x):=by
 cases made with
 |false=>exact .inr ⟨rfl,JN.refl hd,λx=>rfl⟩
 |true=>
  obtain⟨b,d⟩:=e rfl;rcases Nv hd d with a|⟨a,f,i⟩
  ·exact .inl a
  ·refine .inr ⟨a,f,λx=>?_⟩;show ff (G6 m (aD nl s)).2 x=_;rw[i];split
   ·rename_i j;rw[j,d,Xv]
   ·rfl
theorem AM5 {m:Bx}(g:Gu m)(k:A2P)(a:Bool):bg (MU m k a).2.files<=bg m.files:=by
 cases a with
 |false=>exact A0 _
 |true=>exact nR g k
theorem APj {a b x:Nat}(d:b<=a+x):b+1000000<=a+(x+1000000):=by rw[<- GB];exact Nat.add_le_add_right d _
theorem ANO(a:Nat):8400*a+1100001+1000000<=20000*a+10000000:=by omega
theorem AOg(aZ:cj g)(S:Bp B g h q k st m D aJ c)(hA:aJ+2<=B.A)
  (bf: ∀h' ao,oy B h h' q k m ao (aJ+2)->jU (ff ao) (aJ+2) c (CZ st)->R (J6 J9 30) h')
  (ca: ∀h' bh bJ bF ao r,bh.d=q.d->bh.b=q.b->Bp B g h' bh bJ bF ao r (aJ+2) c->JN m ao->bF.fr= []->CZ bF=CZ st->(bF.ts.length<=3\/bF.ts.length=st.ts.length)->(∀ v,¬dd v->ff ao v=ff m v)->Mod (λc=>k c≠0) h h'->(∀ c,bJ c≠0->k c≠0\/h.size<=c)->R (J6 J9 0) h'):
  AA A P OE #[Ap q.d] h R:=by
 have dP:=S;obtain⟨V,hd,L,l,a0,b⟩:=S;have fR:=B.hA;have dQ:=B.hC;have dR:=B.wt (a:=aJ) (by omega);have dS:=L.di l;have fS:=l.next;have fT:=l.aK;have fU:=l.au;have fV:=l.aP;have fW:=l.aV;have fX:=L.eF;have fY:=l.cp;have dT:=L.iL l;have a1:st.next∉st.ts.map (·.1):=λcb=>by
  obtain⟨p,aj,e⟩:=List.mem_map.1 cb;have:=L.below p aj;omega
 refine AAz ?_;unfold Sv;refine ah.mk λK dU=>YV V (dU _ _ (ae.no rfl ?_))
 refine aE (AZ.mk (AB V.cell rfl) ?_);refine M.rR V.fresh ⟨_,_,rfl,?_⟩;refine ae.intro (λbL=>?_) (λbL=>?_)
 ·have o:st.fr= []:=CC (by have:((st.fr.length:Nat):Int)=0:=(by simpa using bL);omega);exact ca h q k st m D rfl rfl (dP.aJ (by omega)) (JN.refl hd) o rfl (.inr rfl) (λ_ _=>rfl) Mod.refl (λc b=> .inl b)
 have dV:st.fr≠ []:=λe=>by
  rw[e] at bL;cases bL
 have bM:Gs st.fr:=⟨dV,λx E=>oA (V.fresh.aC x E),V.fresh.sorted,by omega⟩;have fZ:=zg bM;have dW:(JZ st.fr).length<=8400*B.C+1100000:=by omega
 refine aE (AC.mk (AB V.cell rfl) (aE (AZ.mk (AB V.cell rfl) ?_)));refine M.rS V.fresh λfv w cU cV cW=>⟨_,rfl,⟨AB (V.on cV).cell rfl,?_⟩⟩
 rw[M.rN] at cU;refine M.Vs cU (λ_ _=>rfl) (by omega) λcc Y cX f0 dX=>⟨cc,rfl,?_⟩
 have bN:=cV.trans dX;have bO:=V.on bN;have f1:=bN.size;refine⟨AB bO.cell rfl,?_⟩;refine yT (n:=st.next) aZ bO hd bM cX.view (λc b=>cX.lt b) (by omega) dT (yj dW a0 dR dQ) (λbi ay az ad dY d0 bQ d1 a2 d2=>⟨_,_,rfl,ae.yes rfl ?_⟩) λay az bS ad t aN aO al cd a2 d2 cY f2 f3 cZ bQ bT=>⟨_,_,rfl,ae.no rfl ?_⟩
 ·refine JS bO dY (bQ.ai λc _ b=> .inl b) d1 λd3 d4 d5 d6 d7=>⟨_,rfl,?_⟩
  have ce:=L.js (F':=ff ad) (l.mono (ID aJ 2) (A0 _)) (λx E=>a2 x (E _ a1)) λn u=>by
   by_cases e:n=st.next
   ·omega
   ·rw[a2 _ λaP=>e (JO aP)] at u;have:=L.fw l u;omega
  have bj:bg ad.files<=bg m.files+(8400*B.C+1100001):=by omega
  have H:=B.step2 a0 bj (ID _ _);exact bf d3 ad ⟨bi,d4,⟨az,d5,λc b=>(d7 c b).imp id λh=>by omega⟩,d0,(Ext.mod bN).trans d6,λv I=>a2 v (QS I _),AF H (LN (AS _ (Cd _)) _)⟩ ce.2
 have f4:=bQ.size;have f5:=cY.fw;have c0:Mod (λc=>k c≠0) h ay:=(Ext.mod bN).trans (bQ.ai λc _ b=>by rw[V.kb c b];decide);have bk: ∀x,x≠aU st.next->ff ad x=ff m x:=λx E=>by rw[a2,if_neg E]
 have c1:bg ad.files<=bg m.files+(8400*B.C+1100001):=by omega
 have d8: ∀n,ff ad (aD nl n)=ff m (aD nl n):=λn=>bk _ (LM n _)
 have c2: ∀ {F':bP},(∀ n,F' (aU n)≠none->ff ad (aU n)≠none)-> ∀n,F' (aU n)≠none->n<8*(aJ+1)+8:=λaf n u=>by
  by_cases e:n=st.next
  ·omega
  ·have o:=af n u;rw[bk _ λaP=>e (JO aP)] at o;have:=L.fw l o;omega
 refine aE (AZ.mk (AB al.cell rfl) ?_);have c3:=ALu (F:=ff m) (made:=st.bq) (s:=st.au) cd.up λcb=>⟨_,by rw[d8];exact L.jr cb⟩
 refine WB (al.gX aZ) al.log al.box al.kY (by decide) (by omega) (λd9 J bU c4 a3=>⟨_,_,rfl,?_⟩) λc5 J bU c4 a3=>⟨_,_,rfl,?_⟩
 ·rcases c3 with⟨c6,a4⟩|⟨a4,_,_⟩
  ·rw[a4] at bU ⊢;refine ae.yes rfl ?_;refine JS (q:= {q with Sb:=az}) al bU (a3.ai λc _ b=> .inl b) (λc b=> .inl b) λea eb ec ed ee=>⟨_,rfl,?_⟩
   have ce:=L.js (F':=ff (Mg ad)) (l.mono (ID aJ 2) (A0 _)) (λx E=>bk x (E _ a1)) λn u=>by
    have:=c2 (F':=ff (Mg ad)) (λn u=>u) n u;omega
   have H:=B.step2 a0 c1 (ID _ _);refine bf ea (Mg ad) ⟨(λz=>by have:=cd.calm z;rw[c6] at this;cases this),eb,⟨az,ec,λc b=>?_⟩,rfl,c0.then (ed.ai λc _ b=>?_),λv I=>bk v (QS I _),AF H (LN (AS _ (Cd _)) _)⟩ ce.2
   ·rcases ee c b with o|o
    ·by_cases Z:c<Y.size
     ·rw[bT c Z] at o;exact .inl o
     ·exact .inr (by omega)
    ·exact .inr (by omega)
   ·by_cases Z:c<Y.size
    ·rw[bT c Z] at b;exact .inl b
    ·exact .inr (by omega)
  ·exact absurd a4 d9
 refine ae.no rfl ?_;rcases c3 with⟨c6,a4⟩|⟨a4,ef,eh⟩
 ·rw[a4] at c5;cases c5
 have ei:=AM5 al.box.aC (aD nl st.au) st.bq;have ag:=al.boxed (j:=3) (bF:= {st with au:=st.au+1,bq:=false}) bU (a3.ai λc _ b=>b.imp id λh=> .inl ⟨rfl,h⟩) (λc b=> .inl b) rfl rfl rfl rfl (.inr c4) (.inl ⟨by decide,rfl⟩);generalize (MU ad (aD nl st.au) st.bq).2=ac at*
 have f6:=a3.size;have c7: ∀c,c<ay.size->Kz bS ay.size az 2 c=bS c:=λc b=>F9 b
 generalize Kz bS ay.size az 2=ap at*
 have ej:Mod (λc=>k c≠0) h J:=c0.then (a3.ai λc _ b=>by
  have o:bS c≠0:=by
   rcases b with b|b
   ·rw[al.kb c b];decide
   ·rw[b,al.kl];decide
  by_cases Z:c<Y.size
  ·rw[bT c Z] at o;exact .inl o
  ·exact .inr (by omega))
 have cf: ∀c,ap c≠0->k c≠0\/h.size<=c:=λc b=>by
  by_cases Z:c<Y.size
  ·rw[c7 c (by omega),bT c Z] at b;exact .inl b
  ·exact .inr (by omega)
 have cg: ∀c,J.size<=c->ap c=0:=λc b=>Decidable.byContradiction λh=>by
  have:=(ag.own c h).2;omega
 have ch: ∀c,aN<=c->c<aO->ap c=0:=λc aq aA=>by rw[c7 c (by omega)];exact cZ c aq
 have ci: ∀x,ff ac x=ff ad x:=eh;have a5: ∀x,x≠aU st.next->ff ac x=ff m x:=λx E=>(ci x).trans (bk x E)
 have ek:ff ac (aU st.next)=some (AX (JZ st.fr),bD):=by rw[ci,a2,if_pos rfl]
 have ck:JN m ac:=cd.trans ef;have bj:bg ac.files<=bg m.files+(8400*B.C+1100001):=AF ei c1;have el:BD (ff ac) D:=L.ok.fU λx E=>a5 x (E st.next (by rw[L.names];exact a1))
 have c8: ∀ {F':bP},(∀ n,F' (aU n)≠none->ff ac (aU n)≠none)-> ∀n,F' (aU n)≠none->n<8*(aJ+1)+8:=λaf n u=>c2 (F':=ff ac) (λn u=>by rw[<- ci];exact u) n (af n u)
 have en: ∀(z:aa) (y:Hp) (cl:Nat->Nat),bK g z y cl {st with ts:=(st.next,st.fr)::st.ts,next:=st.next+1,aT:=st.au+1,au:=st.au+1,bq:=false} ac->y.d=q.d->y.b=q.b->Mod (λc=>k c≠0) h z->(∀ c,cl c≠0->k c≠0\/h.size<=c)->
   AA A P Jm #[Ap y.d] z λeo c9=> ∃cm:Int,eo=J6 J9 cm/\(
         ae (cm != (0:Int)) (
          AA A P CV #[Ap y.d,J6 J9 cm] c9 λep eq=> ∃da:Int,ep=J6 J9 da/\(
          R (J6 J9 da) eq)) (
          AA A P Pv #[] c9 λer db=> ∃dc:Q2,er=J5 dc/\(
          At (some (⟨y.d,0,none⟩:Q6)) λes=>
          ab db (es.add 3) (J5 dc) λar=>
          At (some (⟨y.d,0,none⟩:Q6)) λet=>
          AZ ar (et.add 1) λeu=>
          AA A P JG #[J5 eu,J6 J9 (st.au:Int)] ar λev aw=> ∃cn:Int,ev=J6 J9 cn/\(
          ae (cn != (0:Int)) (
           AA A P CV #[Ap y.d,J6 J9 cn] aw λew co=> ∃de:Int,ew=J6 J9 de/\(
           R (J6 J9 de) co)) (
           At (some (⟨y.d,0,none⟩:Q6)) λex=>
           AY aw (ex.add 4) λey=>
           ae (decide (((ey.len:Nat):Int)>=(4:Int))) (
            AA A P JW #[Ap y.d] aw λez eA=> ∃df:Int,ez=J6 J9 df/\(
            R (J6 J9 df) eA)) (
            R (J6 J9 0) aw)))))):=by
  intro z y cl bm bn aC bV a6;have eB:gS (cN {st with ts:=(st.next,st.fr)::st.ts,next:=st.next+1,aT:=st.au+1,au:=st.au+1,bq:=false}):=by
   refine⟨by show st.next+1<=_;omega,by show 1<=st.au+1/\st.au+1<=_;omega,?_,λn u=>?_,?_⟩
   ·show((st.next,st.fr)::st.ts |>.map (·.1)).length<=_;simp;omega
   ·show n<st.next+1;rcases List.mem_cons.1 u with rfl|u
    ·exact HP _
    ·obtain⟨p,aj,rfl⟩:=List.mem_map.1 u;have:=L.below p aj;omega
   ·exact List.nodup_cons.2 ⟨a1,L.nd⟩
  have eC: ∀n∈st.next::st.ts.map (·.1),ff ac (aU n)=some (AX (JZ ((KD D.T st.next st.fr) n)),bD)/\Gs ((KD D.T st.next st.fr) n):=λn u=>by
   by_cases e:n=st.next
   ·subst e;rw[DK];exact⟨ek,bM⟩
   ·rw[Eo e,a5 _ λaP=>e (JO aP)];rcases List.mem_cons.1 u with o|o
    ·exact absurd o e
    ·exact L.ok.cL n (by rw[L.names];exact o)
  have dg: ∀r:Bl,r.T=KD D.T st.next st.fr->(st.next::st.ts.map (·.1)).map r.T=st.fr::aF st:=λr bW=>by
   rw[By,bW,DK];congr 1;rw[<- L.aF,L.names];refine CM λn u=>Eo λe=>a1 (e▸u)
  have dh: ∀r:Bl,r.L=D.L->r.aP=D.aP->Aj r=cN {st with ts:=(st.next,st.fr)::st.ts,next:=st.next+1,aT:=st.au+1,au:=st.au+1,bq:=false}->r.T=KD D.T st.next st.fr->cu r=CZ st/\NW r<=c/\Ef r= []:=λr eD di a7 bW=>by
   have aC:=AMP (f:=st.au+1) eD di (by rw[a7];rfl) λn u=>L.rQ l (by omega) (by omega)
   have dj:Ef r= []:=by unfold Ef;rw[aC];rfl
   have dk:(Aj r).names=st.next::st.ts.map (·.1):=by rw[a7];rfl
   refine⟨?_,?_,dj⟩
   ·unfold cu;rw[dj,dk,dg r bW];exact AHB V.fT
   ·unfold NW;rw[aC,dk];have C:((st.next::st.ts.map (·.1)).map λn=>(r.T n).length)=((st.next::st.ts.map (·.1)).map r.T).map List.length:=by rw[AT];rfl
    rw[C,dg r bW];have:((st.fr::aF st).map List.length).sum=st.fr.length+M.total (aF st):=by simp[M.total]
    rw[this];simpa using dS
  have dl: ∀(r:Bl) (F':bP),BD F' r->r.aP=D.aP->r.aV<=max D.aV (st.aK+1)->Aj r=cN {st with ts:=(st.next,st.fr)::st.ts,next:=st.next+1,aT:=st.au+1,au:=st.au+1,bq:=false}->cu r=CZ st->NW r<=c->(∀ n,F' (aU n)≠none->ff ac (aU n)≠none)->Rec F' (aJ+1) c (CZ st):=λr F' o di u a7 eE eF af=>by
   refine⟨r,o,⟨by omega,by omega,?_,?_,?_,eF,c8 af⟩,eE⟩
   ·rw[a7];show st.next+1<=_;omega
   ·rw[a7];show st.au+1<=_;omega
   ·rw[a7];show((st.next,st.fr)::st.ts |>.map (·.1)).length<=_;simp;omega
  have eG:bg ac.files+1000000<=8000000000000:=by have o:=B.wt (a:=aJ+1) (by omega);have H:bg ac.files+1000000<=B.W0+(aJ+1)*B.K:=B.step (d:=8400*B.C+1100001+1000000) a0 (APj bj) (ANO B.C);exact AF H o
  have dm: ∀ {dn:Nat},dn<=B.W0+(aJ+1)*B.K->dn<=B.W0+(aJ+2)*B.K:=λh=>AF h (LN (AS _ (Cd _)) _)
  refine yU (T:=KD D.T st.next st.fr) aZ bm ck.up el eB eC ⟨L.aK,by show st.aK+2<=_;omega⟩ (λn W ai=>by rw[a5 _ (OH n _)];exact L.jq n W ai) eG
   (λbi w cp am eH eI bX cW eJ a8 cq=>⟨_,rfl,ae.yes rfl ?_⟩) λw cp cr am D3 cs dp dq a9 dr eK ct eL a8 eM cq bX eN=>⟨_,rfl,ae.no rfl ?_⟩
  ·refine JS bm eH (bX.ai λc _ b=>b.imp id .inr) cW λY eO eP eQ cc=>⟨_,rfl,?_⟩
   have eR:Mod (λc=>k c≠0) h Y:=bV.then (eQ.ai λc _ b=>a6 c b);refine bf Y am ⟨λz=>bi (ck.calm z),by rw[<- bn];exact eO,⟨cp,by rw[<- aC];exact eP,λc b=>?_⟩,eI,eR,λv I=>?_,dm (B.step2 a0 bj cq)⟩ λG bo=>?_
   ·rcases cc c b with o|o
    ·exact a6 c o
    ·exact .inr (by have:=bV.size;omega)
   ·rw[a8 v λn=>kN I n,a5 v (QS I _)]
   ·obtain⟨r,ds,nx⟩:=eJ G bo;have dt: ∀n,G (aU n)≠none->ff ac (aU n)≠none:=λn u=>by
     have:=bo.some u;rwa [a8 _ λj e=>OH j n e.symm] at this
    have bY:r.aV<=max D.aV (st.aK+1):=nx.aV;rcases nx.last with⟨an,C⟩|⟨an,C⟩
    ·obtain⟨bp,bZ⟩:=zj nx.L nx.aP an C;have:=L.next;have eS:Rec G (aJ+1) c (CZ st):=⟨r,ds,⟨by rw[nx.aP];omega,by omega,by rw[an];omega,by rw[an,L.aT];omega,by rw[an,L.iy];omega,by rw[bZ];exact l.bV,c8 dt⟩,by rw[bp];exact L.map⟩;exact eS.mono (Cd _) (A0 _)
    ·obtain⟨bp,bZ,_⟩:=dh r nx.L nx.aP an C;exact(dl r G ds nx.aP bY an bp bZ dt).mono (Cd _) (A0 _)
  ·obtain⟨bp,bZ,eT⟩:=dh D3 eK ct a9 dr;have f7:=bX.size;have bY:D3.aV<=max D.aV (st.aK+1):=eL;have cv:bg am.files<=B.W0+(aJ+1)*B.K:=B.step2 a0 bj cq;have du:JN m am:=ck.trans dp;have dv:Mod (λc=>k c≠0) h w:=bV.then (bX.ai λc _ b=>by
    rcases b with b|b
    ·exact a6 c (by rw[bm.kb c b];decide)
    ·exact a6 c (by rw[b,bm.kn];decide))
   have eU: ∀c,cr c≠0->k c≠0\/h.size<=c:=λc b=>by
    by_cases Z:c<z.size
    ·rw[eN c Z] at b;exact a6 c b
    ·exact .inr (by have:=bV.size;omega)
   refine M.rT λdb eV cw f8=>⟨_,rfl,?_⟩
   have eW:=cs.on cw;refine aE (ab.dm eW.cell (by simp) λar eX cx f9=>?_);have eY:M.cU ar w.size [] []:=eV.mod cx λc b e=>by
    have ga:c=w.size:=by
     rcases b with rfl|⟨x,E,_⟩
     ·rfl
     ·cases E
    have:=cs.gW;have C:(y.d:Nat)<w.size:=this;have gb:c=y.d:=e;omega
   have dw:Mod (λc=>c=w.size\/c=y.d) w ar:=(Ext.mod cw).trans (cx.ai λc _ b=> .inr b);have ax:=cs.renew (h':=ar) (gC:=w.size) eY (A0 _) (by simpa [dZ] using eX) (by
    refine⟨dw.size,λc b u=>?_⟩;exact dw.get c b (by rintro(h|h);omega;exact u h))
   have cy:Mod (λc=>k c≠0) h ar:=(dv.trans (Ext.mod cw)).then (cx.ai λc _ b=>by
    have e:c=y.d:=b;rw[e];exact a6 _ (by rw[bm.kd];decide))
   have b0: ∀c,Kz cr w.size (· =w.size) 5 c≠0->k c≠0\/h.size<=c:=λc b=>by
    by_cases Z:c<w.size
    ·rw[F9 Z] at b;exact eU c b
    ·exact .inr (by have:=dv.size;omega)
   generalize Kz cr w.size (· =w.size) 5=dx at*
   refine aE (AZ.mk (AB ax.cell rfl) ?_);have gc:=cy.size;have eZ:bg am.files<=8000000000000:=AF cv (B.wt (a:=aJ+1) (by omega));have cz: ∀x,x≠aU st.next->(∀ n,x≠aD nn n)->ff am x=ff m x:=λx o H=>(a8 x H).trans (a5 x o)
   have e0:(Aj D3).aT=st.au+1:=by rw[a9];rfl
   have dy: ∀ {F':bP},(∀ x,F' x=ff am x\/(F' x=none/\ ∃n:Nat,1<=n/\n<=99999999/\n<=st.au/\x=aD nl n))->BD F' (Mx D3 F')/\cu (Mx D3 F')=CZ st/\NW (Mx D3 F')<=c/\Ef (Mx D3 F')= []:=λ{F'} af=>by
    have o: ∀n,n<=99999999->F' (aD nl n)=ff am (aD nl n)\/(F' (aD nl n)=none/\n<(Aj D3).aT):=λn ai=>by
     rcases af (aD nl n) with o|⟨o,j,_,_,gd,e⟩
     ·exact .inl o
     ·refine .inr ⟨o,?_⟩;rw[e0,Ib e];omega
    have H:=AOW dq o λx E=>by
     rcases af x with w|⟨_,j,_,e1,_,e⟩
     ·exact w
     ·exact absurd e (E j e1)
    have Y:=AI7 dq o;have ay:Ef (Mx D3 F')=Ef D3:=by unfold Ef;rw[Y]
    refine⟨H,?_,?_,by rw[ay];exact eT⟩
    ·rw[<- bp];unfold cu;rw[ay];rfl
    ·have:NW (Mx D3 F')=NW D3:=by unfold NW;rw[Y];rfl
     omega
   refine yS (ax.gX aZ) (λh' x=>ax.fV aZ (x.ai λc _ b=> .inl b)) ax.log ax.box dp.up ax.kY (by decide) eZ (λe2=>absurd e2 (by show ¬(st.au:Int)>=((st.au+1:Nat):Int);omega))
    (λbi aw aQ O cB e3 b1 cC cD br=>⟨_,rfl,ae.yes rfl ?_⟩) λ_ aw aQ O cB dz b1 cC cD br dA=>⟨_,rfl,ae.no rfl ?_⟩
   ·have af: ∀x,ff O x=ff am x\/(ff O x=none/\ ∃n:Nat,1<=n/\n<=99999999/\n<=st.au/\x=aD nl n):=λx=>by
     rcases br x with o|⟨o,n,W,ai,b2,e⟩
     ·exact .inl o
     ·exact .inr ⟨o,n,W,ai,by omega,e⟩
    obtain⟨cE,cF,cG,_⟩:=dy af;refine JS (q:= {y with Sb:=cp,ft:=w.size,ns:= []}) ax cB (b1.ai λc _ b=> .inl b) (λc b=> .inl (cC c b)) λco e4 e5 e6 e7=>⟨_,rfl,?_⟩
    refine bf co O ⟨λz=>bi (du.calm z),by rw[<- bn];exact e4,⟨aQ,by rw[<- aC];exact e5,λc b=>?_⟩,e3,cy.then (e6.ai λc _ b=>b0 c b),λv I=>?_,dm (AF cD cv)⟩ λG bo=>?_
    ·rcases e7 c b with o|o
     ·exact b0 c o
     ·exact .inr (by omega)
    ·rcases br v with o|⟨_,n,_,_,_,e⟩
     ·rw[o,cz v (QS I _) λn=>kN I n]
     ·exact absurd e (oz I n)
    ·refine(dl (Mx D3 (ff O)) G (cE.dM bo) ct bY a9 cF cG λn u=>?_).mono (Cd _) (A0 _);have o:=bo.some u;rcases br (aU n) with H|⟨_,j,_,_,_,e⟩
     ·rwa [H,a8 _ λj e=>OH j n e.symm] at o
     ·exact absurd e.symm (LM j n)
   ·have af: ∀x,ff O x=ff am x\/(ff O x=none/\ ∃n:Nat,1<=n/\n<=99999999/\n<=st.au/\x=aD nl n):=λx=>by
     by_cases E: ∃n:Nat,1<=n/\n<=99999999/\(n:Int)<=(st.au:Int)/\x=aD nl n
     ·obtain⟨n,W,ai,b2,rfl⟩:=E;exact .inr ⟨br n W ai b2,n,W,ai,by omega,rfl⟩
     ·exact .inl (dA x λn W ai b2 e=>E ⟨n,W,ai,b2,e⟩)
    obtain⟨cE,cF,cG,e8⟩:=dy af;have b3:=ax.boxed (j:=2) (bF:= {st with fr:= [],ts:=(st.next,st.fr)::st.ts,next:=st.next+1,aT:=st.au+1,au:=st.au+1,aK:=st.aK+1,bq:=false}) cB (b1.ai λc _ b=> .inl b) (λc b=> .inl (cC c b)) rfl rfl rfl rfl (.inl ⟨by decide,rfl,rfl⟩) (.inl ⟨by decide,rfl⟩);have bs:Mod (λc=>k c≠0) h aw:=cy.then (b1.ai λc _ b=>b0 c (by rw[ax.kb c b];decide));have bt: ∀c,Kz dx ar.size aQ 2 c≠0->k c≠0\/h.size<=c:=λc b=>by
     by_cases Z:c<ar.size
     ·rw[F9 Z] at b;exact b0 c b
     ·exact .inr (by omega)
    generalize Kz dx ar.size aQ 2=dB at*
    have cH: ∀x,(∀ n,x≠aD nl n)->ff O x=ff am x:=λx E=>dA x λn _ _ _=>E n
    have e9: ∀p∈(st.next,st.fr)::st.ts,(Mx D3 (ff O)).T p.1=p.2:=λp aj=>by
     show D3.T p.1=p.2;rw[dr];rcases List.mem_cons.1 aj with rfl|aj
     ·exact DK
     ·rw[Eo λe=>a1 (by rw[<- e];exact List.mem_map.2 ⟨p,aj,rfl⟩)];exact L.ck p aj
    have dC:El (ff O) {st with fr:= [],ts:=(st.next,st.fr)::st.ts,next:=st.next+1,aT:=st.au+1,au:=st.au+1,aK:=st.aK+1,bq:=false} (Mx D3 (ff O)):=
     ⟨cE,congrArg Nt.names a9,e9,congrArg Nt.aT a9,by rw[show Aj (Mx D3 (ff O))=_ from a9];exact A0 _,λp aj=>by
      show p.1<st.next+1;rcases List.mem_cons.1 aj with rfl|aj
      ·exact HP _
      ·have:=L.below p aj;omega,e8.symm,λn W ai _=>by
      have W:st.au+1<=n:=W;rcases af (aD nl n) with o|o
      ·rw[o,cz _ (LM n _) λj=>VV n j];exact L.gA n (by omega) ai λ_=>by omega
      ·exact o.1,(λh=>by cases h),λn W ai=>by
      have W:st.aK+1<=n:=W;rw[cH _ λj e=>VV j n e.symm];exact eM n W ai,⟨by show 1<=st.au+1;omega,A0 _⟩,by show 1<=st.aK+1;omega,λn u=>by
      rw[cH _ λj e=>LM j n e.symm,a8 _ λj e=>OH j n e.symm] at u;by_cases e:n=st.next
      ·subst e;exact AN
      ·rw[a5 _ λaP=>e (JO aP)] at u;exact An _ (L.clean n u)⟩
    have ge:(Mx D3 (ff O)).aV<=max D.aV (st.aK+1):=bY;have gf:(Mx D3 (ff O)).aP=D.aP:=ct;have fa:R3 {st with fr:= [],ts:=(st.next,st.fr)::st.ts,next:=st.next+1,aT:=st.au+1,au:=st.au+1,aK:=st.aK+1,bq:=false} (Mx D3 (ff O)) (aJ+1) c:=
     ⟨by show st.au+1<=_;omega,by show st.aK+1<=_;omega,by show st.next+1<=_;omega,by show((st.next,st.fr)::st.ts).length<=_;simp;omega,cG,by omega,by omega⟩
    have dD:Bp B g aw {y with Sb:=aQ,ft:=w.size,ns:= []} dB {st with fr:= [],ts:=(st.next,st.fr)::st.ts,next:=st.next+1,aT:=st.au+1,au:=st.au+1,aK:=st.aK+1,bq:=false} O (Mx D3 (ff O)) (aJ+1) c:=
     ⟨b3,dz.up,dC,fa,AF cD cv,b⟩
    have cI:CZ {st with fr:= [],ts:=(st.next,st.fr)::st.ts,next:=st.next+1,aT:=st.au+1,au:=st.au+1,aK:=st.aK+1,bq:=false}=CZ st:=by rw[<- cF];exact dC.map.symm
    have cJ:JN m O:=du.trans dz;have cK: ∀v,¬dd v->ff O v=ff m v:=λv I=>by rw[cH v λn=>oz I n,cz v (QS I _) λn=>kN I n]
    refine aE (AY.mk (s:=y.tp) (AB b3.cell rfl) ?_);have fb:=b3.ck.len;have fc:=b3.da;have gg:y.tp.len=st.ts.length+1:=by have an:y.tp.len=y.ps.length:=fb;have C:y.ps.length=((st.next,st.fr)::st.ts).length:=fc;rw[an,C];rfl
    refine ae.intro (λdE=>?_) (λdE=>?_)
    ·refine AJK (q:= {y with Sb:=aQ,ft:=w.size,ns:= []}) aZ dD (by omega) (λh' ao aR dF=>⟨_,rfl,?_⟩) λh' bh bJ bF ao r an C S' fd fe fg gh fh fi fj=>⟨_,rfl,?_⟩
     ·rw[cI] at dF;obtain⟨S',fk,fl⟩:=aR.box;refine bf h' ao ⟨λz=>aR.fuel (cJ.calm z),by rw[<- bn];exact aR.dn,⟨S',by rw[<- aC];exact fk,λc b=>?_⟩,aR.down,bs.then (aR.mod.ai λc _ b=>bt c b),λv I=>(aR.fg v I).trans (cK v I),aR.wt⟩ dF;rcases fl c b with o|o
      ·exact bt c o
      ·exact .inr (by have:=bs.size;omega)
     ·refine ca h' bh bJ bF ao r (an.trans bn) (C.trans aC) S' (cJ.trans fd) fe (fg.trans cI) (.inl (by omega)) (λv I=>(fh v I).trans (cK v I)) (bs.then (fi.ai λc _ b=>bt c b)) λc b=>?_
      rcases fj c b with o|o
      ·exact bt c o
      ·exact .inr (by have:=bs.size;omega)
    ·have gi: ¬((y.tp.len:Nat):Int)>=4:=of_decide_eq_false dE;refine ca aw {y with Sb:=aQ,ft:=w.size,ns:= []} dB _ O _ bn aC (dD.aJ (Cd _)) cJ rfl cI (.inl ?_) cK bs bt;show((st.next,st.fr)::st.ts).length<=3;rw[A5];omega
 refine ah.mk λfm fn=>?_
 have ba: ∀c,q.tp.af=some c->ap c=6:=ag.kt;have aS: ∀c,q.np.af=some c->ap c=7:=ag.kx;have cL: ∀(z:aa) (tp np:Sl) (N:Nat),Own fL BG z tp (t::q.ps)->Own IE Bb z np ((st.next:Int)::eg st)->Mod (λc=>q.tp.af=some c\/q.np.af=some c) J z->(∀ c,tp.af=some c->(q.tp.af=some c\/J.size<=c)/\c<N)->(∀ c,np.af=some c->q.np.af=some c\/(J.size<=c/\N<=c))->
   ab z ((⟨q.d,0,none⟩:Q6).add 4) (J4 tp.p tp.len tp.cap) λdG=>ab dG ((⟨q.d,0,none⟩:Q6).add 5) (J4 np.p np.len np.cap) λaV=>fm () aV:=by
  intro z tp np N fo on bu b4 b5;have aW:ap q.d=1:=ag.kd;have nd: ¬(q.tp.af=some q.d\/q.np.af=some q.d):=by
   rintro(h|h)
   ·have:=ba _ h;rw[aW] at this;cases this
   ·have:=aS _ h;rw[aW] at this;cases this
  have fp:=bu.af ag.cell nd;have gj:=bu.size;have gk:q.d<J.size:=ag.gW;refine ab.dm fp (by simp) λdG fq fs gl=>ab.dm fq (by simp) λaV fu fw gm=>?_
  have aX:Mod (· =q.d) z aV:=fs.trans fw;have cM: ∀c,tp.af=some c-> ¬c=q.d:=λc b e=>by
   rcases(b4 c b).1 with h|h
   ·exact nd (.inl (e▸h))
   ·omega
  have dH: ∀c,np.af=some c-> ¬c=q.d:=λc b e=>by
   rcases b5 c b with h|h
   ·exact nd (.inr (e▸h))
   ·omega
  have dI:=fo.mod aX cM;have dJ:=on.mod aX dH;have gn:=ag.ext.size;have bb:=ag.eU (h':=aV) (tp:=tp) (np:=np) (ps:=t::q.ps) (ts:=(st.next,st.fr)::st.ts) (next:=st.next) (aT:=st.aT) (S:=λc=>aN<=c/\c<aO)
   (by simpa [dZ] using fu) ((bu.ai λc _ b=> .inr b).trans (aX.ai λc _ b=> .inl b)) dI dJ (by have:=V.da;simp[this])
   (λc b=>by
    obtain⟨o,H⟩:=b4 c b;by_cases e:q.tp.af=some c
    ·exact .inl e
    ·have w:J.size<=c:=o.resolve_left e;refine .inr ⟨cg c w,by omega,λC=>?_,λh=>by omega⟩;rcases b5 c C with Y|Y
     ·have:=aS c Y;rw[cg c w] at this;cases this
     ·omega)
   (λc b=>by
    by_cases e:q.np.af=some c
    ·exact .inl e
    ·have w:=(b5 c b).resolve_left e;refine .inr ⟨cg c w.1,by omega,λC=>?_,λh=>by omega⟩;have:=(b4 c C).2;omega)
   (λc b=>⟨by have:=bO.ext.size;omega,by have:=aX.size;omega⟩)
   (λi t' p o H=>by
    cases i with
    |zero=>
     simp only[HA,BY] at o H;subst o H;have fx:bR J t st.fr (MR st.fr) aN aO:=cY.mod a3 λc aq aA b=>by
      have aG:=cZ c aq;rcases b with b|b
      ·have:=al.kb c b;rw[aG] at this;cases this
      ·have:=al.kl;rw[<- b,aG] at this;cases this
     have fy:bR z t st.fr (MR st.fr) aN aO:=fx.mod bu λc aq aA b=>by
      have aG:=ch c aq aA;rcases b with b|b
      ·have:=ba c b;rw[aG] at this;cases this
      ·have:=aS c b;rw[aG] at this;cases this
     refine .inr ⟨aN,aO,fy.mod aX λc aq aA b=>?_,by have:=aX.size;omega,λc aq aA=>⟨⟨aq,aA⟩,ch c aq aA⟩,bM⟩;have aG:=ch c aq aA;rw[b,aW] at aG;cases aG
    |succ i=>exact .inl ⟨i,by simpa using o,by simpa using H⟩)
  have dK: ∀c,Kr ap J.size tp np (λc=>aN<=c/\c<aO) c≠0->k c≠0\/h.size<=c:=λc b=>by
   by_cases e:ap c=0
   ·by_cases Z:c<Y.size
    ·exfalso;apply b;unfold Kr;rw[if_neg (by simp[e]),if_neg λC=>?_,if_neg λC=>?_,if_neg (by omega)]
     ·rcases b5 c C with bv|bv
      ·have:=aS c bv;rw[e] at this;cases this
      ·omega
     ·rcases(b4 c C).1 with bv|bv
      ·have:=ba c bv;rw[e] at this;cases this
      ·omega
    ·exact .inr (by omega)
   ·exact cf c e
  generalize Kr ap J.size tp np (λc=>aN<=c/\c<aO)=bw at*
  have fz:Mod (λc=>k c≠0) h aV:=(ej.then (bu.ai λc _ b=>cf c (by
   rcases b with b|b
   ·rw[ba c b];decide
   ·rw[aS c b];decide))).then (aX.ai λc _ b=>cf c (by rw[b,aW];decide))
  refine fn _ _ ?_;refine aE (AC.mk (AB bb.cell rfl) (aE (ab.dm bb.cell (by simp) λfA cO fB fC=>aE (ab.dm cO (by simp) λcP b6 fE go=>?_))));have fF:J8 J9 (((st.next:Nat):Int)+(1:Int))=((st.next+1:Nat):Int):=Ab (by omega);have fG:J8 J9 (((st.au:Nat):Int)+(1:Int))=((st.au+1:Nat):Int):=Ab (by omega);have b7:Mod (· =q.d) aV cP:=fB.trans fE;have gp: ∀c,tp.af=some c-> ¬c=q.d:=cM;have fH:=bb.eU (h':=cP) (tp:=tp) (np:=np) (ps:=t::q.ps) (ts:=(st.next,st.fr)::st.ts) (next:=st.next+1) (aT:=st.au+1) (S:=λ_=>False)
   (by rw[fF,fG] at b6;simpa [dZ] using b6) (b7.ai λc _ b=> .inl b) (dI.mod b7 cM) (dJ.mod b7 dH) (by have:=V.da;simp[this]) (λc b=> .inl b) (λc b=> .inl b) (λc h=>h.elim) (λi t' p o H=> .inl ⟨i,o,H⟩)
  have fI: ∀c,Kr bw aV.size tp np (λ_=>False) c≠0->k c≠0\/h.size<=c:=λc b=>by
   by_cases e:bw c=0
   ·exfalso;apply b;unfold Kr;rw[if_neg (by simp[e]),if_neg λC=>?_,if_neg λC=>?_,if_neg λh=>h]
    ·have o:bw c=7:=bb.kx c C;rw[e] at o;cases o
    ·have o:bw c=6:=bb.kt c C;rw[e] at o;cases o
   ·exact dK c e
  exact en cP {q with Sb:=az,tp:=tp,np:=np,ps:=t::q.ps} _ fH rfl rfl (fz.then (b7.ai λc _ b=>dK c (by
   have o:bw q.d=1:=bb.kd;rw[b,o];decide))) fI
 have cQ:=ag.cell;have b8:Own fL BG J q.tp q.ps:=ag.ck;have b9:Own IE Bb J q.np (eg st):=ag.names;have cR:q.ps.length<=1000000:=by rw[V.da];omega
 have cS:(eg st).length<=1000000:=by simp[eg];omega
 have bc: ∀c,q.tp.af=some c->q.np.af≠some c:=λc o H=>by
  have:=ba c o;rw[aS c H] at this;cases this
 have bx: ∀c,q.tp.af=some c->c<J.size:=λc b=>b8.lt b
 have bd: ∀c,q.np.af=some c->c<J.size:=λc b=>b9.lt b
 refine aE (AY.mk (s:=q.tp) (AB cQ rfl) (aE (AY.mk (s:=q.np) (AB cQ rfl) (aE (AC.mk (AB cQ rfl) ?_)))));have Q: ∀ {z:aa},Mod (λc=>q.tp.af=some c\/q.np.af=some c) J z->z[q.d]? =some (J2 (dZ {q with Sb:=az} {st with au:=st.au+1,bq:=false} false) Ey (0,0)):=λx=>x.af ag.cell (by
  have aW:ap q.d=1:=ag.kd;rintro(h|h)
  ·have:=ba _ h;rw[aW] at this;cases this
  ·have:=aS _ h;rw[aW] at this;cases this)
 refine⟨?_,?_⟩
 ·refine ak.mk λfJ _ dL aY gq=>⟨AB (Q (Ext.mod aY)) rfl,AB (Q (Ext.mod aY)) rfl,AB (Q (Ext.mod aY)) rfl,?_,?_⟩
  ·refine qs (b8.ext aY) dL (λe=>by have:=bx _ e;omega) cR λaH X aI av aL=>⟨_,rfl,?_⟩
   have U:Mod (λc=>q.tp.af=some c\/q.np.af=some c) J X:=(Ext.mod aY).trans (av.ai λc _ b=> .inl b);refine⟨AB (Q U) rfl,AB (Q U) rfl,ak.mk λfK _ fM bz gr=>⟨AB (Q (U.trans (Ext.mod bz))) rfl,AB (Q (U.trans (Ext.mod bz))) rfl,?_⟩⟩;have bA:Own IE Bb fK q.np (eg st):=(((b9.ext aY).mod av λc b e=>bc c e b)).ext bz;refine qt bA fM (λe=>by have:=bd _ e;have:=U.size;omega) cS λbB bC bE aM bG=>⟨_,rfl,?_⟩
   have dM:=U.size;have bH: ∀c,aH.af=some c->c<X.size:=λc b=>aI.lt b
   refine cL bC aH bB X.size (((aI.ext bz)).mod aM λc b e=>?_) bE ((U.trans (Ext.mod bz)).trans (aM.ai λc _ b=> .inr b)) (λc b=>⟨(aL c b).imp id λh=>by omega,bH c b⟩) λc b=>(bG c b).imp id λh=>⟨by omega,by omega⟩
   rcases aL c b with o|o
   ·exact bc c o e
   ·have:=bd c e;omega
  ·refine ak.mk λfA _ cO dN fC=>?_
   have bI:=aY.trans dN;refine⟨AB (Q (Ext.mod bI)) rfl,AB (Q (Ext.mod bI)) rfl,?_⟩;refine qs (b8.ext bI) (dN.af dL λh=>h) (λe=>by have:=bx _ e;omega) cR λaH X aI av aL=>⟨_,rfl,?_⟩
   have U:Mod (λc=>q.tp.af=some c\/q.np.af=some c) J X:=(Ext.mod bI).trans (av.ai λc _ b=> .inl b);refine⟨AB (Q U) rfl,AB (Q U) rfl,?_⟩;have dM:=U.size;have bA:Own IE Bb X q.np (eg st):=(b9.ext bI).mod av λc b e=>bc c e b
   have b6:X[fJ.size]? =some (J2 #[J6 J9 (st.next:Int)] Bb (0,0)):=av.af cO (λe=>by have:=bx _ e;omega);refine qt bA b6 (λe=>by have:=bd _ e;omega) cS λbB bC bE aM bG=>⟨_,rfl,?_⟩
   have bH: ∀c,aH.af=some c->c<X.size:=λc b=>aI.lt b
   refine cL bC aH bB X.size (aI.mod aM λc b e=>?_) bE (U.trans (aM.ai λc _ b=> .inr b)) (λc b=>⟨(aL c b).imp id λh=>by omega,bH c b⟩) λc b=>(bG c b).imp id λh=>⟨by omega,by omega⟩
   rcases aL c b with o|o
   ·exact bc c o e
   ·have:=bd c e;omega
 ·refine ak.mk λgs _ fO cT gt=>⟨AB (Q (Ext.mod cT)) rfl,AB (Q (Ext.mod cT)) rfl,ak.mk λgu _ fP dO gv=>?_⟩
  have be:=cT.trans dO;refine⟨AB (Q (Ext.mod be)) rfl,AB (Q (Ext.mod be)) rfl,AB (Q (Ext.mod be)) rfl,?_⟩;refine qs (b8.ext be) fP (λe=>by have:=bx _ e;omega) cR λaH X aI av aL=>⟨_,rfl,?_⟩
  have U:Mod (λc=>q.tp.af=some c\/q.np.af=some c) J X:=(Ext.mod be).trans (av.ai λc _ b=> .inl b);refine⟨AB (Q U) rfl,AB (Q U) rfl,?_⟩;have dM:=U.size;have bA:Own IE Bb X q.np (eg st):=(b9.ext be).mod av λc b e=>bc c e b
  have fQ:X[J.size]? =some (J2 #[J6 J9 (st.next:Int)] Bb (0,0)):=av.af (dO.af fO λh=>h) (λe=>by have:=bx _ e;omega);refine qt bA fQ (λe=>by have:=bd _ e;omega) cS λbB bC bE aM bG=>⟨_,rfl,?_⟩
  have bH: ∀c,aH.af=some c->c<X.size:=λc b=>aI.lt b
  refine cL bC aH bB X.size (aI.mod aM λc b e=>?_) bE (U.trans (aM.ai λc _ b=> .inr b)) (λc b=>⟨(aL c b).imp id λh=>by omega,bH c b⟩) λc b=>(bG c b).imp id λh=>⟨by omega,by omega⟩
  rcases aL c b with o|o
  ·exact bc c o e
  ·have:=bd c e;omega
end
def F4:List Pr->Int
 | []=>0
 |x::l=>if Ah x≠0 then Ah x else F4 l
def EU(l:List Pr):Int:=if l.length=0 then 1 else if l.length>64 then 2 else F4 l
theorem yk: ∀ {l:List Pr},F4 l=0->BV l
 | [],_=>yL
 |x::l,a=>by
  unfold F4 at a;split at a
  ·rename_i b;exact absurd a b
  ·rename_i b;intro d c;rcases List.mem_cons.1 c with rfl|c
   ·exact Decidable.not_not.1 b
   ·exact yk a d c
theorem yo {l:List Pr}(a:EU l=0):Xq l/\BV l/\l≠ []:=by
 unfold EU at a;split at a
 ·cases a
 ·rename_i b;split at a
  ·cases a
  ·rename_i e;have:=yk a;exact⟨⟨by omega,λx c=>oA (this x c)⟩,this,λd=>b (by rw[d];rfl)⟩
theorem AGh {l:List Pr}{i:Nat}{x:Pr}(a:l[i]? =some x)(d:F4 (l.take i)=0):F4 l=if Ah x≠0 then Ah x else F4 l:=by
 split
 ·rename_i e
  induction l generalizing i with
  |nil=>simp at a
  |cons f l g=>
   cases i with
   |zero=>
    simp at a;subst a;unfold F4;rw[if_pos e]
   |succ i=>
    have b:F4 (f::l.take i)=0:=d;unfold F4 at b ⊢;split at b
    ·rename_i c;exact absurd b c
    ·rename_i c;rw[if_neg c];exact g (by simpa using a) b
 ·rfl
theorem Z0: ∀ {l:List Pr} {x:Pr},F4 l=0->Ah x=0->F4 (l++ [x])=0
 | [],x,_,b=>by show F4 [x]=0;unfold F4;rw[if_neg (by simp[b])];rfl
 |y::l,x,b,d=>by
  have a:F4 (y::l)=0:=b;show F4 (y::(l++ [x]))=0;unfold F4 at a ⊢;split at a
  ·rename_i c;exact absurd a c
  ·rename_i c;rw[if_neg c];exact Z0 a d
theorem yq {Q:al}{h:aa}{s:Sl}{l:List Pr}{n:A2O}(v:View BZ h s l)(j: ∀B,Ext h B->n (J6 J9 (EU l)) B):AA Q P Oz #[J4 s.p s.len s.cap] h n:=by
 refine AGF ?_;unfold Zw;rw[v.len];refine ae.intro (λe=>?_) (λe=>?_)
 ·have o:l.length=0:=by have:((l.length:Nat):Int)=0:=(by simpa using e);omega
  have:=j h Mod.refl;unfold EU at this;rwa [if_pos o] at this
 have o:l.length≠0:=λf=>by rw[f] at e;cases e
 refine ae.intro (λe=>?_) (λe=>?_)
 ·have u:l.length>64:=by have:=of_decide_eq_true e;omega
  have:=j h Mod.refl;unfold EU at this;rwa [if_neg o,if_pos u] at this
 have u: ¬l.length>64:=by have:=of_decide_eq_false e;omega
 have R:EU l=F4 l:=by unfold EU;rw[if_neg o,if_neg u]
 rw[R] at j;refine Loop.rule (λC x d=> ∃i:Nat,x=((i:Int),())/\C=l.length-i/\i<=l.length/\Ext h d/\F4 (l.take i)=0) ?_ ⟨0,rfl,rfl,by omega,Mod.refl,rfl⟩;rintro K C _ d ⟨i,rfl,rfl,ac,w,q⟩ S;dsimp only;refine ae.intro (λe=>?_) (λe=>?_)
 ·have r:i<l.length:=by have:=of_decide_eq_true e;omega
  have ag:l[i]? =some l[i]:=A2 r;rw[<- v.len];refine(v.ext w).idx ag λa _ c=>?_
  obtain⟨T,U,V⟩:=c.pair;refine AJ.mk T (AJ.mk U (Aa.mk V (ak.pair λb k _ m W ad=>?_)));have y:=w.trans W;generalize l[i]=p at*
  have D:=AGh ag q;refine ah.mk λE F=>?_
  have X:Ah p=1-> ∀d,Ext h d->n (J6 J9 1) d:=λf d x=>by
   have:=j d x;rw[D,if_pos (by rw[f];decide),f] at this;exact this
  have Y:Ah p=2-> ∀d,Ext h d->n (J6 J9 2) d:=λf d x=>by
   have:=j d x;rw[D,if_pos (by rw[f];decide),f] at this;exact this
  have z:Ah p=if(decide (p.key=⟨#[]⟩)||(p.gone&& !decide (p.val=⟨#[]⟩))) then 1 else if(decide (p.key.size>64)||decide (p.val.size>8192)) then 2 else 0:=rfl;have G:(decide (p.key=⟨#[]⟩)||(p.gone&& !decide (p.val=⟨#[]⟩)))=true->E (true,()) k:=λf=>F _ _ (ae.yes rfl (X (by rw[z,if_pos f]) k y))
  have H:(decide (p.key=⟨#[]⟩)||(p.gone&& !decide (p.val=⟨#[]⟩)))=false->E (false,()) k:=λf=>F _ _ (ae.no rfl (by
   refine ah.mk λI J=>?_
   have L:(decide (p.key.size>64)||decide (p.val.size>8192))=true->I (true,()) k:=λA=>J _ _ (ae.yes rfl (Y (by rw[z,if_neg (by rw[f];decide),if_pos A]) k y))
   have Z:(decide (p.key.size>64)||decide (p.val.size>8192))=false->I (false,()) k:=λA=>J _ _ (ae.no rfl (by
    have ab:Ah p=0:=by rw[z,if_neg (by rw[f];decide),if_neg (by rw[A];decide)]
    rw[Ab (by omega)];refine S (l.length-(i+1)) _ _ (by omega) ⟨i+1,rfl,rfl,r,y,?_⟩;rw[Ax,ag];exact Z0 q ab))
   refine AJ.mk (AL m rfl) (ae.intro (λg=>?_) (λg=>?_))
   ·have M:p.key.size>64:=by have:=of_decide_eq_true g;omega
    exact L (by simp[M])
   ·have M: ¬p.key.size>64:=by have:=of_decide_eq_false g;omega
    refine AJ.mk (AB m rfl) ?_;by_cases N:p.val.size>8192
    ·rw[decide_eq_true (show((p.val.size:Int)>(8192:Int)) by omega)];exact L (by simp[N])
    ·rw[decide_eq_false (show ¬((p.val.size:Int)>(8192:Int)) by omega)];exact Z (by simp[N];omega)))
  refine AJ.mk (AL m rfl) ?_;rw[CY];refine ae.intro (λg=>?_) (λg=>?_)
  ·exact G (by rw[g];rfl)
  ·refine Aa.mk (AB m rfl) (ae.intro (λt=>?_) (λt=>?_))
   ·refine AJ.mk (AB m rfl) ?_;rw[CY];cases O:decide (p.val=(⟨#[]⟩:A2P)) with
    |true=>exact H (by rw[g,t,O];rfl)
    |false=>exact G (by rw[g,t,O];rfl)
   ·exact H (by rw[g,t];rfl)
 ·have r:i=l.length:=by have:=of_decide_eq_false e;omega
  subst r;rw[C5] at q;have:=j d w;rwa [q] at this
theorem yt {f:bP}{D:Bl}(h:BD f D){s:Nat}(d:s<=99999999){b:List Pr}(i:Xq b): ∀e∈(D.L s).map (BM s)++ [BM s b],e.length<=1048576:=λe a=>by
 rcases List.mem_append.1 a with a|a
 ·obtain⟨c,j,rfl⟩:=List.mem_map.1 a;have:=Yc d (h.gh s c j);omega
 ·rw[List.mem_singleton.1 a];have:=Yc d i;omega
theorem AIf(a:List (List UInt8))(b:List UInt8):aI (a++ [b])=aI a++Cj b:=by simp
theorem AIh {i j:bP}{D:Bl}{s:Nat}{b:List Pr}(h:BD i D)(o:1<=s/\s+1<=99999999)(l:Xq b)(a: ∀e,j e=if e=aD nl s then some (AX (aI ((D.L s).map (BM s)++ [BM s b])),bD) else i e):BD j (R6 D s b):=by
 refine APm h o l (λf _ _ p=> .inl ?_) (λf _ _=> .inl ?_) (λf=> .inl ?_) (λe r n=>?_) ⟨_,by rw[a,if_pos rfl],?_⟩
 ·rw[a,if_neg λd=>p (Ib d)]
 ·rw[a,if_neg λd=>VV s f d.symm]
 ·rw[a,if_neg λd=>LM s f d.symm]
 ·rw[a,if_neg (r s)] at n;exact n
 ·rw[EP,CH];have:=Qy (rs:=(D.L s).map (BM s)++ [BM s b]) (yt h (by omega) l) (t:= []) TT;rw[AM] at this;exact this
theorem AJC {j F1 G:bP}{D:Bl}{s:Nat}{b:List Pr}(h:BD j D)(z:1<=s/\s+1<=99999999)(C:Xq b)(t: ∀e,F1 e=if e=aD nl s then some (AX (aI ((D.L s).map (BM s))),AX (Cj (BM s b))) else j e)(c:Lr F1 G):
  BD G {D with aP:=max D.aP (s+1)}\/BD G (R6 D s b):=by
 have E: ∀a,1<=a->a<=99999999->a≠s->NF (j (aD nl a)) (G (aD nl a)):=λa l n u=>by
  have d:F1 (aD nl a)=j (aD nl a):=by rw[t,if_neg λd=>u (Ib d)]
  have:=c.bX (x:=aD nl a) λp o=>(h.log.has a p l n (d▸o)).1
  rwa [d] at this
 have F: ∀a,1<=a->a<=99999999->NF (j (aD nn a)) (G (aD nn a)):=λa l n=>by
  have d:F1 (aD nn a)=j (aD nn a):=by rw[t,if_neg λd=>VV s a d.symm]
  have:=c.bX (x:=aD nn a) λp o=>(h.note.has a p l n (d▸o)).1
  rwa [d] at this
 have ft: ∀a,F1 (aU a)=j (aU a):=λa=>by rw[t,if_neg λd=>LM s a d.symm]
 have H: ∀a∈(Aj D).names,G (aU a)=some (AX (JZ (D.T a)),bD)/\Gs (D.T a):=λa O=>by
  obtain⟨I,J⟩:=h.cL a O;have:=c.bX (x:=aU a) λp o=>by rw[ft,I] at o;cases o;rfl
  rw[ft] at this;exact⟨Ue this J I,J⟩
 have K: ∀e,(∀ a,e≠aD nl a)->G e≠none->j e≠none:=λe w P Q=>P (by
  have:=c e;rw[t,if_neg (w s),Q] at this;exact this)
 have L:=c (aD nl s);rw[t,if_pos rfl] at L;obtain⟨S,y⟩:=L;have i:=yg (rs:=(D.L s).map (BM s)) (r:=BM s b) (yt h (by omega) C) S;have M:(G (aD nl s)=none/\(D.L s).map (BM s)= []\/ ∃e,G (aD nl s)=some (e,bD)/\Mi (bl e) ((D.L s).map (BM s)))->BD G {D with aP:=max D.aP (s+1)}:=λT=>by
  refine⟨?_,h.note.aW h.cy.2.2.1 F,H,h.gh,h.dL,λe w hd=>h.dr e (K e (λa d=>by rw[d,QQ] at hd;cases hd) w) hd,by have:=h.cy;refine⟨?_,?_,this.2.2.1,this.2.2.2⟩<;>simp only[]<;>omega⟩;have:=h.log.put (G:=G) (eV:=max D.aP (s+1)) (s:=s) (v:=(D.L s).map (BM s)) ⟨z.1,by omega⟩ (by omega) (λa l n u=>E a l n u) T (by omega);have d:(KD (λa=>(D.L a).map (BM a)) s ((D.L s).map (BM s)))=λa=>(D.L a).map (BM a):=by
   funext a;by_cases d:a=s
   ·subst d;rw[DK]
   ·rw[Eo d]
  rw[d] at this;exact this
 split at y
 ·rename_i U;left;refine M (.inl ⟨y,?_⟩);rw[U] at i;have N: ∀rs,Mi (bl bD) rs->rs= []:=λrs V=>rm V
  rcases i with i|i
  ·exact N _ i
  ·have:=N _ i;simp at this
 ·rcases i with i|i
  ·exact .inl (M (.inr ⟨_,y,i⟩))
  ·right;have W:(D.L s++ [b]).map (BM s)=(D.L s).map (BM s)++ [BM s b]:=by rw[CH];rfl
   refine⟨?_,h.note.aW h.cy.2.2.1 F,H,λa x f=>?_,h.dL,λe w hd=>h.dr e (K e (λa d=>by rw[d,QQ] at hd;cases hd) w) hd,by have:=h.cy;refine⟨?_,?_,this.2.2.1,this.2.2.2⟩<;>simp only[R6]<;>omega⟩
   ·have:=h.log.put (G:=G) (eV:=max D.aP (s+1)) (s:=s) (v:=(D.L s++ [b]).map (BM s)) ⟨z.1,by omega⟩ (by omega) (λa l n u=>E a l n u) (.inr ⟨_,y,by rw[W];exact i⟩) (by omega);have d:(KD (λa=>(D.L a).map (BM a)) s ((D.L s++ [b]).map (BM s)))=λa=>((R6 D s b).L a).map (BM a):=by
     funext a;show _=(KD D.L s (D.L s++ [b]) a).map (BM a);by_cases d:a=s
     ·subst d;rw[DK,DK]
     ·rw[Eo d,Eo d]
    rw[d] at this;exact this
   ·by_cases d:a=s
    ·have f:x∈KD D.L s (D.L s++ [b]) a:=f;rw[d,DK] at f;rcases List.mem_append.1 f with f|f
     ·exact h.gh s x f
     ·rw[List.mem_singleton.1 f];exact C
    ·have f:x∈KD D.L s (D.L s++ [b]) a:=f;rw[Eo d] at f;exact h.gh a x f
theorem ARI {b:bP}{D:Bl}(h:BD b D){t:Nat}(d:D.aP<=t):IM {D with aP:=t}=IM D:=by
 unfold IM;exact TA d λa e _=>by
  show(if a<(Aj D).aT then [] else D.L a)= [];split
  ·rfl
  ·exact h.gB (.inr e)
section
variable {A : al} {B : cE} {g h : aa} {q : Hp} {k : Nat -> Nat} {st : Db} {m : Bx} {D : Bl} {aJ c : Nat} {R : A2O}
theorem ARK(a:bK g h q k st m)(b:R (J6 J9 (st.au:Int)) h):AA A P Ik #[Ap q.lg] h R:=by refine N8 ?_;unfold Ku;exact ae.no rfl (aE (AC.mk (AB a.log rfl) b))
theorem AIt(a:Nat):600000<=20000*a+10000000:=by omega
theorem cE.up(B:cE){d a:Nat}{b:Nat}(e:a<=b)(h:d<=B.W0+a*B.K):d<=B.W0+b*B.K:=AF h (LN (AS _ e) _)
structure mo (st bF:Db) (l:List Pr):Prop where
 map:CZ bF=cM (CZ st) l
 full:4096<=M.ES (A8 st.fr l)->bF.fr= []/\(bF.ts.length<=3\/bF.ts.length=st.ts.length)
 less:M.ES (A8 st.fr l)<4096->bF.fr=A8 st.fr l/\bF.ts=st.ts
theorem yu {s:Sl}{l:List Pr}(ap:cj g)(br:Bp B g h q k st m D aJ c)(hA:aJ+3<=B.A)(ab:View BZ h s l)(aq:l≠ []-> ∀b,s.af=some b->b<h.size/\k b=0)(aG:EU l=0->c+l.length<=B.C)
  (bs:EU l≠0-> ∀o,Ext h o->R (J6 J9 (EU l)) o)
  (a5:EU l=0-> ∀o v,oy B h o q k m v (aJ+3)->(∀ G,Lr (ff v) G->Rec G (aJ+3) (c+l.length) (CZ st)\/Rec G (aJ+3) (c+l.length) (cM (CZ st) l))->R (J6 J9 30) o)
  (bt:EU l=0-> ∀o v,oy B h o q k m v (aJ+3)->jU (ff v) (aJ+3) (c+l.length) (cM (CZ st) l)->R (J6 J9 0) o)
  (a6:EU l=0-> ∀o ac ar bF v aH,ac.d=q.d->ac.b=q.b->Bp B g o ac ar bF v aH (aJ+3) (c+l.length)->JN m v->mo st bF l->(∀ n,¬dd n->ff v n=ff m n)->Mod (λc=>k c≠0) h o->(∀ c,ar c≠0->k c≠0\/h.size<=c)->R (J6 J9 0) o):
  AA A P KV #[Ap q.d,J4 s.p s.len s.cap] h R:=by
 obtain⟨V,hd,L,w,aK,e⟩:=br;have cz:=B.hA;have cB:=B.hC;have bu:=B.wt (a:=aJ) (by omega);have cC:=w.au;have cD:=L.eF;have cE:=w.aP;refine AAu ?_;unfold TM;refine ah.mk λK bv=>YV V (bv _ _ (ae.no rfl ?_))
 refine yq ab λbw ad=>⟨_,rfl,?_⟩
 refine ae.intro (λQ=>bs (by simpa using Q) bw ad) (λQ=>?_);have S:EU l=0:=by simpa using Q
 obtain⟨E,bx,af⟩:=yo S
 replace aq:=aq af
 replace aG:=aG S
 have W:=V.on ad;refine aE (AZ.mk (AB W.cell rfl) (aE (AZ.mk (AB W.cell rfl) ?_)));refine ARK W ⟨_,rfl,⟨AB W.cell rfl,?_⟩⟩;refine AOJ (by omega) E.len E.ok (ab.ext ad) (λb E=>by have:=(aq b E).1;have:=ad.size;omega) λX aL=>⟨_,rfl,⟨AB (W.on aL).cell rfl,?_⟩⟩
 have N:=W.on aL;have aM:=ad.trans aL;have cF:=aM.size;have cG:=Yc (s:=st.au) (by omega) E;have au:(AX (BM st.au l)).size=(BM st.au l).length:=AP _;refine xJ (N.gX ap) N.log N.box N.kY (λo x=>N.fV ap (x.ai λc _ e=> .inl e)) (by decide) (by omega) (by rw[au];omega) (AF aK bu) λav p aw ax aN a7=>⟨_,rfl,?_⟩
 rw[show bl (AX (BM st.au l))=BM st.au l from EP _] at aw ax ⊢;have bz:=Yw V.box.aC (aD nl st.au) (AX (Cj (BM st.au l)));have cH:=(JK (r:=BM st.au l) (by omega)).2;rw[AP] at bz;have a8: ∀c,p c->q.Sb c\/X.size<=c:=λc e=>(a7 c e).imp id λh=>h.1
 have bA:((ff m (aD nl st.au)).getD (bD,bD))=(AX (aI ((D.L st.au).map (BM st.au))),bD):=by
  cases a9:st.bq with
  |true=>rw[L.jr a9];rfl
  |false=>
   have ba:=L.gA st.au (A0 _) (by omega) (by rw[a9];simp);rw[ba,L.ok.jt (by omega) ba];rfl
 have bb: ∀f,st.au<f->D.L f= []:=λf y=>L.rQ w (by omega) y
 have bc:1<=st.au/\st.au+1<=99999999:=⟨by omega,by omega⟩;have bd:(Aj D).aT<=st.au:=by rw[L.aT];exact L.eF.2
 obtain⟨bB,bC⟩:=AOU L.ok bd bb E;have bE:=yN L.ok (b:=l) bd bb;have be:NW (R6 D st.au l)=NW D+l.length:=by
  unfold NW;rw[bE,NO,A1];have:(Aj (R6 D st.au l)).names.map (λf=>((R6 D st.au l).T f).length)=(Aj D).names.map λf=>(D.T f).length:=rfl
  rw[this];simp;omega
 have bG: ∀ {F':bP},(∀ f,F' (aU f)≠none->ff m (aU f)≠none)-> ∀f,F' (aU f)≠none->f<8*aJ+8:=λbH f y=>by
  have:=L.fw w (bH f y);have:=w.next;omega
 have bI: ∀ {bf:Nat},bf<=B.W0+(aJ+1)*B.K->bf<=B.W0+(aJ+3)*B.K:=λh=>B.up (by omega) h
 rcases RF (k:=aD nl st.au) (d:=AX (Cj (BM st.au l))) hd (xM (by decide) (by omega)) with⟨aO,aQ⟩|⟨aQ,aR,bJ⟩
 ·rw[aQ] at aw ⊢;refine ae.yes rfl ?_;refine JS N aw (aN.ai λc _ e=>e.imp id .inl) a8 λbL bM bN bO bQ=>⟨_,rfl,?_⟩
  refine a5 S bL (Mg m) ⟨by rw[aO];decide,bM,⟨p,bN,λc e=>(bQ c e).imp id λh=>by omega⟩,rfl,(Ext.mod aM).trans bO,λ_ _=>rfl,B.up (by omega) aK⟩ λG ay=> .inl ?_
  exact(L.oP w G ay).mono (by omega) (by omega)
 rw[aQ] at ax ⊢;refine ae.no rfl ?_;rw[decide_eq_true rfl,HK] at ax;generalize (EF m (aD nl st.au) (AX (Cj (BM st.au l)))).2=z at*
 have ai: ∀n,ff z n=if n=aD nl st.au then some (AX (aI ((D.L st.au).map (BM st.au))),AX (Cj (BM st.au l))) else ff m n:=λn=>by
  rw[bJ,bA];simp only[Qw]
 have cI: ¬p q.lg:=λe=>by
  rcases a7 _ e with h|h
  ·exact N.kY h
  ·exact h.2 rfl
 have H:=N.boxed (j:=3) (bF:= {st with bq:=true}) aw (aN.ai λc _ e=>e.imp id λh=> .inl ⟨rfl,h⟩) a8 rfl rfl rfl rfl (.inr ax) (.inl ⟨by decide,rfl⟩);have bR:Grow k (Kz k X.size p 2) X.size:=rA;have az: ∀c,Kz k X.size p 2 c≠0->k c≠0\/h.size<=c:=λc e=>by
  by_cases aj:c<X.size
  ·rw[bR c aj] at e;exact .inl e
  ·exact .inr (by omega)
 generalize Kz k X.size p 2=bh at*
 have aA:Mod (λc=>k c≠0) h av:=(Ext.mod aM).trans (aN.ai λc _ e=>by
  rcases e with e|e
  ·rw[V.kb c e];decide
  ·rw[e,V.kl];decide)
 refine aE (AZ.mk (AB H.cell rfl) ?_);refine xL (H.gX ap) H.log H.box H.kY (by decide) (by show st.au<=_;omega) λaS al cJ aT=>⟨_,rfl,?_⟩
 have bS:ff z (aD nl st.au)=some (AX (aI ((D.L st.au).map (BM st.au))),AX (Cj (BM st.au l))):=by rw[ai,if_pos rfl]
 have al:Cm aS q.b p (G6 z (aD nl st.au)).2:=al;have bT:=nR H.box.aC (aD nl st.au);have bi:bg z.files<=B.W0+(aJ+1)*B.K:=B.step (d:=600000) aK (by omega) (AIt B.C);show ae ((G6 z (aD nl st.au)).1 != 0) _ _;rcases Nv aR.up bS with⟨aO,am⟩|⟨am,bU,bV⟩
 ·rw[am] at al;have bW:MU z (aD nl st.au) true=(30,Mg z):=am;rw[am];refine ae.yes rfl ?_;show AA A P CV #[_,J6 J9 (MU z (aD nl st.au) true).1] aS _;rw[bW];refine JS (q:= {q with Sb:=p}) H al (aT.ai λc _ e=> .inl e) (λc e=> .inl e) λbX bY bZ b0 b1=>⟨_,rfl,?_⟩
  refine a5 S bX (Mg z) ⟨(λI=>by have:=aR.calm I;rw[aO] at this;cases this),bY,⟨p,bZ,λc e=>?_⟩,rfl,aA.then (b0.ai λc _ e=>az c e),λn u=>?_,bI bi⟩ λG ay=>?_
  ·rcases b1 c e with F|F
   ·exact az c F
   ·exact .inr (by have:=aA.size;omega)
  ·rw[oG,ai,if_neg (oz u _)]
  ·have b2: ∀f,G (aU f)≠none->ff m (aU f)≠none:=λf y=>by
    have F:ff z (aU f)≠none:=ay.some y;rwa [ai,if_neg λJ=>LM _ f J.symm] at F
   have C:=L.ju w (F':=G) (bG b2);rcases AJC L.ok bc E (F1:=ff (Mg z)) ai ay with aV|aV
   ·left;have au:=ARI L.ok (t:=max D.aP (st.au+1)) (by omega);have em:cu {D with aP:=max D.aP (st.au+1)}=cu D:=by unfold cu Ef;rw[au];rfl
    have b3:NW {D with aP:=max D.aP (st.au+1)}=NW D:=by unfold NW;rw[au];rfl
    refine⟨_,aV,⟨by show max D.aP (st.au+1)<=_;omega,by have:=C.aV;show D.aV<=_;omega,by have:=C.next;show(Aj D).next<=_;omega,by have:=C.aT;show(Aj D).aT<=_;omega,by have:=C.cp;show(Aj D).names.length<=_;omega,by rw[b3];have:=C.bV;omega,λf y=>by have:=C.mK f y;omega⟩,by rw[em];exact L.map⟩
   ·right;refine⟨_,aV,⟨by show max D.aP (st.au+1)<=_;omega,by have:=C.aV;show D.aV<=_;omega,by have:=C.next;show(Aj D).next<=_;omega,by have:=C.aT;show(Aj D).aT<=_;omega,by have:=C.cp;show(Aj D).names.length<=_;omega,by rw[be];have:=C.bV;omega,λf y=>by have:=C.mK f y;omega⟩,by rw[bC,L.map]⟩
 rw[am];refine ae.no rfl ?_;generalize (G6 z (aD nl st.au)).2=O at*
 have Y: ∀n,ff O n=if n=aD nl st.au then some (AX (aI ((D.L st.au).map (BM st.au)++ [BM st.au l])),bD) else ff m n:=λn=>by
  rw[bV];by_cases u:n=aD nl st.au
  ·rw[if_pos u,if_pos u];simp only[Ak,AIf]
  ·rw[if_neg u,if_neg u,ai,if_neg u]
 have b4:=AIh L.ok bc E Y;have b5:=H.boxed (j:=2) (bF:= {st with bq:=true}) al (aT.ai λc _ e=> .inl e) (λc e=> .inl e) rfl rfl rfl rfl (.inl ⟨by decide,rfl,rfl⟩) (.inl ⟨by decide,rfl⟩);have b6:Mod (λc=>k c≠0) h aS:=aA.then (aT.ai λc _ e=>az c (by rw[H.kb c e];decide));have b7: ∀c,Kz bh av.size p 2 c≠0->k c≠0\/h.size<=c:=λc e=>by
  by_cases aj:c<av.size
  ·rw[F9 aj] at e;exact az c e
  ·exact .inr (by have:=aA.size;omega)
 generalize Kz bh av.size p 2=b8 at*
 have aC:JN m O:=aR.trans bU;have cK:=L.di w;have cL:=E.len;refine Loop.rule (λbj x I=> ∃(i:Nat) (an:List M.DC) (ao:Nat->Nat),x=((i:Int),())/\bj=l.length-i/\i<=l.length/\bK g I {q with Sb:=p,ns:=an} ao {st with bq:=true,fr:=A8 st.fr (l.take i)} O/\Mod (λc=>k c≠0) h I/\(∀ c,ao c≠0->k c≠0\/h.size<=c)) ?_
  ⟨0,q.ns,b8,rfl,rfl,AD _,b5,b6,b7⟩
 rintro cN bj _ I ⟨i,an,ao,rfl,rfl,cO,Z,aa,T⟩ bk;dsimp only;have b9:=ab.mod aa λb E af=>af (aq b E).2
 have cP:=aa.size;refine ae.intro (λQ=>?_) (λQ=>?_)
 ·have aF:i<l.length:=by have:=of_decide_eq_true Q;have:=ab.len;omega
  have ag:l[i]? =some l[i]:=A2 aF;refine b9.idx ag λa _ ca=>?_
  obtain⟨cb,cc,cd⟩:=ca.pair;refine AJ.mk cb (AJ.mk cc (Aa.mk cd (ak.pair λb ce _ aW aX cQ=>?_)));have aY:=Z.on aX;refine aE (AZ.mk (AB aY.cell rfl) ?_);refine AJ.mk (AL aW rfl) (AJ.mk (AB aW rfl) (Aa.mk (AB aW rfl) ?_));have cf:=M.QT (l:=l.take i) (t:=st.fr);rw[AE] at cf;refine M.rU (x:=l[i]) aY.fresh (by show(A8 st.fr (l.take i)).length<_;omega) λcg cR ch bm ci=>⟨_,rfl,?_⟩
  have ck:=aY.oQ ch bm ci;rw[Ab (by omega)];refine bk (l.length-(i+1)) _ _ (by omega) ⟨i+1,cg,_,rfl,rfl,aF,by rw[M.rV ag];exact ck,(aa.trans (Ext.mod aX)).then (bm.ai λc _ e=>T c (by rw[Z.kf c e];decide)),λc e=>?_⟩;by_cases aj:c<ce.size
  ·rw[F9 aj] at e;exact T c e
  ·exact .inr (by have:=aX.size;omega)
 have aF:i=l.length:=by have:=of_decide_eq_false Q;have:=ab.len;omega
 subst aF;rw[C5] at Z;clear bk;have aZ:CZ {st with bq:=true,fr:=A8 st.fr l}=cM (CZ st) l:=yF V.fT bx;have cl:El (ff O) {st with bq:=true,fr:=A8 st.fr l} (R6 D st.au l):=
  ⟨b4,L.names,L.ck,L.aT,L.next,L.below,by rw[bB,<-L.fr],λf a0 a1 af=>by
   have bn:f≠st.au:=af rfl;rw[Y,if_neg λJ=>bn (Ib J)];exact L.gA f a0 a1 λ_=>bn,λ_=>by
   show ff O (aD nl st.au)=some (AX (aI ((KD D.L st.au (D.L st.au++ [l]) st.au).map (BM st.au))),bD);rw[Y,if_pos rfl,DK,CH];rfl,λf a0 a1=>by
   rw[Y,if_neg λJ=>VV _ f J.symm];exact L.jq f a0 a1,L.eF,L.aK,λf y=>by
   rw[Y,if_neg λJ=>LM _ f J.symm] at y;exact L.clean f y⟩
 have cm:R3 {st with bq:=true,fr:=A8 st.fr l} (R6 D st.au l) (aJ+1) (c+l.length):=
  ⟨by show st.au<=_;omega,by have:=w.aK;show st.aK<=_;omega,by have:=w.next;show st.next<=_;omega,by have:=w.cp;show st.ts.length<=_;omega,by rw[be];have:=w.bV;omega,by show max D.aP (st.au+1)<=_;omega,by have:=w.aV;show D.aV<=_;omega⟩
 have bo:Bp B g I {q with Sb:=p,ns:=an} ao {st with bq:=true,fr:=A8 st.fr l} O (R6 D st.au l) (aJ+1) (c+l.length):=
  ⟨Z,aC.up,cl,cm,AF bT bi,aG⟩
 have a2: ∀n,¬dd n->ff O n=ff m n:=λn u=>by rw[Y,if_neg (oz u _)]
 refine ah.mk λcS a3=>?_
 refine aE (AZ.mk (AB Z.cell rfl) ?_);refine M.rR Z.fresh ⟨_,_,rfl,?_⟩;refine ae.intro (λa4=>?_) (λa4=>?_)
 ·have cT:4096<=M.ES (A8 st.fr l):=by have:=of_decide_eq_true a4;have J:M.ES ({st with bq:=true,fr:=A8 st.fr l}:Db).fr=M.ES (A8 st.fr l):=rfl;omega
  refine AOg (q:= {q with Sb:=p,ns:=an}) ap bo (by omega) (λo v U bp=>⟨_,rfl,a3 _ _ ?_⟩) λo ac ar bF v aH cn co S' cp cq cr cs ct cv cw=>⟨_,rfl,a3 _ _ ?_⟩
  ·rw[aZ] at bp;obtain⟨S',cx,cy⟩:=U.box;refine bt S o v ⟨λI=>U.fuel (aC.calm I),U.dn,⟨S',cx,λc e=>?_⟩,U.down,aa.then (U.mod.ai λc _ e=>T c e),λn u=>(U.fg n u).trans (a2 n u),U.wt⟩ bp;rcases cy c e with F|F
   ·exact T c F
   ·exact .inr (by omega)
  ·refine a6 S o ac ar bF v aH cn co S' (aC.trans cp) ⟨cr.trans aZ,λ_=>⟨cq,cs⟩,λh=>absurd h (by omega)⟩ (λn u=>(ct n u).trans (a2 n u)) (aa.then (cv.ai λc _ e=>T c e)) λc e=>?_
   rcases cw c e with F|F
   ·exact T c F
   ·exact .inr (by omega)
 ·have cU:M.ES (A8 st.fr l)<4096:=by have:=of_decide_eq_false a4;have J:M.ES ({st with bq:=true,fr:=A8 st.fr l}:Db).fr=M.ES (A8 st.fr l):=rfl;omega
  refine a3 _ _ ?_;exact a6 S I {q with Sb:=p,ns:=an} ao _ O _ rfl rfl (bo.aJ (by omega)) aC ⟨aZ,λh=>absurd h (by omega),λ_=>⟨rfl,rfl⟩⟩ a2 aa T
end
theorem yw: ∀(l:List UInt8) (a:Nat),lR l->SH a l<=999999999999->Lib.parseUint10 a l= .ok (SH a l)
 | [],a,_,_=>rfl
 |c::l,a,hd,b=>by
  have h:SH a (c::l)=SH (a*10+(c.toNat-48)) l:=rfl;rw[h] at b ⊢;have d:=hd c (by simp);have f:=qA l (a*10+(c.toNat-48));unfold Lib.parseUint10;rw[if_pos d,if_neg (by omega),if_neg (by omega)];exact yw l _ (λx e=>hd x (An _ e)) b
theorem AOL {a:Nat}(i:a<=999999999999):Lib.atoiAll (Lib.decDigits a)= .ok (a:Int):=by
 obtain⟨b,d⟩:=YX a;cases e:Lib.decDigits a with
 |nil=>
  have:=congrArg List.length e;rw[Lib.decDigits_length] at this;have:=Lib.nDigits_pos a;simp at *;omega
 |cons c j=>
  rw[e] at b d;have o:=b c (by simp);have f:=yw (c::j) 0 b (by rw[d];exact i);rw[d] at f;unfold Lib.atoiAll;simp only[];have l: ¬(c.toNat=43\/c.toNat=45):=by omega
  have n: ¬c.toNat=45:=by omega
  rw[if_neg l];unfold Lib.parseMag;rw[if_neg (by simp),f];simp only[n,not_false_eq_true,true_and,false_and,if_false];rw[if_neg (by omega)]
theorem APh {A:al}{h:aa}{a:Nat}{R:A2O}(f:a<=999999999999)(d: ∀e,Ext h e->R (J1 #[J6 J9 (a:Int),.nilIface]) e):AA A P Tt #[J7 (AX (Lib.decDigits a))] h R:=by
 intro m;have i:(Lib.decDigits a).length<=20:=by rw[Lib.decDigits_length];exact Lib.nDigits_le20 a (by omega)
 refine Calls.mono (Proofs.Any.strconv_Atoi_ok Proofs.Tryz.gy (AX (Lib.decDigits a)) (by rw[AP];omega) (a:Int) (by rw[show(AX (Lib.decDigits a)).data.toList=Lib.decDigits a from Ce _];exact AOL f) (A.at h m)) ?_;rintro j l ⟨rfl,c|⟨t,c⟩⟩
 ·subst c;exact⟨_,rfl,h,m,rfl,d h Mod.refl⟩
 ·subst c;refine⟨_,rfl,_,_,rfl,d _ ?_⟩;refine⟨?_,λb n _=>?_⟩
  ·simp[Lib.bytesWorld,World.freeze,World.alloc,World.drew,al.at]
  ·simp[Lib.bytesWorld,World.freeze,World.alloc,World.drew,al.at,GP,Array.getElem?_push];rw[if_neg (by omega),if_neg (by omega)]
theorem AHm {A:al}{h:aa}{s:Sl}{l:List Int}{v:Int}{R:A2O}(d:View IE h s l)(t:l.length<=1000000)(n:R (J3 (decide (v∈l))) h):AA A P Ea #[J4 s.p s.len s.cap,J6 J9 v] h R:=by
 refine K9 ?_;unfold Gm;refine Mc ?_;unfold Ig;refine Loop.rule (λo x p=> ∃i:Nat,x=((i:Int),())/\o=l.length-i/\i<=l.length/\p=h/\v∉l.take i) ?_ ⟨0,rfl,rfl,AD _,rfl,by simp⟩;rintro K o _ _ ⟨i,rfl,rfl,u,rfl,e⟩ r;dsimp only;rw[d.len];refine ae.intro (λf=>?_) (λf=>?_)
 ·have b:i<l.length:=by have:=of_decide_eq_true f;omega
  have ag:l[i]? =some l[i]:=A2 b;rw[<- d.len];refine d.idx ag λa _ c=>AC.mk c.int ?_
  refine ae.intro (λq=>?_) (λq=>?_)
  ·have j:v=l[i]:=by simpa using q
   refine⟨_,rfl,?_⟩;rw[decide_eq_true (show((i:Int)>=0) by omega)];rwa [decide_eq_true (show v∈l by rw[j];exact AW b)] at n
  ·have j:v≠l[i]:=by simpa using q
   rw[Ab (by omega)];refine r (l.length-(i+1)) _ _ (by omega) ⟨i+1,rfl,rfl,b,rfl,?_⟩;rw[Ax,ag];simp only[DM,Fl,Sp,not_or];exact⟨e,j⟩
 ·have b:i=l.length:=by have:=of_decide_eq_false f;omega
  subst b;rw[C5] at e;refine⟨_,rfl,?_⟩;rwa [decide_eq_false e] at n
section
variable {A : al} {g h : aa} {q : Hp} {k : Nat -> Nat} {st : Db} {m : Bx} {D : Bl} {R : A2O}
theorem AIn(b:bK g h q k st m)(d:Nat):Kr k d q.tp q.np (λ_=>False)=k:=by
 funext c;unfold Kr;by_cases a:k c=0
 ·rw[if_neg (by simp[a]),if_neg (λh=>by have:=b.kt c h;rw[a] at this;cases this),if_neg (λh=>by have:=b.kx c h;rw[a] at this;cases this),if_neg (λh=>h),a]
 ·rw[if_pos a]
theorem bK.jv {h':aa}{next:Nat}(b:bK g h q k st m)(a:h'[q.d]? =some (J2 (dZ q {st with next:=next} false) Ey (0,0)))(x:Mod (· =q.d) h h'):bK g h' q k {st with next:=next} m:=by have R:=b.rest (C:=λc=>c=1) (h':=h') (x.ai λc _ a=>by rw[a];exact b.kd) (by decide);have:=b.eU (h':=h') (tp:=q.tp) (np:=q.np) (ps:=q.ps) (ts:=st.ts) (next:=next) (aT:=st.aT) (S:=λ_=>False) a (x.ai λc _ a=> .inl a) (R.ck (by decide)) (R.names (by decide)) b.da (λc a=> .inl a) (λc a=> .inl a) (λc h=>h.elim) (λi t p d e=> .inl ⟨i,d,e⟩);rw[AIn b] at this;exact this
theorem AP3 {m:Bx}{x:A2P}:ff m x≠none↔x∈m.files.map (·.name):=by rw[<- xC (k:=x),Ud];cases ff m x<;>simp
theorem AOc {s:A2P}(h:(du s 0 != (116:Int))=false)(l:2<=s.size):(bl s).head? =some 116:=by
 have d:bl s=s.data.toList:=rfl;have a:=BA s;cases b:bl s with
 |nil=>rw[b] at a;simp at a;omega
 |cons c n=>
  have e:du s 0=116:=by simpa using h
  have f:s.data.toList[0]? =some c:=by rw[<- d,b];rfl
  have o:(c.toNat:Int)=116:=by have:=O7 (i:=0) f;rw[<- e];exact this.symm
  have j:c.toNat=116:=by omega
  have:c=116:=by apply UInt8.toNat_inj.1;rw[j];rfl
  rw[this];rfl
theorem ANB {N:Nat}(a2:cj g)(E:bK g h q k st m)(hd:m.down=false)(aC:BD (ff m) D)(a3:(Aj D).names=st.ts.map (·.1))(bB:N<=99999999)(a4: ∀b,ff m (aU b)≠none->b<N)(a5:st.next<=N)(bC:st.ts.length<=100000)(a6:m.files.length<=8000000000000)
  (a7:m.fuel≠ -1-> ∀h' S' n,Cm h' q.b S' n->n.down=true->Mod (λc=>k c≠0) h h'->(∀ c,S' c->k c≠0\/h.size<=c)->BD (ff n) D->(∀ e,(∀ b,e≠aU b)->ff n e=ff m e)->(∀ b,ff n (aU b)≠none->ff m (aU b)≠none)->bg n.files<=bg m.files->R (J6 J9 30) h')
  (a8: ∀h' S' aD n ad,bK g h' {q with Sb:=S'} aD {st with next:=ad} n->JN m n->BD (ff n) D->(∀ e,(∀ b,e≠aU b)->ff n e=ff m e)->(∀ b,ff n (aU b)≠none->b∈st.ts.map (·.1))->st.next<=ad->ad<=N->bg n.files<=bg m.files->
   Mod (λc=>k c≠0) h h'->(∀ c,aD c≠0->k c≠0\/h.size<=c)->R (J6 J9 0) h'):AA A P OL #[Ap q.d] h R:=by
 refine AAs ?_;unfold TN;refine aE (AZ.mk (AL E.cell rfl) ?_);refine uK E.box λaf r ai S a9=>⟨af,_,rfl,?_⟩
 have ba:jN m=(m.files.map (·.name),0):=by unfold jN;rw[if_neg (by simp[hd])]
 rw[ba] at ai ⊢;refine ae.no rfl ?_;dsimp only at ai;have bb:=xD E.box.aC;have aj:=λx=>AP3 (m:=m) (x:=x)
 have bD:(m.files.map (·.name)).length<=8000000000000:=by simpa using a6
 generalize m.files.map (·.name)=d at*
 have bc:=E.on S;have bE:=S.size;have v1:=ai.view;refine Loop.rule (λaF x u=> ∃(i:Nat) (H:Nat->Prop) (v:Nat->Nat) (l:Bx) (next:Nat),x=((i:Int),())/\aF=d.length-i/\i<=d.length/\bK g u {q with Sb:=H} v {st with next:=next} l/\JN m l/\BD (ff l) D/\(∀ e,(∀ b,e≠aU b)->ff l e=ff m e)/\(∀ e,e∉d.take i->ff l e=ff m e)/\
   (∀ b,aU b∈d.take i->b∉st.ts.map (·.1)->ff l (aU b)=none)/\(∀ b,ff l (aU b)≠none->ff m (aU b)≠none)/\st.next<=next/\next<=N/\bg l.files<=bg m.files/\Mod (λc=>k c≠0) r u/\Grow k v r.size) ?_
  ⟨0,q.Sb,k,m,st.next,rfl,rfl,AD _,bc,JN.refl hd,aC,λ_ _=>rfl,λ_ _=>rfl,by simp,λ_ h=>h,A0 _,a5,A0 _,Mod.refl,Grow.refl⟩
 rintro K aF _ u ⟨i,H,v,l,next,rfl,rfl,bG,I,J,T,U,aW,V,sub,aG,aH,W,L,M⟩ aI;dsimp only;have bH:=L.size;have aJ: ∀c,v c≠0->k c≠0\/h.size<=c:=λc f=>by
  by_cases ak:c<r.size
  ·rw[M c ak] at f;exact .inl f
  ·exact .inr (by omega)
 have bd: ∀c,af.af=some c->k c=0:=λc f=>Decidable.byContradiction λh=>by
  have:=(E.own c h).2;have:=a9 c f;omega
 have be:View IV u af d:=v1.mod L λc f al=>al (bd c f)
 rw[v1.len];refine ae.intro (λam=>?_) (λam=>?_)
 ·have B:i<d.length:=by have:=of_decide_eq_true am;omega
  have ag:d[i]? =some d[i]:=A2 B;have aK:d[i]∈d:=AW B;have X:d.take (i+1)=d.take i++ [d[i]]:=by rw[Ax,ag];rfl
  have bf:d[i]∉d.take i:=λt=>by
   obtain⟨j,bh,o⟩:=DB t;have bI:j<i:=by have:=bh;simp at this;omega
   rw[List.getElem_take] at o;have:=(Mb (h₀:=by omega) (h₁:=B) bb).1 o;omega
  rw[Ab (by omega)];refine ah.mk λbi aL=>?_
  rw[<- v1.len];refine be.idx ag λa _ c=>AJ.mk c.str ?_
  have skip: ∀O Y,bK g O {q with Sb:=H} Y {st with next:=next} l->Mod (λc=>k c≠0) r O->Grow k Y r.size->(∀ b,d[i]=aU b->b∈st.ts.map (·.1))->bi () O:=λO Y Z an bj ao=>aL _ _ (by
   refine aI (d.length-(i+1)) _ _ (by omega) ⟨i+1,H,Y,l,next,rfl,rfl,B,Z,J,T,U,λe w=>aW e λt=>w (by rw[X];exact List.mem_append.2 (.inl t)),λb y aa=>?_,sub,aG,aH,W,an,bj⟩;rw[X] at y;rcases List.mem_append.1 y with y|y
   ·exact V b y aa
   ·exact absurd (ao b (List.mem_singleton.1 y).symm) aa)
  refine ah.mk λbk aM=>?_
  have aN:(∀ b,d[i]≠aU b)->bk (true,()) u:=λao=>aM _ _ (ae.yes rfl (skip u v I L M λb o=>absurd o (ao b)))
  have bm: ∀b,2<=(aU b).size:=λb=>by
   have r:=BA (aU b);rw[WP] at r;have ap:=Lib.nDigits_pos b;have F:=Lib.decDigits_length b;rw[A5] at r;omega
  refine ae.intro (λaq=>?_) (λaq=>?_)
  ·have ap:=of_decide_eq_true aq;exact aN λb o=>by have:=bm b;rw[<- o] at this;omega
  ·have ap:2<=d[i].size:=by have:=of_decide_eq_false aq;omega
   refine⟨⟨GW _,by omega⟩,?_⟩;cases ar:(du d[i] 0 != (116:Int)) with
   |true=>
    refine aN λb o=>?_
    have:du d[i] 0=116:=by
     rw[o];have:=O7 (s:=aU b) (i:=0) (c:=116) (by
      have F:=WP b;show(bl (aU b))[0]? =_;rw[F];rfl)
     exact this
    rw[this] at ar;cases ar
   |false=>
    obtain⟨b,z⟩:=aC.dr d[i] ((aj _).2 aK) (AOc ar ap);have aO:ff m (aU b)≠none:=by rw[<- z];exact(aj _).2 aK
    have bJ:=a4 b aO;refine aM _ _ (ae.no rfl ⟨⟨by omega,by omega⟩,?_⟩);have bn:d[i].extract ((1:Int).toNat) d[i].size=AX (Lib.decDigits b):=by rw[show(1:Int).toNat=1 from rfl,ACM,z];have:(aU b).data.toList=116::Lib.decDigits b:=WP b;rw[this];rfl
    rw[bn];refine APh (by omega) λO au=>⟨_,_,rfl,?_⟩
    have Z:=I.on au;have an:=L.trans (Ext.mod au);refine ah.mk λbM aP=>⟨trivial,ae.yes rfl ?_⟩
    refine P6 (Z.gX a2) (by omega) λaQ av=>⟨_,rfl,?_⟩
    have G:=Z.on av;have aR:=an.trans (Ext.mod av);have bo:bL (aU b) d[i]=true:=by rw[z,CY];exact decide_eq_true rfl
    rw[bo];refine ae.yes rfl (aE (AY.mk (s:=q.np) (AB G.cell rfl) ?_));refine AHm G.names.view (by simp[eg];omega) ⟨_,rfl,?_⟩;have aS:((b:Int)∈eg ({st with next:=next}:Db))↔b∈st.ts.map (·.1):=by
     simp only[eg,List.mem_map];constructor
     ·rintro⟨p,aw,o⟩;exact⟨p,aw,by omega⟩
     ·rintro⟨p,aw,o⟩;exact⟨p,aw,by omega⟩
    by_cases t:b∈st.ts.map (·.1)
    ·rw[decide_eq_true (aS.2 t)];exact aP _ _ (ae.no rfl (skip aQ v G aR M λac o=>by rw[z] at o;rw[<- JO o];exact t))
    rw[decide_eq_false λh=>t (aS.1 h)];refine aP _ _ (ae.yes rfl ?_);refine aE (AZ.mk (AL G.cell rfl) ?_);have bp:(ff l (aU b)).isSome=true:=by
     rw[aW (aU b) (by rw[<- z];exact bf)];cases bq:ff m (aU b) with
     |none=>exact absurd bq aO
     |some p=>rfl
    rw[z];refine WO G.box λaT ax ay aV aX=>⟨_,rfl,?_⟩
    have aY:Mod (λc=>k c≠0) r aT:=aR.then (aV.ai λc _ f=>by
     have aZ:v c≠0:=by rw[I.kb c f];decide
     by_cases ak:c<r.size
     ·rw[M c ak] at aZ;exact .inl aZ
     ·exact .inr (by omega))
    have bN:=(au.trans av).size;rcases Qh (k:=aU b) J.up bp with⟨br,az⟩|⟨az,bs,Q⟩
    ·rw[az] at ay ⊢;refine ae.yes rfl ?_;refine a7 (λu=>by have:=J.calm u;rw[br] at this;cases this) aT ax (Mg l) ay rfl ((Ext.mod S).trans aY) (λc f=>?_) T U sub W;exact aJ c (by
      have:=I.kb c (aX c f);rw[this];decide)
    ·rw[az];refine ae.no rfl ?_;have aA:=G.boxed (j:=2) (bF:= {st with next:=next}) ay (aV.ai λc _ f=> .inl f) (λc f=> .inl (aX c f)) rfl rfl rfl rfl (.inl ⟨by decide,rfl,rfl⟩) (.inl ⟨by decide,rfl⟩);refine aE (AC.mk (AB aA.cell rfl) ?_);have bt:J8 J9 ((b:Int)+(1:Int))=((b+1:Nat):Int):=Ab (by omega);rw[bt];have bu:(if(((b+1:Nat):Int):Int)>((next:Nat):Int) then((b+1:Nat):Int) else((next:Nat):Int))=((max (b+1) next:Nat):Int):=by split<;>omega
     refine aE (ab.dm aA.cell (by simp) λbv a0 a1 bO=>?_);rw[bu] at a0;have bw:=aA.jv (h':=bv) (next:=max (b+1) next) (by simpa [dZ] using a0) a1;have bx:Grow k (Kz v aQ.size ax 2) r.size:=λc f=>by rw[F9 (by omega)];exact M c f
     have bz:=Yz (m:=l) (aU b);refine aL _ _ ?_;refine aI (d.length-(i+1)) _ _ (by omega) ⟨i+1,ax,_,_,max (b+1) next,rfl,rfl,B,bw,J.trans bs,?_,λe w=>?_,λe w=>?_,λac C aa=>?_,λac C=>?_,by omega,by omega,AF bz W,?_,bx⟩
     ·refine T.fU λx bA=>?_
      rw[Q,if_neg (bA b (by rw[a3];exact t))]
     ·rw[Q,if_neg (w b)];exact U e w
     ·rw[X] at w;simp only[Fl,Sp,not_or] at w;rw[Q,if_neg (by rw[<- z];exact w.2)];exact aW e w.1
     ·rw[Q];split
      ·rfl
      ·rename_i al;rw[X] at C;rcases List.mem_append.1 C with F|F
       ·exact V ac F aa
       ·exact absurd ((List.mem_singleton.1 F).trans z) al
     ·rw[Q] at C;split at C
      ·exact absurd rfl C
      ·exact sub ac C
     ·refine aY.trans (a1.ai λc _ f=>?_);have:c=q.d:=f;rw[this,E.kd];decide
 ·have B:i=d.length:=by have:=of_decide_eq_false am;omega
  subst B;rw[C5] at aW V;refine a8 u H v l next I J T U (λb y=>?_) aG aH W ((Ext.mod S).trans L) aJ
  by_cases t:b∈st.ts.map (·.1)
  ·exact t
  ·exact absurd (V b ((aj _).1 (sub b y)) t) y
end
theorem AM2 {f:Type}{c:Nat->List f}{l:List Nat}{d:Nat}(g:l.Pairwise (· < ·))(h: ∀a∈l,a<d)(i: ∀a,a<d->a∉l->c a= []):(List.range d).flatMap c=l.flatMap c:=by
 have j:l=(List.range d).filter λa=>decide (a∈l):=by
  refine vg g (List.pairwise_lt_range.sublist Hi) λa=>?_
  simp only[List.mem_filter,Hh,decide_eq_true_eq];exact⟨λb=>⟨h a b,b⟩,λb=>b.2⟩
 have key: ∀L:List Nat,(∀ a∈L,a<d)->L.flatMap c=(L.filter λa=>decide (a∈l)).flatMap c:=by
  intro L
  induction L with
  |nil=>intro _;rfl
  |cons a L k=>
   intro e;rw[AH,B9,k λm n=>e m (An _ n)];by_cases b:a∈l
   ·rw[if_pos (by simpa using b),AH]
   ·rw[if_neg (by simpa using b),i a (e a (by simp)) b,DA]
 rw[key _ λa o=>List.mem_range.1 o,<-j]
theorem ANz {l:List Nat}(e:l.Pairwise (· < ·)){a:Nat}(d:a∈l):a<=l.getLast?.getD 0:=by
 cases b:l.getLast? with
 |none=>
  rw[List.getLast?_eq_none_iff] at b;subst b;cases d
 |some x=>
  show a<=x;obtain⟨f,rfl⟩:=List.getLast?_eq_some_iff.1 b;rcases List.mem_append.1 d with c|c
  ·exact Nat.le_of_lt ((List.pairwise_append.1 e).2.2 a c x (by simp))
  ·rw[List.mem_singleton.1 c];exact A0 _
theorem XR {m:Bx}{b:A2P}{e:Nat}{g:Nat->List (List UInt8)}{l:List Nat}(hd:m.down=false)(n:gl (ff m) b e g)(j:mg b m l)(y:1<=e/\e<=99999999):
  Ry b m l=((List.range e).flatMap g).map AX/\l.getLast?.getD 0+1<=e/\(∀ a,l.getLast?.getD 0+1<=a->a<=99999999->ff m (aD b a)=none):=by
 have o: ∀a,1<=a->a<=99999999->(a∈l↔ff m (aD b a)≠none):=λa h c=>by
  rw[j.mem,Ud];constructor
  ·rintro⟨_,_,d⟩ r;rw[r] at d;cases d
  ·intro d;refine⟨h,c,?_⟩;cases i:ff m (aD b a) with
   |none=>exact absurd i d
   |some p=>rfl
 have q: ∀a∈l,a<e:=λa f=>by
  obtain⟨h,c,_⟩:=(j.mem a).1 f;have k:=(o a h c).1 f;exact Decidable.byContradiction λd=>k (n.out a (by omega) c)
 have k:Ry b m l=l.flatMap λa=>(g a).map AX:=APo hd λa f=>by
  obtain⟨h,c,_⟩:=(j.mem a).1 f;have k:=(o a h c).1 f;cases i:ff m (aD b a) with
  |none=>exact absurd i k
  |some p=>
   obtain⟨s,t⟩:=n.has a p h c i;refine⟨p,rfl,?_⟩;rw[s,Xv,AT];have:(g a).map (bl∘AX)=g a:=by
    conv=>rhs;rw[<- Lo (g a)]
    exact CM λx _=>EP x
   rw[this];exact t
 refine⟨?_,?_,λa f c=>?_⟩
 ·rw[k,LO];refine(AM2 j.inc q λa f u=>?_).symm;by_cases v:a=0
  ·rw[n.kW a (.inl v)];rfl
  ·have i:ff m (aD b a)=none:=Decidable.byContradiction λd=>u ((o a (by omega) (by omega)).2 d)
   rw[n.ig a (by omega) (by omega) i];rfl
 ·cases w:l.getLast? with
  |none=>show 0+1<=e;omega
  |some x=>
   have:=q x (Tl w);show x+1<=e;omega
 ·exact Decidable.byContradiction λd=>by
   have:=ANz j.inc ((o a (by omega) c).2 d);omega
open Classical in
noncomputable def kM (Sb:Nat->Prop) (a nt ft b d:Nat) (tp np:Sl) (e T:Nat->Prop):Nat->Nat:=λc=>
 if Sb c then 2 else if c<a then 0 else if c=nt then 4 else if c=ft then 5 else if c=b then 1 else if c=d then 3 else if tp.af=some c then 6 else if np.af=some c then 7 else if e c then 5 else if T c then 8 else 0
theorem yx {Sb:Nat->Prop}{d nt ft e f:Nat}{tp np:Sl}{g T:Nat->Prop}{c:Nat}(h:kM Sb d nt ft e f tp np g T c≠0):Sb c\/(d<=c/\(c=nt\/c=ft\/c=e\/c=f\/tp.af=some c\/np.af=some c\/g c\/T c)):=by
 by_cases a:Sb c
 ·exact .inl a
 by_cases b:c<d
 ·exact absurd (by unfold kM;rw[if_neg a,if_pos b]) h
 refine .inr ⟨by omega,Classical.byContradiction λi=>h ?_⟩;simp only[not_or] at i;obtain⟨j,k,l,m,n,o,p,q⟩:=i;unfold kM;rw[if_neg a,if_neg b,if_neg j,if_neg k,if_neg l,if_neg m,if_neg n,if_neg o,if_neg p,if_neg q]
theorem bK.make {g h:aa}{q:Hp}{st:Db}{m:Bx}{N0 NB NC ND:Nat}(cell:h[q.d]? =some (J2 (dZ q st false) Ey (0,0)))(n:Cm h q.b q.Sb m)(o:EM h q.lg q.b nl st.au st.bq)(r:EM h q.nt q.b nn st.aK false)(fresh:M.cU h q.ft q.ns st.fr)
  (s:Own fL BG h q.tp q.ps) (y:q.ps.length=st.ts.length) (names:Own IE Bb h q.np (eg st)) (ext:Ext g h) (J:g.size<=N0) (u: ∀c,q.Sb c->g.size<=c/\c<N0)
  (K:N0<=q.nt) (L:q.nt<q.ft) (N:q.ft<q.d) (O:q.d<NB) (P:NB<=NC) (Q:NC<=q.lg) (R:q.lg<ND) (k: ∀c,q.np.af=some c->q.d<c/\c<NB) (l: ∀c,q.tp.af=some c->NB<=c/\c<NC) (v: ∀c,M.cQ q.ft q.ns c->c=q.ft\/ND<=c)
  (z: ∀(i:Nat) (t:Nat) (p:Nat×List Pr),q.ps[i]? =some t->st.ts[i]? =some p-> ∃e f,bR h t p.2 (MR p.2) e f/\NB<=e/\f<=NC/\(∀ c,q.tp.af=some c-> ¬(e<=c/\c<f))/\Gs p.2) (S:NC<=h.size):
  ∃w,bK g h q w st m/\ ∀c,w c≠0->q.Sb c\/N0<=c:=by
 let T:Nat->Prop:=λc=>(NB<=c/\c<NC)/\q.tp.af≠some c
 have d: ∀c,N0<=c-> ¬q.Sb c:=λc b j=>by have:=(u c j).2;omega
 refine⟨kM q.Sb N0 q.nt q.ft q.d q.lg q.tp q.np (M.cQ q.ft q.ns) T,⟨cell,n,o,r,fresh,s,y,λi t p A B=>?_,names,?_,λc b=>?_,?_,?_,λc b=>?_,λc b=>?_,λc b=>?_,λc b=>?_,ext⟩,λc b=>?_⟩
 ·obtain⟨e,f,C,U,V,D,E⟩:=z i t p A B;refine⟨e,f,C,by omega,λc F G=>?_,E⟩;have x:T c:=⟨⟨by omega,by omega⟩,λa=>D c a ⟨F,G⟩⟩;have H: ¬M.cQ q.ft q.ns c:=λI=>by rcases v c I with h|h<;>omega
  unfold kM;rw[if_neg (d c (by omega)),if_neg (by omega),if_neg (by omega),if_neg (by omega),if_neg (by omega),if_neg (by omega),if_neg x.2,if_neg (λa=>by have:=k c a;omega),if_neg H,if_pos x]
 ·unfold kM;rw[if_neg (d _ (by omega)),if_neg (by omega),if_neg (by omega),if_neg (by omega),if_pos rfl]
 ·unfold kM;rw[if_pos b]
 ·unfold kM;rw[if_neg (d _ (by omega)),if_neg (by omega),if_neg (by omega),if_neg (by omega),if_neg (by omega),if_pos rfl]
 ·unfold kM;rw[if_neg (d _ (by omega)),if_neg (by omega),if_pos rfl]
 ·unfold kM;rcases v c b with rfl|h
  ·rw[if_neg (d _ (by omega)),if_neg (by omega),if_neg (by omega),if_pos rfl]
  ·rw[if_neg (d c (by omega)),if_neg (by omega),if_neg (by omega),if_neg (by omega),if_neg (by omega),if_neg (by omega),if_neg (λa=>by have:=l c a;omega),if_neg (λa=>by have:=k c a;omega),if_pos b]
 ·have:=l c b;unfold kM;rw[if_neg (d c (by omega)),if_neg (by omega),if_neg (by omega),if_neg (by omega),if_neg (by omega),if_neg (by omega),if_pos b]
 ·have:=k c b;unfold kM;rw[if_neg (d c (by omega)),if_neg (by omega),if_neg (by omega),if_neg (by omega),if_neg (by omega),if_neg (by omega),if_neg (λa=>by have:=l c a;omega),if_pos b]
 ·rcases yx b with j|⟨W,a|a|a|a|a|a|a|a⟩
  ·exact⟨(u c j).1,n.lt j⟩
  ·exact⟨by omega,by rw[a];exact Af r⟩
  ·exact⟨by omega,by rw[a];exact fresh.lt (.inl rfl)⟩
  ·exact⟨by omega,by rw[a];exact Af cell⟩
  ·exact⟨by omega,by rw[a];exact Af o⟩
  ·exact⟨by omega,s.lt a⟩
  ·exact⟨by omega,names.lt a⟩
  ·exact⟨by omega,fresh.lt a⟩
  ·exact⟨by omega,by have:=a.1.2;omega⟩
 ·exact(yx b).imp id λh=>h.1
def Ju(D:Bl):List (Nat×List Pr):=(List.range D.aP).flatMap λa=>(D.L a).map λb=>(a,b)
def Ol(f:Nat)(l:List (Nat×List Pr)):List (List Pr):=(l.filter λp=>decide (f<=p.1)).map (·.2)
theorem YK(f:Nat)(a b:List (Nat×List Pr)):Ol f (a++b)=Ol f a++Ol f b:=by simp[Ol]
theorem yy(D:Bl):Ol (Aj D).aT (Ju D)=IM D:=by
 unfold Ju IM;have key: ∀L:List Nat,Ol (Aj D).aT (L.flatMap λa=>(D.L a).map λb=>(a,b))=L.flatMap λa=>if a<(Aj D).aT then [] else D.L a:=by
  intro L
  induction L with
  |nil=>rfl
  |cons a L d=>
   rw[AH,AH,YK,d];congr 1;unfold Ol;rw[PA];split
   ·rename_i h;have:(λb:List Pr=>decide ((Aj D).aT<=((a,b):Nat×List Pr).1))=λ_=>false:=by funext b;simp;omega
    simp[G4];omega
   ·rename_i h;simp[G4];intro b _;omega
 exact key _
theorem AQl {d:bP}{D:Bl}(h:BD d D): ∀p∈Ju D,p.1<=99999999/\Xq p.2:=λp e=>by
 obtain⟨a,f,i⟩:=List.mem_flatMap.1 e;obtain⟨b,j,rfl⟩:=List.mem_map.1 i;have:=List.mem_range.1 f;have:=h.cy;exact⟨by show a<=_;omega,h.gh a b j⟩
theorem AMm(D:Bl):((List.range D.aP).flatMap λa=>(D.L a).map (BM a)).map AX=(Ju D).map λp=>AX (BM p.1 p.2):=by
 unfold Ju;rw[LO,LO];unfold List.flatMap;congr 1;refine CM λa _=>?_
 rw[AT,AT];rfl
theorem AQT {f:Nat}{l:List (Nat×List Pr)}(i:Nat):(Ol f (l.take i)).flatten.length<=(Ol f l).flatten.length:=by
 conv=>rhs;rw[<- DP i l,YK,NO,A1]
 omega
theorem AJd(D:Bl):((List.range D.aV).flatMap λa=>(D.N a).map Dt).map AX=(Mm D).map λx=>AX (Dt x):=by unfold Mm;rw[LO,LO];unfold List.flatMap;congr 1;exact CM λa _=>by rw[AT];rfl
theorem View.modn {e:Type}{d:cz e}{h f:aa}{s:Sl}{l:List e}{j:Nat->Prop}(v:View d h s l)(m:Mod j h f)(o: ∀c,s.af=some c->c<h.size-> ¬j c):View d f s l:=by refine⟨v.len,v.cap,λi x p=>?_⟩;obtain⟨a,k,n⟩:=v.cells i x p;refine⟨a,k,n.mod m ?_⟩;have r:=d.pos;have t:=d.len x;obtain⟨u,q⟩: ∃u,(d.enc x)[0]? =some u:=⟨_,A2 (by omega)⟩;have:=UV (n 0 u q);rw[aM,aM] at this;rw[aM];exact o _ (by simp[Sl.af,k]) this
section
variable {A : al} {B : cE} {g h : aa} {b : Nat} {Sb : Nat -> Prop} {m : Bx} {D : Bl} {aJ c : Nat} {R : A2O}
theorem AM4(E:cj g)(aH:Cm h b Sb m)(Q:Ext g h)(b9: ∀c,Sb c->g.size<=c)(hd:m.down=false)(ac:BD (ff m) D)(C:ja (ff m) D aJ c)(d:c<=B.C)(hA:aJ+1<=B.A)(bp:bg m.files<=B.W0+aJ*B.K)
  (di:m.fuel≠ -1-> ∀ai dj S' aj,Cm ai b S' aj->aj.down=true->Mod Sb h ai->(∀ c,S' c->Sb c\/h.size<=c)->jU (ff aj) (aJ+1) c (cu D)->(∀ w,¬dd w->ff aj w=ff m w)->bg aj.files<=B.W0+(aJ+1)*B.K->R (J1 #[Ap dj,J6 J9 30]) ai)
  (dk: ∀ai bq ca cb aj dl,bq.b=b->Bp B g ai bq ca cb aj dl (aJ+1) c->JN m aj->CZ cb=cu D->(∀ w,¬dd w->ff aj w=ff m w)->Mod Sb h ai->(∀ c,ca c≠0->Sb c\/h.size<=c)->R (J1 #[Ap bq.d,J6 J9 0]) ai):
  AA A P RZ #[Ap b] h R:=by
 have fa:=B.hA;have fb:=B.hC;have cc:=AF bp (B.wt (a:=aJ) (by omega));have ay:=ac.cy;have S:=yi ac;have fc:=C.aP;have fd:=C.aV;have fe:=C.aT;have dm:=C.next;have fg:=C.cp;have al: ∀c,Sb c->c<h.size:=λc d=>aH.lt d
 refine AHj ?_;unfold tT;refine xI (E.ext Q) aH hd (by decide) (by decide) cc (λai l aX dn _=>?_) λj l nt sl aX dn cd ce cf v1 fh=>⟨_,_,_,rfl,ae.no rfl ?_⟩
 ·obtain⟨_,dp,_⟩:=XR hd ac.note aX ay.2.2;omega
 obtain⟨cg,dp,dq⟩:=XR hd ac.note aX ay.2.2;rw[AJd] at cg;have br:=rf (nm:=nn) (m:=m) hd aX.inc;rw[cg] at v1 br;have dr:1<=l.getLast?.getD 0+1:=by omega
 generalize l.getLast?.getD 0+1=aK at*
 refine M.rT λo ds bs fi=>⟨_,rfl,ak.mk λI _ ch aY fj=>?_⟩
 have ci:=cd.trans bs;have ck:=ci.trans aY;have dt:nt<j.size:=Af cf;have cl:EM I nt b nn aK false:=EM.ext (EM.ext cf bs) aY;have cm:M.cU I j.size [] []:=ds.ext aY;have cn:=(v1.ext bs).ext aY;have fk:=cd.size;refine ah.mk λK du=>?_
 have bt: ∀(hB:aa) (np:Sl),Ext h hB->hB[o.size]? =some (J2 #[Ap b,J5 none,Ap nt,Ap j.size,J4 none 0 0,J4 np.p np.len np.cap,J6 J9 ((Aj D).next:Int),J6 J9 ((Aj D).aT:Int),J3 false] Ey (0,0))->
   Own IE Bb hB np ((Aj D).names.map λn:Nat=>(n:Int))->(∀ c,np.af=some c->o.size<c)->EM hB nt b nn aK false->M.cU hB j.size [] []->K () hB:=by
  intro hB np aZ aI aq ad dv dw;refine du _ _ ?_;have fl:=aZ.size;have fm:=E.ext (Q.trans aZ);have dx:o.size<hB.size:=Af aI;have fn:h.size<=o.size:=ci.size;refine AY.mk (s:=np) (AB aI rfl) ?_;have co:np.len=(Aj D).names.length:=by rw[aq.len];simp
  refine Loop.rule (λF x k=> ∃(i:Nat) (tp:Sl) (ps:List Nat),x=((i:Int),())/\F=(Aj D).names.length-i/\i<=(Aj D).names.length/\Mod (λc=>c=o.size\/hB.size<=c) hB k/\
    k[o.size]? =some (J2 #[Ap b,J5 none,Ap nt,Ap j.size,J4 tp.p tp.len tp.cap,J4 np.p np.len np.cap,J6 J9 ((Aj D).next:Int),J6 J9 ((Aj D).aT:Int),J3 false] Ey (0,0))/\
    Own fL BG k tp ps/\ps.length=i/\(∀ c,tp.af=some c->hB.size<=c)/\ ∀(r t n:Nat),ps[r]? =some t->(Aj D).names[r]? =some n-> ∃T U,bR k t (D.T n) (MR (D.T n)) T U/\hB.size<=T/\U<=k.size/\ ∀c,tp.af=some c-> ¬(T<=c/\c<U)) ?_
   ⟨0,⟨none,0,0⟩,[],rfl,rfl,AD _,Mod.refl,aI,Own.nil,rfl,λc d=>by simp[Sl.af] at d,λr t n e=>by simp at e⟩
  rintro fo F _ k ⟨i,tp,ps,rfl,rfl,U,J,ar,ap,bu,au,cp⟩ cq;dsimp only;have cr:=J.size;have V:Ext h k:=aZ.then (J.ai λc _ d=>by omega);have dy:View IE k np ((Aj D).names.map λn:Nat=>(n:Int)):=aq.view.mod J λc d e=>by
   have:=ad c d;have:=aq.lt d;omega
  rw[co];refine ae.intro (λu=>?_) (λu=>?_)
  ·have v:i<(Aj D).names.length:=by have:=of_decide_eq_true u;omega
   have ag:(Aj D).names[i]? =some (Aj D).names[i]:=A2 v;have cs:(Aj D).names[i]∈(Aj D).names:=AW v;have fp:=S.below _ cs;have fq:=S.next;have fr:=S.cp;obtain⟨dz,dA⟩:=ac.cL _ cs;rw[<- co];refine dy.idx (i:=i) (x:=((Aj D).names[i]:Int)) (by rw[Bm,ag];rfl) λa _ av=>AC.mk av.int ?_
   generalize (Aj D).names[i]=nm at*
   refine P6 (E.ext (Q.trans V)) (by omega) λa0 bv=>⟨_,rfl,?_⟩
   refine oU (aH.ext (V.trans bv)) ⟨_,_,rfl,?_⟩;rw[qD hd,dz];dsimp only;rw[Xv];refine ae.no rfl ?_;refine y5 dA.eE λa1 t ct dB=>⟨_,_,rfl,ae.no rfl ?_⟩
   have a2:=bv.trans ct;have cv:=Ai a2 ar;refine AY.mk (s:=tp) (AB cv rfl) ?_;have fs:=bv.size;have ft:=ct.size;refine ak.aY (E:=fL) (x:=t) (s:=tp) (l:=ps) rfl uL (ap.ext a2) (by omega) (by simp[maxLen];omega) λaL fu dC aM bw _=>?_
   have dD:=aM.af cv (λe=>by have:=au _ e;omega);refine ab.dm dD (by simp) λfv dE a3 fw=>?_
   rw[Ab (by omega)];have cw: ∀c,aL.af=some c->hB.size<=c:=λc d=>by
    rcases bw c d with h|h
    ·exact au c h
    ·omega
   have fx:=aM.size;refine cq ((Aj D).names.length-(i+1)) _ _ (by omega) ⟨i+1,aL,ps++ [t],rfl,rfl,v,?_,by simpa using dE,dC.mod a3 (λc d e=>by have:=cw c d;omega),by simp[bu],cw,λr t' n af W=>?_⟩
   ·exact(J.trans (Ext.mod a2)).trans ((aM.ai λc _ d=> .inr (au c d)).trans (a3.ai λc _ d=> .inl d))
   ·by_cases cx:r<ps.length
    ·rw[Fk cx] at af;obtain⟨T,bx,bz,bA,cy,a4⟩:=cp r t' n af W;refine⟨T,bx,((bz.ext a2).mod aM λc am an d=>a4 c d ⟨am,an⟩).mod a3 (λc am an d=>by omega),bA,by omega,λc d cz=>?_⟩;rcases bw c d with h|h
     ·exact a4 c h cz
     ·omega
    ·have dF:r=ps.length:=by have:=(List.getElem?_eq_some_iff.1 af).1;simp at this;omega
     subst dF;rw[DE (A0 _)] at af;simp at af;subst af;rw[bu,ag] at W;cases W;refine⟨a0.size,a1.size,(dB.mod aM λc am an d=>by have:=ap.lt d;omega).mod a3 (λc am an d=>by omega),by omega,by omega,λc d cz=>?_⟩;rcases bw c d with h|h
     ·have:=ap.lt h;omega
     ·omega
  have v:i=(Aj D).names.length:=by have:=of_decide_eq_false u;omega
  clear cq U u;have dG:EM k nt b nn aK false:=dv.mod J (by omega);have dH:M.cU k j.size [] []:=dw.mod J λc d e=>by
   rcases d with rfl|⟨w,y,_⟩
   ·omega
   ·cases y
  refine xI (E.ext (Q.trans V)) (aH.ext V) hd (by decide) (by decide) cc (λai bB a5 dI _=>?_) λdJ bB X bC a5 dI az dK cB cC bD=>⟨_,_,_,rfl,ae.no rfl ?_⟩
  ·obtain⟨_,dL,_⟩:=XR hd ac.log a5 ⟨ay.1,ay.2.1⟩;omega
  obtain⟨cD,dL,dM⟩:=XR hd ac.log a5 ⟨ay.1,ay.2.1⟩;rw[AMm] at cD;have cE:=rf (nm:=nl) (m:=m) hd a5.inc;rw[cD] at cC cE;have fy:1<=bB.getLast?.getD 0+1:=by omega
  generalize bB.getLast?.getD 0+1=a6 at*
  have dN:=Ai az ar;have fz:X<dJ.size:=Af cB;refine ab.dm dN (by simp) λaN dO aw fA=>?_
  have fB:=az.size;have fC:o.size<k.size:=Af ar;have dP:EM aN X b nl a6 false:=EM.mod cB aw (by omega);have dQ:Cm aN b Sb m:=((aH.ext V).ext az).mod aw λc d e=>by have:=al c d;omega
  have dR: ¬Sb X:=λd=>by have:=al _ d;have:=V.size;omega
  have a7:Ext h aN:=(V.trans az).then (aw.ai λc _ d=> .inr (by omega));have fE:=aw.size;refine Loop.rule (λF (_:Unit) Q=> ∃s:Nat,F=(Aj D).aT-s/\EM Q X b nl s false/\Cm Q b Sb m/\Mod (λc=>Sb c\/c=X) aN Q/\a6<=s/\(s=a6\/s<=(Aj D).aT)) ?_ ⟨a6,rfl,dP,dQ,Mod.refl,A0 _,.inl rfl⟩;rintro fF F _ H ⟨s,rfl,bE,cF,Y,fG,fH⟩ cG;have fI:=S.aT;have aA:=Y.af dO (by rintro(h|h);have:=al _ h;omega;omega);have cH:Ext g H:=(Q.trans a7).then (Y.ai λc _ d=>by
   rcases d with d|rfl
   ·exact .inr (b9 c d)
   ·exact .inr (by have:=Q.size;have:=V.size;omega))
  have dS:cj H:=E.ext cH;refine AZ.mk (AB aA rfl) ?_;refine N8 ?_;unfold Ku;refine ae.no rfl (aE (AC.mk (AB bE rfl) ⟨_,rfl,?_⟩));refine AC.mk (AB aA rfl) ⟨AB aA rfl,?_⟩;refine ae.intro (λbF=>?_) (λbF=>?_)
  ·have bG:=of_decide_eq_true bF;refine AZ.mk (AB aA rfl) ?_;refine WB dS bE cF dR (by decide) (by omega) (λbH=>absurd rfl bH) λ_ fJ dT dU dV=>⟨_,_,rfl,ae.no rfl ?_⟩
   exact cG ((Aj D).aT-(s+1)) _ _ (by omega) ⟨s+1,rfl,dU,dT,Y.trans dV,by omega,.inr (by omega)⟩
  have dW:(Aj D).aT<=s:=by have:=of_decide_eq_false bF;omega
  clear cG;have fK:=Y.size;have cI:View IV H bC ((Ju D).map λp=>AX (BM p.1 p.2)):=(cC.mod aw λc d e=>by have:=(bD c d).1;omega).mod Y λc d e=>by
   have j:=bD c d;rcases e with e|e
   ·have:=al c e;have:=V.size;omega
   ·exact j.2 e
  have dX: ∀c,bC.af=some c->k.size<=c:=λc d=>(bD c d).1
  have dY:M.cU H j.size [] []:=((dH.ext az).mod aw λc d e=>by
   rcases d with rfl|⟨w,y,_⟩
   ·omega
   ·cases y).mod Y λc d e=>by
   rcases d with rfl|⟨w,y,_⟩
   ·rcases e with e|e
    ·have:=al _ e;omega
    ·have:=V.size;omega
   ·cases y
  have cJ:bC.len=(Ju D).length:=by rw[cI.len];simp
  have d0:=AQl ac;have d1:=C.bV;have fM:(Ol (Aj D).aT (Ju D)).flatten.length<=c:=by rw[yy];have:NW D=_:=rfl;unfold NW at d1;omega
  refine Loop.rule (λF aO y=> ∃(i:Nat) (ns:List M.DC),aO=((i:Int),())/\F=(Ju D).length-i/\i<=(Ju D).length/\Mod (λc=>c=j.size\/H.size<=c) H y/\M.cU y j.size ns (A8 [] (Ol (Aj D).aT ((Ju D).take i)).flatten)/\ ∀c,M.cQ j.size ns c->c=j.size\/H.size<=c) ?_
   ⟨0,[],rfl,rfl,AD _,Mod.refl,dY,λc d=>by
    rcases d with rfl|⟨w,y,_⟩
    ·exact .inl rfl
    ·cases y⟩
  rintro fO F _ ao ⟨i,ns,rfl,rfl,U,L,aP,bI⟩ bJ;dsimp only;have fP:=L.size;have d2:=View.modn cI L λc d bG e=>by have:=dX c d;omega
  have cK:=L.af aA (by omega);rw[cJ];refine ae.intro (λu=>?_) (λu=>?_)
  ·have v:i<(Ju D).length:=by have:=of_decide_eq_true u;omega
   have ag:(Ju D)[i]? =some (Ju D)[i]:=A2 v;obtain⟨cL,a8⟩:=d0 _ (AW v);have cM:(Ju D).take (i+1)=(Ju D).take i++ [(Ju D)[i]]:=by rw[Ax,ag];rfl
   have d3:=AQT (f:=(Aj D).aT) (l:=Ju D) (i+1);refine ah.mk λfQ bL=>?_
   rw[<- cJ];refine d2.idx (i:=i) (x:=AX (BM (Ju D)[i].1 (Ju D)[i].2)) (by rw[Bm,ag];rfl) λa _ av=>AJ.mk av.str ?_
   have d4:J8 J9 ((i:Int)+(1:Int))=((i+1:Nat):Int):=Ab (by rw[BE] at cE;omega);rw[d4] at bL;generalize (Ju D)[i]=d5 at*
   obtain⟨bM,z⟩:=d5;dsimp only at cL a8 ⊢;refine AJO cL a8.len a8.ok λcN d6 cO aC d7=>⟨_,_,_,rfl,ae.no rfl ?_⟩
   have d8:=Ai aC cK;refine AC.mk (AB d8 rfl) ?_;refine ae.intro (λbN=>?_) (λbN=>?_)
   ·have bG:=of_decide_eq_true bN;refine bL _ _ (bJ ((Ju D).length-(i+1)) _ _ (by omega) ⟨i+1,ns,rfl,rfl,v,L.trans (Ext.mod aC),?_,bI⟩);have e:Ol (Aj D).aT ((Ju D).take (i+1))=Ol (Aj D).aT ((Ju D).take i):=by
     rw[cM,YK];have:Ol (Aj D).aT [(bM,z)]= []:=by unfold Ol;rw[B9,if_neg (by simp;omega)];rfl
     rw[this,AM]
    rw[e];exact aP.ext aC
   ·have d9:(Aj D).aT<=bM:=by have:=of_decide_eq_false bN;omega
    have e:(Ol (Aj D).aT ((Ju D).take (i+1))).flatten=(Ol (Aj D).aT ((Ju D).take i)).flatten++z:=by
     rw[cM,YK];have:Ol (Aj D).aT [(bM,z)]= [z]:=by unfold Ol;rw[B9,if_pos (by simpa using d9)];rfl
     rw[this];simp
    rw[e,A1] at d3;have fR:=aC.size;refine Loop.rule (λF aO a9=> ∃(r:Nat) (aQ:List M.DC),aO=((r:Int),())/\F=z.length-r/\r<=z.length/\Mod (λc=>c=j.size\/H.size<=c) H a9/\M.cU a9 j.size aQ (A8 (A8 [] (Ol (Aj D).aT ((Ju D).take i)).flatten) (z.take r))/\(∀ c,M.cQ j.size aQ c->c=j.size\/H.size<=c)/\View BZ a9 cN z/\(∀ c,cN.af=some c-> ¬M.cQ j.size aQ c)/\d6.size<=a9.size) ?_
     ⟨0,ns,rfl,rfl,AD _,L.trans (Ext.mod aC),aP.ext aC,bI,cO.view,λc d aR=>by have:=d7 c d;have:=aP.lt aR;omega,A0 _⟩
    rintro fS F _ fT ⟨r,aQ,rfl,rfl,cx,ba,bO,bP,bb,cP,fU⟩ ea;dsimp only;have eb:=ba.af aA (by omega);have fV:=a8.len;rw[bb.len];refine ae.intro (λu=>?_) (λu=>?_)
    ·have bc:r<z.length:=by have:=of_decide_eq_true u;omega
     have cQ:z[r]? =some z[r]:=A2 bc;rw[<- bb.len];refine bb.idx cQ λa _ av=>?_
     obtain⟨cR,ec,ed⟩:=av.pair;refine AJ.mk cR (AJ.mk ec (Aa.mk ed (ak.pair λfW fX _ bQ aS fY=>?_)));have ee:=Ai aS eb;refine AZ.mk (AB ee rfl) ?_;refine AJ.mk (AL bQ rfl) (AJ.mk (AB bQ rfl) (Aa.mk (AB bQ rfl) ?_));have ef:=M.QT (l:=(Ol (Aj D).aT ((Ju D).take i)).flatten) (t:= []);have eh:=M.QT (l:=z.take r) (t:=A8 [] (Ol (Aj D).aT ((Ju D).take i)).flatten);rw[AE] at eh;simp only[FG,AI] at ef;refine M.rU (x:=z[r]) (bO.ext aS) (by omega) λei fZ ej bS cS=>⟨_,rfl,?_⟩
     rw[Ab (by omega)];have f0:=ba.size;have f1:=aS.size;refine ea (z.length-(r+1)) _ _ (by omega) ⟨r+1,ei,rfl,rfl,bc,(ba.trans (Ext.mod aS)).trans (bS.ai λc _ d=>bP c d),by rw[M.rV cQ];exact ej,λc d=>?_,(bb.ext aS).mod bS (λc d aR=>cP c d aR),λc d aR=>?_,by have:=bS.size;omega⟩
     ·rcases cS c d with h|h
      ·exact bP c h
      ·exact .inr (by omega)
     ·rcases cS c aR with h|h
      ·exact cP c d h
      ·have:=cO.lt d;omega
    ·have bc:r=z.length:=by have:=of_decide_eq_false u;omega
     subst bc;rw[C5] at bO;refine bL _ _ (bJ ((Ju D).length-(i+1)) _ _ (by omega) ⟨i+1,aQ,rfl,rfl,v,ba,?_,bP⟩);rw[e,yK];exact bO
  have ek:i=(Ju D).length:=by have:=of_decide_eq_false u;omega
  subst ek;rw[C5,yy] at aP;clear bJ;have bd:Mod (λc=>c=o.size) k aN:=(Ext.mod az).trans aw;have aW: ∀c,hB.size<=c->c<k.size-> ¬(c=o.size)/\ ¬(Sb c\/c=X)/\ ¬(c=j.size\/H.size<=c):=λc am an=>by
   refine⟨by omega,?_,by omega⟩;rintro(h|h)
   ·have:=al c h;have:=aZ.size;omega
   ·omega
  have be: ∀c,h.size<=c->c<k.size->c≠o.size->c≠j.size-> ¬(c=o.size)/\ ¬(Sb c\/c=X)/\ ¬(c=j.size\/H.size<=c):=λc am an el f2=>by
   refine⟨el,?_,by omega⟩;rintro(h|h)
   ·have:=al c h;omega
   ·omega
  have en:Own fL BG ao tp ps:=((ap.mod bd λc d=>(aW c (au c d) (ap.lt d)).1).mod Y λc d=>(aW c (au c d) (ap.lt d)).2.1).mod L λc d=>(aW c (au c d) (ap.lt d)).2.2
  have O: ∀c,np.af=some c->h.size<=c/\c<k.size/\c≠o.size/\c≠j.size:=λc d=>by have:=ad c d;have:=aq.lt d;omega
  have eo:Own IE Bb ao np ((Aj D).names.map λn:Nat=>(n:Int)):=(((aq.mod J λc d e=>by have:=O c d;have:=aq.lt d;omega).mod bd λc d=>(be c (O c d).1 (O c d).2.1 (O c d).2.2.1 (O c d).2.2.2).1).mod Y λc d=>(be c (O c d).1 (O c d).2.1 (O c d).2.2.1 (O c d).2.2.2).2.1).mod L λc d=>(be c (O c d).1 (O c d).2.1 (O c d).2.2.1 (O c d).2.2.2).2.2
  have bT:=be nt ce (by omega) (by omega) (by omega);have ep:EM ao nt b nn aK false:=((dG.mod bd bT.1).mod Y bT.2.1).mod L bT.2.2;have eq:EM ao X b nl s false:=bE.mod L (by omega);have er:Cm ao b Sb m:=cF.mod L λc d=>by have:=al c d;omega
  have es:Ext g ao:=cH.then (L.ai λc _ d=> .inr (by have:=Q.size;omega));have et: ∀(i:Nat) (t:Nat) (p:Nat×List Pr),ps[i]? =some t->((Aj D).names.map λn=>(n,D.T n))[i]? =some p-> ∃T U,bR ao t p.2 (MR p.2) T U/\hB.size<=T/\U<=k.size/\(∀ c,tp.af=some c-> ¬(T<=c/\c<U))/\Gs p.2:=λcT t p af W=>by
   rw[Bm] at W;cases bf:(Aj D).names[cT]? with
   |none=>rw[bf] at W;cases W
   |some n=>
    rw[bf] at W;cases W;obtain⟨T,bx,bz,bA,cy,a4⟩:=cp cT t n af bf;refine⟨T,bx,((bz.mod bd λc am an=>(aW c (by omega) (by omega)).1).mod Y λc am an=>(aW c (by omega) (by omega)).2.1).mod L λc am an=>(aW c (by omega) (by omega)).2.2,bA,cy,a4,(ac.cL n (AK bf)).2⟩
  have cU:((Aj D).names.map λn=>(n,D.T n)).map (·.1)=(Aj D).names:=by rw[AT];exact Lo _
  obtain⟨cR,eu,bh⟩:=bK.make (g:=g) (h:=ao) (q:=⟨o.size,b,X,nt,j.size,Sb,ns,tp,np,ps⟩) (st:=⟨Ef D,(Aj D).names.map λn=>(n,D.T n),(Aj D).next,(Aj D).aT,s,aK,false⟩) (m:=m) (N0:=h.size) (NB:=hB.size) (NC:=k.size) (ND:=H.size)
   (by simpa [dZ] using cK) er eq ep aP en (by simp[bu,v]) (by unfold eg;rw[AT];exact eo) es Q.size (λc d=>⟨b9 c d,al c d⟩)
   ce dt (by show j.size<o.size;omega) dx cr dK (by show X<H.size;omega) (λc d=>⟨ad c d,aq.lt d⟩) (λc d=>⟨au c d,ap.lt d⟩) bI et (by omega)
  have bU:Mod Sb h ao:=by refine⟨by have:=a7.size;omega,λc d Z=>?_⟩;have af:=a7.get c d (λh=>h);have f3:=a7.size;have W:=Y.get c (by omega) (by rintro(h|h);exact Z h;have:=V.size;omega);have ev:=L.get c (by omega) (by omega);exact ev.trans (W.trans af)
  have f4:=bU.size;have cV: ∀n,ff m (aU n)≠none->n<8*aJ+8:=C.mK;have f5:=Uc m.files;refine ANB (N:=8*aJ+8) (q:=⟨o.size,b,X,nt,j.size,Sb,ns,tp,np,ps⟩) E eu hd ac cU.symm (by omega) cV dm (by simp;omega) (by omega)
   (λew bV cW aF ex ey bW ez bX aT eA bY=>⟨_,rfl,?_⟩) λbV cW eB aF aG eC cX bX aT eD cY eE bY bW eF=>⟨_,rfl,?_⟩
  ·refine di ew bV o.size cW aF ex ey (bU.then (bW.ai λc _ d=>bh c d)) (λc d=>?_) (λG cZ=>⟨D,bX.dM cZ,?_,rfl⟩) (λw y=>aT w λn=>QS y n) (AF bY (B.up (Cd _) bp))
   ·rcases ez c d with h|h
    ·exact bh c h
    ·exact .inr (by omega)
   ·refine ja.mono ⟨C.aP,C.aV,C.next,C.aT,C.cp,C.bV,λn Z=>cV n (eA n (cZ.some Z))⟩ (Cd _) (A0 _)
  ·have eG: ∀n,ff aF (aD nl n)=ff m (aD nl n):=λn=>aT _ (LM n)
   have eH: ∀n,ff aF (aD nn n)=ff m (aD nn n):=λn=>aT _ (OH n)
   have c0:El (ff aF) ⟨Ef D,(Aj D).names.map λn=>(n,D.T n),aG,(Aj D).aT,s,aK,false⟩ D:=
    ⟨bX,cU.symm,λp bZ=>by
     obtain⟨n,_,rfl⟩:=List.mem_map.1 bZ;rfl,rfl,cY,λp bZ=>by
     obtain⟨n,Z,rfl⟩:=List.mem_map.1 bZ;have j:=S.below n Z;have o:(Aj D).next<=aG:=cY;show n<aG;omega,rfl,λn bi b0 _=>by
     have bi:s<=n:=bi;rw[eG];exact dM n (by omega) b0,(λh=>by cases h),λn bi b0=>by rw[eH];exact dq n bi b0,⟨S.aT.1,dW⟩,dr,λn Z=>eD n Z⟩
   have eI:R3 ⟨Ef D,(Aj D).names.map λn=>(n,D.T n),aG,(Aj D).aT,s,aK,false⟩ D (aJ+1) c:=by have f6:aG<=8*aJ+8:=eE;exact⟨by show s<=_;omega,by show aK<=_;omega,by show aG<=_;omega,by show((Aj D).names.map _).length<=_;simp;omega,C.bV,by omega,by omega⟩
   refine dk bV _ eB _ aF D rfl ⟨eC,cX.up,c0,eI,AF bY (B.up (Cd _) bp),d⟩ cX c0.map.symm (λw y=>aT w λn=>QS y n) (bU.then (bW.ai λc _ d=>bh c d)) λc d=>?_
   rcases eF c d with h|h
   ·exact bh c h
   ·exact .inr (by omega)
 have c1:sl.len=(Mm D).length:=by rw[cn.len];simp
 refine ae.intro (λu=>?_) (λu=>?_)
 ·have bH:Mm D≠ []:=λe=>by
   have:=of_decide_eq_true u;rw[c1,e] at this;simp at this
  obtain⟨ax,x,bj⟩: ∃ax x,Mm D=ax++ [x]:=⟨_,_,(List.dropLast_concat_getLast bH).symm⟩;have bk:Aj D=x:=by unfold Aj;rw[bj,T6];rfl
  have c2:sl.len=ax.length+1:=by rw[c1,bj];simp
  have f7:ax.length<=8000000000000:=by rw[bj] at br;simp at br;omega
  rw[c2];have eJ:J8 J9 (((ax.length+1:Nat):Int)-(1:Int))=((ax.length:Nat):Int):=by rw[wrap_i64 (by omega) (by omega)];omega
  rw[eJ,<-c2];rw[bk] at S bt;have eK:((Mm D).map λx=>AX (Dt x))[ax.length]? =some (AX (Dt x)):=by rw[bj];simp
  refine cn.idx eK λa _ av=>AJ.mk av.str ?_
  have f8:=S.next;have f9:=S.aT;have ga:=S.cp;have c3:=S.below;have c4:Dt x=BX x.next++(BX x.aT++(BX x.names.length++(x.names.flatMap BX++ []))):=by simp[Dt,A4]
  rw[c4];have c5:=yh S;rw[c4] at c5;simp only[A1] at c5;refine KY λc6 c7 b1=>⟨_,rfl,?_⟩
  have aI:=Ai b1 ch;refine DW (most:=2147483647) c7 (by simp only[A1];omega) (by decide) λgb c8 eL=>⟨_,rfl,?_⟩
  rw[Ci (by omega) (by omega)] at c8 ⊢;refine DW (most:=99999999) c8 (by simp only[A1];omega) (by decide) λa0 c9 eM=>⟨_,rfl,?_⟩
  rw[Ci (by omega) (by omega)] at c9 ⊢;have gc:=b1.size;have bm:I.size≠o.size:=by omega
  have da:Mod (· =I.size) c6 a0:=eL.trans eM;have eN:=da.af aI (by omega);refine ab.dm eN (by simp) λgd eO eP ge=>ab.dm eO (by simp) λa1 eQ eR gf=>?_
  have db:Mod (· =o.size) a0 a1:=eP.trans eR;have eS:Ir a1 I.size ⟨BX x.names.length++(x.names.flatMap BX++ []),false⟩:=db.af c9 bm;refine DW (most:=65536) eS (by simp only[A1];omega) (by decide) λeT dc de=>⟨_,rfl,?_⟩
  rw[Ci (by omega) (by omega)] at dc ⊢;have eU:=de.af eQ (λe=>bm e.symm);have eV:Mod (λc=>o.size<=c) I eT:=(Ext.mod b1).trans (((da.ai λc _ d=>by omega).trans (db.ai λc _ d=>by omega)).trans (de.ai λc _ d=>by omega));refine Loop.rule (λF aO k=> ∃(i:Nat) (np:Sl),aO=((i:Int),())/\F=x.names.length-i/\i<=x.names.length/\Mod (λc=>o.size<=c) I k/\Ir k I.size ⟨(x.names.drop i).flatMap BX++ [],false⟩/\Own IE Bb k np ((x.names.take i).map λn:Nat=>(n:Int))/\(∀ c,np.af=some c->I.size<c)/\
    k[o.size]? =some (J2 #[Ap b,J5 none,Ap nt,Ap j.size,J4 none 0 0,J4 np.p np.len np.cap,J6 J9 (x.next:Int),J6 J9 (x.aT:Int),J3 false] Ey (0,0))) ?_
   ⟨0,⟨none,0,0⟩,rfl,rfl,AD _,eV,dc,Own.nil,λc d=>by simp[Sl.af] at d,by simpa using eU⟩
  rintro gg F _ k ⟨i,np,rfl,rfl,U,J,bn,b2,ad,ar⟩ eW;have cr:=J.size;dsimp only;refine ae.intro (λu=>?_) (λu=>?_)
  ·have v:i<x.names.length:=by have:=of_decide_eq_true u;omega
   have ag:x.names[i]? =some x.names[i]:=A2 v;have eX:x.names.drop i=x.names[i]::x.names.drop (i+1):=FF v;have gh:=c3 _ (AW v);refine AY.mk (s:=np) (AB ar rfl) ?_;rw[eX,AH,A4] at bn;have gi:((x.names.drop (i+1)).flatMap BX).length<=600000:=by
    have:=UL (l:=x.names.drop (i+1)) λn Z=>by have:=c3 n (HW Z);omega
    have e:=DG (l:=x.names) (i:=i+1);omega
   have gj:=AV (n:=x.names[i]) (by omega);refine DW (most:=2147483647) bn (by simp only[A1,FG];omega) (by decide) λb3 df bo=>⟨_,rfl,?_⟩
   rw[Ci (by omega) (by omega)] at df ⊢;have b4:=bo.af ar (λe=>bm e.symm);refine⟨AB b4 rfl,ak.mk λeY _ eZ aV gk=>⟨AB (Ai aV b4) rfl,?_⟩⟩;have e0:Own IE Bb b3 np ((x.names.take i).map λn:Nat=>(n:Int)):=b2.mod bo λc d e=>by have:=ad c d;omega
   have e1:=e0.ext aV;have src:View IE eY ⟨some ⟨b3.size,0,none⟩,1,1⟩ [(x.names[i]:Int)]:=(Own.lit (E:=IE) (l:= [(x.names[i]:Int)]) eZ rfl (by simp[maxLen])).view;refine GX (s:=np) (src:=⟨some ⟨b3.size,0,none⟩,1,1⟩) ra e1 src (by simp;omega) (by simp[maxLen];omega) λaL gl e2 b5 e3 _=>?_
   have e4:=b5.af (Ai aV b4) (λe=>by have:=ad _ e;omega);refine ab.dm e4 (by simp) λgm e5 b6 gn=>?_
   rw[Ab (by omega)];have go:=bo.size;have dg: ∀c,aL.af=some c->I.size<c:=λc d=>by
    rcases e3 c d with h|h
    ·exact ad c h
    ·omega
   have gp:I.size<c6.size:=Af c7;refine eW (x.names.length-(i+1)) _ _ (by omega) ⟨i+1,aL,rfl,rfl,v,?_,?_,?_,dg,by simpa using e5⟩
   ·exact J.trans ((((bo.ai λc _ d=>by omega).trans (Ext.mod aV)).trans (b5.ai λc _ d=>by have:=ad c d;omega)).trans (b6.ai λc _ d=>by omega))
   ·have e6:=aV.af df (λh=>h);have e7:=b5.af e6 (λe=>by have:=ad _ e;omega);exact b6.af e7 bm
   ·rw[Ax,ag];simp only[DM,CH,By,Sh];exact e2.mod b6 λc d e=>by have:=dg c d;omega
  ·have v:i=x.names.length:=by have:=of_decide_eq_false u;omega
   subst v;rw[C5] at b2;rw[PC] at bn;refine NM bn ⟨_,rfl,?_⟩;have e8:X8 ⟨([]:List Nat).flatMap BX++ [],false⟩=true:=rfl;rw[e8];refine ae.no rfl ?_;have e9: ∀ {b7:Nat} {dh:Obj},I[b7]? =some dh->b7<o.size->k[b7]? =some dh:=λe bG=>J.af e (by omega)
   refine bt k np ⟨by omega,λc d Z=>?_⟩ ar b2 (λc d=>by have:=ad c d;omega) (e9 cl (by omega)) (cm.mod J λc d e=>?_)
   ·have b8:=ck.get c d Z;rw[<- b8];exact J.get c (by omega) (by omega)
   ·rcases d with rfl|⟨w,y,_⟩
    ·omega
    ·cases y
 ·have b8:Mm D= []:=by have:=of_decide_eq_false u;exact CC (by omega)
  have bk:Aj D=⟨1,1,[]⟩:=by unfold Aj;rw[b8];rfl
  refine bt I ⟨none,0,0⟩ ck (by rw[bk];exact ch) (by rw[bk];exact Own.nil) (λc d=>by simp[Sl.af] at d) cl cm
end
open M (Sorted Ae Ca A8 Ag Ar BV Ah bE BF aS BL)
section
variable {A : al} {B : cE} {g h : aa} {q : Hp} {k : Nat -> Nat} {st : Db} {m : Bx} {D : Bl} {aJ c : Nat} {R : A2O}
theorem Bp.di(a:Bp B g h q k st m D aJ c):st.fr.length<=1000000/\st.ts.length<=100000/\(Ag (st.fr::aF st)).length<=1099511627776/\(CZ st).length<=100000:=by have d:=a.eW.di a.lim;have e:=a.eW.jw a.lim;have f:=a.hc;have i:=B.hC;have b:=a.eW.kZ.cp;rw[a.eW.iy] at b;have j:(CZ st).length<=(Ag (st.fr::aF st)).length:=rp _;omega
theorem Bp.sorted(a:Bp B g h q k st m D aJ c):Sorted (CZ st):=En _ _
end
def D0:Bl:=⟨λ_=> [],λ_=> [],λ_=> [],1,1⟩
theorem ASY:Aj D0=⟨1,1,[]⟩:=rfl
theorem ASO {e:bP}(i: ∀a,e (aD nl a)=none)(d: ∀a,e (aD nn a)=none)(j: ∀x,e x≠none->(bl x).head? ≠some 116):BD e D0/\ja e D0 0 0/\cu D0= []:=by
 refine⟨⟨⟨λa p _ _ h=>?_,λ_ _ _ _=>rfl,λa _ _=>i a,λ_ _=>rfl⟩,⟨λa p _ _ h=>?_,λ_ _ _ _=>rfl,λa _ _=>d a,λ_ _=>rfl⟩,λa d=>?_,λa b l=>?_,λa x f=>?_,λx f hd=>absurd hd (j x f),by decide⟩,⟨by decide,by decide,by decide,by decide,by decide,by decide,λa d=>?_⟩,rfl⟩
 ·rw[i a] at h;cases h
 ·rw[d a] at h;cases h
 ·rw[ASY] at d;cases d
 ·cases l
 ·cases f
 ·exact absurd (rk a) (j _ d)
section
variable {A : al} {B : cE} {g h : aa} {q : Hp} {k : Nat -> Nat} {st : Db} {m : Bx} {D : Bl} {aJ c : Nat} {R : A2O}
theorem Bp.on {b:aa}(a:Bp B g h q k st m D aJ c)(x:Ext h b):Bp B g b q k st m D aJ c:=⟨a.mem.on x,a.up,a.eW,a.lim,a.wt,a.hc⟩
theorem Bp.beside {b:aa}{d:Nat->Prop}(a:Bp B g h q k st m D aJ c)(x:Mod d h b)(hX: ∀c,d c->k c=0/\g.size<=c):Bp B g b q k st m D aJ c:=⟨a.mem.beside x hX,a.up,a.eW,a.lim,a.wt,a.hc⟩
theorem Bp.more {b:Nat}(a:Bp B g h q k st m D aJ c)(d:c<=b)(e:b<=B.C):Bp B g h q k st m D aJ b:=⟨a.mem,a.up,a.eW,a.lim.mono (A0 _) d,a.wt,e⟩
theorem Bp.free(a:Bp B g h q k st m D aJ c){x:Nat}(d:h.size<=x):k x=0:=Decidable.byContradiction λb=>by
 have:=(a.mem.own x b).2;omega
theorem Bp.base(a:Bp B g h q k st m D aJ c){x:Nat}(d:x<g.size):k x=0:=Decidable.byContradiction λb=>by
 have:=(a.mem.own x b).1;omega
theorem ANx {b:Nat}{Sb:Nat->Prop}(p:cj g)(r:Cm h b Sb m)(s:Ext g h)(t: ∀c,Sb c->g.size<=c)(hd:m.down=false)(o:m.fuel= -1)(u: ∀j,ff m (aD nl j)=none)(v: ∀j,ff m (aD nn j)=none)(w: ∀x,ff m x≠none->(bl x).head? ≠some 116)(hA:1<=B.A)(N:bg m.files<=B.W0)
  (y: ∀a d f i e l,d.b=b->Bp B g a d f i e l 1 0->e.fuel= -1->CZ i= []->(∀ n,¬dd n->ff e n=ff m n)->Mod Sb h a->(∀ c,f c≠0->Sb c\/h.size<=c)->R (J1 #[Ap d.d,J6 J9 0]) a):AA A P RZ #[Ap b] h R:=by
 obtain⟨z,C,E⟩:=ASO u v w;refine AM4 (B:=B) p r s t hd z C (AD _) hA (by omega) (λF=>absurd o F) λa d f i e l G H I J K L M=>?_
 exact y a d f i e l G H (I.calm o) (J.trans E) K L M
end
abbrev kb:A2P:=⟨#[98]⟩
abbrev v1:A2P:=⟨#[49]⟩
abbrev v2:A2P:=⟨#[50]⟩
open Go Go.ChangeShapes Go.WideShapes Go.ChangeAt Go.RowKit Go.Proofs.YtecomiijolnjpaaGreatDoor
def listed:List (String×DataW Unit):=Rows.engineOnceRow.laid
theorem AL8: ∃(x c a b:String×DataW Unit),listed= [x,c,(ox,Lib.tabData .u64 Lib.pow10Tab),a,b]:=⟨_,_,_,_,rfl⟩
theorem ASQ:P.globalNamed ox=some 2:=by kernel_rfl
theorem ARs:(P.globals[2]?).map (·.type)=some Sy:=by kernel_rfl
theorem ASP:P.underlying Sy=some (.array 20 YQ):=by kernel_rfl
theorem ART:P.underlying YQ=some (.int .u64):=by kernel_rfl
theorem ASc:P.cellsOf YQ=1:=by kernel_rfl
theorem ASk:P.cellsOf Sy=20:=by kernel_rfl
theorem AJ1:listed.filter (λx=>x.2.handleName?.isSome)= []:=by kernel_rfl
theorem qn {b:World}(a:laidMetH P listed b):laidMet P listed b:=by unfold laidMetH at a;rw[AJ1] at a;exact a
theorem AQU {c:World}(e:laidMetH P listed c):Lib.TabIs P c ox .u64 Lib.pow10Tab:=by have d:=qn e;obtain⟨x,g,a,b,f⟩:=AL8;rw[f] at d;exact Lib.tabIs_of_head (rest:= [a,b]) ASQ ARs ASP ART ASc ASk (laidMet.tail (laidMet.tail d))
theorem AQW {a:World}(c:laidMetH P listed a):cU a.heap:=λd e=>by
 have b:=AQU c;unfold Lib.TabIs World.var? at b ⊢;exact b
def nF : String := String.ofList [Char.ofNat 42] ++ "errors.errorString"
def uG:String:=Rows.engineOnceRow.named.getD 1 (String.ofList [])
def uH:String:=Rows.engineOnceRow.named.getD 0 (String.ofList [])
theorem ARr: ∃(x a z b:String×DataW Unit) (text:List UInt8),listed= [x,a,z,(uG,.iface nF (.ptr (.agg [.lit (.string text)]))),b]:=⟨_,_,_,_,_,rfl⟩
theorem AQ3: ∃(x a z b:String×DataW Unit) (text:List UInt8),listed= [x,a,z,b,(uH,.iface nF (.ptr (.agg [.lit (.string text)])))]:=⟨_,_,_,_,_,rfl⟩
theorem ASg:P.globalNamed uG=some 1:=by kernel_rfl
theorem ASD:P.globalNamed uH=some 0:=by kernel_rfl
theorem ARP:(P.globals[1]?).map (·.type)=some nE:=by kernel_rfl
theorem AQ2:(P.globals[0]?).map (·.type)=some nE:=by kernel_rfl
theorem ASe: ∃a,P.underlying nE=some (.interface a):=⟨_,Proofs.Tryz.underlying246⟩
theorem ARA(u:Q7)(a:P.typeName? 3 u=some nF):u=EO:=
 typeName_ptr_named (nm := "errors.errorString") (by kernel_rfl) (by kernel_rfl) (by decide) u a
theorem ASM:P.underlying EO=some (.pointer Eu):=by kernel_rfl
theorem ASu: ∃f:Field,P.underlying Eu=some (.struct #[f])/\f.type=Az/\f.offset=0:=⟨_,Proofs.Tryz.underlying355,rfl,rfl⟩
theorem ASs:P.cellsOf Eu=1:=by kernel_rfl
theorem uI {b:String}{text:List UInt8}{h:List (String×DataW Unit)}{a:World}{g:Nat}(i:laidMet P ((b,.iface nF (.ptr (.agg [.lit (.string text)])))::h) a)(c:P.globalNamed b=some g)(j:(P.globals[g]?).map (·.type)=some nE):kL a.heap g:=by
 obtain⟨p,k⟩:=ASe;obtain⟨f,l,m,n⟩:=ASu;obtain⟨d,q,o,_,_,_⟩:=laid_sentinel i c j k ARA ASM l m n qm ASs uF;have e:a.cell? ⟨g,0,none⟩=some (.iface EO (.pointer (some d))):=by simpa using World.var?_cell c o 0
 refine⟨.iface EO (.pointer (some d)),?_,.inr ⟨_,_,rfl⟩⟩;unfold ag;unfold World.cell? at e;exact e
theorem ARS {d:World}(b:laidMetH P listed d):cj d.heap:=by
 refine⟨AQW b,?_,?_⟩
 ·have a:=qn b;obtain⟨x,e,z,f,t,c⟩:=AQ3;rw[c] at a;exact uI (laidMet.tail (laidMet.tail (laidMet.tail (laidMet.tail a)))) ASD AQ2
 ·have a:=qn b;obtain⟨x,e,z,f,t,c⟩:=ARr;rw[c] at a;exact uI (laidMet.tail (laidMet.tail (laidMet.tail a))) ASg ARP
def AIT:DataW Unit->Array J0
 | .agg ds=>(ds.map λ| .lit (.int a z)=>Value.int a z|_=> .bool false).toArray
 |_=> #[]
def fill(a:DataW Unit):Obj->Obj
 | .cells _ t frozen=> .cells (AIT a) t frozen
 |o=>o
def iT(b:Nat):Obj->Obj
 | .cells _ t frozen=> .cells #[.iface EO (.pointer (some ⟨b,0,none⟩))] t frozen
 |o=>o
abbrev APd:A2P:=⟨#[118,97,108,117,101,32,111,117,116,32,111,102,32,114,97,110,103,101]⟩
abbrev AP2:A2P:=⟨#[105,110,118,97,108,105,100,32,115,121,110,116,97,120]⟩
noncomputable def low:Nat:=(World.holding P default ⟨#[],#[],[]⟩).heap.size
noncomputable def Yd (os:Os):World:=
 let a:=World.holding P os ⟨#[.cells #[.string APd] Eu,.cells #[.string AP2] Eu],#[],[]⟩
 {a with heap:=((((a.heap.modify 2 (fill Rows.laid_internal_strconv_uint64pow10)).modify 4 (fill Rows.laid_math_bits_deBruijn32tab)).modify 5 (fill Rows.laid_math_bits_deBruijn64tab)).modify 1 (iT low)).modify 0 (iT (low+1))}
theorem AIH(os:Os)(args:Array J0):laidMet P listed ((Yd os).forCall (λ_ _=>0) ⟨#[],args,[]⟩).memory:=
 laidMet_of_run' 8 (by kernel_rfl) (by kernel_rfl)
end Go.Lf.G
namespace Go.Lf.G.M
open Go Go.ChangeShapes Go.WideShapes Go.ChangeAt Go.RowKit Go.Proofs.YtecomiijolnjpaaGreatDoor
def lM(a:World):al:=⟨a.tape,a.os,a.output⟩
section
variable {H : Type} {enc : Q7 × J0 -> H} {w : World} {base : Nat} {spare : Nat -> Bool} {held : Bool}
instance:Inhabited Pr:=⟨⟨⟨#[]⟩,⟨#[]⟩,false⟩⟩
instance:Inhabited Sl:=⟨⟨none,0,0⟩⟩
end
end Go.Lf.G.M
namespace Go.Lf.G
open Go
open M (Sorted Ae Ca A8 Ag Ar BV Ah bE BF aS BL)
structure ASL where
 kind:Int
 bs:Sl
 key:A2P
 til:A2P
 most:Int
 ks:Sl
structure ASx (N:Nat) (h:aa) (x:ASL) (l:List Pr) (ks:List Int):Prop where
 bs:View BZ h x.bs l
 ks:View IE h x.ks ks
 key:x.key.size<=N
theorem AQi {e:Type}{d:cz e}{h:aa}{s:Sl}{l:List e}(v:View d h s l)(f:l≠ []){b:Nat}(i:s.af=some b):b<h.size:=by
 cases l with
 |nil=>exact absurd rfl f
 |cons x l=>
  obtain⟨a,j,n⟩:=v.cells 0 x rfl;have p:=d.pos;have r:=d.len x;obtain⟨u,o⟩: ∃u,(d.enc x)[0]? =some u:=⟨_,A2 (by omega)⟩;have:=UV (n 0 u o);rw[aM,aM] at this;have t:a.block=b:=by simpa [Sl.af,j] using i
  omega
section
variable {A : al} {B : cE} {g h : aa} {q : Hp} {k : Nat -> Nat} {st : Db} {m : Bx} {D : Bl} {aJ c : Nat} {R : A2O}
theorem Bp.put {b a:Nat}(d:Bp B g h q k st m D aJ c)(e:aJ<=b)(f:c<=a)(i:a<=B.C):Bp B g h q k st m D b a:=(d.aJ e).more f i
theorem Bp.args(a:Bp B g h q k st m D aJ c){s:Sl}{l:List Pr}(v:View BZ g s l):l≠ []-> ∀b,s.af=some b->b<h.size/\k b=0:=λd b e=>by
 have f:=AQi v d e;have:=a.mem.ext.size;exact⟨by omega,a.base f⟩
end
theorem AIj {A:al}{B:cE}{g h:aa}{q:Hp}{k:Nat->Nat}{st:Db}{m:Bx}{D:Bl}{aJ c:Nat}{R:A2O}{s:Sl}{l:List Pr}(u:cj g)(j:Bp B g h q k st m D aJ c)(i:m.fuel= -1)(hA:aJ+3<=B.A)(v:View BZ h s l)(w:l≠ []-> ∀b,s.af=some b->b<h.size/\k b=0)(x:c+64<=B.C)
  (y: ∀e n z C f G,n.d=q.d->n.b=q.b->Bp B g e n z C f G (aJ+3) (c+64)->f.fuel= -1->CZ C=(if EU l=0 then cM (CZ st) l else CZ st)->(∀ o,¬dd o->ff f o=ff m o)->Mod (λc=>k c≠0) h e->(∀ c,z c≠0->k c≠0\/h.size<=c)->R (J6 J9 (EU l)) e):
  AA A P KV #[Ap q.d,J4 s.p s.len s.cap] h R:=by
 by_cases a:EU l=0
 ·have W:=(yo a).1.len;refine yu (B:=B) (s:=s) u j hA v w (λ_=>by omega) (λE=>absurd a E) (λ_ e f p=>absurd i p.fuel) (λ_ e f p=>absurd i p.fuel) λ_ r H I J K L M N O Q S T U V=>?_
  have:=y r H I J K L M N (O.put (A0 _) (by omega) x) (Q.calm i) (by rw[if_pos a];exact S.map) T U V;rwa [a] at this
 ·refine yu (B:=B) (s:=s) u j hA v w (λd=>absurd d a) (λE r F=>?_) (λd=>absurd d a) (λd=>absurd d a) (λd=>absurd d a);exact y r q k st m D rfl rfl ((j.on F).put (by omega) (by omega) x) i (by rw[if_neg a]) (λ_ _=>rfl) (F.ai λc _ t=>t.elim) λc t=> .inl t
open Go Go.ChangeShapes Go.WideShapes Go.ChangeAt Go.RowKit Go.Proofs.YtecomiijolnjpaaGreatDoor
section
variable {H : Type} {enc : Q7 × J0 -> H} {w : World} {base : Nat} {spare : Nat -> Bool} {held : Bool}
end
def fieldsOf(P:Q1)(t:Q7):Option (List (Q7×Nat)):=match P.underlying t with
 |some (.struct a)=>some (a.toList.map λf=>(f.type,f.offset))
 |_=>none
section
variable {H : Type} {enc : Q7 × J0 -> H} {w : World} {base : Nat} {spare : Nat -> Bool} {held : Bool}
theorem AIZ {t:Q7}{c:List (Q7×Nat)}{h:Nat}{d:List J0}{x:DataW H×List MemPlace}(b:fieldsOf P t=some c)(j:DataW.trod enc P w base spare held h t d=some x):
  ∃(a:List (DataW H×List MemPlace)) (m:Nat),x=(.agg (a.map (·.1)),a.flatMap (·.2))/\d.length=P.cellsOf t/\a.length=c.length/\
   ∀(i:Nat) (f:Q7×Nat),c[i]? =some f->DataW.trod enc P w base spare held m f.1 ((d.drop f.2).take (P.cellsOf f.1))=a[i]? :=by
 unfold fieldsOf at b;split at b
 ·rename_i q k;simp at b;subst b;obtain⟨a,m,_,rfl,l,n,o⟩:=DataW.trod_struct k j;refine⟨a,m,rfl,l,by simpa using n,λi f e=>?_⟩;simp only[Bm,A0i,Mz] at e;obtain⟨g,p,rfl⟩:=e;exact o i g p
 ·cases b
end
theorem ASA:fieldsOf P Co=some [(Az,0),(Az,1),(Bb,2),(Bb,3),(lN,4)]:=by kernel_rfl
theorem AR7: ∃a,P.underlying Co=some (.struct a):=⟨_,Proofs.Tryz.underlying72⟩
theorem ASH:P.cellsOf Co=5:=by kernel_rfl
theorem ASd:P.cellsOf lN=1:=by kernel_rfl
theorem AO1 {e:Type}{x:Q7×J0->e}{f:World}{base:Nat}{v:J0}{c:DataW e}{ps:List MemPlace}(y:Value.okWide P f .any base Co v)(z:DataW.Trod x P f 0 (λ_=>true) true Co v c ps):
  ∃(s:eL) (l:Unit),v=s.v/\True/\s.key.size<=Rows.uptoBulk c:=by
 obtain⟨K,A⟩:=AR7;obtain⟨d,rfl,L⟩:=okWide_struct A y;obtain⟨M,g⟩:=z;have B:(Value.agg d).cells.toList=d.toList:=rfl;rw[B] at g;obtain⟨h,m,C,i,D,a⟩:=AIZ ASA g;have hd:c= .agg (h.map (·.1)):=congrArg Prod.fst C;subst hd;rw[ASH] at i;obtain⟨E⟩:=d
 match E,i with
 | [N,O,Q,R,S],_=>
  match h,D with
  | [T,U,V,W,X],_=>
   have j:=a 0 _ rfl;have k:=a 1 _ rfl;have n:=a 2 _ rfl;have o:=a 3 _ rfl;have p:=a 4 _ rfl;simp only[uF,ASr,ASd] at j k n o p;obtain⟨b,q,F,_⟩:=DataW.trod_string qm j;obtain⟨G,r,Y,_⟩:=DataW.trod_string qm k;obtain⟨H,t,_,_⟩:=DataW.trod_int uD n;obtain⟨I,u,_,_⟩:=DataW.trod_int uD o;obtain⟨J,w,_⟩:=DataW.trod_bool uE p;simp at q r t u w;subst q r t u w;refine⟨⟨b,G,H,I,J⟩,(),rfl,trivial,?_⟩;have Z:b.data.toList.length=b.size:=by rw[DS];rfl
   simp only[By,Rows.uptoBulk,Rows.uptoBulkAll,F];show b.size<=_;omega
def Ih(c:al)(x:eL)(ar:aa)(e:A2O):=ak ar (J2 x.c Co) λb au=>AA c P Ja #[] au λv k=> ∃L:Bool,v=J3 L/\(ae (!L) (e (J3 false) k) (ah (λ(av:Bool×Unit) z=>ae av.1 (e (J3 true) z) (AJ z (Q5 b 0 none) λM=>aH ((((⟨#[121]⟩:A2P).size+M.size:Nat):Int)<=IntKind.i64.max)<| ak z (J2 #[J7 (⟨#[]⟩:A2P)] Az) λA aw=>ab aw (Q5 A 0 none) (J7 ((⟨#[121]⟩:A2P)++M)) λax=>AA c P Ew #[] ax λv1 ay=> ∃N:Q2,∃O:Q2,∃Q:Bool,v1=J1 #[J5 N,J5 O,J3 Q]/\(ak ay (J2 #[J5 none] I4) λg az=>ab az (Q5 g 0 none) (J5 O) λB=>ah (λ(aA:Bool×Unit) R=>ae aA.1 (e (J3 false) R) (ak R (J2 #[J6 J9 0,J6 J9 100,J6 J9 0,J6 J9 100,J6 J9 0] UD) λaC aD=>Loop (λaE (s:Int×Unit) l=>ae (decide (s.1<(5:Int))) (bH (some (Q5 aC 0 none)) 5 s.1 λa=>AC J9 l (a.add (s.1.toNat*1)) λaF=>AZ l (Q5 g 0 none) λaG=>AA c P Dg #[J5 aG,J7 (⟨#[119]⟩:A2P)] l λv2 aI=>IJ λh=>v2=h.v/\(Du c P (.func (.func Di) #[] #[J5 (some (Q5 g 0 none)),J5 (some (Q5 A 0 none)),J5 (some (Q5 b 0 none))]) #[J3 (decide ((s.1.tmod (4:Int))<2)),J3 (decide ((s.1.tmod (4:Int))>=2))] aI λaJ aK=> ∃C:Q2,∃S:Bool,aJ=J1 #[J5 C,J3 S]/\(AA c P Dw #[J5 C] aK λaL aM=>IJ λT=>aL=T.v/\(ak aM (J2 bS.z.c Cw) λm aO=>aN aO (Q5 m 0 none) T.l λaP=>AA c P CS #[J5 C] aP λaQ U=> ∃n:Int,aQ=J6 J9 n/\(AJ U (Q5 A 0 none) λaR=>AA c P DT #[J5 N,J7 aR] U λaS d=> ∃D:A2P,∃o:Bool,∃V:Int,aS=J1 #[J7 D,J3 o,J6 J9 V]/\(ah (λ(aT:Bool×Unit) E=>ae aT.1 (e (J3 false) E) (AZ E (Q5 g 0 none) λaU=>AA c P Dg #[J5 aU,J7 (⟨#[119]⟩:A2P)] E λaV p=>IJ λr=>aV=r.v/\(ah (λ(aW:Bool×Unit) W=>ae aW.1 (e (J3 false) W) (aE ((J8 J9 (s.1+1)),()) W)) λq=>ae (n==0) (ae (r.next != (J8 J9 (h.next+1))) (q (true,()) p) (ae (n != 0) (q ((r.next != h.next),()) p) (q (false,()) p))) (ae (n != 0) (q ((r.next != h.next),()) p) (q (false,()) p))))) λf=>ae (!S) (f (true,()) d) (ae (n != aF) (f (true,()) d) (ae (V != 0) (f (true,()) d) (ae (decide (s.1<2)) (ae (!(o==true)) (f (true,()) d) (ae o (AJ d (Q9 (Q5 b 0 none) 1) λaX=>ae (!bL D aX) (f (true,()) d) (AC J9 d (Q9 (Q5 m 0 none) 2) λaY=>f ((aY != (J8 J9 (h.next+1))),()) d)) (AC J9 d (Q9 (Q5 m 0 none) 2) λaZ=>f ((aZ != (J8 J9 (h.next+1))),()) d))) (ae (!(o==(s.1==4))) (f (true,()) d) (ae o (AJ d (Q9 (Q5 b 0 none) 1) λa0=>ae (!bL D a0) (f (true,()) d) (AC J9 d (Q9 (Q5 m 0 none) 2) λa1=>f ((a1 != (J8 J9 (h.next+1))),()) d)) (AC J9 d (Q9 (Q5 m 0 none) 2) λa2=>f ((a2 != (J8 J9 (h.next+1))),()) d)))))))))))) (AZ l (Q5 g 0 none) λa3=>AA c P IR #[J5 a3,.nilIface,J7 (⟨#[119]⟩:A2P)] l λa4 a5=>MI λX=> ∃a6:Int,a4=J1 #[X.v,J6 J9 a6]/\(ak a5 (J2 cm.z.c CX) λY a7=>aN a7 (Q5 Y 0 none) X.l λF=>AZ F (Q5 g 0 none) λa8=>G7 F (Q5 Y 0 none) λa9=>AA c P Iz #[J5 a8,a9.v,J6 J9 3] F λba bb=> ∃j:Q2,ba=J5 j/\(AA c P Bc #[J5 j,(⟨0,6,0,0,0,0,false,(⟨#[]⟩:A2P)⟩:Ev).v] bb λbc bd=>bc=J1 #[]/\(AA c P Dy #[J5 j] bd λbe t=> ∃G:Int,be=J6 J9 G/\(ah (λ(Z:Bool×Unit) u=>ah (λ(bf:Bool×Unit) w=>ae bf.1 (e (J3 false) w) (ah (λ(ac:Int×Unit) bg=>AA c P CS #[J5 j] bg λbh H=> ∃ad:Int,bh=J6 J9 ad/\(ae (ad != 0) (e (J3 false) H) (AZ H (Q5 g 0 none) λbi=>AA c P IR #[J5 bi,.nilIface,J7 (⟨#[119]⟩:A2P)] H λbj bk=>MI λaf=> ∃ag:Int,bj=J1 #[af.v,J6 J9 ag]/\(ak bk (J2 cm.z.c CX) λI bm=>aN bm (Q5 I 0 none) af.l λi=>ae (ag==0) (AY i ((Q9 (Q5 I 0 none) 6).add 8) λbn=>ae ((bn.len:Int)==(J8 J9 ((1:Int)-ac.1))) (ae (ac.1==1) (e (J3 true) i) (AY i ((Q9 (Q5 I 0 none) 6).add 8) λai=>bH ai.p ai.len 0 λbo=>AC J9 i ((bo.add ((0:Int).toNat*4)).add 3) λbp=>e (J3 (bp==2)) i)) (e (J3 false) i)) (e (J3 false) i))))) λaj=>Aa w (Q9 (Q5 b 0 none) 4) λbq=>ae (!bq) (aj (0,()) w) (aj (1,()) w))) λJ=>AC J9 u (Q9 (Q5 b 0 none) 2) λbr=>AC J9 u (Q9 (Q5 b 0 none) 3) λbs=>Aa u (Q9 (Q5 b 0 none) 4) λbt=>AA c P JE #[J5 j,J6 J9 br,J6 J9 bs,J3 bt] u λbu y=> ∃am:Bool,bu=J3 am/\(ae (!(am==Z.1)) (J (true,()) y) (ae (!Z.1) (Aa y (Q9 (Q5 b 0 none) 4) λbv=>AA c P JE #[J5 j,J6 J9 G,J6 J9 1,J3 bv] y λbw bx=> ∃an:Bool,bw=J3 an/\(J ((!an),()) bx)) (J (false,()) y)))) λao=>AC J9 t (Q9 (Q5 b 0 none) 2) λbz=>ae (bz==G) (AC J9 t (Q9 (Q5 b 0 none) 3) λbA=>ao ((bA==1),()) t) (ao (false,()) t))))))) (0,()) aD)) λap=>ae (!Q) (ap (true,()) B) (AZ B (Q5 g 0 none) λbB=>ak B (J2 #[J6 J9 1,J7 (⟨#[97]⟩:A2P),J7 (⟨#[]⟩:A2P),J6 J9 2,J6 J9 0,J6 J9 0] Bg) λbC bD=>AA c P EQ #[J5 bB,.nilIface,J6 J9 0,(⟨1,(⟨#[114]⟩:A2P),(⟨#[119]⟩:A2P),(⟨#[]⟩:A2P),(⟨(some (Q5 bC 0 none)),1,1⟩:Sl),0,(⟨none,0,0⟩:Sl),0,0,0,0,false⟩:bZ).v] bD λbE bF=>IJ λaq=>bE=aq.v/\(ap ((aq.err != 0),()) bF))))) λK=>AJ k (Q5 b 0 none) λbG=>ae (decide ((bG.size:Int)>60)) (K (true,()) k) (AJ k (Q9 (Q5 b 0 none) 1) λbI=>K ((decide ((bI.size:Int)>8000)),()) k)))
theorem Ml {a x b c}(d:Ih a x b c):AA a P Io #[x.v] b c:=Ac (AO AU (AO Da (AO (AO (.bC [(38,.one .bool)] [1]) Dx) (CL 2 (AO (AO (.bC [(58,.one .bool)] [1,3,4,5]) Dx) (AO AU (AO (AO AU (.block (.loop [(62,.one (.int J9))] [1,3,4,5,7,60,61] (AO AU (AO FQ (AO (.block (CL 6 (AO (AO (.bC [(128,.one .bool)] [1,3,4,5,7,10,14,60,61,62]) Dx) (AO AU (AO (.bC [(148,.one .bool)] [1,3,4,5,7,60,61,62]) Dx))))) AU)))))) (CL 4 (AO (.bC [(23,.one .bool)] [1,5,21,22]) (AO (AO (.bC [(193,.one .bool)] [1,5,21]) Dx) (AO AU (.bA [(24,.one (.int J9))] [5,21] FR jG)))))))))))) (by kernel_rfl) d
def HV(c:al)(note:Bool)(t:Bool)(h:Q6)(i:Q6)(j:Q6)(k:aa)(l:A2O):=AZ k h λu=>AA c P IR #[J5 u,.nilIface,J7 (⟨#[119]⟩:A2P)] k λv w=>MI λm=> ∃n:Int,v=J1 #[m.v,J6 J9 n]/\(ak w (J2 cm.z.c CX) λb x=>aN x (Q5 b 0 none) m.l λf=>AZ f h λy=>G7 f (Q5 b 0 none) λz=>AA c P Iz #[J5 y,z.v,J6 J9 3] f λv1 A=> ∃a:Q2,v1=J5 a/\(AA c P Bc #[J5 a,(⟨0,12,0,0,0,0,false,(⟨#[120]⟩:A2P)⟩:Ev).v] A λv2 d=>v2=J1 #[]/\(ah (λ(s:Unit) e=>ah (λ(Q:Unit) B=>AA c P EC #[J5 a,(⟨1,(⟨#[]⟩:A2P),2,0⟩:cT).v] B λC D=>C=J1 #[]/\(AA c P Eg #[J5 a,(⟨6,(⟨#[]⟩:A2P),0,0⟩:cT).v,J6 J9 9] D λE g=>E=J1 #[]/\(ae (n==0) (AA c P Dy #[J5 a] g λF o=> ∃p:Int,F=J6 J9 p/\(AC J9 o ((Q9 (Q5 b 0 none) 6).add 3) λq=>And (ag g ((Q9 (Q5 b 0 none) 6).add 3)=some (J6 J9 q))<| l (J1 #[J5 a,J3 (p==q)]) o)) (l (J1 #[J5 a,J3 false]) g)))) λr=>ae t (AJ e i λG=>AJ e (j.add 1) λH=>AA c P Jd #[J5 a,.agg #[J7 G,J7 H,J3 false]] e λI J=>I=J1 #[]/\(r () J)) (r () e)) λK=>ae note (AJ d i λL=>AJ d (j.add 1) λM=>AA c P F8 #[J5 a,J7 L,J7 M] d λN O=>N=J1 #[]/\(K () O)) (K () d))))
theorem Li {a note b c d e f g}(h:HV a note b c d e f g):AA a P Di #[J3 note,J3 b,J5 (some c),J5 (some d),J5 (some e)] f g:=Ac (CL 4 (.bA [] [1,3,4,9,10,11] FR (.bA [] [9,10,11] FR Yi))) (by kernel_rfl) h
end Go.Lf.G
