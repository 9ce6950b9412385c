/-
 Contract: all tables become one (chapter 9).
-/
import Derived.Test.YtgpmoonnachoaaaGreatDoorLfX3ToZ9
import Derived.Lib.AtoiAllCases
import Derived.Test.YtgpmoonnachoaaaGreatDoorLfU2ToS1
import Derived.Test.YtgpmoonnachoaaaGreatDoorCards
import Derived.Test.YtgpmoonnachoaaaGreatDoorTie
import Derived.Deep.DeepHandedRow
import Derived.Lib.LaidTab
import Derived.Stop.LaidErr
import Derived.Test.YtgpmoonnachoaaaGreatDoorLfS3ToY8
import Derived.Test.YtgpmoonnachoaaaGreatDoorRows
import Derived.WalkKit
import Derived.ProofKit
import Derived.OpenShut
import Derived.JoinedCond
import Derived.Deep.Slices
import Derived.Carry
import Derived.Test.YtgpmoonnachoaaaGreatDoorLfG1
import Derived.Test.YtgpmoonnachoaaaGreatDoorLfKToGA
set_option maxRecDepth 100000
set_option linter.unusedVariables false
set_option linter.unusedSimpArgs false
open Go.IntKind renaming i64→J9,wrap→J8
open Go.Value renaming string→J7,int→J6,pointer→J5,slice→J4,bool→J3,tuple→J1
open Go.Obj renaming cells→J2
open Go renaming Value→J0,Addr→Q6,TypeId→Q7,FuncId→Q8,Program→Q1
open Go.Addr renaming add→Q9,mk→Q5
namespace Go.Lf.G
open Go
open M (Sorted Ab Bw Av Ac Am BF Ah bz Az)
structure kQ (B:bV) (h h':aa) (q:Hp) (k:Nat->Nat) (m m':Bx) (aJ:Nat):Prop where
 fuel:m.fuel≠ -1
 dn:QS h' q.d
 box: ∃S',Bl h' q.b S' m'/\ ∀c,S' c->k c≠0\/h.size<=c
 down:m'.down=true
 mod:Mod (λc=>k c≠0) h h'
 dc: ∀y,¬cz y->ff m' y=ff m y
 wt:aY m'.files<=B.W0+aJ*B.K
section
variable {A : ak} {B : bV} {g h : aa} {q : Hp} {k : Nat -> Nat} {st : Db} {m : Bx} {D : Bz} {aJ c : Nat} {R : A2H}
theorem Jn {f:aa}{e:Nat->Prop}{i:Bx}(a:bQ g h q k st m)(o:Bl f q.b e i)(j:Mod (λc=>q.Sb c\/c=q.lg\/c=q.nt) h f)(l: ∀c,e c->q.Sb c\/h.size<=c)
  (p: ∀d,QS d q.d->Bl d q.b e i->Mod (λc=>k c≠0) h d->(∀ c,e c->k c≠0\/h.size<=c)->R (J6 J9 30) d):AA A P Co #[Ak q.d,J6 J9 30] f R:=by
 have u:=a.iB;have r:f[q.d]? =some (J2 (eT q st false) FW (0,0)):=j.ag a.cell (by
  rintro(h|h|h)
  ·exact a.nP h
  ·exact a.dl h
  ·exact a.dn h)
 have nd: ¬e q.d:=λb=>by
  rcases l _ b with h|h
  ·exact a.nP h
  ·omega
 refine ARp r λd s n v=>p d s (o.mod n λc b t=>nd (t▸b)) ((j.aj λc _ b=>?_).trans (n.aj λc _ b=>?_)) λc b=>(l c b).imp (λh=>by rw[a.kb c h];decide) id
 ·rcases b with b|rfl|rfl
  ·rw[a.kb c b];decide
  ·rw[a.kl];decide
  ·rw[a.kn];decide
 ·rw[b,a.kd];decide
theorem ATB(a:Nat):cz (ba a):= .inr (.inr ⟨a,rfl⟩)
theorem ASz(a:Nat):cz (aD nn a):= .inr (.inl ⟨a,rfl⟩)
theorem ATP(a:Nat):cz (aD nl a):= .inl ⟨a,rfl⟩
theorem RV {a:A2I}(h: ¬cz a)(b:Nat):a≠ba b:=λd=>h (d▸ATB b)
theorem lP {a:A2I}(h: ¬cz a)(b:Nat):a≠aD nn b:=λd=>h (d▸ASz b)
theorem pD {a:A2I}(h: ¬cz a)(b:Nat):a≠aD nl b:=λd=>h (d▸ATP b)
theorem APU(d:bQ g h q k st m)(L:Ee (ff m) st D)(l:TY st D aJ c)(e:c<=B.C)(a:Gd (aH st)≠ []):Hg (Gd (aH st)):=by have f:=L.ga l;have i:=L.dB l;have j:=B.hC;exact⟨a,λx b=>pE (pF.2 x b),pF.1,by omega⟩
theorem bV.step(B:bV){a w' aJ d:Nat}(h:a<=B.W0+aJ*B.K)(e:w'<=a+d)(hd:d<=20000*B.C+10000000):w'<=B.W0+(aJ+1)*B.K:=by
 have b:(aJ+1)*B.K=aJ*B.K+B.K:=Nat.succ_mul _ _;have f:B.K=20000*B.C+10000000:=rfl;rw[b];generalize aJ*B.K=x at*
 omega
theorem ASo {t b a c:Nat}(d:t<=8400*c+1100000)(e:b<=a)(f:a<=8000000000000)(i:c<=100000):b+t+1<=8796093022208:=by omega
theorem ASI {a b d x:Nat}(e:b<=a+x)(f:d<=b+700000):d<=a+(x+700000):=by grind
theorem AOr(a:Nat):8400*a+1100001+700000<=20000*a+10000000:=by omega
theorem bV.step2(B:bV){a b d aJ:Nat}(h:a<=B.W0+aJ*B.K)(e:b<=a+(8400*B.C+1100001))(f:d<=b+700000):d<=B.W0+(aJ+1)*B.K:=
 B.step h (ASI e f) (AOr B.C)
theorem AJ9(bt:cu g)(S:Bt B g h q k st m D aJ c)(hA:aJ+1<=B.A)
  (bu: ∀h' ab,kQ B h h' q k m ab (aJ+1)->jB (ff ab) (aJ+1) c (CY st)->R (J6 J9 30) h')
  (b3: ∀h' aI b4 bH ab r,aI.d=q.d->aI.b=q.b->Bt B g h' aI b4 bH ab r (aJ+1) c->IX m ab->bH.fr=st.fr->CY bH=CY st->bH.ts.length<=1->(∀ E,¬cz E->ff ab E=ff m E)->Mod (λc=>k c≠0) h h'->(∀ c,b4 c≠0->k c≠0\/h.size<=c)->R (J6 J9 0) h'):
  AA A P Jp #[Ak q.d] h R:=by
 have cQ:=S;obtain⟨u,hd,L,l,a8,b⟩:=S;have ew:=B.hA;have ex:=B.hC;have ey:=B.wt (a:=aJ) (by omega);refine Zj ?_;unfold Q4;refine ai.mk λK cR=>Zm u (cR _ _ (af.no rfl ?_))
 refine aE (Ad.mk (s:=q.tp) (AB u.cell rfl) ?_);have ez:=u.dw;have cS:=u.cy.len;have eA:=l.cw;refine af.intro (λI=>?_) (λI=>?_)
 ·have f:st.ts.length<=1:=by grind
  exact b3 h q k st m D rfl rfl (cQ.aJ (by omega)) (IX.refl hd) rfl rfl f (λ_ _=>rfl) Mod.refl (λc b=> .inl b)
 refine aE (Ad.mk (s:=q.tp) (AB u.cell rfl) ?_);refine Loop.rule (λaK x F=> ∃(i:Nat) (sl:Sl),x=(sl,(i:Int),())/\aK=q.ps.length-i/\i<=q.ps.length/\Ext h F/\(∀ c,sl.ag=some c->h.size<=c)/\Tg A F sl ((aH st).take i)) ?_ ⟨0,⟨none,0,0⟩,rfl,rfl,by omega,Mod.refl,λc b=>by simp[Sl.ag] at b,Tg.nil⟩;rintro eB aK _ F ⟨i,sl,rfl,rfl,a9,aL,bv,bb⟩ b5;dsimp only;refine af.intro (λI=>?_) (λI=>?_)
 ·have V:i<q.ps.length:=by rw[<- cS];simpa using I
  have cT:i<st.ts.length:=by omega
  have b6:q.ps[i]? =some q.ps[i]:=A2 V;have aN:st.ts[i]? =some st.ts[i]:=A2 cT;have cU:(aH st)[i]? =some st.ts[i].2:=by unfold aH;rw[BE,aN];rfl
  have b7:=u.on aL;refine b7.cy.view.idx b6 λa _ c=>AY.mk (Cells.pt c) ?_
  obtain⟨bw,eC,cV,cW,cX,b8⟩:=b7.cW i _ _ b6 aN;refine AIK cV cW b8.fx λeD bx bA N eE=>⟨_,rfl,Zl.mk bA.one.1 ?_⟩
  rw[M.tD] at bA;have v:=b8.many;refine Tg.add (bb.ext N) bA (λc b e=>?_) (by omega) (by simp[aH];omega) λcY h' aI ab cZ=>?_
  ·obtain⟨eF,c0,_,_⟩:=bb;have ac:=c0.lt e;have eG:=bv c e;rcases b with f|f|f
   ·have:=cX c f.1 f.2;have:=(u.own c (by rw[this];decide)).2;omega
   ·omega
   ·omega
  ·rw[Aa (by omega)];refine b5 (q.ps.length-(i+1)) _ _ (by omega) ⟨i+1,cY,rfl,rfl,V,?_,λc b=>?_,?_⟩
   ·exact(aL.trans N).then (ab.aj λc _ b=> .inr (bv c b))
   ·rcases cZ c b with f|f
    ·exact bv c f
    ·have:=aL.size;have:=N.size;omega
   ·rw[Ax,cU];exact aI
 have V:i=q.ps.length:=by
  have: ¬i<q.tp.len:=by simpa using I
  omega
 subst V;rw[AE (by simp[aH];omega)] at bb;clear b5;have c3:=bz.tail u.gr;refine M.tE bb.lZ (λc h=>h.elim) (by simp[aH];omega) c3 λeH b9 c4 ca _=>⟨_,rfl,?_⟩
 refine M.tF (.inr c4) λeI bc c5 cb _=>⟨_,rfl,?_⟩
 have eJ:=L.ga l;have eK:=L.dB l;have c6:(Az (Ac (aH st))).length<=1099511627776:=by have:(Az (Ac (aH st))).length=(Gd (aH st)).length:=rfl;omega
 refine M.XI c5 (λ_ _=>rfl) c6 λbB aO ax c7 c8=>⟨bB,rfl,?_⟩
 have bC:Ext h aO:=((aL.trans ca).trans cb).trans c8;have ax:Own BO AQ aO bB (Gd (aH st)):=ax;have bd:=u.on bC;have eL:=bC.size;refine aE (Ad.mk (s:=q.np) (AB bd.cell rfl) ?_);refine aE (ae.dy bd.cell (by simp) λeM c9 db eN=>?_);refine aE (ae.dy c9 (by simp) λX bD dc eO=>?_);have bD:X[q.d]? =some (J2 (eT {q with tp:=⟨none,0,0⟩,np:=⟨none,0,0⟩} {st with next:=st.next,aZ:=st.aZ} false) FW (0,0)):=by simpa using bD
 have aP:Mod (· =q.d) aO X:=db.trans dc;have an:=bd.fG (tp:=⟨none,0,0⟩) (np:=⟨none,0,0⟩) (ps:= []) (ts:= []) (next:=st.next) (aZ:=st.aZ) (S:=λ_=>False) bD (aP.aj λc _ b=> .inl b) Own.nil Own.nil rfl
  (λc b=>by simp[Sl.ag] at b) (λc b=>by simp[Sl.ag] at b) (λc h=>h.elim) (λi t p f=>by simp at f)
 have dd: ∀c,Lm k aO.size ⟨none,0,0⟩ ⟨none,0,0⟩ (λ_=>False) c=k c:=λc=>by
  unfold Lm;split
  ·rfl
  ·rename_i f;simp[Sl.ag];omega
 have de:Lm k aO.size ⟨none,0,0⟩ ⟨none,0,0⟩ (λ_=>False)=k:=funext dd;rw[de] at an;have ay:Mod (λc=>k c≠0) h X:=(Ext.mod bC).trans (aP.aj λc _ b=>by rw[b,u.kd];decide);have df:=bd.names.view;have cc:View GV X q.np (eV st):=df.mod aP λc b e=>by have:=u.kx c b;rw[e,u.kd] at this;cases this
 have cd:=L.jj l;have eP:=l.next;have eQ:=l.aM;have be:st.next∉st.ts.map (·.1):=λv=>by
  obtain⟨p,W,e⟩:=List.mem_map.1 v;have:=L.below p W;omega
 refine ai.mk λdg dh=>?_
 have ce: ∀(F:aa) (ap:Hp) (bf:Nat->Nat) (y:Bx) (z:Nat) (w:List (Nat×List Pr)),bQ g F ap bf {st with ts:=w,next:=z} y->ap.d=q.d->ap.b=q.b->IX m y->
   (∀ x,x≠ba st.next->ff y x=ff m x)->((w= []/\z=st.next/\Gd (aH st)= []/\ff y (ba st.next)=none)\/(w= [(st.next,Gd (aH st))]/\z=st.next+1/\ff y (ba st.next)=some (AX (Js (Gd (aH st))),bg)/\Hg (Gd (aH st))))->
   aY y.files<=aY m.files+(8400*B.C+1100001)->Mod (λc=>k c≠0) h F->(∀ c,bf c≠0->k c≠0\/h.size<=c)->View GV F q.np (eV st)->(∀ c,q.np.ag=some c->bf c=7)->dg () F:=by
  intro F ap bf y z w aq bh az bE Y O cf bi aQ di bc;refine dh _ _ ?_;have dj: ∀x,(∀ n,x≠ba n)->ff y x=ff m x:=λx J=>Y x (J _)
  have dk:BH (ff y) D:=L.ok.gu λx J=>Y x (J st.next (by rw[L.names];exact be))
  have dl:iv (da {st with ts:=w,next:=z}):=by
   have eR:=L.fy;have eS:=l.az;rcases O with⟨rfl,rfl,_,_⟩|⟨rfl,rfl,_,_⟩
   ·exact⟨by show st.next<=_;omega,by show 1<=st.aZ/\st.aZ<=_;omega,by simp[da],by simp[da],by simp[da]⟩
   ·exact⟨by show st.next+1<=_;omega,by show 1<=st.aZ/\st.aZ<=_;omega,by simp[da],by simp[da],by simp[da]⟩
  have dm: ∀n∈(da {st with ts:=w,next:=z}).names,ff y (ba n)=some (AX (Js ((λ_=>Gd (aH st)) n)),bg)/\Hg ((λ_=>Gd (aH st)) n):=λn o=>by
   rcases O with⟨rfl,rfl,_,_⟩|⟨rfl,rfl,f,H⟩
   ·simp[da] at o
   ·have o:n=st.next:=by simpa [da] using o
    subst o;exact⟨f,H⟩
  have cg: ∀r:Bz,r.L=D.L->r.aS=D.aS->Ar r=da {st with ts:=w,next:=z}->r.T=(λ_=>Gd (aH st))->cM r=CY st/\OU r<=c/\FD r=st.fr:=λr bF bG ag bj=>by
   have az:=AFY bF bG (by rw[ag];exact L.aZ.symm);have ch:FD r=st.fr:=by unfold FD;rw[az];exact L.fr.symm
   have eU:=L.cw;have eW:=l.ck;refine⟨?_,?_,ch⟩
   ·unfold cM;rw[ch,ag,bj];rcases O with⟨rfl,rfl,f,_⟩|⟨rfl,rfl,_,_⟩
    ·exact ACQ u.gr f
    ·exact Wq u.gr
   ·unfold OU;rw[az,ag,bj];rcases O with⟨rfl,rfl,f,_⟩|⟨rfl,rfl,_,_⟩
    ·show 0+(Ih D).flatten.length<=c;omega
    ·show((Gd (aH st)).length+0)+(Ih D).flatten.length<=c;omega
  have ci: ∀ {ar:bT},(∀ n,ar (ba n)≠none->ff y (ba n)≠none)-> ∀n,ar (ba n)≠none->n<8*(aJ+1)+8:=λbI n o=>by
   by_cases e:n=st.next
   ·omega
   ·have f:=bI n o;rw[Y _ λaR=>e (Jh aR)] at f;have:=L.fP l f;omega
  have cj: ∀(r:Bz) (ar:bT),BH ar r->r.L=D.L->r.aS=D.aS->r.bd<=max D.bd (st.aM+1)->Ar r=da {st with ts:=w,next:=z}->r.T=(λ_=>Gd (aH st))->(∀ n,ar (ba n)≠none->ff y (ba n)≠none)->Rec ar (aJ+1) c (CY st):=λr ar f bF bG o ag bj bI=>by
   obtain⟨aS,aT,_⟩:=cg r bF bG ag bj;have:=l.aS;have:=l.bd;have:=L.fy;have:=l.az;refine⟨r,f,⟨by omega,by omega,?_,?_,?_,aT,ci bI⟩,aS⟩
   ·rw[ag];show z<=_;omega
   ·rw[ag];show st.aZ<=_;omega
   ·rw[ag];rcases O with⟨rfl,_⟩|⟨rfl,_⟩<;>simp[da]
  rw[<- bh];have dn:aY y.files+1000000<=8000000000000:=by have f:=B.wt (a:=aJ+1) hA;have H:=B.step (d:=8400*B.C+1100001+1000000) a8 (w':=aY y.files+1000000) (by omega) (by omega);omega
  refine ALo (T:=λ_=>Gd (aH st)) bt aq bE.up dk dl dm ⟨L.aM,by show st.aM+2<=_;omega⟩ (λn aU aV=>by rw[dj _ λk=>Qw n k];exact L.jQ n aU aV) dn
   (λbJ aW bK ah dp dq bk dr ds Z bL=>⟨_,rfl,af.yes rfl ?_⟩) λaW bK ck ah D3 dt bM cl au bN bO bP cm Z du bL bk cn=>⟨_,rfl,af.no rfl ?_⟩
  ·refine Jn aq dp (bk.aj λc _ b=>b.imp id .inr) dr λco dv dw dx dy=>⟨_,rfl,?_⟩
   have dz:Mod (λc=>k c≠0) h co:=bi.then (dx.aj λc _ b=>aQ c b);have bm:aY ah.files<=B.W0+(aJ+1)*B.K:=B.step2 a8 cf bL;refine bu co ah ⟨λF=>bJ (bE.calm F),by rw[<- bh];exact dv,⟨bK,by rw[<- az];exact dw,λc b=>?_⟩,dq,dz,λE Q=>?_,bm⟩ λG aX=>?_
   ·rcases dy c b with f|f
    ·exact aQ c f
    ·exact .inr (by have:=bi.size;omega)
   ·rw[Z E λn=>lP Q n,Y E (RV Q _)]
   ·obtain⟨r,cp,nx⟩:=ds G aX;have cq: ∀n,G (ba n)≠none->ff y (ba n)≠none:=λn o=>by
     have:=aX.some o;rwa [Z _ λj e=>Qw j n e.symm] at this
    rcases nx.last with⟨aj,bn⟩|⟨aj,bn⟩
    ·obtain⟨aS,aT⟩:=AHg nx.L nx.aS aj bn;have:=l.aS;have:=l.bd;have:=L.fy;have:=l.az;have:=L.next;have dA:=nx.bd;have bR:({st with ts:=w,next:=z}:Db).aM=st.aM:=rfl;rw[bR] at dA;exact⟨r,cp,⟨by rw[nx.aS];omega,by omega,by rw[aj];omega,by rw[aj,L.aZ];omega,by rw[aj,L.iV];omega,by rw[aT];exact l.ck,ci cq⟩,by rw[aS];exact L.map⟩
    ·exact cj r G cp nx.L nx.aS nx.bd aj bn cq
  ·
   have bm: ∀ {cr},cr<=aY ah.files->cr<=B.W0+(aJ+1)*B.K:=λdB=>B.step2 a8 cf (As dB bL)
   have dC:View GV aW q.np (eV st):=di.mod bk λc b e=>by
    have f:=bc c b;rcases e with e|e
    ·rw[aq.kb c e] at f;cases f
    ·rw[e,aq.kn] at f;cases f
   have dD: ∀c,q.np.ag=some c->c<F.size:=λc b=>(aq.own c (by rw[bc c b];decide)).2
   have eX:q.np.len=st.ts.length:=by rw[u.names.len];simp
   have dE:Mod (λc=>k c≠0) h aW:=bi.then (bk.aj λc _ b=>by
    rcases b with b|b
    ·exact aQ c (by rw[aq.kb c b];decide)
    ·exact aQ c (by rw[b,aq.kn];decide))
   have dF: ∀c,ck c≠0->k c≠0\/h.size<=c:=λc b=>by
    by_cases ac:c<F.size
    ·rw[cn c ac] at b;exact aQ c b
    ·exact .inr (by have:=bi.size;omega)
   have dG: ∀n,(∃ p∈st.ts,p.1=n)->(ff ah (ba n)).isSome=true/\n≠st.next:=λn o=>by
    obtain⟨p,W,rfl⟩:=o;have ac:=L.below p W;have ak:p.1≠st.next:=by omega
    have f:=(L.ok.cW p.1 (by rw[L.names];exact List.mem_map.2 ⟨p,W,rfl⟩)).1;rw[Z _ λj e=>Qw j _ e.symm,Y _ λe=>ak (Jh e),f];exact⟨rfl,ak⟩
   have dH:=L.nd;obtain⟨aS,aT,dI⟩:=cg D3 bO bP au bN;have eY:bM.up=bM.up:=rfl;refine Loop.rule (λaK x J=> ∃(i:Nat) (bo:Nat->Prop) (a0:Nat->Nat) (C:Bx),x=((i:Int),())/\aK=st.ts.length-i/\i<=st.ts.length/\bQ g J {ap with Sb:=bo} a0 {st with ts:=w,next:=z,aM:=st.aM+1} C/\IX m C/\aY C.files<=aY ah.files/\
     (∀ x,(∀ n∈(st.ts.map (·.1)).take i,x≠ba n)->ff C x=ff ah x)/\(∀ n∈(st.ts.map (·.1)).take i,ff C (ba n)=none)/\Mod (λc=>k c≠0) h J/\(∀ c,a0 c≠0->k c≠0\/h.size<=c)/\View GV J q.np (eV st)/\(∀ c,q.np.ag=some c->a0 c=7)) ?_
    ⟨0,bK,ck,ah,rfl,rfl,by omega,dt,bE.trans bM,A0 _,λx _=>rfl,by simp,dE,dF,dC,λc b=>by rw[cn c (dD c b)];exact bc c b⟩
   rintro eZ aK _ J ⟨i,bo,a0,C,rfl,rfl,a9,al,a1,bS,U,bp,a2,a3,cs,bU⟩ dJ;dsimp only;refine af.intro (λI=>?_) (λI=>?_)
   ·have V:i<st.ts.length:=by have:=of_decide_eq_true I;omega
    have aN:st.ts[i]? =some st.ts[i]:=A2 V;have ct:(st.ts.map (·.1))[i]? =some st.ts[i].1:=by rw[BE,aN];rfl
    have cv:st.ts[i]∈st.ts:=AS V;have e0:=L.below _ cv;refine cs.idx (i:=i) (x:=(st.ts[i].1:Int)) (by rw[eV,BE,aN];rfl) λa _ dK=>AC.mk dK.int ?_
    refine aE (AY.mk (AL al.cell rfl) ?_);refine Qt (al.iC bt) (by omega) λbx N=>⟨_,rfl,⟨AL (al.on N).cell rfl,?_⟩⟩
    have bV:=al.on N;refine SX bV.box λb9 cw bW bq cx=>⟨_,rfl,?_⟩
    have dL:st.ts[i].1∉(st.ts.map (·.1)).take i:=λv=>by
     obtain⟨j,a4,e⟩:=CC v;have e1:j<i:=by have:=a4;simp at this;omega
     rw[List.getElem_take] at e;have f:=(List.getElem?_eq_some_iff.1 ct);have H:=(Ln (h₀:=by simp;omega) (h₁:=f.1) dH).1 (e.trans f.2.symm);omega
    have dM:(ff C (ba st.ts[i].1)).isSome=true:=by rw[U _ λn o e=>dL (by rw[Jh e];exact o)];exact(dG _ ⟨_,cv,rfl⟩).1
    have bX:(st.ts.map (·.1)).take (i+1)=(st.ts.map (·.1)).take i++ [st.ts[i].1]:=by rw[Ax,ct];rfl
    have dN:Mod (λc=>k c≠0) h b9:=a2.then (((Ext.mod N).trans bq).aj λc _ b=>a3 c (by rw[al.kb c b];decide));rcases N8 (k:=ba st.ts[i].1) a1.up dM with⟨dO,bY⟩|⟨bY,dP,cy⟩
    ·rw[bY] at bW ⊢;refine af.yes rfl ?_;refine Jn (q:= {ap with Sb:=bo}) bV bW (bq.aj λc _ b=> .inl b) (λc b=> .inl (cx c b)) λcB dQ dR dS dT=>⟨_,rfl,?_⟩
     have dU:Mod (λc=>k c≠0) h cB:=(a2.trans (Ext.mod N)).then (dS.aj λc _ b=>a3 c b);have dV: ∀n,ff C (ba n)≠none->ff y (ba n)≠none:=λn o=>by
      by_cases v:n∈(st.ts.map (·.1)).take i
      ·exact absurd (bp n v) o
      ·rw[U _ λj a4 e=>v (by rw[Jh e];exact a4),Z _ λj e=>Qw j n e.symm] at o;exact o
     have bZ:BH (ff C) D3:=cl.gu λx aA=>U x λn o e=>aA n (by
      rw[au];intro v;rcases O with⟨rfl,_⟩|⟨rfl,_⟩
      ·simp[da] at v
      ·have:n=st.next:=by simpa [da] using v
       have cC:n∈st.ts.map (·.1):=C2 o;rw[this] at cC;exact be cC) e
     refine bu cB (LQ C) ⟨(λF=>by have:=a1.calm F;rw[dO] at this;cases this),by rw[<- bh];exact dQ,⟨cw,by rw[<- az];exact dR,λc b=>?_⟩,rfl,dU,λE Q=>?_,bm bS⟩ λG aX=>?_
     ·rcases dT c b with f|f
      ·exact a3 c f
      ·exact .inr (by have:=(a2.trans (Ext.mod N)).size;omega)
     ·rw[pK,U E λn _=>RV Q n,Z E λn=>lP Q n,Y E (RV Q _)]
     ·exact cj D3 G (bZ.dj aX) bO bP cm au bN λn o=>dV n (aX.some o)
    ·rw[bY];refine af.no rfl ?_;have dW:=bV.boxed (j:=2) (bH:= {st with ts:=w,next:=z,aM:=st.aM+1}) bW (bq.aj λc _ b=> .inl b) (λc b=> .inl (cx c b)) rfl rfl rfl rfl (.inl ⟨by decide,rfl,rfl⟩) (.inl ⟨by decide,rfl⟩);have dX:=Vi (m:=C) (ba st.ts[i].1);rw[Aa (by omega)];refine dJ (st.ts.length-(i+1)) _ _ (by omega) ⟨i+1,cw,_,_,rfl,rfl,V,dW,a1.trans dP,As dX bS,λx aA=>?_,λn o=>?_,dN,λc b=>?_,?_,λc b=>?_⟩
     ·rw[cy,if_neg (aA _ (by rw[bX];simp))];exact U x λn o=>aA n (by rw[bX];exact List.mem_append.2 (.inl o))
     ·rw[cy];split
      ·rfl
      ·rename_i ak;rw[bX] at o;rcases List.mem_append.1 o with o|o
       ·exact bp n o
       ·exact absurd (by rw[List.mem_singleton.1 o]) ak
     ·by_cases ac:c<bx.size
      ·rw[Ga ac] at b;exact a3 c b
      ·exact .inr (by have:=(a2.trans (Ext.mod N)).size;omega)
     ·exact(cs.ext N).mod bq λc b e=>by
       have f:=bU c b;rw[al.kb c e] at f;cases f
     ·have ac:c<bx.size:=by have:=(al.own c (by rw[bU c b];decide)).2;have:=N.size;omega
      rw[Ga ac];exact bU c b
   ·have V:i=st.ts.length:=by have: ¬(i:Int)<((q.np.len:Nat):Int):=of_decide_eq_false I;omega
    subst V;rw[AE (by simp)] at U bp;have dY: ∀n,ff C (ba n)≠none->n=st.next/\ff y (ba n)≠none:=λn o=>by
     by_cases v:n∈st.ts.map (·.1)
     ·exact absurd (bp n v) o
     ·rw[U _ λj a4 e=>v (by rw[Jh e];exact a4),Z _ λj e=>Qw j n e.symm] at o;refine⟨?_,o⟩;by_cases e:n=st.next
      ·exact e
      ·rw[Y _ λaR=>e (Jh aR)] at o;exact absurd (L.clean n o) v
    have cD: ∀n,ff C (aD nl n)=ff m (aD nl n):=λn=>by
     rw[U _ λj _=>MI n j,Z _ λj=>Wl n j,Y _ (MI n _)]
    have bZ:BH (ff C) D3:=cl.gu λx aA=>U x λn o e=>aA n (by
     rw[au];intro v;rcases O with⟨rfl,_⟩|⟨rfl,_⟩
     ·simp[da] at v
     ·have:n=st.next:=by simpa [da] using v
      rw[this] at o;exact be o) e
    have dZ: ∀p∈w,D3.T p.1=p.2:=λp W=>by
     rw[bN];rcases O with⟨rfl,_⟩|⟨rfl,_⟩
     ·cases W
     ·rw[List.mem_singleton.1 W]
    have d0: ∀p∈w,p.1<z:=λp W=>by
     rcases O with⟨rfl,_⟩|⟨rfl,rfl,_⟩
     ·cases W
     ·rw[List.mem_singleton.1 W];exact Hj _
    have d1: ∀n,ff C (ba n)≠none->n∈w.map (·.1):=λn o=>by
     obtain⟨e,H⟩:=dY n o;rcases O with⟨rfl,_,_,aW⟩|⟨rfl,_⟩
     ·rw[e] at H;exact absurd aW H
     ·simp[e]
    have cE:Ee (ff C) {st with ts:=w,next:=z,aM:=st.aM+1} D3:=
     ⟨bZ,by rw[au];rfl,dZ,by rw[au];rfl,by rw[au];exact A0 _,d0,dI.symm,λn aU aV ak=>by rw[cD];exact L.gU n aU aV ak,λv=>by rw[cD,bO];exact L.jR v,
      λn aU aV=>by rw[U _ λj _=>Qw n j];exact du n aU aV,L.fy,by show 1<=st.aM+1;omega,d1⟩
    have d2:TY {st with ts:=w,next:=z,aM:=st.aM+1} D3 (aJ+1) c:=by
     have:=l.az;have:=l.aS;have:=l.bd;have bR:({st with ts:=w,next:=z}:Db).aM=st.aM:=rfl;rw[bR] at cm;refine⟨by show st.az<=_;omega,by show st.aM+1<=_;omega,?_,?_,aT,by rw[bP];omega,by omega⟩
     ·show z<=_;omega
     ·show w.length<=_;rcases O with⟨rfl,_⟩|⟨rfl,_⟩<;>simp
    refine b3 J {ap with Sb:=bo} a0 _ C D3 bh az ⟨al,a1.up,cE,d2,bm bS,b⟩ a1 rfl ?_ ?_ (λE Q=>?_) a2 a3
    ·rw[<- aS];exact cE.map.symm
    ·show w.length<=1;rcases O with⟨rfl,_⟩|⟨rfl,_⟩<;>simp
    ·rw[U E λn _=>RV Q n,Z E λn=>lP Q n,Y E (RV Q _)]
 refine af.intro (λI=>?_) (λI=>?_)
 ·have ak:Gd (aH st)≠ []:=λe=>by
   have f:=of_decide_eq_true I;have H:=ax.len;rw[e] at H;simp at H;omega
  have br:=APU (B:=B) u L l b ak;have e2:=ALw br;refine aE (AC.mk (AB an.cell rfl) ?_);have d3:View BO X bB (Gd (aH st)):=ax.view.mod aP λc b e=>by have:=c7 c b;have:=u.iB;have:=(aL.trans ca).size;have:=cb.size;omega
  have e3:(Js (Gd (aH st))).length<=8400*B.C+1100000:=by omega
  refine APS (q:= {q with tp:=⟨none,0,0⟩,np:=⟨none,0,0⟩,ps:= []}) (n:=st.next) bt an hd br d3 (λc b=>by have:=ax.lt b;have:=aP.size;omega) (by omega) cd (by omega) (λbJ av cF aC d4 d5 a5 d6 aF d7=>⟨_,_,rfl,af.yes rfl ?_⟩) λav cF cG aC t bw a9 b0 d8 aF d7 cH e4 e5 cI a5 cJ=>⟨_,_,rfl,af.no rfl ?_⟩
  ·refine Jn (q:= {q with tp:=⟨none,0,0⟩,np:=⟨none,0,0⟩,ps:= []}) an d4 (a5.aj λc _ b=> .inl b) d6 λaw d9 ea eb ec=>⟨_,rfl,?_⟩
   have ed:BH (ff aC) D/\jB (ff aC) (aJ+1) c (CY st):=by
    refine L.jS (l.mono (BY _) (A0 _)) (λx J=>aF x (J _ be)) λn o=>?_
    by_cases e:n=st.next
    ·omega
    ·rw[aF _ λaR=>e (Jh aR)] at o;have:=L.fP l o;omega
   have ee:aY aC.files<=aY m.files+(8400*B.C+1100001):=by omega
   exact bu aw aC ⟨bJ,d9,⟨cF,ea,λc b=>(ec c b).imp id λh=>by have:=ay.size;omega⟩,d5,ay.then (eb.aj λc _ b=> .inl b),λE Q=>aF E (RV Q _),B.step2 a8 ee (HD _ _)⟩ ed.2
  ·refine ao.mk λaw _ ef a6 e6=>?_
   have bs:=b0.on a6;refine aE (AC.mk (AB bs.cell rfl) (ao.mk λeg _ eh a7 e7=>?_));have cK:=bs.on a7;refine aE (ae.dy cK.cell (by simp) λe8 ei ej e9=>aE (ae.dy ei (by simp) λfa cL ek fb=>?_));refine aE (AC.mk (AB cL rfl) (aE (ae.dy cL (by simp) λam cN el fc=>?_)));have en:J8 J9 (((st.next:Nat):Int)+(1:Int))=((st.next+1:Nat):Int):=Aa (by omega);have aG:Mod (· =q.d) eg am:=(ej.trans ek).trans el;have eo:am[av.size]? =some (J2 #[Ak t] BJ (0,0)):=aG.ag (a7.ag ef λh=>h) (by have:=b0.iB;show ¬_=q.d;have e:(q.d:Nat)<av.size:=this;omega);have ep:am[aw.size]? =some (J2 #[J6 J9 (st.next:Int)] Bp (0,0)):=aG.ag eh (by have:=bs.iB;have e:(q.d:Nat)<aw.size:=this;show ¬_=q.d;omega);have eq:Own gb BJ am ⟨some ⟨av.size,0,none⟩,1,1⟩ [t]:=Own.lit (l:= [t]) eo rfl (by simp[maxLen]);have on:Own GV Bp am ⟨some ⟨aw.size,0,none⟩,1,1⟩ (([(st.next,Gd (aH st))]:List (Nat×List Pr)).map λp=>(p.1:Int)):=Own.lit (l:= [((st.next:Nat):Int)]) ep rfl (by simp[maxLen]);have fd:=a5.size;have cO: ∀c,av.size<=c->cG c=0:=λc b=>cI c (by have:=cH.fP;omega)
   have er:=cK.fG (h':=am) (tp:=⟨some ⟨av.size,0,none⟩,1,1⟩) (np:=⟨some ⟨aw.size,0,none⟩,1,1⟩) (ps:= [t]) (ts:= [(st.next,Gd (aH st))]) (next:=st.next+1) (aZ:=st.aZ) (S:=λc=>bw<=c/\c<a9)
    (by rw[en] at cN;simpa [eT] using cN) (aG.aj λc _ b=> .inl b) eq on rfl
    (λc b=> .inr (by
     have e:av.size=c:=by simpa [Sl.ag] using b
     subst e;have b1:=b0.ext.size;refine⟨cO _ (A0 _),b1,by simp[Sl.ag];omega,by omega⟩))
    (λc b=> .inr (by
     have e:aw.size=c:=by simpa [Sl.ag] using b
     subst e;have b1:=bs.ext.size;refine⟨cO _ (by omega),b1,by simp[Sl.ag];omega,by omega⟩))
    (λc b=>⟨by have:=an.ext.size;omega,by omega⟩)
    (λi t' p f H=>by
     have es:i=0:=by have:=(List.getElem?_eq_some_iff.1 f).1;simpa using this
     subst es;simp only[HA,BT] at f H;subst f H;refine .inr ⟨bw,a9,(cH.ext (a6.trans a7)).mod aG (λc c1 c2 e=>?_),by omega,λc c1 c2=>⟨⟨c1,c2⟩,cI c c1⟩,br⟩;have:=an.iB;have bn:(q.d:Nat)<X.size:=this;omega)
   have et:Mod (λc=>k c≠0) h am:=by
    refine(ay.trans ((a5.aj λc _ b=>?_))).trans ((Ext.mod (a6.trans a7)).trans (aG.aj λc _ b=>?_))
    ·rw[u.kb c b];decide
    ·rw[b,u.kd];decide
   have b2: ∀c,q.np.ag=some c->c<X.size/\k c=7:=λc b=>⟨by have:=u.names.lt b;have:=ay.size;omega,u.kx c b⟩
   refine ce am _ _ aC (st.next+1) _ er rfl rfl d8 (λx J=>by rw[aF,if_neg J]) (.inr ⟨rfl,rfl,by rw[aF,if_pos rfl],br⟩) (by omega) et (λc b=>?_) ?_ λc b=>?_
   ·by_cases ac:c<h.size
    ·left;intro eu;have cP:c<X.size:=by have:=ay.size;omega
     have aj:cG c=0:=by rw[cJ c cP];exact eu
     have fe:=cP;apply b;unfold Lm;rw[if_neg (by simp[aj]),if_neg (by simp[Sl.ag];omega),if_neg (by simp[Sl.ag];have:=a6.size;omega),if_neg (by omega)]
    ·exact .inr (by omega)
   ·refine((cc.mod a5 λc b e=>?_).ext (a6.trans a7)).mod aG λc b e=>?_
    ·have:=(b2 c b).2;rw[u.kb c e] at this;cases this
    ·have:=(b2 c b).2;rw[e,u.kd] at this;cases this
   ·obtain⟨f,H⟩:=b2 c b;unfold Lm;rw[cJ c f,H];rfl
 ·have ev:Gd (aH st)= []:=by have f:=of_decide_eq_false I;have H:=ax.len;exact DA (by omega)
  refine ce X _ k m st.next [] an rfl rfl (IX.refl hd) (λx _=>rfl) (.inl ⟨rfl,rfl,ev,cd⟩) (by omega) ay (λc b=> .inl b) cc λc b=>u.kx c b
end
section
variable {A : ak} {B : bV} {g h : aa} {q : Hp} {k : Nat -> Nat} {st : Db} {m : Bx} {D : Bz} {aJ c : Nat} {R : A2H}
theorem Ee.tG {d:bT}(L:Ee d st D)(l:TY st D aJ c)(hA:aJ<=100000){a:Nat}(e:st.az<a):D.L a= []:=by
 by_cases b:a<=99999999
 ·exact L.ok.jT b (L.gU a (by omega) b λ_=>by omega)
 ·exact L.ok.gV (.inr (by have:=l.aS;omega))
theorem AMp {F:bT}{made:Bool}{m:Bx}{s:Nat}(hd:m.down=false)(d:made=true-> ∃b,ff m (aD nl s)=some (b,bg)):(m.fuel=0/\NL m (aD nl s) made=(30,LQ m))\/((NL m (aD nl s) made).1=0/\IX m (NL m (aD nl s) made).2/\ ∀x,ff (NL m (aD nl s) made).2 x=ff m x):=by
 cases made with
 |false=>exact .inr ⟨rfl,IX.refl hd,λx=>rfl⟩
 |true=>
  obtain⟨b,e⟩:=d rfl;rcases MF hd e with a|⟨a,f,i⟩
  ·exact .inl a
  ·refine .inr ⟨a,f,λx=>?_⟩;show ff (G8 m (aD nl s)).2 x=_
   simp_all [OY]
theorem AOB {m:Bx}(g:Es m)(k:A2I)(a:Bool):aY (NL m k a).2.files<=aY m.files:=by
 cases a with
 |false=>exact A0 _
 |true=>exact YZ g k
theorem AQp {a b x:Nat}(d:b<=a+x):b+1000000<=a+(x+1000000):=by omega
theorem AOU(a:Nat):8400*a+1100001+1000000<=20000*a+10000000:=by omega
theorem APi(aW:cu g)(S:Bt B g h q k st m D aJ c)(hA:aJ+2<=B.A)
  (bf: ∀h' ap,kQ B h h' q k m ap (aJ+2)->jB (ff ap) (aJ+2) c (CY st)->R (J6 J9 30) h')
  (b9: ∀h' bh bI bH ap r,bh.d=q.d->bh.b=q.b->Bt B g h' bh bI bH ap r (aJ+2) c->IX m ap->bH.fr= []->CY bH=CY st->(bH.ts.length<=3\/bH.ts.length=st.ts.length)->(∀ v,¬cz v->ff ap v=ff m v)->Mod (λc=>k c≠0) h h'->(∀ c,bI c≠0->k c≠0\/h.size<=c)->R (J6 J9 0) h'):
  AA A P PI #[Ak q.d] h R:=by
 have dQ:=S;obtain⟨V,hd,L,l,aX,b⟩:=S;have fR:=B.hA;have dR:=B.hC;have dS:=B.wt (a:=aJ) (by omega);have dT:=L.dB l;have fS:=l.next;have fT:=l.aM;have fU:=l.az;have fV:=l.aS;have fW:=l.bd;have fX:=L.fy;have fY:=l.cw;have dU:=L.jj l;have a0:st.next∉st.ts.map (·.1):=λca=>by
  obtain⟨p,ak,e⟩:=List.mem_map.1 ca;have:=L.below p ak;omega
 refine ABo ?_;unfold UQ;refine ai.mk λK dV=>Zm V (dV _ _ (af.no rfl ?_))
 refine aE (AY.mk (AB V.cell rfl) ?_);refine M.tH V.fresh ⟨_,_,rfl,?_⟩;refine af.intro (λbJ=>?_) (λbJ=>?_)
 ·have o:st.fr= []:=DA (by have:((st.fr.length:Nat):Int)=0:=(by simpa using bJ);omega);exact b9 h q k st m D rfl rfl (dQ.aJ (by omega)) (IX.refl hd) o rfl (.inr rfl) (λ_ _=>rfl) Mod.refl (λc b=> .inl b)
 have dW:st.fr≠ []:=λe=>by
  rw[e] at bJ;cases bJ
 have bK:Hg st.fr:=⟨dW,λx E=>pE (V.fresh.aO x E),V.fresh.sorted,by omega⟩;have fZ:=ALw bK;have dX:(Js st.fr).length<=8400*B.C+1100000:=by omega
 refine aE (AC.mk (AB V.cell rfl) (aE (AY.mk (AB V.cell rfl) ?_)));refine M.tI V.fresh λfv w cT cU cV=>⟨_,rfl,⟨AB (V.on cU).cell rfl,?_⟩⟩
 rw[M.tD] at cT;refine M.XI cT (λ_ _=>rfl) (by omega) λcb Y cW f0 dY=>⟨cb,rfl,?_⟩
 have bL:=cU.trans dY;have bM:=V.on bL;have f1:=bL.size;refine⟨AB bM.cell rfl,?_⟩;refine APS (n:=st.next) aW bM hd bK cW.view (λc b=>cW.lt b) (by omega) dU (ASo dX aX dS dR) (λbi ax ay ac dZ d0 bN d1 a1 d2=>⟨_,_,rfl,af.yes rfl ?_⟩) λax ay bO ac t aL aN al cc a1 d2 cX f2 f3 cY bN bP=>⟨_,_,rfl,af.no rfl ?_⟩
 ·refine Jn bM dZ (bN.aj λc _ b=> .inl b) d1 λd3 d4 d5 d6 d7=>⟨_,rfl,?_⟩
  have cd:=L.jS (F':=ff ac) (l.mono (HD aJ 2) (A0 _)) (λx E=>a1 x (E _ a0)) λn u=>by
   by_cases e:n=st.next
   ·omega
   ·rw[a1 _ λaO=>e (Jh aO)] at u;have:=L.fP l u;omega
  have bj:aY ac.files<=aY m.files+(8400*B.C+1100001):=by omega
  have H:=B.step2 aX bj (HD _ _);exact bf d3 ac ⟨bi,d4,⟨ay,d5,λc b=>(d7 c b).imp id λh=>by omega⟩,d0,(Ext.mod bL).trans d6,λv I=>a1 v (RV I _),As H (Hi (AK _ (BY _)) _)⟩ cd.2
 have f4:=bN.size;have f5:=cX.fP;have cZ:Mod (λc=>k c≠0) h ax:=(Ext.mod bL).trans (bN.aj λc _ b=>by rw[V.kb c b];decide);have bk: ∀x,x≠ba st.next->ff ac x=ff m x:=λx E=>by rw[a1,if_neg E]
 have c0:aY ac.files<=aY m.files+(8400*B.C+1100001):=by omega
 have d8: ∀n,ff ac (aD nl n)=ff m (aD nl n):=λn=>bk _ (MI n _)
 have c3: ∀ {F':bT},(∀ n,F' (ba n)≠none->ff ac (ba n)≠none)-> ∀n,F' (ba n)≠none->n<8*(aJ+1)+8:=λag n u=>by
  by_cases e:n=st.next
  ·omega
  ·have o:=ag n u;rw[bk _ λaO=>e (Jh aO)] at o;have:=L.fP l o;omega
 refine aE (AY.mk (AB al.cell rfl) ?_);have c4:=AMp (F:=ff m) (made:=st.bB) (s:=st.az) cc.up λca=>⟨_,by rw[d8];exact L.jR ca⟩
 refine XT (al.iC aW) al.log al.box al.mf (by decide) (by omega) (λd9 J bR c5 a2=>⟨_,_,rfl,?_⟩) λc6 J bR c5 a2=>⟨_,_,rfl,?_⟩
 ·rcases c4 with⟨c7,a3⟩|⟨a3,_,_⟩
  ·rw[a3] at bR ⊢;refine af.yes rfl ?_;refine Jn (q:= {q with Sb:=ay}) al bR (a2.aj λc _ b=> .inl b) (λc b=> .inl b) λea eb ec ed ee=>⟨_,rfl,?_⟩
   have cd:=L.jS (F':=ff (LQ ac)) (l.mono (HD aJ 2) (A0 _)) (λx E=>bk x (E _ a0)) λn u=>by
    have:=c3 (F':=ff (LQ ac)) (λn u=>u) n u;omega
   have H:=B.step2 aX c0 (HD _ _);refine bf ea (LQ ac) ⟨(λz=>by have:=cc.calm z;rw[c7] at this;cases this),eb,⟨ay,ec,λc b=>?_⟩,rfl,cZ.then (ed.aj λc _ b=>?_),λv I=>bk v (RV I _),As H (Hi (AK _ (BY _)) _)⟩ cd.2
   ·rcases ee c b with o|o
    ·by_cases Z:c<Y.size
     ·rw[bP c Z] at o;exact .inl o
     ·exact .inr (by omega)
    ·exact .inr (by omega)
   ·by_cases Z:c<Y.size
    ·rw[bP c Z] at b;exact .inl b
    ·exact .inr (by omega)
  ·exact absurd a3 d9
 refine af.no rfl ?_;rcases c4 with⟨c7,a3⟩|⟨a3,ef,eg⟩
 ·rw[a3] at c6;cases c6
 have eh:=AOB al.box.aO (aD nl st.az) st.bB;have ah:=al.boxed (j:=3) (bH:= {st with az:=st.az+1,bB:=false}) bR (a2.aj λc _ b=>b.imp id λh=> .inl ⟨rfl,h⟩) (λc b=> .inl b) rfl rfl rfl rfl (.inr c5) (.inl ⟨by decide,rfl⟩);generalize (NL ac (aD nl st.az) st.bB).2=ab at*
 have f6:=a2.size;have c8: ∀c,c<ax.size->IZ bO ax.size ay 2 c=bO c:=λc b=>Ga b
 generalize IZ bO ax.size ay 2=aq at*
 have ei:Mod (λc=>k c≠0) h J:=cZ.then (a2.aj λc _ b=>by
  have o:bO c≠0:=by
   rcases b with b|b
   ·rw[al.kb c b];decide
   ·rw[b,al.kl];decide
  by_cases Z:c<Y.size
  ·rw[bP c Z] at o;exact .inl o
  ·exact .inr (by omega))
 have ce: ∀c,aq c≠0->k c≠0\/h.size<=c:=λc b=>by
  by_cases Z:c<Y.size
  ·rw[c8 c (by omega),bP c Z] at b;exact .inl b
  ·exact .inr (by omega)
 have cf: ∀c,J.size<=c->aq c=0:=λc b=>Decidable.byContradiction λh=>by
  have:=(ah.own c h).2;omega
 have cg: ∀c,aL<=c->c<aN->aq c=0:=λc c1 c2=>by rw[c8 c (by omega)];exact cY c c1
 have ch: ∀x,ff ab x=ff ac x:=eg;have a4: ∀x,x≠ba st.next->ff ab x=ff m x:=λx E=>(ch x).trans (bk x E)
 have ej:ff ab (ba st.next)=some (AX (Js st.fr),bg):=by rw[ch,a1,if_pos rfl]
 have ci:IX m ab:=cc.trans ef;have bj:aY ab.files<=aY m.files+(8400*B.C+1100001):=As eh c0;have ek:BH (ff ab) D:=L.ok.gu λx E=>a4 x (E st.next (by rw[L.names];exact a0))
 have c9: ∀ {F':bT},(∀ n,F' (ba n)≠none->ff ab (ba n)≠none)-> ∀n,F' (ba n)≠none->n<8*(aJ+1)+8:=λag n u=>c3 (F':=ff ab) (λn u=>by rw[<- ch];exact u) n (ag n u)
 have el: ∀(z:aa) (y:Hp) (cj:Nat->Nat),bQ g z y cj {st with ts:=(st.next,st.fr)::st.ts,next:=st.next+1,aZ:=st.az+1,az:=st.az+1,bB:=false} ab->y.d=q.d->y.b=q.b->Mod (λc=>k c≠0) h z->(∀ c,cj c≠0->k c≠0\/h.size<=c)->
   AA A P KJ #[Ak y.d] z λen db=> ∃ck:Int,en=J6 J9 ck/\(
         af (ck != (0:Int)) (
          AA A P Co #[Ak y.d,J6 J9 ck] db λeo ep=> ∃dc:Int,eo=J6 J9 dc/\(
          R (J6 J9 dc) ep)) (
          AA A P Qn #[] db λeq dd=> ∃de:Q2,eq=J5 de/\(
          At (some (⟨y.d,0,none⟩:Q6)) λer=>
          ae dd (er.add 3) (J5 de) λar=>
          At (some (⟨y.d,0,none⟩:Q6)) λes=>
          AY ar (es.add 1) λet=>
          AA A P Jd #[J5 et,J6 J9 (st.az:Int)] ar λeu av=> ∃cl:Int,eu=J6 J9 cl/\(
          af (cl != (0:Int)) (
           AA A P Co #[Ak y.d,J6 J9 cl] av λev cm=> ∃df:Int,ev=J6 J9 df/\(
           R (J6 J9 df) cm)) (
           At (some (⟨y.d,0,none⟩:Q6)) λew=>
           Ad av (ew.add 4) λex=>
           af (decide (((ex.len:Nat):Int)>=(4:Int))) (
            AA A P Jp #[Ak y.d] av λey ez=> ∃dg:Int,ey=J6 J9 dg/\(
            R (J6 J9 dg) ez)) (
            R (J6 J9 0) av)))))):=by
  intro z y cj bm bn aA bS a5;have eA:iv (da {st with ts:=(st.next,st.fr)::st.ts,next:=st.next+1,aZ:=st.az+1,az:=st.az+1,bB:=false}):=by
   refine⟨by show st.next+1<=_;omega,by show 1<=st.az+1/\st.az+1<=_;omega,?_,λn u=>?_,?_⟩
   ·show((st.next,st.fr)::st.ts |>.map (·.1)).length<=_;simp;omega
   ·show n<st.next+1;rcases List.mem_cons.1 u with rfl|u
    ·exact Hj _
    ·obtain⟨p,ak,rfl⟩:=List.mem_map.1 u;have:=L.below p ak;omega
   ·exact List.nodup_cons.2 ⟨a0,L.nd⟩
  have eB: ∀n∈st.next::st.ts.map (·.1),ff ab (ba n)=some (AX (Js ((Kg D.T st.next st.fr) n)),bg)/\Hg ((Kg D.T st.next st.fr) n):=λn u=>by
   by_cases e:n=st.next
   ·subst e;rw[EM];exact⟨ej,bK⟩
   ·rw[GN e,a4 _ λaO=>e (Jh aO)];rcases List.mem_cons.1 u with o|o
    ·exact absurd o e
    ·exact L.ok.cW n (by rw[L.names];exact o)
  have dh: ∀r:Bz,r.T=Kg D.T st.next st.fr->(st.next::st.ts.map (·.1)).map r.T=st.fr::aH st:=λr bU=>by
   rw[BW,bU,EM];congr 1;rw[<- L.aH,L.names];refine CD λn u=>GN λe=>a0 (e▸u)
  have di: ∀r:Bz,r.L=D.L->r.aS=D.aS->Ar r=da {st with ts:=(st.next,st.fr)::st.ts,next:=st.next+1,aZ:=st.az+1,az:=st.az+1,bB:=false}->r.T=Kg D.T st.next st.fr->cM r=CY st/\OU r<=c/\FD r= []:=λr eC dj a6 bU=>by
   have aA:=ANN (f:=st.az+1) eC dj (by rw[a6];rfl) λn u=>L.tG l (by omega) (by omega)
   have dk:FD r= []:=by unfold FD;rw[aA];rfl
   have dl:(Ar r).names=st.next::st.ts.map (·.1):=by rw[a6];rfl
   refine⟨?_,?_,dk⟩
   ·unfold cM;rw[dk,dl,dh r bU];exact AHw V.gr
   ·unfold OU;rw[aA,dl];have C:((st.next::st.ts.map (·.1)).map λn=>(r.T n).length)=((st.next::st.ts.map (·.1)).map r.T).map List.length:=by rw[B9];rfl
    rw[C,dh r bU];have:((st.fr::aH st).map List.length).sum=st.fr.length+M.total (aH st):=by simp[M.total]
    rw[this];simpa using dT
  have dm: ∀(r:Bz) (F':bT),BH F' r->r.aS=D.aS->r.bd<=max D.bd (st.aM+1)->Ar r=da {st with ts:=(st.next,st.fr)::st.ts,next:=st.next+1,aZ:=st.az+1,az:=st.az+1,bB:=false}->cM r=CY st->OU r<=c->(∀ n,F' (ba n)≠none->ff ab (ba n)≠none)->Rec F' (aJ+1) c (CY st):=λr F' o dj u a6 eD eE ag=>by
   refine⟨r,o,⟨by omega,by omega,?_,?_,?_,eE,c9 ag⟩,eD⟩
   ·rw[a6];show st.next+1<=_;omega
   ·rw[a6];show st.az+1<=_;omega
   ·rw[a6];show((st.next,st.fr)::st.ts |>.map (·.1)).length<=_;simp;omega
  have eF:aY ab.files+1000000<=8000000000000:=by have o:=B.wt (a:=aJ+1) (by omega);have H:aY ab.files+1000000<=B.W0+(aJ+1)*B.K:=B.step (d:=8400*B.C+1100001+1000000) aX (AQp bj) (AOU B.C);exact As H o
  have dn: ∀ {dp:Nat},dp<=B.W0+(aJ+1)*B.K->dp<=B.W0+(aJ+2)*B.K:=λh=>As h (Hi (AK _ (BY _)) _)
  refine ALo (T:=Kg D.T st.next st.fr) aW bm ci.up ek eA eB ⟨L.aM,by show st.aM+2<=_;omega⟩ (λn W aj=>by rw[a4 _ (Qw n _)];exact L.jQ n W aj) eF
   (λbi w cn am eG eH bV cV eI a7 co=>⟨_,rfl,af.yes rfl ?_⟩) λw cn cp am D3 cq dq dr a8 ds eJ cr eK a7 eL co bV eM=>⟨_,rfl,af.no rfl ?_⟩
  ·refine Jn bm eG (bV.aj λc _ b=>b.imp id .inr) cV λY eN eO eP cb=>⟨_,rfl,?_⟩
   have eQ:Mod (λc=>k c≠0) h Y:=bS.then (eP.aj λc _ b=>a5 c b);refine bf Y am ⟨λz=>bi (ci.calm z),by rw[<- bn];exact eN,⟨cn,by rw[<- aA];exact eO,λc b=>?_⟩,eH,eQ,λv I=>?_,dn (B.step2 aX bj co)⟩ λG bo=>?_
   ·rcases cb c b with o|o
    ·exact a5 c o
    ·exact .inr (by have:=bS.size;omega)
   ·rw[a7 v λn=>lP I n,a4 v (RV I _)]
   ·obtain⟨r,dt,nx⟩:=eI G bo;have du: ∀n,G (ba n)≠none->ff ab (ba n)≠none:=λn u=>by
     have:=bo.some u;rwa [a7 _ λj e=>Qw j n e.symm] at this
    have bX:r.bd<=max D.bd (st.aM+1):=nx.bd;rcases nx.last with⟨an,C⟩|⟨an,C⟩
    ·obtain⟨bp,bY⟩:=AHg nx.L nx.aS an C;have:=L.next;have eR:Rec G (aJ+1) c (CY st):=⟨r,dt,⟨by rw[nx.aS];omega,by omega,by rw[an];omega,by rw[an,L.aZ];omega,by rw[an,L.iV];omega,by rw[bY];exact l.ck,c9 du⟩,by rw[bp];exact L.map⟩;exact eR.mono (BY _) (A0 _)
    ·obtain⟨bp,bY,_⟩:=di r nx.L nx.aS an C;exact(dm r G dt nx.aS bX an bp bY du).mono (BY _) (A0 _)
  ·obtain⟨bp,bY,eS⟩:=di D3 eJ cr a8 ds;have f7:=bV.size;have bX:D3.bd<=max D.bd (st.aM+1):=eK;have cs:aY am.files<=B.W0+(aJ+1)*B.K:=B.step2 aX bj co;have dv:IX m am:=ci.trans dq;have dw:Mod (λc=>k c≠0) h w:=bS.then (bV.aj λc _ b=>by
    rcases b with b|b
    ·exact a5 c (by rw[bm.kb c b];decide)
    ·exact a5 c (by rw[b,bm.kn];decide))
   have eU: ∀c,cp c≠0->k c≠0\/h.size<=c:=λc b=>by
    by_cases Z:c<z.size
    ·rw[eM c Z] at b;exact a5 c b
    ·exact .inr (by have:=bS.size;omega)
   refine M.tJ λdd eW ct f8=>⟨_,rfl,?_⟩
   have eX:=cq.on ct;refine aE (ae.dy eX.cell (by simp) λar eY cv f9=>?_);have eZ:M.dt ar w.size [] []:=eW.mod cv λc b e=>by
    have ga:c=w.size:=by
     rcases b with rfl|⟨x,E,_⟩
     ·rfl
     ·cases E
    have:=cq.iB;have C:(y.d:Nat)<w.size:=this;have gc:c=y.d:=e;omega
   have dx:Mod (λc=>c=w.size\/c=y.d) w ar:=(Ext.mod ct).trans (cv.aj λc _ b=> .inr b);have aw:=cq.renew (h':=ar) (gW:=w.size) eZ (A0 _) (by simpa [eT] using eY) (by
    refine⟨dx.size,λc b u=>?_⟩;exact dx.get c b (by rintro(h|h);omega;exact u h))
   have cw:Mod (λc=>k c≠0) h ar:=(dw.trans (Ext.mod ct)).then (cv.aj λc _ b=>by
    have e:c=y.d:=b;rw[e];exact a5 _ (by rw[bm.kd];decide))
   have bZ: ∀c,IZ cp w.size (· =w.size) 5 c≠0->k c≠0\/h.size<=c:=λc b=>by
    by_cases Z:c<w.size
    ·rw[Ga Z] at b;exact eU c b
    ·exact .inr (by have:=dw.size;omega)
   generalize IZ cp w.size (· =w.size) 5=dy at*
   refine aE (AY.mk (AB aw.cell rfl) ?_);have gd:=cw.size;have e0:aY am.files<=8000000000000:=As cs (B.wt (a:=aJ+1) (by omega));have cx: ∀x,x≠ba st.next->(∀ n,x≠aD nn n)->ff am x=ff m x:=λx o H=>(a7 x H).trans (a4 x o)
   have e1:(Ar D3).aZ=st.az+1:=by rw[a8];rfl
   have dz: ∀ {F':bT},(∀ x,F' x=ff am x\/(F' x=none/\ ∃n:Nat,1<=n/\n<=99999999/\n<=st.az/\x=aD nl n))->BH F' (Nv D3 F')/\cM (Nv D3 F')=CY st/\OU (Nv D3 F')<=c/\FD (Nv D3 F')= []:=λ{F'} ag=>by
    have o: ∀n,n<=99999999->F' (aD nl n)=ff am (aD nl n)\/(F' (aD nl n)=none/\n<(Ar D3).aZ):=λn aj=>by
     rcases ag (aD nl n) with o|⟨o,j,_,_,ge,e⟩
     ·exact .inl o
     ·refine .inr ⟨o,?_⟩;rw[e1,Iz e];omega
    have H:=APZ dr o λx E=>by
     rcases ag x with w|⟨_,j,_,e2,_,e⟩
     ·exact w
     ·exact absurd e (E j e2)
    have Y:=AJy dr o;have ax:FD (Nv D3 F')=FD D3:=by unfold FD;rw[Y]
    refine⟨H,?_,?_,by rw[ax];exact eS⟩
    ·rw[<- bp];unfold cM;rw[ax];rfl
    ·have:OU (Nv D3 F')=OU D3:=by unfold OU;rw[Y];rfl
     omega
   refine AF0 (aw.iC aW) (λh' x=>aw.gv aW (x.aj λc _ b=> .inl b)) aw.log aw.box dq.up aw.mf (by decide) e0 (λe3=>absurd e3 (by show ¬(st.az:Int)>=((st.az+1:Nat):Int);omega))
    (λbi av aP O cy e4 b0 cB cC bq=>⟨_,rfl,af.yes rfl ?_⟩) λ_ av aP O cy dA b0 cB cC bq dB=>⟨_,rfl,af.no rfl ?_⟩
   ·have ag: ∀x,ff O x=ff am x\/(ff O x=none/\ ∃n:Nat,1<=n/\n<=99999999/\n<=st.az/\x=aD nl n):=λx=>by
     rcases bq x with o|⟨o,n,W,aj,b1,e⟩
     ·exact .inl o
     ·exact .inr ⟨o,n,W,aj,by omega,e⟩
    obtain⟨cD,cE,cF,_⟩:=dz ag;refine Jn (q:= {y with Sb:=cn,ft:=w.size,ns:= []}) aw cy (b0.aj λc _ b=> .inl b) (λc b=> .inl (cB c b)) λcm e5 e6 e7 e8=>⟨_,rfl,?_⟩
    refine bf cm O ⟨λz=>bi (dv.calm z),by rw[<- bn];exact e5,⟨aP,by rw[<- aA];exact e6,λc b=>?_⟩,e4,cw.then (e7.aj λc _ b=>bZ c b),λv I=>?_,dn (As cC cs)⟩ λG bo=>?_
    ·rcases e8 c b with o|o
     ·exact bZ c o
     ·exact .inr (by omega)
    ·rcases bq v with o|⟨_,n,_,_,_,e⟩
     ·rw[o,cx v (RV I _) λn=>lP I n]
     ·exact absurd e (pD I n)
    ·refine(dm (Nv D3 (ff O)) G (cD.dj bo) cr bX a8 cE cF λn u=>?_).mono (BY _) (A0 _);have o:=bo.some u;rcases bq (ba n) with H|⟨_,j,_,_,_,e⟩
     ·rwa [H,a7 _ λj e=>Qw j n e.symm] at o
     ·exact absurd e.symm (MI j n)
   ·have ag: ∀x,ff O x=ff am x\/(ff O x=none/\ ∃n:Nat,1<=n/\n<=99999999/\n<=st.az/\x=aD nl n):=λx=>by
     by_cases E: ∃n:Nat,1<=n/\n<=99999999/\(n:Int)<=(st.az:Int)/\x=aD nl n
     ·obtain⟨n,W,aj,b1,rfl⟩:=E;exact .inr ⟨bq n W aj b1,n,W,aj,by omega,rfl⟩
     ·exact .inl (dB x λn W aj b1 e=>E ⟨n,W,aj,b1,e⟩)
    obtain⟨cD,cE,cF,e9⟩:=dz ag;have b2:=aw.boxed (j:=2) (bH:= {st with fr:= [],ts:=(st.next,st.fr)::st.ts,next:=st.next+1,aZ:=st.az+1,az:=st.az+1,aM:=st.aM+1,bB:=false}) cy (b0.aj λc _ b=> .inl b) (λc b=> .inl (cB c b)) rfl rfl rfl rfl (.inl ⟨by decide,rfl,rfl⟩) (.inl ⟨by decide,rfl⟩);have br:Mod (λc=>k c≠0) h av:=cw.then (b0.aj λc _ b=>bZ c (by rw[aw.kb c b];decide));have bs: ∀c,IZ dy ar.size aP 2 c≠0->k c≠0\/h.size<=c:=λc b=>by
     by_cases Z:c<ar.size
     ·rw[Ga Z] at b;exact bZ c b
     ·exact .inr (by omega)
    generalize IZ dy ar.size aP 2=dC at*
    have cG: ∀x,(∀ n,x≠aD nl n)->ff O x=ff am x:=λx E=>dB x λn _ _ _=>E n
    have fa: ∀p∈(st.next,st.fr)::st.ts,(Nv D3 (ff O)).T p.1=p.2:=λp ak=>by
     show D3.T p.1=p.2;rw[ds];rcases List.mem_cons.1 ak with rfl|ak
     ·exact EM
     ·rw[GN λe=>a0 (by rw[<- e];exact List.mem_map.2 ⟨p,ak,rfl⟩)];exact L.cy p ak
    have dD:Ee (ff O) {st with fr:= [],ts:=(st.next,st.fr)::st.ts,next:=st.next+1,aZ:=st.az+1,az:=st.az+1,aM:=st.aM+1,bB:=false} (Nv D3 (ff O)):=
     ⟨cD,congrArg Nt.names a8,fa,congrArg Nt.aZ a8,by rw[show Ar (Nv D3 (ff O))=_ from a8];exact A0 _,λp ak=>by
      show p.1<st.next+1;rcases List.mem_cons.1 ak with rfl|ak
      ·exact Hj _
      ·have:=L.below p ak;omega,e9.symm,λn W aj _=>by
      have W:st.az+1<=n:=W;rcases ag (aD nl n) with o|o
      ·rw[o,cx _ (MI n _) λj=>Wl n j];exact L.gU n (by omega) aj λ_=>by omega
      ·exact o.1,(λh=>by cases h),λn W aj=>by
      have W:st.aM+1<=n:=W;rw[cG _ λj e=>Wl j n e.symm];exact eL n W aj,⟨by show 1<=st.az+1;omega,A0 _⟩,by show 1<=st.aM+1;omega,λn u=>by
      rw[cG _ λj e=>MI j n e.symm,a7 _ λj e=>Qw j n e.symm] at u;by_cases e:n=st.next
      ·subst e;exact Cd
      ·rw[a4 _ λaO=>e (Jh aO)] at u;exact AG _ (L.clean n u)⟩
    have gf:(Nv D3 (ff O)).bd<=max D.bd (st.aM+1):=bX;have gg:(Nv D3 (ff O)).aS=D.aS:=cr;have fb:TY {st with fr:= [],ts:=(st.next,st.fr)::st.ts,next:=st.next+1,aZ:=st.az+1,az:=st.az+1,aM:=st.aM+1,bB:=false} (Nv D3 (ff O)) (aJ+1) c:=
     ⟨by show st.az+1<=_;omega,by show st.aM+1<=_;omega,by show st.next+1<=_;omega,by show((st.next,st.fr)::st.ts).length<=_;simp;omega,cF,by omega,by omega⟩
    have dE:Bt B g av {y with Sb:=aP,ft:=w.size,ns:= []} dC {st with fr:= [],ts:=(st.next,st.fr)::st.ts,next:=st.next+1,aZ:=st.az+1,az:=st.az+1,aM:=st.aM+1,bB:=false} O (Nv D3 (ff O)) (aJ+1) c:=
     ⟨b2,dA.up,dD,fb,As cC cs,b⟩
    have cH:CY {st with fr:= [],ts:=(st.next,st.fr)::st.ts,next:=st.next+1,aZ:=st.az+1,az:=st.az+1,aM:=st.aM+1,bB:=false}=CY st:=by rw[<- cE];exact dD.map.symm
    have cI:IX m O:=dv.trans dA;have cJ: ∀v,¬cz v->ff O v=ff m v:=λv I=>by rw[cG v λn=>pD I n,cx v (RV I _) λn=>lP I n]
    refine aE (Ad.mk (s:=y.tp) (AB b2.cell rfl) ?_);have fc:=b2.cy.len;have fd:=b2.dw;have gh:y.tp.len=st.ts.length+1:=by have an:y.tp.len=y.ps.length:=fc;have C:y.ps.length=((st.next,st.fr)::st.ts).length:=fd;rw[an,C];rfl
    refine af.intro (λdF=>?_) (λdF=>?_)
    ·refine AJ9 (q:= {y with Sb:=aP,ft:=w.size,ns:= []}) aW dE (by omega) (λh' ap aQ dG=>⟨_,rfl,?_⟩) λh' bh bI bH ap r an C S' fe fg fh gi fi fj fk=>⟨_,rfl,?_⟩
     ·rw[cH] at dG;obtain⟨S',fl,fm⟩:=aQ.box;refine bf h' ap ⟨λz=>aQ.fuel (cI.calm z),by rw[<- bn];exact aQ.dn,⟨S',by rw[<- aA];exact fl,λc b=>?_⟩,aQ.down,br.then (aQ.mod.aj λc _ b=>bs c b),λv I=>(aQ.dc v I).trans (cJ v I),aQ.wt⟩ dG;rcases fm c b with o|o
      ·exact bs c o
      ·exact .inr (by have:=br.size;omega)
     ·refine b9 h' bh bI bH ap r (an.trans bn) (C.trans aA) S' (cI.trans fe) fg (fh.trans cH) (.inl (by omega)) (λv I=>(fi v I).trans (cJ v I)) (br.then (fj.aj λc _ b=>bs c b)) λc b=>?_
      rcases fk c b with o|o
      ·exact bs c o
      ·exact .inr (by have:=br.size;omega)
    ·have gj: ¬((y.tp.len:Nat):Int)>=4:=of_decide_eq_false dF;refine b9 av {y with Sb:=aP,ft:=w.size,ns:= []} dC _ O _ bn aA (dE.aJ (BY _)) cI rfl cH (.inl ?_) cJ br bs;show((st.next,st.fr)::st.ts).length<=3;rw[A6];omega
 refine ai.mk λfn fo=>?_
 have a9: ∀c,q.tp.ag=some c->aq c=6:=ah.kt;have aR: ∀c,q.np.ag=some c->aq c=7:=ah.kx;have cK: ∀(z:aa) (tp np:Sl) (N:Nat),Own gb BJ z tp (t::q.ps)->Own GV Bp z np ((st.next:Int)::eV st)->Mod (λc=>q.tp.ag=some c\/q.np.ag=some c) J z->(∀ c,tp.ag=some c->(q.tp.ag=some c\/J.size<=c)/\c<N)->(∀ c,np.ag=some c->q.np.ag=some c\/(J.size<=c/\N<=c))->
   ae z ((⟨q.d,0,none⟩:Q6).add 4) (J4 tp.p tp.len tp.cap) λdH=>ae dH ((⟨q.d,0,none⟩:Q6).add 5) (J4 np.p np.len np.cap) λaS=>fn () aS:=by
  intro z tp np N fp on bt b3 b4;have aT:aq q.d=1:=ah.kd;have nd: ¬(q.tp.ag=some q.d\/q.np.ag=some q.d):=by
   rintro(h|h)
   ·have:=a9 _ h;rw[aT] at this;cases this
   ·have:=aR _ h;rw[aT] at this;cases this
  have fq:=bt.ag ah.cell nd;have gk:=bt.size;have gl:q.d<J.size:=ah.iB;refine ae.dy fq (by simp) λdH fs fu gm=>ae.dy fs (by simp) λaS fw fx gn=>?_
  have aU:Mod (· =q.d) z aS:=fu.trans fx;have cL: ∀c,tp.ag=some c-> ¬c=q.d:=λc b e=>by
   rcases(b3 c b).1 with h|h
   ·exact nd (.inl (e▸h))
   ·omega
  have dI: ∀c,np.ag=some c-> ¬c=q.d:=λc b e=>by
   rcases b4 c b with h|h
   ·exact nd (.inr (e▸h))
   ·omega
  have dJ:=fp.mod aU cL;have dK:=on.mod aU dI;have go:=ah.ext.size;have bb:=ah.fG (h':=aS) (tp:=tp) (np:=np) (ps:=t::q.ps) (ts:=(st.next,st.fr)::st.ts) (next:=st.next) (aZ:=st.aZ) (S:=λc=>aL<=c/\c<aN)
   (by simpa [eT] using fw) ((bt.aj λc _ b=> .inr b).trans (aU.aj λc _ b=> .inl b)) dJ dK (by have:=V.dw;simp[this])
   (λc b=>by
    obtain⟨o,H⟩:=b3 c b;by_cases e:q.tp.ag=some c
    ·exact .inl e
    ·have w:J.size<=c:=o.resolve_left e;refine .inr ⟨cf c w,by omega,λC=>?_,λh=>by omega⟩;rcases b4 c C with Y|Y
     ·have:=aR c Y;rw[cf c w] at this;cases this
     ·omega)
   (λc b=>by
    by_cases e:q.np.ag=some c
    ·exact .inl e
    ·have w:=(b4 c b).resolve_left e;refine .inr ⟨cf c w.1,by omega,λC=>?_,λh=>by omega⟩;have:=(b3 c C).2;omega)
   (λc b=>⟨by have:=bM.ext.size;omega,by have:=aU.size;omega⟩)
   (λi t' p o H=>by
    cases i with
    |zero=>
     simp only[HA,BT] at o H;subst o H;have fy:bW J t st.fr (NJ st.fr) aL aN:=cX.mod a2 λc c1 c2 b=>by
      have aC:=cY c c1;rcases b with b|b
      ·have:=al.kb c b;rw[aC] at this;cases this
      ·have:=al.kl;rw[<- b,aC] at this;cases this
     have fz:bW z t st.fr (NJ st.fr) aL aN:=fy.mod bt λc c1 c2 b=>by
      have aC:=cg c c1 c2;rcases b with b|b
      ·have:=a9 c b;rw[aC] at this;cases this
      ·have:=aR c b;rw[aC] at this;cases this
     refine .inr ⟨aL,aN,fz.mod aU λc c1 c2 b=>?_,by have:=aU.size;omega,λc c1 c2=>⟨⟨c1,c2⟩,cg c c1 c2⟩,bK⟩;have aC:=cg c c1 c2;rw[b,aT] at aC;cases aC
    |succ i=>exact .inl ⟨i,by simpa using o,by simpa using H⟩)
  have dL: ∀c,Lm aq J.size tp np (λc=>aL<=c/\c<aN) c≠0->k c≠0\/h.size<=c:=λc b=>by
   by_cases e:aq c=0
   ·by_cases Z:c<Y.size
    ·exfalso;apply b;unfold Lm;rw[if_neg (by simp[e]),if_neg λC=>?_,if_neg λC=>?_,if_neg (by omega)]
     ·rcases b4 c C with bu|bu
      ·have:=aR c bu;rw[e] at this;cases this
      ·omega
     ·rcases(b3 c C).1 with bu|bu
      ·have:=a9 c bu;rw[e] at this;cases this
      ·omega
    ·exact .inr (by omega)
   ·exact ce c e
  generalize Lm aq J.size tp np (λc=>aL<=c/\c<aN)=bv at*
  have fA:Mod (λc=>k c≠0) h aS:=(ei.then (bt.aj λc _ b=>ce c (by
   rcases b with b|b
   ·rw[a9 c b];decide
   ·rw[aR c b];decide))).then (aU.aj λc _ b=>ce c (by rw[b,aT];decide))
  refine fo _ _ ?_;refine aE (AC.mk (AB bb.cell rfl) (aE (ae.dy bb.cell (by simp) λfB cN fC fE=>aE (ae.dy cN (by simp) λcO b5 fF gp=>?_))));have fG:J8 J9 (((st.next:Nat):Int)+(1:Int))=((st.next+1:Nat):Int):=Aa (by omega);have fH:J8 J9 (((st.az:Nat):Int)+(1:Int))=((st.az+1:Nat):Int):=Aa (by omega);have b6:Mod (· =q.d) aS cO:=fC.trans fF;have gq: ∀c,tp.ag=some c-> ¬c=q.d:=cL;have fI:=bb.fG (h':=cO) (tp:=tp) (np:=np) (ps:=t::q.ps) (ts:=(st.next,st.fr)::st.ts) (next:=st.next+1) (aZ:=st.az+1) (S:=λ_=>False)
   (by rw[fG,fH] at b5;simpa [eT] using b5) (b6.aj λc _ b=> .inl b) (dJ.mod b6 cL) (dK.mod b6 dI) (by have:=V.dw;simp[this]) (λc b=> .inl b) (λc b=> .inl b) (λc h=>h.elim) (λi t' p o H=> .inl ⟨i,o,H⟩)
  have fJ: ∀c,Lm bv aS.size tp np (λ_=>False) c≠0->k c≠0\/h.size<=c:=λc b=>by
   by_cases e:bv c=0
   ·exfalso;apply b;unfold Lm;rw[if_neg (by simp[e]),if_neg λC=>?_,if_neg λC=>?_,if_neg λh=>h]
    ·have o:bv c=7:=bb.kx c C;rw[e] at o;cases o
    ·have o:bv c=6:=bb.kt c C;rw[e] at o;cases o
   ·exact dL c e
  exact el cO {q with Sb:=ay,tp:=tp,np:=np,ps:=t::q.ps} _ fI rfl rfl (fA.then (b6.aj λc _ b=>dL c (by
   have o:bv q.d=1:=bb.kd;rw[b,o];decide))) fJ
 have cP:=ah.cell;have b7:Own gb BJ J q.tp q.ps:=ah.cy;have b8:Own GV Bp J q.np (eV st):=ah.names;have cQ:q.ps.length<=1000000:=by rw[V.dw];omega
 have cR:(eV st).length<=1000000:=by simp[eV];omega
 have bc: ∀c,q.tp.ag=some c->q.np.ag≠some c:=λc o H=>by
  have:=a9 c o;rw[aR c H] at this;cases this
 have bw: ∀c,q.tp.ag=some c->c<J.size:=λc b=>b7.lt b
 have bd: ∀c,q.np.ag=some c->c<J.size:=λc b=>b8.lt b
 refine aE (Ad.mk (s:=q.tp) (AB cP rfl) (aE (Ad.mk (s:=q.np) (AB cP rfl) (aE (AC.mk (AB cP rfl) ?_)))));have Q: ∀ {z:aa},Mod (λc=>q.tp.ag=some c\/q.np.ag=some c) J z->z[q.d]? =some (J2 (eT {q with Sb:=ay} {st with az:=st.az+1,bB:=false} false) FW (0,0)):=λx=>x.ag ah.cell (by
  have aT:aq q.d=1:=ah.kd;rintro(h|h)
  ·have:=a9 _ h;rw[aT] at this;cases this
  ·have:=aR _ h;rw[aT] at this;cases this)
 refine⟨?_,?_⟩
 ·refine ao.mk λfK _ dM aV gr=>⟨AB (Q (Ext.mod aV)) rfl,AB (Q (Ext.mod aV)) rfl,AB (Q (Ext.mod aV)) rfl,?_,?_⟩
  ·refine rA (b7.ext aV) dM (λe=>by have:=bw _ e;omega) cQ λaF X aG au aI=>⟨_,rfl,?_⟩
   have U:Mod (λc=>q.tp.ag=some c\/q.np.ag=some c) J X:=(Ext.mod aV).trans (au.aj λc _ b=> .inl b);refine⟨AB (Q U) rfl,AB (Q U) rfl,ao.mk λfL _ fM bx gs=>⟨AB (Q (U.trans (Ext.mod bx))) rfl,AB (Q (U.trans (Ext.mod bx))) rfl,?_⟩⟩;have bz:Own GV Bp fL q.np (eV st):=(((b8.ext aV).mod au λc b e=>bc c e b)).ext bx;refine rB bz fM (λe=>by have:=bd _ e;have:=U.size;omega) cR λbA bC bD aK bE=>⟨_,rfl,?_⟩
   have dN:=U.size;have bF: ∀c,aF.ag=some c->c<X.size:=λc b=>aG.lt b
   refine cK bC aF bA X.size (((aG.ext bx)).mod aK λc b e=>?_) bD ((U.trans (Ext.mod bx)).trans (aK.aj λc _ b=> .inr b)) (λc b=>⟨(aI c b).imp id λh=>by omega,bF c b⟩) λc b=>(bE c b).imp id λh=>⟨by omega,by omega⟩
   rcases aI c b with o|o
   ·exact bc c o e
   ·have:=bd c e;omega
  ·refine ao.mk λfB _ cN dO fE=>?_
   have bG:=aV.trans dO;refine⟨AB (Q (Ext.mod bG)) rfl,AB (Q (Ext.mod bG)) rfl,?_⟩;refine rA (b7.ext bG) (dO.ag dM λh=>h) (λe=>by have:=bw _ e;omega) cQ λaF X aG au aI=>⟨_,rfl,?_⟩
   have U:Mod (λc=>q.tp.ag=some c\/q.np.ag=some c) J X:=(Ext.mod bG).trans (au.aj λc _ b=> .inl b);refine⟨AB (Q U) rfl,AB (Q U) rfl,?_⟩;have dN:=U.size;have bz:Own GV Bp X q.np (eV st):=(b8.ext bG).mod au λc b e=>bc c e b
   have b5:X[fK.size]? =some (J2 #[J6 J9 (st.next:Int)] Bp (0,0)):=au.ag cN (λe=>by have:=bw _ e;omega);refine rB bz b5 (λe=>by have:=bd _ e;omega) cR λbA bC bD aK bE=>⟨_,rfl,?_⟩
   have bF: ∀c,aF.ag=some c->c<X.size:=λc b=>aG.lt b
   refine cK bC aF bA X.size (aG.mod aK λc b e=>?_) bD (U.trans (aK.aj λc _ b=> .inr b)) (λc b=>⟨(aI c b).imp id λh=>by omega,bF c b⟩) λc b=>(bE c b).imp id λh=>⟨by omega,by omega⟩
   rcases aI c b with o|o
   ·exact bc c o e
   ·have:=bd c e;omega
 ·refine ao.mk λgt _ fO cS gu=>⟨AB (Q (Ext.mod cS)) rfl,AB (Q (Ext.mod cS)) rfl,ao.mk λgv _ fP dP gw=>?_⟩
  have be:=cS.trans dP;refine⟨AB (Q (Ext.mod be)) rfl,AB (Q (Ext.mod be)) rfl,AB (Q (Ext.mod be)) rfl,?_⟩;refine rA (b7.ext be) fP (λe=>by have:=bw _ e;omega) cQ λaF X aG au aI=>⟨_,rfl,?_⟩
  have U:Mod (λc=>q.tp.ag=some c\/q.np.ag=some c) J X:=(Ext.mod be).trans (au.aj λc _ b=> .inl b);refine⟨AB (Q U) rfl,AB (Q U) rfl,?_⟩;have dN:=U.size;have bz:Own GV Bp X q.np (eV st):=(b8.ext be).mod au λc b e=>bc c e b
  have fQ:X[J.size]? =some (J2 #[J6 J9 (st.next:Int)] Bp (0,0)):=au.ag (dP.ag fO λh=>h) (λe=>by have:=bw _ e;omega);refine rB bz fQ (λe=>by have:=bd _ e;omega) cR λbA bC bD aK bE=>⟨_,rfl,?_⟩
  have bF: ∀c,aF.ag=some c->c<X.size:=λc b=>aG.lt b
  refine cK bC aF bA X.size (aG.mod aK λc b e=>?_) bD (U.trans (aK.aj λc _ b=> .inr b)) (λc b=>⟨(aI c b).imp id λh=>by omega,bF c b⟩) λc b=>(bE c b).imp id λh=>⟨by omega,by omega⟩
  rcases aI c b with o|o
  ·exact bc c o e
  ·have:=bd c e;omega
end
def GX:List Pr->Int
 | []=>0
 |x::l=>if Ah x≠0 then Ah x else GX l
def Fh(l:List Pr):Int:=if l.length=0 then 1 else if l.length>64 then 2 else GX l
theorem ACr: ∀ {l:List Pr},GX l=0->BF l
 | [],_=>AI5
 |x::l,a=>by
  unfold GX at a;split at a
  ·rename_i b;exact absurd a b
  ·rename_i b;intro d c;rcases List.mem_cons.1 c with rfl|c
   ·exact Decidable.not_not.1 b
   ·exact ACr a d c
theorem AFC {l:List Pr}(a:Fh l=0):Y0 l/\BF l/\l≠ []:=by
 unfold Fh at a;split at a
 ·cases a
 ·rename_i b;split at a
  ·cases a
  ·rename_i e;have:=ACr a;exact⟨⟨by omega,λx c=>pE (this x c)⟩,this,λd=>b (by rw[d];rfl)⟩
theorem AHP {l:List Pr}{i:Nat}{x:Pr}(a:l[i]? =some x)(d:GX (l.take i)=0):GX l=if Ah x≠0 then Ah x else GX l:=by
 split
 ·rename_i e
  induction l generalizing i with
  |nil=>simp at a
  |cons f l g=>
   cases i with
   |zero=>
    simp at a;subst a;unfold GX;rw[if_pos e]
   |succ i=>
    have b:GX (f::l.take i)=0:=d;unfold GX at b ⊢;split at b
    ·rename_i c;exact absurd b c
    ·rename_i c;rw[if_neg c];exact g (by simpa using a) b
 ·rfl
theorem AAz: ∀ {l:List Pr} {x:Pr},GX l=0->Ah x=0->GX (l++ [x])=0
 | [],x,_,b=>by show GX [x]=0;unfold GX;rw[if_neg (by simp[b])];rfl
 |y::l,x,b,d=>by
  have a:GX (y::l)=0:=b;show GX (y::(l++ [x]))=0;unfold GX at a ⊢;split at a
  ·rename_i c;exact absurd a c
  ·rename_i c;rw[if_neg c];exact AAz a d
theorem AHT {Q:ak}{h:aa}{s:Sl}{l:List Pr}{n:A2H}(v:View BO h s l)(j: ∀B,Ext h B->n (J6 J9 (Fh l)) B):AA Q P P7 #[J4 s.p s.len s.cap] h n:=by
 refine AG0 ?_;unfold vP;rw[v.len];refine af.intro (λe=>?_) (λe=>?_)
 ·have o:l.length=0:=by have:((l.length:Nat):Int)=0:=(by simpa using e);omega
  have:=j h Mod.refl;unfold Fh at this;rwa [if_pos o] at this
 have o:l.length≠0:=λf=>by rw[f] at e;cases e
 refine af.intro (λe=>?_) (λe=>?_)
 ·have u:l.length>64:=by have:=of_decide_eq_true e;omega
  have:=j h Mod.refl;unfold Fh at this;rwa [if_neg o,if_pos u] at this
 have u: ¬l.length>64:=by have:=of_decide_eq_false e;omega
 have R:Fh l=GX l:=by unfold Fh;rw[if_neg o,if_neg u]
 rw[R] at j;refine Loop.rule (λC x d=> ∃i:Nat,x=((i:Int),())/\C=l.length-i/\i<=l.length/\Ext h d/\GX (l.take i)=0) ?_ ⟨0,rfl,rfl,by omega,Mod.refl,rfl⟩;rintro K C _ d ⟨i,rfl,rfl,Z,w,q⟩ S;dsimp only;refine af.intro (λe=>?_) (λe=>?_)
 ·have r:i<l.length:=by have:=of_decide_eq_true e;omega
  have ah:l[i]? =some l[i]:=A2 r;rw[<- v.len];refine(v.ext w).idx ah λa _ c=>?_
  obtain⟨T,c1,c2⟩:=c.pair;refine AJ.mk T (AJ.mk c1 (AZ.mk c2 (ao.pair λb k _ m U ab=>?_)));have y:=w.trans U;generalize l[i]=p at*
  have D:=AHP ah q;refine ai.mk λE F=>?_
  have V:Ah p=1-> ∀d,Ext h d->n (J6 J9 1) d:=λf d x=>by
   have:=j d x;rw[D,if_pos (by rw[f];decide),f] at this;exact this
  have W:Ah p=2-> ∀d,Ext h d->n (J6 J9 2) d:=λf d x=>by
   have:=j d x;rw[D,if_pos (by rw[f];decide),f] at this;exact this
  have z:Ah p=if(decide (p.key=⟨#[]⟩)||(p.gone&& !decide (p.val=⟨#[]⟩))) then 1 else if(decide (p.key.size>64)||decide (p.val.size>8192)) then 2 else 0:=rfl;have G:(decide (p.key=⟨#[]⟩)||(p.gone&& !decide (p.val=⟨#[]⟩)))=true->E (true,()) k:=λf=>F _ _ (af.yes rfl (V (by rw[z,if_pos f]) k y))
  have H:(decide (p.key=⟨#[]⟩)||(p.gone&& !decide (p.val=⟨#[]⟩)))=false->E (false,()) k:=λf=>F _ _ (af.no rfl (by
   refine ai.mk λI J=>?_
   have L:(decide (p.key.size>64)||decide (p.val.size>8192))=true->I (true,()) k:=λA=>J _ _ (af.yes rfl (W (by rw[z,if_neg (by rw[f];decide),if_pos A]) k y))
   have X:(decide (p.key.size>64)||decide (p.val.size>8192))=false->I (false,()) k:=λA=>J _ _ (af.no rfl (by
    have Y:Ah p=0:=by rw[z,if_neg (by rw[f];decide),if_neg (by rw[A];decide)]
    rw[Aa (by omega)];refine S (l.length-(i+1)) _ _ (by omega) ⟨i+1,rfl,rfl,r,y,?_⟩;rw[Ax,ah];exact AAz q Y))
   refine AJ.mk (AL m rfl) (af.intro (λg=>?_) (λg=>?_))
   ·have M:p.key.size>64:=by have:=of_decide_eq_true g;omega
    exact L (by simp[M])
   ·have M: ¬p.key.size>64:=by have:=of_decide_eq_false g;omega
    refine AJ.mk (AB m rfl) ?_;by_cases N:p.val.size>8192
    ·rw[decide_eq_true (show((p.val.size:Int)>(8192:Int)) by omega)];exact L (by simp[N])
    ·rw[decide_eq_false (show ¬((p.val.size:Int)>(8192:Int)) by omega)];exact X (by simp[N];omega)))
  refine AJ.mk (AL m rfl) ?_;rw[CZ];refine af.intro (λg=>?_) (λg=>?_)
  ·exact G (by rw[g];rfl)
  ·refine AZ.mk (AB m rfl) (af.intro (λt=>?_) (λt=>?_))
   ·refine AJ.mk (AB m rfl) ?_;rw[CZ];cases O:decide (p.val=(⟨#[]⟩:A2I)) with
    |true=>exact H (by rw[g,t,O];rfl)
    |false=>exact G (by rw[g,t,O];rfl)
   ·exact H (by rw[g,t];rfl)
 ·have r:i=l.length:=by have:=of_decide_eq_false e;omega
  subst r;rw[Bk] at q;have:=j d w;rwa [q] at this
theorem AF3 {e:bT}{D:Bz}(h:BH e D){s:Nat}(f:s<=99999999){b:List Pr}(j:Y0 b): ∀d∈(D.L s).map (BU s)++ [BU s b],d.length<=1048576:=λd a=>by
 rcases List.mem_append.1 a with a|a
 ·obtain⟨c,i,rfl⟩:=List.mem_map.1 a;have:=Zv f (h.gi s c i);omega
 grind [List.mem_singleton,Zv]
theorem AJS(a:List (List UInt8))(b:List UInt8):aL (a++ [b])=aL a++Cg b:=by simp
theorem AJU {i j:bT}{D:Bz}{s:Nat}{b:List Pr}(h:BH i D)(n:1<=s/\s+1<=99999999)(l:Y0 b)(d: ∀e,j e=if e=aD nl s then some (AX (aL ((D.L s).map (BU s)++ [BU s b])),bg) else i e):BH j (Td D s b):=by
 refine AQv h n l (λf _ _ o=> .inl ?_) (λf _ _=> .inl ?_) (λf=> .inl ?_) (λe p r=>?_) ⟨_,by rw[d,if_pos rfl],?_⟩
 ·rw[d,if_neg λa=>o (Iz a)]
 ·rw[d,if_neg λa=>Wl s f a.symm]
 ·rw[d,if_neg λa=>MI s f a.symm]
 ·simp_all
 ·rw[EF,By];have:=SE (rs:=(D.L s).map (BU s)++ [BU s b]) (AF3 h (by omega) l) (t:= []) Uj;rw[AN] at this;exact this
theorem AJ3 {j F1 G:bT}{D:Bz}{s:Nat}{b:List Pr}(h:BH j D)(z:1<=s/\s+1<=99999999)(C:Y0 b)(o: ∀e,F1 e=if e=aD nl s then some (AX (aL ((D.L s).map (BU s))),AX (Cg (BU s b))) else j e)(c:Jo F1 G):
  BH G {D with aS:=max D.aS (s+1)}\/BH G (Td D s b):=by
 have E: ∀a,1<=a->a<=99999999->a≠s->Ny (j (aD nl a)) (G (aD nl a)):=λa l n t=>by
  have d:F1 (aD nl a)=j (aD nl a):=by rw[o,if_neg λd=>t (Iz d)]
  have:=c.bM (x:=aD nl a) λp w=>(h.log.has a p l n (d▸w)).1
  rwa [d] at this
 have F: ∀a,1<=a->a<=99999999->Ny (j (aD nn a)) (G (aD nn a)):=λa l n=>by
  have d:F1 (aD nn a)=j (aD nn a):=by rw[o,if_neg λd=>Wl s a d.symm]
  have:=c.bM (x:=aD nn a) λp w=>(h.note.has a p l n (d▸w)).1
  rwa [d] at this
 have ft: ∀a,F1 (ba a)=j (ba a):=λa=>by rw[o,if_neg λd=>MI s a d.symm]
 have H: ∀a∈(Ar D).names,G (ba a)=some (AX (Js (D.T a)),bg)/\Hg (D.T a):=λa N=>by
  obtain⟨O,I⟩:=h.cW a N;have:=c.bM (x:=ba a) λp w=>by grind
  rw[ft] at this;exact⟨Vr this I O,I⟩
 have J: ∀e,(∀ a,e≠aD nl a)->G e≠none->j e≠none:=λe u P Q=>P (by
  have:=c e;rw[o,if_neg (u s),Q] at this;exact this)
 have K:=c (aD nl s);rw[o,if_pos rfl] at K;obtain⟨S,y⟩:=K;have i:=ALH (rs:=(D.L s).map (BU s)) (r:=BU s b) (AF3 h (by omega) C) S;have L:(G (aD nl s)=none/\(D.L s).map (BU s)= []\/ ∃e,G (aD nl s)=some (e,bg)/\Nf (bl e) ((D.L s).map (BU s)))->BH G {D with aS:=max D.aS (s+1)}:=λT=>by
  refine⟨?_,h.note.aw h.cF.2.2.1 F,H,h.gi,h.dT,λe u hd=>h.dA e (J e (λa d=>by grind [RS]) u) hd,by have:=h.cF;refine⟨?_,?_,this.2.2.1,this.2.2.2⟩<;>simp only[]<;>omega⟩;have:=h.log.put (G:=G) (fH:=max D.aS (s+1)) (s:=s) (v:=(D.L s).map (BU s)) ⟨z.1,by omega⟩ (by omega) (λa l n t=>E a l n t) T (by omega);have d:(Kg (λa=>(D.L a).map (BU a)) s ((D.L s).map (BU s)))=λa=>(D.L a).map (BU a):=by
   funext a
   grind [EM,GN]
  rw[d] at this;exact this
 split at y
 ·rename_i U;left;refine L (.inl ⟨y,?_⟩);rw[U] at i;have M: ∀rs,Nf (bl bg) rs->rs= []:=λrs V=>sQ V
  rcases i with i|i
  ·exact M _ i
  ·have:=M _ i;simp at this
 ·rcases i with i|i
  ·exact .inl (L (.inr ⟨_,y,i⟩))
  ·right;have W:(D.L s++ [b]).map (BU s)=(D.L s).map (BU s)++ [BU s b]:=by rw[By];rfl
   refine⟨?_,h.note.aw h.cF.2.2.1 F,H,λa x f=>?_,h.dT,λe u hd=>h.dA e (J e (λa d=>by grind [RS]) u) hd,by have:=h.cF;refine⟨?_,?_,this.2.2.1,this.2.2.2⟩<;>simp only[Td]<;>omega⟩
   ·have:=h.log.put (G:=G) (fH:=max D.aS (s+1)) (s:=s) (v:=(D.L s++ [b]).map (BU s)) ⟨z.1,by omega⟩ (by omega) (λa l n t=>E a l n t) (.inr ⟨_,y,by rw[W];exact i⟩) (by omega);have d:(Kg (λa=>(D.L a).map (BU a)) s ((D.L s++ [b]).map (BU s)))=λa=>((Td D s b).L a).map (BU a):=by
     funext a;show _=(Kg D.L s (D.L s++ [b]) a).map (BU a)
     grind [EM,GN]
    rw[d] at this;exact this
   ·by_cases d:a=s
    ·have f:x∈Kg D.L s (D.L s++ [b]) a:=f;rw[d,EM] at f;rcases List.mem_append.1 f with f|f
     ·exact h.gi s x f
     ·rw[List.mem_singleton.1 f];exact C
    ·have f:x∈Kg D.L s (D.L s++ [b]) a:=f;rw[GN d] at f;exact h.gi a x f
theorem ASf {b:bT}{D:Bz}(h:BH b D){t:Nat}(d:D.aS<=t):Ih {D with aS:=t}=Ih D:=by
 unfold Ih;exact UU d λa e _=>by
  show(if a<(Ar D).aZ then [] else D.L a)= [];split
  ·rfl
  ·exact h.gV (.inr e)
section
variable {A : ak} {B : bV} {g h : aa} {q : Hp} {k : Nat -> Nat} {st : Db} {m : Bx} {D : Bz} {aJ c : Nat} {R : A2H}
theorem ASh(a:bQ g h q k st m)(b:R (J6 J9 (st.az:Int)) h):AA A P JA #[Ak q.lg] h R:=by refine O7 ?_;unfold Lp;exact af.no rfl (aE (AC.mk (AB a.log rfl) b))
theorem AJg(a:Nat):600000<=20000*a+10000000:=by omega
theorem bV.up(B:bV){d a:Nat}{b:Nat}(e:a<=b)(h:d<=B.W0+a*B.K):d<=B.W0+b*B.K:=As h (Hi (AK _ e) _)
structure nz (st bH:Db) (l:List Pr):Prop where
 map:CY bH=cj (CY st) l
 full:4096<=M.Eo (Av st.fr l)->bH.fr= []/\(bH.ts.length<=3\/bH.ts.length=st.ts.length)
 less:M.Eo (Av st.fr l)<4096->bH.fr=Av st.fr l/\bH.ts=st.ts
theorem APs {s:Sl}{l:List Pr}(aq:cu g)(bs:Bt B g h q k st m D aJ c)(hA:aJ+3<=B.A)(ab:View BO h s l)(ar:l≠ []-> ∀b,s.ag=some b->b<h.size/\k b=0)(aH:Fh l=0->c+l.length<=B.C)
  (bt:Fh l≠0-> ∀o,Ext h o->R (J6 J9 (Fh l)) o)
  (a5:Fh l=0-> ∀o v,kQ B h o q k m v (aJ+3)->(∀ G,Jo (ff v) G->Rec G (aJ+3) (c+l.length) (CY st)\/Rec G (aJ+3) (c+l.length) (cj (CY st) l))->R (J6 J9 30) o)
  (bu:Fh l=0-> ∀o v,kQ B h o q k m v (aJ+3)->jB (ff v) (aJ+3) (c+l.length) (cj (CY st) l)->R (J6 J9 0) o)
  (a6:Fh l=0-> ∀o ac au bH v aI,ac.d=q.d->ac.b=q.b->Bt B g o ac au bH v aI (aJ+3) (c+l.length)->IX m v->nz st bH l->(∀ n,¬cz n->ff v n=ff m n)->Mod (λc=>k c≠0) h o->(∀ c,au c≠0->k c≠0\/h.size<=c)->R (J6 J9 0) o):
  AA A P PQ #[Ak q.d,J4 s.p s.len s.cap] h R:=by
 obtain⟨V,hd,L,w,aK,e⟩:=bs;have cy:=B.hA;have cB:=B.hC;have bv:=B.wt (a:=aJ) (by omega);have cC:=w.az;have cD:=L.fy;have cE:=w.aS;refine ABj ?_;unfold Ud;refine ai.mk λK bw=>Zm V (bw _ _ (af.no rfl ?_))
 refine AHT ab λbx ae=>⟨_,rfl,?_⟩
 refine af.intro (λQ=>bt (by simpa using Q) bx ae) (λQ=>?_);have S:Fh l=0:=by simpa using Q
 obtain⟨E,bz,ag⟩:=AFC S
 replace ar:=ar ag
 replace aH:=aH S
 have W:=V.on ae;refine aE (AY.mk (AB W.cell rfl) (aE (AY.mk (AB W.cell rfl) ?_)));refine ASh W ⟨_,rfl,⟨AB W.cell rfl,?_⟩⟩;refine APK (by omega) E.len E.ok (ab.ext ae) (λb E=>by have:=(ar b E).1;have:=ae.size;omega) λX aM=>⟨_,rfl,⟨AB (W.on aM).cell rfl,?_⟩⟩
 have N:=W.on aM;have aN:=ae.trans aM;have cF:=aN.size;have cG:=Zv (s:=st.az) (by omega) E;have av:(AX (BU st.az l)).size=(BU st.az l).length:=AP _;refine zP (N.iC aq) N.log N.box N.mf (λo x=>N.gv aq (x.aj λc _ e=> .inl e)) (by decide) (by omega) (by rw[av];omega) (As aK bv) λaw p ax ay aO a7=>⟨_,rfl,?_⟩
 rw[show bl (AX (BU st.az l))=BU st.az l from EF _] at ax ay ⊢;have bA:=Vg V.box.aO (aD nl st.az) (AX (Cg (BU st.az l)));have cH:=(Ij (r:=BU st.az l) (by omega)).2;rw[AP] at bA;have a8: ∀c,p c->q.Sb c\/X.size<=c:=λc e=>(a7 c e).imp id λh=>h.1
 have bC:((ff m (aD nl st.az)).getD (bg,bg))=(AX (aL ((D.L st.az).map (BU st.az))),bg):=by
  cases a9:st.bB with
  |true=>rw[L.jR a9];rfl
  |false=>
   have bb:=L.gU st.az (A0 _) (by omega) (by rw[a9];simp);rw[bb,L.ok.jT (by omega) bb];rfl
 have bc: ∀f,st.az<f->D.L f= []:=λf y=>L.tG w (by omega) y
 have bd:1<=st.az/\st.az+1<=99999999:=⟨by omega,by omega⟩;have be:(Ar D).aZ<=st.az:=by rw[L.aZ];exact L.fy.2
 obtain⟨bD,bE⟩:=APX L.ok be bc E;have bF:=AFN L.ok (b:=l) be bc;have bf:OU (Td D st.az l)=OU D+l.length:=by
  unfold OU;rw[bF,MT,A1];have:(Ar (Td D st.az l)).names.map (λf=>((Td D st.az l).T f).length)=(Ar D).names.map λf=>(D.T f).length:=rfl
  rw[this];simp;omega
 have bG: ∀ {F':bT},(∀ f,F' (ba f)≠none->ff m (ba f)≠none)-> ∀f,F' (ba f)≠none->f<8*aJ+8:=λbI f y=>by
  have:=L.fP w (bI f y);have:=w.next;omega
 have bJ: ∀ {bh:Nat},bh<=B.W0+(aJ+1)*B.K->bh<=B.W0+(aJ+3)*B.K:=λh=>B.up (by omega) h
 rcases OL (k:=aD nl st.az) (d:=AX (Cg (BU st.az l))) hd (zR (by decide) (by omega)) with⟨aP,aQ⟩|⟨aQ,aR,bK⟩
 ·rw[aQ] at ax ⊢;refine af.yes rfl ?_;refine Jn N ax (aO.aj λc _ e=>e.imp id .inl) a8 λbL bM bN bO bP=>⟨_,rfl,?_⟩
  refine a5 S bL (LQ m) ⟨by rw[aP];decide,bM,⟨p,bN,λc e=>(bP c e).imp id λh=>by omega⟩,rfl,(Ext.mod aN).trans bO,λ_ _=>rfl,B.up (by omega) aK⟩ λG az=> .inl ?_
  exact(L.jH w G az).mono (by omega) (by omega)
 rw[aQ] at ay ⊢;refine af.no rfl ?_;rw[decide_eq_true rfl,HK] at ay;generalize (Dp m (aD nl st.az) (AX (Cg (BU st.az l)))).2=z at*
 have aj: ∀n,ff z n=if n=aD nl st.az then some (AX (aL ((D.L st.az).map (BU st.az))),AX (Cg (BU st.az l))) else ff m n:=λn=>by
  rw[bK,bC];simp only[OE]
 have cI: ¬p q.lg:=λe=>by
  rcases a7 _ e with h|h
  ·exact N.mf h
  ·exact h.2 rfl
 have H:=N.boxed (j:=3) (bH:= {st with bB:=true}) ax (aO.aj λc _ e=>e.imp id λh=> .inl ⟨rfl,h⟩) a8 rfl rfl rfl rfl (.inr ay) (.inl ⟨by decide,rfl⟩);have bR:Grow k (IZ k X.size p 2) X.size:=tf;have aA: ∀c,IZ k X.size p 2 c≠0->k c≠0\/h.size<=c:=λc e=>by
  by_cases ak:c<X.size
  ·rw[bR c ak] at e;exact .inl e
  ·exact .inr (by omega)
 generalize IZ k X.size p 2=bi at*
 have aC:Mod (λc=>k c≠0) h aw:=(Ext.mod aN).trans (aO.aj λc _ e=>by
  rcases e with e|e
  ·rw[V.kb c e];decide
  ·rw[e,V.kl];decide)
 refine aE (AY.mk (AB H.cell rfl) ?_);refine zQ (H.iC aq) H.log H.box H.mf (by decide) (by show st.az<=_;omega) λaT al cJ aU=>⟨_,rfl,?_⟩
 have bS:ff z (aD nl st.az)=some (AX (aL ((D.L st.az).map (BU st.az))),AX (Cg (BU st.az l))):=by rw[aj,if_pos rfl]
 have al:Bl aT q.b p (G8 z (aD nl st.az)).2:=al;have bU:=YZ H.box.aO (aD nl st.az);have bj:aY z.files<=B.W0+(aJ+1)*B.K:=B.step (d:=600000) aK (by omega) (AJg B.C);show af ((G8 z (aD nl st.az)).1 != 0) _ _;rcases MF aR.up bS with⟨aP,am⟩|⟨am,bV,bW⟩
 ·rw[am] at al;have bX:NL z (aD nl st.az) true=(30,LQ z):=am;rw[am];refine af.yes rfl ?_;show AA A P Co #[_,J6 J9 (NL z (aD nl st.az) true).1] aT _;rw[bX];refine Jn (q:= {q with Sb:=p}) H al (aU.aj λc _ e=> .inl e) (λc e=> .inl e) λbY bZ b0 b1 b2=>⟨_,rfl,?_⟩
  refine a5 S bY (LQ z) ⟨(λI=>by have:=aR.calm I;rw[aP] at this;cases this),bZ,⟨p,b0,λc e=>?_⟩,rfl,aC.then (b1.aj λc _ e=>aA c e),λn u=>?_,bJ bj⟩ λG az=>?_
  ·rcases b2 c e with F|F
   ·exact aA c F
   ·exact .inr (by have:=aC.size;omega)
  ·rw[pK,aj,if_neg (pD u _)]
  ·have b3: ∀f,G (ba f)≠none->ff m (ba f)≠none:=λf y=>by
    have F:ff z (ba f)≠none:=az.some y;rwa [aj,if_neg λJ=>MI _ f J.symm] at F
   have C:=L.jU w (F':=G) (bG b3);rcases AJ3 L.ok bd E (F1:=ff (LQ z)) aj az with aV|aV
   ·left;have av:=ASf L.ok (t:=max D.aS (st.az+1)) (by omega);have em:cM {D with aS:=max D.aS (st.az+1)}=cM D:=by unfold cM FD;rw[av];rfl
    have b4:OU {D with aS:=max D.aS (st.az+1)}=OU D:=by unfold OU;rw[av];rfl
    refine⟨_,aV,⟨by show max D.aS (st.az+1)<=_;omega,by have:=C.bd;show D.bd<=_;omega,by have:=C.next;show(Ar D).next<=_;omega,by have:=C.aZ;show(Ar D).aZ<=_;omega,by have:=C.cw;show(Ar D).names.length<=_;omega,by rw[b4];have:=C.ck;omega,λf y=>by have:=C.nQ f y;omega⟩,by rw[em];exact L.map⟩
   ·right;refine⟨_,aV,⟨by show max D.aS (st.az+1)<=_;omega,by have:=C.bd;show D.bd<=_;omega,by have:=C.next;show(Ar D).next<=_;omega,by have:=C.aZ;show(Ar D).aZ<=_;omega,by have:=C.cw;show(Ar D).names.length<=_;omega,by rw[bf];have:=C.ck;omega,λf y=>by have:=C.nQ f y;omega⟩,by rw[bE,L.map]⟩
 rw[am];refine af.no rfl ?_;generalize (G8 z (aD nl st.az)).2=O at*
 have Y: ∀n,ff O n=if n=aD nl st.az then some (AX (aL ((D.L st.az).map (BU st.az)++ [BU st.az l])),bg) else ff m n:=λn=>by
  rw[bW];by_cases u:n=aD nl st.az
  ·rw[if_pos u,if_pos u];simp only[Aq,AJS]
  ·rw[if_neg u,if_neg u,aj,if_neg u]
 have b5:=AJU L.ok bd E Y;have b6:=H.boxed (j:=2) (bH:= {st with bB:=true}) al (aU.aj λc _ e=> .inl e) (λc e=> .inl e) rfl rfl rfl rfl (.inl ⟨by decide,rfl,rfl⟩) (.inl ⟨by decide,rfl⟩);have b7:Mod (λc=>k c≠0) h aT:=aC.then (aU.aj λc _ e=>aA c (by rw[H.kb c e];decide));have b8: ∀c,IZ bi aw.size p 2 c≠0->k c≠0\/h.size<=c:=λc e=>by
  by_cases ak:c<aw.size
  ·rw[Ga ak] at e;exact aA c e
  ·exact .inr (by have:=aC.size;omega)
 generalize IZ bi aw.size p 2=b9 at*
 have aF:IX m O:=aR.trans bV;have cK:=L.dB w;have cL:=E.len;refine Loop.rule (λbk x I=> ∃(i:Nat) (an:List M.DR) (ap:Nat->Nat),x=((i:Int),())/\bk=l.length-i/\i<=l.length/\bQ g I {q with Sb:=p,ns:=an} ap {st with bB:=true,fr:=Av st.fr (l.take i)} O/\Mod (λc=>k c≠0) h I/\(∀ c,ap c≠0->k c≠0\/h.size<=c)) ?_
  ⟨0,q.ns,b9,rfl,rfl,A5 _,b6,b7,b8⟩
 rintro cN bk _ I ⟨i,an,ap,rfl,rfl,cO,Z,aa,T⟩ bm;dsimp only;have ca:=ab.mod aa λb E ag=>ag (ar b E).2
 have cP:=aa.size;refine af.intro (λQ=>?_) (λQ=>?_)
 ·have aG:i<l.length:=by have:=of_decide_eq_true Q;have:=ab.len;omega
  have ah:l[i]? =some l[i]:=A2 aG;refine ca.idx ah λa _ cb=>?_
  obtain⟨cc,c1,c2⟩:=cb.pair;refine AJ.mk cc (AJ.mk c1 (AZ.mk c2 (ao.pair λb cd _ aW bn cQ=>?_)));have aX:=Z.on bn;refine aE (AY.mk (AB aX.cell rfl) ?_);refine AJ.mk (AL aW rfl) (AJ.mk (AB aW rfl) (AZ.mk (AB aW rfl) ?_));have ce:=M.RY (l:=l.take i) (t:=st.fr);rw[An] at ce;refine M.tK (x:=l[i]) aX.fresh (by show(Av st.fr (l.take i)).length<_;omega) λcf cR cg bo ch=>⟨_,rfl,?_⟩
  have ci:=aX.pT cg bo ch;rw[Aa (by omega)];refine bm (l.length-(i+1)) _ _ (by omega) ⟨i+1,cf,_,rfl,rfl,aG,by rw[M.tL ah];exact ci,(aa.trans (Ext.mod bn)).then (bo.aj λc _ e=>T c (by rw[Z.kf c e];decide)),λc e=>?_⟩;by_cases ak:c<cd.size
  ·rw[Ga ak] at e;exact T c e
  omega
 have aG:i=l.length:=by have:=of_decide_eq_false Q;have:=ab.len;omega
 subst aG;rw[Bk] at Z;clear bm;have aZ:CY {st with bB:=true,fr:=Av st.fr l}=cj (CY st) l:=ABC V.gr bz;have ck:Ee (ff O) {st with bB:=true,fr:=Av st.fr l} (Td D st.az l):=
  ⟨b5,L.names,L.cy,L.aZ,L.next,L.below,by rw[bD,<-L.fr],λf a0 a1 ag=>by
   have bp:f≠st.az:=ag rfl;rw[Y,if_neg λJ=>bp (Iz J)];exact L.gU f a0 a1 λ_=>bp,λ_=>by
   show ff O (aD nl st.az)=some (AX (aL ((Kg D.L st.az (D.L st.az++ [l]) st.az).map (BU st.az))),bg);rw[Y,if_pos rfl,EM,By];rfl,λf a0 a1=>by
   rw[Y,if_neg λJ=>Wl _ f J.symm];exact L.jQ f a0 a1,L.fy,L.aM,λf y=>by
   rw[Y,if_neg λJ=>MI _ f J.symm] at y;exact L.clean f y⟩
 have cl:TY {st with bB:=true,fr:=Av st.fr l} (Td D st.az l) (aJ+1) (c+l.length):=
  ⟨by show st.az<=_;omega,by have:=w.aM;show st.aM<=_;omega,by have:=w.next;show st.next<=_;omega,by have:=w.cw;show st.ts.length<=_;omega,by rw[bf];have:=w.ck;omega,by show max D.aS (st.az+1)<=_;omega,by have:=w.bd;show D.bd<=_;omega⟩
 have bq:Bt B g I {q with Sb:=p,ns:=an} ap {st with bB:=true,fr:=Av st.fr l} O (Td D st.az l) (aJ+1) (c+l.length):=
  ⟨Z,aF.up,ck,cl,As bU bj,aH⟩
 have a2: ∀n,¬cz n->ff O n=ff m n:=λn u=>by rw[Y,if_neg (pD u _)]
 refine ai.mk λcS a3=>?_
 refine aE (AY.mk (AB Z.cell rfl) ?_);refine M.tH Z.fresh ⟨_,_,rfl,?_⟩;refine af.intro (λa4=>?_) (λa4=>?_)
 ·have cT:4096<=M.Eo (Av st.fr l):=by have:=of_decide_eq_true a4;have J:M.Eo ({st with bB:=true,fr:=Av st.fr l}:Db).fr=M.Eo (Av st.fr l):=rfl;omega
  refine APi (q:= {q with Sb:=p,ns:=an}) aq bq (by omega) (λo v U br=>⟨_,rfl,a3 _ _ ?_⟩) λo ac au bH v aI cm cn S' co cp cq cr cs ct cv=>⟨_,rfl,a3 _ _ ?_⟩
  ·rw[aZ] at br;obtain⟨S',cw,cx⟩:=U.box;refine bu S o v ⟨λI=>U.fuel (aF.calm I),U.dn,⟨S',cw,λc e=>?_⟩,U.down,aa.then (U.mod.aj λc _ e=>T c e),λn u=>(U.dc n u).trans (a2 n u),U.wt⟩ br;rcases cx c e with F|F
   ·exact T c F
   ·exact .inr (by omega)
  ·refine a6 S o ac au bH v aI cm cn S' (aF.trans co) ⟨cq.trans aZ,λ_=>⟨cp,cr⟩,λh=>absurd h (by omega)⟩ (λn u=>(cs n u).trans (a2 n u)) (aa.then (ct.aj λc _ e=>T c e)) λc e=>?_
   rcases cv c e with F|F
   ·exact T c F
   ·exact .inr (by omega)
 ·have cU:M.Eo (Av st.fr l)<4096:=by have:=of_decide_eq_false a4;have J:M.Eo ({st with bB:=true,fr:=Av st.fr l}:Db).fr=M.Eo (Av st.fr l):=rfl;omega
  refine a3 _ _ ?_;exact a6 S I {q with Sb:=p,ns:=an} ap _ O _ rfl rfl (bq.aJ (by omega)) aF ⟨aZ,λh=>absurd h (by omega),λ_=>⟨rfl,rfl⟩⟩ a2 aa T
end
theorem ALS: ∀(l:List UInt8) (a:Nat),mW l->Tp a l<=999999999999->Lib.parseUint10 a l= .ok (Tp a l)
 | [],a,_,_=>rfl
 |c::l,a,hd,b=>by
  have h:Tp a (c::l)=Tp (a*10+(c.toNat-48)) l:=rfl;rw[h] at b ⊢;have d:=hd c (by simp);have f:=rI l (a*10+(c.toNat-48));unfold Lib.parseUint10;rw[if_pos d,if_neg (by omega),if_neg (by omega)];exact ALS l _ (λx e=>hd x (AG _ e)) b
theorem APM {a:Nat}(i:a<=999999999999):Lib.atoiAll (Lib.decDigits a)= .ok (a:Int):=by
 obtain⟨b,d⟩:=Zo a;cases e:Lib.decDigits a with
 |nil=>
  have:=congrArg List.length e;rw[Lib.decDigits_length] at this;have:=Lib.nDigits_pos a;simp at *;omega
 |cons c j=>
  rw[e] at b d;have o:=b c (by simp);have f:=ALS (c::j) 0 b (by rw[d];exact i);rw[d] at f;unfold Lib.atoiAll;simp only[];have l: ¬(c.toNat=43\/c.toNat=45):=by omega
  have n: ¬c.toNat=45:=by omega
  rw[if_neg l];unfold Lib.parseMag;rw[if_neg (by simp),f];simp only[n,not_false_eq_true,true_and,false_and,if_false];rw[if_neg (by omega)]
theorem AQm {A:ak}{h:aa}{a:Nat}{R:A2H}(f:a<=999999999999)(d: ∀e,Ext h e->R (J1 #[J6 J9 (a:Int),.nilIface]) e):AA A P VC #[J7 (AX (Lib.decDigits a))] h R:=by
 intro m;have i:(Lib.decDigits a).length<=20:=by rw[Lib.decDigits_length];exact Lib.nDigits_le20 a (by omega)
 refine Calls.mono (Proofs.Any.strconv_Atoi_ok Proofs.Tryz.gS (AX (Lib.decDigits a)) (by rw[AP];omega) (a:Int) (by rw[show(AX (Lib.decDigits a)).data.toList=Lib.decDigits a from Be _];exact APM f) (A.at h m)) ?_;rintro j l ⟨rfl,c|⟨t,c⟩⟩
 ·subst c;exact⟨_,rfl,h,m,rfl,d h Mod.refl⟩
 ·subst c;refine⟨_,rfl,_,_,rfl,d _ ?_⟩;refine⟨?_,λb n _=>?_⟩
  ·simp[Lib.bytesWorld,World.freeze,World.alloc,World.drew,ak.at]
  ·simp[Lib.bytesWorld,World.freeze,World.alloc,World.drew,ak.at,HS,Array.getElem?_push];rw[if_neg (by omega),if_neg (by omega)]
theorem AIW {A:ak}{h:aa}{s:Sl}{l:List Int}{v:Int}{R:A2H}(d:View GV h s l)(t:l.length<=1000000)(n:R (J3 (decide (v∈l))) h):AA A P Ex #[J4 s.p s.len s.cap,J6 J9 v] h R:=by
 refine Lt ?_;unfold Gz;refine NV ?_;unfold I6;refine Loop.rule (λo x p=> ∃i:Nat,x=((i:Int),())/\o=l.length-i/\i<=l.length/\p=h/\v∉l.take i) ?_ ⟨0,rfl,rfl,A5 _,rfl,by simp⟩;rintro K o _ _ ⟨i,rfl,rfl,u,rfl,e⟩ r;dsimp only;rw[d.len];refine af.intro (λf=>?_) (λf=>?_)
 ·have b:i<l.length:=by have:=of_decide_eq_true f;omega
  have ah:l[i]? =some l[i]:=A2 b;rw[<- d.len];refine d.idx ah λa _ c=>AC.mk c.int ?_
  refine af.intro (λq=>?_) (λq=>?_)
  ·have j:v=l[i]:=by simpa using q
   refine⟨_,rfl,?_⟩;rw[decide_eq_true (show((i:Int)>=0) by omega)];rwa [decide_eq_true (show v∈l by rw[j];exact AS b)] at n
  ·have j:v≠l[i]:=by simpa using q
   rw[Aa (by omega)];refine r (l.length-(i+1)) _ _ (by omega) ⟨i+1,rfl,rfl,b,rfl,?_⟩;rw[Ax,ah];simp only[Ds,HR,N5,not_or];exact⟨e,j⟩
 ·have b:i=l.length:=by have:=of_decide_eq_false f;omega
  subst b;rw[Bk] at e;refine⟨_,rfl,?_⟩;rwa [decide_eq_false e] at n
section
variable {A : ak} {g h : aa} {q : Hp} {k : Nat -> Nat} {st : Db} {m : Bx} {D : Bz} {R : A2H}
theorem AJa(b:bQ g h q k st m)(d:Nat):Lm k d q.tp q.np (λ_=>False)=k:=by
 funext c;unfold Lm;by_cases a:k c=0
 ·rw[if_neg (by simp[a]),if_neg (λh=>by have:=b.kt c h;rw[a] at this;cases this),if_neg (λh=>by have:=b.kx c h;rw[a] at this;cases this),if_neg (λh=>h),a]
 ·rw[if_pos a]
theorem bQ.jV {h':aa}{next:Nat}(b:bQ g h q k st m)(a:h'[q.d]? =some (J2 (eT q {st with next:=next} false) FW (0,0)))(x:Mod (· =q.d) h h'):bQ g h' q k {st with next:=next} m:=by have R:=b.rest (C:=λc=>c=1) (h':=h') (x.aj λc _ a=>by rw[a];exact b.kd) (by decide);have:=b.fG (h':=h') (tp:=q.tp) (np:=q.np) (ps:=q.ps) (ts:=st.ts) (next:=next) (aZ:=st.aZ) (S:=λ_=>False) a (x.aj λc _ a=> .inl a) (R.cy (by decide)) (R.names (by decide)) b.dw (λc a=> .inl a) (λc a=> .inl a) (λc h=>h.elim) (λi t p d e=> .inl ⟨i,d,e⟩);rw[AJa b] at this;exact this
theorem ARG {m:Bx}{x:A2I}:ff m x≠none↔x∈m.files.map (·.name):=by rw[<- zH (k:=x),Sr];cases ff m x<;>simp
theorem APe {s:A2I}(h:(dD s 0 != (116:Int))=false)(l:2<=s.size):(bl s).head? =some 116:=by
 have d:bl s=s.data.toList:=rfl;have a:=A7 s;cases b:bl s with
 |nil=>rw[b] at a;simp at a;omega
 |cons c n=>
  have e:dD s 0=116:=by simpa using h
  have f:s.data.toList[0]? =some c:=by rw[<- d,b];rfl
  have o:(c.toNat:Int)=116:=by have:=OI (i:=0) f;rw[<- e];exact this.symm
  have j:c.toNat=116:=by omega
  have:c=116:=by apply UInt8.toNat_inj.1;rw[j];rfl
  rw[this];rfl
theorem AOH {N:Nat}(a3:cu g)(E:bQ g h q k st m)(hd:m.down=false)(aF:BH (ff m) D)(a4:(Ar D).names=st.ts.map (·.1))(bC:N<=99999999)(a5: ∀b,ff m (ba b)≠none->b<N)(a6:st.next<=N)(bD:st.ts.length<=100000)(a7:m.files.length<=8000000000000)
  (a8:m.fuel≠ -1-> ∀h' S' n,Bl h' q.b S' n->n.down=true->Mod (λc=>k c≠0) h h'->(∀ c,S' c->k c≠0\/h.size<=c)->BH (ff n) D->(∀ e,(∀ b,e≠ba b)->ff n e=ff m e)->(∀ b,ff n (ba b)≠none->ff m (ba b)≠none)->aY n.files<=aY m.files->R (J6 J9 30) h')
  (a9: ∀h' S' aG n ac,bQ g h' {q with Sb:=S'} aG {st with next:=ac} n->IX m n->BH (ff n) D->(∀ e,(∀ b,e≠ba b)->ff n e=ff m e)->(∀ b,ff n (ba b)≠none->b∈st.ts.map (·.1))->st.next<=ac->ac<=N->aY n.files<=aY m.files->
   Mod (λc=>k c≠0) h h'->(∀ c,aG c≠0->k c≠0\/h.size<=c)->R (J6 J9 0) h'):AA A P PO #[Ak q.d] h R:=by
 refine ABg ?_;unfold Ue;refine aE (AY.mk (AL E.cell rfl) ?_);refine wT E.box λag r aj S bb=>⟨ag,_,rfl,?_⟩
 have bc:kI m=(m.files.map (·.name),0):=by unfold kI;rw[if_neg (by simp[hd])]
 rw[bc] at aj ⊢;refine af.no rfl ?_;dsimp only at aj;have bd:=zI E.box.aO;have ak:=λx=>ARG (m:=m) (x:=x)
 have bE:(m.files.map (·.name)).length<=8000000000000:=by simpa using a7
 generalize m.files.map (·.name)=d at*
 have be:=E.on S;have bF:=S.size;have v1:=aj.view;refine Loop.rule (λaH x u=> ∃(i:Nat) (H:Nat->Prop) (v:Nat->Nat) (l:Bx) (next:Nat),x=((i:Int),())/\aH=d.length-i/\i<=d.length/\bQ g u {q with Sb:=H} v {st with next:=next} l/\IX m l/\BH (ff l) D/\(∀ e,(∀ b,e≠ba b)->ff l e=ff m e)/\(∀ e,e∉d.take i->ff l e=ff m e)/\
   (∀ b,ba b∈d.take i->b∉st.ts.map (·.1)->ff l (ba b)=none)/\(∀ b,ff l (ba b)≠none->ff m (ba b)≠none)/\st.next<=next/\next<=N/\aY l.files<=aY m.files/\Mod (λc=>k c≠0) r u/\Grow k v r.size) ?_
  ⟨0,q.Sb,k,m,st.next,rfl,rfl,A5 _,be,IX.refl hd,aF,λ_ _=>rfl,λ_ _=>rfl,by simp,λ_ h=>h,A0 _,a6,A0 _,Mod.refl,Grow.refl⟩
 rintro K aH _ u ⟨i,H,v,l,next,rfl,rfl,bG,I,J,T,U,aw,V,sub,aI,aJ,W,L,M⟩ aK;dsimp only;have bI:=L.size;have aL: ∀c,v c≠0->k c≠0\/h.size<=c:=λc f=>by
  by_cases al:c<r.size
  ·rw[M c al] at f;exact .inl f
  ·exact .inr (by omega)
 have bf: ∀c,ag.ag=some c->k c=0:=λc f=>Decidable.byContradiction λh=>by
  have:=(E.own c h).2;have:=bb c f;omega
 have bg:View IR u ag d:=v1.mod L λc f am=>am (bf c f)
 rw[v1.len];refine af.intro (λan=>?_) (λan=>?_)
 ·have B:i<d.length:=by have:=of_decide_eq_true an;omega
  have ah:d[i]? =some d[i]:=A2 B;have aM:d[i]∈d:=AS B;have X:d.take (i+1)=d.take i++ [d[i]]:=by rw[Ax,ah];rfl
  have bh:d[i]∉d.take i:=λt=>by
   obtain⟨j,bi,o⟩:=CC t;have bJ:j<i:=by have:=bi;simp at this;omega
   rw[List.getElem_take] at o;have:=(Ln (h₀:=by omega) (h₁:=B) bd).1 o;omega
  rw[Aa (by omega)];refine ai.mk λbj aN=>?_
  rw[<- v1.len];refine bg.idx ah λa _ c=>AJ.mk c.str ?_
  have skip: ∀O Y,bQ g O {q with Sb:=H} Y {st with next:=next} l->Mod (λc=>k c≠0) r O->Grow k Y r.size->(∀ b,d[i]=ba b->b∈st.ts.map (·.1))->bj () O:=λO Y Z ao bk ap=>aN _ _ (by
   refine aK (d.length-(i+1)) _ _ (by omega) ⟨i+1,H,Y,l,next,rfl,rfl,B,Z,J,T,U,λe w=>aw e λt=>w (by rw[X];exact List.mem_append.2 (.inl t)),λb y aa=>?_,sub,aI,aJ,W,ao,bk⟩;rw[X] at y;rcases List.mem_append.1 y with y|y
   ·exact V b y aa
   ·exact absurd (ap b (List.mem_singleton.1 y).symm) aa)
  refine ai.mk λbm aO=>?_
  have aP:(∀ b,d[i]≠ba b)->bm (true,()) u:=λap=>aO _ _ (af.yes rfl (skip u v I L M λb o=>absurd o (ap b)))
  have bn: ∀b,2<=(ba b).size:=λb=>by
   have r:=A7 (ba b);rw[Xg] at r;have aq:=Lib.nDigits_pos b;have F:=Lib.decDigits_length b;rw[A6] at r;omega
  refine af.intro (λar=>?_) (λar=>?_)
  ·have aq:=of_decide_eq_true ar;exact aP λb o=>by have:=bn b;rw[<- o] at this;omega
  ·have aq:2<=d[i].size:=by have:=of_decide_eq_false ar;omega
   refine⟨⟨GC _,by omega⟩,?_⟩;cases au:(dD d[i] 0 != (116:Int)) with
   |true=>
    refine aP λb o=>?_
    have:dD d[i] 0=116:=by
     rw[o];have:=OI (s:=ba b) (i:=0) (c:=116) (by
      have F:=Xg b;show(bl (ba b))[0]? =_;rw[F];rfl)
     exact this
    rw[this] at au;cases au
   |false=>
    obtain⟨b,z⟩:=aF.dA d[i] ((ak _).2 aM) (APe au aq);have aQ:ff m (ba b)≠none:=by rw[<- z];exact(ak _).2 aM
    have bK:=a5 b aQ;refine aO _ _ (af.no rfl ⟨⟨by omega,by omega⟩,?_⟩);have bo:d[i].extract ((1:Int).toNat) d[i].size=AX (Lib.decDigits b):=by rw[show(1:Int).toNat=1 from rfl,sr,z];have:(ba b).data.toList=116::Lib.decDigits b:=Xg b;rw[this];rfl
    rw[bo];refine AQm (by omega) λO av=>⟨_,_,rfl,?_⟩
    have Z:=I.on av;have ao:=L.trans (Ext.mod av);refine ai.mk λbL aR=>⟨trivial,af.yes rfl ?_⟩
    refine Qt (Z.iC a3) (by omega) λaS ax=>⟨_,rfl,?_⟩
    have G:=Z.on ax;have aT:=ao.trans (Ext.mod ax);have bp:bU (ba b) d[i]=true:=by rw[z,CZ];exact decide_eq_true rfl
    rw[bp];refine af.yes rfl (aE (Ad.mk (s:=q.np) (AB G.cell rfl) ?_));refine AIW G.names.view (by simp[eV];omega) ⟨_,rfl,?_⟩;have aU:((b:Int)∈eV ({st with next:=next}:Db))↔b∈st.ts.map (·.1):=by
     simp only[eV,List.mem_map];constructor
     ·rintro⟨p,ay,o⟩;exact⟨p,ay,by omega⟩
     ·rintro⟨p,ay,o⟩;exact⟨p,ay,by omega⟩
    by_cases t:b∈st.ts.map (·.1)
    ·rw[decide_eq_true (aU.2 t)];exact aR _ _ (af.no rfl (skip aS v G aT M λab o=>by rw[z] at o;rw[<- Jh o];exact t))
    rw[decide_eq_false λh=>t (aU.1 h)];refine aR _ _ (af.yes rfl ?_);refine aE (AY.mk (AL G.cell rfl) ?_);have bq:(ff l (ba b)).isSome=true:=by
     rw[aw (ba b) (by rw[<- z];exact bh)];cases br:ff m (ba b) with
     |none=>exact absurd br aQ
     |some p=>rfl
    rw[z];refine SX G.box λaV az aA aW aX=>⟨_,rfl,?_⟩
    have aZ:Mod (λc=>k c≠0) r aV:=aT.then (aW.aj λc _ f=>by
     have a0:v c≠0:=by rw[I.kb c f];decide
     by_cases al:c<r.size
     ·rw[M c al] at a0;exact .inl a0
     ·exact .inr (by omega))
    have bM:=(av.trans ax).size;rcases N8 (k:=ba b) J.up bq with⟨bs,aC⟩|⟨aC,bt,Q⟩
    ·rw[aC] at aA ⊢;refine af.yes rfl ?_;refine a8 (λu=>by have:=J.calm u;rw[bs] at this;cases this) aV az (LQ l) aA rfl ((Ext.mod S).trans aZ) (λc f=>?_) T U sub W;exact aL c (by
      have:=I.kb c (aX c f);rw[this];decide)
    ·rw[aC];refine af.no rfl ?_;have aD:=G.boxed (j:=2) (bH:= {st with next:=next}) aA (aW.aj λc _ f=> .inl f) (λc f=> .inl (aX c f)) rfl rfl rfl rfl (.inl ⟨by decide,rfl,rfl⟩) (.inl ⟨by decide,rfl⟩);refine aE (AC.mk (AB aD.cell rfl) ?_);have bu:J8 J9 ((b:Int)+(1:Int))=((b+1:Nat):Int):=Aa (by omega);rw[bu];have bv:(if(((b+1:Nat):Int):Int)>((next:Nat):Int) then((b+1:Nat):Int) else((next:Nat):Int))=((max (b+1) next:Nat):Int):=by split<;>omega
     refine aE (ae.dy aD.cell (by simp) λbw a1 a2 bN=>?_);rw[bv] at a1;have bx:=aD.jV (h':=bw) (next:=max (b+1) next) (by simpa [eT] using a1) a2;have bz:Grow k (IZ v aS.size az 2) r.size:=λc f=>by rw[Ga (by omega)];exact M c f
     have bA:=Vi (m:=l) (ba b);refine aN _ _ ?_;refine aK (d.length-(i+1)) _ _ (by omega) ⟨i+1,az,_,_,max (b+1) next,rfl,rfl,B,bx,J.trans bt,?_,λe w=>?_,λe w=>?_,λab C aa=>?_,λab C=>?_,by omega,by omega,As bA W,?_,bz⟩
     ·refine T.gu λx bB=>?_
      rw[Q,if_neg (bB b (by rw[a4];exact t))]
     ·rw[Q,if_neg (w b)];exact U e w
     ·rw[X] at w;simp only[HR,N5,not_or] at w;rw[Q,if_neg (by rw[<- z];exact w.2)];exact aw e w.1
     ·rw[Q];split
      ·rfl
      ·rename_i am;rw[X] at C;rcases List.mem_append.1 C with F|F
       ·exact V ab F aa
       ·exact absurd ((List.mem_singleton.1 F).trans z) am
     ·rw[Q] at C;split at C
      ·exact absurd rfl C
      ·exact sub ab C
     ·refine aZ.trans (a2.aj λc _ f=>?_);have:c=q.d:=f;rw[this,E.kd];decide
 ·have B:i=d.length:=by have:=of_decide_eq_false an;omega
  subst B;rw[Bk] at aw V;refine a9 u H v l next I J T U (λb y=>?_) aI aJ W ((Ext.mod S).trans L) aL
  by_cases t:b∈st.ts.map (·.1)
  ·exact t
  ·exact absurd (V b ((ak _).1 (sub b y)) t) y
end
theorem AN6 {f:Type}{c:Nat->List f}{l:List Nat}{d:Nat}(g:l.Pairwise (· < ·))(h: ∀a∈l,a<d)(i: ∀a,a<d->a∉l->c a= []):(List.range d).flatMap c=l.flatMap c:=by
 have j:l=(List.range d).filter λa=>decide (a∈l):=by
  refine xE g (List.pairwise_lt_range.sublist FA) λa=>?_
  simp only[List.mem_filter,KK,decide_eq_true_eq];exact⟨λb=>⟨h a b,b⟩,λb=>b.2⟩
 have key: ∀L:List Nat,(∀ a∈L,a<d)->L.flatMap c=(L.filter λa=>decide (a∈l)).flatMap c:=by
  intro L
  induction L with
  |nil=>intro _;rfl
  |cons a L k=>
   intro e;rw[AH,AT,k λm n=>e m (AG _ n)];by_cases b:a∈l
   ·rw[if_pos (by simpa using b),AH]
   ·rw[if_neg (by simpa using b),i a (e a (by simp)) b,CT]
 rw[key _ λa o=>List.mem_range.1 o,<-j]
theorem AO1 {l:List Nat}(e:l.Pairwise (· < ·)){a:Nat}(d:a∈l):a<=l.getLast?.getD 0:=by
 cases b:l.getLast? with
 |none=>
  rw[List.getLast?_eq_none_iff] at b;subst b;cases d
 |some x=>
  show a<=x;obtain⟨f,rfl⟩:=List.getLast?_eq_some_iff.1 b;rcases List.mem_append.1 d with c|c
  ·exact Nat.le_of_lt ((List.pairwise_append.1 e).2.2 a c x (by simp))
  ·rw[List.mem_singleton.1 c];exact A0 _
theorem YU {m:Bx}{b:A2I}{e:Nat}{g:Nat->List (List UInt8)}{l:List Nat}(hd:m.down=false)(n:gN (ff m) b e g)(j:nq b m l)(y:1<=e/\e<=99999999):
  TV b m l=((List.range e).flatMap g).map AX/\l.getLast?.getD 0+1<=e/\(∀ a,l.getLast?.getD 0+1<=a->a<=99999999->ff m (aD b a)=none):=by
 have o: ∀a,1<=a->a<=99999999->(a∈l↔ff m (aD b a)≠none):=λa h c=>by
  rw[j.mem,Sr];constructor
  ·rintro⟨_,_,d⟩ r;rw[r] at d;cases d
  ·intro d;refine⟨h,c,?_⟩;cases i:ff m (aD b a) with
   |none=>exact absurd i d
   |some p=>rfl
 have q: ∀a∈l,a<e:=λa f=>by
  obtain⟨h,c,_⟩:=(j.mem a).1 f;have k:=(o a h c).1 f;exact Decidable.byContradiction λd=>k (n.out a (by omega) c)
 have k:TV b m l=l.flatMap λa=>(g a).map AX:=AQx hd λa f=>by
  obtain⟨h,c,_⟩:=(j.mem a).1 f;have k:=(o a h c).1 f;cases i:ff m (aD b a) with
  |none=>exact absurd i k
  |some p=>
   obtain⟨s,t⟩:=n.has a p h c i;refine⟨p,rfl,?_⟩;rw[s,OY,B9];have:(g a).map (bl∘AX)=g a:=by
    conv=>rhs;rw[<- Jx (g a)]
    exact CD λx _=>EF x
   rw[this];exact t
 refine⟨?_,?_,λa f c=>?_⟩
 ·rw[k,Ks];refine(AN6 j.inc q λa f u=>?_).symm;by_cases v:a=0
  ·rw[n.lY a (.inl v)];rfl
  ·have i:ff m (aD b a)=none:=Decidable.byContradiction λd=>u ((o a (by omega) (by omega)).2 d)
   rw[n.jP a (by omega) (by omega) i];rfl
 ·cases w:l.getLast? with
  |none=>show 0+1<=e;omega
  |some x=>
   have:=q x (SJ w);show x+1<=e;omega
 ·exact Decidable.byContradiction λd=>by
   have:=AO1 j.inc ((o a (by omega) c).2 d);omega
open Classical in
noncomputable def kM (Sb:Nat->Prop) (a nt ft b d:Nat) (tp np:Sl) (e T:Nat->Prop):Nat->Nat:=λc=>
 if Sb c then 2 else if c<a then 0 else if c=nt then 4 else if c=ft then 5 else if c=b then 1 else if c=d then 3 else if tp.ag=some c then 6 else if np.ag=some c then 7 else if e c then 5 else if T c then 8 else 0
theorem AHk {Sb:Nat->Prop}{d nt ft e f:Nat}{tp np:Sl}{g T:Nat->Prop}{c:Nat}(h:kM Sb d nt ft e f tp np g T c≠0):Sb c\/(d<=c/\(c=nt\/c=ft\/c=e\/c=f\/tp.ag=some c\/np.ag=some c\/g c\/T c)):=by
 by_cases a:Sb c
 ·exact .inl a
 by_cases b:c<d
 ·exact absurd (by unfold kM;rw[if_neg a,if_pos b]) h
 refine .inr ⟨by omega,Classical.byContradiction λi=>h ?_⟩;simp only[not_or] at i;obtain⟨j,k,l,m,n,o,p,q⟩:=i;unfold kM;rw[if_neg a,if_neg b,if_neg j,if_neg k,if_neg l,if_neg m,if_neg n,if_neg o,if_neg p,if_neg q]
theorem bQ.make {g h:aa}{q:Hp}{st:Db}{m:Bx}{N0 NB NC ND:Nat}(cell:h[q.d]? =some (J2 (eT q st false) FW (0,0)))(n:Bl h q.b q.Sb m)(o:Eg h q.lg q.b nl st.az st.bB)(r:Eg h q.nt q.b nn st.aM false)(fresh:M.dt h q.ft q.ns st.fr)
  (s:Own gb BJ h q.tp q.ps) (y:q.ps.length=st.ts.length) (names:Own GV Bp h q.np (eV st)) (ext:Ext g h) (H:g.size<=N0) (u: ∀c,q.Sb c->g.size<=c/\c<N0)
  (I:N0<=q.nt) (J:q.nt<q.ft) (K:q.ft<q.d) (L:q.d<NB) (N:NB<=NC) (O:NC<=q.lg) (P:q.lg<ND) (k: ∀c,q.np.ag=some c->q.d<c/\c<NB) (l: ∀c,q.tp.ag=some c->NB<=c/\c<NC) (v: ∀c,M.dk q.ft q.ns c->c=q.ft\/ND<=c)
  (z: ∀(i:Nat) (t:Nat) (p:Nat×List Pr),q.ps[i]? =some t->st.ts[i]? =some p-> ∃e f,bW h t p.2 (NJ p.2) e f/\NB<=e/\f<=NC/\(∀ c,q.tp.ag=some c-> ¬(e<=c/\c<f))/\Hg p.2) (Q:NC<=h.size):
  ∃w,bQ g h q w st m/\ ∀c,w c≠0->q.Sb c\/N0<=c:=by
 let T:Nat->Prop:=λc=>(NB<=c/\c<NC)/\q.tp.ag≠some c
 have d: ∀c,N0<=c-> ¬q.Sb c:=λc b j=>by have:=(u c j).2;omega
 refine⟨kM q.Sb N0 q.nt q.ft q.d q.lg q.tp q.np (M.dk q.ft q.ns) T,⟨cell,n,o,r,fresh,s,y,λi t p A B=>?_,names,?_,λc b=>?_,?_,?_,λc b=>?_,λc b=>?_,λc b=>?_,λc b=>?_,ext⟩,λc b=>?_⟩
 ·obtain⟨e,f,C,R,S,D,E⟩:=z i t p A B;refine⟨e,f,C,by omega,λc c1 c2=>?_,E⟩;have x:T c:=⟨⟨by omega,by omega⟩,λa=>D c a ⟨c1,c2⟩⟩;have F: ¬M.dk q.ft q.ns c:=λG=>by rcases v c G with h|h<;>omega
  unfold kM;rw[if_neg (d c (by omega)),if_neg (by omega),if_neg (by omega),if_neg (by omega),if_neg (by omega),if_neg (by omega),if_neg x.2,if_neg (λa=>by have:=k c a;omega),if_neg F,if_pos x]
 ·unfold kM;rw[if_neg (d _ (by omega)),if_neg (by omega),if_neg (by omega),if_neg (by omega),if_pos rfl]
 ·unfold kM;rw[if_pos b]
 ·unfold kM;rw[if_neg (d _ (by omega)),if_neg (by omega),if_neg (by omega),if_neg (by omega),if_neg (by omega),if_pos rfl]
 ·unfold kM;rw[if_neg (d _ (by omega)),if_neg (by omega),if_pos rfl]
 ·unfold kM;rcases v c b with rfl|h
  ·rw[if_neg (d _ (by omega)),if_neg (by omega),if_neg (by omega),if_pos rfl]
  ·rw[if_neg (d c (by omega)),if_neg (by omega),if_neg (by omega),if_neg (by omega),if_neg (by omega),if_neg (by omega),if_neg (λa=>by have:=l c a;omega),if_neg (λa=>by have:=k c a;omega),if_pos b]
 ·have:=l c b;unfold kM;rw[if_neg (d c (by omega)),if_neg (by omega),if_neg (by omega),if_neg (by omega),if_neg (by omega),if_neg (by omega),if_pos b]
 ·have:=k c b;unfold kM;rw[if_neg (d c (by omega)),if_neg (by omega),if_neg (by omega),if_neg (by omega),if_neg (by omega),if_neg (by omega),if_neg (λa=>by have:=l c a;omega),if_pos b]
 ·rcases AHk b with j|⟨U,a|a|a|a|a|a|a|a⟩
  ·exact⟨(u c j).1,n.lt j⟩
  ·exact⟨by omega,by rw[a];exact Ag r⟩
  ·exact⟨by omega,by rw[a];exact fresh.lt (.inl rfl)⟩
  ·exact⟨by omega,by rw[a];exact Ag cell⟩
  ·exact⟨by omega,by rw[a];exact Ag o⟩
  ·exact⟨by omega,s.lt a⟩
  ·exact⟨by omega,names.lt a⟩
  ·exact⟨by omega,fresh.lt a⟩
  ·exact⟨by omega,by have:=a.1.2;omega⟩
 ·exact(AHk b).imp id λh=>h.1
def KX(D:Bz):List (Nat×List Pr):=(List.range D.aS).flatMap λa=>(D.L a).map λb=>(a,b)
def Pq(f:Nat)(l:List (Nat×List Pr)):List (List Pr):=(l.filter λp=>decide (f<=p.1)).map (·.2)
theorem ZZ(f:Nat)(a b:List (Nat×List Pr)):Pq f (a++b)=Pq f a++Pq f b:=by simp[Pq]
theorem AMJ(D:Bz):Pq (Ar D).aZ (KX D)=Ih D:=by
 unfold KX Ih;have key: ∀L:List Nat,Pq (Ar D).aZ (L.flatMap λa=>(D.L a).map λb=>(a,b))=L.flatMap λa=>if a<(Ar D).aZ then [] else D.L a:=by
  intro L
  induction L with
  |nil=>rfl
  |cons a L d=>
   rw[AH,AH,ZZ,d];congr 1;unfold Pq;rw[OF];split
   ·rename_i h;have:(λb:List Pr=>decide ((Ar D).aZ<=((a,b):Nat×List Pr).1))=λ_=>false:=by funext b;simp;omega
    simp[Fl];omega
   ·rename_i h;simp[Fl];intro b _;omega
 exact key _
theorem AR3 {d:bT}{D:Bz}(h:BH d D): ∀p∈KX D,p.1<=99999999/\Y0 p.2:=λp e=>by
 obtain⟨a,f,i⟩:=List.mem_flatMap.1 e;obtain⟨b,j,rfl⟩:=List.mem_map.1 i;have:=List.mem_range.1 f;have:=h.cF;exact⟨by show a<=_;omega,h.gi a b j⟩
theorem ANp(D:Bz):((List.range D.aS).flatMap λa=>(D.L a).map (BU a)).map AX=(KX D).map λp=>AX (BU p.1 p.2):=by
 unfold KX;rw[Ks,Ks];unfold List.flatMap;congr 1;refine CD λa _=>?_
 rw[B9,B9];rfl
theorem ARh {f:Nat}{l:List (Nat×List Pr)}(i:Nat):(Pq f (l.take i)).flatten.length<=(Pq f l).flatten.length:=by
 conv=>rhs;rw[<- DH i l,ZZ,MT,A1]
 omega
theorem AKU(D:Bz):((List.range D.bd).flatMap λa=>(D.N a).map EG).map AX=(Nk D).map λx=>AX (EG x):=by unfold Nk;rw[Ks,Ks];unfold List.flatMap;congr 1;exact CD λa _=>by rw[B9];rfl
theorem View.modn {e:Type}{d:cL e}{h f:aa}{s:Sl}{l:List e}{j:Nat->Prop}(v:View d h s l)(m:Mod j h f)(o: ∀c,s.ag=some c->c<h.size-> ¬j c):View d f s l:=by refine⟨v.len,v.cap,λi x p=>?_⟩;obtain⟨a,k,n⟩:=v.cells i x p;refine⟨a,k,n.mod m ?_⟩;have r:=d.pos;have t:=d.len x;obtain⟨u,q⟩: ∃u,(d.enc x)[0]? =some u:=⟨_,A2 (by omega)⟩;have:=Vk (n 0 u q);rw[aU,aU] at this;rw[aU];exact o _ (by simp[Sl.ag,k]) this
section
variable {A : ak} {B : bV} {g h : aa} {b : Nat} {Sb : Nat -> Prop} {m : Bx} {D : Bz} {aJ c : Nat} {R : A2H}
theorem AHd(E:cu g)(aH:Bl h b Sb m)(Q:Ext g h)(b8: ∀c,Sb c->g.size<=c)(hd:m.down=false)(ab:BH (ff m) D)(C:jA (ff m) D aJ c)(d:c<=B.C)(hA:aJ+1<=B.A)(bo:aY m.files<=B.W0+aJ*B.K)
  (dk:m.fuel≠ -1-> ∀aj dl S' ak,Bl aj b S' ak->ak.down=true->Mod Sb h aj->(∀ c,S' c->Sb c\/h.size<=c)->jB (ff ak) (aJ+1) c (cM D)->(∀ w,¬cz w->ff ak w=ff m w)->aY ak.files<=B.W0+(aJ+1)*B.K->R (J1 #[Ak dl,J6 J9 30]) aj)
  (dm: ∀aj bp b9 ca ak dn,bp.b=b->Bt B g aj bp b9 ca ak dn (aJ+1) c->IX m ak->CY ca=cM D->(∀ w,¬cz w->ff ak w=ff m w)->Mod Sb h aj->(∀ c,b9 c≠0->Sb c\/h.size<=c)->R (J1 #[Ak bp.d,J6 J9 0]) aj):
  AA A P Pb #[Ak b] h R:=by
 have fb:=B.hA;have fc:=B.hC;have cb:=As bo (B.wt (a:=aJ) (by omega));have ay:=ab.cF;have S:=AIS ab;have fd:=C.aS;have fe:=C.bd;have fg:=C.aZ;have dp:=C.next;have fh:=C.cw;have al: ∀c,Sb c->c<h.size:=λc d=>aH.lt d
 refine AIT ?_;unfold vM;refine zN (E.ext Q) aH hd (by decide) (by decide) cb (λaj l aV dq _=>?_) λj l nt sl aV dq cc cd ce v1 fi=>⟨_,_,_,rfl,af.no rfl ?_⟩
 ·obtain⟨_,dr,_⟩:=YU hd ab.note aV ay.2.2;omega
 obtain⟨cf,dr,ds⟩:=YU hd ab.note aV ay.2.2;rw[AKU] at cf;have bq:=sK (nm:=nn) (m:=m) hd aV.inc;rw[cf] at v1 bq;have dt:1<=l.getLast?.getD 0+1:=by omega
 generalize l.getLast?.getD 0+1=aM at*
 refine M.tJ λo du br fj=>⟨_,rfl,ao.mk λI _ cg aW fk=>?_⟩
 have ch:=cc.trans br;have ci:=ch.trans aW;have dv:nt<j.size:=Ag ce;have cj:Eg I nt b nn aM false:=Eg.ext (Eg.ext ce br) aW;have ck:M.dt I j.size [] []:=du.ext aW;have cl:=(v1.ext br).ext aW;have fl:=cc.size;refine ai.mk λK dw=>?_
 have bs: ∀(hB:aa) (np:Sl),Ext h hB->hB[o.size]? =some (J2 #[Ak b,J5 none,Ak nt,Ak j.size,J4 none 0 0,J4 np.p np.len np.cap,J6 J9 ((Ar D).next:Int),J6 J9 ((Ar D).aZ:Int),J3 false] FW (0,0))->
   Own GV Bp hB np ((Ar D).names.map λn:Nat=>(n:Int))->(∀ c,np.ag=some c->o.size<c)->Eg hB nt b nn aM false->M.dt hB j.size [] []->K () hB:=by
  intro hB np aX aI ap ac dx dy;refine dw _ _ ?_;have fm:=aX.size;have fn:=E.ext (Q.trans aX);have dz:o.size<hB.size:=Ag aI;have fo:h.size<=o.size:=ch.size;refine Ad.mk (s:=np) (AB aI rfl) ?_;have cm:np.len=(Ar D).names.length:=by rw[ap.len];simp
  refine Loop.rule (λF x k=> ∃(i:Nat) (tp:Sl) (ps:List Nat),x=((i:Int),())/\F=(Ar D).names.length-i/\i<=(Ar D).names.length/\Mod (λc=>c=o.size\/hB.size<=c) hB k/\
    k[o.size]? =some (J2 #[Ak b,J5 none,Ak nt,Ak j.size,J4 tp.p tp.len tp.cap,J4 np.p np.len np.cap,J6 J9 ((Ar D).next:Int),J6 J9 ((Ar D).aZ:Int),J3 false] FW (0,0))/\
    Own gb BJ k tp ps/\ps.length=i/\(∀ c,tp.ag=some c->hB.size<=c)/\ ∀(r t n:Nat),ps[r]? =some t->(Ar D).names[r]? =some n-> ∃T U,bW k t (D.T n) (NJ (D.T n)) T U/\hB.size<=T/\U<=k.size/\ ∀c,tp.ag=some c-> ¬(T<=c/\c<U)) ?_
   ⟨0,⟨none,0,0⟩,[],rfl,rfl,A5 _,Mod.refl,aI,Own.nil,rfl,λc d=>by simp[Sl.ag] at d,λr t n e=>by simp at e⟩
  rintro fp F _ k ⟨i,tp,ps,rfl,rfl,U,J,aq,an,bt,ar,cn⟩ co;dsimp only;have cp:=J.size;have V:Ext h k:=aX.then (J.aj λc _ d=>by omega);have dA:View GV k np ((Ar D).names.map λn:Nat=>(n:Int)):=ap.view.mod J λc d e=>by
   have:=ac c d;have:=ap.lt d;omega
  rw[cm];refine af.intro (λu=>?_) (λu=>?_)
  ·have v:i<(Ar D).names.length:=by have:=of_decide_eq_true u;omega
   have ah:(Ar D).names[i]? =some (Ar D).names[i]:=A2 v;have cq:(Ar D).names[i]∈(Ar D).names:=AS v;have fq:=S.below _ cq;have fr:=S.next;have fs:=S.cw;obtain⟨dB,dC⟩:=ab.cW _ cq;rw[<- cm];refine dA.idx (i:=i) (x:=((Ar D).names[i]:Int)) (by rw[BE,ah];rfl) λa _ au=>AC.mk au.int ?_
   generalize (Ar D).names[i]=nm at*
   refine Qt (E.ext (Q.trans V)) (by omega) λaZ bu=>⟨_,rfl,?_⟩
   refine Yk (aH.ext (V.trans bu)) ⟨_,_,rfl,?_⟩;rw[Yd hd,dB];dsimp only;rw[OY];refine af.no rfl ?_;refine AIk dC.fx λa0 t cr dD=>⟨_,_,rfl,af.no rfl ?_⟩
   have a1:=bu.trans cr;have cs:=Ap a1 aq;refine Ad.mk (s:=tp) (AB cs rfl) ?_;have ft:=bu.size;have fu:=cr.size;refine ao.bq (E:=gb) (x:=t) (s:=tp) (l:=ps) rfl wU (an.ext a1) (by omega) (by simp[maxLen];omega) λaK fv dE aL bv _=>?_
   have dF:=aL.ag cs (λe=>by have:=ar _ e;omega);refine ae.dy dF (by simp) λfw dG a2 fx=>?_
   rw[Aa (by omega)];have ct: ∀c,aK.ag=some c->hB.size<=c:=λc d=>by
    rcases bv c d with h|h
    ·exact ar c h
    ·omega
   have fy:=aL.size;refine co ((Ar D).names.length-(i+1)) _ _ (by omega) ⟨i+1,aK,ps++ [t],rfl,rfl,v,?_,by simpa using dG,dE.mod a2 (λc d e=>by have:=ct c d;omega),by simp[bt],ct,λr t' n ag W=>?_⟩
   ·exact(J.trans (Ext.mod a1)).trans ((aL.aj λc _ d=> .inr (ar c d)).trans (a2.aj λc _ d=> .inl d))
   ·by_cases cv:r<ps.length
    ·rw[G3 cv] at ag;obtain⟨T,bw,bx,bz,cw,a3⟩:=cn r t' n ag W;refine⟨T,bw,((bx.ext a1).mod aL λc c1 c2 d=>a3 c d ⟨c1,c2⟩).mod a2 (λc c1 c2 d=>by omega),bz,by omega,λc d cx=>?_⟩;rcases bv c d with h|h
     ·exact a3 c h cx
     ·omega
    ·have dH:r=ps.length:=by have:=(List.getElem?_eq_some_iff.1 ag).1;simp at this;omega
     subst dH;rw[Ek (A0 _)] at ag;simp at ag;subst ag;rw[bt,ah] at W;cases W;refine⟨aZ.size,a0.size,(dD.mod aL λc c1 c2 d=>by have:=an.lt d;omega).mod a2 (λc c1 c2 d=>by omega),by omega,by omega,λc d cx=>?_⟩;rcases bv c d with h|h
     ·have:=an.lt h;omega
     ·omega
  have v:i=(Ar D).names.length:=by have:=of_decide_eq_false u;omega
  clear co U u;have dI:Eg k nt b nn aM false:=dx.mod J (by omega);have dJ:M.dt k j.size [] []:=dy.mod J λc d e=>by
   rcases d with rfl|⟨w,y,_⟩
   ·omega
   ·cases y
  refine zN (E.ext (Q.trans V)) (aH.ext V) hd (by decide) (by decide) cb (λaj bA a4 dK _=>?_) λdL bA X bB a4 dK az dM cy cB bC=>⟨_,_,_,rfl,af.no rfl ?_⟩
  ·obtain⟨_,dN,_⟩:=YU hd ab.log a4 ⟨ay.1,ay.2.1⟩;omega
  obtain⟨cC,dN,dO⟩:=YU hd ab.log a4 ⟨ay.1,ay.2.1⟩;rw[ANp] at cC;have cD:=sK (nm:=nl) (m:=m) hd a4.inc;rw[cC] at cB cD;have fz:1<=bA.getLast?.getD 0+1:=by omega
  generalize bA.getLast?.getD 0+1=a5 at*
  have dP:=Ap az aq;have fA:X<dL.size:=Ag cy;refine ae.dy dP (by simp) λaN dQ av fB=>?_
  have fC:=az.size;have fE:o.size<k.size:=Ag aq;have dR:Eg aN X b nl a5 false:=Eg.mod cy av (by omega);have dS:Bl aN b Sb m:=((aH.ext V).ext az).mod av λc d e=>by have:=al c d;omega
  have dT: ¬Sb X:=λd=>by have:=al _ d;have:=V.size;omega
  have a6:Ext h aN:=(V.trans az).then (av.aj λc _ d=> .inr (by omega));have fF:=av.size;refine Loop.rule (λF (_:Unit) Q=> ∃s:Nat,F=(Ar D).aZ-s/\Eg Q X b nl s false/\Bl Q b Sb m/\Mod (λc=>Sb c\/c=X) aN Q/\a5<=s/\(s=a5\/s<=(Ar D).aZ)) ?_ ⟨a5,rfl,dR,dS,Mod.refl,A0 _,.inl rfl⟩;rintro fG F _ H ⟨s,rfl,bD,cE,Y,fH,fI⟩ cF;have fJ:=S.aZ;have aA:=Y.ag dQ (by rintro(h|h);have:=al _ h;omega;omega);have cG:Ext g H:=(Q.trans a6).then (Y.aj λc _ d=>by
   rcases d with d|rfl
   ·exact .inr (b8 c d)
   ·exact .inr (by have:=Q.size;have:=V.size;omega))
  have dU:cu H:=E.ext cG;refine AY.mk (AB aA rfl) (AC.mk (AB aA rfl) ?_);refine O7 ?_;unfold Lp;refine af.no rfl (aE (AC.mk (AB bD rfl) ⟨_,rfl,?_⟩));refine⟨AB aA rfl,?_⟩;refine af.intro (λbE=>?_) (λbE=>?_)
  ·have bF:=of_decide_eq_true bE;refine AY.mk (AB aA rfl) ?_;refine XT dU bD cE dT (by decide) (by omega) (λbG=>absurd rfl bG) λ_ fK dV dW dX=>⟨_,_,rfl,af.no rfl ?_⟩
   exact cF ((Ar D).aZ-(s+1)) _ _ (by omega) ⟨s+1,rfl,dW,dV,Y.trans dX,by omega,.inr (by omega)⟩
  have dY:(Ar D).aZ<=s:=by have:=of_decide_eq_false bE;omega
  clear cF;have fL:=Y.size;have cH:View IR H bB ((KX D).map λp=>AX (BU p.1 p.2)):=(cB.mod av λc d e=>by have:=(bC c d).1;omega).mod Y λc d e=>by
   have j:=bC c d;rcases e with e|e
   ·have:=al c e;have:=V.size;omega
   ·exact j.2 e
  have dZ: ∀c,bB.ag=some c->k.size<=c:=λc d=>(bC c d).1
  have d0:M.dt H j.size [] []:=((dJ.ext az).mod av λc d e=>by
   rcases d with rfl|⟨w,y,_⟩
   ·omega
   ·cases y).mod Y λc d e=>by
   rcases d with rfl|⟨w,y,_⟩
   ·rcases e with e|e
    ·have:=al _ e;omega
    ·have:=V.size;omega
   ·cases y
  have cI:bB.len=(KX D).length:=by rw[cH.len];simp
  have d1:=AR3 ab;have d2:=C.ck;have fM:(Pq (Ar D).aZ (KX D)).flatten.length<=c:=by rw[AMJ];have:OU D=_:=rfl;unfold OU at d2;omega
  refine Loop.rule (λF aO y=> ∃(i:Nat) (ns:List M.DR),aO=((i:Int),())/\F=(KX D).length-i/\i<=(KX D).length/\Mod (λc=>c=j.size\/H.size<=c) H y/\M.dt y j.size ns (Av [] (Pq (Ar D).aZ ((KX D).take i)).flatten)/\ ∀c,M.dk j.size ns c->c=j.size\/H.size<=c) ?_
   ⟨0,[],rfl,rfl,A5 _,Mod.refl,d0,λc d=>by
    rcases d with rfl|⟨w,y,_⟩
    ·exact .inl rfl
    ·cases y⟩
  rintro fO F _ am ⟨i,ns,rfl,rfl,U,L,aP,bH⟩ bI;dsimp only;have fP:=L.size;have d3:=View.modn cH L λc d bF e=>by have:=dZ c d;omega
  have cJ:=L.ag aA (by omega);rw[cI];refine af.intro (λu=>?_) (λu=>?_)
  ·have v:i<(KX D).length:=by have:=of_decide_eq_true u;omega
   have ah:(KX D)[i]? =some (KX D)[i]:=A2 v;obtain⟨cK,a7⟩:=d1 _ (AS v);have cL:(KX D).take (i+1)=(KX D).take i++ [(KX D)[i]]:=by rw[Ax,ah];rfl
   have d4:=ARh (f:=(Ar D).aZ) (l:=KX D) (i+1);refine ai.mk λfQ bJ=>?_
   rw[<- cI];refine d3.idx (i:=i) (x:=AX (BU (KX D)[i].1 (KX D)[i].2)) (by rw[BE,ah];rfl) λa _ au=>AJ.mk au.str ?_
   have d5:J8 J9 ((i:Int)+(1:Int))=((i+1:Nat):Int):=Aa (by rw[AW] at cD;omega);rw[d5] at bJ;generalize (KX D)[i]=d6 at*
   obtain⟨bK,z⟩:=d6;dsimp only at cK a7 ⊢;refine AKC cK a7.len a7.ok λcN d7 cO aC d8=>⟨_,_,_,rfl,af.no rfl ?_⟩
   have d9:=Ap aC cJ;refine AC.mk (AB d9 rfl) ?_;refine af.intro (λbL=>?_) (λbL=>?_)
   ·have bF:=of_decide_eq_true bL;refine bJ _ _ (bI ((KX D).length-(i+1)) _ _ (by omega) ⟨i+1,ns,rfl,rfl,v,L.trans (Ext.mod aC),?_,bH⟩);have e:Pq (Ar D).aZ ((KX D).take (i+1))=Pq (Ar D).aZ ((KX D).take i):=by
     rw[cL,ZZ];have:Pq (Ar D).aZ [(bK,z)]= []:=by unfold Pq;rw[AT,if_neg (by simp;omega)];rfl
     rw[this,AN]
    rw[e];exact aP.ext aC
   ·have ea:(Ar D).aZ<=bK:=by have:=of_decide_eq_false bL;omega
    have e:(Pq (Ar D).aZ ((KX D).take (i+1))).flatten=(Pq (Ar D).aZ ((KX D).take i)).flatten++z:=by
     rw[cL,ZZ];have:Pq (Ar D).aZ [(bK,z)]= [z]:=by unfold Pq;rw[AT,if_pos (by simpa using ea)];rfl
     rw[this];simp
    rw[e,A1] at d4;have fR:=aC.size;refine Loop.rule (λF aO a8=> ∃(r:Nat) (aQ:List M.DR),aO=((r:Int),())/\F=z.length-r/\r<=z.length/\Mod (λc=>c=j.size\/H.size<=c) H a8/\M.dt a8 j.size aQ (Av (Av [] (Pq (Ar D).aZ ((KX D).take i)).flatten) (z.take r))/\(∀ c,M.dk j.size aQ c->c=j.size\/H.size<=c)/\View BO a8 cN z/\(∀ c,cN.ag=some c-> ¬M.dk j.size aQ c)/\d7.size<=a8.size) ?_
     ⟨0,ns,rfl,rfl,A5 _,L.trans (Ext.mod aC),aP.ext aC,bH,cO.view,λc d aR=>by have:=d8 c d;have:=aP.lt aR;omega,A0 _⟩
    rintro fS F _ fT ⟨r,aQ,rfl,rfl,cv,a9,bM,bN,bb,cP,fU⟩ eb;dsimp only;have ec:=a9.ag aA (by omega);have fV:=a7.len;rw[bb.len];refine af.intro (λu=>?_) (λu=>?_)
    ·have bc:r<z.length:=by have:=of_decide_eq_true u;omega
     have cQ:z[r]? =some z[r]:=A2 bc;rw[<- bb.len];refine bb.idx cQ λa _ au=>?_
     obtain⟨cR,ed,ee⟩:=au.pair;refine AJ.mk cR (AJ.mk ed (AZ.mk ee (ao.pair λfW fX _ bO aS fY=>?_)));have ef:=Ap aS ec;refine AY.mk (AB ef rfl) ?_;refine AJ.mk (AL bO rfl) (AJ.mk (AB bO rfl) (AZ.mk (AB bO rfl) ?_));have eg:=M.RY (l:=(Pq (Ar D).aZ ((KX D).take i)).flatten) (t:= []);have eh:=M.RY (l:=z.take r) (t:=Av [] (Pq (Ar D).aZ ((KX D).take i)).flatten);rw[An] at eh;simp only[G4,AI] at eg;refine M.tK (x:=z[r]) (bM.ext aS) (by omega) λei fZ ej bP cS=>⟨_,rfl,?_⟩
     rw[Aa (by omega)];have f0:=a9.size;have f1:=aS.size;refine eb (z.length-(r+1)) _ _ (by omega) ⟨r+1,ei,rfl,rfl,bc,(a9.trans (Ext.mod aS)).trans (bP.aj λc _ d=>bN c d),by rw[M.tL cQ];exact ej,λc d=>?_,(bb.ext aS).mod bP (λc d aR=>cP c d aR),λc d aR=>?_,by have:=bP.size;omega⟩
     ·rcases cS c d with h|h
      ·exact bN c h
      ·exact .inr (by omega)
     ·rcases cS c aR with h|h
      ·exact cP c d h
      ·have:=cO.lt d;omega
    ·have bc:r=z.length:=by have:=of_decide_eq_false u;omega
     subst bc;rw[Bk] at bM;refine bJ _ _ (bI ((KX D).length-(i+1)) _ _ (by omega) ⟨i+1,aQ,rfl,rfl,v,a9,?_,bN⟩);rw[e,AH0];exact bM
  have ek:i=(KX D).length:=by have:=of_decide_eq_false u;omega
  subst ek;rw[Bk,AMJ] at aP;clear bI;have bd:Mod (λc=>c=o.size) k aN:=(Ext.mod az).trans av;have aw: ∀c,hB.size<=c->c<k.size-> ¬(c=o.size)/\ ¬(Sb c\/c=X)/\ ¬(c=j.size\/H.size<=c):=λc c1 c2=>by
   refine⟨by omega,?_,by omega⟩;rintro(h|h)
   ·have:=al c h;have:=aX.size;omega
   ·omega
  have be: ∀c,h.size<=c->c<k.size->c≠o.size->c≠j.size-> ¬(c=o.size)/\ ¬(Sb c\/c=X)/\ ¬(c=j.size\/H.size<=c):=λc c1 c2 c3 f2=>by
   refine⟨c3,?_,by omega⟩;rintro(h|h)
   ·have:=al c h;omega
   ·omega
  have el:Own gb BJ am tp ps:=((an.mod bd λc d=>(aw c (ar c d) (an.lt d)).1).mod Y λc d=>(aw c (ar c d) (an.lt d)).2.1).mod L λc d=>(aw c (ar c d) (an.lt d)).2.2
  have O: ∀c,np.ag=some c->h.size<=c/\c<k.size/\c≠o.size/\c≠j.size:=λc d=>by have:=ac c d;have:=ap.lt d;omega
  have en:Own GV Bp am np ((Ar D).names.map λn:Nat=>(n:Int)):=(((ap.mod J λc d e=>by have:=O c d;have:=ap.lt d;omega).mod bd λc d=>(be c (O c d).1 (O c d).2.1 (O c d).2.2.1 (O c d).2.2.2).1).mod Y λc d=>(be c (O c d).1 (O c d).2.1 (O c d).2.2.1 (O c d).2.2.2).2.1).mod L λc d=>(be c (O c d).1 (O c d).2.1 (O c d).2.2.1 (O c d).2.2.2).2.2
  have bR:=be nt cd (by omega) (by omega) (by omega);have eo:Eg am nt b nn aM false:=((dI.mod bd bR.1).mod Y bR.2.1).mod L bR.2.2;have ep:Eg am X b nl s false:=bD.mod L (by omega);have eq:Bl am b Sb m:=cE.mod L λc d=>by have:=al c d;omega
  have er:Ext g am:=cG.then (L.aj λc _ d=> .inr (by have:=Q.size;omega));have es: ∀(i:Nat) (t:Nat) (p:Nat×List Pr),ps[i]? =some t->((Ar D).names.map λn=>(n,D.T n))[i]? =some p-> ∃T U,bW am t p.2 (NJ p.2) T U/\hB.size<=T/\U<=k.size/\(∀ c,tp.ag=some c-> ¬(T<=c/\c<U))/\Hg p.2:=λcT t p ag W=>by
   rw[BE] at W;cases bf:(Ar D).names[cT]? with
   |none=>rw[bf] at W;cases W
   |some n=>
    rw[bf] at W;cases W;obtain⟨T,bw,bx,bz,cw,a3⟩:=cn cT t n ag bf;refine⟨T,bw,((bx.mod bd λc c1 c2=>(aw c (by omega) (by omega)).1).mod Y λc c1 c2=>(aw c (by omega) (by omega)).2.1).mod L λc c1 c2=>(aw c (by omega) (by omega)).2.2,bz,cw,a3,(ab.cW n (AM bf)).2⟩
  have cU:((Ar D).names.map λn=>(n,D.T n)).map (·.1)=(Ar D).names:=by rw[B9];exact Jx _
  obtain⟨cR,et,bg⟩:=bQ.make (g:=g) (h:=am) (q:=⟨o.size,b,X,nt,j.size,Sb,ns,tp,np,ps⟩) (st:=⟨FD D,(Ar D).names.map λn=>(n,D.T n),(Ar D).next,(Ar D).aZ,s,aM,false⟩) (m:=m) (N0:=h.size) (NB:=hB.size) (NC:=k.size) (ND:=H.size)
   (by simpa [eT] using cJ) eq ep eo aP el (by simp[bt,v]) (by unfold eV;rw[B9];exact en) er Q.size (λc d=>⟨b8 c d,al c d⟩)
   cd dv (by show j.size<o.size;omega) dz cp dM (by show X<H.size;omega) (λc d=>⟨ac c d,ap.lt d⟩) (λc d=>⟨ar c d,an.lt d⟩) bH es (by omega)
  have bS:Mod Sb h am:=by refine⟨by have:=a6.size;omega,λc d Z=>?_⟩;have ag:=a6.get c d (λh=>h);have f3:=a6.size;have W:=Y.get c (by omega) (by rintro(h|h);exact Z h;have:=V.size;omega);have eu:=L.get c (by omega) (by omega);exact eu.trans (W.trans ag)
  have f4:=bS.size;have cV: ∀n,ff m (ba n)≠none->n<8*aJ+8:=C.nQ;have f5:=Sq m.files;refine AOH (N:=8*aJ+8) (q:=⟨o.size,b,X,nt,j.size,Sb,ns,tp,np,ps⟩) E et hd ab cU.symm (by omega) cV dp (by simp;omega) (by omega)
   (λev bT cW aF ew ex bU ey bV aT ez bX=>⟨_,rfl,?_⟩) λbT cW eA aF aG eB cX bV aT eC cY eD bX bU eE=>⟨_,rfl,?_⟩
  ·refine dk ev bT o.size cW aF ew ex (bS.then (bU.aj λc _ d=>bg c d)) (λc d=>?_) (λG cZ=>⟨D,bV.dj cZ,?_,rfl⟩) (λw y=>aT w λn=>RV y n) (As bX (B.up (BY _) bo))
   ·rcases ey c d with h|h
    ·exact bg c h
    ·exact .inr (by omega)
   ·refine jA.mono ⟨C.aS,C.bd,C.next,C.aZ,C.cw,C.ck,λn Z=>cV n (ez n (cZ.some Z))⟩ (BY _) (A0 _)
  ·have eF: ∀n,ff aF (aD nl n)=ff m (aD nl n):=λn=>aT _ (MI n)
   have eG: ∀n,ff aF (aD nn n)=ff m (aD nn n):=λn=>aT _ (Qw n)
   have c0:Ee (ff aF) ⟨FD D,(Ar D).names.map λn=>(n,D.T n),aG,(Ar D).aZ,s,aM,false⟩ D:=
    ⟨bV,cU.symm,λp bY=>by
     obtain⟨n,_,rfl⟩:=List.mem_map.1 bY;rfl,rfl,cY,λp bY=>by
     obtain⟨n,Z,rfl⟩:=List.mem_map.1 bY;have j:=S.below n Z;have o:(Ar D).next<=aG:=cY;show n<aG;omega,rfl,λn bh bZ _=>by
     have bh:s<=n:=bh;rw[eF];exact dO n (by omega) bZ,(λh=>by cases h),λn bh bZ=>by rw[eG];exact ds n bh bZ,⟨S.aZ.1,dY⟩,dt,λn Z=>eC n Z⟩
   have eH:TY ⟨FD D,(Ar D).names.map λn=>(n,D.T n),aG,(Ar D).aZ,s,aM,false⟩ D (aJ+1) c:=by have f6:aG<=8*aJ+8:=eD;exact⟨by show s<=_;omega,by show aM<=_;omega,by show aG<=_;omega,by show((Ar D).names.map _).length<=_;simp;omega,C.ck,by omega,by omega⟩
   refine dm bT _ eA _ aF D rfl ⟨eB,cX.up,c0,eH,As bX (B.up (BY _) bo),d⟩ cX c0.map.symm (λw y=>aT w λn=>RV y n) (bS.then (bU.aj λc _ d=>bg c d)) λc d=>?_
   rcases eE c d with h|h
   ·exact bg c h
   ·exact .inr (by omega)
 have c4:sl.len=(Nk D).length:=by rw[cl.len];simp
 refine af.intro (λu=>?_) (λu=>?_)
 ·have bG:Nk D≠ []:=λe=>by
   have:=of_decide_eq_true u;rw[c4,e] at this;simp at this
  obtain⟨ax,x,bi⟩: ∃ax x,Nk D=ax++ [x]:=⟨_,_,(List.dropLast_concat_getLast bG).symm⟩;have bj:Ar D=x:=by unfold Ar;rw[bi,SD];rfl
  have c5:sl.len=ax.length+1:=by rw[c4,bi];simp
  have f7:ax.length<=8000000000000:=by rw[bi] at bq;simp at bq;omega
  rw[c5];have eI:J8 J9 (((ax.length+1:Nat):Int)-(1:Int))=((ax.length:Nat):Int):=by rw[wrap_i64 (by omega) (by omega)];omega
  rw[eI,<-c5];rw[bj] at S bs;have eJ:((Nk D).map λx=>AX (EG x))[ax.length]? =some (AX (EG x)):=by rw[bi];simp
  refine cl.idx eJ λa _ au=>AJ.mk au.str ?_
  have f8:=S.next;have f9:=S.aZ;have ga:=S.cw;have c6:=S.below;have c7:EG x=BX x.next++(BX x.aZ++(BX x.names.length++(x.names.flatMap BX++ []))):=by simp[EG,A4]
  rw[c7];have c8:=AIx S;rw[c7] at c8;simp only[A1] at c8;refine KG λc9 da b0=>⟨_,rfl,?_⟩
  have aI:=Ap b0 cg;refine DZ (most:=2147483647) da (by simp only[A1];omega) (by decide) λgc db eK=>⟨_,rfl,?_⟩
  rw[Cr (by omega) (by omega)] at db ⊢;refine DZ (most:=99999999) db (by simp only[A1];omega) (by decide) λaZ dc eL=>⟨_,rfl,?_⟩
  rw[Cr (by omega) (by omega)] at dc ⊢;have gd:=b0.size;have bk:I.size≠o.size:=by omega
  have dd:Mod (· =I.size) c9 aZ:=eK.trans eL;have eM:=dd.ag aI (by omega);refine ae.dy eM (by simp) λge eN eO gf=>ae.dy eN (by simp) λa0 eP eQ gg=>?_
  have de:Mod (· =o.size) aZ a0:=eO.trans eQ;have eR:Iw a0 I.size ⟨BX x.names.length++(x.names.flatMap BX++ []),false⟩:=de.ag dc bk;refine DZ (most:=65536) eR (by simp only[A1];omega) (by decide) λeS df dg=>⟨_,rfl,?_⟩
  rw[Cr (by omega) (by omega)] at df ⊢;have eU:=dg.ag eP (λe=>bk e.symm);have eW:Mod (λc=>o.size<=c) I eS:=(Ext.mod b0).trans (((dd.aj λc _ d=>by omega).trans (de.aj λc _ d=>by omega)).trans (dg.aj λc _ d=>by omega));refine Loop.rule (λF aO k=> ∃(i:Nat) (np:Sl),aO=((i:Int),())/\F=x.names.length-i/\i<=x.names.length/\Mod (λc=>o.size<=c) I k/\Iw k I.size ⟨(x.names.drop i).flatMap BX++ [],false⟩/\Own GV Bp k np ((x.names.take i).map λn:Nat=>(n:Int))/\(∀ c,np.ag=some c->I.size<c)/\
    k[o.size]? =some (J2 #[Ak b,J5 none,Ak nt,Ak j.size,J4 none 0 0,J4 np.p np.len np.cap,J6 J9 (x.next:Int),J6 J9 (x.aZ:Int),J3 false] FW (0,0))) ?_
   ⟨0,⟨none,0,0⟩,rfl,rfl,A5 _,eW,df,Own.nil,λc d=>by simp[Sl.ag] at d,by simpa using eU⟩
  rintro gh F _ k ⟨i,np,rfl,rfl,U,J,bm,b1,ac,aq⟩ eX;have cp:=J.size;dsimp only;refine af.intro (λu=>?_) (λu=>?_)
  ·have v:i<x.names.length:=by have:=of_decide_eq_true u;omega
   have ah:x.names[i]? =some x.names[i]:=A2 v;have eY:x.names.drop i=x.names[i]::x.names.drop (i+1):=F2 v;have gi:=c6 _ (AS v);refine Ad.mk (s:=np) (AB aq rfl) ?_;rw[eY,AH,A4] at bm;have gj:((x.names.drop (i+1)).flatMap BX).length<=600000:=by
    have:=VW (l:=x.names.drop (i+1)) λn Z=>by have:=c6 n (Hc Z);omega
    have e:=CI (l:=x.names) (i:=i+1);omega
   have gk:=AV (n:=x.names[i]) (by omega);refine DZ (most:=2147483647) bm (by simp only[A1,G4];omega) (by decide) λb2 dh bn=>⟨_,rfl,?_⟩
   rw[Cr (by omega) (by omega)] at dh ⊢;have b3:=bn.ag aq (λe=>bk e.symm);refine⟨AB b3 rfl,ao.mk λeZ _ e0 aU gl=>⟨AB (Ap aU b3) rfl,?_⟩⟩;have e1:Own GV Bp b2 np ((x.names.take i).map λn:Nat=>(n:Int)):=b1.mod bn λc d e=>by have:=ac c d;omega
   have e2:=e1.ext aU;have src:View GV eZ ⟨some ⟨b2.size,0,none⟩,1,1⟩ [(x.names[i]:Int)]:=(Own.lit (E:=GV) (l:= [(x.names[i]:Int)]) e0 rfl (by simp[maxLen])).view;refine GK (s:=np) (src:=⟨some ⟨b2.size,0,none⟩,1,1⟩) sI e2 src (by simp;omega) (by simp[maxLen];omega) λaK gm e3 b4 e4 _=>?_
   have e5:=b4.ag (Ap aU b3) (λe=>by have:=ac _ e;omega);refine ae.dy e5 (by simp) λgn e6 b5 go=>?_
   rw[Aa (by omega)];have gp:=bn.size;have di: ∀c,aK.ag=some c->I.size<c:=λc d=>by
    rcases e4 c d with h|h
    ·exact ac c h
    ·omega
   have gq:I.size<c9.size:=Ag da;refine eX (x.names.length-(i+1)) _ _ (by omega) ⟨i+1,aK,rfl,rfl,v,?_,?_,?_,di,by simpa using e6⟩
   ·exact J.trans ((((bn.aj λc _ d=>by omega).trans (Ext.mod aU)).trans (b4.aj λc _ d=>by have:=ac c d;omega)).trans (b5.aj λc _ d=>by omega))
   ·have e7:=aU.ag dh (λh=>h);have e8:=b4.ag e7 (λe=>by have:=ac _ e;omega);exact b5.ag e8 bk
   ·rw[Ax,ah];simp only[Ds,By,BW,RC];exact e3.mod b5 λc d e=>by have:=di c d;omega
  ·have v:i=x.names.length:=by have:=of_decide_eq_false u;omega
   subst v;rw[Bk] at b1;rw[OS] at bm;refine MZ bm ⟨_,rfl,?_⟩;have e9:Su ⟨([]:List Nat).flatMap BX++ [],false⟩=true:=rfl;rw[e9];refine af.no rfl ?_;have fa: ∀ {b6:Nat} {dj:Obj},I[b6]? =some dj->b6<o.size->k[b6]? =some dj:=λe bF=>J.ag e (by omega)
   refine bs k np ⟨by omega,λc d Z=>?_⟩ aq b1 (λc d=>by have:=ac c d;omega) (fa cj (by omega)) (ck.mod J λc d e=>?_)
   ·have b7:=ci.get c d Z;rw[<- b7];exact J.get c (by omega) (by omega)
   ·rcases d with rfl|⟨w,y,_⟩
    ·omega
    ·cases y
 ·have b7:Nk D= []:=by have:=of_decide_eq_false u;exact DA (by omega)
  have bj:Ar D=⟨1,1,[]⟩:=by unfold Ar;rw[b7];rfl
  refine bs I ⟨none,0,0⟩ ci (by rw[bj];exact cg) (by rw[bj];exact Own.nil) (λc d=>by simp[Sl.ag] at d) cj ck
end
open M (Sorted Ab Bw Av Ac Am BF Ah bz Az aP Ay)
section
variable {A : ak} {B : bV} {g h : aa} {q : Hp} {k : Nat -> Nat} {st : Db} {m : Bx} {D : Bz} {aJ c : Nat} {R : A2H}
theorem Bt.dB(a:Bt B g h q k st m D aJ c):st.fr.length<=1000000/\st.ts.length<=100000/\(Ac (st.fr::aH st)).length<=1099511627776/\(CY st).length<=100000:=by have d:=a.dN.dB a.lim;have e:=a.dN.jW a.lim;have f:=a.hc;have i:=B.hC;have b:=a.dN.mg.cw;rw[a.dN.iV] at b;have j:(CY st).length<=(Ac (st.fr::aH st)).length:=sT _;omega
theorem Bt.sorted(a:Bt B g h q k st m D aJ c):Sorted (CY st):=Ed _ _
end
def D0:Bz:=⟨λ_=> [],λ_=> [],λ_=> [],1,1⟩
theorem ATq:Ar D0=⟨1,1,[]⟩:=rfl
theorem ATh {e:bT}(i: ∀a,e (aD nl a)=none)(d: ∀a,e (aD nn a)=none)(j: ∀x,e x≠none->(bl x).head? ≠some 116):BH e D0/\jA e D0 0 0/\cM D0= []:=by
 refine⟨⟨⟨λa p _ _ h=>?_,λ_ _ _ _=>rfl,λa _ _=>i a,λ_ _=>rfl⟩,⟨λa p _ _ h=>?_,λ_ _ _ _=>rfl,λa _ _=>d a,λ_ _=>rfl⟩,λa d=>?_,λa b l=>?_,λa x f=>?_,λx f hd=>absurd hd (j x f),by decide⟩,⟨by decide,by decide,by decide,by decide,by decide,by decide,λa d=>?_⟩,rfl⟩
 ·rw[i a] at h;cases h
 ·rw[d a] at h;cases h
 ·rw[ATq] at d;cases d
 ·cases l
 ·cases f
 ·exact absurd (YG a) (j _ d)
section
variable {A : ak} {B : bV} {g h : aa} {q : Hp} {k : Nat -> Nat} {st : Db} {m : Bx} {D : Bz} {aJ c : Nat} {R : A2H}
theorem Bt.on {b:aa}(a:Bt B g h q k st m D aJ c)(x:Ext h b):Bt B g b q k st m D aJ c:=⟨a.mem.on x,a.up,a.dN,a.lim,a.wt,a.hc⟩
theorem Bt.beside {b:aa}{d:Nat->Prop}(a:Bt B g h q k st m D aJ c)(x:Mod d h b)(hX: ∀c,d c->k c=0/\g.size<=c):Bt B g b q k st m D aJ c:=⟨a.mem.beside x hX,a.up,a.dN,a.lim,a.wt,a.hc⟩
theorem Bt.more {b:Nat}(a:Bt B g h q k st m D aJ c)(d:c<=b)(e:b<=B.C):Bt B g h q k st m D aJ b:=⟨a.mem,a.up,a.dN,a.lim.mono (A0 _) d,a.wt,e⟩
theorem Bt.free(a:Bt B g h q k st m D aJ c){x:Nat}(d:h.size<=x):k x=0:=Decidable.byContradiction λb=>by
 have:=(a.mem.own x b).2;omega
theorem Bt.base(a:Bt B g h q k st m D aJ c){x:Nat}(d:x<g.size):k x=0:=Decidable.byContradiction λb=>by
 have:=(a.mem.own x b).1;omega
theorem AOz {b:Nat}{Sb:Nat->Prop}(p:cu g)(r:Bl h b Sb m)(s:Ext g h)(t: ∀c,Sb c->g.size<=c)(hd:m.down=false)(o:m.fuel= -1)(u: ∀j,ff m (aD nl j)=none)(v: ∀j,ff m (aD nn j)=none)(w: ∀x,ff m x≠none->(bl x).head? ≠some 116)(hA:1<=B.A)(N:aY m.files<=B.W0)
  (y: ∀a d f i e l,d.b=b->Bt B g a d f i e l 1 0->e.fuel= -1->CY i= []->(∀ n,¬cz n->ff e n=ff m n)->Mod Sb h a->(∀ c,f c≠0->Sb c\/h.size<=c)->R (J1 #[Ak d.d,J6 J9 0]) a):AA A P Pb #[Ak b] h R:=by
 obtain⟨z,C,E⟩:=ATh u v w;refine AHd (B:=B) p r s t hd z C (A5 _) hA (by omega) (λF=>absurd o F) λa d f i e l G H I J K L M=>?_
 exact y a d f i e l G H (I.calm o) (J.trans E) K L M
theorem ANL {b:Nat}{Sb:Nat->Prop}{f:List Pr}(n:cu g)(o:Bl h b Sb m)(p:Ext g h)(r: ∀c,Sb c->g.size<=c)(hd:m.down=false)(s:Rec (ff m) aJ c f)(t:c<=B.C)(hA:aJ+1<=B.A)(u:aY m.files<=B.W0+aJ*B.K)
  (v:m.fuel≠ -1-> ∀d w S' a,Bl d b S' a->a.down=true->Mod Sb h d->(∀ c,S' c->Sb c\/h.size<=c)->jB (ff a) (aJ+1) c f->(∀ e,¬cz e->ff a e=ff m e)->aY a.files<=B.W0+(aJ+1)*B.K->R (J1 #[Ak w,J6 J9 30]) d)
  (x: ∀d i j l a y,i.b=b->Bt B g d i j l a y (aJ+1) c->IX m a->CY l=f->(∀ e,¬cz e->ff a e=ff m e)->Mod Sb h d->(∀ c,j c≠0->Sb c\/h.size<=c)->R (J1 #[Ak i.d,J6 J9 0]) d):AA A P Pb #[Ak b] h R:=by
 obtain⟨D,z,C,rfl⟩:=s;exact AHd (B:=B) n o p r hd z C t hA u v x
end
abbrev kb:A2I:=⟨#[98]⟩
abbrev v1:A2I:=⟨#[49]⟩
abbrev v2:A2I:=⟨#[50]⟩
open Go Go.ChangeShapes Go.WideShapes Go.ChangeAt Go.RowKit Go.Proofs.YtgpmoonnachoaaaGreatDoor
def listed:List (String×DataW Unit):=Rows.archiveMovesRow.laid
theorem AM4: ∃(x c a b:String×DataW Unit),listed= [x,c,(pC,Lib.tabData .u64 Lib.pow10Tab),a,b]:=⟨_,_,_,_,rfl⟩
theorem ATj:P.globalNamed pC=some 2:=by kernel_rfl
theorem ATE:(P.globals[2]?).map (·.type)=some UR:=by kernel_rfl
theorem ATi:P.underlying UR=some (.array 20 Zf):=by kernel_rfl
theorem ASr:P.underlying Zf=some (.int .u64):=by kernel_rfl
theorem ATw:P.cellsOf Zf=1:=by kernel_rfl
theorem AT6:P.cellsOf UR=20:=by kernel_rfl
theorem AKs:listed.filter (λx=>x.2.handleName?.isSome)= []:=by kernel_rfl
theorem rz {b:World}(a:laidMetH P listed b):laidMet P listed b:=by unfold laidMetH at a;rw[AKs] at a;exact a
theorem ARk {c:World}(e:laidMetH P listed c):Lib.TabIs P c pC .u64 Lib.pow10Tab:=by have d:=rz e;obtain⟨x,g,a,b,f⟩:=AM4;rw[f] at d;exact Lib.tabIs_of_head (rest:= [a,b]) ATj ATE ATi ASr ATw AT6 (laidMet.tail (laidMet.tail d))
theorem ARm {a:World}(c:laidMetH P listed a):dt a.heap:=λd e=>by
 have b:=ARk c;unfold Lib.TabIs World.var? at b ⊢;exact b
def oS : String := String.ofList [Char.ofNat 42] ++ "errors.errorString"
def wN:String:=Rows.archiveMovesRow.named.getD 1 (String.ofList [])
def wP:String:=Rows.archiveMovesRow.named.getD 0 (String.ofList [])
theorem ATD: ∃(x a z b:String×DataW Unit) (text:List UInt8),listed= [x,a,z,(wN,.iface oS (.ptr (.agg [.lit (.string text)]))),b]:=⟨_,_,_,_,_,rfl⟩
theorem ASN: ∃(x a z b:String×DataW Unit) (text:List UInt8),listed= [x,a,z,b,(wP,.iface oS (.ptr (.agg [.lit (.string text)])))]:=⟨_,_,_,_,_,rfl⟩
theorem AT0:P.globalNamed wN=some 1:=by kernel_rfl
theorem ATX:P.globalNamed wP=some 0:=by kernel_rfl
theorem ASl:(P.globals[1]?).map (·.type)=some oR:=by kernel_rfl
theorem ASM:(P.globals[0]?).map (·.type)=some oR:=by kernel_rfl
theorem ATx: ∃a,P.underlying oR=some (.interface a):=⟨_,Proofs.Tryz.underlying293⟩
theorem ASV(u:Q7)(a:P.typeName? 3 u=some oS):u=Ej:=
 typeName_ptr_named (nm := "errors.errorString") (by kernel_rfl) (by kernel_rfl) (by decide) u a
theorem ATe:P.underlying Ej=some (.pointer FR):=by kernel_rfl
theorem AUK: ∃f:Field,P.underlying FR=some (.struct #[f])/\f.type=BD/\f.offset=0:=⟨_,Proofs.Tryz.underlying388,rfl,rfl⟩
theorem AUJ:P.cellsOf FR=1:=by kernel_rfl
theorem wQ {b:String}{text:List UInt8}{h:List (String×DataW Unit)}{a:World}{g:Nat}(i:laidMet P ((b,.iface oS (.ptr (.agg [.lit (.string text)])))::h) a)(c:P.globalNamed b=some g)(j:(P.globals[g]?).map (·.type)=some oR):lO a.heap g:=by
 obtain⟨p,k⟩:=ATx;obtain⟨f,l,m,n⟩:=AUK;obtain⟨d,q,o,_,_,_⟩:=laid_sentinel i c j k ASV ATe l m n AS4 AUJ AUI;have e:a.cell? ⟨g,0,none⟩=some (.iface Ej (.pointer (some d))):=by simpa using World.var?_cell c o 0
 refine⟨.iface Ej (.pointer (some d)),?_,.inr ⟨_,_,rfl⟩⟩;unfold ah;unfold World.cell? at e;exact e
theorem ASq {d:World}(b:laidMetH P listed d):cu d.heap:=by
 refine⟨ARm b,?_,?_⟩
 ·have a:=rz b;obtain⟨x,e,z,f,t,c⟩:=ASN;rw[c] at a;exact wQ (laidMet.tail (laidMet.tail (laidMet.tail (laidMet.tail a)))) ATX ASM
 ·have a:=rz b;obtain⟨x,e,z,f,t,c⟩:=ATD;rw[c] at a;exact wQ (laidMet.tail (laidMet.tail (laidMet.tail a))) AT0 ASl
def AJD:DataW Unit->Array J0
 | .agg ds=>(ds.map λ| .lit (.int a z)=>Value.int a z|_=> .bool false).toArray
 |_=> #[]
def fill(a:DataW Unit):Obj->Obj
 | .cells _ t frozen=> .cells (AJD a) t frozen
 |o=>o
def js(b:Nat):Obj->Obj
 | .cells _ t frozen=> .cells #[.iface Ej (.pointer (some ⟨b,0,none⟩))] t frozen
 |o=>o
abbrev AQi:A2I:=⟨#[118,97,108,117,101,32,111,117,116,32,111,102,32,114,97,110,103,101]⟩
abbrev ARF:A2I:=⟨#[105,110,118,97,108,105,100,32,115,121,110,116,97,120]⟩
noncomputable def low:Nat:=(World.holding P default ⟨#[],#[],[]⟩).heap.size
noncomputable def Zw (os:Os):World:=
 let a:=World.holding P os ⟨#[.cells #[.string AQi] FR,.cells #[.string ARF] FR],#[],[]⟩
 {a with heap:=((((a.heap.modify 2 (fill Rows.laid_internal_strconv_uint64pow10)).modify 4 (fill Rows.laid_math_bits_deBruijn32tab)).modify 5 (fill Rows.laid_math_bits_deBruijn64tab)).modify 1 (js low)).modify 0 (js (low+1))}
theorem AI0(os:Os)(args:Array J0):laidMet P listed ((Zw os).forCall (λ_ _=>0) ⟨#[],args,[]⟩).memory:=
 laidMet_of_run' 8 (by kernel_rfl) (by kernel_rfl)
end Go.Lf.G
namespace Go.Lf.G.M
open Go Go.ChangeShapes Go.WideShapes Go.ChangeAt Go.RowKit Go.Proofs.YtgpmoonnachoaaaGreatDoor
def mS(a:World):ak:=⟨a.tape,a.os,a.output⟩
section
variable {H : Type} {enc : Q7 × J0 -> H} {w : World} {base : Nat} {spare : Nat -> Bool} {held : Bool}
instance:Inhabited Pr:=⟨⟨⟨#[]⟩,⟨#[]⟩,false⟩⟩
instance:Inhabited Sl:=⟨⟨none,0,0⟩⟩
end
end Go.Lf.G.M
namespace Go.Lf.G
open Go
open M (Sorted Ab Bw Av Ac Am BF Ah bz Az aP Ay)
structure ATd where
 kind:Int
 bs:Sl
 key:A2I
 til:A2I
 most:Int
 ks:Sl
structure AUN (N:Nat) (h:aa) (x:ATd) (l:List Pr) (ks:List Int):Prop where
 bs:View BO h x.bs l
 ks:View GV h x.ks ks
 key:x.key.size<=N
theorem ARz {e:Type}{d:cL e}{h:aa}{s:Sl}{l:List e}(v:View d h s l)(f:l≠ []){b:Nat}(i:s.ag=some b):b<h.size:=by
 cases l with
 |nil=>exact absurd rfl f
 |cons x l=>
  obtain⟨a,j,n⟩:=v.cells 0 x rfl;have p:=d.pos;have r:=d.len x;obtain⟨u,o⟩: ∃u,(d.enc x)[0]? =some u:=⟨_,A2 (by omega)⟩;have:=Vk (n 0 u o);rw[aU,aU] at this;have t:a.block=b:=by simpa [Sl.ag,j] using i
  omega
section
variable {A : ak} {B : bV} {g h : aa} {q : Hp} {k : Nat -> Nat} {st : Db} {m : Bx} {D : Bz} {aJ c : Nat} {R : A2H}
theorem Bt.put {b a:Nat}(d:Bt B g h q k st m D aJ c)(e:aJ<=b)(f:c<=a)(i:a<=B.C):Bt B g h q k st m D b a:=(d.aJ e).more f i
theorem Bt.args(a:Bt B g h q k st m D aJ c){s:Sl}{l:List Pr}(v:View BO g s l):l≠ []-> ∀b,s.ag=some b->b<h.size/\k b=0:=λd b e=>by
 have f:=ARz v d e;have:=a.mem.ext.size;exact⟨by omega,a.base f⟩
end
open Go Go.ChangeShapes Go.WideShapes Go.ChangeAt Go.RowKit Go.Proofs.YtgpmoonnachoaaaGreatDoor
theorem ASi:P.cellsOf Cj=1:=by kernel_rfl
section
variable {H : Type} {enc : Q7 × J0 -> H} {w : World} {base : Nat} {spare : Nat -> Bool} {held : Bool}
theorem AM5 {b t:Q7}{d:Nat}{c:List J0}{x:DataW H×List MemPlace}(e:P.underlying b=some (.slice t))(f:DataW.trod enc P w base spare held d b c=some x): ∃s:Sl,c= [.slice s.p s.len s.cap]:=by
 rcases Deep.open_slice e f with⟨rfl,_⟩|⟨a,g,h,m,i,j,k,rfl,_⟩
 ·exact⟨⟨none,0,0⟩,rfl⟩
 ·exact⟨⟨some a,g,h⟩,rfl⟩
end
def fieldsOf(P:Q1)(t:Q7):Option (List (Q7×Nat)):=match P.underlying t with
 |some (.struct a)=>some (a.toList.map λf=>(f.type,f.offset))
 |_=>none
section
variable {H : Type} {enc : Q7 × J0 -> H} {w : World} {base : Nat} {spare : Nat -> Bool} {held : Bool}
theorem AJK {t:Q7}{c:List (Q7×Nat)}{h:Nat}{d:List J0}{x:DataW H×List MemPlace}(b:fieldsOf P t=some c)(j:DataW.trod enc P w base spare held h t d=some x):
  ∃(a:List (DataW H×List MemPlace)) (m:Nat),x=(.agg (a.map (·.1)),a.flatMap (·.2))/\d.length=P.cellsOf t/\a.length=c.length/\
   ∀(i:Nat) (f:Q7×Nat),c[i]? =some f->DataW.trod enc P w base spare held m f.1 ((d.drop f.2).take (P.cellsOf f.1))=a[i]? :=by
 unfold fieldsOf at b;split at b
 ·rename_i q k;simp at b;subst b;obtain⟨a,m,_,rfl,l,n,o⟩:=DataW.trod_struct k j;refine⟨a,m,rfl,l,by simpa using n,λi f e=>?_⟩;simp only[BE,A09,PJ] at e;obtain⟨g,p,rfl⟩:=e;exact o i g p
 ·cases b
end
def Ic(c:ak)(U:Int)(j:Sl)(V:aa)(d:A2H):=AA c P KA #[] V λv n=>∃w,v=J3 w/\af (!w) (d (J3 false) n) (af (decide ((j.len:Int)>8)) (d (J3 true) n) (ao n (J2 #[J5 none,J5 none,J5 none,J5 none] Cz) λb W=>AA c P RA #[] W λv1 X=>∃x,v1=J5 x/\AA c P EP #[J5 (some (ad b)),J5 x] X λv2 y=>∃z,v2=J3 z/\af (!z) (d (J3 false) y) (AA c P Gi #[J5 (some (ad b)),J6 J9 ((J8 J9 ((U.tmod (90:Int))+90)).tmod (90:Int))] y λY Z=>∃A:A2I,∃B:A2I,∃C D,Y=J1 #[.agg #[J7 A,J7 B,J3 C],J3 D]/\ao Z (J2 #[J7 (⟨#[]⟩:A2I),J7 (⟨#[]⟩:A2I),J3 false] AQ) λe ab=>ae ab (ad e) (J7 A) λac=>ae ac ((ad e).add 1) (J7 B) λag=>ae ag ((ad e).add 2) (J3 C) λah=>AA c P EL #[J5 (some (ad b))] ah λaj E=>∃f:Sl,∃F,aj=J1 #[J4 f.p f.len f.cap,J3 F]/\ai (λ(al:Bool×Unit) G=>af al.1 (d (J3 false) G) (Loop (λam (s:Int×Unit) k=>af (decide (s.1<(j.len:Int))) (bJ j.p j.len s.1 λa=>AC J9 k (a.add (s.1.toNat*2)) λan=>Ad k ((a.add (s.1.toNat*2)).add 1) λo=>ao k (J2 #[J6 J9 0,J4 none 0 0] Gg) λl ap=>ae ap (ad l) (J6 J9 an) λaq=>ae aq ((ad l).add 1) (J4 o.p o.len o.cap) λp=>AY p (ad b) λar=>AC J9 p (ad l) λH=>AA c P LM #[J5 ar,J6 J9 (if(0:Int)>H then 0 else H)] p λau av=>au=J1 #[]/\Loop (λaw (aO:Unit) g=>AY g ((ad b).add 2) λax=>AY g ((ad b).add 3) λay=>AJ g (ad e) λaz=>AJ g ((ad e).add 1) λaA=>AZ g ((ad e).add 2) λaC=>AA c P GG #[J5 ax,J5 ay,J7 (⟨#[119]⟩:A2I),.agg #[J7 az,J7 aA,J3 aC]] g λaD q=>∃I i,aD=J1 #[J3 I,J6 J9 i]/\ai (λ(aE:Bool×Unit) r=>af aE.1 (d (J3 false) r) (ai (λ(aF:Bool×Unit) m=>af aF.1 (AY m (ad b) λaG=>Ad m ((ad l).add 1) λt=>AA c P KR #[J5 aG,J4 t.p t.len t.cap] m λaH aI=>∃J,aH=J5 J/\AA c P EP #[J5 (some (ad b)),J5 J] aI λaJ L=>∃M,aJ=J3 M/\af (!M) (d (J3 false) L) (AA c P EL #[J5 (some (ad b))] L λaK N=>∃h:Sl,∃O,aK=J1 #[J4 h.p h.len h.cap,J3 O]/\ai (λ(aL:Bool×Unit) Q=>af aL.1 (d (J3 false) Q) (am ((J8 J9 (s.1+1)),()) Q)) λR=>af (!O) (R (true,()) N) (AA c P Ka #[J4 h.p h.len h.cap,J4 f.p f.len f.cap] N λaM aN=>∃S,aM=J3 S/\R ((!S),()) aN))) (aw () m)) λT=>af (i != 0) (T (true,()) r) (T (I,()) r))) λu=>af (i != 0) (af (i != 30) (u ((i != 100),()) q) (u (false,()) q)) (u (false,()) q)) () av) (d (J3 true) k)) (0,()) G)) λK=>af (!D) (K (true,()) E) (K ((!F),()) E))))
theorem NE {b c a d e}(f:Ic b c a d e):AA b P IW #[J6 J9 c,J4 a.p a.len a.cap] d e:=Ae (AO AU (AO Cv (AO Cv (Cc 2 (AO Cv (Cc 2 (AO (AO (.bD [(47,.one .bool)] [1,5,6,8]) EI) (AO (AO AU (.block (.loop [(50,.one (.int J9))] [5,6,8,48,49] (AO AU (AO Fg (AO (.block (Cc 2 (AO (.block (.loop [] [5,6,8,11,48,49,50] (.block (AO AU (AO (AO (.bD [(84,.one .bool)] [5,6,8,11,12,13,48,49,50]) EI) (AO (.bD [(89,.one .bool)] [5,6,8,11,48,49,50]) Fg)))))) (AO Cv (AO AU (AO (.bD [(112,.one .bool)] [5,6,8,48,49,50]) EI)))))) AU)))))) CK)))))))) (by kernel_rfl) f
end Go.Lf.G
namespace Go.Lf
open G
open Go
abbrev bF.V(s:bF)(a b c:Sl):bR:=⟨a,s.prog.aG,s.status,s.next,s.bA,s.asked,s.taken,s.fresh,b,c,s.cancel,s.bj⟩
end Go.Lf
namespace Go.Lf.G
open Go
structure KW (h:aa) (s:bF) (a b c:Sl):Prop where
 steps:View TZ h a s.prog.steps
 aK:View pa h b s.aK
 ar:View pd h c s.ar
theorem KW.mod {g:Nat->Prop}{h j:aa}{s:bF}{a b c:Sl}(i:KW h s a b c)(m:Mod g h j)(k: ∀x,a.ag=some x-> ¬g x)(l: ∀x,b.ag=some x-> ¬g x)(n: ∀x,c.ag=some x-> ¬g x):KW j s a b c:=
 ⟨i.steps.mod m λx d f=>k x d f,i.aK.mod m λx d f=>l x d f,i.ar.mod m λx d f=>n x d f⟩
theorem KW.ext {h f:aa}{s:bF}{a b c:Sl}(d:KW h s a b c)(x:Ext h f):KW f s a b c:=⟨d.steps.ext x,d.aK.ext x,d.ar.ext x⟩
structure D3 (h hh:aa) (T0 T1 T2:Q7) (x:bR) (e:Ev) (y:bR):Prop where
 ext:Ext h hh
 b0:hh[h.size]? =some (J2 x.c T0 (0,0))
 b1:hh[h.size+1]? =some (J2 e.c T1 (0,0))
 b2:hh[h.size+2]? =some (J2 y.c T2 (0,0))
section
variable {A : ak} {h hh : aa} {T0 T1 T2 : Q7} {x y : bR} {e : Ev} {R : A2H}
theorem qy {K:Nat->Nat->Nat->aa->Prop}(m: ∀hh,D3 h hh T0 T1 T2 x e y->K h.size (h.size+1) (h.size+2) hh):
  ao h (J2 x.c T0) λb f=>ao f (J2 e.c T1) λn g=>ao g (J2 y.c T2) λo a=>K b n o a:=by
 refine ao.mk λf _ p q c=>ao.mk λg _ i j k=>ao.mk λa _ l d r=>?_
 rw[c] at i;rw[k,c] at l;have:=m a ⟨(q.trans j).trans d,d.ag (j.ag p (λh=>h)) (λh=>h),d.ag i (λh=>h),l⟩;rw[k,c];exact this
theorem D3.on {b:aa}(a:D3 h hh T0 T1 T2 x e y)(m:Ext hh b):D3 h b T0 T1 T2 x e y:=⟨a.ext.trans m,m.ag a.b0 (λh=>h),m.ag a.b1 (λh=>h),m.ag a.b2 (λh=>h)⟩
theorem D3.set {c:Nat}{v:J0}{x':bR}{K:aa->Prop}(a:D3 h hh T0 T1 T2 x e y)(d:c<12)(f:x.c.setIfInBounds c v=x'.c)(g: ∀h',D3 h h' T0 T1 T2 x' e y->K h'):ae hh ((⟨h.size,0,none⟩:Q6).add c) v K:=
 ae.cN a.b0 d f λh' i m s=>g h' ⟨a.ext.more m λb j=>by subst j;exact A0 _,i,m.ag a.b1 (by omega),m.ag a.b2 (by omega)⟩
theorem D3.iM {j:Nat}{v:J0}{x':bR}{K:aa->Prop}(d:D3 h hh T0 T1 T2 x e y)(f:j<12)(g:x.c.setIfInBounds j v=x'.c)(i: ∀a,D3 h a T0 T1 T2 x' e y->Mod (λc=>c=h.size) hh a->K a):ae hh ((⟨h.size,0,none⟩:Q6).add j) v K:=
 ae.cN d.b0 f g λa k m s=>i a ⟨d.ext.more m λb l=>by subst l;exact A0 _,k,m.ag d.b1 (by omega),m.ag d.b2 (by omega)⟩ m
theorem D3.pM {v:J0}{x':bR}{K:aa->Prop}(b:D3 h hh T0 T1 T2 x e y)(d:x.c.setIfInBounds 0 v=x'.c)(f: ∀a,D3 h a T0 T1 T2 x' e y->Mod (λc=>c=h.size) hh a->K a):ae hh (⟨h.size,0,none⟩:Q6) v K:=
 b.iM (j:=0) (by decide) d f
theorem D3.gI {j:Nat}{v:J0}(a:D3 h hh T0 T1 T2 x e y)(b:x.c[j]? =some v):ah hh ((⟨h.size,0,none⟩:Q6).add j)=some v:=AB a.b0 b
theorem D3.cN {j:Nat}{v:J0}(a:D3 h hh T0 T1 T2 x e y)(b:e.c[j]? =some v):ah hh ((⟨h.size+1,0,none⟩:Q6).add j)=some v:=AB a.b1 b
theorem IU {h:aa}{b:Nat}{T:Q7}{fr:Nat×Nat}{x:bR}(a:h[b]? =some (J2 x.c T fr)):Cells h ⟨b,0,none⟩ x.l:=EN a rfl
theorem Qu {h:aa}{b:Nat}{T:Q7}{fr:Nat×Nat}{x:Ev}(a:h[b]? =some (J2 x.c T fr)):Cells h ⟨b,0,none⟩ x.l:=EN a rfl
theorem Ph(x y:bR):iu y.c 0 x.l=x.c:=rfl
theorem qz(x y:Ev):iu y.c 0 x.l=x.c:=rfl
theorem D3.lR {K:bR->Prop}(a:D3 h hh T0 T1 T2 x e y)(b:K x):Bo hh ⟨h.size,0,none⟩ K:=Bo.mk x (IU a.b0) b
theorem D3.pN {K:Ev->Prop}(a:D3 h hh T0 T1 T2 x e y)(b:K e):NS hh ⟨h.size+1,0,none⟩ K:=NS.mk e (Qu a.b1) b
theorem D3.tq {z:bR}{K:aa->Prop}(d:D3 h hh T0 T1 T2 x e y)(g: ∀a,D3 h a T0 T1 T2 z e y->Mod (λc=>c=h.size) hh a->K a):aW hh ⟨h.size,0,none⟩ z.l K:=
 aW.mk d.b0 (A0 12) λa f m s=>g a ⟨d.ext.more m λb i=>by subst i;exact A0 _,(by rw[Ph] at f;exact f),m.ag d.b1 (by omega),m.ag d.b2 (by omega)⟩ m
theorem D3.tell {z:bR}{K:bR->aa->Prop}(c:D3 h hh T0 T1 T2 x e y)(g: ∀a,Ext h a->K z a):aW hh ⟨h.size+2,0,none⟩ z.l λd=>Bo d ⟨h.size+2,0,none⟩ λi=>K i d:=
 aW.mk c.b2 (A0 12) λa f m s=>Bo.mk z (IU (by rw[Ph] at f;exact f)) (g a (c.ext.more m λb j=>by subst j;omega))
theorem D3.je {z:bR}{K:bR->aa->Prop}(d:D3 h hh T0 T1 T2 x e y)(i: ∀a,Ext h a->Mod (λc=>c=h.size+2) hh a->K z a):aW hh ⟨h.size+2,0,none⟩ z.l λf=>Bo f ⟨h.size+2,0,none⟩ λj=>K j f:=
 aW.mk d.b2 (A0 12) λa g m s=>Bo.mk z (IU (by rw[Ph] at g;exact g)) (i a (d.ext.more m λb k=>by subst k;omega) m)
theorem D3.ret {K:bR->aa->Prop}(a:D3 h hh T0 T1 T2 x e y)(d: ∀b,Ext h b->K x b):Bo hh ⟨h.size,0,none⟩ λt=>aW hh ⟨h.size+2,0,none⟩ t.l λc=>Bo c ⟨h.size+2,0,none⟩ λf=>K f c:=
 a.lR (a.tell d)
theorem D3.pO {K:bR->aa->Prop}(b:D3 h hh T0 T1 T2 x e y)(f: ∀a,Ext h a->Mod (λc=>c=h.size+2) hh a->K x a):Bo hh ⟨h.size,0,none⟩ λt=>aW hh ⟨h.size+2,0,none⟩ t.l λd=>Bo d ⟨h.size+2,0,none⟩ λg=>K g d:=
 b.lR (b.je f)
def kg(a:Int):Prop:=a=1\/a=2\/a=12\/a=13\/a=18
theorem AIa {s:bF}{a b c:Sl}(m:e.kind=2)(p: ∀g,Ext h g->R (J1 #[(((Ii s e).getD s).V a b c).v,J3 (Ii s e).isSome]) g):AA A P MW #[(s.V a b c).v,e.v] h R:=by
 refine YQ ?_;unfold Qq;refine qy λr d=>?_
 refine ai.mk λK t=>ai.mk λu v=>?_
 have key: ∀(l:Bool),(l=true↔s.asked=0/\s.taken=0/\s.fresh=true)->u (l,()) r:=λl q=>by
  refine v _ _ (af.intro (λf=>?_) (λf=>?_))
  ·have f:l=true:=f;refine AC.mk (d.cN (j:=0) rfl) (d.set (x':=({s with asked:=e.id}:bF).V a b c) (by decide) rfl λD w=>t _ _ (w.ret λg x=>?_));have:=p g x;unfold Ii at this;rw[if_pos m,if_pos (q.1 f)] at this;exact this
  ·have f:l=false:=f;have n: ∀o:Int,o≠2->(e.kind==o)=false:=λo h=>by simp;omega
   refine ai.mk λE z=>AC.mk (d.cN (j:=1) rfl) (af.no (n 3 (by decide)) (z _ _ (af.no rfl (ai.mk λF B=>AC.mk (d.cN (j:=1) rfl) (af.no (n 4 (by decide)) (B _ _ (af.no rfl (ai.mk λG C=>AC.mk (d.cN (j:=1) rfl) (af.no (n 5 (by decide)) (C _ _ (af.no rfl (d.ret λg x=>?_))))))))))))
   have:=p g x;unfold Ii at this;rw[if_pos m,if_neg λh=>by rw[q.2 h] at f;cases f] at this;exact this
 refine AC.mk (d.cN (j:=1) rfl) (af.yes (by simp[m]) (AC.mk (d.gI (j:=5) rfl) (af.intro (λi=>?_) (λi=>key _ (by simp at i;simp[i])))));have i:s.asked=0:=by simpa using i
 refine AC.mk (d.gI (j:=6) rfl) (af.intro (λk=>?_) (λk=>key _ (by simp at k;simp[k])));have k:s.taken=0:=by simpa using k
 exact AZ.mk (d.gI (j:=7) rfl) (key _ (by simp[i,k]))
theorem AN8 {s:bF}{a b c:Sl}{d:Int}(k: ∀g,Ext h g->R ((ir s d).V a ⟨none,0,0⟩ ⟨none,0,0⟩).v g):AA A P Il #[(s.V a b c).v,J6 J9 d] h R:=by
 refine ADo ?_;unfold Ww;refine ao.mk λJ _ l n K=>ao.mk λL _ o i M=>?_
 have p:=i.ag l (λh=>h);refine ae.cN (eY:=(({s with status:=d}:bF).V a b c).c) p (of_decide_eq_true rfl) rfl λN q r _=>?_
 refine ae.cN (eY:=(({s with status:=d,asked:=0}:bF).V a b c).c) q (of_decide_eq_true rfl) rfl λO t u _=>?_
 refine ae.cN (eY:=(({s with status:=d,asked:=0,taken:=0}:bF).V a b c).c) t (of_decide_eq_true rfl) rfl λQ v w _=>?_
 refine ae.cN (eY:=(({s with status:=d,asked:=0,taken:=0,fresh:=false}:bF).V a b c).c) v (of_decide_eq_true rfl) rfl λS z B _=>?_
 refine ae.cN (eY:=(({s with status:=d,asked:=0,taken:=0,fresh:=false}:bF).V a ⟨none,0,0⟩ c).c) z (of_decide_eq_true rfl) rfl λT C D _=>?_
 refine ae.cN (eY:=(({s with status:=d,asked:=0,taken:=0,fresh:=false}:bF).V a ⟨none,0,0⟩ ⟨none,0,0⟩).c) C (of_decide_eq_true rfl) rfl λU E F _=>?_
 have m:=((((r.trans u).trans w).trans B).trans D).trans F;have G:=m.ag o (by omega);refine Bo.mk (({s with status:=d,asked:=0,taken:=0,fresh:=false}:bF).V a ⟨none,0,0⟩ ⟨none,0,0⟩) (IU E) ?_;refine aW.mk G (A0 12) λH j I V=>Bo.mk _ (IU (by rw[Ph] at j;exact j)) (k H ?_)
 exact((n.trans i).more m λc f=>by subst f;exact A0 _).more I λc f=>by subst f;omega
end
end Go.Lf.G
namespace Go.Lf
open Go
structure Ec (s:bF) (n:Nat):Prop where
 aK:s.aK.length<=n
 ar:s.ar.length<=n
 steps:s.prog.steps.length<=16
 aG:0<=s.prog.aG/\s.prog.aG<=16000
 bA:0<=s.bA/\s.bA<=1099511627776
 next:0<=s.next/\s.next<=501
 st:0<=s.status/\s.status<=4
 waits: ∀x∈s.prog.steps,0<=x.wait/\x.wait<=1000
theorem Ec.zero:Ec UO 0:=⟨by decide,by decide,by decide,by decide,by decide,by decide,by decide,λx a=>by cases a⟩
theorem AQT {x:cD}(a:NK x=true):0<=x.wait/\x.wait<=1000:=by
 unfold NK at a
 repeat' split at a
 all_goals first|(simp only[A3,DE,decide_eq_true_eq,Bc] at a;omega)|cases a
theorem SG {a:Ev}(d:Dk a=true):(1<=a.kind/\a.kind<=18)/\(1<=a.id/\a.id<=500)/\(0<=a.tick/\a.tick<=1099511627776)/\(a.kind=1-> ∃p,Ja (bl a.data)=some p/\GL p=true)/\(a.kind=12->Aj a.data=true):=by
 unfold Dk at d;rw[A3] at d;obtain⟨c,b⟩:=d;simp only[FC,A3] at c;refine⟨Bc.1 c.1.1.1.1.1.1.1,Bc.1 c.1.1.1.1.1.1.2,Bc.1 c.1.1.1.1.1.2,λe=>?_,λe=>?_⟩
 ·unfold KV at b;rw[if_pos e] at b;obtain⟨p,f⟩:=Option.isSome_iff_exists.1 b;exact⟨p,f,(xq f).1⟩
 ·unfold KV at b;rw[if_neg (by omega),if_pos e] at b;exact b
theorem yy {p:cA}(a:GL p=true):p.steps.length<=16/\(0<=p.aG/\p.aG<=16000)/\ ∀x∈p.steps,NK x=true:=by simp only[GL,A3,decide_eq_true_eq,DQ] at a;exact⟨a.1.1,Bc.1 a.1.2,a.2⟩
structure nc (s t:bF):Prop where
 prog:t.prog=s.prog
 next:t.next=s.next
 bA:t.bA=s.bA
theorem Qg {s t:bF}{b:Ev}(a:Ii s b=some t):nc s t/\t.aK=s.aK/\t.ar=s.ar/\t.status=s.status:=by
 unfold Ii at a
 repeat' split at a
 all_goals first|(cases a;exact⟨⟨rfl,rfl,rfl⟩,rfl,rfl,rfl⟩)|cases a
theorem yz {s t:bF}{b:Ev}(a:Ow s b=some t):nc s t/\(t.aK=s.aK\/t.aK= [])/\(t.ar=s.ar\/t.ar= [])/\(t.status=s.status\/(1<=t.status/\t.status<=4)):=by
 unfold Ow at a
 repeat' split at a
 all_goals first|(cases a;first|exact⟨⟨rfl,rfl,rfl⟩,.inl rfl,.inl rfl,.inl rfl⟩|exact⟨⟨rfl,rfl,rfl⟩,.inr rfl,.inr rfl,.inr (by simp only[ir];omega)⟩)|cases a
theorem AMs {s t:bF}{b:Ev}(a:rV s b=some t):nc s t/\t.aK.length<=s.aK.length+1/\t.ar=s.ar/\t.status=s.status:=by
 unfold rV at a;split at a
 ·obtain⟨x,c,a⟩:=Option.bind_eq_some_iff.1 a;split at a
  ·cases a
  ·cases a;exact⟨⟨rfl,rfl,rfl⟩,by simp,rfl,rfl⟩
 ·obtain⟨i,d,a⟩:=Option.bind_eq_some_iff.1 a;obtain⟨e,f,a⟩:=Option.bind_eq_some_iff.1 a
  repeat' split at a
  all_goals first|(cases a;exact⟨⟨rfl,rfl,rfl⟩,by first|(simp only[PA];omega)|(have:=A0q s.aK i;simp only;omega),rfl,rfl⟩)|cases a
theorem AKg {s t:bF}{b:Ev}(a:rW s b=some t):nc s t/\t.aK=s.aK/\t.ar.length<=s.ar.length+1/\t.status=s.status:=by
 unfold rW at a;split at a
 ·obtain⟨x,c,rfl⟩:=Option.map_eq_some_iff.1 a;exact⟨⟨rfl,rfl,rfl⟩,rfl,by simp,rfl⟩
 ·obtain⟨i,d,rfl⟩:=Option.map_eq_some_iff.1 a;exact⟨⟨rfl,rfl,rfl⟩,rfl,by have:=A0q s.ar i;simp only;omega,rfl⟩
theorem AKY {s t:bF}{g:Ev}(a:RX s g=some t): ∃u:bF,t= {u with next:=s.next+1}/\nc s u/\u.aK.length<=s.aK.length+1/\u.ar.length<=s.ar.length+1/\(u.status=s.status\/(1<=u.status/\u.status<=4)):=by
 unfold RX at a;obtain⟨u,b,rfl⟩:=Option.map_eq_some_iff.1 a;refine⟨u,rfl,?_⟩;split at b
 ·obtain⟨c,d,e,f⟩:=Qg b;exact⟨c,by rw[d];omega,by rw[e];omega,.inl f⟩
 ·split at b
  ·obtain⟨c,d,e,f⟩:=AMs b;exact⟨c,d,by rw[e];omega,.inl f⟩
  ·split at b
   ·obtain⟨c,d,e,f⟩:=AKg b;exact⟨c,by rw[d];omega,e,.inl f⟩
   ·obtain⟨c,d,e,f⟩:=yz b;exact⟨c,by rcases d with a|a<;>rw[a]<;>simp,by rcases e with a|a<;>rw[a]<;>simp,f⟩
theorem UV {s:bF}{c:Ev}{g:Nat}(b:Ec s g)(a:(Bj s c).1=0):Ec (Bj s c).2 (g+1):=by
 have ok:=Qz a;obtain⟨w,y,j,k,_⟩:=SG ok;unfold Bj at a ⊢;rw[if_neg (by simp[ok])] at a ⊢;split at a
 ·rename_i f;rw[if_pos f];split at a
  ·rename_i d;rw[if_pos d];obtain⟨p,l,m⟩:=k d.1;obtain⟨n,o,q⟩:=yy m;show Ec (Xq c) _;unfold Xq;rw[l,FG];exact⟨A5 _,A5 _,n,o,j,by show(0:Int)<=2/\(2:Int)<=501;omega,by show(0:Int)<=0/\(0:Int)<=4;omega,λx r=>AQT (q x r)⟩
  ·cases a
 ·rename_i f;rw[if_neg f];split at a
  ·cases a
  ·rename_i d;rw[if_neg d];split at a
   ·cases a
   ·rename_i h;rw[if_neg h];have z:c.id=s.next:=by simpa using h
    cases i:RX s c with
    |none=>rw[i] at a;cases a
    |some t=>
     obtain⟨u,rfl,e,A,B,v⟩:=AKY i;have C:=b.aK;have D:=b.ar;exact⟨by show u.aK.length<=_;omega,by show u.ar.length<=_;omega,by show u.prog.steps.length<=_;rw[e.prog];exact b.steps,by show 0<=u.prog.aG/\_;rw[e.prog];exact b.aG,by show 0<=u.bA/\_;rw[e.bA];exact b.bA,by show 0<=s.next+1/\s.next+1<=501;omega,by
      have:=b.st;show 0<=u.status/\u.status<=4;rcases v with a|a<;>omega,by show ∀x∈u.prog.steps,_;rw[e.prog];exact b.waits⟩
theorem yA: ∀ {l:List Ev} {s t:bF} {a:Nat},Ec s a->FU s l=some t->Ec t (a+l.length)
 | [],s,t,a,c,b=>by cases b;exact c
 |e::l,s,t,a,c,b=>by
  rw[FU] at b;split at b
  ·rename_i d;have:=yA (UV c d) b;rw[A6];rw[show a+(l.length+1)=a+1+l.length from by omega];exact this
  ·cases b
end Go.Lf
namespace Go.Lf
open Go
variable {α : Type} {E : cL α} {A : ak} {P : Q1}
theorem Mod.mod {d:Nat->Prop}{b c:aa}(a:Mod (λ_=>False) b c):Mod d b c:=a.aj λ_ _ b=>b.elim
end Go.Lf
