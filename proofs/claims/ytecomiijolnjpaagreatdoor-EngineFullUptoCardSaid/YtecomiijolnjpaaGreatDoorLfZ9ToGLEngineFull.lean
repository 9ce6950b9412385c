/-
 A store over its files (chapter 9): plain law: what is kept in step, how much there may be, what a crash leaves.
-/
import Derived.Test.YtecomiijolnjpaaGreatDoorLfM12ToZ8
import Derived.Lib.AtoiAllCases
import Derived.Test.YtecomiijolnjpaaGreatDoorLfU2ToY5
import Derived.Test.YtecomiijolnjpaaGreatDoorCards
import Derived.Test.YtecomiijolnjpaaGreatDoorTie
import Derived.Deep.DeepHandedRow
import Derived.Lib.LaidTab
import Derived.Stop.LaidErr
import Derived.Test.YtecomiijolnjpaaGreatDoorLfY6ToM11
import Derived.Test.YtecomiijolnjpaaGreatDoorRows
import Derived.WalkKit
import Derived.ProofKit
import Derived.OpenShut
import Derived.JoinedCond
import Derived.Deep.Slices
import Derived.Carry
import Derived.Test.YtecomiijolnjpaaGreatDoorLfJToGA
set_option maxRecDepth 100000
set_option linter.unusedVariables false
set_option linter.unusedSimpArgs false
open Go.IntKind renaming i64→J9,wrap→J8
open Go.Value renaming string→J7,int→J6,pointer→J5,slice→J4,bool→J3,tuple→J1
open Go.Obj renaming cells→J2
open Go renaming Value→J0,Addr→Q6,TypeId→Q7,FuncId→Q8,Program→Q1
open Go.Addr renaming add→Q9,mk→Q5
namespace Go.Lf.G
open Go
open M (Sorted Ae Cr BG Ag Aw Bf Aj bG BM)
def qV(a:Nat):Nat:=20000*a+10000000
structure cI where
 C:Nat
 W0:Nat
 A:Nat
 hC:C<=100000
 hA:A<=60000
 hW:W0+A*qV C<=8000000000000
def cI.K(a:cI):Nat:=qV a.C
theorem cI.wt(b:cI){a:Nat}(c:a<=b.A):b.W0+a*b.K<=8000000000000:=by
 have d:=b.hW;have f:a*b.K<=b.A*b.K:=AS _ c;have e:b.A*qV b.C=b.A*b.K:=rfl;rw[e] at d;generalize a*b.K=x at*
 generalize b.A*b.K=g at*
 omega
theorem xP: ∀a:List (List UInt8),(∀ r∈a,r.length<=1048576)->(aH a).length<=(a.map List.length).sum+a.length*14
 | [],_=>by simp
 |r::a,b=>by
  have d:=(I6 (b r AN)).2;have e:=xP a λx c=>b x (An _ c)
  rw[Vs];simp only[A1,BT,GP,A5];omega
theorem xQ: ∀a:List (List Pr),((a.map BL).map List.length).sum=(BL a.flatten).length
 | []=>rfl
 |b::a=>by
  simp only[BT,GP,List.flatten_cons,xQ a];simp[BL]
theorem AL9 {a b s c f p:Nat}(d:b<=s+c*14)(e:s=p+f)(g:p<=a*8276)(h:f<=1048576)(i:c<=a+2):b<=8400*a+1100000:=by omega
theorem xR {l:List Pr}(t:Gg l):(JM l).length<=8400*l.length+1100000:=by
 have c:=xP (aR l (ME l)) (Mr t.eG);have d:((aR l (ME l)).map List.length).sum=(BL l).length+(UX l (ME l)).length:=by have a:=xQ (KE l);rw[ALT] at a;rw[<- a];simp only[aR,CH,List.sum_append,BT,Se,GP,List.sum_nil,G4]
 have b:(aR l (ME l)).length<=l.length+2:=by
  have b:(aR l (ME l)).length=Bo l+1:=by simp[aR,Gd]
  have e:Bo l<=l.length+1:=by unfold Bo;omega
  omega
 exact AL9 c d (Kw t.ok) (Ws t.eG) b
def NH(a:Bn):Nat:=((Ai a).names.map λb=>(a.T b).length).sum+(Hw a).flatten.length
structure EZ (F:bQ) (st:Db) (D:Bn):Prop where
 ok:BH F D
 names:(Ai D).names=st.ts.map (·.1)
 cj: ∀p∈st.ts,D.T p.1=p.2
 aT:(Ai D).aT=st.aT
 next:(Ai D).next<=st.next
 below: ∀p∈st.ts,p.1<st.next
 fr:st.fr=ET D
 gw: ∀n,st.au<=n->n<=99999999->(st.bo=true->n≠st.au)->F (aC nl n)=none
 jf:st.bo=true->F (aC nl st.au)=some (AX (aH ((D.L st.au).map (BN st.au))),bz)
 je: ∀n,st.aJ<=n->n<=99999999->F (aC nn n)=none
 eI:1<=st.aT/\st.aT<=st.au
 aJ:1<=st.aJ
 clean: ∀n,F (aU n)≠none->n∈st.ts.map (·.1)
structure Rc (st:Db) (D:Bn) (aI c:Nat):Prop where
 au:st.au<=8*aI+4
 aJ:st.aJ<=8*aI+4
 next:st.next<=8*aI+4
 cn:st.ts.length<=aI
 bV:NH D<=c
 aO:D.aO<=8*aI+6
 aV:D.aV<=8*aI+6
structure iU (F:bQ) (D:Bn) (aI c:Nat):Prop where
 aO:D.aO<=8*aI+8
 aV:D.aV<=8*aI+8
 next:(Ai D).next<=8*aI+8
 aT:(Ai D).aT<=8*aI+8
 cn:(Ai D).names.length<=aI
 bV:NH D<=c
 lZ: ∀n,F (aU n)≠none->n<8*aI+8
def Rec(b:bQ)(aI c:Nat)(d:List Pr):Prop:= ∃a,BH b a/\iU b a aI c/\ct a=d
def jF(a:bQ)(aI c:Nat)(b:List Pr):Prop:= ∀G,LY a G->Rec G aI c b
theorem Rc.mono {st:Db}{a:Bn}{aI b c d:Nat}(l:Rc st a aI c)(e:aI<=b)(f:c<=d):Rc st a b d:=
 ⟨by have:=l.au;omega,by have:=l.aJ;omega,by have:=l.next;omega,by have:=l.cn;omega,by have:=l.bV;omega,by have:=l.aO;omega,by have:=l.aV;omega⟩
theorem iU.mono {a:bQ}{b:Bn}{aI d c e:Nat}(l:iU a b aI c)(h:aI<=d)(i:c<=e):iU a b d e:=
 ⟨by have:=l.aO;omega,by have:=l.aV;omega,by have:=l.next;omega,by have:=l.aT;omega,by have:=l.cn;omega,by have:=l.bV;omega,λf g=>by have:=l.lZ f g;omega⟩
theorem Rec.mono {a:bQ}{aI b c d:Nat}{e:List Pr}(r:Rec a aI c e)(f:aI<=b)(g:c<=d):Rec a b d e:=by obtain⟨h,i,j,k⟩:=r;exact⟨h,i,j.mono f g,k⟩
theorem LY.some {a G:bQ}(c:LY a G){x:A2O}(b:G x≠none):a x≠none:=λd=>b (by
 have:=c x;rw[d] at this;exact this)
theorem EZ.iu {b:bQ}{st:Db}{a:Bn}(L:EZ b st a):(Ai a).names.length=st.ts.length:=by rw[L.names];simp
theorem EZ.aE {b:bQ}{st:Db}{a:Bn}(L:EZ b st a):(Ai a).names.map a.T=G.aE st:=by rw[L.names,AT];exact CM λp c=>L.cj p c
theorem EZ.map {b:bQ}{st:Db}{a:Bn}(L:EZ b st a):ct a=CZ st:=by unfold ct CZ Kv;rw[L.aE,<-L.fr]
theorem EZ.kH {b:bQ}{st:Db}{a:Bn}(L:EZ b st a):gQ (Ai a):=wO L.ok
theorem EZ.nd {a:bQ}{st:Db}{b:Bn}(L:EZ a st b):(st.ts.map (·.1)).Nodup:=by rw[<- L.names];exact L.kH.nd
theorem EZ.ji {d F':bQ}{st:Db}{a:Bn}{aI c:Nat}(L:EZ d st a)(l:Rc st a aI c)(e: ∀b,F' (aU b)≠none->b<8*aI+8):iU F' a aI c:=by have:=L.next;have:=l.next;have:=L.eI;have:=l.au;exact⟨by have:=l.aO;omega,by have:=l.aV;omega,by omega,by rw[L.aT];omega,by rw[L.iu];exact l.cn,l.bV,e⟩
theorem EZ.fx {a:bQ}{st:Db}{b:Bn}{aI c:Nat}(L:EZ a st b)(l:Rc st b aI c){n:Nat}(d:a (aU n)≠none):n<st.next:=by obtain⟨p,e,rfl⟩:=List.mem_map.1 (L.clean n d);exact L.below p e
theorem EZ.iI {a:bQ}{st:Db}{b:Bn}{aI c:Nat}(L:EZ a st b)(l:Rc st b aI c):a (aU st.next)=none:=by
 cases d:a (aU st.next) with
 |none=>rfl
 |some p=>exact absurd (L.fx l (n:=st.next) (by rw[d];simp)) (by omega)
theorem EZ.oy {b:bQ}{st:Db}{a:Bn}{aI c:Nat}(L:EZ b st a)(l:Rc st a aI c):jF b aI c (CZ st):=λG d=>by
 refine⟨a,L.ok.dK d,L.ji l λf e=>?_,L.map⟩;have g:=L.fx l (d.some e);have:=l.next;omega
theorem EZ.jg {e F':bQ}{st:Db}{b:Bn}{aI c:Nat}(L:EZ e st b)(l:Rc st b aI c)(h: ∀x,(∀ a,a∉st.ts.map (·.1)->x≠aU a)->F' x=e x)(i: ∀a,F' (aU a)≠none->a<8*aI+8):BH F' b/\jF F' aI c (CZ st):=by
 have f:BH F' b:=L.ok.fR λx j=>h x λa d=>j a (by rw[L.names];exact d)
 exact⟨f,λG g=>⟨b,f.dK g,L.ji l λa d=>i a (g.some d),L.map⟩⟩
theorem xS {a b:Bn}{f:Nat}(d:b.L=a.L)(e:b.aO=a.aO)(g:(Ai b).aT=f):Hw b=(List.range a.aO).flatMap λc=>if c<f then [] else a.L c:=by unfold Hw;rw[d,e,g]
theorem xT {a b:Bn}(c:b.L=a.L)(d:b.aO=a.aO)(e:(Ai b).aT=(Ai a).aT):Hw b=Hw a:=by rw[xS c d e];rfl
theorem ALi {c a:Bn}{f:Nat}(d:a.L=c.L)(e:a.aO=c.aO)(g:(Ai a).aT=f)(h: ∀b,f<=b->c.L b= []):Hw a= []:=by
 rw[xS d e g,List.flatMap_eq_nil_iff];intro b _;split
 ·rfl
 ·exact h b (by omega)
theorem xU {a b:Bn}(d:b.L=a.L)(e:b.aO=a.aO)(c:Ai b=Ai a)(f:b.T=a.T):ct b=ct a/\NH b=NH a:=by have g:=xT d e (congrArg Nt.aT c);unfold ct ET NH;rw[g,c,f];exact⟨rfl,rfl⟩
structure Br (B:cI) (g h:aa) (q:Hp) (k:Nat->Nat) (st:Db) (m:Bx) (D:Bn) (aI c:Nat):Prop where
 mem:bJ g h q k st m
 up:m.down=false
 eY:EZ (ff m) st D
 lim:Rc st D aI c
 wt:bg m.files<=B.W0+aI*B.K
 hc:c<=B.C
theorem Br.aI {b:cI}{g d:aa}{e:Hp}{f:Nat->Nat}{st:Db}{m:Bx}{h:Bn}{aI i c:Nat}(a:Br b g d e f st m h aI c)(j:aI<=i):Br b g d e f st m h i c:=
 ⟨a.mem,a.up,a.eY,a.lim.mono j (A0 _),AF a.wt (Lo (AS _ j) _),a.hc⟩
theorem AMp(l:List (List Pr)):M.total l=(l.map List.length).sum:=rfl
theorem EZ.cn {b:bQ}{st:Db}{a:Bn}(L:EZ b st a):NH a=M.total (G.aE st)+(Hw a).flatten.length:=by unfold NH;rw[<- L.aE,AMp,AT];rfl
theorem AKt(a:Bn):(ET a).length<=(Hw a).flatten.length:=by have:=M.P8 (l:=(Hw a).flatten) (t:= []);unfold ET;simpa using this
theorem EZ.dc {b:bQ}{st:Db}{a:Bn}{aI c:Nat}(L:EZ b st a)(l:Rc st a aI c):st.fr.length+M.total (G.aE st)<=c:=by have d:=L.cn;have e:=AKt a;have f:=l.bV;rw[L.fr];omega
theorem EZ.jk {b:bQ}{st:Db}{a:Bn}{aI c:Nat}(L:EZ b st a)(l:Rc st a aI c):(Ag (st.fr::G.aE st)).length<=c:=by have d:=M.R3 (st.fr::G.aE st);rw[M.yk] at d;have:=L.dc l;omega
theorem EZ.fH {b:bQ}{st:Db}{a:Bn}{aI c:Nat}(L:EZ b st a)(l:Rc st a aI c):(Fy (G.aE st)).length<=M.total (G.aE st):=by have d:=M.R3 (G.aE st);have e:=qM (Ag (G.aE st));unfold Fy;omega
structure nL (B:cI) (h h':aa) (q:Hp) (k:Nat->Nat) (m m':Bx) (aI:Nat):Prop where
 fuel:m.fuel≠ -1
 dn:qR h' q.d
 box: ∃S',Cm h' q.b S' m'/\ ∀c,S' c->k c≠0\/h.size<=c
 down:m'.down=true
 mod:Mod (λc=>k c≠0) h h'
 fi: ∀y,¬da y->ff m' y=ff m y
 wt:bg m'.files<=B.W0+aI*B.K
section
variable {A : al} {B : cI} {g h : aa} {q : Hp} {k : Nat -> Nat} {st : Db} {m : Bx} {D : Bn} {aI c : Nat} {R : A2N}
theorem JF {f:aa}{e:Nat->Prop}{i:Bx}(a:bJ g h q k st m)(o:Cm f q.b e i)(j:Mod (λc=>q.Sb c\/c=q.lg\/c=q.nt) h f)(l: ∀c,e c->q.Sb c\/h.size<=c)
  (p: ∀d,qR d q.d->Cm d q.b e i->Mod (λc=>k c≠0) h d->(∀ c,e c->k c≠0\/h.size<=c)->R (J6 J9 30) d):AA A P CV #[Ay q.d,J6 J9 30] f R:=by
 have u:=a.gU;have r:f[q.d]? =some (J2 (eg q st false) El (0,0)):=j.af a.cell (by
  rintro(h|h|h)
  ·exact a.lY h
  ·exact a.dl h
  ·exact a.dn h)
 have nd: ¬e q.d:=λb=>by
  rcases l _ b with h|h
  ·exact a.lY h
  ·omega
 refine APm r λd s n v=>p d s (o.mod n λc b t=>nd (t▸b)) ((j.ai λc _ b=>?_).trans (n.ai λc _ b=>?_)) λc b=>(l c b).imp (λh=>by rw[a.kb c h];decide) id
 ·rcases b with b|rfl|rfl
  ·rw[a.kb c b];decide
  ·rw[a.kl];decide
  ·rw[a.kn];decide
 ·rw[b,a.kd];decide
theorem AQ1(a:Nat):da (aU a):= .inr (.inr ⟨a,rfl⟩)
theorem AQq(a:Nat):da (aC nn a):= .inr (.inl ⟨a,rfl⟩)
theorem ARJ(a:Nat):da (aC nl a):= .inl ⟨a,rfl⟩
theorem P7 {a:A2O}(h: ¬da a)(b:Nat):a≠aU b:=λd=>h (d▸AQ1 b)
theorem kh {a:A2O}(h: ¬da a)(b:Nat):a≠aC nn b:=λd=>h (d▸AQq b)
theorem nM {a:A2O}(h: ¬da a)(b:Nat):a≠aC nl b:=λd=>h (d▸ARJ b)
theorem ANf(d:bJ g h q k st m)(L:EZ (ff m) st D)(l:Rc st D aI c)(e:c<=B.C)(a:Fy (aE st)≠ []):Gg (Fy (aE st)):=by have f:=L.fH l;have i:=L.dc l;have j:=B.hC;exact⟨a,λx b=>nN (nP.2 x b),nP.1,by omega⟩
theorem cI.step(B:cI){a w' aI d:Nat}(h:a<=B.W0+aI*B.K)(e:w'<=a+d)(hd:d<=20000*B.C+10000000):w'<=B.W0+(aI+1)*B.K:=by
 have b:(aI+1)*B.K=aI*B.K+B.K:=Nat.succ_mul _ _;have f:B.K=20000*B.C+10000000:=rfl;rw[b];generalize aI*B.K=x at*
 omega
theorem wP {t b a c:Nat}(d:t<=8400*c+1100000)(e:b<=a)(f:a<=8000000000000)(i:c<=100000):b+t+1<=8796093022208:=by omega
theorem AQF {a b d x:Nat}(e:b<=a+x)(f:d<=b+700000):d<=a+(x+700000):=by rw[<- Ge];exact AF f (Nat.add_le_add_right e _)
theorem AM2(a:Nat):8400*a+1100001+700000<=20000*a+10000000:=by omega
theorem cI.step2(B:cI){a b d aI:Nat}(h:a<=B.W0+aI*B.K)(e:b<=a+(8400*B.C+1100001))(f:d<=b+700000):d<=B.W0+(aI+1)*B.K:=
 B.step h (AQF e f) (AM2 B.C)
theorem AIe(br:cm g)(S:Br B g h q k st m D aI c)(hA:aI+1<=B.A)
  (bs: ∀h' ac,nL B h h' q k m ac (aI+1)->jF (ff ac) (aI+1) c (CZ st)->R (J6 J9 30) h')
  (b3: ∀h' aL b4 bE ac r,aL.d=q.d->aL.b=q.b->Br B g h' aL b4 bE ac r (aI+1) c->JA m ac->bE.fr=st.fr->CZ bE=CZ st->bE.ts.length<=1->(∀ E,¬da E->ff ac E=ff m E)->Mod (λc=>k c≠0) h h'->(∀ c,b4 c≠0->k c≠0\/h.size<=c)->R (J6 J9 0) h'):
  AA A P JJ #[Ay q.d] h R:=by
 have cR:=S;obtain⟨u,hd,L,l,aM,b⟩:=S;have eA:=B.hA;have cS:=B.hC;have cT:=B.wt (a:=aI) (by omega);refine Xo ?_;unfold Po;refine ah.mk λK cU=>Xr u (cU _ _ (ae.no rfl ?_))
 refine aD (AY.mk (s:=q.tp) (AB u.cell rfl) ?_);have eB:=u.cY;have cV:=u.cj.len;have eC:=l.cn;refine ae.intro (λI=>?_) (λI=>?_)
 ·have f:st.ts.length<=1:=by have:=of_decide_eq_true I;omega
  exact b3 h q k st m D rfl rfl (cR.aI (by omega)) (JA.refl hd) rfl rfl f (λ_ _=>rfl) Mod.refl (λc b=> .inl b)
 refine aD (AY.mk (s:=q.tp) (AB u.cell rfl) ?_);refine Loop.rule (λaN x F=> ∃(i:Nat) (sl:Sl),x=(sl,(i:Int),())/\aN=q.ps.length-i/\i<=q.ps.length/\Ext h F/\(∀ c,sl.af=some c->h.size<=c)/\Rl A F sl ((aE st).take i)) ?_ ⟨0,⟨none,0,0⟩,rfl,rfl,by omega,Mod.refl,λc b=>by simp[Sl.af] at b,Rl.nil⟩;rintro eD aN _ F ⟨i,sl,rfl,rfl,a8,aO,bt,a9⟩ b5;dsimp only;refine ae.intro (λI=>?_) (λI=>?_)
 ·have V:i<q.ps.length:=by rw[<- cV];simpa using I
  have cW:i<st.ts.length:=by omega
  have b6:q.ps[i]? =some q.ps[i]:=A2 V;have aP:st.ts[i]? =some st.ts[i]:=A2 cW;have cX:(aE st)[i]? =some st.ts[i].2:=by unfold aE;rw[Bs,aP];rfl
  have b7:=u.on aO;refine b7.cj.view.idx b6 λa _ c=>AZ.mk (Cells.pt c) ?_
  obtain⟨bu,eE,cY,cZ,c0,b8⟩:=b7.cL i _ _ b6 aP;refine wL cY cZ b8.eG λeF bv bw O eG=>⟨_,rfl,Xq.mk bw.one.1 ?_⟩
  rw[M.rk] at bw;have v:=b8.many;refine Rl.add (a9.ext O) bw (λc b e=>?_) (by omega) (by simp[aE];omega) λc1 h' aL ac c2=>?_
  ·obtain⟨eH,c3,_,_⟩:=a9;have ad:=c3.lt e;have eI:=bt c e;rcases b with f|f|f
   ·have:=c0 c f.1 f.2;have:=(u.own c (by rw[this];decide)).2;omega
   ·omega
   ·omega
  ·rw[Aa (by omega)];refine b5 (q.ps.length-(i+1)) _ _ (by omega) ⟨i+1,c1,rfl,rfl,V,?_,λc b=>?_,?_⟩
   ·exact(aO.trans O).then (ac.ai λc _ b=> .inr (bt c b))
   ·rcases c2 c b with f|f
    ·exact bt c f
    ·have:=aO.size;have:=O.size;omega
   ·rw[AD,cX];exact aL
 have V:i=q.ps.length:=by
  have: ¬i<q.tp.len:=by simpa using I
  omega
 subst V;rw[AG (by simp[aE];omega)] at a9;clear b5;have c4:=bG.tail u.fQ;refine M.rm a9.kF (λc h=>h.elim) (by simp[aE];omega) c4 λeJ b9 c5 ca _=>⟨_,rfl,?_⟩
 refine M.rn (.inr c5) λeK ba c6 cb _=>⟨_,rfl,?_⟩
 have eL:=L.fH l;have eM:=L.dc l;have c7:(BM (Ag (aE st))).length<=1099511627776:=by have:(BM (Ag (aE st))).length=(Fy (aE st)).length:=rfl;omega
 refine M.VK c6 (λ_ _=>rfl) c7 λbx aQ az c8 c9=>⟨bx,rfl,?_⟩
 have bA:Ext h aQ:=((aO.trans ca).trans cb).trans c9;have az:Own Ba AR aQ bx (Fy (aE st)):=az;have bb:=u.on bA;have eN:=bA.size;refine aD (AY.mk (s:=q.np) (AB bb.cell rfl) ?_);refine aD (ab.dk bb.cell (by simp) λeO db dc eP=>?_);refine aD (ab.dk db (by simp) λX bB dd eQ=>?_);have bB:X[q.d]? =some (J2 (eg {q with tp:=⟨none,0,0⟩,np:=⟨none,0,0⟩} {st with next:=st.next,aT:=st.aT} false) El (0,0)):=by simpa using bB
 have aR:Mod (· =q.d) aQ X:=dc.trans dd;have ao:=bb.eW (tp:=⟨none,0,0⟩) (np:=⟨none,0,0⟩) (ps:= []) (ts:= []) (next:=st.next) (aT:=st.aT) (S:=λ_=>False) bB (aR.ai λc _ b=> .inl b) Own.nil Own.nil rfl
  (λc b=>by simp[Sl.af] at b) (λc b=>by simp[Sl.af] at b) (λc h=>h.elim) (λi t p f=>by simp at f)
 have de: ∀c,Kc k aQ.size ⟨none,0,0⟩ ⟨none,0,0⟩ (λ_=>False) c=k c:=λc=>by
  unfold Kc;split
  ·rfl
  ·rename_i f;simp[Sl.af];exact(by simpa using f:k c=0).symm
 have df:Kc k aQ.size ⟨none,0,0⟩ ⟨none,0,0⟩ (λ_=>False)=k:=funext de;rw[df] at ao;have aA:Mod (λc=>k c≠0) h X:=(Ext.mod bA).trans (aR.ai λc _ b=>by rw[b,u.kd];decide);have dg:=bb.names.view;have cc:View Ho X q.np (eo st):=dg.mod aR λc b e=>by have:=u.kx c b;rw[e,u.kd] at this;cases this
 have cd:=L.iI l;have eR:=l.next;have eS:=l.aJ;have bc:st.next∉st.ts.map (·.1):=λv=>by
  obtain⟨p,W,e⟩:=List.mem_map.1 v;have:=L.below p W;omega
 refine ah.mk λdh di=>?_
 have ce: ∀(F:aa) (ap:Hp) (bd:Nat->Nat) (y:Bx) (z:Nat) (w:List (Nat×List Pr)),bJ g F ap bd {st with ts:=w,next:=z} y->ap.d=q.d->ap.b=q.b->JA m y->
   (∀ x,x≠aU st.next->ff y x=ff m x)->((w= []/\z=st.next/\Fy (aE st)= []/\ff y (aU st.next)=none)\/(w= [(st.next,Fy (aE st))]/\z=st.next+1/\ff y (aU st.next)=some (AX (JM (Fy (aE st))),bz)/\Gg (Fy (aE st))))->
   bg y.files<=bg m.files+(8400*B.C+1100001)->Mod (λc=>k c≠0) h F->(∀ c,bd c≠0->k c≠0\/h.size<=c)->View Ho F q.np (eo st)->(∀ c,q.np.af=some c->bd c=7)->dh () F:=by
  intro F ap bd y z w aq be aF bC Y J cf bf aS dj ba;refine di _ _ ?_;have dk: ∀x,(∀ n,x≠aU n)->ff y x=ff m x:=λx N=>Y x (N _)
  have dl:BH (ff y) D:=L.ok.fR λx N=>Y x (N st.next (by rw[L.names];exact bc))
  have dm:gQ (cM {st with ts:=w,next:=z}):=by
   have eT:=L.eI;have eU:=l.au;rcases J with⟨rfl,rfl,_,_⟩|⟨rfl,rfl,_,_⟩
   ·exact⟨by show st.next<=_;omega,by show 1<=st.aT/\st.aT<=_;omega,by simp[cM],by simp[cM],by simp[cM]⟩
   ·exact⟨by show st.next+1<=_;omega,by show 1<=st.aT/\st.aT<=_;omega,by simp[cM],by simp[cM],by simp[cM]⟩
  have dn: ∀n∈(cM {st with ts:=w,next:=z}).names,ff y (aU n)=some (AX (JM ((λ_=>Fy (aE st)) n)),bz)/\Gg ((λ_=>Fy (aE st)) n):=λn o=>by
   rcases J with⟨rfl,rfl,_,_⟩|⟨rfl,rfl,f,H⟩
   ·simp[cM] at o
   ·have o:n=st.next:=by simpa [cM] using o
    subst o;exact⟨f,H⟩
  have cg: ∀r:Bn,r.L=D.L->r.aO=D.aO->Ai r=cM {st with ts:=w,next:=z}->r.T=(λ_=>Fy (aE st))->ct r=CZ st/\NH r<=c/\ET r=st.fr:=λr bD bF af bh=>by
   have aF:=xT bD bF (by rw[af];exact L.aT.symm);have ch:ET r=st.fr:=by unfold ET;rw[aF];exact L.fr.symm
   have eV:=L.cn;have eW:=l.bV;refine⟨?_,?_,ch⟩
   ·unfold ct;rw[ch,af,bh];rcases J with⟨rfl,rfl,f,_⟩|⟨rfl,rfl,_,_⟩
    ·exact AAv u.fQ f
    ·exact Uv u.fQ
   ·unfold NH;rw[aF,af,bh];rcases J with⟨rfl,rfl,f,_⟩|⟨rfl,rfl,_,_⟩
    ·show 0+(Hw D).flatten.length<=c;omega
    ·show((Fy (aE st)).length+0)+(Hw D).flatten.length<=c;omega
  have ci: ∀ {ar:bQ},(∀ n,ar (aU n)≠none->ff y (aU n)≠none)-> ∀n,ar (aU n)≠none->n<8*(aI+1)+8:=λbH n o=>by
   by_cases e:n=st.next
   ·omega
   ·have f:=bH n o;rw[Y _ λaV=>e (JB aV)] at f;have:=L.fx l f;omega
  have cj: ∀(r:Bn) (ar:bQ),BH ar r->r.L=D.L->r.aO=D.aO->r.aV<=max D.aV (st.aJ+1)->Ai r=cM {st with ts:=w,next:=z}->r.T=(λ_=>Fy (aE st))->(∀ n,ar (aU n)≠none->ff y (aU n)≠none)->Rec ar (aI+1) c (CZ st):=λr ar f bD bF o af bh bH=>by
   obtain⟨aW,aX,_⟩:=cg r bD bF af bh;have:=l.aO;have:=l.aV;have:=L.eI;have:=l.au;refine⟨r,f,⟨by omega,by omega,?_,?_,?_,aX,ci bH⟩,aW⟩
   ·rw[af];show z<=_;rcases J with⟨_,rfl,_⟩|⟨_,rfl,_⟩<;>omega
   ·rw[af];show st.aT<=_;omega
   ·rw[af];rcases J with⟨rfl,_⟩|⟨rfl,_⟩<;>simp[cM]
  rw[<- be];have dp:bg y.files+1000000<=8000000000000:=by have f:=B.wt (a:=aI+1) hA;have H:=B.step (d:=8400*B.C+1100001+1000000) aM (w':=bg y.files+1000000) (by omega) (by omega);omega
  refine xG (T:=λ_=>Fy (aE st)) br aq bC.up dl dm dn ⟨L.aJ,by show st.aJ+2<=_;omega⟩ (λn aY aZ=>by rw[dk _ λk=>Np n k];exact L.je n aY aZ) dp
   (λbI a0 bK ag dq dr bi ds dt Z bL=>⟨_,rfl,ae.yes rfl ?_⟩) λa0 bK ck ag D3 du bM cl au bN bO bP cn Z dv bL bi co=>⟨_,rfl,ae.no rfl ?_⟩
  ·refine JF aq dq (bi.ai λc _ b=>b.imp id .inr) ds λcp dw dx dy dz=>⟨_,rfl,?_⟩
   have dA:Mod (λc=>k c≠0) h cp:=bf.then (dy.ai λc _ b=>aS c b);have bj:bg ag.files<=B.W0+(aI+1)*B.K:=B.step2 aM cf bL;refine bs cp ag ⟨λF=>bI (bC.calm F),by rw[<- be];exact dw,⟨bK,by rw[<- aF];exact dx,λc b=>?_⟩,dr,dA,λE Q=>?_,bj⟩ λG a1=>?_
   ·rcases dz c b with f|f
    ·exact aS c f
    ·exact .inr (by have:=bf.size;omega)
   ·rw[Z E λn=>kh Q n,Y E (P7 Q _)]
   ·obtain⟨r,cq,nx⟩:=dt G a1;have cr: ∀n,G (aU n)≠none->ff y (aU n)≠none:=λn o=>by
     have:=a1.some o;rwa [Z _ λj e=>Np j n e.symm] at this
    rcases nx.last with⟨ai,bk⟩|⟨ai,bk⟩
    ·obtain⟨aW,aX⟩:=xU nx.L nx.aO ai bk;have:=l.aO;have:=l.aV;have:=L.eI;have:=l.au;have:=L.next;have dB:=nx.aV;have bR:({st with ts:=w,next:=z}:Db).aJ=st.aJ:=rfl;rw[bR] at dB;exact⟨r,cq,⟨by rw[nx.aO];omega,by omega,by rw[ai];omega,by rw[ai,L.aT];omega,by rw[ai,L.iu];omega,by rw[aX];exact l.bV,ci cr⟩,by rw[aW];exact L.map⟩
    ·exact cj r G cq nx.L nx.aO nx.aV ai bk cr
  ·
   have bj: ∀ {cs},cs<=bg ag.files->cs<=B.W0+(aI+1)*B.K:=λdC=>B.step2 aM cf (AF dC bL)
   have dD:View Ho a0 q.np (eo st):=dj.mod bi λc b e=>by
    have f:=ba c b;rcases e with e|e
    ·rw[aq.kb c e] at f;cases f
    ·rw[e,aq.kn] at f;cases f
   have dE: ∀c,q.np.af=some c->c<F.size:=λc b=>(aq.own c (by rw[ba c b];decide)).2
   have eX:q.np.len=st.ts.length:=by rw[u.names.len];simp
   have dF:Mod (λc=>k c≠0) h a0:=bf.then (bi.ai λc _ b=>by
    rcases b with b|b
    ·exact aS c (by rw[aq.kb c b];decide)
    ·exact aS c (by rw[b,aq.kn];decide))
   have dG: ∀c,ck c≠0->k c≠0\/h.size<=c:=λc b=>by
    by_cases ad:c<F.size
    ·rw[co c ad] at b;exact aS c b
    ·exact .inr (by have:=bf.size;omega)
   have dH: ∀n,(∃ p∈st.ts,p.1=n)->(ff ag (aU n)).isSome=true/\n≠st.next:=λn o=>by
    obtain⟨p,W,rfl⟩:=o;have ad:=L.below p W;have aj:p.1≠st.next:=by omega
    have f:=(L.ok.cL p.1 (by rw[L.names];exact List.mem_map.2 ⟨p,W,rfl⟩)).1;rw[Z _ λj e=>Np j _ e.symm,Y _ λe=>aj (JB e),f];exact⟨rfl,aj⟩
   have dI:=L.nd;obtain⟨aW,aX,dJ⟩:=cg D3 bO bP au bN;have eY:bM.up=bM.up:=rfl;refine Loop.rule (λaN x N=> ∃(i:Nat) (bm:Nat->Prop) (a2:Nat->Nat) (C:Bx),x=((i:Int),())/\aN=st.ts.length-i/\i<=st.ts.length/\bJ g N {ap with Sb:=bm} a2 {st with ts:=w,next:=z,aJ:=st.aJ+1} C/\JA m C/\bg C.files<=bg ag.files/\
     (∀ x,(∀ n∈(st.ts.map (·.1)).take i,x≠aU n)->ff C x=ff ag x)/\(∀ n∈(st.ts.map (·.1)).take i,ff C (aU n)=none)/\Mod (λc=>k c≠0) h N/\(∀ c,a2 c≠0->k c≠0\/h.size<=c)/\View Ho N q.np (eo st)/\(∀ c,q.np.af=some c->a2 c=7)) ?_
    ⟨0,bK,ck,ag,rfl,rfl,by omega,du,bC.trans bM,A0 _,λx _=>rfl,by simp,dF,dG,dD,λc b=>by rw[co c (dE c b)];exact ba c b⟩
   rintro eZ aN _ N ⟨i,bm,a2,C,rfl,rfl,a8,al,a3,bS,U,bn,a4,a5,cu,bT⟩ dK;dsimp only;refine ae.intro (λI=>?_) (λI=>?_)
   ·have V:i<st.ts.length:=by have:=of_decide_eq_true I;omega
    have aP:st.ts[i]? =some st.ts[i]:=A2 V;have cv:(st.ts.map (·.1))[i]? =some st.ts[i].1:=by rw[Bs,aP];rfl
    have cw:st.ts[i]∈st.ts:=AW V;have e0:=L.below _ cw;refine cu.idx (i:=i) (x:=(st.ts[i].1:Int)) (by rw[eo,Bs,aP];rfl) λa _ dL=>AC.mk dL.int ?_
    refine aD (AZ.mk (AL al.cell rfl) ?_);refine Pg (al.gV br) (by omega) λbv O=>⟨_,rfl,⟨AL (al.on O).cell rfl,?_⟩⟩
    have bU:=al.on O;refine Vh bU.box λb9 cx bV bo cy=>⟨_,rfl,?_⟩
    have dM:st.ts[i].1∉(st.ts.map (·.1)).take i:=λv=>by
     obtain⟨j,a6,e⟩:=DA v;have e1:j<i:=by have:=a6;simp at this;omega
     rw[List.getElem_take] at e;have f:=(List.getElem?_eq_some_iff.1 cv);have H:=(LI (h₀:=by simp;omega) (h₁:=f.1) dI).1 (e.trans f.2.symm);omega
    have dN:(ff C (aU st.ts[i].1)).isSome=true:=by rw[U _ λn o e=>dM (by rw[JB e];exact o)];exact(dH _ ⟨_,cw,rfl⟩).1
    have bW:(st.ts.map (·.1)).take (i+1)=(st.ts.map (·.1)).take i++ [st.ts[i].1]:=by rw[AD,cv];rfl
    have dO:Mod (λc=>k c≠0) h b9:=a4.then (((Ext.mod O).trans bo).ai λc _ b=>a5 c (by rw[al.kb c b];decide));rcases QN (k:=aU st.ts[i].1) a3.up dN with⟨dP,bX⟩|⟨bX,dQ,cz⟩
    ·rw[bX] at bV ⊢;refine ae.yes rfl ?_;refine JF (q:= {ap with Sb:=bm}) bU bV (bo.ai λc _ b=> .inl b) (λc b=> .inl (cy c b)) λcB dR dS dT dU=>⟨_,rfl,?_⟩
     have dV:Mod (λc=>k c≠0) h cB:=(a4.trans (Ext.mod O)).then (dT.ai λc _ b=>a5 c b);have dW: ∀n,ff C (aU n)≠none->ff y (aU n)≠none:=λn o=>by
      by_cases v:n∈(st.ts.map (·.1)).take i
      ·exact absurd (bn n v) o
      ·rw[U _ λj a6 e=>v (by rw[JB e];exact a6),Z _ λj e=>Np j n e.symm] at o;exact o
     have bY:BH (ff C) D3:=cl.fR λx aG=>U x λn o e=>aG n (by
      rw[au];intro v;rcases J with⟨rfl,_⟩|⟨rfl,_⟩
      ·simp[cM] at v
      ·have:n=st.next:=by simpa [cM] using v
       have cC:n∈st.ts.map (·.1):=DO o;rw[this] at cC;exact bc cC) e
     refine bs cB (MR C) ⟨(λF=>by have:=a3.calm F;rw[dP] at this;cases this),by rw[<- be];exact dR,⟨cx,by rw[<- aF];exact dS,λc b=>?_⟩,rfl,dV,λE Q=>?_,bj bS⟩ λG a1=>?_
     ·rcases dU c b with f|f
      ·exact a5 c f
      ·exact .inr (by have:=(a4.trans (Ext.mod O)).size;omega)
     ·rw[nU,U E λn _=>P7 Q n,Z E λn=>kh Q n,Y E (P7 Q _)]
     ·exact cj D3 G (bY.dK a1) bO bP cn au bN λn o=>dW n (a1.some o)
    ·rw[bX];refine ae.no rfl ?_;have dX:=bU.boxed (j:=2) (bE:= {st with ts:=w,next:=z,aJ:=st.aJ+1}) bV (bo.ai λc _ b=> .inl b) (λc b=> .inl (cy c b)) rfl rfl rfl rfl (.inl ⟨by decide,rfl,rfl⟩) (.inl ⟨by decide,rfl⟩);have dY:=YU (m:=C) (aU st.ts[i].1);rw[Aa (by omega)];refine dK (st.ts.length-(i+1)) _ _ (by omega) ⟨i+1,cx,_,_,rfl,rfl,V,dX,a3.trans dQ,AF dY bS,λx aG=>?_,λn o=>?_,dO,λc b=>?_,?_,λc b=>?_⟩
     ·rw[cz,if_neg (aG _ (by rw[bW];simp))];exact U x λn o=>aG n (by rw[bW];exact List.mem_append.2 (.inl o))
     ·rw[cz];split
      ·rfl
      ·rename_i aj;rw[bW] at o;rcases List.mem_append.1 o with o|o
       ·exact bn n o
       ·exact absurd (by rw[List.mem_singleton.1 o]) aj
     ·by_cases ad:c<bv.size
      ·rw[Fq ad] at b;exact a5 c b
      ·exact .inr (by have:=(a4.trans (Ext.mod O)).size;omega)
     ·exact(cu.ext O).mod bo λc b e=>by
       have f:=bT c b;rw[al.kb c e] at f;cases f
     ·have ad:c<bv.size:=by have:=(al.own c (by rw[bT c b];decide)).2;have:=O.size;omega
      rw[Fq ad];exact bT c b
   ·have V:i=st.ts.length:=by have: ¬(i:Int)<((q.np.len:Nat):Int):=of_decide_eq_false I;omega
    subst V;rw[AG (by simp)] at U bn;have dZ: ∀n,ff C (aU n)≠none->n=st.next/\ff y (aU n)≠none:=λn o=>by
     by_cases v:n∈st.ts.map (·.1)
     ·exact absurd (bn n v) o
     ·rw[U _ λj a6 e=>v (by rw[JB e];exact a6),Z _ λj e=>Np j n e.symm] at o;refine⟨?_,o⟩;by_cases e:n=st.next
      ·exact e
      ·rw[Y _ λaV=>e (JB aV)] at o;exact absurd (L.clean n o) v
    have cD: ∀n,ff C (aC nl n)=ff m (aC nl n):=λn=>by
     rw[U _ λj _=>K9 n j,Z _ λj=>Ur n j,Y _ (K9 n _)]
    have bY:BH (ff C) D3:=cl.fR λx aG=>U x λn o e=>aG n (by
     rw[au];intro v;rcases J with⟨rfl,_⟩|⟨rfl,_⟩
     ·simp[cM] at v
     ·have:n=st.next:=by simpa [cM] using v
      rw[this] at o;exact bc o) e
    have d0: ∀p∈w,D3.T p.1=p.2:=λp W=>by
     rw[bN];rcases J with⟨rfl,_⟩|⟨rfl,_⟩
     ·cases W
     ·rw[List.mem_singleton.1 W]
    have d1: ∀p∈w,p.1<z:=λp W=>by
     rcases J with⟨rfl,_⟩|⟨rfl,rfl,_⟩
     ·cases W
     ·rw[List.mem_singleton.1 W];exact HK _
    have d2: ∀n,ff C (aU n)≠none->n∈w.map (·.1):=λn o=>by
     obtain⟨e,H⟩:=dZ n o;rcases J with⟨rfl,_,_,a0⟩|⟨rfl,_⟩
     ·rw[e] at H;exact absurd a0 H
     ·simp[e]
    have cE:EZ (ff C) {st with ts:=w,next:=z,aJ:=st.aJ+1} D3:=
     ⟨bY,by rw[au];rfl,d0,by rw[au];rfl,by rw[au];exact A0 _,d1,dJ.symm,λn aY aZ aj=>by rw[cD];exact L.gw n aY aZ aj,λv=>by rw[cD,bO];exact L.jf v,
      λn aY aZ=>by rw[U _ λj _=>Np n j];exact dv n aY aZ,L.eI,by show 1<=st.aJ+1;omega,d2⟩
    have d3:Rc {st with ts:=w,next:=z,aJ:=st.aJ+1} D3 (aI+1) c:=by
     have:=l.au;have:=l.aO;have:=l.aV;have bR:({st with ts:=w,next:=z}:Db).aJ=st.aJ:=rfl;rw[bR] at cn;refine⟨by show st.au<=_;omega,by show st.aJ+1<=_;omega,?_,?_,aX,by rw[bP];omega,by omega⟩
     ·show z<=_;rcases J with⟨_,rfl,_⟩|⟨_,rfl,_⟩<;>omega
     ·show w.length<=_;rcases J with⟨rfl,_⟩|⟨rfl,_⟩<;>simp
    refine b3 N {ap with Sb:=bm} a2 _ C D3 be aF ⟨al,a3.up,cE,d3,bj bS,b⟩ a3 rfl ?_ ?_ (λE Q=>?_) a4 a5
    ·rw[<- aW];exact cE.map.symm
    ·show w.length<=1;rcases J with⟨rfl,_⟩|⟨rfl,_⟩<;>simp
    ·rw[U E λn _=>P7 Q n,Z E λn=>kh Q n,Y E (P7 Q _)]
 refine ae.intro (λI=>?_) (λI=>?_)
 ·have aj:Fy (aE st)≠ []:=λe=>by
   have f:=of_decide_eq_true I;have H:=az.len;rw[e] at H;simp at H;omega
  have bp:=ANf (B:=B) u L l b aj;have e2:=xR bp;refine aD (AC.mk (AB ao.cell rfl) ?_);have d4:View Ba X bx (Fy (aE st)):=az.view.mod aR λc b e=>by have:=c8 c b;have:=u.gU;have:=(aO.trans ca).size;have:=cb.size;omega
  have d5:(JM (Fy (aE st))).length<=8400*B.C+1100000:=by omega
  refine xF (q:= {q with tp:=⟨none,0,0⟩,np:=⟨none,0,0⟩,ps:= []}) (n:=st.next) br ao hd bp d4 (λc b=>by have:=az.lt b;have:=aR.size;omega) (by omega) cd (by have:=wP d5 aM cT cS;exact this) (λbI av cF aH d6 d7 a7 d8 aK d9=>⟨_,_,rfl,ae.yes rfl ?_⟩) λav cF cG aH t bu a8 bZ ea aK d9 cH e3 e4 cI a7 cJ=>⟨_,_,rfl,ae.no rfl ?_⟩
  ·refine JF (q:= {q with tp:=⟨none,0,0⟩,np:=⟨none,0,0⟩,ps:= []}) ao d6 (a7.ai λc _ b=> .inl b) d8 λaw eb ec ed ee=>⟨_,rfl,?_⟩
   have ef:BH (ff aH) D/\jF (ff aH) (aI+1) c (CZ st):=by
    refine L.jg (l.mono (BY _) (A0 _)) (λx N=>aK x (N _ bc)) λn o=>?_
    by_cases e:n=st.next
    ·omega
    ·rw[aK _ λaV=>e (JB aV)] at o;have:=L.fx l o;omega
   have eh:bg aH.files<=bg m.files+(8400*B.C+1100001):=by omega
   exact bs aw aH ⟨bI,eb,⟨cF,ec,λc b=>(ee c b).imp id λh=>by have:=aA.size;omega⟩,d7,aA.then (ed.ai λc _ b=> .inl b),λE Q=>aK E (P7 Q _),B.step2 aM eh (Is _ _)⟩ ef.2
  ·refine ak.mk λaw _ ei ax e5=>?_
   have bq:=bZ.on ax;refine aD (AC.mk (AB bq.cell rfl) (ak.mk λej _ ek ay e6=>?_));have cK:=bq.on ay;refine aD (ab.dk cK.cell (by simp) λe7 el en e8=>aD (ab.dk el (by simp) λe9 cL ep fa=>?_));refine aD (AC.mk (AB cL rfl) (aD (ab.dk cL (by simp) λam cN eq fb=>?_)));have er:J8 J9 (((st.next:Nat):Int)+(1:Int))=((st.next+1:Nat):Int):=Aa (by omega);have an:Mod (· =q.d) ej am:=(en.trans ep).trans eq;have es:am[av.size]? =some (J2 #[Ay t] BI (0,0)):=an.af (ay.af ei λh=>h) (by have:=bZ.gU;show ¬_=q.d;have e:(q.d:Nat)<av.size:=this;omega);have et:am[aw.size]? =some (J2 #[J6 J9 (st.next:Int)] BQ (0,0)):=an.af ek (by have:=bq.gU;have e:(q.d:Nat)<aw.size:=this;show ¬_=q.d;omega);have eu:Own fI BI am ⟨some ⟨av.size,0,none⟩,1,1⟩ [t]:=Own.lit (l:= [t]) es rfl (by simp[maxLen]);have on:Own Ho BQ am ⟨some ⟨aw.size,0,none⟩,1,1⟩ (([(st.next,Fy (aE st))]:List (Nat×List Pr)).map λp=>(p.1:Int)):=Own.lit (l:= [((st.next:Nat):Int)]) et rfl (by simp[maxLen]);have fc:=a7.size;have cO: ∀c,av.size<=c->cG c=0:=λc b=>cI c (by have:=cH.fx;omega)
   have ev:=cK.eW (h':=am) (tp:=⟨some ⟨av.size,0,none⟩,1,1⟩) (np:=⟨some ⟨aw.size,0,none⟩,1,1⟩) (ps:= [t]) (ts:= [(st.next,Fy (aE st))]) (next:=st.next+1) (aT:=st.aT) (S:=λc=>bu<=c/\c<a8)
    (by rw[er] at cN;simpa [eg] using cN) (an.ai λc _ b=> .inl b) eu on rfl
    (λc b=> .inr (by
     have e:av.size=c:=by simpa [Sl.af] using b
     subst e;have b0:=bZ.ext.size;refine⟨cO _ (A0 _),b0,by simp[Sl.af];omega,by omega⟩))
    (λc b=> .inr (by
     have e:aw.size=c:=by simpa [Sl.af] using b
     subst e;have b0:=bq.ext.size;refine⟨cO _ (by omega),b0,by simp[Sl.af];omega,by omega⟩))
    (λc b=>⟨by have:=ao.ext.size;omega,by have:=ax.size;have:=ay.size;have:=an.size;omega⟩)
    (λi t' p f H=>by
     have ew:i=0:=by have:=(List.getElem?_eq_some_iff.1 f).1;simpa using this
     subst ew;simp only[Hk,C5] at f H;subst f H;refine .inr ⟨bu,a8,(cH.ext (ax.trans ay)).mod an (λc b1 cP e=>?_),by have:=ax.size;have:=ay.size;have:=an.size;omega,λc b1 cP=>⟨⟨b1,cP⟩,cI c b1⟩,bp⟩;have:=ao.gU;have bk:(q.d:Nat)<X.size:=this;omega)
   have ex:Mod (λc=>k c≠0) h am:=by
    refine(aA.trans ((a7.ai λc _ b=>?_))).trans ((Ext.mod (ax.trans ay)).trans (an.ai λc _ b=>?_))
    ·rw[u.kb c b];decide
    ·rw[b,u.kd];decide
   have b2: ∀c,q.np.af=some c->c<X.size/\k c=7:=λc b=>⟨by have:=u.names.lt b;have:=aA.size;omega,u.kx c b⟩
   refine ce am _ _ aH (st.next+1) _ ev rfl rfl ea (λx N=>by rw[aK,if_neg N]) (.inr ⟨rfl,rfl,by rw[aK,if_pos rfl],bp⟩) (by omega) ex (λc b=>?_) ?_ λc b=>?_
   ·by_cases ad:c<h.size
    ·left;intro ey;have cQ:c<X.size:=by have:=aA.size;omega
     have ai:cG c=0:=by rw[cJ c cQ];exact ey
     have fd:=cQ;apply b;unfold Kc;rw[if_neg (by simp[ai]),if_neg (by simp[Sl.af];omega),if_neg (by simp[Sl.af];have:=ax.size;omega),if_neg (by omega)]
    ·exact .inr (by omega)
   ·refine((cc.mod a7 λc b e=>?_).ext (ax.trans ay)).mod an λc b e=>?_
    ·have:=(b2 c b).2;rw[u.kb c e] at this;cases this
    ·have:=(b2 c b).2;rw[e,u.kd] at this;cases this
   ·obtain⟨f,H⟩:=b2 c b;unfold Kc;rw[cJ c f,H];rfl
 ·have ez:Fy (aE st)= []:=by have f:=of_decide_eq_false I;have H:=az.len;exact CC (by omega)
  refine ce X _ k m st.next [] ao rfl rfl (JA.refl hd) (λx _=>rfl) (.inl ⟨rfl,rfl,ez,cd⟩) (by omega) aA (λc b=> .inl b) cc λc b=>u.kx c b
end
section
variable {A : al} {B : cI} {g h : aa} {q : Hp} {k : Nat -> Nat} {st : Db} {m : Bx} {D : Bn} {aI c : Nat} {R : A2N}
theorem EZ.rp {d:bQ}(L:EZ d st D)(l:Rc st D aI c)(hA:aI<=100000){a:Nat}(e:st.au<a):D.L a= []:=by
 by_cases b:a<=99999999
 ·exact L.ok.jh b (L.gw a (by omega) b λ_=>by omega)
 ·exact L.ok.gy (.inr (by have:=l.aO;omega))
theorem ALB {F:bQ}{made:Bool}{m:Bx}{s:Nat}(hd:m.down=false)(e:made=true-> ∃b,ff m (aC nl s)=some (b,bz)):(m.fuel=0/\MG m (aC nl s) made=(30,MR m))\/((MG m (aC nl s) made).1=0/\JA m (MG m (aC nl s) made).2/\ ∀x,ff (MG m (aC nl s) made).2 x=ff m x):=by
 cases made with
 |false=>exact .inr ⟨rfl,JA.refl hd,λx=>rfl⟩
 |true=>
  obtain⟨b,d⟩:=e rfl;rcases NZ hd d with a|⟨a,f,i⟩
  ·exact .inl a
  ·refine .inr ⟨a,f,λx=>?_⟩;show ff (Gr m (aC nl s)).2 x=_;rw[i];split
   ·rename_i j;rw[j,d,XN]
   ·rfl
theorem AMN {m:Bx}(g:Gj m)(k:A2O)(a:Bool):bg (MG m k a).2.files<=bg m.files:=by
 cases a with
 |false=>exact A0 _
 |true=>exact ni g k
theorem AOu {a b x:Nat}(d:b<=a+x):b+1000000<=a+(x+1000000):=by rw[<- Ge];exact Nat.add_le_add_right d _
theorem AMf(a:Nat):8400*a+1100001+1000000<=20000*a+10000000:=by omega
theorem ANt(aZ:cm g)(S:Br B g h q k st m D aI c)(hA:aI+2<=B.A)
  (bf: ∀h' ao,nL B h h' q k m ao (aI+2)->jF (ff ao) (aI+2) c (CZ st)->R (J6 J9 30) h')
  (ca: ∀h' bh bK bE ao r,bh.d=q.d->bh.b=q.b->Br B g h' bh bK bE ao r (aI+2) c->JA m ao->bE.fr= []->CZ bE=CZ st->(bE.ts.length<=3\/bE.ts.length=st.ts.length)->(∀ v,¬da v->ff ao v=ff m v)->Mod (λc=>k c≠0) h h'->(∀ c,bK c≠0->k c≠0\/h.size<=c)->R (J6 J9 0) h'):
  AA A P Nl #[Ay q.d] h R:=by
 have dP:=S;obtain⟨V,hd,L,l,a0,b⟩:=S;have fR:=B.hA;have dQ:=B.hC;have dR:=B.wt (a:=aI) (by omega);have dS:=L.dc l;have fS:=l.next;have fT:=l.aJ;have fU:=l.au;have fV:=l.aO;have fW:=l.aV;have fX:=L.eI;have fY:=l.cn;have dT:=L.iI l;have a1:st.next∉st.ts.map (·.1):=λcb=>by
  obtain⟨p,aj,e⟩:=List.mem_map.1 cb;have:=L.below p aj;omega
 refine AAL ?_;unfold SB;refine ah.mk λK dU=>Xr V (dU _ _ (ae.no rfl ?_))
 refine aD (AZ.mk (AB V.cell rfl) ?_);refine M.rq V.fresh ⟨_,_,rfl,?_⟩;refine ae.intro (λbL=>?_) (λbL=>?_)
 ·have o:st.fr= []:=CC (by have:((st.fr.length:Nat):Int)=0:=(by simpa using bL);omega);exact ca h q k st m D rfl rfl (dP.aI (by omega)) (JA.refl hd) o rfl (.inr rfl) (λ_ _=>rfl) Mod.refl (λc b=> .inl b)
 have dV:st.fr≠ []:=λe=>by
  rw[e] at bL;cases bL
 have bM:Gg st.fr:=⟨dV,λx E=>nN (V.fresh.aQ x E),V.fresh.sorted,by omega⟩;have fZ:=xR bM;have dW:(JM st.fr).length<=8400*B.C+1100000:=by omega
 refine aD (AC.mk (AB V.cell rfl) (aD (AZ.mk (AB V.cell rfl) ?_)));refine M.rr V.fresh λfv w cU cV cW=>⟨_,rfl,⟨AB (V.on cV).cell rfl,?_⟩⟩
 rw[M.rk] at cU;refine M.VK cU (λ_ _=>rfl) (by omega) λcc Y cX f0 dX=>⟨cc,rfl,?_⟩
 have bN:=cV.trans dX;have bO:=V.on bN;have f1:=bN.size;refine⟨AB bO.cell rfl,?_⟩;refine xF (n:=st.next) aZ bO hd bM cX.view (λc b=>cX.lt b) (by omega) dT (wP dW a0 dR dQ) (λbi ay az ad dY dZ bP d0 a2 d1=>⟨_,_,rfl,ae.yes rfl ?_⟩) λay az bS ad t aN aO al cd a2 d1 cY f2 f3 cZ bP bT=>⟨_,_,rfl,ae.no rfl ?_⟩
 ·refine JF bO dY (bP.ai λc _ b=> .inl b) d0 λd2 d3 d4 d5 d6=>⟨_,rfl,?_⟩
  have ce:=L.jg (F':=ff ad) (l.mono (Is aI 2) (A0 _)) (λx E=>a2 x (E _ a1)) λn u=>by
   by_cases e:n=st.next
   ·omega
   ·rw[a2 _ λaP=>e (JB aP)] at u;have:=L.fx l u;omega
  have bj:bg ad.files<=bg m.files+(8400*B.C+1100001):=by omega
  have H:=B.step2 a0 bj (Is _ _);exact bf d2 ad ⟨bi,d3,⟨az,d4,λc b=>(d6 c b).imp id λh=>by omega⟩,dZ,(Ext.mod bN).trans d5,λv I=>a2 v (P7 I _),AF H (Lo (AS _ (BY _)) _)⟩ ce.2
 have f4:=bP.size;have f5:=cY.fx;have c0:Mod (λc=>k c≠0) h ay:=(Ext.mod bN).trans (bP.ai λc _ b=>by rw[V.kb c b];decide);have bk: ∀x,x≠aU st.next->ff ad x=ff m x:=λx E=>by rw[a2,if_neg E]
 have c1:bg ad.files<=bg m.files+(8400*B.C+1100001):=by omega
 have d7: ∀n,ff ad (aC nl n)=ff m (aC nl n):=λn=>bk _ (K9 n _)
 have c2: ∀ {F':bQ},(∀ n,F' (aU n)≠none->ff ad (aU n)≠none)-> ∀n,F' (aU n)≠none->n<8*(aI+1)+8:=λaf n u=>by
  by_cases e:n=st.next
  ·omega
  ·have o:=af n u;rw[bk _ λaP=>e (JB aP)] at o;have:=L.fx l o;omega
 refine aD (AZ.mk (AB al.cell rfl) ?_);have c3:=ALB (F:=ff m) (made:=st.bo) (s:=st.au) cd.up λcb=>⟨_,by rw[d7];exact L.jf cb⟩
 refine VW (al.gV aZ) al.log al.box al.kG (by decide) (by omega) (λd8 J bU c4 a3=>⟨_,_,rfl,?_⟩) λc5 J bU c4 a3=>⟨_,_,rfl,?_⟩
 ·rcases c3 with⟨c6,a4⟩|⟨a4,_,_⟩
  ·rw[a4] at bU ⊢;refine ae.yes rfl ?_;refine JF (q:= {q with Sb:=az}) al bU (a3.ai λc _ b=> .inl b) (λc b=> .inl b) λd9 ea eb ec ed=>⟨_,rfl,?_⟩
   have ce:=L.jg (F':=ff (MR ad)) (l.mono (Is aI 2) (A0 _)) (λx E=>bk x (E _ a1)) λn u=>by
    have:=c2 (F':=ff (MR ad)) (λn u=>u) n u;omega
   have H:=B.step2 a0 c1 (Is _ _);refine bf d9 (MR ad) ⟨(λz=>by have:=cd.calm z;rw[c6] at this;cases this),ea,⟨az,eb,λc b=>?_⟩,rfl,c0.then (ec.ai λc _ b=>?_),λv I=>bk v (P7 I _),AF H (Lo (AS _ (BY _)) _)⟩ ce.2
   ·rcases ed c b with o|o
    ·by_cases Z:c<Y.size
     ·rw[bT c Z] at o;exact .inl o
     ·exact .inr (by omega)
    ·exact .inr (by omega)
   ·by_cases Z:c<Y.size
    ·rw[bT c Z] at b;exact .inl b
    ·exact .inr (by omega)
  ·exact absurd a4 d8
 refine ae.no rfl ?_;rcases c3 with⟨c6,a4⟩|⟨a4,ee,ef⟩
 ·rw[a4] at c5;cases c5
 have eh:=AMN al.box.aQ (aC nl st.au) st.bo;have ag:=al.boxed (j:=3) (bE:= {st with au:=st.au+1,bo:=false}) bU (a3.ai λc _ b=>b.imp id λh=> .inl ⟨rfl,h⟩) (λc b=> .inl b) rfl rfl rfl rfl (.inr c4) (.inl ⟨by decide,rfl⟩);generalize (MG ad (aC nl st.au) st.bo).2=ac at*
 have f6:=a3.size;have c7: ∀c,c<ay.size->Km bS ay.size az 2 c=bS c:=λc b=>Fq b
 generalize Km bS ay.size az 2=ap at*
 have ei:Mod (λc=>k c≠0) h J:=c0.then (a3.ai λc _ b=>by
  have o:bS c≠0:=by
   rcases b with b|b
   ·rw[al.kb c b];decide
   ·rw[b,al.kl];decide
  by_cases Z:c<Y.size
  ·rw[bT c Z] at o;exact .inl o
  ·exact .inr (by omega))
 have cf: ∀c,ap c≠0->k c≠0\/h.size<=c:=λc b=>by
  by_cases Z:c<Y.size
  ·rw[c7 c (by omega),bT c Z] at b;exact .inl b
  ·exact .inr (by omega)
 have cg: ∀c,J.size<=c->ap c=0:=λc b=>Decidable.byContradiction λh=>by
  have:=(ag.own c h).2;omega
 have ch: ∀c,aN<=c->c<aO->ap c=0:=λc aq aA=>by rw[c7 c (by omega)];exact cZ c aq
 have ci: ∀x,ff ac x=ff ad x:=ef;have a5: ∀x,x≠aU st.next->ff ac x=ff m x:=λx E=>(ci x).trans (bk x E)
 have ej:ff ac (aU st.next)=some (AX (JM st.fr),bz):=by rw[ci,a2,if_pos rfl]
 have cj:JA m ac:=cd.trans ee;have bj:bg ac.files<=bg m.files+(8400*B.C+1100001):=AF eh c1;have ek:BH (ff ac) D:=L.ok.fR λx E=>a5 x (E st.next (by rw[L.names];exact a1))
 have c8: ∀ {F':bQ},(∀ n,F' (aU n)≠none->ff ac (aU n)≠none)-> ∀n,F' (aU n)≠none->n<8*(aI+1)+8:=λaf n u=>c2 (F':=ff ac) (λn u=>by rw[<- ci];exact u) n (af n u)
 have el: ∀(z:aa) (y:Hp) (ck:Nat->Nat),bJ g z y ck {st with ts:=(st.next,st.fr)::st.ts,next:=st.next+1,aT:=st.au+1,au:=st.au+1,bo:=false} ac->y.d=q.d->y.b=q.b->Mod (λc=>k c≠0) h z->(∀ c,ck c≠0->k c≠0\/h.size<=c)->
   AA A P JY #[Ay y.d] z λen c9=> ∃cl:Int,en=J6 J9 cl/\(
         ae (cl != (0:Int)) (
          AA A P CV #[Ay y.d,J6 J9 cl] c9 λep eq=> ∃db:Int,ep=J6 J9 db/\(
          R (J6 J9 db) eq)) (
          AA A P PZ #[] c9 λer dc=> ∃dd:Q2,er=J5 dd/\(
          At (some (⟨y.d,0,none⟩:Q6)) λes=>
          ab dc (es.add 3) (J5 dd) λar=>
          At (some (⟨y.d,0,none⟩:Q6)) λet=>
          AZ ar (et.add 1) λeu=>
          AA A P I1 #[J5 eu,J6 J9 (st.au:Int)] ar λev aw=> ∃cn:Int,ev=J6 J9 cn/\(
          ae (cn != (0:Int)) (
           AA A P CV #[Ay y.d,J6 J9 cn] aw λew co=> ∃de:Int,ew=J6 J9 de/\(
           R (J6 J9 de) co)) (
           At (some (⟨y.d,0,none⟩:Q6)) λex=>
           AY aw (ex.add 4) λey=>
           ae (decide (((ey.len:Nat):Int)>=(4:Int))) (
            AA A P JJ #[Ay y.d] aw λez eA=> ∃df:Int,ez=J6 J9 df/\(
            R (J6 J9 df) eA)) (
            R (J6 J9 0) aw)))))):=by
  intro z y ck bm bn aF bV a6;have eB:gQ (cM {st with ts:=(st.next,st.fr)::st.ts,next:=st.next+1,aT:=st.au+1,au:=st.au+1,bo:=false}):=by
   refine⟨by show st.next+1<=_;omega,by show 1<=st.au+1/\st.au+1<=_;omega,?_,λn u=>?_,?_⟩
   ·show((st.next,st.fr)::st.ts |>.map (·.1)).length<=_;simp;omega
   ·show n<st.next+1;rcases List.mem_cons.1 u with rfl|u
    ·exact HK _
    ·obtain⟨p,aj,rfl⟩:=List.mem_map.1 u;have:=L.below p aj;omega
   ·exact List.nodup_cons.2 ⟨a1,L.nd⟩
  have eC: ∀n∈st.next::st.ts.map (·.1),ff ac (aU n)=some (AX (JM ((Jp D.T st.next st.fr) n)),bz)/\Gg ((Jp D.T st.next st.fr) n):=λn u=>by
   by_cases e:n=st.next
   ·subst e;rw[DL];exact⟨ej,bM⟩
   ·rw[Ec e,a5 _ λaP=>e (JB aP)];rcases List.mem_cons.1 u with o|o
    ·exact absurd o e
    ·exact L.ok.cL n (by rw[L.names];exact o)
  have dg: ∀r:Bn,r.T=Jp D.T st.next st.fr->(st.next::st.ts.map (·.1)).map r.T=st.fr::aE st:=λr bW=>by
   rw[BT,bW,DL];congr 1;rw[<- L.aE,L.names];refine CM λn u=>Ec λe=>a1 (e▸u)
  have dh: ∀r:Bn,r.L=D.L->r.aO=D.aO->Ai r=cM {st with ts:=(st.next,st.fr)::st.ts,next:=st.next+1,aT:=st.au+1,au:=st.au+1,bo:=false}->r.T=Jp D.T st.next st.fr->ct r=CZ st/\NH r<=c/\ET r= []:=λr eD di a7 bW=>by
   have aF:=ALi (f:=st.au+1) eD di (by rw[a7];rfl) λn u=>L.rp l (by omega) (by omega)
   have dj:ET r= []:=by unfold ET;rw[aF];rfl
   have dk:(Ai r).names=st.next::st.ts.map (·.1):=by rw[a7];rfl
   refine⟨?_,?_,dj⟩
   ·unfold ct;rw[dj,dk,dg r bW];exact AGc V.fQ
   ·unfold NH;rw[aF,dk];have C:((st.next::st.ts.map (·.1)).map λn=>(r.T n).length)=((st.next::st.ts.map (·.1)).map r.T).map List.length:=by rw[AT];rfl
    rw[C,dg r bW];have:((st.fr::aE st).map List.length).sum=st.fr.length+M.total (aE st):=by simp[M.total]
    rw[this];simpa using dS
  have dl: ∀(r:Bn) (F':bQ),BH F' r->r.aO=D.aO->r.aV<=max D.aV (st.aJ+1)->Ai r=cM {st with ts:=(st.next,st.fr)::st.ts,next:=st.next+1,aT:=st.au+1,au:=st.au+1,bo:=false}->ct r=CZ st->NH r<=c->(∀ n,F' (aU n)≠none->ff ac (aU n)≠none)->Rec F' (aI+1) c (CZ st):=λr F' o di u a7 eE eF af=>by
   refine⟨r,o,⟨by omega,by omega,?_,?_,?_,eF,c8 af⟩,eE⟩
   ·rw[a7];show st.next+1<=_;omega
   ·rw[a7];show st.au+1<=_;omega
   ·rw[a7];show((st.next,st.fr)::st.ts |>.map (·.1)).length<=_;simp;omega
  have eG:bg ac.files+1000000<=8000000000000:=by have o:=B.wt (a:=aI+1) (by omega);have H:bg ac.files+1000000<=B.W0+(aI+1)*B.K:=B.step (d:=8400*B.C+1100001+1000000) a0 (AOu bj) (AMf B.C);exact AF H o
  have dm: ∀ {dn:Nat},dn<=B.W0+(aI+1)*B.K->dn<=B.W0+(aI+2)*B.K:=λh=>AF h (Lo (AS _ (BY _)) _)
  refine xG (T:=Jp D.T st.next st.fr) aZ bm cj.up ek eB eC ⟨L.aJ,by show st.aJ+2<=_;omega⟩ (λn W ai=>by rw[a5 _ (Np n _)];exact L.je n W ai) eG
   (λbi w cp am eH eI bX cW eJ a8 cq=>⟨_,rfl,ae.yes rfl ?_⟩) λw cp cr am D3 cs dp dq a9 dr eK cu eL a8 eM cq bX eN=>⟨_,rfl,ae.no rfl ?_⟩
  ·refine JF bm eH (bX.ai λc _ b=>b.imp id .inr) cW λY eO eP eQ cc=>⟨_,rfl,?_⟩
   have eR:Mod (λc=>k c≠0) h Y:=bV.then (eQ.ai λc _ b=>a6 c b);refine bf Y am ⟨λz=>bi (cj.calm z),by rw[<- bn];exact eO,⟨cp,by rw[<- aF];exact eP,λc b=>?_⟩,eI,eR,λv I=>?_,dm (B.step2 a0 bj cq)⟩ λG bp=>?_
   ·rcases cc c b with o|o
    ·exact a6 c o
    ·exact .inr (by have:=bV.size;omega)
   ·rw[a8 v λn=>kh I n,a5 v (P7 I _)]
   ·obtain⟨r,ds,nx⟩:=eJ G bp;have dt: ∀n,G (aU n)≠none->ff ac (aU n)≠none:=λn u=>by
     have:=bp.some u;rwa [a8 _ λj e=>Np j n e.symm] at this
    have bY:r.aV<=max D.aV (st.aJ+1):=nx.aV;rcases nx.last with⟨an,C⟩|⟨an,C⟩
    ·obtain⟨bq,bZ⟩:=xU nx.L nx.aO an C;have:=L.next;have eS:Rec G (aI+1) c (CZ st):=⟨r,ds,⟨by rw[nx.aO];omega,by omega,by rw[an];omega,by rw[an,L.aT];omega,by rw[an,L.iu];omega,by rw[bZ];exact l.bV,c8 dt⟩,by rw[bq];exact L.map⟩;exact eS.mono (BY _) (A0 _)
    ·obtain⟨bq,bZ,_⟩:=dh r nx.L nx.aO an C;exact(dl r G ds nx.aO bY an bq bZ dt).mono (BY _) (A0 _)
  ·obtain⟨bq,bZ,eT⟩:=dh D3 eK cu a9 dr;have f7:=bX.size;have bY:D3.aV<=max D.aV (st.aJ+1):=eL;have cv:bg am.files<=B.W0+(aI+1)*B.K:=B.step2 a0 bj cq;have du:JA m am:=cj.trans dp;have dv:Mod (λc=>k c≠0) h w:=bV.then (bX.ai λc _ b=>by
    rcases b with b|b
    ·exact a6 c (by rw[bm.kb c b];decide)
    ·exact a6 c (by rw[b,bm.kn];decide))
   have eU: ∀c,cr c≠0->k c≠0\/h.size<=c:=λc b=>by
    by_cases Z:c<z.size
    ·rw[eN c Z] at b;exact a6 c b
    ·exact .inr (by have:=bV.size;omega)
   refine M.ru λdc eV cw f8=>⟨_,rfl,?_⟩
   have eW:=cs.on cw;refine aD (ab.dk eW.cell (by simp) λar eX cx f9=>?_);have eY:M.cT ar w.size [] []:=eV.mod cx λc b e=>by
    have ga:c=w.size:=by
     rcases b with rfl|⟨x,E,_⟩
     ·rfl
     ·cases E
    have:=cs.gU;have C:(y.d:Nat)<w.size:=this;have gb:c=y.d:=e;omega
   have dw:Mod (λc=>c=w.size\/c=y.d) w ar:=(Ext.mod cw).trans (cx.ai λc _ b=> .inr b);have ax:=cs.renew (h':=ar) (gz:=w.size) eY (A0 _) (by simpa [eg] using eX) (by
    refine⟨dw.size,λc b u=>?_⟩;exact dw.get c b (by rintro(h|h);omega;exact u h))
   have cy:Mod (λc=>k c≠0) h ar:=(dv.trans (Ext.mod cw)).then (cx.ai λc _ b=>by
    have e:c=y.d:=b;rw[e];exact a6 _ (by rw[bm.kd];decide))
   have b0: ∀c,Km cr w.size (· =w.size) 5 c≠0->k c≠0\/h.size<=c:=λc b=>by
    by_cases Z:c<w.size
    ·rw[Fq Z] at b;exact eU c b
    ·exact .inr (by have:=dv.size;omega)
   generalize Km cr w.size (· =w.size) 5=dx at*
   refine aD (AZ.mk (AB ax.cell rfl) ?_);have gc:=cy.size;have eZ:bg am.files<=8000000000000:=AF cv (B.wt (a:=aI+1) (by omega));have cz: ∀x,x≠aU st.next->(∀ n,x≠aC nn n)->ff am x=ff m x:=λx o H=>(a8 x H).trans (a5 x o)
   have e0:(Ai D3).aT=st.au+1:=by rw[a9];rfl
   have dy: ∀ {F':bQ},(∀ x,F' x=ff am x\/(F' x=none/\ ∃n:Nat,1<=n/\n<=99999999/\n<=st.au/\x=aC nl n))->BH F' (Mi D3 F')/\ct (Mi D3 F')=CZ st/\NH (Mi D3 F')<=c/\ET (Mi D3 F')= []:=λ{F'} af=>by
    have o: ∀n,n<=99999999->F' (aC nl n)=ff am (aC nl n)\/(F' (aC nl n)=none/\n<(Ai D3).aT):=λn ai=>by
     rcases af (aC nl n) with o|⟨o,j,_,_,gd,e⟩
     ·exact .inl o
     ·refine .inr ⟨o,?_⟩;rw[e0,IK e];omega
    have H:=ANl dq o λx E=>by
     rcases af x with w|⟨_,j,_,e1,_,e⟩
     ·exact w
     ·exact absurd e (E j e1)
    have Y:=AIR dq o;have ay:ET (Mi D3 F')=ET D3:=by unfold ET;rw[Y]
    refine⟨H,?_,?_,by rw[ay];exact eT⟩
    ·rw[<- bq];unfold ct;rw[ay];rfl
    ·have:NH (Mi D3 F')=NH D3:=by unfold NH;rw[Y];rfl
     omega
   refine xE (ax.gV aZ) (λh' x=>ax.fS aZ (x.ai λc _ b=> .inl b)) ax.log ax.box dp.up ax.kG (by decide) eZ (λe2=>absurd e2 (by show ¬(st.au:Int)>=((st.au+1:Nat):Int);omega))
    (λbi aw aQ O cB e3 b1 cC cD br=>⟨_,rfl,ae.yes rfl ?_⟩) λ_ aw aQ O cB dz b1 cC cD br dA=>⟨_,rfl,ae.no rfl ?_⟩
   ·have af: ∀x,ff O x=ff am x\/(ff O x=none/\ ∃n:Nat,1<=n/\n<=99999999/\n<=st.au/\x=aC nl n):=λx=>by
     rcases br x with o|⟨o,n,W,ai,b2,e⟩
     ·exact .inl o
     ·exact .inr ⟨o,n,W,ai,by omega,e⟩
    obtain⟨cE,cF,cG,_⟩:=dy af;refine JF (q:= {y with Sb:=cp,ft:=w.size,ns:= []}) ax cB (b1.ai λc _ b=> .inl b) (λc b=> .inl (cC c b)) λco e4 e5 e6 e7=>⟨_,rfl,?_⟩
    refine bf co O ⟨λz=>bi (du.calm z),by rw[<- bn];exact e4,⟨aQ,by rw[<- aF];exact e5,λc b=>?_⟩,e3,cy.then (e6.ai λc _ b=>b0 c b),λv I=>?_,dm (AF cD cv)⟩ λG bp=>?_
    ·rcases e7 c b with o|o
     ·exact b0 c o
     ·exact .inr (by omega)
    ·rcases br v with o|⟨_,n,_,_,_,e⟩
     ·rw[o,cz v (P7 I _) λn=>kh I n]
     ·exact absurd e (nM I n)
    ·refine(dl (Mi D3 (ff O)) G (cE.dK bp) cu bY a9 cF cG λn u=>?_).mono (BY _) (A0 _);have o:=bp.some u;rcases br (aU n) with H|⟨_,j,_,_,_,e⟩
     ·rwa [H,a8 _ λj e=>Np j n e.symm] at o
     ·exact absurd e.symm (K9 j n)
   ·have af: ∀x,ff O x=ff am x\/(ff O x=none/\ ∃n:Nat,1<=n/\n<=99999999/\n<=st.au/\x=aC nl n):=λx=>by
     by_cases E: ∃n:Nat,1<=n/\n<=99999999/\(n:Int)<=(st.au:Int)/\x=aC nl n
     ·obtain⟨n,W,ai,b2,rfl⟩:=E;exact .inr ⟨br n W ai b2,n,W,ai,by omega,rfl⟩
     ·exact .inl (dA x λn W ai b2 e=>E ⟨n,W,ai,b2,e⟩)
    obtain⟨cE,cF,cG,e8⟩:=dy af;have b3:=ax.boxed (j:=2) (bE:= {st with fr:= [],ts:=(st.next,st.fr)::st.ts,next:=st.next+1,aT:=st.au+1,au:=st.au+1,aJ:=st.aJ+1,bo:=false}) cB (b1.ai λc _ b=> .inl b) (λc b=> .inl (cC c b)) rfl rfl rfl rfl (.inl ⟨by decide,rfl,rfl⟩) (.inl ⟨by decide,rfl⟩);have bs:Mod (λc=>k c≠0) h aw:=cy.then (b1.ai λc _ b=>b0 c (by rw[ax.kb c b];decide));have bt: ∀c,Km dx ar.size aQ 2 c≠0->k c≠0\/h.size<=c:=λc b=>by
     by_cases Z:c<ar.size
     ·rw[Fq Z] at b;exact b0 c b
     ·exact .inr (by omega)
    generalize Km dx ar.size aQ 2=dB at*
    have cH: ∀x,(∀ n,x≠aC nl n)->ff O x=ff am x:=λx E=>dA x λn _ _ _=>E n
    have e9: ∀p∈(st.next,st.fr)::st.ts,(Mi D3 (ff O)).T p.1=p.2:=λp aj=>by
     show D3.T p.1=p.2;rw[dr];rcases List.mem_cons.1 aj with rfl|aj
     ·exact DL
     ·rw[Ec λe=>a1 (by rw[<- e];exact List.mem_map.2 ⟨p,aj,rfl⟩)];exact L.cj p aj
    have dC:EZ (ff O) {st with fr:= [],ts:=(st.next,st.fr)::st.ts,next:=st.next+1,aT:=st.au+1,au:=st.au+1,aJ:=st.aJ+1,bo:=false} (Mi D3 (ff O)):=
     ⟨cE,congrArg Nt.names a9,e9,congrArg Nt.aT a9,by rw[show Ai (Mi D3 (ff O))=_ from a9];exact A0 _,λp aj=>by
      show p.1<st.next+1;rcases List.mem_cons.1 aj with rfl|aj
      ·exact HK _
      ·have:=L.below p aj;omega,e8.symm,λn W ai _=>by
      have W:st.au+1<=n:=W;rcases af (aC nl n) with o|o
      ·rw[o,cz _ (K9 n _) λj=>Ur n j];exact L.gw n (by omega) ai λ_=>by omega
      ·exact o.1,(λh=>by cases h),λn W ai=>by
      have W:st.aJ+1<=n:=W;rw[cH _ λj e=>Ur j n e.symm];exact eM n W ai,⟨by show 1<=st.au+1;omega,A0 _⟩,by show 1<=st.aJ+1;omega,λn u=>by
      rw[cH _ λj e=>K9 j n e.symm,a8 _ λj e=>Np j n e.symm] at u;by_cases e:n=st.next
      ·subst e;exact AN
      ·rw[a5 _ λaP=>e (JB aP)] at u;exact An _ (L.clean n u)⟩
    have ge:(Mi D3 (ff O)).aV<=max D.aV (st.aJ+1):=bY;have gf:(Mi D3 (ff O)).aO=D.aO:=cu;have fa:Rc {st with fr:= [],ts:=(st.next,st.fr)::st.ts,next:=st.next+1,aT:=st.au+1,au:=st.au+1,aJ:=st.aJ+1,bo:=false} (Mi D3 (ff O)) (aI+1) c:=
     ⟨by show st.au+1<=_;omega,by show st.aJ+1<=_;omega,by show st.next+1<=_;omega,by show((st.next,st.fr)::st.ts).length<=_;simp;omega,cG,by omega,by omega⟩
    have dD:Br B g aw {y with Sb:=aQ,ft:=w.size,ns:= []} dB {st with fr:= [],ts:=(st.next,st.fr)::st.ts,next:=st.next+1,aT:=st.au+1,au:=st.au+1,aJ:=st.aJ+1,bo:=false} O (Mi D3 (ff O)) (aI+1) c:=
     ⟨b3,dz.up,dC,fa,AF cD cv,b⟩
    have cI:CZ {st with fr:= [],ts:=(st.next,st.fr)::st.ts,next:=st.next+1,aT:=st.au+1,au:=st.au+1,aJ:=st.aJ+1,bo:=false}=CZ st:=by rw[<- cF];exact dC.map.symm
    have cJ:JA m O:=du.trans dz;have cK: ∀v,¬da v->ff O v=ff m v:=λv I=>by rw[cH v λn=>nM I n,cz v (P7 I _) λn=>kh I n]
    refine aD (AY.mk (s:=y.tp) (AB b3.cell rfl) ?_);have fb:=b3.cj.len;have fc:=b3.cY;have gg:y.tp.len=st.ts.length+1:=by have an:y.tp.len=y.ps.length:=fb;have C:y.ps.length=((st.next,st.fr)::st.ts).length:=fc;rw[an,C];rfl
    refine ae.intro (λdE=>?_) (λdE=>?_)
    ·refine AIe (q:= {y with Sb:=aQ,ft:=w.size,ns:= []}) aZ dD (by omega) (λh' ao aR dF=>⟨_,rfl,?_⟩) λh' bh bK bE ao r an C S' fd fe fg gh fh fi fj=>⟨_,rfl,?_⟩
     ·rw[cI] at dF;obtain⟨S',fk,fl⟩:=aR.box;refine bf h' ao ⟨λz=>aR.fuel (cJ.calm z),by rw[<- bn];exact aR.dn,⟨S',by rw[<- aF];exact fk,λc b=>?_⟩,aR.down,bs.then (aR.mod.ai λc _ b=>bt c b),λv I=>(aR.fi v I).trans (cK v I),aR.wt⟩ dF;rcases fl c b with o|o
      ·exact bt c o
      ·exact .inr (by have:=bs.size;omega)
     ·refine ca h' bh bK bE ao r (an.trans bn) (C.trans aF) S' (cJ.trans fd) fe (fg.trans cI) (.inl (by omega)) (λv I=>(fh v I).trans (cK v I)) (bs.then (fi.ai λc _ b=>bt c b)) λc b=>?_
      rcases fj c b with o|o
      ·exact bt c o
      ·exact .inr (by have:=bs.size;omega)
    ·have gi: ¬((y.tp.len:Nat):Int)>=4:=of_decide_eq_false dE;refine ca aw {y with Sb:=aQ,ft:=w.size,ns:= []} dB _ O _ bn aF (dD.aI (BY _)) cJ rfl cI (.inl ?_) cK bs bt;show((st.next,st.fr)::st.ts).length<=3;rw[A5];omega
 refine ah.mk λfm fn=>?_
 have ba: ∀c,q.tp.af=some c->ap c=6:=ag.kt;have aS: ∀c,q.np.af=some c->ap c=7:=ag.kx;have cL: ∀(z:aa) (tp np:Sl) (N:Nat),Own fI BI z tp (t::q.ps)->Own Ho BQ z np ((st.next:Int)::eo st)->Mod (λc=>q.tp.af=some c\/q.np.af=some c) J z->(∀ c,tp.af=some c->(q.tp.af=some c\/J.size<=c)/\c<N)->(∀ c,np.af=some c->q.np.af=some c\/(J.size<=c/\N<=c))->
   ab z ((⟨q.d,0,none⟩:Q6).add 4) (J4 tp.p tp.len tp.cap) λdG=>ab dG ((⟨q.d,0,none⟩:Q6).add 5) (J4 np.p np.len np.cap) λaV=>fm () aV:=by
  intro z tp np N fo on bu b4 b5;have aW:ap q.d=1:=ag.kd;have nd: ¬(q.tp.af=some q.d\/q.np.af=some q.d):=by
   rintro(h|h)
   ·have:=ba _ h;rw[aW] at this;cases this
   ·have:=aS _ h;rw[aW] at this;cases this
  have fp:=bu.af ag.cell nd;have gj:=bu.size;have gk:q.d<J.size:=ag.gU;refine ab.dk fp (by simp) λdG fq fs gl=>ab.dk fq (by simp) λaV fu fw gm=>?_
  have aX:Mod (· =q.d) z aV:=fs.trans fw;have cN: ∀c,tp.af=some c-> ¬c=q.d:=λc b e=>by
   rcases(b4 c b).1 with h|h
   ·exact nd (.inl (e▸h))
   ·omega
  have dH: ∀c,np.af=some c-> ¬c=q.d:=λc b e=>by
   rcases b5 c b with h|h
   ·exact nd (.inr (e▸h))
   ·omega
  have dI:=fo.mod aX cN;have dJ:=on.mod aX dH;have gn:=ag.ext.size;have bb:=ag.eW (h':=aV) (tp:=tp) (np:=np) (ps:=t::q.ps) (ts:=(st.next,st.fr)::st.ts) (next:=st.next) (aT:=st.aT) (S:=λc=>aN<=c/\c<aO)
   (by simpa [eg] using fu) ((bu.ai λc _ b=> .inr b).trans (aX.ai λc _ b=> .inl b)) dI dJ (by have:=V.cY;simp[this])
   (λc b=>by
    obtain⟨o,H⟩:=b4 c b;by_cases e:q.tp.af=some c
    ·exact .inl e
    ·have w:J.size<=c:=o.resolve_left e;refine .inr ⟨cg c w,by omega,λC=>?_,λh=>by omega⟩;rcases b5 c C with Y|Y
     ·have:=aS c Y;rw[cg c w] at this;cases this
     ·omega)
   (λc b=>by
    by_cases e:q.np.af=some c
    ·exact .inl e
    ·have w:=(b5 c b).resolve_left e;refine .inr ⟨cg c w.1,by omega,λC=>?_,λh=>by omega⟩;have:=(b4 c C).2;omega)
   (λc b=>⟨by have:=bO.ext.size;omega,by have:=aX.size;omega⟩)
   (λi t' p o H=>by
    cases i with
    |zero=>
     simp only[Hk,C5] at o H;subst o H;have fx:bR J t st.fr (ME st.fr) aN aO:=cY.mod a3 λc aq aA b=>by
      have aG:=cZ c aq;rcases b with b|b
      ·have:=al.kb c b;rw[aG] at this;cases this
      ·have:=al.kl;rw[<- b,aG] at this;cases this
     have fy:bR z t st.fr (ME st.fr) aN aO:=fx.mod bu λc aq aA b=>by
      have aG:=ch c aq aA;rcases b with b|b
      ·have:=ba c b;rw[aG] at this;cases this
      ·have:=aS c b;rw[aG] at this;cases this
     refine .inr ⟨aN,aO,fy.mod aX λc aq aA b=>?_,by have:=aX.size;omega,λc aq aA=>⟨⟨aq,aA⟩,ch c aq aA⟩,bM⟩;have aG:=ch c aq aA;rw[b,aW] at aG;cases aG
    |succ i=>exact .inl ⟨i,by simpa using o,by simpa using H⟩)
  have dK: ∀c,Kc ap J.size tp np (λc=>aN<=c/\c<aO) c≠0->k c≠0\/h.size<=c:=λc b=>by
   by_cases e:ap c=0
   ·by_cases Z:c<Y.size
    ·exfalso;apply b;unfold Kc;rw[if_neg (by simp[e]),if_neg λC=>?_,if_neg λC=>?_,if_neg (by omega)]
     ·rcases b5 c C with bv|bv
      ·have:=aS c bv;rw[e] at this;cases this
      ·omega
     ·rcases(b4 c C).1 with bv|bv
      ·have:=ba c bv;rw[e] at this;cases this
      ·omega
    ·exact .inr (by omega)
   ·exact cf c e
  generalize Kc ap J.size tp np (λc=>aN<=c/\c<aO)=bw at*
  have fz:Mod (λc=>k c≠0) h aV:=(ei.then (bu.ai λc _ b=>cf c (by
   rcases b with b|b
   ·rw[ba c b];decide
   ·rw[aS c b];decide))).then (aX.ai λc _ b=>cf c (by rw[b,aW];decide))
  refine fn _ _ ?_;refine aD (AC.mk (AB bb.cell rfl) (aD (ab.dk bb.cell (by simp) λfA cO fB fC=>aD (ab.dk cO (by simp) λcP b6 fE go=>?_))));have fF:J8 J9 (((st.next:Nat):Int)+(1:Int))=((st.next+1:Nat):Int):=Aa (by omega);have fG:J8 J9 (((st.au:Nat):Int)+(1:Int))=((st.au+1:Nat):Int):=Aa (by omega);have b7:Mod (· =q.d) aV cP:=fB.trans fE;have gp: ∀c,tp.af=some c-> ¬c=q.d:=cN;have fH:=bb.eW (h':=cP) (tp:=tp) (np:=np) (ps:=t::q.ps) (ts:=(st.next,st.fr)::st.ts) (next:=st.next+1) (aT:=st.au+1) (S:=λ_=>False)
   (by rw[fF,fG] at b6;simpa [eg] using b6) (b7.ai λc _ b=> .inl b) (dI.mod b7 cN) (dJ.mod b7 dH) (by have:=V.cY;simp[this]) (λc b=> .inl b) (λc b=> .inl b) (λc h=>h.elim) (λi t' p o H=> .inl ⟨i,o,H⟩)
  have fJ: ∀c,Kc bw aV.size tp np (λ_=>False) c≠0->k c≠0\/h.size<=c:=λc b=>by
   by_cases e:bw c=0
   ·exfalso;apply b;unfold Kc;rw[if_neg (by simp[e]),if_neg λC=>?_,if_neg λC=>?_,if_neg λh=>h]
    ·have o:bw c=7:=bb.kx c C;rw[e] at o;cases o
    ·have o:bw c=6:=bb.kt c C;rw[e] at o;cases o
   ·exact dK c e
  exact el cP {q with Sb:=az,tp:=tp,np:=np,ps:=t::q.ps} _ fH rfl rfl (fz.then (b7.ai λc _ b=>dK c (by
   have o:bw q.d=1:=bb.kd;rw[b,o];decide))) fJ
 have cQ:=ag.cell;have b8:Own fI BI J q.tp q.ps:=ag.cj;have b9:Own Ho BQ J q.np (eo st):=ag.names;have cR:q.ps.length<=1000000:=by rw[V.cY];omega
 have cS:(eo st).length<=1000000:=by simp[eo];omega
 have bc: ∀c,q.tp.af=some c->q.np.af≠some c:=λc o H=>by
  have:=ba c o;rw[aS c H] at this;cases this
 have bx: ∀c,q.tp.af=some c->c<J.size:=λc b=>b8.lt b
 have bd: ∀c,q.np.af=some c->c<J.size:=λc b=>b9.lt b
 refine aD (AY.mk (s:=q.tp) (AB cQ rfl) (aD (AY.mk (s:=q.np) (AB cQ rfl) (aD (AC.mk (AB cQ rfl) ?_)))));have Q: ∀ {z:aa},Mod (λc=>q.tp.af=some c\/q.np.af=some c) J z->z[q.d]? =some (J2 (eg {q with Sb:=az} {st with au:=st.au+1,bo:=false} false) El (0,0)):=λx=>x.af ag.cell (by
  have aW:ap q.d=1:=ag.kd;rintro(h|h)
  ·have:=ba _ h;rw[aW] at this;cases this
  ·have:=aS _ h;rw[aW] at this;cases this)
 refine⟨?_,?_⟩
 ·refine ak.mk λfK _ dL aY gq=>⟨AB (Q (Ext.mod aY)) rfl,AB (Q (Ext.mod aY)) rfl,AB (Q (Ext.mod aY)) rfl,?_,?_⟩
  ·refine pT (b8.ext aY) dL (λe=>by have:=bx _ e;omega) cR λaH X aK av aL=>⟨_,rfl,?_⟩
   have U:Mod (λc=>q.tp.af=some c\/q.np.af=some c) J X:=(Ext.mod aY).trans (av.ai λc _ b=> .inl b);refine⟨AB (Q U) rfl,AB (Q U) rfl,ak.mk λfL _ fM bA gr=>⟨AB (Q (U.trans (Ext.mod bA))) rfl,AB (Q (U.trans (Ext.mod bA))) rfl,?_⟩⟩;have bB:Own Ho BQ fL q.np (eo st):=(((b9.ext aY).mod av λc b e=>bc c e b)).ext bA;refine pU bB fM (λe=>by have:=bd _ e;have:=U.size;omega) cS λbC bD bF aM bG=>⟨_,rfl,?_⟩
   have dM:=U.size;have bH: ∀c,aH.af=some c->c<X.size:=λc b=>aK.lt b
   refine cL bD aH bC X.size (((aK.ext bA)).mod aM λc b e=>?_) bF ((U.trans (Ext.mod bA)).trans (aM.ai λc _ b=> .inr b)) (λc b=>⟨(aL c b).imp id λh=>by omega,bH c b⟩) λc b=>(bG c b).imp id λh=>⟨by omega,by omega⟩
   rcases aL c b with o|o
   ·exact bc c o e
   ·have:=bd c e;omega
  ·refine ak.mk λfA _ cO dN fC=>?_
   have bI:=aY.trans dN;refine⟨AB (Q (Ext.mod bI)) rfl,AB (Q (Ext.mod bI)) rfl,?_⟩;refine pT (b8.ext bI) (dN.af dL λh=>h) (λe=>by have:=bx _ e;omega) cR λaH X aK av aL=>⟨_,rfl,?_⟩
   have U:Mod (λc=>q.tp.af=some c\/q.np.af=some c) J X:=(Ext.mod bI).trans (av.ai λc _ b=> .inl b);refine⟨AB (Q U) rfl,AB (Q U) rfl,?_⟩;have dM:=U.size;have bB:Own Ho BQ X q.np (eo st):=(b9.ext bI).mod av λc b e=>bc c e b
   have b6:X[fK.size]? =some (J2 #[J6 J9 (st.next:Int)] BQ (0,0)):=av.af cO (λe=>by have:=bx _ e;omega);refine pU bB b6 (λe=>by have:=bd _ e;omega) cS λbC bD bF aM bG=>⟨_,rfl,?_⟩
   have bH: ∀c,aH.af=some c->c<X.size:=λc b=>aK.lt b
   refine cL bD aH bC X.size (aK.mod aM λc b e=>?_) bF (U.trans (aM.ai λc _ b=> .inr b)) (λc b=>⟨(aL c b).imp id λh=>by omega,bH c b⟩) λc b=>(bG c b).imp id λh=>⟨by omega,by omega⟩
   rcases aL c b with o|o
   ·exact bc c o e
   ·have:=bd c e;omega
 ·refine ak.mk λgs _ fO cT gt=>⟨AB (Q (Ext.mod cT)) rfl,AB (Q (Ext.mod cT)) rfl,ak.mk λgu _ fP dO gv=>?_⟩
  have be:=cT.trans dO;refine⟨AB (Q (Ext.mod be)) rfl,AB (Q (Ext.mod be)) rfl,AB (Q (Ext.mod be)) rfl,?_⟩;refine pT (b8.ext be) fP (λe=>by have:=bx _ e;omega) cR λaH X aK av aL=>⟨_,rfl,?_⟩
  have U:Mod (λc=>q.tp.af=some c\/q.np.af=some c) J X:=(Ext.mod be).trans (av.ai λc _ b=> .inl b);refine⟨AB (Q U) rfl,AB (Q U) rfl,?_⟩;have dM:=U.size;have bB:Own Ho BQ X q.np (eo st):=(b9.ext be).mod av λc b e=>bc c e b
  have fQ:X[J.size]? =some (J2 #[J6 J9 (st.next:Int)] BQ (0,0)):=av.af (dO.af fO λh=>h) (λe=>by have:=bx _ e;omega);refine pU bB fQ (λe=>by have:=bd _ e;omega) cS λbC bD bF aM bG=>⟨_,rfl,?_⟩
  have bH: ∀c,aH.af=some c->c<X.size:=λc b=>aK.lt b
  refine cL bD aH bC X.size (aK.mod aM λc b e=>?_) bF (U.trans (aM.ai λc _ b=> .inr b)) (λc b=>⟨(aL c b).imp id λh=>by omega,bH c b⟩) λc b=>(bG c b).imp id λh=>⟨by omega,by omega⟩
  rcases aL c b with o|o
  ·exact bc c o e
  ·have:=bd c e;omega
end
def Fh:List Pr->Int
 | []=>0
 |x::l=>if Aj x≠0 then Aj x else Fh l
def EK(l:List Pr):Int:=if l.length=0 then 1 else if l.length>64 then 2 else Fh l
theorem wQ: ∀ {l:List Pr},Fh l=0->Bf l
 | [],_=>xw
 |x::l,a=>by
  unfold Fh at a;split at a
  ·rename_i b;exact absurd a b
  ·rename_i b;intro d c;rcases List.mem_cons.1 c with rfl|c
   ·exact Decidable.not_not.1 b
   ·exact wQ a d c
theorem wR {l:List Pr}(a:EK l=0):XJ l/\Bf l/\l≠ []:=by
 unfold EK at a;split at a
 ·cases a
 ·rename_i b;split at a
  ·cases a
  ·rename_i e;have:=wQ a;exact⟨⟨by omega,λx c=>nN (this x c)⟩,this,λd=>b (by rw[d];rfl)⟩
theorem AF8 {l:List Pr}{i:Nat}{x:Pr}(a:l[i]? =some x)(d:Fh (l.take i)=0):Fh l=if Aj x≠0 then Aj x else Fh l:=by
 split
 ·rename_i e
  induction l generalizing i with
  |nil=>simp at a
  |cons f l g=>
   cases i with
   |zero=>
    simp at a;subst a;unfold Fh;rw[if_pos e]
   |succ i=>
    have b:Fh (f::l.take i)=0:=d;unfold Fh at b ⊢;split at b
    ·rename_i c;exact absurd b c
    ·rename_i c;rw[if_neg c];exact g (by simpa using a) b
 ·rfl
theorem ZL: ∀ {l:List Pr} {x:Pr},Fh l=0->Aj x=0->Fh (l++ [x])=0
 | [],x,_,b=>by show Fh [x]=0;unfold Fh;rw[if_neg (by simp[b])];rfl
 |y::l,x,b,d=>by
  have a:Fh (y::l)=0:=b;show Fh (y::(l++ [x]))=0;unfold Fh at a ⊢;split at a
  ·rename_i c;exact absurd a c
  ·rename_i c;rw[if_neg c];exact ZL a d
theorem wS {Q:al}{h:aa}{s:Sl}{l:List Pr}{n:A2N}(v:View Ba h s l)(j: ∀B,Ext h B->n (J6 J9 (EK l)) B):AA Q P Oe #[J4 s.p s.len s.cap] h n:=by
 refine AFh ?_;unfold ZH;rw[v.len];refine ae.intro (λe=>?_) (λe=>?_)
 ·have o:l.length=0:=by have:((l.length:Nat):Int)=0:=(by simpa using e);omega
  have:=j h Mod.refl;unfold EK at this;rwa [if_pos o] at this
 have o:l.length≠0:=λf=>by rw[f] at e;cases e
 refine ae.intro (λe=>?_) (λe=>?_)
 ·have u:l.length>64:=by have:=of_decide_eq_true e;omega
  have:=j h Mod.refl;unfold EK at this;rwa [if_neg o,if_pos u] at this
 have u: ¬l.length>64:=by have:=of_decide_eq_false e;omega
 have R:EK l=Fh l:=by unfold EK;rw[if_neg o,if_neg u]
 rw[R] at j;refine Loop.rule (λC x d=> ∃i:Nat,x=((i:Int),())/\C=l.length-i/\i<=l.length/\Ext h d/\Fh (l.take i)=0) ?_ ⟨0,rfl,rfl,by omega,Mod.refl,rfl⟩;rintro K C _ d ⟨i,rfl,rfl,ac,w,q⟩ S;dsimp only;refine ae.intro (λe=>?_) (λe=>?_)
 ·have r:i<l.length:=by have:=of_decide_eq_true e;omega
  have ag:l[i]? =some l[i]:=A2 r;rw[<- v.len];refine(v.ext w).idx ag λa _ c=>?_
  obtain⟨T,U,V⟩:=c.pair;refine AJ.mk T (AJ.mk U (Ab.mk V (ak.pair λb k _ m W ad=>?_)));have y:=w.trans W;generalize l[i]=p at*
  have D:=AF8 ag q;refine ah.mk λE F=>?_
  have X:Aj p=1-> ∀d,Ext h d->n (J6 J9 1) d:=λf d x=>by
   have:=j d x;rw[D,if_pos (by rw[f];decide),f] at this;exact this
  have Y:Aj p=2-> ∀d,Ext h d->n (J6 J9 2) d:=λf d x=>by
   have:=j d x;rw[D,if_pos (by rw[f];decide),f] at this;exact this
  have z:Aj p=if(decide (p.key=⟨#[]⟩)||(p.gone&& !decide (p.val=⟨#[]⟩))) then 1 else if(decide (p.key.size>64)||decide (p.val.size>8192)) then 2 else 0:=rfl;have G:(decide (p.key=⟨#[]⟩)||(p.gone&& !decide (p.val=⟨#[]⟩)))=true->E (true,()) k:=λf=>F _ _ (ae.yes rfl (X (by rw[z,if_pos f]) k y))
  have H:(decide (p.key=⟨#[]⟩)||(p.gone&& !decide (p.val=⟨#[]⟩)))=false->E (false,()) k:=λf=>F _ _ (ae.no rfl (by
   refine ah.mk λI J=>?_
   have L:(decide (p.key.size>64)||decide (p.val.size>8192))=true->I (true,()) k:=λA=>J _ _ (ae.yes rfl (Y (by rw[z,if_neg (by rw[f];decide),if_pos A]) k y))
   have Z:(decide (p.key.size>64)||decide (p.val.size>8192))=false->I (false,()) k:=λA=>J _ _ (ae.no rfl (by
    have ab:Aj p=0:=by rw[z,if_neg (by rw[f];decide),if_neg (by rw[A];decide)]
    rw[Aa (by omega)];refine S (l.length-(i+1)) _ _ (by omega) ⟨i+1,rfl,rfl,r,y,?_⟩;rw[AD,ag];exact ZL q ab))
   refine AJ.mk (AL m rfl) (ae.intro (λg=>?_) (λg=>?_))
   ·have M:p.key.size>64:=by have:=of_decide_eq_true g;omega
    exact L (by simp[M])
   ·have M: ¬p.key.size>64:=by have:=of_decide_eq_false g;omega
    refine AJ.mk (AB m rfl) ?_;by_cases N:p.val.size>8192
    ·rw[decide_eq_true (show((p.val.size:Int)>(8192:Int)) by omega)];exact L (by simp[N])
    ·rw[decide_eq_false (show ¬((p.val.size:Int)>(8192:Int)) by omega)];exact Z (by simp[N];omega)))
  refine AJ.mk (AL m rfl) ?_;rw[Cb];refine ae.intro (λg=>?_) (λg=>?_)
  ·exact G (by rw[g];rfl)
  ·refine Ab.mk (AB m rfl) (ae.intro (λt=>?_) (λt=>?_))
   ·refine AJ.mk (AB m rfl) ?_;rw[Cb];cases O:decide (p.val=(⟨#[]⟩:A2O)) with
    |true=>exact H (by rw[g,t,O];rfl)
    |false=>exact G (by rw[g,t,O];rfl)
   ·exact H (by rw[g,t];rfl)
 ·have r:i=l.length:=by have:=of_decide_eq_false e;omega
  subst r;rw[BW] at q;have:=j d w;rwa [q] at this
theorem wT {e:bQ}{D:Bn}(h:BH e D){s:Nat}(d:s<=99999999){b:List Pr}(f:XJ b): ∀r∈(D.L s).map (BN s)++ [BN s b],r.length<=1048576:=λr a=>by
 rcases List.mem_append.1 a with a|a
 ·obtain⟨c,i,rfl⟩:=List.mem_map.1 a;have:=X6 d (h.gf s c i);omega
 ·rw[List.mem_singleton.1 a];have:=X6 d f;omega
theorem AH2(a:List (List UInt8))(r:List UInt8):aH (a++ [r])=aH a++Cj r:=by simp
theorem AH4 {i j:bQ}{D:Bn}{s:Nat}{b:List Pr}(h:BH i D)(o:1<=s/\s+1<=99999999)(l:XJ b)(a: ∀e,j e=if e=aC nl s then some (AX (aH ((D.L s).map (BN s)++ [BN s b])),bz) else i e):BH j (Ri D s b):=by
 refine AOw h o l (λf _ _ p=> .inl ?_) (λf _ _=> .inl ?_) (λf=> .inl ?_) (λe r n=>?_) ⟨_,by rw[a,if_pos rfl],?_⟩
 ·rw[a,if_neg λd=>p (IK d)]
 ·rw[a,if_neg λd=>Ur s f d.symm]
 ·rw[a,if_neg λd=>K9 s f d.symm]
 ·rw[a,if_neg (r s)] at n;exact n
 ·rw[EE,CH];have:=Qf (rs:=(D.L s).map (BN s)++ [BN s b]) (wT h (by omega) l) (t:= []) Sk;rw[AM] at this;exact this
theorem AIW {j F1 G:bQ}{D:Bn}{s:Nat}{b:List Pr}(h:BH j D)(z:1<=s/\s+1<=99999999)(C:XJ b)(t: ∀e,F1 e=if e=aC nl s then some (AX (aH ((D.L s).map (BN s))),AX (Cj (BN s b))) else j e)(c:LY F1 G):
  BH G {D with aO:=max D.aO (s+1)}\/BH G (Ri D s b):=by
 have E: ∀a,1<=a->a<=99999999->a≠s->Mk (j (aC nl a)) (G (aC nl a)):=λa l n u=>by
  have d:F1 (aC nl a)=j (aC nl a):=by rw[t,if_neg λd=>u (IK d)]
  have:=c.bY (x:=aC nl a) λp o=>(h.log.has a p l n (d▸o)).1
  rwa [d] at this
 have F: ∀a,1<=a->a<=99999999->Mk (j (aC nn a)) (G (aC nn a)):=λa l n=>by
  have d:F1 (aC nn a)=j (aC nn a):=by rw[t,if_neg λd=>Ur s a d.symm]
  have:=c.bY (x:=aC nn a) λp o=>(h.note.has a p l n (d▸o)).1
  rwa [d] at this
 have ft: ∀a,F1 (aU a)=j (aU a):=λa=>by rw[t,if_neg λd=>K9 s a d.symm]
 have H: ∀a∈(Ai D).names,G (aU a)=some (AX (JM (D.T a)),bz)/\Gg (D.T a):=λa O=>by
  obtain⟨I,J⟩:=h.cL a O;have:=c.bY (x:=aU a) λp o=>by rw[ft,I] at o;cases o;rfl
  rw[ft] at this;exact⟨UB this J I,J⟩
 have K: ∀e,(∀ a,e≠aC nl a)->G e≠none->j e≠none:=λe w P Q=>P (by
  have:=c e;rw[t,if_neg (w s),Q] at this;exact this)
 have L:=c (aC nl s);rw[t,if_pos rfl] at L;obtain⟨S,y⟩:=L;have i:=wM (rs:=(D.L s).map (BN s)) (r:=BN s b) (wT h (by omega) C) S;have M:(G (aC nl s)=none/\(D.L s).map (BN s)= []\/ ∃e,G (aC nl s)=some (e,bz)/\MU (bl e) ((D.L s).map (BN s)))->BH G {D with aO:=max D.aO (s+1)}:=λT=>by
  refine⟨?_,h.note.aY h.cw.2.2.1 F,H,h.gf,h.dJ,λe w hd=>h.dt e (K e (λa d=>by rw[d,P5] at hd;cases hd) w) hd,by have:=h.cw;refine⟨?_,?_,this.2.2.1,this.2.2.2⟩<;>simp only[]<;>omega⟩;have:=h.log.put (G:=G) (eX:=max D.aO (s+1)) (s:=s) (v:=(D.L s).map (BN s)) ⟨z.1,by omega⟩ (by omega) (λa l n u=>E a l n u) T (by omega);have d:(Jp (λa=>(D.L a).map (BN a)) s ((D.L s).map (BN s)))=λa=>(D.L a).map (BN a):=by
   funext a;by_cases d:a=s
   ·subst d;rw[DL]
   ·rw[Ec d]
  rw[d] at this;exact this
 split at y
 ·rename_i U;left;refine M (.inl ⟨y,?_⟩);rw[U] at i;have N: ∀rs,MU (bl bz) rs->rs= []:=λrs V=>qK V
  rcases i with i|i
  ·exact N _ i
  ·have:=N _ i;simp at this
 ·rcases i with i|i
  ·exact .inl (M (.inr ⟨_,y,i⟩))
  ·right;have W:(D.L s++ [b]).map (BN s)=(D.L s).map (BN s)++ [BN s b]:=by rw[CH];rfl
   refine⟨?_,h.note.aY h.cw.2.2.1 F,H,λa x f=>?_,h.dJ,λe w hd=>h.dt e (K e (λa d=>by rw[d,P5] at hd;cases hd) w) hd,by have:=h.cw;refine⟨?_,?_,this.2.2.1,this.2.2.2⟩<;>simp only[Ri]<;>omega⟩
   ·have:=h.log.put (G:=G) (eX:=max D.aO (s+1)) (s:=s) (v:=(D.L s++ [b]).map (BN s)) ⟨z.1,by omega⟩ (by omega) (λa l n u=>E a l n u) (.inr ⟨_,y,by rw[W];exact i⟩) (by omega);have d:(Jp (λa=>(D.L a).map (BN a)) s ((D.L s++ [b]).map (BN s)))=λa=>((Ri D s b).L a).map (BN a):=by
     funext a;show _=(Jp D.L s (D.L s++ [b]) a).map (BN a);by_cases d:a=s
     ·subst d;rw[DL,DL]
     ·rw[Ec d,Ec d]
    rw[d] at this;exact this
   ·by_cases d:a=s
    ·have f:x∈Jp D.L s (D.L s++ [b]) a:=f;rw[d,DL] at f;rcases List.mem_append.1 f with f|f
     ·exact h.gf s x f
     ·rw[List.mem_singleton.1 f];exact C
    ·have f:x∈Jp D.L s (D.L s++ [b]) a:=f;rw[Ec d] at f;exact h.gf a x f
theorem AQX {b:bQ}{D:Bn}(h:BH b D){t:Nat}(d:D.aO<=t):Hw {D with aO:=t}=Hw D:=by
 unfold Hw;exact SG d λa e _=>by
  show(if a<(Ai D).aT then [] else D.L a)= [];split
  ·rfl
  ·exact h.gy (.inr e)
section
variable {A : al} {B : cI} {g h : aa} {q : Hp} {k : Nat -> Nat} {st : Db} {m : Bx} {D : Bn} {aI c : Nat} {R : A2N}
theorem AQZ(a:bJ g h q k st m)(b:R (J6 J9 (st.au:Int)) h):AA A P IV #[Ay q.lg] h R:=by refine Ng ?_;unfold Kg;exact ae.no rfl (aD (AC.mk (AB a.log rfl) b))
theorem AIG(a:Nat):600000<=20000*a+10000000:=by omega
theorem cI.up(B:cI){d a:Nat}{b:Nat}(e:a<=b)(h:d<=B.W0+a*B.K):d<=B.W0+b*B.K:=AF h (Lo (AS _ e) _)
structure lK (st bE:Db) (l:List Pr):Prop where
 map:CZ bE=cS (CZ st) l
 full:4096<=M.EG (BG st.fr l)->bE.fr= []/\(bE.ts.length<=3\/bE.ts.length=st.ts.length)
 less:M.EG (BG st.fr l)<4096->bE.fr=BG st.fr l/\bE.ts=st.ts
theorem wU {s:Sl}{l:List Pr}(ap:cm g)(br:Br B g h q k st m D aI c)(hA:aI+3<=B.A)(ab:View Ba h s l)(aq:l≠ []-> ∀b,s.af=some b->b<h.size/\k b=0)(aG:EK l=0->c+l.length<=B.C)
  (bs:EK l≠0-> ∀o,Ext h o->R (J6 J9 (EK l)) o)
  (a5:EK l=0-> ∀o v,nL B h o q k m v (aI+3)->(∀ G,LY (ff v) G->Rec G (aI+3) (c+l.length) (CZ st)\/Rec G (aI+3) (c+l.length) (cS (CZ st) l))->R (J6 J9 30) o)
  (bt:EK l=0-> ∀o v,nL B h o q k m v (aI+3)->jF (ff v) (aI+3) (c+l.length) (cS (CZ st) l)->R (J6 J9 0) o)
  (a6:EK l=0-> ∀o ac ar bE v aJ,ac.d=q.d->ac.b=q.b->Br B g o ac ar bE v aJ (aI+3) (c+l.length)->JA m v->lK st bE l->(∀ n,¬da n->ff v n=ff m n)->Mod (λc=>k c≠0) h o->(∀ c,ar c≠0->k c≠0\/h.size<=c)->R (J6 J9 0) o):
  AA A P KL #[Ay q.d,J4 s.p s.len s.cap] h R:=by
 obtain⟨V,hd,L,w,aK,e⟩:=br;have cz:=B.hA;have cB:=B.hC;have bu:=B.wt (a:=aI) (by omega);have cC:=w.au;have cD:=L.eI;have cE:=w.aO;refine AAG ?_;unfold SX;refine ah.mk λK bv=>Xr V (bv _ _ (ae.no rfl ?_))
 refine wS ab λbw ad=>⟨_,rfl,?_⟩
 refine ae.intro (λQ=>bs (by simpa using Q) bw ad) (λQ=>?_);have S:EK l=0:=by simpa using Q
 obtain⟨E,bx,af⟩:=wR S
 replace aq:=aq af
 replace aG:=aG S
 have W:=V.on ad;refine aD (AZ.mk (AB W.cell rfl) (aD (AZ.mk (AB W.cell rfl) ?_)));refine AQZ W ⟨_,rfl,⟨AB W.cell rfl,?_⟩⟩;refine ANW (by omega) E.len E.ok (ab.ext ad) (λb E=>by have:=(aq b E).1;have:=ad.size;omega) λX aL=>⟨_,rfl,⟨AB (W.on aL).cell rfl,?_⟩⟩
 have N:=W.on aL;have aM:=ad.trans aL;have cF:=aM.size;have cG:=X6 (s:=st.au) (by omega) E;have au:(AX (BN st.au l)).size=(BN st.au l).length:=AP _;refine we (N.gV ap) N.log N.box N.kG (λo x=>N.fS ap (x.ai λc _ e=> .inl e)) (by decide) (by omega) (by rw[au];omega) (AF aK bu) λav p aw ax aN a7=>⟨_,rfl,?_⟩
 rw[show bl (AX (BN st.au l))=BN st.au l from EE _] at aw ax ⊢;have bA:=YR V.box.aQ (aC nl st.au) (AX (Cj (BN st.au l)));have cH:=(I6 (r:=BN st.au l) (by omega)).2;rw[AP] at bA;have a8: ∀c,p c->q.Sb c\/X.size<=c:=λc e=>(a7 c e).imp id λh=>h.1
 have bB:((ff m (aC nl st.au)).getD (bz,bz))=(AX (aH ((D.L st.au).map (BN st.au))),bz):=by
  cases a9:st.bo with
  |true=>rw[L.jf a9];rfl
  |false=>
   have ba:=L.gw st.au (A0 _) (by omega) (by rw[a9];simp);rw[ba,L.ok.jh (by omega) ba];rfl
 have bb: ∀f,st.au<f->D.L f= []:=λf y=>L.rp w (by omega) y
 have bc:1<=st.au/\st.au+1<=99999999:=⟨by omega,by omega⟩;have bd:(Ai D).aT<=st.au:=by rw[L.aT];exact L.eI.2
 obtain⟨bC,bD⟩:=ANi L.ok bd bb E;have bF:=xz L.ok (b:=l) bd bb;have be:NH (Ri D st.au l)=NH D+l.length:=by
  unfold NH;rw[bF,N6,A1];have:(Ai (Ri D st.au l)).names.map (λf=>((Ri D st.au l).T f).length)=(Ai D).names.map λf=>(D.T f).length:=rfl
  rw[this];simp;omega
 have bG: ∀ {F':bQ},(∀ f,F' (aU f)≠none->ff m (aU f)≠none)-> ∀f,F' (aU f)≠none->f<8*aI+8:=λbH f y=>by
  have:=L.fx w (bH f y);have:=w.next;omega
 have bI: ∀ {bf:Nat},bf<=B.W0+(aI+1)*B.K->bf<=B.W0+(aI+3)*B.K:=λh=>B.up (by omega) h
 rcases Qm (k:=aC nl st.au) (d:=AX (Cj (BN st.au l))) hd (wh (by decide) (by omega)) with⟨aP,aQ⟩|⟨aQ,aR,bK⟩
 ·rw[aQ] at aw ⊢;refine ae.yes rfl ?_;refine JF N aw (aN.ai λc _ e=>e.imp id .inl) a8 λbL bM bN bO bP=>⟨_,rfl,?_⟩
  refine a5 S bL (MR m) ⟨by rw[aP];decide,bM,⟨p,bN,λc e=>(bP c e).imp id λh=>by omega⟩,rfl,(Ext.mod aM).trans bO,λ_ _=>rfl,B.up (by omega) aK⟩ λG ay=> .inl ?_
  exact(L.oy w G ay).mono (by omega) (by omega)
 rw[aQ] at ax ⊢;refine ae.no rfl ?_;rw[decide_eq_true rfl,HG] at ax;generalize (Dt m (aC nl st.au) (AX (Cj (BN st.au l)))).2=z at*
 have ai: ∀n,ff z n=if n=aC nl st.au then some (AX (aH ((D.L st.au).map (BN st.au))),AX (Cj (BN st.au l))) else ff m n:=λn=>by
  rw[bK,bB];simp only[Qd]
 have cI: ¬p q.lg:=λe=>by
  rcases a7 _ e with h|h
  ·exact N.kG h
  ·exact h.2 rfl
 have H:=N.boxed (j:=3) (bE:= {st with bo:=true}) aw (aN.ai λc _ e=>e.imp id λh=> .inl ⟨rfl,h⟩) a8 rfl rfl rfl rfl (.inr ax) (.inl ⟨by decide,rfl⟩);have bR:Grow k (Km k X.size p 2) X.size:=qS;have az: ∀c,Km k X.size p 2 c≠0->k c≠0\/h.size<=c:=λc e=>by
  by_cases aj:c<X.size
  ·rw[bR c aj] at e;exact .inl e
  ·exact .inr (by omega)
 generalize Km k X.size p 2=bh at*
 have aA:Mod (λc=>k c≠0) h av:=(Ext.mod aM).trans (aN.ai λc _ e=>by
  rcases e with e|e
  ·rw[V.kb c e];decide
  ·rw[e,V.kl];decide)
 refine aD (AZ.mk (AB H.cell rfl) ?_);refine wg (H.gV ap) H.log H.box H.kG (by decide) (by show st.au<=_;omega) λaS al cJ aT=>⟨_,rfl,?_⟩
 have bS:ff z (aC nl st.au)=some (AX (aH ((D.L st.au).map (BN st.au))),AX (Cj (BN st.au l))):=by rw[ai,if_pos rfl]
 have al:Cm aS q.b p (Gr z (aC nl st.au)).2:=al;have bT:=ni H.box.aQ (aC nl st.au);have bi:bg z.files<=B.W0+(aI+1)*B.K:=B.step (d:=600000) aK (by omega) (AIG B.C);show ae ((Gr z (aC nl st.au)).1 != 0) _ _;rcases NZ aR.up bS with⟨aP,am⟩|⟨am,bU,bV⟩
 ·rw[am] at al;have bW:MG z (aC nl st.au) true=(30,MR z):=am;rw[am];refine ae.yes rfl ?_;show AA A P CV #[_,J6 J9 (MG z (aC nl st.au) true).1] aS _;rw[bW];refine JF (q:= {q with Sb:=p}) H al (aT.ai λc _ e=> .inl e) (λc e=> .inl e) λbX bY bZ b0 b1=>⟨_,rfl,?_⟩
  refine a5 S bX (MR z) ⟨(λI=>by have:=aR.calm I;rw[aP] at this;cases this),bY,⟨p,bZ,λc e=>?_⟩,rfl,aA.then (b0.ai λc _ e=>az c e),λn u=>?_,bI bi⟩ λG ay=>?_
  ·rcases b1 c e with F|F
   ·exact az c F
   ·exact .inr (by have:=aA.size;omega)
  ·rw[nU,ai,if_neg (nM u _)]
  ·have b2: ∀f,G (aU f)≠none->ff m (aU f)≠none:=λf y=>by
    have F:ff z (aU f)≠none:=ay.some y;rwa [ai,if_neg λJ=>K9 _ f J.symm] at F
   have C:=L.ji w (F':=G) (bG b2);rcases AIW L.ok bc E (F1:=ff (MR z)) ai ay with aV|aV
   ·left;have au:=AQX L.ok (t:=max D.aO (st.au+1)) (by omega);have em:ct {D with aO:=max D.aO (st.au+1)}=ct D:=by unfold ct ET;rw[au];rfl
    have b3:NH {D with aO:=max D.aO (st.au+1)}=NH D:=by unfold NH;rw[au];rfl
    refine⟨_,aV,⟨by show max D.aO (st.au+1)<=_;omega,by have:=C.aV;show D.aV<=_;omega,by have:=C.next;show(Ai D).next<=_;omega,by have:=C.aT;show(Ai D).aT<=_;omega,by have:=C.cn;show(Ai D).names.length<=_;omega,by rw[b3];have:=C.bV;omega,λf y=>by have:=C.lZ f y;omega⟩,by rw[em];exact L.map⟩
   ·right;refine⟨_,aV,⟨by show max D.aO (st.au+1)<=_;omega,by have:=C.aV;show D.aV<=_;omega,by have:=C.next;show(Ai D).next<=_;omega,by have:=C.aT;show(Ai D).aT<=_;omega,by have:=C.cn;show(Ai D).names.length<=_;omega,by rw[be];have:=C.bV;omega,λf y=>by have:=C.lZ f y;omega⟩,by rw[bD,L.map]⟩
 rw[am];refine ae.no rfl ?_;generalize (Gr z (aC nl st.au)).2=O at*
 have Y: ∀n,ff O n=if n=aC nl st.au then some (AX (aH ((D.L st.au).map (BN st.au)++ [BN st.au l])),bz) else ff m n:=λn=>by
  rw[bV];by_cases u:n=aC nl st.au
  ·rw[if_pos u,if_pos u];simp only[Ak,AH2]
  ·rw[if_neg u,if_neg u,ai,if_neg u]
 have b4:=AH4 L.ok bc E Y;have b5:=H.boxed (j:=2) (bE:= {st with bo:=true}) al (aT.ai λc _ e=> .inl e) (λc e=> .inl e) rfl rfl rfl rfl (.inl ⟨by decide,rfl,rfl⟩) (.inl ⟨by decide,rfl⟩);have b6:Mod (λc=>k c≠0) h aS:=aA.then (aT.ai λc _ e=>az c (by rw[H.kb c e];decide));have b7: ∀c,Km bh av.size p 2 c≠0->k c≠0\/h.size<=c:=λc e=>by
  by_cases aj:c<av.size
  ·rw[Fq aj] at e;exact az c e
  ·exact .inr (by have:=aA.size;omega)
 generalize Km bh av.size p 2=b8 at*
 have aE:JA m O:=aR.trans bU;have cK:=L.dc w;have cL:=E.len;refine Loop.rule (λbj x I=> ∃(i:Nat) (an:List M.DD) (ao:Nat->Nat),x=((i:Int),())/\bj=l.length-i/\i<=l.length/\bJ g I {q with Sb:=p,ns:=an} ao {st with bo:=true,fr:=BG st.fr (l.take i)} O/\Mod (λc=>k c≠0) h I/\(∀ c,ao c≠0->k c≠0\/h.size<=c)) ?_
  ⟨0,q.ns,b8,rfl,rfl,As _,b5,b6,b7⟩
 rintro cM bj _ I ⟨i,an,ao,rfl,rfl,cN,Z,aa,T⟩ bk;dsimp only;have b9:=ab.mod aa λb E af=>af (aq b E).2
 have cO:=aa.size;refine ae.intro (λQ=>?_) (λQ=>?_)
 ·have aF:i<l.length:=by have:=of_decide_eq_true Q;have:=ab.len;omega
  have ag:l[i]? =some l[i]:=A2 aF;refine b9.idx ag λa _ ca=>?_
  obtain⟨cb,cc,cd⟩:=ca.pair;refine AJ.mk cb (AJ.mk cc (Ab.mk cd (ak.pair λb ce _ aW aX cP=>?_)));have aY:=Z.on aX;refine aD (AZ.mk (AB aY.cell rfl) ?_);refine AJ.mk (AL aW rfl) (AJ.mk (AB aW rfl) (Ab.mk (AB aW rfl) ?_));have cf:=M.P8 (l:=l.take i) (t:=st.fr);rw[AE] at cf;refine M.rv (x:=l[i]) aY.fresh (by show(BG st.fr (l.take i)).length<_;omega) λcg cQ ch bm ci=>⟨_,rfl,?_⟩
  have cj:=aY.oz ch bm ci;rw[Aa (by omega)];refine bk (l.length-(i+1)) _ _ (by omega) ⟨i+1,cg,_,rfl,rfl,aF,by rw[M.ry ag];exact cj,(aa.trans (Ext.mod aX)).then (bm.ai λc _ e=>T c (by rw[Z.kf c e];decide)),λc e=>?_⟩;by_cases aj:c<ce.size
  ·rw[Fq aj] at e;exact T c e
  ·exact .inr (by have:=aX.size;omega)
 have aF:i=l.length:=by have:=of_decide_eq_false Q;have:=ab.len;omega
 subst aF;rw[BW] at Z;clear bk;have aZ:CZ {st with bo:=true,fr:=BG st.fr l}=cS (CZ st) l:=Za V.fQ bx;have ck:EZ (ff O) {st with bo:=true,fr:=BG st.fr l} (Ri D st.au l):=
  ⟨b4,L.names,L.cj,L.aT,L.next,L.below,by rw[bC,<-L.fr],λf a0 a1 af=>by
   have bn:f≠st.au:=af rfl;rw[Y,if_neg λJ=>bn (IK J)];exact L.gw f a0 a1 λ_=>bn,λ_=>by
   show ff O (aC nl st.au)=some (AX (aH ((Jp D.L st.au (D.L st.au++ [l]) st.au).map (BN st.au))),bz);rw[Y,if_pos rfl,DL,CH];rfl,λf a0 a1=>by
   rw[Y,if_neg λJ=>Ur _ f J.symm];exact L.je f a0 a1,L.eI,L.aJ,λf y=>by
   rw[Y,if_neg λJ=>K9 _ f J.symm] at y;exact L.clean f y⟩
 have cl:Rc {st with bo:=true,fr:=BG st.fr l} (Ri D st.au l) (aI+1) (c+l.length):=
  ⟨by show st.au<=_;omega,by have:=w.aJ;show st.aJ<=_;omega,by have:=w.next;show st.next<=_;omega,by have:=w.cn;show st.ts.length<=_;omega,by rw[be];have:=w.bV;omega,by show max D.aO (st.au+1)<=_;omega,by have:=w.aV;show D.aV<=_;omega⟩
 have bp:Br B g I {q with Sb:=p,ns:=an} ao {st with bo:=true,fr:=BG st.fr l} O (Ri D st.au l) (aI+1) (c+l.length):=
  ⟨Z,aE.up,ck,cl,AF bT bi,aG⟩
 have a2: ∀n,¬da n->ff O n=ff m n:=λn u=>by rw[Y,if_neg (nM u _)]
 refine ah.mk λcR a3=>?_
 refine aD (AZ.mk (AB Z.cell rfl) ?_);refine M.rq Z.fresh ⟨_,_,rfl,?_⟩;refine ae.intro (λa4=>?_) (λa4=>?_)
 ·have cT:4096<=M.EG (BG st.fr l):=by have:=of_decide_eq_true a4;have J:M.EG ({st with bo:=true,fr:=BG st.fr l}:Db).fr=M.EG (BG st.fr l):=rfl;omega
  refine ANt (q:= {q with Sb:=p,ns:=an}) ap bp (by omega) (λo v U bq=>⟨_,rfl,a3 _ _ ?_⟩) λo ac ar bE v aJ cn co S' cp cq cr cs cu cv cw=>⟨_,rfl,a3 _ _ ?_⟩
  ·rw[aZ] at bq;obtain⟨S',cx,cy⟩:=U.box;refine bt S o v ⟨λI=>U.fuel (aE.calm I),U.dn,⟨S',cx,λc e=>?_⟩,U.down,aa.then (U.mod.ai λc _ e=>T c e),λn u=>(U.fi n u).trans (a2 n u),U.wt⟩ bq;rcases cy c e with F|F
   ·exact T c F
   ·exact .inr (by omega)
  ·refine a6 S o ac ar bE v aJ cn co S' (aE.trans cp) ⟨cr.trans aZ,λ_=>⟨cq,cs⟩,λh=>absurd h (by omega)⟩ (λn u=>(cu n u).trans (a2 n u)) (aa.then (cv.ai λc _ e=>T c e)) λc e=>?_
   rcases cw c e with F|F
   ·exact T c F
   ·exact .inr (by omega)
 ·have cU:M.EG (BG st.fr l)<4096:=by have:=of_decide_eq_false a4;have J:M.EG ({st with bo:=true,fr:=BG st.fr l}:Db).fr=M.EG (BG st.fr l):=rfl;omega
  refine a3 _ _ ?_;exact a6 S I {q with Sb:=p,ns:=an} ao _ O _ rfl rfl (bp.aI (by omega)) aE ⟨aZ,λh=>absurd h (by omega),λ_=>⟨rfl,rfl⟩⟩ a2 aa T
end
theorem wV: ∀(l:List UInt8) (a:Nat),ly l->Rs a l<=999999999999->Lib.parseUint10 a l= .ok (Rs a l)
 | [],a,_,_=>rfl
 |c::l,a,hd,b=>by
  have h:Rs a (c::l)=Rs (a*10+(c.toNat-48)) l:=rfl;rw[h] at b ⊢;have d:=hd c (by simp);have f:=qa l (a*10+(c.toNat-48));unfold Lib.parseUint10;rw[if_pos d,if_neg (by omega),if_neg (by omega)];exact wV l _ (λx e=>hd x (An _ e)) b
theorem ANZ {a:Nat}(i:a<=999999999999):Lib.atoiAll (Lib.decDigits a)= .ok (a:Int):=by
 obtain⟨b,d⟩:=Xu a;cases e:Lib.decDigits a with
 |nil=>
  have:=congrArg List.length e;rw[Lib.decDigits_length] at this;have:=Lib.nDigits_pos a;simp at *;omega
 |cons c r=>
  rw[e] at b d;have n:=b c (by simp);have f:=wV (c::r) 0 b (by rw[d];exact i);rw[d] at f;unfold Lib.atoiAll;simp only[];have j: ¬(c.toNat=43\/c.toNat=45):=by omega
  have l: ¬c.toNat=45:=by omega
  rw[if_neg j];unfold Lib.parseMag;rw[if_neg (by simp),f];simp only[l,not_false_eq_true,true_and,false_and,if_false];rw[if_neg (by omega)]
theorem AOs {A:al}{h:aa}{a:Nat}{R:A2N}(f:a<=999999999999)(d: ∀e,Ext h e->R (J1 #[J6 J9 (a:Int),.nilIface]) e):AA A P TN #[J7 (AX (Lib.decDigits a))] h R:=by
 intro m;have i:(Lib.decDigits a).length<=20:=by rw[Lib.decDigits_length];exact Lib.nDigits_le20 a (by omega)
 refine Calls.mono (Proofs.Any.strconv_Atoi_ok Proofs.Tryz.gu (AX (Lib.decDigits a)) (by rw[AP];omega) (a:Int) (by rw[show(AX (Lib.decDigits a)).data.toList=Lib.decDigits a from Ce _];exact ANZ f) (A.at h m)) ?_;rintro j l ⟨rfl,c|⟨t,c⟩⟩
 ·subst c;exact⟨_,rfl,h,m,rfl,d h Mod.refl⟩
 ·subst c;refine⟨_,rfl,_,_,rfl,d _ ?_⟩;refine⟨?_,λb n _=>?_⟩
  ·simp[Lib.bytesWorld,World.freeze,World.alloc,World.drew,al.at]
  ·simp[Lib.bytesWorld,World.freeze,World.alloc,World.drew,al.at,GO,Array.getElem?_push];rw[if_neg (by omega),if_neg (by omega)]
theorem AHD {A:al}{h:aa}{s:Sl}{l:List Int}{v:Int}{R:A2N}(d:View Ho h s l)(t:l.length<=1000000)(n:R (J3 (decide (v∈l))) h):AA A P EM #[J4 s.p s.len s.cap,J6 J9 v] h R:=by
 refine Kn ?_;unfold GY;refine MN ?_;unfold IQ;refine Loop.rule (λo x p=> ∃i:Nat,x=((i:Int),())/\o=l.length-i/\i<=l.length/\p=h/\v∉l.take i) ?_ ⟨0,rfl,rfl,As _,rfl,by simp⟩;rintro K o _ _ ⟨i,rfl,rfl,u,rfl,e⟩ r;dsimp only;rw[d.len];refine ae.intro (λf=>?_) (λf=>?_)
 ·have b:i<l.length:=by have:=of_decide_eq_true f;omega
  have ag:l[i]? =some l[i]:=A2 b;rw[<- d.len];refine d.idx ag λa _ c=>AC.mk c.int ?_
  refine ae.intro (λq=>?_) (λq=>?_)
  ·have j:v=l[i]:=by simpa using q
   refine⟨_,rfl,?_⟩;rw[decide_eq_true (show((i:Int)>=0) by omega)];rwa [decide_eq_true (show v∈l by rw[j];exact AW b)] at n
  ·have j:v≠l[i]:=by simpa using q
   rw[Aa (by omega)];refine r (l.length-(i+1)) _ _ (by omega) ⟨i+1,rfl,rfl,b,rfl,?_⟩;rw[AD,ag];simp only[DG,Ek,Sf,not_or];exact⟨e,j⟩
 ·have b:i=l.length:=by have:=of_decide_eq_false f;omega
  subst b;rw[BW] at e;refine⟨_,rfl,?_⟩;rwa [decide_eq_false e] at n
section
variable {A : al} {g h : aa} {q : Hp} {k : Nat -> Nat} {st : Db} {m : Bx} {D : Bn} {R : A2N}
theorem AIA(b:bJ g h q k st m)(d:Nat):Kc k d q.tp q.np (λ_=>False)=k:=by
 funext c;unfold Kc;by_cases a:k c=0
 ·rw[if_neg (by simp[a]),if_neg (λh=>by have:=b.kt c h;rw[a] at this;cases this),if_neg (λh=>by have:=b.kx c h;rw[a] at this;cases this),if_neg (λh=>h),a]
 ·rw[if_pos a]
theorem bJ.jj {h':aa}{next:Nat}(b:bJ g h q k st m)(a:h'[q.d]? =some (J2 (eg q {st with next:=next} false) El (0,0)))(x:Mod (· =q.d) h h'):bJ g h' q k {st with next:=next} m:=by have R:=b.rest (C:=λc=>c=1) (h':=h') (x.ai λc _ a=>by rw[a];exact b.kd) (by decide);have:=b.eW (h':=h') (tp:=q.tp) (np:=q.np) (ps:=q.ps) (ts:=st.ts) (next:=next) (aT:=st.aT) (S:=λ_=>False) a (x.ai λc _ a=> .inl a) (R.cj (by decide)) (R.names (by decide)) b.cY (λc a=> .inl a) (λc a=> .inl a) (λc h=>h.elim) (λi t p d e=> .inl ⟨i,d,e⟩);rw[AIA b] at this;exact this
theorem APD {m:Bx}{x:A2O}:ff m x≠none↔x∈m.files.map (·.name):=by rw[<- vZ (k:=x),UA];cases ff m x<;>simp
theorem ANp {s:A2O}(h:(dw s 0 != (116:Int))=false)(l:2<=s.size):(bl s).head? =some 116:=by
 have d:bl s=s.data.toList:=rfl;have a:=BA s;cases b:bl s with
 |nil=>rw[b] at a;simp at a;omega
 |cons c r=>
  have e:dw s 0=116:=by simpa using h
  have f:s.data.toList[0]? =some c:=by rw[<- d,b];rfl
  have n:(c.toNat:Int)=116:=by have:=Oh (i:=0) f;rw[<- e];exact this.symm
  have j:c.toNat=116:=by omega
  have:c=116:=by apply UInt8.toNat_inj.1;rw[j];rfl
  rw[this];rfl
theorem AMT {N:Nat}(a2:cm g)(E:bJ g h q k st m)(hd:m.down=false)(aC:BH (ff m) D)(a3:(Ai D).names=st.ts.map (·.1))(bB:N<=99999999)(a4: ∀b,ff m (aU b)≠none->b<N)(a5:st.next<=N)(bC:st.ts.length<=100000)(a6:m.files.length<=8000000000000)
  (a7:m.fuel≠ -1-> ∀h' S' n,Cm h' q.b S' n->n.down=true->Mod (λc=>k c≠0) h h'->(∀ c,S' c->k c≠0\/h.size<=c)->BH (ff n) D->(∀ e,(∀ b,e≠aU b)->ff n e=ff m e)->(∀ b,ff n (aU b)≠none->ff m (aU b)≠none)->bg n.files<=bg m.files->R (J6 J9 30) h')
  (a8: ∀h' S' aE n ad,bJ g h' {q with Sb:=S'} aE {st with next:=ad} n->JA m n->BH (ff n) D->(∀ e,(∀ b,e≠aU b)->ff n e=ff m e)->(∀ b,ff n (aU b)≠none->b∈st.ts.map (·.1))->st.next<=ad->ad<=N->bg n.files<=bg m.files->
   Mod (λc=>k c≠0) h h'->(∀ c,aE c≠0->k c≠0\/h.size<=c)->R (J6 J9 0) h'):AA A P Nr #[Ay q.d] h R:=by
 refine AAE ?_;unfold SY;refine aD (AZ.mk (AL E.cell rfl) ?_);refine tK E.box λaf r ai S a9=>⟨af,_,rfl,?_⟩
 have ba:jx m=(m.files.map (·.name),0):=by unfold jx;rw[if_neg (by simp[hd])]
 rw[ba] at ai ⊢;refine ae.no rfl ?_;dsimp only at ai;have bb:=w6 E.box.aQ;have aj:=λx=>APD (m:=m) (x:=x)
 have bD:(m.files.map (·.name)).length<=8000000000000:=by simpa using a6
 generalize m.files.map (·.name)=d at*
 have bc:=E.on S;have bF:=S.size;have v1:=ai.view;refine Loop.rule (λaF x u=> ∃(i:Nat) (H:Nat->Prop) (v:Nat->Nat) (l:Bx) (next:Nat),x=((i:Int),())/\aF=d.length-i/\i<=d.length/\bJ g u {q with Sb:=H} v {st with next:=next} l/\JA m l/\BH (ff l) D/\(∀ e,(∀ b,e≠aU b)->ff l e=ff m e)/\(∀ e,e∉d.take i->ff l e=ff m e)/\
   (∀ b,aU b∈d.take i->b∉st.ts.map (·.1)->ff l (aU b)=none)/\(∀ b,ff l (aU b)≠none->ff m (aU b)≠none)/\st.next<=next/\next<=N/\bg l.files<=bg m.files/\Mod (λc=>k c≠0) r u/\Grow k v r.size) ?_
  ⟨0,q.Sb,k,m,st.next,rfl,rfl,As _,bc,JA.refl hd,aC,λ_ _=>rfl,λ_ _=>rfl,by simp,λ_ h=>h,A0 _,a5,A0 _,Mod.refl,Grow.refl⟩
 rintro K aF _ u ⟨i,H,v,l,next,rfl,rfl,bG,I,J,T,U,aY,V,sub,aG,aH,W,L,M⟩ aI;dsimp only;have bH:=L.size;have aJ: ∀c,v c≠0->k c≠0\/h.size<=c:=λc f=>by
  by_cases ak:c<r.size
  ·rw[M c ak] at f;exact .inl f
  ·exact .inr (by omega)
 have bd: ∀c,af.af=some c->k c=0:=λc f=>Decidable.byContradiction λh=>by
  have:=(E.own c h).2;have:=a9 c f;omega
 have be:View IB u af d:=v1.mod L λc f al=>al (bd c f)
 rw[v1.len];refine ae.intro (λam=>?_) (λam=>?_)
 ·have B:i<d.length:=by have:=of_decide_eq_true am;omega
  have ag:d[i]? =some d[i]:=A2 B;have aK:d[i]∈d:=AW B;have X:d.take (i+1)=d.take i++ [d[i]]:=by rw[AD,ag];rfl
  have bf:d[i]∉d.take i:=λt=>by
   obtain⟨j,bh,o⟩:=DA t;have bI:j<i:=by have:=bh;simp at this;omega
   rw[List.getElem_take] at o;have:=(LI (h₀:=by omega) (h₁:=B) bb).1 o;omega
  rw[Aa (by omega)];refine ah.mk λbi aL=>?_
  rw[<- v1.len];refine be.idx ag λa _ c=>AJ.mk c.str ?_
  have skip: ∀O Y,bJ g O {q with Sb:=H} Y {st with next:=next} l->Mod (λc=>k c≠0) r O->Grow k Y r.size->(∀ b,d[i]=aU b->b∈st.ts.map (·.1))->bi () O:=λO Y Z an bj ao=>aL _ _ (by
   refine aI (d.length-(i+1)) _ _ (by omega) ⟨i+1,H,Y,l,next,rfl,rfl,B,Z,J,T,U,λe w=>aY e λt=>w (by rw[X];exact List.mem_append.2 (.inl t)),λb y aa=>?_,sub,aG,aH,W,an,bj⟩;rw[X] at y;rcases List.mem_append.1 y with y|y
   ·exact V b y aa
   ·exact absurd (ao b (List.mem_singleton.1 y).symm) aa)
  refine ah.mk λbk aM=>?_
  have aN:(∀ b,d[i]≠aU b)->bk (true,()) u:=λao=>aM _ _ (ae.yes rfl (skip u v I L M λb o=>absurd o (ao b)))
  have bm: ∀b,2<=(aU b).size:=λb=>by
   have r:=BA (aU b);rw[Vi] at r;have ap:=Lib.nDigits_pos b;have F:=Lib.decDigits_length b;rw[A5] at r;omega
  refine ae.intro (λaq=>?_) (λaq=>?_)
  ·have ap:=of_decide_eq_true aq;exact aN λb o=>by have:=bm b;rw[<- o] at this;omega
  ·have ap:2<=d[i].size:=by have:=of_decide_eq_false aq;omega
   refine⟨⟨GS _,by omega⟩,?_⟩;cases ar:(dw d[i] 0 != (116:Int)) with
   |true=>
    refine aN λb o=>?_
    have:dw d[i] 0=116:=by
     rw[o];have:=Oh (s:=aU b) (i:=0) (c:=116) (by
      have F:=Vi b;show(bl (aU b))[0]? =_;rw[F];rfl)
     exact this
    rw[this] at ar;cases ar
   |false=>
    obtain⟨b,z⟩:=aC.dt d[i] ((aj _).2 aK) (ANp ar ap);have aO:ff m (aU b)≠none:=by rw[<- z];exact(aj _).2 aK
    have bK:=a4 b aO;refine aM _ _ (ae.no rfl ⟨⟨by omega,by omega⟩,?_⟩);have bn:d[i].extract ((1:Int).toNat) d[i].size=AX (Lib.decDigits b):=by rw[show(1:Int).toNat=1 from rfl,qt,z];have:(aU b).data.toList=116::Lib.decDigits b:=Vi b;rw[this];rfl
    rw[bn];refine AOs (by omega) λO au=>⟨_,_,rfl,?_⟩
    have Z:=I.on au;have an:=L.trans (Ext.mod au);refine ah.mk λbL aP=>⟨trivial,ae.yes rfl ?_⟩
    refine Pg (Z.gV a2) (by omega) λaQ av=>⟨_,rfl,?_⟩
    have G:=Z.on av;have aR:=an.trans (Ext.mod av);have bo:bS (aU b) d[i]=true:=by rw[z,Cb];exact decide_eq_true rfl
    rw[bo];refine ae.yes rfl (aD (AY.mk (s:=q.np) (AB G.cell rfl) ?_));refine AHD G.names.view (by simp[eo];omega) ⟨_,rfl,?_⟩;have aS:((b:Int)∈eo ({st with next:=next}:Db))↔b∈st.ts.map (·.1):=by
     simp only[eo,List.mem_map];constructor
     ·rintro⟨p,aw,o⟩;exact⟨p,aw,by omega⟩
     ·rintro⟨p,aw,o⟩;exact⟨p,aw,by omega⟩
    by_cases t:b∈st.ts.map (·.1)
    ·rw[decide_eq_true (aS.2 t)];exact aP _ _ (ae.no rfl (skip aQ v G aR M λac o=>by rw[z] at o;rw[<- JB o];exact t))
    rw[decide_eq_false λh=>t (aS.1 h)];refine aP _ _ (ae.yes rfl ?_);refine aD (AZ.mk (AL G.cell rfl) ?_);have bp:(ff l (aU b)).isSome=true:=by
     rw[aY (aU b) (by rw[<- z];exact bf)];cases bq:ff m (aU b) with
     |none=>exact absurd bq aO
     |some p=>rfl
    rw[z];refine Vh G.box λaT ax ay aV aW=>⟨_,rfl,?_⟩
    have aX:Mod (λc=>k c≠0) r aT:=aR.then (aV.ai λc _ f=>by
     have aZ:v c≠0:=by rw[I.kb c f];decide
     by_cases ak:c<r.size
     ·rw[M c ak] at aZ;exact .inl aZ
     ·exact .inr (by omega))
    have bM:=(au.trans av).size;rcases QN (k:=aU b) J.up bp with⟨br,az⟩|⟨az,bs,Q⟩
    ·rw[az] at ay ⊢;refine ae.yes rfl ?_;refine a7 (λu=>by have:=J.calm u;rw[br] at this;cases this) aT ax (MR l) ay rfl ((Ext.mod S).trans aX) (λc f=>?_) T U sub W;exact aJ c (by
      have:=I.kb c (aW c f);rw[this];decide)
    ·rw[az];refine ae.no rfl ?_;have aA:=G.boxed (j:=2) (bE:= {st with next:=next}) ay (aV.ai λc _ f=> .inl f) (λc f=> .inl (aW c f)) rfl rfl rfl rfl (.inl ⟨by decide,rfl,rfl⟩) (.inl ⟨by decide,rfl⟩);refine aD (AC.mk (AB aA.cell rfl) ?_);have bt:J8 J9 ((b:Int)+(1:Int))=((b+1:Nat):Int):=Aa (by omega);rw[bt];have bu:(if(((b+1:Nat):Int):Int)>((next:Nat):Int) then((b+1:Nat):Int) else((next:Nat):Int))=((max (b+1) next:Nat):Int):=by split<;>omega
     refine aD (ab.dk aA.cell (by simp) λbv a0 a1 bN=>?_);rw[bu] at a0;have bw:=aA.jj (h':=bv) (next:=max (b+1) next) (by simpa [eg] using a0) a1;have bx:Grow k (Km v aQ.size ax 2) r.size:=λc f=>by rw[Fq (by omega)];exact M c f
     have bz:=YU (m:=l) (aU b);refine aL _ _ ?_;refine aI (d.length-(i+1)) _ _ (by omega) ⟨i+1,ax,_,_,max (b+1) next,rfl,rfl,B,bw,J.trans bs,?_,λe w=>?_,λe w=>?_,λac C aa=>?_,λac C=>?_,by omega,by omega,AF bz W,?_,bx⟩
     ·refine T.fR λx bA=>?_
      rw[Q,if_neg (bA b (by rw[a3];exact t))]
     ·rw[Q,if_neg (w b)];exact U e w
     ·rw[X] at w;simp only[Ek,Sf,not_or] at w;rw[Q,if_neg (by rw[<- z];exact w.2)];exact aY e w.1
     ·rw[Q];split
      ·rfl
      ·rename_i al;rw[X] at C;rcases List.mem_append.1 C with F|F
       ·exact V ac F aa
       ·exact absurd ((List.mem_singleton.1 F).trans z) al
     ·rw[Q] at C;split at C
      ·exact absurd rfl C
      ·exact sub ac C
     ·refine aX.trans (a1.ai λc _ f=>?_);have:c=q.d:=f;rw[this,E.kd];decide
 ·have B:i=d.length:=by have:=of_decide_eq_false am;omega
  subst B;rw[BW] at aY V;refine a8 u H v l next I J T U (λb y=>?_) aG aH W ((Ext.mod S).trans L) aJ
  by_cases t:b∈st.ts.map (·.1)
  ·exact t
  ·exact absurd (V b ((aj _).1 (sub b y)) t) y
end
theorem AMK {f:Type}{c:Nat->List f}{l:List Nat}{d:Nat}(g:l.Pairwise (· < ·))(h: ∀a∈l,a<d)(i: ∀a,a<d->a∉l->c a= []):(List.range d).flatMap c=l.flatMap c:=by
 have j:l=(List.range d).filter λa=>decide (a∈l):=by
  refine u6 g (List.pairwise_lt_range.sublist Hc) λa=>?_
  simp only[List.mem_filter,Hb,decide_eq_true_eq];exact⟨λb=>⟨h a b,b⟩,λb=>b.2⟩
 have key: ∀L:List Nat,(∀ a∈L,a<d)->L.flatMap c=(L.filter λa=>decide (a∈l)).flatMap c:=by
  intro L
  induction L with
  |nil=>intro _;rfl
  |cons a L k=>
   intro e;rw[AH,B9,k λm n=>e m (An _ n)];by_cases b:a∈l
   ·rw[if_pos (by simpa using b),AH]
   ·rw[if_neg (by simpa using b),i a (e a (by simp)) b,Ds]
 rw[key _ λa o=>List.mem_range.1 o,<-j]
theorem ANB {l:List Nat}(e:l.Pairwise (· < ·)){a:Nat}(d:a∈l):a<=l.getLast?.getD 0:=by
 cases b:l.getLast? with
 |none=>
  rw[List.getLast?_eq_none_iff] at b;subst b;cases d
 |some x=>
  show a<=x;obtain⟨f,rfl⟩:=List.getLast?_eq_some_iff.1 b;rcases List.mem_append.1 d with c|c
  ·exact Nat.le_of_lt ((List.pairwise_append.1 e).2.2 a c x (by simp))
  ·rw[List.mem_singleton.1 c];exact A0 _
theorem Wd {m:Bx}{b:A2O}{e:Nat}{g:Nat->List (List UInt8)}{l:List Nat}(hd:m.down=false)(n:gj (ff m) b e g)(j:lH b m l)(y:1<=e/\e<=99999999):
  Ra b m l=((List.range e).flatMap g).map AX/\l.getLast?.getD 0+1<=e/\(∀ a,l.getLast?.getD 0+1<=a->a<=99999999->ff m (aC b a)=none):=by
 have o: ∀a,1<=a->a<=99999999->(a∈l↔ff m (aC b a)≠none):=λa h c=>by
  rw[j.mem,UA];constructor
  ·rintro⟨_,_,d⟩ r;rw[r] at d;cases d
  ·intro d;refine⟨h,c,?_⟩;cases i:ff m (aC b a) with
   |none=>exact absurd i d
   |some p=>rfl
 have q: ∀a∈l,a<e:=λa f=>by
  obtain⟨h,c,_⟩:=(j.mem a).1 f;have k:=(o a h c).1 f;exact Decidable.byContradiction λd=>k (n.out a (by omega) c)
 have k:Ra b m l=l.flatMap λa=>(g a).map AX:=AOy hd λa f=>by
  obtain⟨h,c,_⟩:=(j.mem a).1 f;have k:=(o a h c).1 f;cases i:ff m (aC b a) with
  |none=>exact absurd i k
  |some p=>
   obtain⟨s,t⟩:=n.has a p h c i;refine⟨p,rfl,?_⟩;rw[s,XN,AT];have:(g a).map (bl∘AX)=g a:=by
    conv=>rhs;rw[<- Kx (g a)]
    exact CM λx _=>EE x
   rw[this];exact t
 refine⟨?_,?_,λa f c=>?_⟩
 ·rw[k,Lq];refine(AMK j.inc q λa f u=>?_).symm;by_cases v:a=0
  ·rw[n.kD a (.inl v)];rfl
  ·have i:ff m (aC b a)=none:=Decidable.byContradiction λd=>u ((o a (by omega) (by omega)).2 d)
   rw[n.ia a (by omega) (by omega) i];rfl
 ·cases w:l.getLast? with
  |none=>show 0+1<=e;omega
  |some x=>
   have:=q x (T4 w);show x+1<=e;omega
 ·exact Decidable.byContradiction λd=>by
   have:=ANB j.inc ((o a (by omega) c).2 d);omega
open Classical in
noncomputable def kM (Sb:Nat->Prop) (a nt ft b d:Nat) (tp np:Sl) (e T:Nat->Prop):Nat->Nat:=λc=>
 if Sb c then 2 else if c<a then 0 else if c=nt then 4 else if c=ft then 5 else if c=b then 1 else if c=d then 3 else if tp.af=some c then 6 else if np.af=some c then 7 else if e c then 5 else if T c then 8 else 0
theorem wW {Sb:Nat->Prop}{d nt ft e f:Nat}{tp np:Sl}{g T:Nat->Prop}{c:Nat}(h:kM Sb d nt ft e f tp np g T c≠0):Sb c\/(d<=c/\(c=nt\/c=ft\/c=e\/c=f\/tp.af=some c\/np.af=some c\/g c\/T c)):=by
 by_cases a:Sb c
 ·exact .inl a
 by_cases b:c<d
 ·exact absurd (by unfold kM;rw[if_neg a,if_pos b]) h
 refine .inr ⟨by omega,Classical.byContradiction λi=>h ?_⟩;simp only[not_or] at i;obtain⟨j,k,l,m,n,o,p,q⟩:=i;unfold kM;rw[if_neg a,if_neg b,if_neg j,if_neg k,if_neg l,if_neg m,if_neg n,if_neg o,if_neg p,if_neg q]
theorem bJ.make {g h:aa}{q:Hp}{st:Db}{m:Bx}{N0 NB NC ND:Nat}(cell:h[q.d]? =some (J2 (eg q st false) El (0,0)))(n:Cm h q.b q.Sb m)(o:EA h q.lg q.b nl st.au st.bo)(r:EA h q.nt q.b nn st.aJ false)(fresh:M.cT h q.ft q.ns st.fr)
  (s:Own fI BI h q.tp q.ps) (y:q.ps.length=st.ts.length) (names:Own Ho BQ h q.np (eo st)) (ext:Ext g h) (J:g.size<=N0) (u: ∀c,q.Sb c->g.size<=c/\c<N0)
  (K:N0<=q.nt) (L:q.nt<q.ft) (N:q.ft<q.d) (O:q.d<NB) (P:NB<=NC) (Q:NC<=q.lg) (R:q.lg<ND) (k: ∀c,q.np.af=some c->q.d<c/\c<NB) (l: ∀c,q.tp.af=some c->NB<=c/\c<NC) (v: ∀c,M.cP q.ft q.ns c->c=q.ft\/ND<=c)
  (z: ∀(i:Nat) (t:Nat) (p:Nat×List Pr),q.ps[i]? =some t->st.ts[i]? =some p-> ∃e f,bR h t p.2 (ME p.2) e f/\NB<=e/\f<=NC/\(∀ c,q.tp.af=some c-> ¬(e<=c/\c<f))/\Gg p.2) (S:NC<=h.size):
  ∃w,bJ g h q w st m/\ ∀c,w c≠0->q.Sb c\/N0<=c:=by
 let T:Nat->Prop:=λc=>(NB<=c/\c<NC)/\q.tp.af≠some c
 have d: ∀c,N0<=c-> ¬q.Sb c:=λc b j=>by have:=(u c j).2;omega
 refine⟨kM q.Sb N0 q.nt q.ft q.d q.lg q.tp q.np (M.cP q.ft q.ns) T,⟨cell,n,o,r,fresh,s,y,λi t p A B=>?_,names,?_,λc b=>?_,?_,?_,λc b=>?_,λc b=>?_,λc b=>?_,λc b=>?_,ext⟩,λc b=>?_⟩
 ·obtain⟨e,f,C,U,V,D,E⟩:=z i t p A B;refine⟨e,f,C,by omega,λc F G=>?_,E⟩;have x:T c:=⟨⟨by omega,by omega⟩,λa=>D c a ⟨F,G⟩⟩;have H: ¬M.cP q.ft q.ns c:=λI=>by rcases v c I with h|h<;>omega
  unfold kM;rw[if_neg (d c (by omega)),if_neg (by omega),if_neg (by omega),if_neg (by omega),if_neg (by omega),if_neg (by omega),if_neg x.2,if_neg (λa=>by have:=k c a;omega),if_neg H,if_pos x]
 ·unfold kM;rw[if_neg (d _ (by omega)),if_neg (by omega),if_neg (by omega),if_neg (by omega),if_pos rfl]
 ·unfold kM;rw[if_pos b]
 ·unfold kM;rw[if_neg (d _ (by omega)),if_neg (by omega),if_neg (by omega),if_neg (by omega),if_neg (by omega),if_pos rfl]
 ·unfold kM;rw[if_neg (d _ (by omega)),if_neg (by omega),if_pos rfl]
 ·unfold kM;rcases v c b with rfl|h
  ·rw[if_neg (d _ (by omega)),if_neg (by omega),if_neg (by omega),if_pos rfl]
  ·rw[if_neg (d c (by omega)),if_neg (by omega),if_neg (by omega),if_neg (by omega),if_neg (by omega),if_neg (by omega),if_neg (λa=>by have:=l c a;omega),if_neg (λa=>by have:=k c a;omega),if_pos b]
 ·have:=l c b;unfold kM;rw[if_neg (d c (by omega)),if_neg (by omega),if_neg (by omega),if_neg (by omega),if_neg (by omega),if_neg (by omega),if_pos b]
 ·have:=k c b;unfold kM;rw[if_neg (d c (by omega)),if_neg (by omega),if_neg (by omega),if_neg (by omega),if_neg (by omega),if_neg (by omega),if_neg (λa=>by have:=l c a;omega),if_pos b]
 ·rcases wW b with j|⟨W,a|a|a|a|a|a|a|a⟩
  ·exact⟨(u c j).1,n.lt j⟩
  ·exact⟨by omega,by rw[a];exact Af r⟩
  ·exact⟨by omega,by rw[a];exact fresh.lt (.inl rfl)⟩
  ·exact⟨by omega,by rw[a];exact Af cell⟩
  ·exact⟨by omega,by rw[a];exact Af o⟩
  ·exact⟨by omega,s.lt a⟩
  ·exact⟨by omega,names.lt a⟩
  ·exact⟨by omega,fresh.lt a⟩
  ·exact⟨by omega,by have:=a.1.2;omega⟩
 ·exact(wW b).imp id λh=>h.1
def Ji(D:Bn):List (Nat×List Pr):=(List.range D.aO).flatMap λa=>(D.L a).map λb=>(a,b)
def OT(f:Nat)(l:List (Nat×List Pr)):List (List Pr):=(l.filter λp=>decide (f<=p.1)).map (·.2)
theorem Xh(f:Nat)(a b:List (Nat×List Pr)):OT f (a++b)=OT f a++OT f b:=by simp[OT]
theorem wX(D:Bn):OT (Ai D).aT (Ji D)=Hw D:=by
 unfold Ji Hw;have key: ∀L:List Nat,OT (Ai D).aT (L.flatMap λa=>(D.L a).map λb=>(a,b))=L.flatMap λa=>if a<(Ai D).aT then [] else D.L a:=by
  intro L
  induction L with
  |nil=>rfl
  |cons a L d=>
   rw[AH,AH,Xh,d];congr 1;unfold OT;rw[P4];split
   ·rename_i h;have:(λb:List Pr=>decide ((Ai D).aT<=((a,b):Nat×List Pr).1))=λ_=>false:=by funext b;simp;omega
    simp[G0];omega
   ·rename_i h;simp[G0];intro b _;omega
 exact key _
theorem APy {d:bQ}{D:Bn}(h:BH d D): ∀p∈Ji D,p.1<=99999999/\XJ p.2:=λp e=>by
 obtain⟨a,f,i⟩:=List.mem_flatMap.1 e;obtain⟨b,j,rfl⟩:=List.mem_map.1 i;have:=List.mem_range.1 f;have:=h.cw;exact⟨by show a<=_;omega,h.gf a b j⟩
theorem AL5(D:Bn):((List.range D.aO).flatMap λa=>(D.L a).map (BN a)).map AX=(Ji D).map λp=>AX (BN p.1 p.2):=by
 unfold Ji;rw[Lq,Lq];unfold List.flatMap;congr 1;refine CM λa _=>?_
 rw[AT,AT];rfl
theorem APe {f:Nat}{l:List (Nat×List Pr)}(i:Nat):(OT f (l.take i)).flatten.length<=(OT f l).flatten.length:=by
 conv=>rhs;rw[<- DM i l,Xh,N6,A1]
 omega
theorem AIy(D:Bn):((List.range D.aV).flatMap λa=>(D.N a).map Dn).map AX=(MX D).map λx=>AX (Dn x):=by unfold MX;rw[Lq,Lq];unfold List.flatMap;congr 1;exact CM λa _=>by rw[AT];rfl
theorem View.modn {e:Type}{d:cy e}{h f:aa}{s:Sl}{l:List e}{j:Nat->Prop}(v:View d h s l)(m:Mod j h f)(o: ∀c,s.af=some c->c<h.size-> ¬j c):View d f s l:=by refine⟨v.len,v.cap,λi x p=>?_⟩;obtain⟨a,k,n⟩:=v.cells i x p;refine⟨a,k,n.mod m ?_⟩;have r:=d.pos;have t:=d.len x;obtain⟨u,q⟩: ∃u,(d.enc x)[0]? =some u:=⟨_,A2 (by omega)⟩;have:=Tt (n 0 u q);rw[aM,aM] at this;rw[aM];exact o _ (by simp[Sl.af,k]) this
section
variable {A : al} {B : cI} {g h : aa} {b : Nat} {Sb : Nat -> Prop} {m : Bx} {D : Bn} {aI c : Nat} {R : A2N}
theorem AMM(E:cm g)(aH:Cm h b Sb m)(Q:Ext g h)(b9: ∀c,Sb c->g.size<=c)(hd:m.down=false)(ac:BH (ff m) D)(C:iU (ff m) D aI c)(d:c<=B.C)(hA:aI+1<=B.A)(bp:bg m.files<=B.W0+aI*B.K)
  (di:m.fuel≠ -1-> ∀ai dj S' aj,Cm ai b S' aj->aj.down=true->Mod Sb h ai->(∀ c,S' c->Sb c\/h.size<=c)->jF (ff aj) (aI+1) c (ct D)->(∀ w,¬da w->ff aj w=ff m w)->bg aj.files<=B.W0+(aI+1)*B.K->R (J1 #[Ay dj,J6 J9 30]) ai)
  (dk: ∀ai bq ca cb aj dl,bq.b=b->Br B g ai bq ca cb aj dl (aI+1) c->JA m aj->CZ cb=ct D->(∀ w,¬da w->ff aj w=ff m w)->Mod Sb h ai->(∀ c,ca c≠0->Sb c\/h.size<=c)->R (J1 #[Ay bq.d,J6 J9 0]) ai):
  AA A P Q3 #[Ay b] h R:=by
 have fa:=B.hA;have fb:=B.hC;have cc:=AF bp (B.wt (a:=aI) (by omega));have ay:=ac.cw;have S:=wO ac;have fc:=C.aO;have fd:=C.aV;have fe:=C.aT;have dm:=C.next;have fg:=C.cn;have al: ∀c,Sb c->c<h.size:=λc d=>aH.lt d
 refine AHA ?_;unfold sZ;refine wc (E.ext Q) aH hd (by decide) (by decide) cc (λai l aW dn _=>?_) λj l nt sl aW dn cd ce cf v1 fh=>⟨_,_,_,rfl,ae.no rfl ?_⟩
 ·obtain⟨_,dp,_⟩:=Wd hd ac.note aW ay.2.2;omega
 obtain⟨cg,dp,dq⟩:=Wd hd ac.note aW ay.2.2;rw[AIy] at cg;have br:=qF (nm:=nn) (m:=m) hd aW.inc;rw[cg] at v1 br;have dr:1<=l.getLast?.getD 0+1:=by omega
 generalize l.getLast?.getD 0+1=aJ at*
 refine M.ru λo ds bs fi=>⟨_,rfl,ak.mk λI _ ch aX fj=>?_⟩
 have ci:=cd.trans bs;have cj:=ci.trans aX;have dt:nt<j.size:=Af cf;have ck:EA I nt b nn aJ false:=EA.ext (EA.ext cf bs) aX;have cl:M.cT I j.size [] []:=ds.ext aX;have cn:=(v1.ext bs).ext aX;have fk:=cd.size;refine ah.mk λK du=>?_
 have bt: ∀(hB:aa) (np:Sl),Ext h hB->hB[o.size]? =some (J2 #[Ay b,J5 none,Ay nt,Ay j.size,J4 none 0 0,J4 np.p np.len np.cap,J6 J9 ((Ai D).next:Int),J6 J9 ((Ai D).aT:Int),J3 false] El (0,0))->
   Own Ho BQ hB np ((Ai D).names.map λn:Nat=>(n:Int))->(∀ c,np.af=some c->o.size<c)->EA hB nt b nn aJ false->M.cT hB j.size [] []->K () hB:=by
  intro hB np aZ aK aq ad dv dw;refine du _ _ ?_;have fl:=aZ.size;have fm:=E.ext (Q.trans aZ);have dx:o.size<hB.size:=Af aK;have fn:h.size<=o.size:=ci.size;refine AY.mk (s:=np) (AB aK rfl) ?_;have co:np.len=(Ai D).names.length:=by rw[aq.len];simp
  refine Loop.rule (λF x k=> ∃(i:Nat) (tp:Sl) (ps:List Nat),x=((i:Int),())/\F=(Ai D).names.length-i/\i<=(Ai D).names.length/\Mod (λc=>c=o.size\/hB.size<=c) hB k/\
    k[o.size]? =some (J2 #[Ay b,J5 none,Ay nt,Ay j.size,J4 tp.p tp.len tp.cap,J4 np.p np.len np.cap,J6 J9 ((Ai D).next:Int),J6 J9 ((Ai D).aT:Int),J3 false] El (0,0))/\
    Own fI BI k tp ps/\ps.length=i/\(∀ c,tp.af=some c->hB.size<=c)/\ ∀(r t n:Nat),ps[r]? =some t->(Ai D).names[r]? =some n-> ∃T U,bR k t (D.T n) (ME (D.T n)) T U/\hB.size<=T/\U<=k.size/\ ∀c,tp.af=some c-> ¬(T<=c/\c<U)) ?_
   ⟨0,⟨none,0,0⟩,[],rfl,rfl,As _,Mod.refl,aK,Own.nil,rfl,λc d=>by simp[Sl.af] at d,λr t n e=>by simp at e⟩
  rintro fo F _ k ⟨i,tp,ps,rfl,rfl,U,J,ar,ap,bu,au,cp⟩ cq;dsimp only;have cr:=J.size;have V:Ext h k:=aZ.then (J.ai λc _ d=>by omega);have dy:View Ho k np ((Ai D).names.map λn:Nat=>(n:Int)):=aq.view.mod J λc d e=>by
   have:=ad c d;have:=aq.lt d;omega
  rw[co];refine ae.intro (λu=>?_) (λu=>?_)
  ·have v:i<(Ai D).names.length:=by have:=of_decide_eq_true u;omega
   have ag:(Ai D).names[i]? =some (Ai D).names[i]:=A2 v;have cs:(Ai D).names[i]∈(Ai D).names:=AW v;have fp:=S.below _ cs;have fq:=S.next;have fr:=S.cn;obtain⟨dz,dA⟩:=ac.cL _ cs;rw[<- co];refine dy.idx (i:=i) (x:=((Ai D).names[i]:Int)) (by rw[Bs,ag];rfl) λa _ av=>AC.mk av.int ?_
   generalize (Ai D).names[i]=nm at*
   refine Pg (E.ext (Q.trans V)) (by omega) λa0 bv=>⟨_,rfl,?_⟩
   refine oD (aH.ext (V.trans bv)) ⟨_,_,rfl,?_⟩;rw[qe hd,dz];dsimp only;rw[XN];refine ae.no rfl ?_;refine wF dA.eG λa1 t cu dB=>⟨_,_,rfl,ae.no rfl ?_⟩
   have a2:=bv.trans cu;have cv:=Ah a2 ar;refine AY.mk (s:=tp) (AB cv rfl) ?_;have fs:=bv.size;have ft:=cu.size;refine ak.aZ (E:=fI) (x:=t) (s:=tp) (l:=ps) rfl tL (ap.ext a2) (by omega) (by simp[maxLen];omega) λaL fu dC aM bw _=>?_
   have dD:=aM.af cv (λe=>by have:=au _ e;omega);refine ab.dk dD (by simp) λfv dE a3 fw=>?_
   rw[Aa (by omega)];have cw: ∀c,aL.af=some c->hB.size<=c:=λc d=>by
    rcases bw c d with h|h
    ·exact au c h
    ·omega
   have fx:=aM.size;refine cq ((Ai D).names.length-(i+1)) _ _ (by omega) ⟨i+1,aL,ps++ [t],rfl,rfl,v,?_,by simpa using dE,dC.mod a3 (λc d e=>by have:=cw c d;omega),by simp[bu],cw,λr t' n af W=>?_⟩
   ·exact(J.trans (Ext.mod a2)).trans ((aM.ai λc _ d=> .inr (au c d)).trans (a3.ai λc _ d=> .inl d))
   ·by_cases cx:r<ps.length
    ·rw[E0 cx] at af;obtain⟨T,bx,bz,bA,cy,a4⟩:=cp r t' n af W;refine⟨T,bx,((bz.ext a2).mod aM λc am an d=>a4 c d ⟨am,an⟩).mod a3 (λc am an d=>by omega),bA,by omega,λc d cz=>?_⟩;rcases bw c d with h|h
     ·exact a4 c h cz
     ·omega
    ·have dF:r=ps.length:=by have:=(List.getElem?_eq_some_iff.1 af).1;simp at this;omega
     subst dF;rw[DB (A0 _)] at af;simp at af;subst af;rw[bu,ag] at W;cases W;refine⟨a0.size,a1.size,(dB.mod aM λc am an d=>by have:=ap.lt d;omega).mod a3 (λc am an d=>by omega),by omega,by omega,λc d cz=>?_⟩;rcases bw c d with h|h
     ·have:=ap.lt h;omega
     ·omega
  have v:i=(Ai D).names.length:=by have:=of_decide_eq_false u;omega
  clear cq U u;have dG:EA k nt b nn aJ false:=dv.mod J (by omega);have dH:M.cT k j.size [] []:=dw.mod J λc d e=>by
   rcases d with rfl|⟨w,y,_⟩
   ·omega
   ·cases y
  refine wc (E.ext (Q.trans V)) (aH.ext V) hd (by decide) (by decide) cc (λai bB a5 dI _=>?_) λdJ bB X bC a5 dI az dK cB cC bD=>⟨_,_,_,rfl,ae.no rfl ?_⟩
  ·obtain⟨_,dL,_⟩:=Wd hd ac.log a5 ⟨ay.1,ay.2.1⟩;omega
  obtain⟨cD,dL,dM⟩:=Wd hd ac.log a5 ⟨ay.1,ay.2.1⟩;rw[AL5] at cD;have cE:=qF (nm:=nl) (m:=m) hd a5.inc;rw[cD] at cC cE;have fy:1<=bB.getLast?.getD 0+1:=by omega
  generalize bB.getLast?.getD 0+1=a6 at*
  have dN:=Ah az ar;have fz:X<dJ.size:=Af cB;refine ab.dk dN (by simp) λaN dO aw fA=>?_
  have fB:=az.size;have fC:o.size<k.size:=Af ar;have dP:EA aN X b nl a6 false:=EA.mod cB aw (by omega);have dQ:Cm aN b Sb m:=((aH.ext V).ext az).mod aw λc d e=>by have:=al c d;omega
  have dR: ¬Sb X:=λd=>by have:=al _ d;have:=V.size;omega
  have a7:Ext h aN:=(V.trans az).then (aw.ai λc _ d=> .inr (by omega));have fE:=aw.size;refine Loop.rule (λF (_:Unit) Q=> ∃s:Nat,F=(Ai D).aT-s/\EA Q X b nl s false/\Cm Q b Sb m/\Mod (λc=>Sb c\/c=X) aN Q/\a6<=s/\(s=a6\/s<=(Ai D).aT)) ?_ ⟨a6,rfl,dP,dQ,Mod.refl,A0 _,.inl rfl⟩;rintro fF F _ H ⟨s,rfl,bE,cF,Y,fG,fH⟩ cG;have fJ:=S.aT;have aA:=Y.af dO (by rintro(h|h);have:=al _ h;omega;omega);have cH:Ext g H:=(Q.trans a7).then (Y.ai λc _ d=>by
   rcases d with d|rfl
   ·exact .inr (b9 c d)
   ·exact .inr (by have:=Q.size;have:=V.size;omega))
  have dS:cm H:=E.ext cH;refine AZ.mk (AB aA rfl) ?_;refine Ng ?_;unfold Kg;refine ae.no rfl (aD (AC.mk (AB bE rfl) ⟨_,rfl,?_⟩));refine AC.mk (AB aA rfl) ⟨AB aA rfl,?_⟩;refine ae.intro (λbF=>?_) (λbF=>?_)
  ·have bG:=of_decide_eq_true bF;refine AZ.mk (AB aA rfl) ?_;refine VW dS bE cF dR (by decide) (by omega) (λbH=>absurd rfl bH) λ_ fK dT dU dV=>⟨_,_,rfl,ae.no rfl ?_⟩
   exact cG ((Ai D).aT-(s+1)) _ _ (by omega) ⟨s+1,rfl,dU,dT,Y.trans dV,by omega,.inr (by omega)⟩
  have dW:(Ai D).aT<=s:=by have:=of_decide_eq_false bF;omega
  clear cG;have fL:=Y.size;have cI:View IB H bC ((Ji D).map λp=>AX (BN p.1 p.2)):=(cC.mod aw λc d e=>by have:=(bD c d).1;omega).mod Y λc d e=>by
   have j:=bD c d;rcases e with e|e
   ·have:=al c e;have:=V.size;omega
   ·exact j.2 e
  have dX: ∀c,bC.af=some c->k.size<=c:=λc d=>(bD c d).1
  have dY:M.cT H j.size [] []:=((dH.ext az).mod aw λc d e=>by
   rcases d with rfl|⟨w,y,_⟩
   ·omega
   ·cases y).mod Y λc d e=>by
   rcases d with rfl|⟨w,y,_⟩
   ·rcases e with e|e
    ·have:=al _ e;omega
    ·have:=V.size;omega
   ·cases y
  have cJ:bC.len=(Ji D).length:=by rw[cI.len];simp
  have dZ:=APy ac;have d0:=C.bV;have fM:(OT (Ai D).aT (Ji D)).flatten.length<=c:=by rw[wX];have:NH D=_:=rfl;unfold NH at d0;omega
  refine Loop.rule (λF aO y=> ∃(i:Nat) (ns:List M.DD),aO=((i:Int),())/\F=(Ji D).length-i/\i<=(Ji D).length/\Mod (λc=>c=j.size\/H.size<=c) H y/\M.cT y j.size ns (BG [] (OT (Ai D).aT ((Ji D).take i)).flatten)/\ ∀c,M.cP j.size ns c->c=j.size\/H.size<=c) ?_
   ⟨0,[],rfl,rfl,As _,Mod.refl,dY,λc d=>by
    rcases d with rfl|⟨w,y,_⟩
    ·exact .inl rfl
    ·cases y⟩
  rintro fO F _ ao ⟨i,ns,rfl,rfl,U,L,aP,bI⟩ bK;dsimp only;have fP:=L.size;have d1:=View.modn cI L λc d bG e=>by have:=dX c d;omega
  have cK:=L.af aA (by omega);rw[cJ];refine ae.intro (λu=>?_) (λu=>?_)
  ·have v:i<(Ji D).length:=by have:=of_decide_eq_true u;omega
   have ag:(Ji D)[i]? =some (Ji D)[i]:=A2 v;obtain⟨cL,a8⟩:=dZ _ (AW v);have cM:(Ji D).take (i+1)=(Ji D).take i++ [(Ji D)[i]]:=by rw[AD,ag];rfl
   have d2:=APe (f:=(Ai D).aT) (l:=Ji D) (i+1);refine ah.mk λfQ bL=>?_
   rw[<- cJ];refine d1.idx (i:=i) (x:=AX (BN (Ji D)[i].1 (Ji D)[i].2)) (by rw[Bs,ag];rfl) λa _ av=>AJ.mk av.str ?_
   have d3:J8 J9 ((i:Int)+(1:Int))=((i+1:Nat):Int):=Aa (by rw[By] at cE;omega);rw[d3] at bL;generalize (Ji D)[i]=d4 at*
   obtain⟨bM,z⟩:=d4;dsimp only at cL a8 ⊢;refine AIi cL a8.len a8.ok λcN d5 cO aE d6=>⟨_,_,_,rfl,ae.no rfl ?_⟩
   have d7:=Ah aE cK;refine AC.mk (AB d7 rfl) ?_;refine ae.intro (λbN=>?_) (λbN=>?_)
   ·have bG:=of_decide_eq_true bN;refine bL _ _ (bK ((Ji D).length-(i+1)) _ _ (by omega) ⟨i+1,ns,rfl,rfl,v,L.trans (Ext.mod aE),?_,bI⟩);have e:OT (Ai D).aT ((Ji D).take (i+1))=OT (Ai D).aT ((Ji D).take i):=by
     rw[cM,Xh];have:OT (Ai D).aT [(bM,z)]= []:=by unfold OT;rw[B9,if_neg (by simp;omega)];rfl
     rw[this,AM]
    rw[e];exact aP.ext aE
   ·have d8:(Ai D).aT<=bM:=by have:=of_decide_eq_false bN;omega
    have e:(OT (Ai D).aT ((Ji D).take (i+1))).flatten=(OT (Ai D).aT ((Ji D).take i)).flatten++z:=by
     rw[cM,Xh];have:OT (Ai D).aT [(bM,z)]= [z]:=by unfold OT;rw[B9,if_pos (by simpa using d8)];rfl
     rw[this];simp
    rw[e,A1] at d2;have fR:=aE.size;refine Loop.rule (λF aO a9=> ∃(r:Nat) (aQ:List M.DD),aO=((r:Int),())/\F=z.length-r/\r<=z.length/\Mod (λc=>c=j.size\/H.size<=c) H a9/\M.cT a9 j.size aQ (BG (BG [] (OT (Ai D).aT ((Ji D).take i)).flatten) (z.take r))/\(∀ c,M.cP j.size aQ c->c=j.size\/H.size<=c)/\View Ba a9 cN z/\(∀ c,cN.af=some c-> ¬M.cP j.size aQ c)/\d5.size<=a9.size) ?_
     ⟨0,ns,rfl,rfl,As _,L.trans (Ext.mod aE),aP.ext aE,bI,cO.view,λc d aR=>by have:=d6 c d;have:=aP.lt aR;omega,A0 _⟩
    rintro fS F _ fT ⟨r,aQ,rfl,rfl,cx,ba,bO,bP,bb,cP,fU⟩ d9;dsimp only;have ea:=ba.af aA (by omega);have fV:=a8.len;rw[bb.len];refine ae.intro (λu=>?_) (λu=>?_)
    ·have bc:r<z.length:=by have:=of_decide_eq_true u;omega
     have cQ:z[r]? =some z[r]:=A2 bc;rw[<- bb.len];refine bb.idx cQ λa _ av=>?_
     obtain⟨cR,eb,ec⟩:=av.pair;refine AJ.mk cR (AJ.mk eb (Ab.mk ec (ak.pair λfW fX _ bQ aS fY=>?_)));have ed:=Ah aS ea;refine AZ.mk (AB ed rfl) ?_;refine AJ.mk (AL bQ rfl) (AJ.mk (AB bQ rfl) (Ab.mk (AB bQ rfl) ?_));have ee:=M.P8 (l:=(OT (Ai D).aT ((Ji D).take i)).flatten) (t:= []);have ef:=M.P8 (l:=z.take r) (t:=BG [] (OT (Ai D).aT ((Ji D).take i)).flatten);rw[AE] at ef;simp only[Ft,AI] at ee;refine M.rv (x:=z[r]) (bO.ext aS) (by omega) λeh fZ ei bS cS=>⟨_,rfl,?_⟩
     rw[Aa (by omega)];have f0:=ba.size;have f1:=aS.size;refine d9 (z.length-(r+1)) _ _ (by omega) ⟨r+1,eh,rfl,rfl,bc,(ba.trans (Ext.mod aS)).trans (bS.ai λc _ d=>bP c d),by rw[M.ry cQ];exact ei,λc d=>?_,(bb.ext aS).mod bS (λc d aR=>cP c d aR),λc d aR=>?_,by have:=bS.size;omega⟩
     ·rcases cS c d with h|h
      ·exact bP c h
      ·exact .inr (by omega)
     ·rcases cS c aR with h|h
      ·exact cP c d h
      ·have:=cO.lt d;omega
    ·have bc:r=z.length:=by have:=of_decide_eq_false u;omega
     subst bc;rw[BW] at bO;refine bL _ _ (bK ((Ji D).length-(i+1)) _ _ (by omega) ⟨i+1,aQ,rfl,rfl,v,ba,?_,bP⟩);rw[e,xu];exact bO
  have ej:i=(Ji D).length:=by have:=of_decide_eq_false u;omega
  subst ej;rw[BW,wX] at aP;clear bK;have bd:Mod (λc=>c=o.size) k aN:=(Ext.mod az).trans aw;have aY: ∀c,hB.size<=c->c<k.size-> ¬(c=o.size)/\ ¬(Sb c\/c=X)/\ ¬(c=j.size\/H.size<=c):=λc am an=>by
   refine⟨by omega,?_,by omega⟩;rintro(h|h)
   ·have:=al c h;have:=aZ.size;omega
   ·omega
  have be: ∀c,h.size<=c->c<k.size->c≠o.size->c≠j.size-> ¬(c=o.size)/\ ¬(Sb c\/c=X)/\ ¬(c=j.size\/H.size<=c):=λc am an ek f2=>by
   refine⟨ek,?_,by omega⟩;rintro(h|h)
   ·have:=al c h;omega
   ·omega
  have el:Own fI BI ao tp ps:=((ap.mod bd λc d=>(aY c (au c d) (ap.lt d)).1).mod Y λc d=>(aY c (au c d) (ap.lt d)).2.1).mod L λc d=>(aY c (au c d) (ap.lt d)).2.2
  have O: ∀c,np.af=some c->h.size<=c/\c<k.size/\c≠o.size/\c≠j.size:=λc d=>by have:=ad c d;have:=aq.lt d;omega
  have en:Own Ho BQ ao np ((Ai D).names.map λn:Nat=>(n:Int)):=(((aq.mod J λc d e=>by have:=O c d;have:=aq.lt d;omega).mod bd λc d=>(be c (O c d).1 (O c d).2.1 (O c d).2.2.1 (O c d).2.2.2).1).mod Y λc d=>(be c (O c d).1 (O c d).2.1 (O c d).2.2.1 (O c d).2.2.2).2.1).mod L λc d=>(be c (O c d).1 (O c d).2.1 (O c d).2.2.1 (O c d).2.2.2).2.2
  have bT:=be nt ce (by omega) (by omega) (by omega);have ep:EA ao nt b nn aJ false:=((dG.mod bd bT.1).mod Y bT.2.1).mod L bT.2.2;have eq:EA ao X b nl s false:=bE.mod L (by omega);have er:Cm ao b Sb m:=cF.mod L λc d=>by have:=al c d;omega
  have es:Ext g ao:=cH.then (L.ai λc _ d=> .inr (by have:=Q.size;omega));have et: ∀(i:Nat) (t:Nat) (p:Nat×List Pr),ps[i]? =some t->((Ai D).names.map λn=>(n,D.T n))[i]? =some p-> ∃T U,bR ao t p.2 (ME p.2) T U/\hB.size<=T/\U<=k.size/\(∀ c,tp.af=some c-> ¬(T<=c/\c<U))/\Gg p.2:=λcT t p af W=>by
   rw[Bs] at W;cases bf:(Ai D).names[cT]? with
   |none=>rw[bf] at W;cases W
   |some n=>
    rw[bf] at W;cases W;obtain⟨T,bx,bz,bA,cy,a4⟩:=cp cT t n af bf;refine⟨T,bx,((bz.mod bd λc am an=>(aY c (by omega) (by omega)).1).mod Y λc am an=>(aY c (by omega) (by omega)).2.1).mod L λc am an=>(aY c (by omega) (by omega)).2.2,bA,cy,a4,(ac.cL n (AK bf)).2⟩
  have cU:((Ai D).names.map λn=>(n,D.T n)).map (·.1)=(Ai D).names:=by rw[AT];exact Kx _
  obtain⟨cR,eu,bh⟩:=bJ.make (g:=g) (h:=ao) (q:=⟨o.size,b,X,nt,j.size,Sb,ns,tp,np,ps⟩) (st:=⟨ET D,(Ai D).names.map λn=>(n,D.T n),(Ai D).next,(Ai D).aT,s,aJ,false⟩) (m:=m) (N0:=h.size) (NB:=hB.size) (NC:=k.size) (ND:=H.size)
   (by simpa [eg] using cK) er eq ep aP el (by simp[bu,v]) (by unfold eo;rw[AT];exact en) es Q.size (λc d=>⟨b9 c d,al c d⟩)
   ce dt (by show j.size<o.size;omega) dx cr dK (by show X<H.size;omega) (λc d=>⟨ad c d,aq.lt d⟩) (λc d=>⟨au c d,ap.lt d⟩) bI et (by omega)
  have bU:Mod Sb h ao:=by refine⟨by have:=a7.size;omega,λc d Z=>?_⟩;have af:=a7.get c d (λh=>h);have f3:=a7.size;have W:=Y.get c (by omega) (by rintro(h|h);exact Z h;have:=V.size;omega);have ev:=L.get c (by omega) (by omega);exact ev.trans (W.trans af)
  have f4:=bU.size;have cV: ∀n,ff m (aU n)≠none->n<8*aI+8:=C.lZ;have f5:=T9 m.files;refine AMT (N:=8*aI+8) (q:=⟨o.size,b,X,nt,j.size,Sb,ns,tp,np,ps⟩) E eu hd ac cU.symm (by omega) cV dm (by simp;omega) (by omega)
   (λew bV cW aF ex ey bW ez bX aT eA bY=>⟨_,rfl,?_⟩) λbV cW eB aF aG eC cX bX aT eD cY eE bY bW eF=>⟨_,rfl,?_⟩
  ·refine di ew bV o.size cW aF ex ey (bU.then (bW.ai λc _ d=>bh c d)) (λc d=>?_) (λG cZ=>⟨D,bX.dK cZ,?_,rfl⟩) (λw y=>aT w λn=>P7 y n) (AF bY (B.up (BY _) bp))
   ·rcases ez c d with h|h
    ·exact bh c h
    ·exact .inr (by omega)
   ·refine iU.mono ⟨C.aO,C.aV,C.next,C.aT,C.cn,C.bV,λn Z=>cV n (eA n (cZ.some Z))⟩ (BY _) (A0 _)
  ·have eG: ∀n,ff aF (aC nl n)=ff m (aC nl n):=λn=>aT _ (K9 n)
   have eH: ∀n,ff aF (aC nn n)=ff m (aC nn n):=λn=>aT _ (Np n)
   have c0:EZ (ff aF) ⟨ET D,(Ai D).names.map λn=>(n,D.T n),aG,(Ai D).aT,s,aJ,false⟩ D:=
    ⟨bX,cU.symm,λp bZ=>by
     obtain⟨n,_,rfl⟩:=List.mem_map.1 bZ;rfl,rfl,cY,λp bZ=>by
     obtain⟨n,Z,rfl⟩:=List.mem_map.1 bZ;have j:=S.below n Z;have o:(Ai D).next<=aG:=cY;show n<aG;omega,rfl,λn bi b0 _=>by
     have bi:s<=n:=bi;rw[eG];exact dM n (by omega) b0,(λh=>by cases h),λn bi b0=>by rw[eH];exact dq n bi b0,⟨S.aT.1,dW⟩,dr,λn Z=>eD n Z⟩
   have eI:Rc ⟨ET D,(Ai D).names.map λn=>(n,D.T n),aG,(Ai D).aT,s,aJ,false⟩ D (aI+1) c:=by have f6:aG<=8*aI+8:=eE;exact⟨by show s<=_;omega,by show aJ<=_;omega,by show aG<=_;omega,by show((Ai D).names.map _).length<=_;simp;omega,C.bV,by omega,by omega⟩
   refine dk bV _ eB _ aF D rfl ⟨eC,cX.up,c0,eI,AF bY (B.up (BY _) bp),d⟩ cX c0.map.symm (λw y=>aT w λn=>P7 y n) (bU.then (bW.ai λc _ d=>bh c d)) λc d=>?_
   rcases eF c d with h|h
   ·exact bh c h
   ·exact .inr (by omega)
 have c1:sl.len=(MX D).length:=by rw[cn.len];simp
 refine ae.intro (λu=>?_) (λu=>?_)
 ·have bH:MX D≠ []:=λe=>by
   have:=of_decide_eq_true u;rw[c1,e] at this;simp at this
  obtain⟨ax,x,bj⟩: ∃ax x,MX D=ax++ [x]:=⟨_,_,(List.dropLast_concat_getLast bH).symm⟩;have bk:Ai D=x:=by unfold Ai;rw[bj,SZ];rfl
  have c2:sl.len=ax.length+1:=by rw[c1,bj];simp
  have f7:ax.length<=8000000000000:=by rw[bj] at br;simp at br;omega
  rw[c2];have eJ:J8 J9 (((ax.length+1:Nat):Int)-(1:Int))=((ax.length:Nat):Int):=by rw[wrap_i64 (by omega) (by omega)];omega
  rw[eJ,<-c2];rw[bk] at S bt;have eK:((MX D).map λx=>AX (Dn x))[ax.length]? =some (AX (Dn x)):=by rw[bj];simp
  refine cn.idx eK λa _ av=>AJ.mk av.str ?_
  have f8:=S.next;have f9:=S.aT;have ga:=S.cn;have c3:=S.below;have c4:Dn x=BZ x.next++(BZ x.aT++(BZ x.names.length++(x.names.flatMap BZ++ []))):=by simp[Dn,A4]
  rw[c4];have c5:=wN S;rw[c4] at c5;simp only[A1] at c5;refine KP λc6 c7 b1=>⟨_,rfl,?_⟩
  have aK:=Ah b1 ch;refine DR (most:=2147483647) c7 (by simp only[A1];omega) (by decide) λgb c8 eL=>⟨_,rfl,?_⟩
  rw[Ci (by omega) (by omega)] at c8 ⊢;refine DR (most:=99999999) c8 (by simp only[A1];omega) (by decide) λa0 c9 eM=>⟨_,rfl,?_⟩
  rw[Ci (by omega) (by omega)] at c9 ⊢;have gc:=b1.size;have bm:I.size≠o.size:=by omega
  have db:Mod (· =I.size) c6 a0:=eL.trans eM;have eN:=db.af aK (by omega);refine ab.dk eN (by simp) λgd eO eP ge=>ab.dk eO (by simp) λa1 eQ eR gf=>?_
  have dc:Mod (· =o.size) a0 a1:=eP.trans eR;have eS:Ib a1 I.size ⟨BZ x.names.length++(x.names.flatMap BZ++ []),false⟩:=dc.af c9 bm;refine DR (most:=65536) eS (by simp only[A1];omega) (by decide) λeT dd de=>⟨_,rfl,?_⟩
  rw[Ci (by omega) (by omega)] at dd ⊢;have eU:=de.af eQ (λe=>bm e.symm);have eV:Mod (λc=>o.size<=c) I eT:=(Ext.mod b1).trans (((db.ai λc _ d=>by omega).trans (dc.ai λc _ d=>by omega)).trans (de.ai λc _ d=>by omega));refine Loop.rule (λF aO k=> ∃(i:Nat) (np:Sl),aO=((i:Int),())/\F=x.names.length-i/\i<=x.names.length/\Mod (λc=>o.size<=c) I k/\Ib k I.size ⟨(x.names.drop i).flatMap BZ++ [],false⟩/\Own Ho BQ k np ((x.names.take i).map λn:Nat=>(n:Int))/\(∀ c,np.af=some c->I.size<c)/\
    k[o.size]? =some (J2 #[Ay b,J5 none,Ay nt,Ay j.size,J4 none 0 0,J4 np.p np.len np.cap,J6 J9 (x.next:Int),J6 J9 (x.aT:Int),J3 false] El (0,0))) ?_
   ⟨0,⟨none,0,0⟩,rfl,rfl,As _,eV,dd,Own.nil,λc d=>by simp[Sl.af] at d,by simpa using eU⟩
  rintro gg F _ k ⟨i,np,rfl,rfl,U,J,bn,b2,ad,ar⟩ eW;have cr:=J.size;dsimp only;refine ae.intro (λu=>?_) (λu=>?_)
  ·have v:i<x.names.length:=by have:=of_decide_eq_true u;omega
   have ag:x.names[i]? =some x.names[i]:=A2 v;have eX:x.names.drop i=x.names[i]::x.names.drop (i+1):=Fo v;have gh:=c3 _ (AW v);refine AY.mk (s:=np) (AB ar rfl) ?_;rw[eX,AH,A4] at bn;have gi:((x.names.drop (i+1)).flatMap BZ).length<=600000:=by
    have:=Tg (l:=x.names.drop (i+1)) λn Z=>by have:=c3 n (HQ Z);omega
    have e:=DE (l:=x.names) (i:=i+1);omega
   have gj:=AV (n:=x.names[i]) (by omega);refine DR (most:=2147483647) bn (by simp only[A1,Ft];omega) (by decide) λb3 df bo=>⟨_,rfl,?_⟩
   rw[Ci (by omega) (by omega)] at df ⊢;have b4:=bo.af ar (λe=>bm e.symm);refine⟨AB b4 rfl,ak.mk λeY _ eZ aV gk=>⟨AB (Ah aV b4) rfl,?_⟩⟩;have e0:Own Ho BQ b3 np ((x.names.take i).map λn:Nat=>(n:Int)):=b2.mod bo λc d e=>by have:=ad c d;omega
   have e1:=e0.ext aV;have src:View Ho eY ⟨some ⟨b3.size,0,none⟩,1,1⟩ [(x.names[i]:Int)]:=(Own.lit (E:=Ho) (l:= [(x.names[i]:Int)]) eZ rfl (by simp[maxLen])).view;refine GI (s:=np) (src:=⟨some ⟨b3.size,0,none⟩,1,1⟩) qD e1 src (by simp;omega) (by simp[maxLen];omega) λaL gl e2 b5 e3 _=>?_
   have e4:=b5.af (Ah aV b4) (λe=>by have:=ad _ e;omega);refine ab.dk e4 (by simp) λgm e5 b6 gn=>?_
   rw[Aa (by omega)];have go:=bo.size;have dg: ∀c,aL.af=some c->I.size<c:=λc d=>by
    rcases e3 c d with h|h
    ·exact ad c h
    ·omega
   have gp:I.size<c6.size:=Af c7;refine eW (x.names.length-(i+1)) _ _ (by omega) ⟨i+1,aL,rfl,rfl,v,?_,?_,?_,dg,by simpa using e5⟩
   ·exact J.trans ((((bo.ai λc _ d=>by omega).trans (Ext.mod aV)).trans (b5.ai λc _ d=>by have:=ad c d;omega)).trans (b6.ai λc _ d=>by omega))
   ·have e6:=aV.af df (λh=>h);have e7:=b5.af e6 (λe=>by have:=ad _ e;omega);exact b6.af e7 bm
   ·rw[AD,ag];simp only[DG,CH,BT,Se];exact e2.mod b6 λc d e=>by have:=dg c d;omega
  ·have v:i=x.names.length:=by have:=of_decide_eq_false u;omega
   subst v;rw[BW] at b2;rw[Pc] at bn;refine Mt bn ⟨_,rfl,?_⟩;have e8:XV ⟨([]:List Nat).flatMap BZ++ [],false⟩=true:=rfl;rw[e8];refine ae.no rfl ?_;have e9: ∀ {b7:Nat} {dh:Obj},I[b7]? =some dh->b7<o.size->k[b7]? =some dh:=λe bG=>J.af e (by omega)
   refine bt k np ⟨by omega,λc d Z=>?_⟩ ar b2 (λc d=>by have:=ad c d;omega) (e9 ck (by omega)) (cl.mod J λc d e=>?_)
   ·have b8:=cj.get c d Z;rw[<- b8];exact J.get c (by omega) (by omega)
   ·rcases d with rfl|⟨w,y,_⟩
    ·omega
    ·cases y
 ·have b8:MX D= []:=by have:=of_decide_eq_false u;exact CC (by omega)
  have bk:Ai D=⟨1,1,[]⟩:=by unfold Ai;rw[b8];rfl
  refine bt I ⟨none,0,0⟩ cj (by rw[bk];exact ch) (by rw[bk];exact Own.nil) (λc d=>by simp[Sl.af] at d) ck cl
end
open M (Sorted Ae Cr BG Ag Aw Bf Aj bG BM aS BV)
section
variable {A : al} {B : cI} {g h : aa} {q : Hp} {k : Nat -> Nat} {st : Db} {m : Bx} {D : Bn} {aI c : Nat} {R : A2N}
theorem Br.dc(a:Br B g h q k st m D aI c):st.fr.length<=1000000/\st.ts.length<=100000/\(Ag (st.fr::aE st)).length<=1099511627776/\(CZ st).length<=100000:=by have d:=a.eY.dc a.lim;have e:=a.eY.jk a.lim;have f:=a.hc;have i:=B.hC;have b:=a.eY.kH.cn;rw[a.eY.iu] at b;have j:(CZ st).length<=(Ag (st.fr::aE st)).length:=qM _;omega
theorem Br.sorted(a:Br B g h q k st m D aI c):Sorted (CZ st):=Eb _ _
end
def D0:Bn:=⟨λ_=> [],λ_=> [],λ_=> [],1,1⟩
theorem ARm:Ai D0=⟨1,1,[]⟩:=rfl
theorem ARb {e:bQ}(i: ∀a,e (aC nl a)=none)(d: ∀a,e (aC nn a)=none)(j: ∀x,e x≠none->(bl x).head? ≠some 116):BH e D0/\iU e D0 0 0/\ct D0= []:=by
 refine⟨⟨⟨λa p _ _ h=>?_,λ_ _ _ _=>rfl,λa _ _=>i a,λ_ _=>rfl⟩,⟨λa p _ _ h=>?_,λ_ _ _ _=>rfl,λa _ _=>d a,λ_ _=>rfl⟩,λa d=>?_,λa b l=>?_,λa x f=>?_,λx f hd=>absurd hd (j x f),by decide⟩,⟨by decide,by decide,by decide,by decide,by decide,by decide,λa d=>?_⟩,rfl⟩
 ·rw[i a] at h;cases h
 ·rw[d a] at h;cases h
 ·rw[ARm] at d;cases d
 ·cases l
 ·cases f
 ·exact absurd (qJ a) (j _ d)
section
variable {A : al} {B : cI} {g h : aa} {q : Hp} {k : Nat -> Nat} {st : Db} {m : Bx} {D : Bn} {aI c : Nat} {R : A2N}
theorem Br.on {b:aa}(a:Br B g h q k st m D aI c)(x:Ext h b):Br B g b q k st m D aI c:=⟨a.mem.on x,a.up,a.eY,a.lim,a.wt,a.hc⟩
theorem Br.beside {b:aa}{d:Nat->Prop}(a:Br B g h q k st m D aI c)(x:Mod d h b)(hX: ∀c,d c->k c=0/\g.size<=c):Br B g b q k st m D aI c:=⟨a.mem.beside x hX,a.up,a.eY,a.lim,a.wt,a.hc⟩
theorem Br.more {b:Nat}(a:Br B g h q k st m D aI c)(d:c<=b)(e:b<=B.C):Br B g h q k st m D aI b:=⟨a.mem,a.up,a.eY,a.lim.mono (A0 _) d,a.wt,e⟩
theorem Br.free(a:Br B g h q k st m D aI c){x:Nat}(d:h.size<=x):k x=0:=Decidable.byContradiction λb=>by
 have:=(a.mem.own x b).2;omega
theorem Br.base(a:Br B g h q k st m D aI c){x:Nat}(d:x<g.size):k x=0:=Decidable.byContradiction λb=>by
 have:=(a.mem.own x b).1;omega
theorem AM9 {b:Nat}{Sb:Nat->Prop}(p:cm g)(r:Cm h b Sb m)(s:Ext g h)(t: ∀c,Sb c->g.size<=c)(hd:m.down=false)(o:m.fuel= -1)(u: ∀j,ff m (aC nl j)=none)(v: ∀j,ff m (aC nn j)=none)(w: ∀x,ff m x≠none->(bl x).head? ≠some 116)(hA:1<=B.A)(N:bg m.files<=B.W0)
  (y: ∀a d f i e l,d.b=b->Br B g a d f i e l 1 0->e.fuel= -1->CZ i= []->(∀ n,¬da n->ff e n=ff m n)->Mod Sb h a->(∀ c,f c≠0->Sb c\/h.size<=c)->R (J1 #[Ay d.d,J6 J9 0]) a):AA A P Q3 #[Ay b] h R:=by
 obtain⟨z,C,E⟩:=ARb u v w;refine AMM (B:=B) p r s t hd z C (As _) hA (by omega) (λF=>absurd o F) λa d f i e l G H I J K L M=>?_
 exact y a d f i e l G H (I.calm o) (J.trans E) K L M
end
abbrev kb:A2O:=⟨#[98]⟩
abbrev v1:A2O:=⟨#[49]⟩
abbrev v2:A2O:=⟨#[50]⟩
open Go Go.ChangeShapes Go.WideShapes Go.ChangeAt Go.RowKit Go.Proofs.YtecomiijolnjpaaGreatDoor
def listed:List (String×DataW Unit):=Rows.engineOnceRow.laid
theorem ALR: ∃(x c a b:String×DataW Unit),listed= [x,c,(nK,Lib.tabData .u64 Lib.pow10Tab),a,b]:=⟨_,_,_,_,rfl⟩
theorem ARd:P.globalNamed nK=some 2:=by kernel_rfl
theorem AQ6:(P.globals[2]?).map (·.type)=some SC:=by kernel_rfl
theorem ARc:P.underlying SC=some (.array 20 Xm):=by kernel_rfl
theorem AQi:P.underlying Xm=some (.int .u64):=by kernel_rfl
theorem ARp:P.cellsOf Xm=1:=by kernel_rfl
theorem ARw:P.cellsOf SC=20:=by kernel_rfl
theorem AJJ:listed.filter (λx=>x.2.handleName?.isSome)= []:=by kernel_rfl
theorem pR {b:World}(a:laidMetH P listed b):laidMet P listed b:=by unfold laidMetH at a;rw[AJJ] at a;exact a
theorem APf {c:World}(e:laidMetH P listed c):Lib.TabIs P c nK .u64 Lib.pow10Tab:=by have d:=pR e;obtain⟨x,g,a,b,f⟩:=ALR;rw[f] at d;exact Lib.tabIs_of_head (rest:= [a,b]) ARd AQ6 ARc AQi ARp ARw (laidMet.tail (laidMet.tail d))
theorem APh {a:World}(c:laidMetH P listed a):cT a.heap:=λd e=>by
 have b:=APf c;unfold Lib.TabIs World.var? at b ⊢;exact b
def mW : String := String.ofList [Char.ofNat 42] ++ "errors.errorString"
def tG:String:=Rows.engineOnceRow.named.getD 1 (String.ofList [])
def tH:String:=Rows.engineOnceRow.named.getD 0 (String.ofList [])
theorem AQ5: ∃(x a z b:String×DataW Unit) (text:List UInt8),listed= [x,a,z,(tG,.iface mW (.ptr (.agg [.lit (.string text)]))),b]:=⟨_,_,_,_,_,rfl⟩
theorem AQI: ∃(x a z b:String×DataW Unit) (text:List UInt8),listed= [x,a,z,b,(tH,.iface mW (.ptr (.agg [.lit (.string text)])))]:=⟨_,_,_,_,_,rfl⟩
theorem ARs:P.globalNamed tG=some 1:=by kernel_rfl
theorem ARS:P.globalNamed tH=some 0:=by kernel_rfl
theorem AQd:(P.globals[1]?).map (·.type)=some mV:=by kernel_rfl
theorem AQH:(P.globals[0]?).map (·.type)=some mV:=by kernel_rfl
theorem ARq: ∃a,P.underlying mV=some (.interface a):=⟨_,Proofs.Tryz.underlying246⟩
theorem AQQ(u:Q7)(a:P.typeName? 3 u=some mW):u=ED:=
 typeName_ptr_named (nm := "errors.errorString") (by kernel_rfl) (by kernel_rfl) (by decide) u a
theorem ARZ:P.underlying ED=some (.pointer Ei):=by kernel_rfl
theorem AR6: ∃f:Field,P.underlying Ei=some (.struct #[f])/\f.type=Ar/\f.offset=0:=⟨_,Proofs.Tryz.underlying355,rfl,rfl⟩
theorem AR4:P.cellsOf Ei=1:=by kernel_rfl
theorem tI {b:String}{text:List UInt8}{r:List (String×DataW Unit)}{a:World}{g:Nat}(h:laidMet P ((b,.iface mW (.ptr (.agg [.lit (.string text)])))::r) a)(c:P.globalNamed b=some g)(i:(P.globals[g]?).map (·.type)=some mV):kg a.heap g:=by
 obtain⟨o,j⟩:=ARq;obtain⟨f,k,l,m⟩:=AR6;obtain⟨d,p,n,_,_,_⟩:=laid_sentinel h c i j AQQ ARZ k l m AQv AR4 AR3;have e:a.cell? ⟨g,0,none⟩=some (.iface ED (.pointer (some d))):=by simpa using World.var?_cell c n 0
 refine⟨.iface ED (.pointer (some d)),?_,.inr ⟨_,_,rfl⟩⟩;unfold ag;unfold World.cell? at e;exact e
theorem AQh {d:World}(b:laidMetH P listed d):cm d.heap:=by
 refine⟨APh b,?_,?_⟩
 ·have a:=pR b;obtain⟨x,e,z,f,t,c⟩:=AQI;rw[c] at a;exact tI (laidMet.tail (laidMet.tail (laidMet.tail (laidMet.tail a)))) ARS AQH
 ·have a:=pR b;obtain⟨x,e,z,f,t,c⟩:=AQ5;rw[c] at a;exact tI (laidMet.tail (laidMet.tail (laidMet.tail a))) ARs AQd
def AHr:DataW Unit->Array J0
 | .agg ds=>(ds.map λ| .lit (.int a z)=>Value.int a z|_=> .bool false).toArray
 |_=> #[]
def fill(a:DataW Unit):Obj->Obj
 | .cells _ t frozen=> .cells (AHr a) t frozen
 |o=>o
def iO(b:Nat):Obj->Obj
 | .cells _ t frozen=> .cells #[.iface ED (.pointer (some ⟨b,0,none⟩))] t frozen
 |o=>o
abbrev AOn:A2O:=⟨#[118,97,108,117,101,32,111,117,116,32,111,102,32,114,97,110,103,101]⟩
abbrev APC:A2O:=⟨#[105,110,118,97,108,105,100,32,115,121,110,116,97,120]⟩
noncomputable def low:Nat:=(World.holding P default ⟨#[],#[],[]⟩).heap.size
noncomputable def X7 (os:Os):World:=
 let a:=World.holding P os ⟨#[.cells #[.string AOn] Ei,.cells #[.string APC] Ei],#[],[]⟩
 {a with heap:=((((a.heap.modify 2 (fill Rows.laid_internal_strconv_uint64pow10)).modify 4 (fill Rows.laid_math_bits_deBruijn32tab)).modify 5 (fill Rows.laid_math_bits_deBruijn64tab)).modify 1 (iO low)).modify 0 (iO (low+1))}
theorem AHf(os:Os)(args:Array J0):laidMet P listed ((X7 os).forCall (λ_ _=>0) ⟨#[],args,[]⟩).memory:=
 laidMet_of_run' 8 (by kernel_rfl) (by kernel_rfl)
end Go.Lf.G
namespace Go.Lf.G.M
open Go Go.ChangeShapes Go.WideShapes Go.ChangeAt Go.RowKit Go.Proofs.YtecomiijolnjpaaGreatDoor
def ll(a:World):al:=⟨a.tape,a.os,a.output⟩
section
variable {H : Type} {enc : Q7 × J0 -> H} {w : World} {base : Nat} {spare : Nat -> Bool} {held : Bool}
instance:Inhabited Pr:=⟨⟨⟨#[]⟩,⟨#[]⟩,false⟩⟩
instance:Inhabited Sl:=⟨⟨none,0,0⟩⟩
end
end Go.Lf.G.M
namespace Go.Lf.G
open Go
open M (Sorted Ae Cr BG Ag Aw Bf Aj bG BM aS BV)
structure ARY where
 kind:Int
 bs:Sl
 key:A2O
 til:A2O
 most:Int
 ks:Sl
structure AR9 (N:Nat) (h:aa) (x:ARY) (l:List Pr) (ks:List Int):Prop where
 bs:View Ba h x.bs l
 ks:View Ho h x.ks ks
 key:x.key.size<=N
theorem APv {e:Type}{d:cy e}{h:aa}{s:Sl}{l:List e}(v:View d h s l)(f:l≠ []){b:Nat}(i:s.af=some b):b<h.size:=by
 cases l with
 |nil=>exact absurd rfl f
 |cons x l=>
  obtain⟨a,j,n⟩:=v.cells 0 x rfl;have p:=d.pos;have r:=d.len x;obtain⟨u,o⟩: ∃u,(d.enc x)[0]? =some u:=⟨_,A2 (by omega)⟩;have:=Tt (n 0 u o);rw[aM,aM] at this;have t:a.block=b:=by simpa [Sl.af,j] using i
  omega
section
variable {A : al} {B : cI} {g h : aa} {q : Hp} {k : Nat -> Nat} {st : Db} {m : Bx} {D : Bn} {aI c : Nat} {R : A2N}
theorem Br.put {b a:Nat}(d:Br B g h q k st m D aI c)(e:aI<=b)(f:c<=a)(i:a<=B.C):Br B g h q k st m D b a:=(d.aI e).more f i
theorem Br.args(a:Br B g h q k st m D aI c){s:Sl}{l:List Pr}(v:View Ba g s l):l≠ []-> ∀b,s.af=some b->b<h.size/\k b=0:=λd b e=>by
 have f:=APv v d e;have:=a.mem.ext.size;exact⟨by omega,a.base f⟩
end
theorem AH7 {A:al}{B:cI}{g h:aa}{q:Hp}{k:Nat->Nat}{st:Db}{m:Bx}{D:Bn}{aI c:Nat}{R:A2N}{s:Sl}{l:List Pr}(u:cm g)(j:Br B g h q k st m D aI c)(i:m.fuel= -1)(hA:aI+3<=B.A)(v:View Ba h s l)(w:l≠ []-> ∀b,s.af=some b->b<h.size/\k b=0)(x:c+64<=B.C)
  (y: ∀e n z C f G,n.d=q.d->n.b=q.b->Br B g e n z C f G (aI+3) (c+64)->f.fuel= -1->CZ C=(if EK l=0 then cS (CZ st) l else CZ st)->(∀ o,¬da o->ff f o=ff m o)->Mod (λc=>k c≠0) h e->(∀ c,z c≠0->k c≠0\/h.size<=c)->R (J6 J9 (EK l)) e):
  AA A P KL #[Ay q.d,J4 s.p s.len s.cap] h R:=by
 by_cases a:EK l=0
 ·have W:=(wR a).1.len;refine wU (B:=B) (s:=s) u j hA v w (λ_=>by omega) (λE=>absurd a E) (λ_ e f p=>absurd i p.fuel) (λ_ e f p=>absurd i p.fuel) λ_ r H I J K L M N O Q S T U V=>?_
  have:=y r H I J K L M N (O.put (A0 _) (by omega) x) (Q.calm i) (by rw[if_pos a];exact S.map) T U V;rwa [a] at this
 ·refine wU (B:=B) (s:=s) u j hA v w (λd=>absurd d a) (λE r F=>?_) (λd=>absurd d a) (λd=>absurd d a) (λd=>absurd d a);exact y r q k st m D rfl rfl ((j.on F).put (by omega) (by omega) x) i (by rw[if_neg a]) (λ_ _=>rfl) (F.ai λc _ t=>t.elim) λc t=> .inl t
open Go Go.ChangeShapes Go.WideShapes Go.ChangeAt Go.RowKit Go.Proofs.YtecomiijolnjpaaGreatDoor
section
variable {H : Type} {enc : Q7 × J0 -> H} {w : World} {base : Nat} {spare : Nat -> Bool} {held : Bool}
end
section
variable {H : Type} {enc : Q7 × J0 -> H} {w : World} {base : Nat} {spare : Nat -> Bool} {held : Bool}
end
def JV(d:al)(more:Int)(bF:aa)(h:A2N):=AA d P JN #[] bF λv V=> ∃W:Bool,v=J3 W/\(ae (!W) (h (J3 false) V) (AA d P F3 #[] V λv1 X=> ∃bG:Q2,∃e:Q2,∃Y:Bool,v1=J1 #[J5 bG,J5 e,J3 Y]/\(ah (λ(r:Bool×Unit) Z=>ae r.1 (h (J3 false) Z) (AA d P H7 #[J5 e,.nilIface,J7 (⟨#[119]⟩:A2O)] Z λv2 bH=>Mf λab=> ∃ac:Int,v2=J1 #[ab.v,J6 J9 ac]/\(ak bH (J2 ck.z.c Bg) λb bJ=>aK bJ (Q5 b 0 none) ab.l λad=>ae (ac != 0) (h (J3 false) ad) (Loop (λbK (s:Unit) n=>AC J9 n ((Q9 (Q5 b 0 none) 6).add 3) λbL=>ae (decide (bL<=497)) (Hl n (Q5 b 0 none) λbM=>AA d P Ih #[J5 e,bM.v,J6 J9 0] n λbO af=> ∃A:Q2,bO=J5 A/\(AC J9 af ((Q9 (Q5 b 0 none) 6).add 3) λai=>Loop (λbP (aj:Int×Unit) am=>ae (decide (aj.1<(if((J8 J9 ((498:Int)-ai)):Int)<30 then(J8 J9 ((498:Int)-ai)) else 30))) (AA d P Cc #[J5 A,(⟨0,12,0,0,0,0,false,(⟨#[120]⟩:A2O)⟩:Ev).v] am λbQ bR=>bQ=J1 #[]/\(bP ((J8 J9 (aj.1+1)),()) bR)) (AA d P DW #[J5 A] am λbS an=> ∃ao:Int,bS=J6 J9 ao/\(ae (ao != 0) (h (J3 false) an) (AA d P H7 #[J5 e,.nilIface,J7 (⟨#[119]⟩:A2O)] an λbT bU=>Mf λap=> ∃aq:Int,bT=J1 #[ap.v,J6 J9 aq]/\(aK bU (Q5 b 0 none) ap.l λar=>ae (aq != 0) (h (J3 false) ar) (bK () ar)))))) (0,()) af)) (Av n (Q9 (Q5 b 0 none) 6) λbV=>AA d P LQ #[bV.v] n λbW au=> ∃av:Bool,bW=J3 av/\(ae av (h (J3 false) au) (Loop (λbX (c:Int×Unit) q=>ae (decide (c.1<((J8 J9 ((more.tmod (5:Int))+5)).tmod (5:Int)))) (ah (λ(bY:(Q2)×Unit) t=>ah (λ(bZ:Bool×Unit) aw=>ae bZ.1 (h (J3 false) aw) (bX ((J8 J9 (c.1+1)),()) aw)) λax=>At bY.1 λa=>AC J9 t a λb0=>ae (b0 != 2) (ax (true,()) t) (AA d P IL #[J5 e,J7 (⟨#[119]⟩:A2O)] t λb1 ay=>EJ λaz=>b1=az.v/\(AC J9 ay ((Q9 (Q5 b 0 none) 6).add 3) λaA=>And (ag t ((Q9 (Q5 b 0 none) 6).add 3)=some (J6 J9 aA))<| ax ((az.next != aA),()) ay))) λf=>And (ak q (J2 #[J6 J9 2,J6 J9 3] BQ) λb2 B=>bC (some (Q5 b2 0 none)) 2 (c.1.tmod (2:Int)) λi=>AC J9 B (i.add ((c.1.tmod (2:Int)).toNat*1)) λg=>And (ak B (J2 #[.int .u8 (J8 .u8 (J8 J9 ((97:Int)+c.1)))] Co) λaC C=>And (ag C (i.add ((c.1.tmod (2:Int)).toNat*1))=some (J6 J9 g))<| And (BF d P (convert BU Ar (J4 (some (Q5 aC 0 none)) 1 1)) C λb3 D=> ∃u:A2O,b3=J7 u/\(And (ag D (i.add ((c.1.tmod (2:Int)).toNat*1))=some (J6 J9 g))<| aG ((((⟨#[114]⟩:A2O).size+u.size:Nat):Int)<=IntKind.i64.max)<| And (AA d P Ao #[J5 e,.nilIface,J6 J9 0,(⟨g,((⟨#[114]⟩:A2O)++u),(⟨#[119]⟩:A2O),(⟨#[120]⟩:A2O),(⟨none,0,0⟩:Sl),0,(⟨none,0,0⟩:Sl),0,0,0,0,false⟩:bN).v] D λb4 b5=>EJ λaD=>b4=aD.v/\(ak b5 (J2 bI.z.c BB) λaE aF=>And (ag aF (i.add ((c.1.tmod (2:Int)).toNat*1))=some (J6 J9 g))<| aK aF (Q5 aE 0 none) aD.l λb6=>f ((some (Q5 aE 0 none)),()) b6))<| ak D (J2 bI.z.c BB) λaH aI=>And (ag aI (i.add ((c.1.tmod (2:Int)).toNat*1))=some (J6 J9 g))<| AA d P Ao #[J5 e,.nilIface,J6 J9 0,(⟨g,((⟨#[114]⟩:A2O)++u),(⟨#[119]⟩:A2O),(⟨#[120]⟩:A2O),(⟨none,0,0⟩:Sl),0,(⟨none,0,0⟩:Sl),0,0,0,0,false⟩:bN).v] aI λb7 b8=>EJ λaJ=>b7=aJ.v/\(aK b8 (Q5 aH 0 none) aJ.l λb9=>f ((some (Q5 aH 0 none)),()) b9)))<| ak C (J2 bI.z.c BB) λaL aM=>And (ag aM (i.add ((c.1.tmod (2:Int)).toNat*1))=some (J6 J9 g))<| BF d P (convert BU Ar (J4 (some (Q5 aC 0 none)) 1 1)) aM λca aN=> ∃E:A2O,ca=J7 E/\(And (ag aN (i.add ((c.1.tmod (2:Int)).toNat*1))=some (J6 J9 g))<| aG ((((⟨#[114]⟩:A2O).size+E.size:Nat):Int)<=IntKind.i64.max)<| AA d P Ao #[J5 e,.nilIface,J6 J9 0,(⟨g,((⟨#[114]⟩:A2O)++E),(⟨#[119]⟩:A2O),(⟨#[120]⟩:A2O),(⟨none,0,0⟩:Sl),0,(⟨none,0,0⟩:Sl),0,0,0,0,false⟩:bN).v] aN λcb cc=>EJ λaO=>cb=aO.v/\(aK cc (Q5 aL 0 none) aO.l λcd=>f ((some (Q5 aL 0 none)),()) cd)))<| ak B (J2 bI.z.c BB) λaP aQ=>And (ag aQ (i.add ((c.1.tmod (2:Int)).toNat*1))=some (J6 J9 g))<| ak aQ (J2 #[.int .u8 (J8 .u8 (J8 J9 ((97:Int)+c.1)))] Co) λce aR=>And (ag aR (i.add ((c.1.tmod (2:Int)).toNat*1))=some (J6 J9 g))<| BF d P (convert BU Ar (J4 (some (Q5 ce 0 none)) 1 1)) aR λcf aS=> ∃F:A2O,cf=J7 F/\(And (ag aS (i.add ((c.1.tmod (2:Int)).toNat*1))=some (J6 J9 g))<| aG ((((⟨#[114]⟩:A2O).size+F.size:Nat):Int)<=IntKind.i64.max)<| AA d P Ao #[J5 e,.nilIface,J6 J9 0,(⟨g,((⟨#[114]⟩:A2O)++F),(⟨#[119]⟩:A2O),(⟨#[120]⟩:A2O),(⟨none,0,0⟩:Sl),0,(⟨none,0,0⟩:Sl),0,0,0,0,false⟩:bN).v] aS λcg ch=>EJ λaT=>cg=aT.v/\(aK ch (Q5 aP 0 none) aT.l λci=>f ((some (Q5 aP 0 none)),()) ci)))<| And (ak q (J2 #[.int .u8 (J8 .u8 (J8 J9 ((97:Int)+c.1)))] Co) λo G=>And (ak G (J2 #[J6 J9 2,J6 J9 3] BQ) λcj H=>bC (some (Q5 cj 0 none)) 2 (c.1.tmod (2:Int)) λl=>AC J9 H (l.add ((c.1.tmod (2:Int)).toNat*1)) λj=>And (BF d P (convert BU Ar (J4 (some (Q5 o 0 none)) 1 1)) H λcl I=> ∃w:A2O,cl=J7 w/\(And (ag I (l.add ((c.1.tmod (2:Int)).toNat*1))=some (J6 J9 j))<| aG ((((⟨#[114]⟩:A2O).size+w.size:Nat):Int)<=IntKind.i64.max)<| And (AA d P Ao #[J5 e,.nilIface,J6 J9 0,(⟨j,((⟨#[114]⟩:A2O)++w),(⟨#[119]⟩:A2O),(⟨#[120]⟩:A2O),(⟨none,0,0⟩:Sl),0,(⟨none,0,0⟩:Sl),0,0,0,0,false⟩:bN).v] I λcm cn=>EJ λaU=>cm=aU.v/\(ak cn (J2 bI.z.c BB) λaV aW=>And (ag aW (l.add ((c.1.tmod (2:Int)).toNat*1))=some (J6 J9 j))<| aK aW (Q5 aV 0 none) aU.l λco=>f ((some (Q5 aV 0 none)),()) co))<| ak I (J2 bI.z.c BB) λaX aY=>And (ag aY (l.add ((c.1.tmod (2:Int)).toNat*1))=some (J6 J9 j))<| AA d P Ao #[J5 e,.nilIface,J6 J9 0,(⟨j,((⟨#[114]⟩:A2O)++w),(⟨#[119]⟩:A2O),(⟨#[120]⟩:A2O),(⟨none,0,0⟩:Sl),0,(⟨none,0,0⟩:Sl),0,0,0,0,false⟩:bN).v] aY λcp cq=>EJ λaZ=>cp=aZ.v/\(aK cq (Q5 aX 0 none) aZ.l λcr=>f ((some (Q5 aX 0 none)),()) cr)))<| ak H (J2 bI.z.c BB) λa0 a1=>And (ag a1 (l.add ((c.1.tmod (2:Int)).toNat*1))=some (J6 J9 j))<| BF d P (convert BU Ar (J4 (some (Q5 o 0 none)) 1 1)) a1 λcs a2=> ∃J:A2O,cs=J7 J/\(And (ag a2 (l.add ((c.1.tmod (2:Int)).toNat*1))=some (J6 J9 j))<| aG ((((⟨#[114]⟩:A2O).size+J.size:Nat):Int)<=IntKind.i64.max)<| AA d P Ao #[J5 e,.nilIface,J6 J9 0,(⟨j,((⟨#[114]⟩:A2O)++J),(⟨#[119]⟩:A2O),(⟨#[120]⟩:A2O),(⟨none,0,0⟩:Sl),0,(⟨none,0,0⟩:Sl),0,0,0,0,false⟩:bN).v] a2 λct cu=>EJ λa3=>ct=a3.v/\(aK cu (Q5 a0 0 none) a3.l λcv=>f ((some (Q5 a0 0 none)),()) cv)))<| And (BF d P (convert BU Ar (J4 (some (Q5 o 0 none)) 1 1)) G λcw a4=> ∃p:A2O,cw=J7 p/\(aG ((((⟨#[114]⟩:A2O).size+p.size:Nat):Int)<=IntKind.i64.max)<| And (ak a4 (J2 #[J6 J9 2,J6 J9 3] BQ) λcx L=>bC (some (Q5 cx 0 none)) 2 (c.1.tmod (2:Int)) λM=>AC J9 L (M.add ((c.1.tmod (2:Int)).toNat*1)) λx=>And (AA d P Ao #[J5 e,.nilIface,J6 J9 0,(⟨x,((⟨#[114]⟩:A2O)++p),(⟨#[119]⟩:A2O),(⟨#[120]⟩:A2O),(⟨none,0,0⟩:Sl),0,(⟨none,0,0⟩:Sl),0,0,0,0,false⟩:bN).v] L λcy cz=>EJ λa5=>cy=a5.v/\(ak cz (J2 bI.z.c BB) λa6 a7=>And (ag a7 (M.add ((c.1.tmod (2:Int)).toNat*1))=some (J6 J9 x))<| aK a7 (Q5 a6 0 none) a5.l λcB=>f ((some (Q5 a6 0 none)),()) cB))<| ak L (J2 bI.z.c BB) λa8 a9=>And (ag a9 (M.add ((c.1.tmod (2:Int)).toNat*1))=some (J6 J9 x))<| AA d P Ao #[J5 e,.nilIface,J6 J9 0,(⟨x,((⟨#[114]⟩:A2O)++p),(⟨#[119]⟩:A2O),(⟨#[120]⟩:A2O),(⟨none,0,0⟩:Sl),0,(⟨none,0,0⟩:Sl),0,0,0,0,false⟩:bN).v] a9 λcC cD=>EJ λba=>cC=ba.v/\(aK cD (Q5 a8 0 none) ba.l λcE=>f ((some (Q5 a8 0 none)),()) cE))<| ak a4 (J2 bI.z.c BB) λbb cF=>ak cF (J2 #[J6 J9 2,J6 J9 3] BQ) λcG bc=>bC (some (Q5 cG 0 none)) 2 (c.1.tmod (2:Int)) λcH=>AC J9 bc (cH.add ((c.1.tmod (2:Int)).toNat*1)) λcI=>AA d P Ao #[J5 e,.nilIface,J6 J9 0,(⟨cI,((⟨#[114]⟩:A2O)++p),(⟨#[119]⟩:A2O),(⟨#[120]⟩:A2O),(⟨none,0,0⟩:Sl),0,(⟨none,0,0⟩:Sl),0,0,0,0,false⟩:bN).v] bc λcJ cK=>EJ λbd=>cJ=bd.v/\(aK cK (Q5 bb 0 none) bd.l λcL=>f ((some (Q5 bb 0 none)),()) cL)))<| ak G (J2 bI.z.c BB) λy be=>And (ak be (J2 #[J6 J9 2,J6 J9 3] BQ) λcM bf=>bC (some (Q5 cM 0 none)) 2 (c.1.tmod (2:Int)) λbg=>AC J9 bf (bg.add ((c.1.tmod (2:Int)).toNat*1)) λbh=>BF d P (convert BU Ar (J4 (some (Q5 o 0 none)) 1 1)) bf λcN bi=> ∃N:A2O,cN=J7 N/\(And (ag bi (bg.add ((c.1.tmod (2:Int)).toNat*1))=some (J6 J9 bh))<| aG ((((⟨#[114]⟩:A2O).size+N.size:Nat):Int)<=IntKind.i64.max)<| AA d P Ao #[J5 e,.nilIface,J6 J9 0,(⟨bh,((⟨#[114]⟩:A2O)++N),(⟨#[119]⟩:A2O),(⟨#[120]⟩:A2O),(⟨none,0,0⟩:Sl),0,(⟨none,0,0⟩:Sl),0,0,0,0,false⟩:bN).v] bi λcO cP=>EJ λbj=>cO=bj.v/\(aK cP (Q5 y 0 none) bj.l λcQ=>f ((some (Q5 y 0 none)),()) cQ)))<| BF d P (convert BU Ar (J4 (some (Q5 o 0 none)) 1 1)) be λcR cS=> ∃O:A2O,cR=J7 O/\(aG ((((⟨#[114]⟩:A2O).size+O.size:Nat):Int)<=IntKind.i64.max)<| ak cS (J2 #[J6 J9 2,J6 J9 3] BQ) λcT bk=>bC (some (Q5 cT 0 none)) 2 (c.1.tmod (2:Int)) λcU=>AC J9 bk (cU.add ((c.1.tmod (2:Int)).toNat*1)) λcV=>AA d P Ao #[J5 e,.nilIface,J6 J9 0,(⟨cV,((⟨#[114]⟩:A2O)++O),(⟨#[119]⟩:A2O),(⟨#[120]⟩:A2O),(⟨none,0,0⟩:Sl),0,(⟨none,0,0⟩:Sl),0,0,0,0,false⟩:bN).v] bk λcW cX=>EJ λbm=>cW=bm.v/\(aK cX (Q5 y 0 none) bm.l λcY=>f ((some (Q5 y 0 none)),()) cY)))<| ak q (J2 bI.z.c BB) λm bn=>And (ak bn (J2 #[J6 J9 2,J6 J9 3] BQ) λcZ bo=>bC (some (Q5 cZ 0 none)) 2 (c.1.tmod (2:Int)) λQ=>AC J9 bo (Q.add ((c.1.tmod (2:Int)).toNat*1)) λR=>ak bo (J2 #[.int .u8 (J8 .u8 (J8 J9 ((97:Int)+c.1)))] Co) λc0 bp=>And (ag bp (Q.add ((c.1.tmod (2:Int)).toNat*1))=some (J6 J9 R))<| BF d P (convert BU Ar (J4 (some (Q5 c0 0 none)) 1 1)) bp λc1 bq=> ∃S:A2O,c1=J7 S/\(And (ag bq (Q.add ((c.1.tmod (2:Int)).toNat*1))=some (J6 J9 R))<| aG ((((⟨#[114]⟩:A2O).size+S.size:Nat):Int)<=IntKind.i64.max)<| AA d P Ao #[J5 e,.nilIface,J6 J9 0,(⟨R,((⟨#[114]⟩:A2O)++S),(⟨#[119]⟩:A2O),(⟨#[120]⟩:A2O),(⟨none,0,0⟩:Sl),0,(⟨none,0,0⟩:Sl),0,0,0,0,false⟩:bN).v] bq λc2 c3=>EJ λbr=>c2=br.v/\(aK c3 (Q5 m 0 none) br.l λc4=>f ((some (Q5 m 0 none)),()) c4)))<| ak bn (J2 #[.int .u8 (J8 .u8 (J8 J9 ((97:Int)+c.1)))] Co) λbs bt=>And (ak bt (J2 #[J6 J9 2,J6 J9 3] BQ) λc5 bu=>bC (some (Q5 c5 0 none)) 2 (c.1.tmod (2:Int)) λbv=>AC J9 bu (bv.add ((c.1.tmod (2:Int)).toNat*1)) λbw=>BF d P (convert BU Ar (J4 (some (Q5 bs 0 none)) 1 1)) bu λc6 bx=> ∃T:A2O,c6=J7 T/\(And (ag bx (bv.add ((c.1.tmod (2:Int)).toNat*1))=some (J6 J9 bw))<| aG ((((⟨#[114]⟩:A2O).size+T.size:Nat):Int)<=IntKind.i64.max)<| AA d P Ao #[J5 e,.nilIface,J6 J9 0,(⟨bw,((⟨#[114]⟩:A2O)++T),(⟨#[119]⟩:A2O),(⟨#[120]⟩:A2O),(⟨none,0,0⟩:Sl),0,(⟨none,0,0⟩:Sl),0,0,0,0,false⟩:bN).v] bx λc7 c8=>EJ λbz=>c7=bz.v/\(aK c8 (Q5 m 0 none) bz.l λc9=>f ((some (Q5 m 0 none)),()) c9)))<| BF d P (convert BU Ar (J4 (some (Q5 bs 0 none)) 1 1)) bt λda db=> ∃U:A2O,da=J7 U/\(aG ((((⟨#[114]⟩:A2O).size+U.size:Nat):Int)<=IntKind.i64.max)<| ak db (J2 #[J6 J9 2,J6 J9 3] BQ) λdc bA=>bC (some (Q5 dc 0 none)) 2 (c.1.tmod (2:Int)) λdd=>AC J9 bA (dd.add ((c.1.tmod (2:Int)).toNat*1)) λde=>AA d P Ao #[J5 e,.nilIface,J6 J9 0,(⟨de,((⟨#[114]⟩:A2O)++U),(⟨#[119]⟩:A2O),(⟨#[120]⟩:A2O),(⟨none,0,0⟩:Sl),0,(⟨none,0,0⟩:Sl),0,0,0,0,false⟩:bN).v] bA λdf dg=>EJ λbB=>df=bB.v/\(aK dg (Q5 m 0 none) bB.l λdh=>f ((some (Q5 m 0 none)),()) dh))) (AA d P Ao #[J5 e,.nilIface,J6 J9 0,(⟨4,(⟨#[101,110,100]⟩:A2O),(⟨#[119]⟩:A2O),(⟨#[]⟩:A2O),(⟨none,0,0⟩:Sl),0,(⟨none,0,0⟩:Sl),0,0,0,0,false⟩:bN).v] q λdi dj=>EJ λbD=>di=bD.v/\(ak dj (J2 bI.z.c BB) λz dk=>aK dk (Q5 z 0 none) bD.l λk=>AC J9 k (Q5 z 0 none) λdl=>ae (dl==0) (AC J9 k (Q9 (Q5 z 0 none) 1) λdm=>ae (dm==4) (AC J9 k (Q9 (Q5 z 0 none) 2) λdn=>AC J9 k ((Q9 (Q5 b 0 none) 6).add 3) λdp=>h (J3 (dn==(J8 J9 (dp+1)))) k) (h (J3 false) k)) (h (J3 false) k)))) (0,()) au)))) () ad)))) λK=>ae (!Y) (K (true,()) X) (AA d P Ao #[J5 e,.nilIface,J6 J9 0,(⟨1,(⟨#[115,116,97,114,116]⟩:A2O),(⟨#[119]⟩:A2O),(⟨#[]⟩:A2O),(⟨none,0,0⟩:Sl),0,(⟨none,0,0⟩:Sl),0,0,0,0,false⟩:bN).v] X λdq dr=>EJ λbE=>dq=bE.v/\(K ((bE.err != 0),()) dr)))))
theorem OU {a more b c}(d:JV a more b c):AA a P Ja #[J6 J9 more] b c:=Ac (AO AU (AO DY (CX 2 (AO (AO (.bA [(31,.one .bool)] [0,4]) Dz) (AO AU (AO DY (AO (.block (.loop [] [0,4,6] (AO FQ (.block (AO AU (AO (AO AU (.block (.loop [(51,.one (.int J9))] [0,4,6,8,50] mO))) (AO DY MM))))))) (AO DY (AO (AO AU (.block (.loop [(71,.one (.int J9))] [4,6,70] (AO AU (AO FH (AO (.block (AO AU (AO (.bA [(10,.one .ptr)] [4,6,70,71]) (AO (.bA [(99,.one .bool)] [4,6,70,71]) Dz)))) AU)))))) Ex))))))))) (by kernel_rfl) d
end Go.Lf.G
