/-
 Contracts: what a history has come to; rows of events and tasks; programs as bytes (chapters 12, 14 and 17).
-/
import Derived.Test.YtgpmoonnachoaaaGreatDoorLfV3ToW6
import Derived.Test.YtgpmoonnachoaaaGreatDoorLfU2ToS1
import Derived.Test.YtgpmoonnachoaaaGreatDoorLfKToGA
set_option maxRecDepth 100000
set_option linter.unusedVariables false
set_option linter.unusedSimpArgs false
open Go.IntKind renaming i64→J9,wrap→J8
open Go.Value renaming string→J7,int→J6,pointer→J5,slice→J4,bool→J3,tuple→J1
open Go.Obj renaming cells→J2
open Go renaming Value→J0,Addr→Q6,TypeId→Q7,FuncId→Q8,Program→Q1
open Go.Addr renaming add→Q9,mk→Q5
namespace Go.Lf.G
open Go
section
variable {A : ak} {h : aa} {R : A2H}
theorem uL {l:List Ev}{sl:Sl}{t:bF}(v:View ct h sl l)(aw:l.length<=500)(hd: ∀f∈l,f.data.size<1099511627776/\kg f.kind)(W:FU UO l=some t)
  (X: ∀y a b c,Ext h y->KW y t a b c->(∀ x,a.ag=some x\/b.ag=some x\/c.ag=some x->h.size<=x)->R (J1 #[(t.V a b c).v,J6 J9 0,J6 J9 0]) y):
  AA A P QP #[J4 sl.p sl.len sl.cap] h R:=by
 refine AC2 ?_;unfold Wm;refine ao.mk λax _ Y Z E=>ao.mk λay _ F G az=>?_
 rw[E] at F;rw[E];have aa:=Z.trans G;have ab: ∀x,(⟨none,0,0⟩:Sl).ag=some x\/(⟨none,0,0⟩:Sl).ag=some x\/(⟨none,0,0⟩:Sl).ag=some x->h.size+2<=x:=λx d=>by simp[Sl.ag] at d
 refine Loop.rule (λm x k=> ∃(i:Nat) (s:bF) (a b c:Sl),x=((i:Int),())/\m=l.length-i/\i<=l.length/\Ext h k/\k[h.size]? =some (J2 bR.z.c CB (0,0))/\k[h.size+1]? =some (J2 (s.V a b c).c CB (0,0))/\
   KW k s a b c/\(∀ x,a.ag=some x\/b.ag=some x\/c.ag=some x->h.size+2<=x)/\Ec s i/\FU s (l.drop i)=some t) ?_
  ⟨0,UO,⟨none,0,0⟩,⟨none,0,0⟩,⟨none,0,0⟩,rfl,rfl,A5 _,aa,G.ag Y (λh=>h),F,⟨View.nil,View.nil,View.nil⟩,ab,Ec.zero,W⟩
 rintro K m _ H ⟨i,s,a,b,c,rfl,rfl,aA,n,I,o,J,fr,L,g⟩ ac;have aC:=v.len;refine af.intro (λz=>?_) (λz=>?_)
 ·have j:i<l.length:=by simp at z;omega
  obtain⟨f,p⟩: ∃f,l[i]? =some f:=⟨_,A2 j⟩;have M:=AM p;have ae:l.drop i=f::l.drop (i+1):=by rw[F2 j];rw[A2 j] at p;cases p;rfl
  rw[ae,FU] at g;split at g;rotate_left
  ·cases g
  rename_i N;refine(v.ext n).idx p λaD _ ag=>NS.mk f ag ?_
  refine ao.mk λO _ q ah ai=>aW.mk q (A0 8) λaj Q ak aE=>?_
  rw[qz] at Q;have r:Ext H aj:=ah.more ak λc e=>by subst e;exact A0 _
  have aF:=Ag o;refine Bo.mk (s.V a b c) (IU (r.ag o λh=>h)) (NS.mk f (Qu Q) ?_);refine qC (J.ext r) L (by omega) (hd f M).1 (hd f M).2 λaG al am an ap aq u=>Ju.mk _ ⟨_,rfl,?_⟩
  rw[N];have B:=r.trans ap;refine ao.mk λaH _ ar C aI=>aW.mk ar (A0 12) λau S T aJ=>af.no rfl ?_
  rw[Ph] at S;have w:Ext H au:=B.more (C.mod.trans T) λc e=>by subst e;exact B.size
  refine Bo.mk _ (IU S) (aW.mk (w.ag o λh=>h) (A0 12) λaK U D aL=>?_);rw[Ph] at U;dsimp only;rw[Aa (by omega)];have aM:=r.size;have aN:=C.size;have aO:=B.size;have aP:=w.size;have aQ:=n.size;refine ac (l.length-(i+1)) _ _ (by omega) ⟨i+1,_,al,am,an,rfl,rfl,j,(n.trans w).more D λc e=>by subst e;omega,D.ag (w.ag I λh=>h) (by omega),U,?_,λx d=>?_,UV L N,g⟩
  ·have av:=aq.ext (C.more T λc e=>by subst e;exact A0 _);exact av.mod D (λx d e=>by have:=u x (.inl d);omega) (λx d e=>by have:=u x (.inr (.inl d));omega) (λx d e=>by have:=u x (.inr (.inr d));omega)
  ·have:=u x d;omega
 ·have j:i=l.length:=by simp at z;omega
  subst j;rw[OS,FU] at g;obtain rfl:s=t:=Bm g;refine Bo.mk (s.V a b c) (IU o) (aW.mk I (A0 12) λO q V ai=>?_);rw[Ph] at q;refine Bo.mk (s.V a b c) (IU q) (X O a b c (n.more V λc e=>by subst e;exact A0 _) (J.mod V (λx d e=>by have:=fr x (.inl d);omega) (λx d e=>by have:=fr x (.inr (.inl d));omega) (λx d e=>by have:=fr x (.inr (.inr d));omega)) λx d=>by have:=fr x d;omega)
theorem ARt {wid:A2I}{l:List Ev}{sl:Sl}(s:Aj wid=true)(v:View ct h sl l)(S:l.length<=1000)(hd: ∀a∈l,Dk a=true/\a.data.size<1099511627776)
  (z: ∀d f,Own BO AQ f d (l.map (NZ wid))->(∀ b,d.ag=some b->h.size<=b)->Ext h f->R (J1 #[J4 d.p d.len d.cap,J6 J9 0]) f):
  AA A P Px #[J7 wid,J4 sl.p sl.len sl.cap] h R:=by
 refine AGu ?_;unfold vO;refine EO ⟨_,rfl,?_⟩;rw[s];refine af.no rfl ?_;refine Loop.rule (λm x t=> ∃(i:Nat) (e:Sl),x=(e,(i:Int),())/\m=l.length-i/\i<=l.length/\Ext h t/\Own BO AQ t e ((l.take i).map (NZ wid))/\(∀ b,e.ag=some b->h.size<=b)) ?_
  ⟨0,⟨none,0,0⟩,rfl,rfl,A5 _,Mod.refl,Own.nil,λb k=>by simp[Sl.ag] at k⟩
 rintro K m _ u ⟨i,e,rfl,rfl,T,g,n,fr⟩ B;dsimp only;have U:=v.len;refine af.intro (λo=>?_) (λo=>?_)
 ·have j:i<l.length:=by simp at o;omega
  obtain⟨a,p⟩: ∃a,l[i]? =some a:=⟨_,A2 j⟩;obtain⟨ok,C⟩:=hd a (AM p);obtain⟨_,⟨V,W⟩,_⟩:=SG ok;refine(v.ext g).idx p λX _ D=>NS.mk a D ?_
  refine ao.mk λY _ F G Z=>aW.mk F (A0 8) λH q I aa=>?_
  rw[qz] at q;have J:Ext u H:=G.more I λc L=>by subst L;exact A0 _
  refine NS.mk a (Qu q) (zw C λab w=>?_);unfold pA;rw[ok];refine⟨_,_,rfl,af.no rfl (AC.mk (AL (w.ag q λh=>h) rfl) ?_)⟩;have ac:=Ep s;rw[show a.id=((a.id.toNat:Nat):Int) from by omega];refine uC (by omega) (by omega) λae M=>⟨_,rfl,?_⟩
  have r:=(J.trans w).trans M;refine ao.bq (E:=BO) (x:=NZ wid a) rfl GZ (n.ext r) (by simp only[AW,An];omega) (by simp only[AW,An,maxLen];omega) λd f N O Q ag=>?_
  rw[Aa (by omega)];refine B (l.length-(i+1)) _ _ (by omega) ⟨i+1,d,rfl,rfl,j,(g.trans r).more O fr,?_,λb k=>?_⟩
  ·rw[Ax,p,Ds,By];exact N
  ·rcases Q b k with y|y
   ·exact fr b y
   ·have:=(g.trans r).size;omega
 ·have j:i=l.length:=by simp at o;omega
  rw[j,Bk] at n;exact z e u n fr g
theorem ARB {t:dF}(o: ∀d,Ext h d->R (J1 #[J7 (if KF ⟨t.kind,t.ref,t.turn⟩ t.wid then MU ⟨t.kind,t.ref,t.turn⟩ t.wid else⟨#[]⟩),J6 J9 (if KF ⟨t.kind,t.ref,t.turn⟩ t.wid then 0 else 1)]) d):AA A P VE #[t.v] h R:=by
 refine AGY ?_;unfold vQ;refine ao.mk λf _ a p _=>?_
 refine ai.mk λK y=>?_
 have key: ∀k:Bool,k= !KF ⟨t.kind,t.ref,t.turn⟩ t.wid->K (k,()) f:=λk g=>by
  refine y _ _ ?_;cases b:KF ⟨t.kind,t.ref,t.turn⟩ t.wid with
  |false=>
   have:=o f p;rw[b] at this g;exact af.yes g this
  |true=>
   rw[b] at g;refine af.no g ?_;have z: ∀d,Ext f d->R (J1 #[J7 (MU ⟨t.kind,t.ref,t.turn⟩ t.wid),J6 J9 0]) d:=λd x=>by
    have:=o d (p.trans x);rw[b] at this;exact this
   unfold KF at b;simp only[A3,Bc] at b;obtain⟨⟨⟨⟨Q,S⟩,l⟩,T,U⟩,V,W⟩:=b;have X:=Ep l;have Y:=AV (n:=t.kind.toNat) (by omega);have Z:=AV (n:=t.ref.toNat) (by omega);have aa:=AV (n:=t.turn.toNat) (by omega);have ab:=Kq (s:=t.wid) (by omega);refine AC.mk (AL a rfl) (AJ.mk (n:=t.wid) (AB a rfl) (AC.mk (n:=t.ref) (AB a rfl) (AC.mk (n:=t.turn) (AB a rfl) ?_)));rw[PD (n:=t.kind) (by omega) (by omega)];refine Ca (by omega) λac q=>⟨_,rfl,?_⟩
   have i:=q.ag a λh=>h
   refine⟨AB i rfl,AB i rfl,AB i rfl,MH (by omega) λae r=>⟨_,rfl,?_⟩⟩;have m:=r.ag i λh=>h
   refine⟨AB m rfl,AB m rfl,by rw[AP,AP,max_i64];omega,?_⟩;rw[PD (n:=t.ref) (by omega) (by omega)];refine Ca (by omega) λag u=>⟨_,rfl,?_⟩
   have B:=u.ag m λh=>h
   refine⟨AB B rfl,by rw[Aq,AP,AP,max_i64,A1];omega,?_⟩;rw[PD (n:=t.turn) (by omega) (by omega)];refine Ca (by omega) λj C=>⟨_,rfl,⟨by rw[Aq,Aq,AP,AP,max_i64,A1,A1];omega,?_⟩⟩
   rw[Aq,Aq,Aq,A4,A4];exact z j (((q.trans r).trans u).trans C)
 have no: ∀ {P:Prop},¬P->(KF ⟨t.kind,t.ref,t.turn⟩ t.wid=true->P)->K (true,()) f:=λD E=>key true (by
  cases b:KF ⟨t.kind,t.ref,t.turn⟩ t.wid with
  |false=>rfl
  |true=>exact absurd (E b) D)
 have e:KF ⟨t.kind,t.ref,t.turn⟩ t.wid=true->(1<=t.kind/\t.kind<=7)/\Aj t.wid=true/\(0<=t.ref/\t.ref<=500)/\0<=t.turn/\t.turn<=5:=λb=>by
  unfold KF at b;simp only[A3,Bc] at b;obtain⟨⟨⟨F,l⟩,G⟩,H⟩:=b;exact⟨F,l,G,H⟩
 refine AC.mk (AL a rfl) (af.intro (λc=>no (P:=1<=t.kind) (by simp at c;omega) λh=>(e h).1.1) λI=>?_);refine AC.mk (AL a rfl) (af.intro (λc=>no (P:=t.kind<=7) (by simp at c;omega) λh=>(e h).1.2) λJ=>?_);refine AJ.mk (n:=t.wid) (AB a rfl) (EO ⟨_,rfl,af.intro (λc=>no (P:=Aj t.wid=true) (by simp at c;simp[c]) λh=>(e h).2.1) λv=>?_⟩);refine AC.mk (n:=t.ref) (AB a rfl) (af.intro (λc=>no (P:=0<=t.ref) (by simp at c;omega) λh=>(e h).2.2.1.1) λL=>?_);refine AC.mk (n:=t.ref) (AB a rfl) (af.intro (λc=>no (P:=t.ref<=500) (by simp at c;omega) λh=>(e h).2.2.1.2) λM=>?_);refine AC.mk (n:=t.turn) (AB a rfl) (af.intro (λc=>no (P:=0<=t.turn) (by simp at c;omega) λh=>(e h).2.2.2.1) λw=>?_);refine AC.mk (n:=t.turn) (AB a rfl) (key _ ?_);unfold KF;simp at I J v L M w;have N:bX t.kind 1 7=true:=Bc.2 (by omega);have O:bX t.ref 0 500=true:=Bc.2 (by omega);rw[N,O,v];show _= !(bX t.turn 0 5);unfold bX;by_cases j:t.turn<=5
 ·simp[j,w]
 ·simp[j];omega
theorem uM {s:Sl}{p:cA}(v:View TZ h s p.steps)(V:p.steps.length<=1099511627776)(H: ∀b,Ext h b->R (YX p) b):
  AA A P Mc #[.agg #[J4 s.p s.len s.cap,J6 J9 p.aG]] h R:=by
 refine ACt ?_;unfold WZ;refine ao.mk λaC _ u k _=>?_
 refine Ad.mk (s:=s) (AL u rfl) (AC.mk (AB u rfl) ?_);refine zr (p:=p) (v.ext k) V λw o=>⟨_,rfl,?_⟩
 cases q:GL p with
 |false=>
  refine af.yes rfl ?_;have:=H w (k.trans o);rw[YX,q] at this;exact this
 |true=>
  refine af.no rfl ?_;have W: ∀b,Ext w b->R (J1 #[J7 (AX (Cs p)),J6 J9 0]) b:=λb x=>by
   have:=H b ((k.trans o).trans x);rw[YX,q] at this;exact this
  simp only[GL,A3,decide_eq_true_eq] at q;obtain⟨⟨aD,X⟩,I⟩:=q;have aE:=Bc.1 X;have y:=o.ag u (λh=>h);refine AC.mk (n:=p.aG) (AB y rfl) (Ad.mk (s:=s) (AL y rfl) ?_);rw[PD (n:=p.aG) (by omega) (by omega)];refine Ca (by omega) λaF J=>⟨_,rfl,?_⟩
  have L:=J.ag y (λh=>h);refine⟨AL L rfl,?_⟩;rw[v.len,CJ (by omega)];have aG:=AV (n:=p.aG.toNat) (by omega);have aH:=AV (n:=p.steps.length) (by omega);refine Ca (by omega) λY M=>⟨_,rfl,⟨by rw[AP,AP,max_i64];omega,?_⟩⟩
  have Z:=M.ag L (λh=>h);rw[Aq];refine Ad.mk (s:=s) (AL Z rfl) ?_;refine Loop.rule (λm x f=> ∃i:Nat,x=(AX ((BX p.aG.toNat++BX p.steps.length)++(p.steps.take i).flatMap Hm),(i:Int),())/\Ext Y f/\m=p.steps.length-i/\i<=p.steps.length) ?_ ⟨0,by simp,Mod.refl,rfl,by omega⟩;rintro K m _ f ⟨i,rfl,N,rfl,aI⟩ aa;have O:Ext w f:=(J.trans M).trans N;have ab:Ext h f:=(k.trans o).trans O;dsimp only;have aJ:=v.len;refine af.intro (λz=>?_) (λz=>?_)
  ·have B:i<p.steps.length:=by simp at z;omega
   obtain⟨x,C⟩: ∃x,p.steps[i]? =some x:=⟨_,A2 B⟩;have ac:=AM C;have ag:=List.all_eq_true.1 I x ac;obtain⟨aK,aL,aM,aN,aO,aP,aQ,aR,aS,aT,aU⟩:=zD ag;have aV:((p.steps.take i).flatMap Hm).length<=1600:=by
    have:=Py (l:=p.steps.take i) (List.all_eq_true.2 λah aj=>List.all_eq_true.1 I ah (C2 aj));have:(p.steps.take i).length<=16:=by simp;omega
    omega
   have D: ∀b,Ext f b->K (AX (((BX p.aG.toNat++BX p.steps.length)++(p.steps.take i).flatMap Hm)++Hm x),J8 J9 ((i:Int)+1),()) b:=λb ak=>by
    rw[Aa (by omega)];refine aa (p.steps.length-(i+1)) _ _ (by omega) ⟨i+1,?_,N.trans ak,rfl,B⟩;rw[Ax,C,Ds,Fo];simp[A4]
   generalize al:(BX p.aG.toNat++BX p.steps.length)++(p.steps.take i).flatMap Hm=am at*
   have aW:am.length<=2000:=by rw[<- al];simp only[A1];omega
   refine(v.ext ab).idx C λa _ c=>?_
   obtain⟨an,c1,c2,c3,ap,aq⟩:=zo c;refine AC.mk an (AJ.mk c1 (AJ.mk c2 (AC.mk c3 (AC.mk ap (AC.mk aq ?_)))));refine ao.mk λaX _ ar au aY=>ae.pP ar λav Q aw aZ=>?_
   have ax:Ext f av:=au.more aw λc a0=>by omega
   refine AC.mk (n:=x.kind) (AL Q rfl) ?_;rw[PD (n:=x.kind) (by omega) (by omega)];refine Ca (by omega) λa1 S=>⟨_,rfl,?_⟩
   have a2:=AV (n:=x.kind.toNat) (by omega);refine⟨by rw[AP,AP,max_i64];omega,?_⟩;have d:=S.ag Q (λh=>h);have E:=ax.trans S;rw[Aq];refine AC.mk (n:=x.kind) (AL d rfl) ?_;have a3:=AV (n:=x.tries.toNat) (by omega);have a4:=AV (n:=x.aF.toNat) (by omega);have a5:=AV (n:=x.wait.toNat) (by omega);have a6:=Kq (s:=x.name) (by omega);have a7:=Kq (s:=x.aV) (by omega);refine ai.mk λa8 F=>?_
   refine af.intro (λe=>?_) (λe=>?_)
   ·have e:x.kind=1:=by simpa using e
    refine AJ.mk (n:=x.name) (AB d rfl) (AC.mk (n:=x.tries) (AB d rfl) (AJ.mk (n:=x.aV) (AB d rfl) (AC.mk (n:=x.aF) (AB d rfl) (MH (by omega) λr j=>⟨_,rfl,?_⟩))));have t:=j.ag d (λh=>h);refine⟨AB t rfl,AB t rfl,AB t rfl,?_⟩;rw[PD (n:=x.tries) (by omega) (by omega)];refine Ca (by omega) λa9 T=>⟨_,rfl,?_⟩
    have G:=T.ag t (λh=>h);refine⟨AB G rfl,AB G rfl,by rw[AP,AP,max_i64];omega,?_⟩;refine MH (by omega) λba U=>⟨_,rfl,?_⟩
    have ay:=U.ag G (λh=>h);refine⟨AB ay rfl,by rw[Aq,AP,AP,max_i64,A1];omega,?_⟩;rw[PD (n:=x.aF) (by omega) (by omega)];refine Ca (by omega) λaz aA=>⟨_,rfl,⟨?_,?_,F _ _ ?_⟩⟩
    ·rw[Aq,Aq,AP,AP,max_i64];simp only[A1];omega
    ·simp only[Aq,AP,max_i64,A1];omega
    ·have:=D az ((((E.trans j).trans T).trans U).trans aA);simp only[Hm] at this;rw[if_pos e] at this;simp only[Aq,A4] at this ⊢;exact this
   ·have e:x.kind≠1:=by simpa using e
    refine af.intro (λg=>?_) (λg=>?_)
    ·have g:x.kind=2:=by simpa using g
     refine AC.mk (n:=x.wait) (AB d rfl) ?_;rw[PD (n:=x.wait) (by omega) (by omega)];refine Ca (by omega) λr j=>⟨_,rfl,⟨by rw[AP,AP,max_i64,A1];omega,F _ _ ?_⟩⟩
     have:=D r (E.trans j);simp only[Hm] at this;rw[if_neg e,if_pos g] at this;simp only[Aq,A4] at this ⊢;exact this
    ·have g:x.kind≠2:=by simpa using g
     refine af.yes (by simp;omega) (AJ.mk (n:=x.name) (AB d rfl) (MH (by omega) λr j=>⟨_,rfl,⟨by rw[AP,AP,max_i64,A1];omega,F _ _ ?_⟩⟩));have:=D r (E.trans j);simp only[Hm] at this;rw[if_neg e,if_neg g] at this;simp only[Aq,A4] at this ⊢;exact this
  ·have B:i=p.steps.length:=by simp at z;omega
   have:=W f O;rw[AE (by omega)];exact this
end
open M (Sorted Ab Bw Av Ac Am BF Ah bz Az aP Ay)
end Go.Lf.G
namespace Go.Lf
open G
open Go
open M (Sorted Ab Bw Av Ac Am BF Ah bz Az aP Ay)
theorem View.dI {c:Type}{d:cL c}{e:Nat->Prop}{h f:aa}{s:Sl}{l:List c}(v:View d h s l)(m:Mod e h f)(j:l≠ []-> ∀b,s.ag=some b-> ¬e b):View d f s l:=by
 cases l with
 |nil=>exact⟨v.len,v.cap,λi x k=>by simp at k⟩
 |cons x l=>exact v.mod m (j (by simp))
end Go.Lf
namespace Go.Lf.G
open Go
open M (Sorted Ab Bw Av Ac Am BF Ah bz Az aP Ay)
end Go.Lf.G
namespace Go.Lf
open G
open Go
open M (Sorted Ab Bw Av Ac Am BF Ah bz Az aP Ay)
theorem View.kV {f:Type}{d:cL f}{h:aa}{s:Sl}{l:List f}(v:View d h s l)(j:l≠ []){b:Nat}(e:s.ag=some b):b<h.size:=by
 cases l with
 |nil=>exact absurd rfl j
 |cons x l=>
  obtain⟨a,k,c⟩:=v.cells 0 x rfl;have m:0<(d.enc x).length:=by rw[d.len];exact d.pos
  have:=Vk (c 0 _ (A2 m));rw[aU,aU] at this;unfold Sl.ag at e;rw[k] at e;cases e;exact this
end Go.Lf
namespace Go.Lf.G
open Go
open M (Sorted Ab Bw Av Ac Am BF Ah bz Az aP Ay)
theorem ae.nI {h:aa}{b d:Nat}{v:J0}{l l':List J0}{T:Q7}{K:aa->Prop}(e:h[b]? =some (J2 ⟨l⟩ T (0,0)))(f:d<l.length)(j:l.set d v=l')
  (k: ∀c,c[b]? =some (J2 ⟨l'⟩ T (0,0))->Mod (· =b) h c->c.size=h.size->K c):ae h ((⟨b,0,none⟩:Q6).add d) v K:=
 ae.cN e f (TX l d v) λc m=>k c (by rw[<- j];exact m)
theorem CS {h:aa}{b j:Nat}{l:List J0}{T:Q7}{fr:Nat×Nat}{v:J0}(c:h[b]? =some (J2 ⟨l⟩ T fr))(d:l[j]? =some v):ah h ((⟨b,0,none⟩:Q6).add j)=some v:=
 AB c (by simp_all)
theorem CL {h:aa}{b i c:Nat}{l:List J0}{T:Q7}{fr:Nat×Nat}{v:J0}(d:h[b]? =some (J2 ⟨l⟩ T fr))(e:l[i+c]? =some v):ah h (((⟨b,0,none⟩:Q6).add i).add c)=some v:=by rw[add_add];exact CS d e
theorem ARN {h:aa}{b i c d:Nat}{l:List J0}{T:Q7}{fr:Nat×Nat}{v:J0}(e:h[b]? =some (J2 ⟨l⟩ T fr))(f:l[i+(c+d)]? =some v):ah h ((((⟨b,0,none⟩:Q6).add i).add c).add d)=some v:=by rw[add_add];exact CL e f
structure fi where
 hp:Nat
 ev:Sl
 fs:bR
 a:Sl
 b:Sl
 c:Sl
 more:Sl
 au:Sl
 conds:Sl
abbrev fi.l(x:fi)(C:bC):List J0:= [Ak x.hp,J7 C.wid,J6 J9 (C.aq:Int),J6 J9 C.cJ,J6 J9 C.cq,J3 C.kept,J4 x.ev.p x.ev.len x.ev.cap,
 J4 x.fs.steps.p x.fs.steps.len x.fs.steps.cap,J6 J9 x.fs.aG,J6 J9 x.fs.status,J6 J9 x.fs.next,J6 J9 x.fs.bA,J6 J9 x.fs.asked,J6 J9 x.fs.taken,J3 x.fs.fresh,J4 x.fs.aK.p x.fs.aK.len x.fs.aK.cap,J4 x.fs.ar.p x.fs.ar.len x.fs.ar.cap,J3 x.fs.cancel,J3 x.fs.bj,
 J4 x.a.p x.a.len x.a.cap,J6 J9 C.st.prog.aG,J6 J9 C.st.status,J6 J9 C.st.next,J6 J9 C.st.bA,J6 J9 C.st.asked,J6 J9 C.st.taken,J3 C.st.fresh,J4 x.b.p x.b.len x.b.cap,J4 x.c.p x.c.len x.c.cap,J3 C.st.cancel,J3 C.st.bj,
 J4 x.more.p x.more.len x.more.cap,J4 x.au.p x.au.len x.au.cap,J4 x.conds.p x.conds.len x.conds.cap,J6 J9 C.err,J6 J9 C.now]
structure Fs (h:aa) (cb:Nat) (z:Nat->Nat) (x:fi) (C:bC):Prop where
 ag:h[cb]? =some (J2 ⟨x.l C⟩ NR (0,0))
 zc:z cb=1
 st:KW h C.st x.a x.b x.c
 zs: ∀y,(C.st.prog.steps≠ []/\x.a.ag=some y)\/(C.st.aK≠ []/\x.b.ag=some y)\/(C.st.ar≠ []/\x.c.ag=some y)->z y=5
 more:Own ct Ao h x.more C.more
 zm: ∀y,x.more.ag=some y->z y=2
 au:Own BO AQ h x.au C.au
 zp: ∀y,x.au.ag=some y->z y=3
 conds:Own BO AQ h x.conds C.conds
 zq: ∀y,x.conds.ag=some y->z y=4
theorem KW.dI {k:Nat->Prop}{h n:aa}{s:bF}{a b c:Sl}(f:KW h s a b c)(m:Mod k h n)(j: ∀y,(s.prog.steps≠ []/\a.ag=some y)\/(s.aK≠ []/\b.ag=some y)\/(s.ar≠ []/\c.ag=some y)-> ¬k y):KW n s a b c:=
 ⟨f.steps.dI m λd y e=>j y (.inl ⟨d,e⟩),f.aK.dI m λd y e=>j y (.inr (.inl ⟨d,e⟩)),f.ar.dI m λd y e=>j y (.inr (.inr ⟨d,e⟩))⟩
section
variable {A : ak} {B : bV} {g h : aa} {s a N sh cb : Nat} {l : List Hs} {mp : List Pr} {O : Nat -> Prop} {i : Nat} {y : Hs} {z : Nat -> Nat} {x : fi} {C : bC} {R : A2H}
theorem Fs.mod {f:Nat->Prop}{j:aa}(b:Fs h cb z x C)(m:Mod f h j)(e: ∀c,z c≠0-> ¬f c):Fs j cb z x C:=
 ⟨m.ag b.ag (e cb (by rw[b.zc];decide)),b.zc,b.st.dI m λy d=>e y (by rw[b.zs y d];decide),b.zs,b.more.mod m λy d=>e y (by rw[b.zm y d];decide),b.zm,b.au.mod m λy d=>e y (by rw[b.zp y d];decide),b.zp,b.conds.mod m λy d=>e y (by rw[b.zq y d];decide),b.zq⟩
theorem Fs.on {b:aa}(c:Fs h cb z x C)(m:Ext h b):Fs b cb z x C:=c.mod m λ_ _ h=>h
theorem Fs.cell {d:aa}(b:Fs h cb z x C){f:Int}(m:Mod (· =cb) h d)(k:d[cb]? =some (J2 ⟨x.l {C with err:=f}⟩ NR (0,0))):Fs d cb z x {C with err:=f}:=by
 have ne: ∀y e,z y=e->e≠1-> ¬y=cb:=λy e j n o=>by subst o;rw[b.zc] at j;exact n j.symm
 exact⟨k,b.zc,b.st.dI m λy c=>ne y 5 (b.zs y c) (by decide),b.zs,b.more.mod m λy c=>ne y 2 (b.zm y c) (by decide),b.zm,b.au.mod m λy c=>ne y 3 (b.zp y c) (by decide),b.zp,b.conds.mod m λy c=>ne y 4 (b.zq y c) (by decide),b.zq⟩
theorem Fs.err(c:Fs h cb z x C){d:Int}{K:aa->Prop}(e: ∀b,Fs b cb z x {C with err:=d}->Mod (· =cb) h b->b.size=h.size->K b):ae h ((⟨cb,0,none⟩:Q6).add 34) (J6 J9 d) K:=
 ae.nI c.ag (of_decide_eq_true rfl) rfl λb f m j=>e b (c.cell m f) m j
def hZ(z:Nat->Nat)(s:Sl)(b:Nat):Nat->Nat:=λc=>if s.ag=some c then b else z c
theorem qH {s:Sl}{b c:Nat}(h:s.ag=some c):hZ z s b c=b:=if_pos h
theorem qI {e f:Sl}{j:Nat}(k: ∀c,z c≠0->c<h.size)(m: ∀y,e.ag=some y->z y=j)(n: ∀b,f.ag=some b->e.ag=some b\/h.size<=b){c d:Nat}(o:z c=d)(p:d≠0):hZ z f j c=d:=by grind [hZ]
theorem qJ {f d:Sl}{e:Nat}{j:aa}(k: ∀y,f.ag=some y->z y=e)(m:e≠0)(n: ∀b,d.ag=some b->f.ag=some b\/h.size<=b)(o: ∀b,d.ag=some b->b<j.size){c:Nat}(p:hZ z d e c≠0):z c≠0\/(h.size<=c/\c<j.size):=by grind [hZ]
theorem Fs.lT(d:Fs h cb z x C)(H: ∀c,z c≠0->c<h.size){src:Sl}{f:Ev}(v:View ct h src [f])(V:C.more.length<1000){K:aa->Prop}
  (M: ∀r j I,Fs r cb I {x with more:=j} {C with more:=C.more++ [f]}->Mod (λc=>z c≠0) h r->(∀ c,I c≠0->z c≠0\/(h.size<=c/\c<r.size))->K r):
  BK A P (Builtin.append_ #[BZ,BZ] BZ #[J4 x.more.p x.more.len x.more.cap,J4 src.p src.len src.cap]) h λv n=> ∃t:Sl,v=J4 t.p t.len t.cap/\ae n ((⟨cb,0,none⟩:Q6).add 31) (J4 t.p t.len t.cap) K:=by
 refine GK (E:=ct) (s:=x.more) (src:=src) nj d.more v (by grind) (by simp only[CN,maxLen];omega) λj n J o L _=>?_
 have u: ∀c k,z c=k->k≠2-> ¬x.more.ag=some c:=λc k p D f=>by rw[d.zm c f] at p;exact D p.symm
 have Q:=o.ag d.ag (u cb 1 d.zc (by decide));refine ae.nI Q (of_decide_eq_true rfl) (l':=({x with more:=j}:fi).l {C with more:=C.more++ [f]}) rfl λD S q W=>?_
 have F: ∀c k,z c=k->k≠1-> ¬c=cb:=λc k p n f=>by subst f;rw[d.zc] at p;exact n p.symm
 have X:=H cb (by rw[d.zc];decide);have T: ∀b,j.ag=some b->b<n.size:=λb w=>J.lt w
 have aw: ∀ {c G:Nat},z c=G->G≠0->hZ z j 2 c=G:=λm U=>qI H d.zm L m U
 refine M D j (hZ z j 2) ⟨S,aw d.zc (by decide),?_,λy e=>aw (d.zs y e) (by decide),?_,λy e=>qH e,?_,λy e=>aw (d.zp y e) (by decide),?_,λy e=>aw (d.zq y e) (by decide)⟩ ?_ λc m=>?_
 ·exact(d.st.dI o λy e=>u y 5 (d.zs y e) (by decide)).dI q λy e=>F y 5 (d.zs y e) (by decide)
 ·refine J.mod q λb w f=>?_
  grind
 ·exact(d.au.mod o λy e=>u y 3 (d.zp y e) (by decide)).mod q λy e=>F y 3 (d.zp y e) (by decide)
 ·exact(d.conds.mod o λy e=>u y 4 (d.zq y e) (by decide)).mod q λy e=>F y 4 (d.zq y e) (by decide)
 ·exact(o.aj λc _ m=>by rw[d.zm c m];decide).trans (q.aj λc _ m=>by grind)
 ·exact qJ d.zm (by decide) L (λb w=>by have:=T b w;omega) m
theorem Fs.fZ(d:Fs h cb z x C)(I: ∀c,z c≠0->c<h.size){p:Pr}(W:C.au.length<1000){K:aa->Prop}
  (Q: ∀u f J,Fs u cb J {x with au:=f} {C with au:=C.au++ [p]}->Mod (λc=>z c≠0) h u->(∀ c,J c≠0->z c≠0\/(h.size<=c/\c<u.size))->K u):
  ao h (J2 #[J7 p.key,J7 p.val,J3 p.gone] AQ) λb m=>BK A P (Builtin.append_ #[AR,AR] AR #[J4 x.au.p x.au.len x.au.cap,J4 (some (⟨b,0,none⟩:Q6)) 1 1]) m λv n=> ∃t:Sl,v=J4 t.p t.len t.cap/\ae n ((⟨cb,0,none⟩:Q6).add 32) (J4 t.p t.len t.cap) K:=by
 refine ao.bq (E:=BO) (x:=p) (s:=x.au) (l:=C.au) rfl GZ d.au (by omega) (by simp only[maxLen];omega) λf m L o M _=>?_
 have w: ∀c j,z c=j->j≠3-> ¬x.au.ag=some c:=λc j q n D=>by rw[d.zp c D] at q;exact n q.symm
 have S:=o.ag d.ag (w cb 1 d.zc (by decide));refine ae.nI S (of_decide_eq_true rfl) (l':=({x with au:=f}:fi).l {C with au:=C.au++ [p]}) rfl λn T r X=>?_
 have G: ∀c j,z c=j->j≠1-> ¬c=cb:=λc j q m D=>by subst D;rw[d.zc] at q;exact m q.symm
 have Y:=I cb (by rw[d.zc];decide);have U: ∀b,f.ag=some b->b<m.size:=λb F=>L.lt F
 have aw: ∀ {c H:Nat},z c=H->H≠0->hZ z f 3 c=H:=λk V=>qI I d.zp M k V
 refine Q n f (hZ z f 3) ⟨T,aw d.zc (by decide),?_,λy e=>aw (d.zs y e) (by decide),?_,λy e=>aw (d.zm y e) (by decide),?_,λy e=>qH e,?_,λy e=>aw (d.zq y e) (by decide)⟩ ?_ λc k=>?_
 ·exact(d.st.dI o λy e=>w y 5 (d.zs y e) (by decide)).dI r λy e=>G y 5 (d.zs y e) (by decide)
 ·exact(d.more.mod o λy e=>w y 2 (d.zm y e) (by decide)).mod r λy e=>G y 2 (d.zm y e) (by decide)
 ·refine L.mod r λb F D=>?_
  grind
 ·exact(d.conds.mod o λy e=>w y 4 (d.zq y e) (by decide)).mod r λy e=>G y 4 (d.zq y e) (by decide)
 ·exact(o.aj λc _ k=>by rw[d.zp c k];decide).trans (r.aj λc _ k=>by grind)
 ·exact qJ d.zp (by decide) M (λb F=>by have:=U b F;omega) k
theorem Fs.iO(d:Fs h cb z x C)(I: ∀c,z c≠0->c<h.size){p:Pr}(W:C.conds.length<1000){K:aa->Prop}
  (Q: ∀u f J,Fs u cb J {x with conds:=f} {C with conds:=C.conds++ [p]}->Mod (λc=>z c≠0) h u->(∀ c,J c≠0->z c≠0\/(h.size<=c/\c<u.size))->K u):
  ao h (J2 #[J7 p.key,J7 p.val,J3 p.gone] AQ) λb m=>BK A P (Builtin.append_ #[AR,AR] AR #[J4 x.conds.p x.conds.len x.conds.cap,J4 (some (⟨b,0,none⟩:Q6)) 1 1]) m λv n=> ∃t:Sl,v=J4 t.p t.len t.cap/\ae n ((⟨cb,0,none⟩:Q6).add 33) (J4 t.p t.len t.cap) K:=by
 refine ao.bq (E:=BO) (x:=p) (s:=x.conds) (l:=C.conds) rfl GZ d.conds (by omega) (by simp only[maxLen];omega) λf m L o M _=>?_
 have w: ∀c j,z c=j->j≠4-> ¬x.conds.ag=some c:=λc j q n D=>by rw[d.zq c D] at q;exact n q.symm
 have S:=o.ag d.ag (w cb 1 d.zc (by decide));refine ae.nI S (of_decide_eq_true rfl) (l':=({x with conds:=f}:fi).l {C with conds:=C.conds++ [p]}) rfl λn T r X=>?_
 have G: ∀c j,z c=j->j≠1-> ¬c=cb:=λc j q m D=>by subst D;rw[d.zc] at q;exact m q.symm
 have Y:=I cb (by rw[d.zc];decide);have U: ∀b,f.ag=some b->b<m.size:=λb F=>L.lt F
 have aw: ∀ {c H:Nat},z c=H->H≠0->hZ z f 4 c=H:=λk V=>qI I d.zq M k V
 refine Q n f (hZ z f 4) ⟨T,aw d.zc (by decide),?_,λy e=>aw (d.zs y e) (by decide),?_,λy e=>aw (d.zm y e) (by decide),?_,λy e=>aw (d.zp y e) (by decide),?_,λy e=>qH e⟩ ?_ λc k=>?_
 ·exact(d.st.dI o λy e=>w y 5 (d.zs y e) (by decide)).dI r λy e=>G y 5 (d.zs y e) (by decide)
 ·exact(d.more.mod o λy e=>w y 2 (d.zm y e) (by decide)).mod r λy e=>G y 2 (d.zm y e) (by decide)
 ·exact(d.au.mod o λy e=>w y 3 (d.zp y e) (by decide)).mod r λy e=>G y 3 (d.zp y e) (by decide)
 ·refine L.mod r λb F D=>?_
  grind
 ·exact(o.aj λc _ k=>by rw[d.zq c k];decide).trans (r.aj λc _ k=>by grind)
 ·exact qJ d.zq (by decide) M (λb F=>by have:=U b F;omega) k
def iY(t:bF)(a b c:Sl)(y:Nat):Prop:=(t.prog.steps≠ []/\a.ag=some y)\/(t.aK≠ []/\b.ag=some y)\/(t.ar≠ []/\c.ag=some y)
open Classical in
noncomputable def ky (z:Nat->Nat) (t:bF) (a b c:Sl):Nat->Nat:=λy=>if iY t a b c y then 5 else z y
theorem KW.lt {t:bF}{a b c:Sl}(f:KW h t a b c){y:Nat}(j:iY t a b c y):y<h.size:=by
 rcases j with⟨d,e⟩|⟨d,e⟩|⟨d,e⟩
 ·exact f.steps.kV d e
 ·exact f.aK.kV d e
 ·exact f.ar.kV d e
theorem Fs.lU {n:aa}{t:bF}{f j k:Sl}(e:Fs h cb z x C)(H: ∀c,z c≠0->c<h.size)(w:Ext h n)(D:KW n t f j k)(fr: ∀y,f.ag=some y\/j.ag=some y\/k.ag=some y->h.size<=y){K:aa->Prop}
  (I: ∀o E,Fs o cb E {x with a:=f,b:=j,c:=k} {C with st:=t}->Mod (λc=>z c≠0) h o->Mod (· =cb) n o->(∀ c,E c≠0->z c≠0\/(h.size<=c/\c<o.size))->K o):
  aW n ((⟨cb,0,none⟩:Q6).add 19) (t.V f j k).l K:=by
 have q:=e.on w;have J:(⟨cb,0,none⟩:Q6).add 19=⟨cb,19,none⟩:=rfl;rw[J];refine aW.mk q.ag (of_decide_eq_true rfl) λL M m Q=>?_
 have S:=H cb (by rw[e.zc];decide);have P: ∀y,iY t f j k y->h.size<=y:=λy d=>fr y (by
  rcases d with⟨_,h⟩|⟨_,h⟩|⟨_,h⟩
  ·exact .inl h
  ·exact .inr (.inl h)
  ·exact .inr (.inr h))
 have u: ∀c v,z c=v->v≠1-> ¬c=cb:=λc v F n G=>by subst G;rw[e.zc] at F;exact n F.symm
 have aw: ∀ {c r:Nat},z c=r->r≠0->ky z t f j k c=r:=λ{c r} p T=>by
  unfold ky
  grind
 refine I L (ky z t f j k) ⟨M,aw e.zc (by decide),?_,λy d=>if_pos d,q.more.mod m λy d=>u y 2 (e.zm y d) (by decide),λy d=>aw (e.zm y d) (by decide),q.au.mod m λy d=>u y 3 (e.zp y d) (by decide),λy d=>aw (e.zp y d) (by decide),q.conds.mod m λy d=>u y 4 (e.zq y d) (by decide),λy d=>aw (e.zq y d) (by decide)⟩ ?_ m λc p=>?_
 ·exact D.dI m λy d G=>by grind
 ·exact w.mod.trans (m.aj λc _ p=>by grind)
 ·unfold ky at p;split at p
  ·rename_i d;exact .inr ⟨P c d,by have:=D.lt d;have:=m.size;omega⟩
  ·exact .inl p
theorem Fs.ld(b:Fs h cb z x C):Cells h ((⟨cb,0,none⟩:Q6).add 19) (C.st.V x.a x.b x.c).l:=by have c:(⟨cb,0,none⟩:Q6).add 19=⟨cb,19,none⟩:=rfl;rw[c];exact EN b.ag rfl
theorem LW.out(b:LW B g h s a N sh l mp O){c:Nat}(d:O c):c<h.size/\g.size<=c:=by
 obtain⟨e,f,st,m,j,nn,C,k,n,o,p,out⟩:=b
 simp_all
structure CW (B:bV) (g h:aa) (s a N sh:Nat) (l:List Hs) (i:Nat) (y:Hs) (mp:List Pr) (O:Nat->Prop) (cb:Nat) (z:Nat->Nat) (x:fi) (C:bC):Prop where
 w:LW B g h s a N sh (l.set i y) mp (λc=>O c\/z c≠0)
 il:i<l.length
 no: ∀c,z c≠0-> ¬O c
 hp:x.hp=y.p
 bI:Fs h cb z x C
theorem CW.iz(b:CW B g h s a N sh l i y mp O cb z x C): ∀c,z c≠0->c<h.size:=λc d=>(b.w.out (.inr d)).1
theorem CW.zfr(b:CW B g h s a N sh l i y mp O cb z x C): ∀c,z c≠0->bo g O c:=λc d=>⟨(b.w.out (.inr d)).2,b.no c d⟩
theorem CW.frame {b:aa}(d:CW B g h s a N sh l i y mp O cb z x C)(m:Mod (λc=>z c≠0) h b):Mod (bo g O) h b:=m.aj λc _ e=>d.zfr c e
theorem CW.step {d:aa}{f:Nat->Nat}{x':fi}{j:bC}(b:CW B g h s a N sh l i y mp O cb z x C)(m:Mod (λc=>z c≠0) h d)(n: ∀c,f c≠0->z c≠0\/(h.size<=c/\c<d.size))(o:x'.hp=x.hp)(p:Fs d cb f x' j):CW B g d s a N sh l i y mp O cb f x' j:=
 ⟨b.w.own (m.aj λc _ e=> .inr e) λc e=>by
   grind,
  b.il,λc e k=>by
   rcases n c e with h|h
   ·exact b.no c h k
   ·have:=(b.w.out (.inl k)).1;omega,
  o.trans b.hp,p⟩
theorem CW.on {c:aa}(b:CW B g h s a N sh l i y mp O cb z x C)(m:Ext h c):CW B g c s a N sh l i y mp O cb z x C:=⟨b.w.on m,b.il,b.no,b.hp,b.bI.on m⟩
theorem CW.wider {e:aa}{O':Nat->Prop}(b:CW B g h s a N sh l i y mp O cb z x C)(m:Mod O h e)(j: ∀c,O' c->O c\/(h.size<=c/\c<e.size)):CW B g e s a N sh l i y mp O' cb z x C:=
 ⟨b.w.own (m.aj λc _ d=> .inl d) λc d=>by
   grind,
  b.il,λc d f=>by
   rcases j c f with h|h
   ·exact b.no c d h
   ·have:=b.iz c d;omega,
  b.hp,b.bI.mod m λc d f=>b.no c d f⟩
end
theorem uN {h:aa}{b:Nat}{T:Q7}{fr:Nat×Nat}{c:Ev}(d:h[b]? =some (J2 c.c T fr)):ah h (⟨b,0,none⟩:Q6)=some (J6 J9 c.id)/\ah h ((⟨b,0,none⟩:Q6).add 1)=some (J6 J9 c.kind)/\ah h ((⟨b,0,none⟩:Q6).add 2)=some (J6 J9 c.tick)/\ah h ((⟨b,0,none⟩:Q6).add 3)=some (J6 J9 c.ref)/\ah h ((⟨b,0,none⟩:Q6).add 4)=some (J6 J9 c.step)/\ah h ((⟨b,0,none⟩:Q6).add 5)=some (J6 J9 c.turn)/\ah h ((⟨b,0,none⟩:Q6).add 6)=some (J3 c.aV)/\ah h ((⟨b,0,none⟩:Q6).add 7)=some (J7 c.data):=
 ⟨AL d rfl,AB d rfl,AB d rfl,AB d rfl,AB d rfl,AB d rfl,AB d rfl,AB d rfl⟩
end Go.Lf.G
namespace Go.Lf
open G
open Go
open M (Sorted Ab Bw Av Ac Am BF Ah bz Az aP Ay)
theorem Cells.lV {h:aa}{a:Q6}{t:bR}(c:Cells h a t.l):ah h a=some (J4 t.steps.p t.steps.len t.steps.cap)/\ah h (a.add 1)=some (J6 J9 t.aG)/\ah h (a.add 2)=some (J6 J9 t.status)/\ah h (a.add 3)=some (J6 J9 t.next)/\ah h (a.add 4)=some (J6 J9 t.bA)/\ah h (a.add 5)=some (J6 J9 t.asked)/\ah h (a.add 6)=some (J6 J9 t.taken)/\ah h (a.add 7)=some (J3 t.fresh)/\ah h (a.add 8)=some (J4 t.aK.p t.aK.len t.aK.cap)/\ah h (a.add 9)=some (J4 t.ar.p t.ar.len t.ar.cap)/\ah h (a.add 10)=some (J3 t.cancel)/\ah h (a.add 11)=some (J3 t.bj):=by have b:=c 0 _ rfl;rw[add_zero] at b;exact⟨b,c 1 _ rfl,c 2 _ rfl,c 3 _ rfl,c 4 _ rfl,c 5 _ rfl,c 6 _ rfl,c 7 _ rfl,c 8 _ rfl,c 9 _ rfl,c 10 _ rfl,c 11 _ rfl⟩
end Go.Lf
namespace Go.Lf.G
open Go
open M (Sorted Ab Bw Av Ac Am BF Ah bz Az aP Ay)
structure Hs.dH (y y':Hs):Prop where
 p:y'.p=y.p
 name:y'.name=y.name
 f:y'.f=y.f
 u: ∀m,y.u m<=y'.u m/\y'.u m<=y.u m+1
theorem Hs.dH.refl(y:Hs):y.dH y:=⟨rfl,rfl,rfl,λ_=>⟨A0 _,BY _⟩⟩
def eE(y c:Hs)(b d:Nat):Prop:= ∃v,y.u b<v/\v<=c.u b/\d=y.f b*16777216+v
def qK(y b:Hs)(C c:bC)(d:Nat):Prop:=c.err=0->y.f C.aq≠0->eE y b C.aq d
section
variable {A : ak} {B : bV} {g h : aa} {s a N sh cb : Nat} {l : List Hs} {mp : List Pr} {O : Nat -> Prop} {i : Nat} {y : Hs} {z : Nat -> Nat} {x : fi} {C : bC} {R : A2H}
theorem CW.put {N':Nat}(W:CW B g h s a N sh l i y mp O cb z x C)(b:N<=N')(c:N'<=1000000)(d:64*a<=B.C):CW B g h s a N' sh l i y mp O cb z x C:=⟨W.w.put (A0 _) d b c,W.il,W.no,W.hp,W.bI⟩
theorem CW.at(b:CW B g h s a N sh l i y mp O cb z x C):(l.set i y)[i]? =some y:=HN b.il
theorem CW.lw {d:aa}{f j:Nat}{k:List Pr}{e:Hs}(b:CW B g h s a N sh l i y mp O cb z x C)(n:LW B g d s j f sh ((l.set i y).set i e) k (λc=>O c\/z c≠0))(m:Mod (bo g (λc=>O c\/z c≠0)) h d)(o:e.p=y.p):CW B g d s j f sh l i e k O cb z x C:=
 ⟨by rw[List.set_set] at n;exact n,b.il,b.no,b.hp.trans o.symm,b.bI.mod m λc p q=>q.2 (.inr p)⟩
theorem ART {t:bR}(c: ∀b,Ext h b->R (J3 (decide (t.next<=497))) b):AA A P QO #[t.v] h R:=by refine AD3 ?_;unfold WY;exact ao.mk λd _ e f j=>AC.mk (AB e rfl) (c d f)
theorem AQV {wid:A2I}{j:Nat}{k m now:Int}{n:Bool}{w:Sl}{st:bF}{d e f:Sl}(F:LW B g h s a N sh (l.set i y) mp (λc=>O c\/iY st d e f c))(S:i<l.length)(G:KW h st d e f)(no: ∀c,iY st d e f c-> ¬O c)
  (H: ∀D cb z x,CW B g D s a N sh l i y mp O cb z x (PW wid j k m n st now)->Ext h D->R (Ak cb) D):
  AA A P Ot #[Ak y.p,(⟨wid,(j:Int),⟨k,m,n⟩,w,st.V d e f⟩:bZ).v,J6 J9 now] h R:=by
 refine ABm ?_;unfold VJ;refine ao.mk λp _ I J ag=>I7.mk ⟨wid,(j:Int),⟨k,m,n⟩,w,st.V d e f⟩ (EN I rfl) ?_
 have T:(⟨h.size,0,none⟩:Q6).add 6=⟨h.size,6,none⟩:=rfl;rw[T];refine Bo.mk (st.V d e f) (EN I rfl) ?_;refine ao.mk λq _ U V ah=>?_
 have t:Ext h q:=J.trans V
 let x:fi:=⟨y.p,w,st.V d e f,d,e,f,⟨none,0,0⟩,⟨none,0,0⟩,⟨none,0,0⟩⟩
 let u:bC:= {PW wid j k m n st now with err:=0}
 let z:Nat->Nat:=λc=>if c=p.size then 1 else ky (λ_=>0) st d e f c
 have W: ∀c,iY st d e f c->c<h.size:=λc b=>G.lt b
 have X: ∀c,z c≠0->c=p.size\/iY st d e f c:=λc b=>by
  by_cases r:c=p.size
  ·exact .inl r
  ·have b:ky (λ_=>0) st d e f c≠0:=by grind
   unfold ky at b;split at b
   ·rename_i Y;exact .inr Y
   ·exact absurd rfl b
 have Z:Fs q p.size z x u:=⟨U,if_pos rfl,(G.ext t),λc b=>by
   have:=W c b;show z c=5;exact(if_neg (by omega)).trans (if_pos b),Own.nil,λc b=>by simp[x,Sl.ag] at b,Own.nil,λc b=>by simp[x,Sl.ag] at b,Own.nil,λc b=>by simp[x,Sl.ag] at b⟩
 have E:CW B g q s a N sh l i y mp O p.size z x u:=⟨F.own t.mod λc b=>by
   grind,S,λc b L=>by
   rcases X c b with h|h
   ·have:=(F.out (.inl L)).1;omega
   ·exact no c h L,rfl,Z⟩
 refine ai.mk λK M=>ai.mk λaa ab=>?_
 have key: ∀v:Bool,(v=true↔now<0\/1099511611776<now)->aa (v,()) q:=λv ac=>by
  refine ab _ _ (af.intro (λo=>?_) (λo=>?_))
  ·refine E.bI.err λae D3 Q aj=>M _ _ (H ae _ z x ?_ (t.more Q λc b=>by subst b;exact J.size))
   have r:PW wid j k m n st now= {u with err:=1}:=by have:PW wid j k m n st now= {PW wid j k m n st now with err:=if now<0\/1099511611776<now then 1 else 0}:=rfl;rw[this,if_pos (ac.1 o)]
   rw[r];exact E.step (Q.aj λc _ b=>by grind) (λc b=> .inl b) rfl D3
  ·have o:v=false:=o;refine M _ _ (H q _ z x ?_ t);have r:PW wid j k m n st now=u:=by have:PW wid j k m n st now= {PW wid j k m n st now with err:=if now<0\/1099511611776<now then 1 else 0}:=rfl;rw[this,if_neg λh=>by grind]
   rw[r];exact E
 refine af.intro (λo=>key true (by simp at o;simp[o])) (λo=>key _ (by simp at o;simp;omega))
theorem AQY(b:CW B g h s a N sh l i y mp O cb z x C)(d:0<=C.st.next/\C.st.next<=501)(c:R (J6 J9 (Wp C)) h):AA A P JJ #[Ak cb] h R:=by refine Tt ?_;unfold NA;refine aE (AC.mk (CL b.bI.ag rfl) ?_);rw[wrap_i64 (by omega) (by omega)];exact c
theorem mI {e:Ev}{an:Nat}(f:CW B g h s a N sh l i y mp O cb z x C)(ap:Ec C.st an)(aq:an<=600)(hd:e.data.size<1099511627776)(ar:kg e.kind)(aL:C.more.length<1000)
  (S: ∀Y aM x',CW B g Y s a N sh l i y mp O cb aM x' (EC C e)->Mod (bo g O) h Y->R (J1 #[]) Y):AA A P Dm #[Ak cb,e.v] h R:=by
 refine UN ?_;unfold Nu;refine ao.mk λaN _ aO u a9=>aE (AC.mk (CS (f.on u).bI.ag rfl) (af.intro (λd=>?_) (λd=>?_)))
 ·have d:C.err≠0:=by simpa using d
  refine S aN z x ?_ u.mod;unfold EC;rw[if_pos d];exact f.on u
 have Z:C.err=0:=by simpa using d
 have au: ∀c,z c≠0-> ¬c=h.size:=λc n e=>by have:=f.iz c n;omega
 refine aE (AC.mk (CL (f.on u).bI.ag rfl) (aE (AC.mk (CS (f.on u).bI.ag rfl) ?_)));refine ae.cN (j:=0) (eY:=({e with id:=if 1>C.st.next then 1 else C.st.next}:Ev).c) aO (of_decide_eq_true rfl) rfl λba aP av bb=>⟨CS ((f.on u).bI.mod av au).ag rfl,?_⟩
 refine ae.cN (j:=2) (eY:=(Ce C e).c) aP (of_decide_eq_true rfl) rfl λab aw aQ bc=>?_
 have ac:Ext h ab:=u.more (av.trans aQ) λc n=>by omega
 refine ai.mk λK aR=>?_
 have key: ∀(T:Bool) (D:aa),Ext ab D->(T=true↔C.more= []/\ju C.st=false/\e.kind≠18)->K (T,()) D:=λT D ag ax=>by
  have J:=ac.trans ag;have F:=f.on J;have U:=ag.ag aw λh=>h
  refine aR _ _ (af.intro (λd=>?_) (λd=>?_))
  ·refine aE (F.bI.err λk aS aT aU=>?_);have ay:Mod (λc=>z c≠0) D k:=aT.aj λc _ n=>by subst n;rw[f.bI.zc];decide
   refine S k z x ?_ (J.mod.trans (F.frame ay));unfold EC;rw[if_neg (by simp[Z]),if_pos (ax.1 d)];exact F.step ay (λc n=> .inl n) rfl aS
  have d:T=false:=d;have az: ¬(C.more= []/\ju C.st=false/\e.kind≠18):=λh=>by rw[ax.2 h] at d;cases d
  refine ai.mk λaV aX=>aE (Bo.mk (C.st.V x.a x.b x.c) F.bI.ld (NS.mk (Ce C e) (Qu U) ?_))
  have aA: ∀(k:aa) (ah:Nat) (o p q:Sl),Ext D k->k[ah]? =some (J2 ((Bj C.st (Ce C e)).2.V o p q).c CB (0,0))->KW k (Bj C.st (Ce C e)).2 o p q->(∀ y,o.ag=some y\/p.ag=some y\/q.ag=some y->h.size<=y)->
    aV (some ⟨ah,0,none⟩,(Bj C.st (Ce C e)).1,()) k:=λk ah o p q m aY L fr=>by
   have aj:=J.trans m;have ak:=f.on aj;refine aX _ _ (af.intro (λd=>?_) (λd=>?_))
   ·have d:(Bj C.st (Ce C e)).1≠0:=by simpa using d
    refine aE (ak.bI.err λG al V aC=>?_);have W:Mod (λc=>z c≠0) k G:=V.aj λc _ n=>by subst n;rw[f.bI.zc];decide
    refine S G z x ?_ (aj.mod.trans (ak.frame W));unfold EC;rw[if_neg (by simp[Z]),if_neg az,if_pos d];exact ak.step W (λc n=> .inl n) rfl al
   have aZ:(Bj C.st (Ce C e)).1=0:=by simpa using d
   refine aE (Bo.mk ((Bj C.st (Ce C e)).2.V o p q) (IU aY) (aE (f.bI.lU f.iz aj L fr λG bd al V W a0=>?_)));have aD:=f.step (x':= {x with a:=o,b:=p,c:=q}) V a0 rfl al;have M:=W.ag (m.ag U λh=>h) (λe=>au cb (by rw[f.bI.zc];decide) e.symm);refine aE (Ad.mk (s:=x.more) (CS aD.bI.ag rfl) (NS.mk (Ce C e) (Qu M) (ao.mk λH _ v aF aG=>?_)));have Q:=aD.on aF;refine⟨CS Q.bI.ag rfl,?_⟩;have a1:View ct H ⟨some ⟨G.size,0,none⟩,1,1⟩ [Ce C e]:=(Own.lit (E:=ct) (l:= [Ce C e]) v rfl (by simp[maxLen])).view;refine Q.bI.lT Q.iz a1 aL λa2 aH a3 a4 aI a5=>?_
   have a6:=Q.step (x':= {x with a:=o,b:=p,c:=q,more:=aH}) aI a5 rfl a4;refine S a2 a3 {x with a:=o,b:=p,c:=q,more:=aH} ?_ ((f.frame V).trans (aF.mod.trans (Q.frame aI)));have a7:EC C e= {C with st:=(Bj C.st (Ce C e)).2,more:=C.more++ [Ce C e]}:=by unfold EC;rw[if_neg (by simp[Z]),if_neg az,if_neg (by simp[aZ])]
   rw[a7];exact a6
  have be:=ac.size;have bf:=ag.size;constructor
  ·refine qC F.bI.st ap aq hd ar λk o p q m L I=>Ju.mk _ ⟨_,rfl,ao.mk λG _ M t aC=>⟨uN ((m.trans t).ag U λh=>h),(f.on ((J.trans m).trans t)).bI.ld.lV,aW.mk M (A0 12) λH v X aG=>?_⟩⟩
   rw[Ph] at v;have aJ:Ext k H:=t.more X λc n=>by omega
   exact aA H k.size o p q (m.trans aJ) v (L.ext aJ) λy r=>by have:=I y r;omega
  ·refine ao.mk λG _ M t aC=>⟨uN (t.ag U λh=>h),(f.on (J.trans t)).bI.ld.lV,?_⟩
   refine qC (F.bI.st.ext t) ap aq hd ar λk o p q m L I=>Ju.mk _ ⟨_,rfl,aW.mk (m.ag M λh=>h) (A0 12) λH v X aG=>?_⟩
   rw[Ph] at v;have aU:=m.size;have a8:=L.mod X (λy r e=>by have:=I y (.inl r);omega) (λy r e=>by have:=I y (.inr (.inl r));omega) (λy r e=>by have:=I y (.inr (.inr r));omega);exact aA H D.size o p q ((t.trans m).more X λc n=>by omega) v a8 λy r=>by have:=I y r;omega
 have am:=f.on ac;refine aE (Ad.mk (s:=x.more) (CS am.bI.ag rfl) ?_);have aK:=am.bI.more.len;refine af.intro (λd=>?_) (λd=>?_)
 ·have d:C.more= []:=by simp at d;exact DA (by omega)
  refine aE (Bo.mk (C.st.V x.a x.b x.c) am.bI.ld (ART λk m=>⟨_,rfl,?_⟩));refine af.intro (λw=>?_) (λw=>?_)
  ·have w:ju C.st=false:=by unfold ju;simpa using w
   refine AC.mk (AB (m.ag aw λh=>h) rfl) (key _ k m ?_);simp[d,w,Ce]
  ·have w:ju C.st=true:=by unfold ju;simpa using w
   refine key _ k m ?_;simp[w]
 ·have d:C.more≠ []:=λh=>by rw[h] at aK;simp[aK] at d
  refine key _ ab Mod.refl ?_;simp[d]
theorem uO {t:dF}{tick:Int}(r:CW B g h s a N sh l i y mp O cb z x C)(V:C.aq<256)(aq:y.f C.aq<=2147483647)(ar:y.u C.aq+1<16777216)(H:N+1<=1000000)(J:64*a<=B.C)(av:C.au.length<1000)(a7:tick<9223372036854775808)
  (L: ∀M aw x' e d,CW B g M s a (N+1) sh l i e mp O cb aw x' (ER C ⟨t.kind,t.ref,t.turn⟩ tick d)->y.dH e->qK y e C (ER C ⟨t.kind,t.ref,t.turn⟩ tick d) d->Mod (bo g O) h M->R (J1 #[]) M):AA A P Gc #[Ak cb,t.v,J6 J9 tick] h R:=by
 refine Tc ?_;unfold NG;refine ao.mk λax _ ay w a8=>aE (AC.mk (CS (r.on w).bI.ag rfl) (af.intro (λb=>?_) (λb=>?_)))
 ·have b:C.err≠0:=by simpa using b
  have D:ER C ⟨t.kind,t.ref,t.turn⟩ tick 0=C:=by unfold ER;rw[if_pos b]
  refine L ax z x y 0 (by rw[D];exact(r.on w).put (by omega) H J) (Hs.dH.refl y) (λE=>absurd (by rw[D] at E;exact E) b) w.mod
 have W:C.err=0:=by simpa using b
 refine aE (AJ.mk (n:=C.wid) (CS (r.on w).bI.ag rfl) (ae.cN (j:=1) (eY:=({t with wid:=C.wid}:dF).c) ay (of_decide_eq_true rfl) rfl λaz aA aC a9=>?_));have aD:Ext h az:=w.more aC λc q=>by omega
 refine jv.mk ({t with wid:=C.wid}:dF) (EN aA rfl) (ARB λF aF=>⟨_,_,rfl,?_⟩);have Q:=aD.trans aF;have f:=r.on Q;cases X:KF ⟨t.kind,t.ref,t.turn⟩ C.wid with
 |false=>
  refine af.yes rfl (aE (f.bI.err λY aG aH ba=>?_));have Z:Mod (λc=>z c≠0) F Y:=aH.aj λc _ q=>by subst q;rw[r.bI.zc];decide
  have D:ER C ⟨t.kind,t.ref,t.turn⟩ tick 0= {C with err:=1}:=by unfold ER;rw[if_neg (by simp[W]),if_pos X]
  refine L Y z x y 0 ?_ (Hs.dH.refl y) (λE=>by rw[D] at E;exact absurd (show(1:Int)=0 from E) (by decide)) (Q.mod.trans (f.frame Z));rw[D];exact(f.step Z (λc q=> .inl q) rfl aG).put (by omega) H J
 |true=>
  refine af.no rfl ?_;have aI:ah F (⟨cb,0,none⟩:Q6)=some (Ak y.p):=by have:=CS (j:=0) f.bI.ag rfl;rw[add_zero,r.hp] at this;exact this
  refine aE (AY.mk aI (aE (AC.mk (CL f.bI.ag rfl) ?_)));have ab: ∀(k:aa) (e:Hs) (d:Nat),CW B g k s a (N+1) sh l i e mp O cb z x C->y.dH e->(y.f C.aq≠0->eE y e C.aq d)->Mod (bo g O) F k->(∃ S:Int,Value.int .u64 (d:Int)= .int .u64 S/\(
    At (some (⟨cb,0,none⟩:Q6)) λaJ=>
    AC J9 k ((aJ.add 1).add 1) λaK=>
    AA A P KU #[J6 J9 aK,.int .u64 S] k λv2 u=> ∃ac:A2I,v2=J7 ac/\(
    ai (λ(s:A2I×Unit) o=>
      At (some (⟨cb,0,none⟩:Q6)) λaL=>
      Ad o (aL.add 32) λT=>
      ao o (J2 #[J7 s.1,J7 (if true then MU ⟨t.kind,t.ref,t.turn⟩ C.wid else⟨#[]⟩),J3 false] AQ) λaM U=>
      BK A P (Builtin.append_ #[AR,AR] AR #[J4 T.p T.len T.cap,J4 (some (⟨aM,0,none⟩:Q6)) 1 1]) U λaN aO=> ∃v:Sl,aN=J4 v.p v.len v.cap/\(
      At (some (⟨cb,0,none⟩:Q6)) λaP=>
      ae aO (aP.add 32) (J4 v.p v.len v.cap) λaQ=>
      R (J1 #[]) aQ)) λK=>
     af (decide (tick>=(0:Int))) (
      At (some (⟨cb,0,none⟩:Q6)) λaR=>
      AC J9 u ((aR.add 1).add 1) λaS=>
      AA A P OZ #[J6 J9 aS,J6 J9 tick,.int .u64 S] u λaT aU=> ∃ag:A2I,aT=J7 ag/\(
      K (ag,()) aU)) (
      K (ac,()) u)))):=λk e d aj aV aW aX=>by
   refine⟨_,rfl,aE (AC.mk (CL aj.bI.ag rfl) (AQD V λu ak=>⟨_,rfl,ai.mk λK aY=>?_⟩))⟩;have al:=aj.on ak;have key: ∀(o:aa),Ext u o->K (LJ C.aq tick d,()) o:=λo I=>by
    have G:=al.on I;refine aY _ _ (aE (Ad.mk (s:=x.au) (CS G.bI.ag rfl) ?_));refine G.bI.fZ (p:=⟨LJ C.aq tick d,MU ⟨t.kind,t.ref,t.turn⟩ C.wid,false⟩) G.iz av λU am aZ a0 an a1=>?_
    have a2:=G.step (x':= {x with au:=am}) an a1 rfl a0;refine L U aZ {x with au:=am} e d ?_ aV (λ_=>aW) (Q.mod.trans (aX.trans ((ak.trans I).mod.trans (G.frame an))));unfold ER;rw[if_neg (by simp[W]),if_neg (by simp[X])];exact a2
   refine af.intro (λb=>?_) (λb=>?_)
   ·have b:0<=tick:=by simpa using b
    obtain⟨n,rfl⟩: ∃n:Nat,tick=n:=⟨tick.toNat,by omega⟩;refine aE (AC.mk (CL al.bI.ag rfl) (AP7 V (by omega) λo I=>⟨_,rfl,?_⟩));have:=key o I;unfold LJ at this;rw[if_neg (by omega),AF] at this;exact this
   ·have b:tick<0:=by simp at b;omega
    have:=key u Mod.refl;unfold LJ at this;rw[if_pos b] at this;exact this
  refine f.w.number f.at aq ar H (λa3=>?_) λbb k a4 ap=>?_
  ·exact ab F y 0 (f.put (by omega) H J) (Hs.dH.refl y) (λh=>absurd a3 h) Mod.refl
  ·have a5:Mod (bo g O) F k:=ap.aj λc _ q=>⟨q.1,λa6=>q.2 (.inl a6)⟩
   exact ab k (y.jJ C.aq) _ (f.lw a4 ap rfl) ⟨rfl,rfl,rfl,λm=>by
    show _<=dX y.u C.aq (y.u C.aq+1) m/\dX y.u C.aq (y.u C.aq+1) m<=_
    grind [dX]⟩ (λ_=>⟨_,Hj _,by show _<=dX y.u C.aq (y.u C.aq+1) C.aq;grind [dX],rfl⟩) a5
theorem ARx {t:dF}(k:CW B g h s a N sh l i y mp O cb z x C)(m:C.aq<256)(n:y.f C.aq<=2147483647)(o:y.u C.aq+1<16777216)(p:N+1<=1000000)(q:64*a<=B.C)(r:C.au.length<1000)
  (u: ∀b e f c d,CW B g b s a (N+1) sh l i c mp O cb e f (ER C ⟨t.kind,t.ref,t.turn⟩ (-1) d)->y.dH c->qK y c C (ER C ⟨t.kind,t.ref,t.turn⟩ (-1) d) d->Mod (bo g O) h b->R (J1 #[]) b):AA A P JY #[Ak cb,t.v] h R:=by
 refine Ti ?_;unfold NI;refine ao.mk λG _ v j H=>jv.mk t (EN v rfl) (uO (k.on j) m n o p q r (by decide) λb e f c d w D E F=>⟨rfl,u b e f c d w D E (j.mod.trans F)⟩)
theorem uP {t:dF}{tick:Int}(k:CW B g h s a N sh l i y mp O cb z x C)(m:C.aq<256)(n:y.f C.aq<=2147483647)(o:y.u C.aq+1<16777216)(p:N+1<=1000000)(q:64*a<=B.C)(r:C.au.length<1000)(G:tick<9223372036854775808)
  (u: ∀b e f c d,CW B g b s a (N+1) sh l i c mp O cb e f (ER C ⟨t.kind,t.ref,t.turn⟩ (if(0:Int)>tick then 0 else tick) d)->y.dH c->qK y c C (ER C ⟨t.kind,t.ref,t.turn⟩ (if(0:Int)>tick then 0 else tick) d) d->Mod (bo g O) h b->R (J1 #[]) b):AA A P IP #[Ak cb,t.v,J6 J9 tick] h R:=by
 refine WJ ?_;unfold PP;refine ao.mk λH _ v j I=>jv.mk t (EN v rfl) (uO (k.on j) m n o p q r (by split<;>omega) λb e f c d w D E F=>⟨rfl,u b e f c d w D E (j.mod.trans F)⟩)
theorem ANy {key val:A2I}(b:CW B g h s a N sh l i y mp O cb z x C)(k:C.conds.length<1000)(m:C.au.length<1000)
  (n: ∀d o x',CW B g d s a N sh l i y mp O cb o x' (pg C key val)->Mod (bo g O) h d->R (J1 #[]) d):AA A P JO #[Ak cb,J7 key,J7 val] h R:=by
 refine Tf ?_;unfold Mk;dsimp only[At];refine Ad.mk (s:=x.conds) (CS b.bI.ag rfl) ?_;refine b.bI.iO (p:=⟨key,⟨#[]⟩,true⟩) b.iz k λF e G q f r=>?_
 have c:=b.step (x':= {x with conds:=e}) f r rfl q;refine Ad.mk (s:=x.au) (CS c.bI.ag rfl) ?_;refine c.bI.fZ (p:=⟨key,val,false⟩) c.iz m λt u v w j D=>?_
 have E:=c.step (x':= {x with conds:=e,au:=u}) j D rfl w;exact n t v _ E ((b.frame f).trans (c.frame j))
theorem ARK(r:CW B g h s a N sh l i y mp O cb z x C)(I:0<=C.st.next/\C.st.next<=501)
  (t: ∀n,Ext h n->R (⟨0,(Df C).1,(Df C).2,⟨0,⟨#[]⟩,0,0⟩,⟨#[]⟩,⟨none,0,0⟩⟩:bY).v n):AA A P G7 #[Ak cb] h R:=by
 refine Qj ?_;unfold Ko;refine ao.mk λo _ u p J=>?_
 have b:=(r.on p).bI;refine aE (AC.mk (CL b.ag rfl) (ai.mk λK v=>?_));have q: ∀nx:Int,nx=(Df C).2->K (nx,()) o:=λnx w=>by
  subst w;refine v _ _ (aE (AC.mk (CL b.ag rfl) (aW.mk u (A0 9) λD E F L=>?_)));refine GR.mk ⟨0,C.st.status,(Df C).2,⟨0,⟨#[]⟩,0,0⟩,⟨#[]⟩,⟨none,0,0⟩⟩ (EN E rfl) ?_;exact t D (p.more F λc M=>by omega)
 refine ai.mk λG H=>?_
 have key: ∀d:Bool,d=Dl C->G (d,()) o:=λd Q=>by
  refine H _ _ (af.intro (λe=>?_) (λe=>?_))
  ·have e:d=true:=e;rw[wrap_i64 (by omega) (by omega)];refine q _ ?_
   simp_all [Df,if_pos]
  ·have e:d=false:=e;refine q _ ?_
   simp_all [Df,if_neg]
 have S:=b.more.len;unfold Dl at key;refine aE (Ad.mk (s:=x.more) (CS b.ag rfl) (af.intro (λf=>?_) (λf=>?_)));rotate_left
 ·have f:C.more= []:=by simp_all
  exact key _ (by simp[f])
 have f:C.more≠ []:=λh=>by grind
 refine aE (AC.mk (CL b.ag rfl) (af.intro (λj=>?_) (λj=>key _ (by simp at j;simp[j]))));refine aE (AZ.mk (CL b.ag rfl) (af.intro (λk=>?_) (λk=>key _ (by grind))));have k:C.st.fresh=true:=k;refine aE (AC.mk (CL b.ag rfl) (af.intro (λm=>?_) (λm=>key _ (by simp at m;simp[m]))));refine aE (AC.mk (CL b.ag rfl) (key _ ?_))
 grind
end
def Qp:Ev:=⟨0,2,0,0,0,0,false,⟨#[]⟩⟩
def EZ(C:bC)(b:Nat):bC:=if Dl C then ER (EC C Qp) ⟨1,Wp (EC C Qp),0⟩ (-1) b else C
def ly(C:bC):Int:=if(0:Int)>C.now+20 then 0 else C.now+20
def BA(C:bC)(b c:Nat):bC:=if C.more≠ []/\(EZ C b).st.status≠0 then ER (EZ C b) ⟨7,0,0⟩ (ly C) c else EZ C b
end Go.Lf.G
namespace Go.Lf
open G
open Go
open M (Sorted Ab Bw Av Ac Am BF Ah bz Az aP Ay)
structure bC.grown (C D:bC) (n k j:Nat):Prop where
 wid:D.wid=C.wid
 aq:D.aq=C.aq
 cJ:D.cJ=C.cJ
 cq:D.cq=C.cq
 kept:D.kept=C.kept
 conds:D.conds=C.conds
 now:D.now=C.now
 more:D.more.length<=C.more.length+k
 none:C.more≠ []->D.more≠ []
 au:D.au.length<=C.au.length+j
 ok: ∀e∈D.more,Dk e=true/\e.data.size<1099511627776
 st:Ec D.st n
end Go.Lf
namespace Go.Lf.G
open Go
open M (Sorted Ab Bw Av Ac Am BF Ah bz Az aP Ay)
theorem HV(C:bC)(t:gL)(tick:Int)(b:Nat):(ER C t tick b).st=C.st/\(ER C t tick b).more=C.more:=by
 unfold ER;split
 ·exact⟨rfl,rfl⟩
 ·split<;>exact⟨rfl,rfl⟩
theorem Xa {C b:bC}{r u v:Nat}(G:C.grown b r u v)(t:gL)(tick:Int)(w:Nat):C.grown (ER b t tick w) r u (v+1):=by
 obtain⟨c,d,e,f,j,k,m,n,o,D,p,q⟩:=G;unfold ER;split
 ·exact⟨c,d,e,f,j,k,m,n,o,by omega,p,q⟩
 ·split
  ·exact⟨c,d,e,f,j,k,m,n,o,by show b.au.length<=_;omega,p,q⟩
  ·exact⟨c,d,e,f,j,k,m,n,o,by show(b.au++ [_]).length<=_;rw[A1,CN];omega,p,q⟩
theorem XV {C:bC}{b:Nat}(ok: ∀c∈C.more,Dk c=true/\c.data.size<1099511627776)(d:Ec C.st b):C.grown C b 0 0:=⟨rfl,rfl,rfl,rfl,rfl,rfl,rfl,A0 _,id,A0 _,ok,d⟩
end Go.Lf.G
namespace Go.Lf
open G
open Go
open M (Sorted Ab Bw Av Ac Am BF Ah bz Az aP Ay)
theorem Ec.up {s:bF}{c m:Nat}(b:Ec s c)(h:c<=m):Ec s m:=⟨by have:=b.aK;omega,by have:=b.ar;omega,b.steps,b.aG,b.bA,b.next,b.st,b.waits⟩
end Go.Lf
namespace Go.Lf.G
open Go
open M (Sorted Ab Bw Av Ac Am BF Ah bz Az aP Ay)
theorem MM {C b:bC}{v w D:Nat}(G:C.grown b v w D){e:Ev}(hd:e.data.size<1099511627776):C.grown (EC b e) (v+1) (w+1) D:=by
 obtain⟨c,d,f,j,k,m,n,E,t,o,p,q⟩:=G;unfold EC;split
 ·exact⟨c,d,f,j,k,m,n,by omega,t,o,p,q.up (BY _)⟩
 ·split
  ·exact⟨c,d,f,j,k,m,n,by show b.more.length<=_;omega,t,o,p,q.up (BY _)⟩
  ·split
   ·exact⟨c,d,f,j,k,m,n,by show b.more.length<=_;omega,t,o,p,q.up (BY _)⟩
   ·rename_i r;have r:(Bj b.st (Ce b e)).1=0:=by simpa using r
    refine⟨c,d,f,j,k,m,n,by show(b.more++ [_]).length<=_;rw[A1,CN];omega,λ_=>by show b.more++ [_]≠ [];simp,o,λx u=>?_,UV q r⟩;have u:x∈b.more++ [Ce b e]:=u;rcases List.mem_append.1 u with h|h
    ·exact p x h
    ·rw[List.mem_singleton.1 h];exact⟨Qz r,hd⟩
structure Hs.dZ (y y':Hs):Prop where
 p:y'.p=y.p
 name:y'.name=y.name
 f:y'.f=y.f
 u: ∀m,y.u m<=y'.u m/\y'.u m<=y.u m+2
section
variable {A : ak} {B : bV} {g h : aa} {s a N sh cb : Nat} {l : List Hs} {mp : List Pr} {O : Nat -> Prop} {i : Nat} {y : Hs} {z : Nat -> Nat} {x : fi} {C : bC} {R : A2H}
theorem Fs.ptr {p:Nat}(b:Fs h cb z x C)(c:x.hp=p):ah h (⟨cb,0,none⟩:Q6)=some (Ak p):=by have:=CS (j:=0) b.ag rfl;rw[add_zero,c] at this;exact this
theorem Fs.tu(b:Fs h cb z x C):Cells h (((⟨cb,0,none⟩:Q6).add 1).add 2) (⟨C.cJ,C.cq,C.kept⟩:cV).l:=by have c:((⟨cb,0,none⟩:Q6).add 1).add 2=⟨cb,3,none⟩:=rfl;rw[c];exact EN b.ag rfl
end
end Go.Lf.G
namespace Go.Lf
open G
open Go
open M (Sorted Ab Bw Av Ac Am BF Ah bz Az aP Ay)
theorem Cells.nH {h:aa}{a:Q6}{t:cV}(c:Cells h a t.l):ah h a=some (J6 J9 t.status)/\ah h (a.add 1)=some (J6 J9 t.next)/\ah h (a.add 2)=some (J3 t.kept):=by have b:=c 0 _ rfl;rw[add_zero] at b;exact⟨b,c 1 _ rfl,c 2 _ rfl⟩
end Go.Lf
namespace Go.Lf.G
open Go
open M (Sorted Ab Bw Av Ac Am BF Ah bz Az aP Ay)
section
variable {A : ak} {B : bV} {g h : aa} {s a N sh cb : Nat} {l : List Hs} {mp : List Pr} {O : Nat -> Prop} {i : Nat} {y : Hs} {z : Nat -> Nat} {x : fi} {C : bC} {R : A2H}
theorem ARO {o:aa}{d:bC}(E:cu g)(bF:B.cm=true)(k:CW B g o s a N sh l i y mp O cb z x d)(aY:Aj d.wid=true)(bH: ∀u∈d.more,Dk u=true/\u.data.size<1099511627776)(bI:d.aq<256)(bJ:y.f d.aq<=2147483647)(hA:4+3*a<=B.A)(bK:64*a+64<=B.C)(bL:a+1<=1000000)
  (c8:d.more.length<=900) (c9:d.au.length<=900) (da:d.conds.length<=900) (bM: ∀p∈d.conds,p.key.size<=1099511627776) (db:0<=d.cJ/\d.cJ<128) (aZ:0<=d.cq/\d.cq<=501) (a0:0<=d.st.status/\d.st.status<=4) (a1:0<=d.st.next/\d.st.next<=501)
  (bN:d.err≠0-> ∀f,LW B g f s a N sh (l.set i y) mp O->Mod (bo g O) o f->R (J6 J9 d.err) f)
  (bO:d.err=0->y.f d.aq=0-> ∀f,LW B g f s a N sh (l.set i y) mp O->Mod (bo g O) o f->R (J6 J9 170) f)
  (bP:d.err=0->y.f d.aq≠0->Bv mp (FH d.aq (y.f d.aq) y.name)=false-> ∀f,LW B g f s a N sh (l.set i (y.lost d.aq)) mp O->Mod (bo g O) o f->R (J6 J9 170) f)
  (bQ:d.err=0->y.f d.aq≠0->Bv mp (FH d.aq (y.f d.aq) y.name)=true->di mp (FH d.aq (y.f d.aq) y.name::(d.conds++ [bG d])) (Et d++d.au)≠0-> ∀f,LW B g f s a N sh (l.set i y) mp O->Mod (bo g O) o f->R (J6 J9 (di mp (FH d.aq (y.f d.aq) y.name::(d.conds++ [bG d])) (Et d++d.au))) f)
  (bR:d.err=0->y.f d.aq≠0->Bv mp (FH d.aq (y.f d.aq) y.name)=true->di mp (FH d.aq (y.f d.aq) y.name::(d.conds++ [bG d])) (Et d++d.au)=0-> ∀f,LW B g f s (a+1) N sh (l.set i y) (cj mp (Et d++d.au)) O->Mod (bo g O) o f->R (J6 J9 0) f):
  At (some (⟨cb,0,none⟩:Q6)) λbS=>
    AC J9 o (bS.add 34) λbT=>
    af (bT != (0:Int)) (
     At (some (⟨cb,0,none⟩:Q6)) λbU=>
     AC J9 o (bU.add 34) λbV=>
     R (J6 J9 bV) o) (
     At (some (⟨cb,0,none⟩:Q6)) λbW=>
     AJ o (bW.add 1) λbX=>
     AA A P FV #[J7 bX] o λv1 a0=> ∃a2:A2I,v1=J7 a2/\(
     ao a0 (J2 #[J7 (⟨#[]⟩:A2I),J7 (⟨#[]⟩:A2I),J3 false] AQ) λb a1=>
     ae a1 (⟨b,0,none⟩:Q6) (J7 a2) λbY=>
     ae bY ((⟨b,0,none⟩:Q6).add 1) (J7 (⟨#[]⟩:A2I)) λbZ=>
     ae bZ ((⟨b,0,none⟩:Q6).add 2) (J3 true) λJ=>
     ai (λ(dc:Unit) v=>
       At (some (⟨cb,0,none⟩:Q6)) λb0=>
       AJ v (b0.add 1) λb1=>
       At (some (⟨cb,0,none⟩:Q6)) λb2=>
       Ad v (b2.add 31) λaF=>
       AA A P Px #[J7 b1,J4 aF.p aF.len aF.cap] v λv2 w=> ∃D:Sl,∃aG:Int,v2=J1 #[J4 D.p D.len D.cap,J6 J9 aG]/\(
       af (aG != (0:Int)) (
        R (J6 J9 aG) w) (
        ai (λ(aH:Sl×Unit) q=>
          At (some (⟨cb,0,none⟩:Q6)) λag=>
          AY q ag λaj=>
          At (some (⟨cb,0,none⟩:Q6)) λak=>
          AC J9 q ((ak.add 1).add 1) λal=>
          At (some (⟨cb,0,none⟩:Q6)) λa3=>
          Ad q (a3.add 33) λK=>
          AJ q (⟨b,0,none⟩:Q6) λb3=>
          AJ q ((⟨b,0,none⟩:Q6).add 1) λb4=>
          AZ q ((⟨b,0,none⟩:Q6).add 2) λb5=>
          At (some (⟨cb,0,none⟩:Q6)) λaI=>
          Ad q (aI.add 32) λF=>
          ao q (J2 #[J7 b3,J7 b4,J3 b5] AQ) λb6 H=>
          And (ah H (aI.add 32)=some (J4 F.p F.len F.cap))<|
          And (ah H (a3.add 33)=some (J4 K.p K.len K.cap))<|
          And (ah H ((ak.add 1).add 1)=some (J6 J9 al))<|
          And (ah H ag=some (J5 aj))<|
          BK A P (Builtin.append_ #[AR,AR] AR #[J4 K.p K.len K.cap,J4 (some (⟨b6,0,none⟩:Q6)) 1 1]) H λb7 I=> ∃L:Sl,b7=J4 L.p L.len L.cap/\(
          And (ah I (aI.add 32)=some (J4 F.p F.len F.cap))<|
          And (ah I ((ak.add 1).add 1)=some (J6 J9 al))<|
          And (ah I ag=some (J5 aj))<|
          BK A P (Builtin.append_ #[AR,AR] AR #[J4 aH.1.p aH.1.len aH.1.cap,J4 F.p F.len F.cap]) I λb8 t=> ∃M:Sl,b8=J4 M.p M.len M.cap/\(
          And (ah t ((ak.add 1).add 1)=some (J6 J9 al))<|
          And (ah t ag=some (J5 aj))<|
          AA A P Fa #[J5 aj,J6 J9 al,J4 L.p L.len L.cap,J4 M.p M.len M.cap] t λb9 ca=> ∃a4:Int,b9=J6 J9 a4/\(
          R (J6 J9 a4) ca)))) λam=>
         At (some (⟨cb,0,none⟩:Q6)) λcc=>
         Ad w (cc.add 31) λcd=>
         af (decide (((cd.len:Nat):Int)>(0:Int))) (
          At (some (⟨cb,0,none⟩:Q6)) λa5=>
          AC J9 w ((a5.add 19).add 2) λa6=>
          At (some (⟨cb,0,none⟩:Q6)) λa7=>
          AC J9 w ((a7.add 19).add 3) λa8=>
          ao w (J2 cV.z.c H7) λV an=>
          And (ah an ((a7.add 19).add 3)=some (J6 J9 a8))<|
          And (ah an ((a5.add 19).add 2)=some (J6 J9 a6))<|
          aW an (⟨V,0,none⟩:Q6) (⟨a6,a8,false⟩:cV).l λQ=>
          At (some (⟨cb,0,none⟩:Q6)) λce=>
          AJ Q (ce.add 1) λcf=>
          Jt Q (⟨V,0,none⟩:Q6) λap=>
          AA A P FV #[J7 cf] Q λcg aq=> ∃a9:A2I,cg=J7 a9/\(
          And (ah aq (⟨V,0,none⟩:Q6)=some (J6 J9 ap.status)/\ah aq ((⟨V,0,none⟩:Q6).add 1)=some (J6 J9 ap.next)/\ah aq ((⟨V,0,none⟩:Q6).add 2)=some (J3 ap.kept))<|
          AA A P Dq #[ap.v] aq λch ba=> ∃bb:A2I,ch=J7 bb/\(
          ao ba (J2 #[J7 a9,J7 bb,J3 false] AQ) λci ck=>
          BK A P (Builtin.append_ #[AR,AR] AR #[J4 D.p D.len D.cap,J4 (some (⟨ci,0,none⟩:Q6)) 1 1]) ck λcl aJ=> ∃S:Sl,cl=J4 S.p S.len S.cap/\(
          am ((⟨S.p,S.len,S.cap⟩:Sl),()) aJ)))) (
          am ((⟨D.p,D.len,D.cap⟩:Sl),()) w)))) λar=>
      At (some (⟨cb,0,none⟩:Q6)) λcm=>
      AC J9 J (((cm.add 1).add 2).add 1) λcn=>
      af (decide (cn>(0:Int))) (
       At (some (⟨cb,0,none⟩:Q6)) λco=>
       AJ J (co.add 1) λcp=>
       At (some (⟨cb,0,none⟩:Q6)) λau=>
       Jt J ((au.add 1).add 2) λav=>
       AA A P FV #[J7 cp] J λcq aw=> ∃bc:A2I,cq=J7 bc/\(
       And (ah aw ((au.add 1).add 2)=some (J6 J9 av.status)/\ah aw (((au.add 1).add 2).add 1)=some (J6 J9 av.next)/\ah aw (((au.add 1).add 2).add 2)=some (J3 av.kept))<|
       AA A P Dq #[av.v] aw λcr bd=> ∃be:A2I,cr=J7 be/\(
       ae bd (⟨b,0,none⟩:Q6) (J7 bc) λbf=>
       ae bf ((⟨b,0,none⟩:Q6).add 1) (J7 be) λbg=>
       ae bg ((⟨b,0,none⟩:Q6).add 2) (J3 false) λaK=>
       ar () aK))) (
       ar () J))):=by
 have cs: ∀ {f:aa},CW B g f s a N sh l i y mp O cb z x d->LW B g f s a N sh (l.set i y) mp O:=λct=>ct.w.less λc e=> .inl e
 refine aE (AC.mk (n:=d.err) (CS k.bI.ag rfl) (af.intro (λr=>?_) (λr=>?_)))
 ·exact aE (AC.mk (n:=d.err) (CS k.bI.ag rfl) (bN (by simpa using r) o (cs k) Mod.refl))
 have ax:d.err=0:=by simpa using r
 have dd:=Ep aY;refine aE (AJ.mk (n:=d.wid) (CS k.bI.ag rfl) (P6 (by omega) ⟨_,rfl,?_⟩));refine ao.pair λb J de bh aL df=>?_
 have ay:=k.on aL;refine ai.mk λar cv=>?_
 have bi: ∀v,Ext o v->v[b]? =some (J2 #[J7 (bG d).key,J7 (bG d).val,J3 (bG d).gone] AQ (0,0))->ar () v:=λv aM cw=>by
  have W:=k.on aM;refine cv _ _ (aE (AJ.mk (n:=d.wid) (CS W.bI.ag rfl) (aE (Ad.mk (s:=x.more) (CS W.bI.ag rfl) ?_))));refine ARt aY W.bI.more.view (by omega) bH λps w aN aO az=>⟨_,_,rfl,af.no rfl ?_⟩
  have T:=W.on az;refine ai.mk λam cx=>?_
  have bj: ∀q (sl:Sl),Ext v q->Own BO AQ q sl (Et d)->(∀ c,sl.ag=some c->v.size<=c)->am (sl,()) q:=λq sl aA aP X=>by
   have Y:=W.on aA;have aQ:=aA.ag cw λh=>h
   refine cx _ _ (aE (AY.mk (Y.bI.ptr k.hp) (aE (AC.mk (CL Y.bI.ag rfl) (aE (Ad.mk (s:=x.conds) (CS Y.bI.ag rfl) ?_))))));refine AJ.mk (AL aQ rfl) (AJ.mk (AB aQ rfl) (AZ.mk (AB aQ rfl) (aE (Ad.mk (s:=x.au) (CS Y.bI.ag rfl) (ao.mk λH _ cy Z dg=>?_)))));have G:=Y.on Z;refine⟨CS G.bI.ag rfl,CS G.bI.ag rfl,CL G.bI.ag rfl,G.bI.ptr k.hp,?_⟩;have src:View BO H ⟨some ⟨q.size,0,none⟩,1,1⟩ [bG d]:=(Own.lit (E:=BO) (l:= [bG d]) cy rfl (by simp[maxLen])).view;refine GK (E:=BO) (s:=x.conds) (src:=⟨some ⟨q.size,0,none⟩,1,1⟩) GZ G.bI.conds src (by simp only[CN];omega) (by simp only[CN,maxLen];omega) λcz I cB ab cC _=>?_
   have bk: ∀c aR,z c=aR->aR≠4-> ¬x.conds.ag=some c:=λc aR bm aZ u=>by rw[G.bI.zq c u] at bm;exact aZ bm.symm
   have aC:=ab.ag G.bI.ag (bk cb 1 k.bI.zc (by decide));have cD:ah I (⟨cb,0,none⟩:Q6)=some (Ak y.p):=by have:=CS (j:=0) aC rfl;rw[add_zero,k.hp] at this;exact this
   refine⟨CS aC rfl,CL aC rfl,cD,?_⟩;have cE:Own BO AQ I x.au d.au:=G.bI.au.mod ab λc e=>bk c 3 (G.bI.zp c e) (by decide)
   have dh:=aM.size;have dj:=aA.size;have dk:=Z.size;have dl:=ab.size;have cF:Own BO AQ I sl (Et d):=(aP.ext Z).mod ab λc e u=>by
    have:=k.iz c (by rw[k.bI.zq c u];decide);have:=X c e;omega
   have dm:(Et d).length<=901:=by unfold Et;rw[A1,AW];split<;>simp<;>omega
   refine GK (E:=BO) (s:=sl) (src:=x.au) GZ cF cE.view (by omega) (by simp only[maxLen];omega) λdn t bn aD cG _=>?_
   have cH: ∀c,sl.ag=some c-> ¬c=cb:=λc e u=>by
    have:=X c e;have:=k.iz cb (by rw[k.bI.zc];decide);omega
   have bp:=aD.ag aC (λe=>cH cb e rfl);have cI:ah t (⟨cb,0,none⟩:Q6)=some (Ak y.p):=by have:=CS (j:=0) bp rfl;rw[add_zero,k.hp] at this;exact this
   refine⟨CL bp rfl,cI,?_⟩;have cJ:Ext o H:=(aM.trans aA).trans Z;have bq:Mod (λc=>z c≠0) o t:=(cJ.mod.trans (ab.aj λc _ e=>by rw[k.bI.zq c e];decide)).then (aD.aj λc _ e=> .inr (by have:=X c e;omega));have dp:=aD.size;have aS:LW B g t s a N sh (l.set i y) mp (λc=>(O c\/z c≠0)\/(o.size<=c/\c<t.size)):=k.w.own (bq.aj λc _ e=> .inr e) λc e=>e
   have aT:Mod (bo g O) o t:=k.frame bq;have less: ∀ {f:aa} {br:Nat} {bs:List Hs} {bt:List Pr},LW B g f s br N sh bs bt (λc=>(O c\/z c≠0)\/(o.size<=c/\c<t.size))->LW B g f s br N sh bs bt O:=λU=>U.less λc e=> .inl (.inl e)
   have bu: ∀ {f:aa},Mod (bo g (λc=>(O c\/z c≠0)\/(o.size<=c/\c<t.size))) t f->Mod (bo g O) o f:=λm=>aT.trans (m.aj λc _ e=>⟨e.1,λcK=>e.2 (.inl (.inl cK))⟩)
   have cL:Own BO AQ t cz (d.conds++ [bG d]):=cB.mod aD λc e u=>by
    have:=X c u;rcases cC c e with h|h
    ·have:=k.iz c (by rw[k.bI.zq c h];decide);omega
    ·have:=(aP.ext Z).lt u;have:=aP.lt u;omega
   refine aS.change E k.at bI bJ hA bK bL cL.view (by rw[A1,CN];omega) bn.view (λ_ c e=>?_) (λp cM=>?_) (λcN=>?_) (λac cO f U aU=>?_) (λac aV hd f bv=>?_) (λe=>by rw[bF] at e;cases e) λac aV cP f U aU=>?_
   ·have lt:=bn.lt e;rcases cG c e with h|h
    ·have:=X c h;exact .inr (.inr ⟨by omega,lt⟩)
    ·exact .inr (.inr ⟨by omega,lt⟩)
   ·rcases List.mem_append.1 cM with h|h
    ·exact bM p h
    ·rw[List.mem_singleton.1 h];unfold bG;have:=MN d.wid;split<;>(dsimp only;omega)
   ·exact⟨_,rfl,bO ax cN t (less aS) aT⟩
   ·rw[List.set_set] at U;exact⟨_,rfl,bP ax ac cO f (less U) (bu aU)⟩
   ·exact⟨_,rfl,bQ ax ac aV hd f (less (aS.on bv)) (aT.trans bv.mod)⟩
   ·exact⟨_,rfl,bR ax ac aV cP f (less U) (bu aU)⟩
  have bw:=T.bI.more.len;refine aE (Ad.mk (s:=x.more) (CS T.bI.ag rfl) (af.intro (λr=>?_) (λr=>?_)))
  ·have cQ:d.more≠ []:=λh=>by rw[h] at bw;simp[bw] at r
   refine aE (AC.mk (CL T.bI.ag rfl) (aE (AC.mk (CL T.bI.ag rfl) (ao.mk λan _ cR bx dq=>?_))));have bz:=T.on bx;refine⟨CL bz.bI.ag rfl,CL bz.bI.ag rfl,aW.mk cR (A0 3) λQ cS cT dr=>?_⟩;have bA:Ext w Q:=bx.more cT λc e=>by subst e;exact A0 _
   have cU:=T.on bA;have bB:Cells Q (⟨w.size,0,none⟩:Q6) (⟨d.st.status,d.st.next,false⟩:cV).l:=EN cS rfl;refine aE (AJ.mk (n:=d.wid) (CS cU.bI.ag rfl) (Jt.mk ⟨d.st.status,d.st.next,false⟩ bB (P6 (by omega) ⟨_,rfl,bB.nH,?_⟩)));refine oA (m:=⟨d.st.status,d.st.next,false⟩) (st:=d.st.status.toNat) (nx:=d.st.next.toNat) (by show d.st.status=_;omega) (by show d.st.next=_;omega) (by omega) (by omega) λba cW=>⟨_,rfl,?_⟩
   have aX:=bA.trans cW;refine ao.bq (E:=BO) (x:=⟨Eu d.wid,I1 d.st.status.toNat d.st.next.toNat false,false⟩) (s:=ps) rfl GZ (aN.ext aX) (by simp only[AW];omega) (by simp only[AW,maxLen];omega) λcX aJ cY cZ c0 _=>?_
   refine bj aJ cX ((az.trans aX).more cZ aO) ?_ λc e=>?_
   ·unfold Et;rw[if_neg cQ];exact cY
   ·rcases c0 c e with h|h
    ·exact aO c h
    ·have:=aX.size;have:=az.size;omega
  ·have bD:d.more= []:=by simp at r;exact DA (by omega)
   refine bj w ps az ?_ aO;unfold Et;rw[bD,if_pos rfl,AN];rw[bD] at aN;exact aN
 refine aE (AC.mk (ARN ay.bI.ag rfl) (af.intro (λr=>?_) (λr=>?_)))
 ·have r:0<d.cq:=by simpa using r
  refine aE (AJ.mk (n:=d.wid) (CS ay.bI.ag rfl) (aE (Jt.mk ⟨d.cJ,d.cq,d.kept⟩ ay.bI.tu (P6 (by omega) ⟨_,rfl,ay.bI.tu.nH,?_⟩))));refine oA (m:=⟨d.cJ,d.cq,d.kept⟩) (st:=d.cJ.toNat) (nx:=d.cq.toNat) (by show d.cJ=_;omega) (by show d.cq=_;omega) (by omega) (by omega) λbd bE=>⟨_,rfl,?_⟩
  have c1:=bE.ag bh λh=>h
  refine ae.cN (j:=0) c1 (of_decide_eq_true rfl) rfl λbf c2 c3 ds=>ae.cN (j:=1) c2 (of_decide_eq_true rfl) rfl λbg c4 c5 dt=>ae.cN (j:=2) c4 (of_decide_eq_true rfl) rfl λaK c6 c7 du=>?_
  refine bi aK ((aL.trans bE).more ((c3.trans c5).trans c7) λc e=>by subst e;omega) ?_;unfold bG;rw[if_pos r];exact c6
 ·have r: ¬0<d.cq:=by simpa using r
  refine bi J aL ?_;unfold bG;rw[if_neg r];exact bh
end
theorem YH {C:bC}{t:gL}{tick:Int}{c:Nat}(h:(ER C t tick c).err=0):C.err=0:=by
 unfold ER at h;split at h
 ·rename_i b;exact absurd h b
 ·rename_i b;simpa using b
theorem Vu {C:bC}{b c:Nat}(h:(BA C b c).err=0):(EZ C b).err=0:=by
 unfold BA at h;split at h
 ·exact YH h
 ·exact h
section
variable {A : ak} {B : bV} {g h : aa} {s a N sh cb : Nat} {l : List Hs} {mp : List Pr} {O : Nat -> Prop} {i : Nat} {y : Hs} {z : Nat -> Nat} {x : fi} {C : bC} {R : A2H}
theorem uQ {b:Nat}(ok: ∀e∈C.more,Dk e=true/\e.data.size<1099511627776)(d:Ec C.st b)(f:Nat):C.grown (EZ C f) (b+1) 1 1:=by
 have c:=XV ok d;unfold EZ;split
 ·exact Xa (MM c (e:=Qp) (by show 0<1099511627776;decide)) _ _ _
 ·obtain⟨j,k,m,n,o,p,q,v,r,w,t,u⟩:=c;exact⟨j,k,m,n,o,p,q,by omega,r,by omega,t,u.up (BY _)⟩
theorem uR {n:Nat}(ok: ∀b∈C.more,Dk b=true/\b.data.size<1099511627776)(e:Ec C.st n)(c f:Nat):C.grown (BA C c f) (n+1) 1 2:=by
 have d:=uQ ok e c;unfold BA;split
 ·exact Xa d _ _ _
 ·obtain⟨j,k,m,o,p,q,r,t,u,D,v,w⟩:=d;exact⟨j,k,m,o,p,q,r,t,u,by omega,v,w⟩
theorem ANq {ak:Nat}(av:cu g)(aw:B.cm=true)(o:CW B g h s a N sh l i y mp O cb z x C)(V:Ec C.st ak)(a4:ak+1<=600)(L:Aj C.wid=true)(Z: ∀e∈C.more,Dk e=true/\e.data.size<1099511627776)(ab:C.aq<256)(r:y.f C.aq<=2147483647)(a5:y.u C.aq+2<16777216)(ac:N+2<=1000000)
  (hA:4+3*a<=B.A) (ax:64*a+64<=B.C) (ay:a+1<=1000000) (a6:C.more.length<=800) (a7:C.au.length<=800) (a8:C.conds.length<=800) (az: ∀p∈C.conds,p.key.size<=1099511627776) (aA:0<=C.cJ/\C.cJ<128) (al:0<=C.cq/\C.cq<=501) (a9: -4611686018427387904<=C.now/\C.now<=4611686018427387904)
  (aC:y.f C.aq=0->R (J6 J9 170) h)
  (aD: ∀b c d j,y.dZ d->(BA C b c).err≠0->LW B g j s a (N+2) sh (l.set i d) mp O->Mod (bo g O) h j->R (J6 J9 (BA C b c).err) j)
  (aF: ∀b c d j,y.dZ d->(BA C b c).err=0->Bv mp (FH C.aq (y.f C.aq) y.name)=false->LW B g j s a (N+2) sh (l.set i (d.lost C.aq)) mp O->Mod (bo g O) h j->R (J6 J9 170) j)
  (aG: ∀b c d j,y.dZ d->(BA C b c).err=0->Bv mp (FH C.aq (y.f C.aq) y.name)=true->di mp (FH C.aq (y.f C.aq) y.name::(C.conds++ [bG C])) (Et (BA C b c)++(BA C b c).au)≠0->LW B g j s a (N+2) sh (l.set i d) mp O->Mod (bo g O) h j->R (J6 J9 (di mp (FH C.aq (y.f C.aq) y.name::(C.conds++ [bG C])) (Et (BA C b c)++(BA C b c).au))) j)
  (aH: ∀b c d j,y.dZ d->(Dl C=true->y.f C.aq≠0->eE y d C.aq b)->(BA C b c).err=0->Bv mp (FH C.aq (y.f C.aq) y.name)=true->di mp (FH C.aq (y.f C.aq) y.name::(C.conds++ [bG C])) (Et (BA C b c)++(BA C b c).au)=0->LW B g j s (a+1) (N+2) sh (l.set i d) (cj mp (Et (BA C b c)++(BA C b c).au)) O->Mod (bo g O) h j->R (J6 J9 0) j):
  AA A P IG #[Ak cb] h R:=by
 refine Ri ?_;unfold Ky;have M:64*a<=B.C:=by omega
 refine aE (AY.mk (o.bI.ptr o.hp) (aE (AC.mk (CL o.bI.ag rfl) (o.w.holds o.at ⟨_,rfl,af.intro (λf=>aC (by simpa using f)) λf=>?_⟩))));have aI:y.f C.aq≠0:=by simpa using f
 refine ai.mk λK aJ=>?_
 have ae: ∀(q:aa) (H:Nat->Nat) (I:fi) (d:Hs) (b c:Nat),CW B g q s a (N+2) sh l i d mp O cb H I (BA C b c)->y.dZ d->((BA C b c).err=0->Dl C=true->y.f C.aq≠0->eE y d C.aq b)->Mod (bo g O) h q->K () q:=λq H I d b c J k W D=>by
  have G:=uR Z V b c;have ag:d.f (BA C b c).aq=y.f C.aq:=by rw[k.f,G.aq]
  have ah:FH (BA C b c).aq (d.f (BA C b c).aq) d.name=FH C.aq (y.f C.aq) y.name:=by rw[ag,G.aq,k.name]
  have am:bG (BA C b c)=bG C:=by unfold bG;rw[G.cq,G.cJ,G.kept,G.wid]
  refine aJ _ _ (ARO av aw J (by rw[G.wid];exact L) G.ok (by rw[G.aq];exact ab) (by rw[ag];exact r) hA ax ay (by have:=G.more;omega) (by have:=G.au;omega) (by rw[G.conds];omega) (by rw[G.conds];exact az) (by rw[G.cJ];exact aA) (by rw[G.cq];exact al) G.st.st G.st.next
   (λn j u E=>aD b c d j k n u (D.trans E)) (λ_ aK=>absurd (by rw[<- ag];exact aK) aI) (λn _ w j u E=>?_) (λn _ w hd j u E=>?_) λn _ w hd j u E=>?_)
  ·rw[ah] at w;rw[G.aq] at u;exact aF b c d j k n w u (D.trans E)
  ·rw[ah] at w hd ⊢;rw[am,G.conds] at hd ⊢;exact aG b c d j k n w hd u (D.trans E)
  ·rw[ah] at w hd;rw[am,G.conds] at hd;exact aH b c d j k (W n) n w hd u (D.trans E)
 have an:=o.bI.more.len;have aL:y.dZ y:=⟨rfl,rfl,rfl,λm=>by omega⟩;refine aE (Ad.mk (s:=x.more) (CS o.bI.ag rfl) (af.intro (λf=>?_) (λf=>?_)));rotate_left
 ·have f:C.more= []:=by simp at f;exact DA (by omega)
  have aM:Dl C=false:=by unfold Dl;rw[f];rfl
  refine ae h z x y 0 0 ?_ aL (λ_ h=>by rw[aM] at h;cases h) Mod.refl;have aN:EZ C 0=C:=by unfold EZ Dl;rw[f];rfl
  have:BA C 0 0=C:=by unfold BA;rw[aN,if_neg λh=>h.1 f]
  rw[this];exact o.put (by omega) ac M
 have ao:C.more≠ []:=λh=>by rw[h] at an;simp[an] at f
 refine ai.mk λaO aP=>?_
 have ap: ∀(q:aa) (H:Nat->Nat) (I:fi) (d:Hs) (b:Nat),CW B g q s a (N+1) sh l i d mp O cb H I (EZ C b)->y.dH d->((EZ C b).err=0->Dl C=true->y.f C.aq≠0->eE y d C.aq b)->Mod (bo g O) h q->aO () q:=λq H I d b J k W D=>by
  have G:=uQ Z V b;refine aP _ _ (aE (AC.mk (CL J.bI.ag rfl) (af.intro (λf=>?_) (λf=>?_))))
  ·have f:(EZ C b).st.status≠0:=by simpa using f
   refine aE (AC.mk (CS J.bI.ag rfl) ?_);rw[G.now,wrap_i64 (by omega) (by omega)];refine uP (t:=⟨7,⟨#[]⟩,0,0⟩) J (by rw[G.aq];exact ab) (by rw[k.f,G.aq];exact r) (by rw[G.aq];have:=k.u C.aq;omega) ac M (by have:=G.au;omega) (by omega) λj aq ar aQ c X Q ba aR=>⟨rfl,?_⟩
   refine ae j aq ar aQ b c ?_ ⟨Q.p.trans k.p,Q.name.trans k.name,Q.f.trans k.f,λm=>by have:=k.u m;have:=Q.u m;omega⟩ (λn L r=>by
    obtain⟨v,v1,v2,aS⟩:=W (Vu n) L r;exact⟨v,v1,by have:=Q.u C.aq;omega,aS⟩) (D.trans aR)
   have e:BA C b c=ER (EZ C b) ⟨7,0,0⟩ (ly C) c:=by unfold BA;rw[if_pos ⟨ao,f⟩]
   rw[e];exact X
  ·have f:(EZ C b).st.status=0:=by simpa using f
   refine ae q H I d b 0 ?_ ⟨k.p,k.name,k.f,λm=>by have:=k.u m;omega⟩ (λn L r=>W (Vu n) L r) D;have e:BA C b 0=EZ C b:=by unfold BA;rw[if_neg λh=>h.2 f]
   rw[e];exact J.put (by omega) ac M
 refine ai.mk λaT aU=>?_
 have S: ∀aj:Bool,aj=Dl C->aT (aj,()) h:=λaj au=>by
  refine aU _ _ (af.intro (λf=>?_) (λf=>?_))
  ·have f:Dl C=true:=by rw[<- au];exact f
   refine mI (e:=Qp) o V (by omega) (by show 0<1099511627776;decide) (.inr (.inl rfl)) (by omega) λal aq ar X aV=>⟨rfl,?_⟩
   have G:=MM (XV Z V) (e:=Qp) (by show 0<1099511627776;decide);have nx:=G.st.next;refine AQY X G.st.next ⟨_,rfl,?_⟩;refine ARx (t:=⟨1,⟨#[]⟩,Wp (EC C Qp),0⟩) X (by rw[G.aq];exact ab) (by rw[G.aq];exact r) (by rw[G.aq];omega) (by omega) M (by have:=G.au;omega) λaW aX aY aZ b a0 a1 a2 a3=>⟨rfl,?_⟩
   have e:EZ C b=ER (EC C Qp) ⟨1,Wp (EC C Qp),0⟩ (-1) b:=by unfold EZ;rw[if_pos f]
   refine ap aW aX aY aZ b ?_ a1 (λn _ r=>by rw[e] at n;have:=a2 n;rw[G.aq] at this;exact this r) (aV.trans a3);rw[e];exact a0
  ·have f:Dl C=false:=by rw[<- au];exact f
   refine ap h z x y 0 ?_ (Hs.dH.refl y) (λ_ h=>by rw[f] at h;cases h) Mod.refl;have e:EZ C 0=C:=by unfold EZ;rw[if_neg (by simp[f])]
   rw[e];exact o.put (by omega) (by omega) M
 have Y:=o.bI;unfold Dl at S;refine aE (AC.mk (CL Y.ag rfl) (af.intro (λT=>?_) (λT=>S _ (by simp at T;simp[T]))));refine aE (AZ.mk (CL Y.ag rfl) (af.intro (λF=>?_) (λF=>S _ (by have F:C.st.fresh=false:=F;simp[F]))));have F:C.st.fresh=true:=F;refine aE (AC.mk (CL Y.ag rfl) (af.intro (λU=>?_) (λU=>S _ (by simp at U;simp[U]))));refine aE (AC.mk (CL Y.ag rfl) (S _ ?_));simp at T U;simp[ao,T,F,U];rfl
end
abbrev Xd:Sl:=⟨none,0,0⟩
def o0(wid:A2I)(b:Nat):Option (List Ev)->bZ×Int
 |none=>(⟨wid,b,⟨0,0,false⟩,Xd,bR.z⟩,180)
 |some l=>(⟨wid,b,⟨(Ai l).status,(Ai l).next,false⟩,Xd,bR.z⟩,0)
def fI(b st nx:Int):bY:=⟨b,st,nx,⟨0,⟨#[]⟩,0,0⟩,⟨#[]⟩,Xd⟩
theorem XQ(x y:bZ):iu y.c 0 x.l=x.c:=rfl
theorem Qb(x y:bY):iu y.c 0 x.l=x.c:=rfl
theorem X8 {h:aa}{b:Nat}{T:Q7}{fr:Nat×Nat}{x:bZ}(c:h[b]? =some (J2 x.c T fr)):Cells h ⟨b,0,none⟩ x.l:=EN c rfl
theorem UM {h:aa}{b:Nat}{T:Q7}{fr:Nat×Nat}{x:bY}(c:h[b]? =some (J2 x.c T fr)):Cells h ⟨b,0,none⟩ x.l:=EN c rfl
theorem VF {h:aa}{b:Nat}{T:Q7}{x y:bZ}{K:bZ->aa->Prop}(f:h[b]? =some (J2 y.c T (0,0)))(j: ∀c,Mod (· =b) h c->K x c):
  aW h ⟨b,0,none⟩ x.l λd=>I7 d ⟨b,0,none⟩ λk=>K k d:=
 aW.mk f (A0 18) λc e m s=>I7.mk x (X8 (by rw[XQ] at e;exact e)) (j c m)
theorem lj {h:aa}{b:Nat}{T:Q7}{x y:bY}{K:bY->aa->Prop}(f:h[b]? =some (J2 y.c T (0,0)))(j: ∀c,Mod (· =b) h c->K x c):
  aW h ⟨b,0,none⟩ x.l λd=>GR d ⟨b,0,none⟩ λk=>K k d:=
 aW.mk f (A0 9) λc e m s=>GR.mk x (UM (by rw[Qb] at e;exact e)) (j c m)
theorem Oe {b:Ev}(h:Dk b=true):b.data.size<=2000:=by
 obtain⟨t,u,v,f,j⟩:=SG h;by_cases k:b.kind=1
 ·obtain⟨p,m,ok⟩:=f k;have:=(xq m).2;have e:=congrArg List.length this;rw[A7] at e;rw[<- e];simp only[GL,A3,decide_eq_true_eq] at ok;obtain⟨⟨w,o⟩,q⟩:=ok;have x:=Bc.1 o;have:=Py q;have z:=AV (n:=p.aG.toNat) (by omega);have C:=AV (n:=p.steps.length) (by omega);unfold Cs;simp only[A1];omega
 ·by_cases r:b.kind=12
  ·have:=Ep (j r);omega
  ·have d:=Ha h;unfold FC at d;simp only[A3,DE,decide_eq_true_eq] at d;rcases d.2 with c|c
   ·rw[c];decide
   ·unfold dW at c;simp at c;omega
section
variable {A : ak} {B : bV} {g h : aa} {s a N sh : Nat} {l : List Hs} {mp : List Pr} {O : Nat -> Prop} {i : Nat} {y : Hs} {fl : cI} {an : cP} {R : A2H}
theorem LW.get {key:A2I}(c:LW B g h s a N sh l mp O)(d:key.size<=1099511627776)(e: ∀b,Ext h b->R (J1 #[J7 (IK mp key).1,J3 (IK mp key).2,J6 J9 0]) b):AA A P Fb #[Ak s,J7 key] h R:=by obtain⟨j,k,st,m,n,nn,f,o,rfl,p,q,out⟩:=c;exact sV f d e
theorem LW.scan {p f:A2I}{d:Int}(e:LW B g h s a N sh l mp O)(j:p.size<=1099511627776)(k: ∀sl b,Own BO AQ b sl (jy mp p f d)->(∀ c,sl.ag=some c->h.size<=c)->Ext h b->R (J1 #[J4 sl.p sl.len sl.cap,J6 J9 0]) b):AA A P F5 #[Ak s,J7 p,J7 f,J6 J9 d] h R:=by obtain⟨o,q,st,m,r,nn,n,t,rfl,u,v,out⟩:=e;exact AOm n j k
theorem LW.dY(d:LW B g h s a N sh l mp O)(b:l[i]? =some y):h[y.p]? =some (J2 #[Ak s,J7 y.name,J6 J9 (sh:Int),.map (some y.bh),.map (some y.bu)] OH (0,0))/\1<=sh/\sh<=16:=by obtain⟨e,f,st,m,j,nn,k,n,o,c,p,out⟩:=d;exact⟨(c.host i y b).cell,(c.host i y b).sh⟩
theorem LW.store(b:LW B g h s a N sh l mp O)(c:l[i]? =some y)(d:R (Ak s) h):AA A P FE #[Ak y.p] h R:=by refine Nn ?_;unfold Ki;exact af.no rfl (aE (AY.mk (AL (b.dY c).1 rfl) d))
theorem LW.aI(b:LW B g h s a N sh l mp O)(c:l[i]? =some y)(d:R (J6 J9 (sh:Int)) h):AA A P Gx #[Ak y.p] h R:=by refine NP ?_;unfold Jv;exact af.no rfl (aE (AC.mk (AB (b.dY c).1 rfl) d))
theorem JU.fB(b:JU mp fl an){wid:A2I}(c:Aj wid=true):IK mp (Eu wid)=match fl wid with|none=>(⟨#[]⟩,false)|some l=>(I1 (Ai l).status.toNat (Ai l).next.toNat false,true):=by unfold IK;rw[b.eQ wid c];cases fl wid<;>rfl
theorem JU.fW(c:JU mp fl an){b:A2I}(d:Aj b=true):IK mp (JM b)=match an b with|none=>(⟨#[]⟩,false)|some x=>(j8 x.1 x.2.1.toNat x.2.2.toNat,true):=by unfold IK;rw[c.kT b d];cases an b<;>rfl
theorem u5 {wid:A2I}(v:LW B g h s a N sh l mp O)(o:l[i]? =some y)(w:JU mp fl an)
  (G:Aj wid=false-> ∀f,Ext h f->R (J1 #[bZ.z.v,J6 J9 1]) f)
  (H:Aj wid=true-> ∀f,Ext h f->R (J1 #[(o0 wid (A8 wid sh) (fl wid)).1.v,J6 J9 (o0 wid (A8 wid sh) (fl wid)).2]) f):
  AA A P Im #[Ak y.p,J7 wid] h R:=by
 obtain⟨-,I,J⟩:=v.dY o;refine Ov ?_;unfold MX;refine ao.mk λL _ z p Z=>ai.mk λK M=>af.no rfl (EO ⟨_,rfl,M _ _ ?_⟩)
 cases m:Aj wid with
 |false=>exact af.yes rfl (VF z λb Q=>G m b (p.more Q λc j=>by subst j;exact A0 _))
 |true=>
  have ab:=Ep m;have q:=v.on p;have C: ∀ {b d:aa} {x:bZ} {r:Int},Ext L b->Mod (· =h.size) b d->(x,r)=o0 wid (A8 wid sh) (fl wid)->R (J1 #[x.v,J6 J9 r]) d:=λ{b d x r} k t S=>by
   have:=H m d ((p.trans k).more t λc j=>by subst j;exact A0 _);rw[<- S] at this;exact this
  refine af.no rfl (q.aI o ⟨_,rfl,Ob (by omega) I J ⟨_,_,rfl,af.no rfl (q.store o ⟨_,rfl,P6 (by omega) ⟨_,rfl,?_⟩⟩)⟩⟩);refine q.get (by rw[MN];omega) λb k=>?_
  rw[w.fB m];have D:=k.ag z λh=>h
  cases u:fl wid with
  |none=>
   refine⟨_,_,_,rfl,af.no rfl (af.yes rfl (VF D λd t=>?_))⟩;exact C k t (by rw[u];rfl)
  |some e=>
   have n:=w.cZ wid e u;have nx:=n.next.1;have ac:=n.len;have st:=n.st;have ae:1<=e.length:=List.length_pos_iff.2 n.ne;refine⟨_,_,_,rfl,af.no rfl (af.no rfl (uE (by omega) (by omega) (by omega) λd E=>na.mk _ ⟨_,rfl,?_⟩))⟩;refine ao.mk λag _ T U ah=>aW.mk T (A0 3) λV W X aj=>?_
   have F:Ext b V:=(E.trans U).more X λc j=>by subst j;exact E.size
   refine Jt.mk _ (EN W rfl) (VF (F.ag D λh=>h) λak Y=>?_);refine C (k.trans F) Y ?_;rw[u];unfold o0;rw[show(((Ai e).status.toNat:Nat):Int)=(Ai e).status from by omega,show(((Ai e).next.toNat:Nat):Int)=(Ai e).next from by omega]
theorem AIH {e:A2I}(M:LW B g h s a N sh l mp O)(Q:l[i]? =some y)(z:JU mp fl an)(C:Aj e=true)
  (D: ∀E,Ext h E->R (match an e with|none=>J1 #[J7 ⟨#[]⟩,bY.z.v,J3 false,J6 J9 0]|some x=>J1 #[J7 (AX x.1),(fI 0 x.2.1 x.2.2).v,J3 true,J6 J9 0]) E):AA A P LX #[Ak y.p,J7 e] h R:=by
 have ah:=Ep C;refine XW ?_;unfold QG;refine ao.mk λaj _ S f ak=>?_
 have F:=M.on f;refine F.store Q ⟨_,rfl,uD (by omega) ⟨_,rfl,F.get (by rw[Vs];omega) λj k=>?_⟩⟩;rw[z.fW C];have m:=k.ag S λh=>h
 cases o:an e with
 |none=>
  refine⟨_,_,_,rfl,ai.mk λK p=>af.no rfl (p _ _ (af.yes rfl (lj m λG T=>?_)))⟩;have:=D G ((f.trans k).more T λc d=>by subst d;exact A0 _);rw[o] at this;exact this
 |some x=>
  obtain⟨⟨al,am⟩,⟨ap,aq⟩,ar⟩:=z.kU e x o;refine⟨_,_,_,rfl,ai.mk λK p=>af.no rfl (p _ _ (af.no rfl ?_))⟩;unfold j8;have au:=Gy (n:=x.2.1.toNat) (by omega);have av:=Gy (n:=x.2.2.toNat) (by omega);have aw:=AV (n:=x.1.length) (by omega);have ax:(BG x.1).length<=2010:=by unfold BG;rw[A1];omega
  refine KG λG H q=>⟨_,rfl,Hl H (by simp only[A1];omega) λay U r=>⟨_,rfl,?_⟩⟩
  rw[Ik (by omega)] at*
  refine DZ (most:=4) U (by simp only[A1];omega) (by decide) λaz V t=>⟨_,rfl,?_⟩
  rw[Cr (by omega) (by omega)] at*
  have W:CQ 501 ⟨BX x.2.2.toNat,false⟩=(x.2.2.toNat,⟨[],false⟩):=by have:=Cr (n:=x.2.2.toNat) (most:=501) (by omega) (by omega) [];rwa [AN] at this
  refine DZ (most:=501) V (by simp only;omega) (by decide) λX Y u=>⟨_,rfl,?_⟩
  rw[W] at*
  refine ao.mk λaA _ Z v aC=>aW.mk Z (A0 9) λI J w aD=>?_
  have aE:=q.size;have aF:=r.size;have aG:=t.size;have aH:=u.size;have aI:=Ag m;have aa:Iw I j.size ⟨[],false⟩:=w.ag (v.ag Y λh=>h) (by have:=Ag H;omega);refine MZ aa ⟨_,rfl,af.no rfl ?_⟩;rw[Qb] at J;have ab:=w.ag (v.ag (u.ag (t.ag (r.ag (q.ag m λh=>h) (by omega)) (by omega)) (by omega)) λh=>h) (b:=h.size) (by omega);refine GR.mk _ (UM J) (lj ab λac ae=>?_);have L:Ext j X:=q.more ((r.trans t).trans u) λc d=>by subst d;exact A0 _
  have ag:Ext j I:=(L.trans v).more w λc d=>by subst d;exact L.size
  have:=D ac (((f.trans k).trans ag).more ae λc d=>by subst d;exact A0 _);rw[o] at this;rw[show((x.2.1.toNat:Nat):Int)=x.2.1 from by omega,show((x.2.2.toNat:Nat):Int)=x.2.2 from by omega];exact this
end
theorem AKz {wid:A2I}{l:List Ev}{b i:Nat}{p:Pr}(h:(((QD wid l).drop b).take 32)[i]? =some p): ∃c,l[b+i]? =some c/\p=NZ wid c:=by
 rw[Fm] at h;split at h
 ·rw[C5] at h;exact NQ h
 ·cases h
theorem KW.fresh {h j:aa}{k:Nat->Prop}{s:bF}{a b c:Sl}{n:Nat}(o:KW h s a b c)(m:Mod k h j)(fr: ∀x,a.ag=some x\/b.ag=some x\/c.ag=some x->n<=x)(f: ∀c,k c->c<n):KW j s a b c:=
 o.mod m (λx d e=>by have:=fr x (.inl d);have:=f x e;omega) (λx d e=>by have:=fr x (.inr (.inl d));have:=f x e;omega) (λx d e=>by have:=fr x (.inr (.inr d));have:=f x e;omega)
section
variable {A : ak} {B : bV} {g h : aa} {s a N sh : Nat} {l : List Hs} {mp : List Pr} {O : Nat -> Prop} {i : Nat} {y : Hs} {fl : cI} {an : cP} {R : A2H}
theorem AQW {wid:A2I}{d:List Ev}{aY:J0}(aj:LW B g h s a N sh l mp O)(v:l[i]? =some y)(ak:JU mp fl an)(al:Aj wid=true)(am:fl wid=some d)
  (aZ: ∀W e z C D,Ext h W->View ct W e d->KW W (Ai d) z C D->(∀ x,z.ag=some x\/C.ag=some x\/D.ag=some x->h.size<=x)->(∀ x,e.ag=some x->h.size<=x)->(∀ x y,e.ag=some x->z.ag=some y\/C.ag=some y\/D.ag=some y->x<y)->
   R (J1 #[(⟨wid,(A8 wid sh:Int),⟨(Ai d).status,(Ai d).next,false⟩,e,(Ai d).V z C D⟩:bZ).v,J6 J9 0]) W):AA A P Eb #[Ak y.p,aY,J7 wid] h R:=by
 have Q:=ak.cZ wid d am;obtain⟨nx,aD⟩:=Q.next;have a0:=Q.len;have bL:1<=d.length:=List.length_pos_iff.2 Q.ne;have a1:=Ep al;refine O8 ?_;unfold Ma;refine ao.mk λX _ ap F bM=>?_
 refine u5 (aj.on F) v ak (λh=>by rw[al] at h;cases h) λ_ k aE=>?_
 rw[am];refine O9.mk _ ⟨_,rfl,ao.mk λbN _ a2 a3 bO=>aW.mk a2 (A0 18) λY S a4 bP=>af.no rfl ?_⟩;rw[XQ] at S;have aq:Ext k Y:=a3.more a4 λc f=>by subst f;exact A0 _
 have aF:Ext X Y:=aE.trans aq;have bQ:=Ag ap;have a5:=aE.size;have bS:=aq.size;have bT:Y[h.size]? =some (J2 bZ.z.c DJ (0,0)):=aF.ag ap λh=>h
 let fv:Sl->bZ:=λe=>⟨wid,(A8 wid sh:Int),⟨(Ai d).status,(Ai d).next,false⟩,e,bR.z⟩
 have S:Y[k.size]? =some (J2 (fv Xd).c DJ (0,0)):=S;refine ai.mk λK a6=>AZ.mk (n:=false) (CL S rfl) (af.no rfl ?_)
 refine Loop.rule (λm x r=> ∃e:Sl,m=d.length-e.len/\e.len<=d.length/\Ext X r/\Ext k r/\r[k.size]? =some (J2 (fv e).c DJ (0,0))/\Own ct Ao r e (d.take e.len)/\(∀ b,e.ag=some b->k.size<b)) ?_
  ⟨Xd,rfl,A5 _,aF,aq,S,Own.nil,λb j=>by simp[Sl.ag] at j⟩
 rintro bU m _ ar ⟨e,rfl,a7,T,aG,t,I,fr⟩ a8;refine Ad.mk (s:=e) (CS t rfl) (AC.mk (n:=(Ai d).next) (CL t rfl) ?_);rw[nx,wrap_i64 (by omega) (by omega)];have aH:LW B g ar s a N sh l mp O:=aj.on (F.trans T);refine af.intro (λG=>?_) (λG=>?_)
 ·have bV:e.len<d.length:=by simp at G;omega
  refine Ad.mk (s:=e) (CS t rfl) (aH.store v ⟨_,rfl,CS t rfl,qE (by omega) λaI Z=>⟨_,rfl,?_⟩⟩);have a9:=Z.ag t λh=>h
  refine⟨CS a9 rfl,?_⟩;rw[Aa (by omega)];refine uC (by omega) (by omega) λba au=>⟨_,rfl,?_⟩
  have av:=Z.trans au;have bb:=aH.on av;refine bb.scan (by have:=yj a1;omega) λps J aw bc bd=>⟨_,_,rfl,af.no rfl ?_⟩
  rw[AP1 aj.sorted ak al am a7] at aw;have u:=av.trans bd;have aJ:=aw.len;have bW:ps.len=min 32 (d.length-e.len):=by rw[aJ,An,CI];unfold QD;rw[AW]
  refine af.no (by simp;omega) ?_;have be:=T.trans u;have bf:=aG.trans u;refine Loop.rule (λm x r=> ∃(o:Nat) (q:Sl),x=((o:Int),())/\m=ps.len-o/\o<=ps.len/\q.len=e.len+o/\Ext X r/\Ext k r/\Mod (λc=>c=k.size\/e.ag=some c) J r/\r[k.size]? =some (J2 (fv q).c DJ (0,0))/\Own ct Ao r q (d.take q.len)/\(∀ b,q.ag=some b->k.size<b/\(e.ag=some b\/J.size<=b))) ?_
   ⟨0,e,rfl,rfl,A5 _,rfl,be,bf,Mod.refl,u.ag t λh=>h,I.ext u,λb j=>⟨fr b j,.inl j⟩⟩
  rintro bX m _ ax ⟨o,q,rfl,rfl,aK,bg,aL,aM,ay,L,aN,M⟩ bh;dsimp only;refine af.intro (λG=>?_) (λG=>?_)
  ·have aa:o<ps.len:=by simpa using G
   have bY:e.len+o<d.length:=by omega
   obtain⟨p,aO⟩: ∃p,(((QD wid d).drop e.len).take 32)[o]? =some p:=⟨_,A2 (by rw[<- aJ];exact aa)⟩;obtain⟨w,U,rfl⟩:=AKz aO;have ok:=(aD _ _ U).2;have hd:=Oe ok;have b0:=MG (Ha ok) (by omega);have bi:View BO ax ps (((QD wid d).drop e.len).take 32):=(aw.view.mod ay λb j f=>by
    have:=bc b j;have:=av.size;have:=aG.size;have:=Ag t;rcases f with rfl|f
    ·omega
    ·have:=I.lt f;omega)
   refine bi.idx aO λb1 _ bj=>?_
   obtain⟨bk,bm,bn⟩:=bj.pair;refine AJ.mk bk (AJ.mk bm (AZ.mk bn (ao.pair λb ab b2 bo aP b3=>AJ.mk (n:=AX (EH w)) (AB bo rfl) ?_)));refine zy (by omega) λb4 aQ=>?_
   rw[(xu (by omega)).2 ⟨ok,rfl⟩];refine pj.mk w ⟨_,rfl,ao.mk λb5 _ bp bq b6=>aW.mk bp (A0 8) λbr aR bs b7=>af.no rfl ?_⟩;rw[qz] at aR;have H:Ext ax br:=((aP.trans aQ).trans bq).more bs λc f=>by subst f;exact(aP.trans aQ).size
   refine Ad.mk (s:=q) (CS (H.ag L λh=>h) rfl) (NS.mk w (Qu aR) ?_);refine ao.bq (E:=ct) (x:=w) (s:=q) rfl nj (aN.ext H) (by simp only[An];omega) (by simp only[An,maxLen];omega) λV b8 aS ac bt b9=>?_
   have ca:=Ag L;have cb:=H.size;have cc:=ay.size;have bu: ¬q.ag=some k.size:=λh=>by have:=(M _ h).1;omega
   refine ae.cN (eY:=(fv V).c) (ac.ag (H.ag L λh=>h) bu) (of_decide_eq_true rfl) rfl λcd bv ag ce=>?_
   rw[Aa (by omega)];have aT:V.len=e.len+(o+1):=by have:=aS.len;rw[A1,An,CN] at this;omega
   have cf:=F.size;have aU: ∀b,V.ag=some b->k.size<b/\(e.ag=some b\/J.size<=b):=λb j=>by
    rcases bt b j with h|h
    ·exact M b h
    ·exact⟨by omega,.inr (by omega)⟩
   have bw: ∀b,q.ag=some b->X.size<=b:=λb j=>by have:=(M b j).1;omega
   refine bh (ps.len-(o+1)) _ _ (by omega) ⟨o+1,V,rfl,rfl,aa,aT,((aL.trans H).more ac bw).more ag λc f=>by subst f;exact a5,((aM.trans H).more ac λb j=>by have:=(M b j).1;omega).more ag λc f=>by subst f;exact A0 _,?_,bv,?_,aU⟩
   ·refine(ay.trans H.mod).then ((ac.aj λc _ f=>?_).trans (ag.aj λc _ f=>?_))
    ·rcases(M c f).2 with h|h
     ·exact .inl (.inr h)
     ·exact .inr h
    ·exact .inl (.inl f)
   ·have bx:d.take V.len=d.take q.len++ [w]:=by rw[aT,bg,<-HJ,Ax,U];rfl
    rw[bx];exact aS.mod ag λb j f=>by have:=(aU b j).1;omega
  ·have aa:o=ps.len:=by simp at G;omega
   subst aa;exact a8 (d.length-q.len) _ _ (by omega) ⟨q,rfl,by omega,aL,aM,L,aN,λb j=>(M b j).1⟩
 ·have bz:e.len=d.length:=by simp at G;omega
  rw[bz,Bk] at I;refine a6 () ar (Ad.mk (s:=e) (CS t rfl) ?_);refine uL I.view a0 (λw U=>by
   obtain⟨o,aK⟩:=DB U;have:=Oe (aD o w aK).2;exact⟨by omega,Q.kd w U⟩) Q.ok λaI z C D Z bA az=>Ju.mk _ ⟨_,_,rfl,?_⟩
  refine ao.mk λba _ bB au cg=>aW.mk bB (A0 12) λJ ah bC ch=>?_
  rw[Ph] at ah;have aV:Ext aI J:=au.more bC λc f=>by subst f;exact A0 _
  have u:=Z.trans aV;have aA:=u.ag t λh=>h
  have bD:=u.ag ((T.ag ap λh=>h)) λh=>h
  refine ai.mk λci bE=>af.no rfl (AC.mk (n:=(Ai d).next) (AB ah rfl) (AC.mk (n:=(Ai d).next) (CL aA rfl) ?_))
  refine af.no (by simp) (AC.mk (n:=(Ai d).status) (AB ah rfl) (AC.mk (n:=(Ai d).status) (CS aA rfl) (bE _ _ (af.no (by simp) ?_))));have bF:=bA.ext aV;have cj:=Ag t;have ck:=T.size;have cl:=u.size;refine Bo.mk _ (IU ah) ?_;have bG:(⟨k.size,0,none⟩:Q6).add 6=⟨k.size,6,none⟩:=rfl;rw[bG];refine aW.mk aA (of_decide_eq_true rfl) λax L aX cm=>?_
  refine I7.mk ⟨wid,(A8 wid sh:Int),⟨(Ai d).status,(Ai d).next,false⟩,e,(Ai d).V z C D⟩ (X8 (by exact L)) (VF (aX.ag bD (by omega)) λab bH=>?_);have aC:Mod (λc=>c=k.size\/c=h.size) J ab:=(aX.aj λc _ f=> .inl f).trans (bH.aj λc _ f=> .inr f);have bI:=bF.fresh (n:=ar.size) aC az λc f=>by omega
  have bJ:View ct ab e d:=(I.view.ext u).mod aC λb j f=>by have:=fr b j;omega
  refine aZ ab e z C D ((F.trans (T.trans u)).more aC λc f=>by have:=F.size;omega) bJ bI (λx v=>by have:=az x v;have:=F.size;omega) (λx v=>by have:=fr x v;have:=F.size;omega) λx y v bK=>F0 (I.lt v) (az y bK)
theorem qp {wid:A2I}{b:List Ev}{k:J0}(m:LW B g h s a N sh l mp O)(n:l[i]? =some y)(o:JU mp fl an)(p:Aj wid=true)(q:fl wid=some b)
  (r: ∀c d e f j,Ext h c->View ct c d b->KW c (Ai b) e f j->(∀ x,e.ag=some x\/f.ag=some x\/j.ag=some x->h.size<=x)->(∀ x,d.ag=some x->h.size<=x)->
   R (J1 #[(⟨wid,(A8 wid sh:Int),⟨(Ai b).status,(Ai b).next,false⟩,d,(Ai b).V e f j⟩:bZ).v,J6 J9 0]) c):AA A P Eb #[Ak y.p,k,J7 wid] h R:=
 AQW m n o p q λc d e f j t V u v w _=>r c d e f j t V u v w
end
theorem Rc {a v:A2I}(b:a≠⟨#[]⟩)(c:a.size<=64)(d:v.size<=8192):Ah ⟨a,v,false⟩=0:=by unfold Ah;rw[if_neg (by simp[b]),if_neg (by simp;omega)]
theorem AKk {a:A2I}(b:a≠⟨#[]⟩)(c:a.size<=64):Ah ⟨a,⟨#[]⟩,true⟩=0:=by have z:(⟨#[]⟩:A2I).size=0:=rfl;unfold Ah;rw[if_neg (by simp[b]),if_neg (by simp;omega)]
theorem Ve {a:A2I}(b:0<a.size):a≠⟨#[]⟩:=λc=>by rw[c] at b;cases b
theorem u6: ∀ {l:List Pr},(∀ p∈l,Ah p=0)->GX l=0
 | [],_=>rfl
 |x::l,a=>by
  unfold GX;rw[if_neg (by rw[a x (by simp)];decide)];exact u6 λp b=>a p (by simp[b])
theorem u7 {l:List Pr}(a:l≠ [])(c:l.length<=64)(b: ∀p∈l,Ah p=0):Fh l=0:=by unfold Fh;rw[if_neg (by rw[List.length_eq_zero_iff];exact a),if_neg (by omega)];exact u6 b
theorem u9 {wid:A2I}{a:Ev}(c:Aj wid=true)(b:Dk a=true):Ah (NZ wid a)=0:=by
 have d:=Ep c;have e:=APF d a.id.toNat;have hd:=Oe b;have f:=MG (Ha b) (by omega);refine Rc (Ve ?_) (by omega) ?_
 ·unfold eM;rw[AP];unfold lK;simp
 ·rw[AP];omega
theorem ua {wid:A2I}{st nx:Nat}{a:Bool}(b:Aj wid=true)(c:st<128)(d:nx<=501):Ah ⟨Eu wid,I1 st nx a,false⟩=0:=by have e:=Ep b;have:=AKX (kept:=a) c d;exact Rc (Ve (by rw[MN];omega)) (by rw[MN];omega) (by omega)
theorem AR1 {a:A2I}{x:List UInt8×Int×Int}(b:Aj a=true)(c:0<=x.2.1/\x.2.1<=4)(d:0<=x.2.2/\x.2.2<=501)(e:x.1.length<=2000):Ah (ZB a x)=0:=by have f:=Ep b;have g:=Gy (n:=x.2.1.toNat) (by omega);have h:=Gy (n:=x.2.2.toNat) (by omega);have i:=AV (n:=x.1.length) (by omega);refine Rc (Ve (by rw[Vs];omega)) (by rw[Vs];omega) ?_;unfold j8 BG;rw[AP];simp only[A1];omega
theorem qs {t:gL}{wid:A2I}{a b:Nat}{tick:Int}(c:KF t wid=true):Ah ⟨LJ a tick b,MU t wid,false⟩=0/\(BC (LJ a tick b)≠104/\BC (LJ a tick b)≠119/\BC (LJ a tick b)≠114)/\BC (LJ a tick b)≠108:=by
 unfold KF at c;simp only[A3,Bc] at c;obtain⟨⟨⟨⟨e,f⟩,d⟩,g,h⟩,i,j⟩:=c;have:=AJ7 (kind:=t.kind.toNat) (wid:=wid) (ref:=t.ref.toNat) (turn:=t.turn.toNat) (by omega) (Ep d) (by omega) (by omega);unfold LJ MU;split
 ·rw[yo];exact⟨Rc (Ve (by rw[yk];omega)) (by rw[yk];omega) (by omega),⟨by decide,by decide,by decide⟩,by decide⟩
 ·rw[PG];exact⟨Rc (Ve (by rw[JL];omega)) (by rw[JL];omega) (by omega),⟨by decide,by decide,by decide⟩,by decide⟩
end Go.Lf.G
namespace Go.Lf
open G
open Go
open M (Sorted Ab Bw Av Ac Am BF Ah bz Az aP Ay)
def bC.fits(a:bC)(b:List Ev):Prop:=FU UO (b++a.more)=some a.st/\ ∀c∈b++a.more,kg c.kind
end Go.Lf
namespace Go.Lf.G
open Go
open M (Sorted Ab Bw Av Ac Am BF Ah bz Az aP Ay)
theorem Ro {a:bC}{d:List Ev}{b:Ev}(c:a.fits d)(g:kg b.kind):(EC a b).fits d:=by
 unfold EC;split
 ·exact c
 ·split
  ·exact c
  ·split
   ·exact c
   ·rename_i e;have e:(Bj a.st (Ce a b)).1=0:=by simpa using e
    show FU UO (d++(a.more++ [Ce a b]))=_/\ ∀h∈d++(a.more++ [Ce a b]),_;rw[<- A4];exact⟨AIN c.1 e,λx f=>(List.mem_append.1 f).elim (c.2 x) λf=>by rw[List.mem_singleton.1 f];exact g⟩
theorem Zx {a:bC}{c:List Ev}{t:gL}{tick:Int}{b:Nat}(d:a.fits c):(ER a t tick b).fits c:=by unfold bC.fits;rw[(HV a t tick b).1,(HV a t tick b).2];exact d
theorem AJx {a:bC}{b:List Ev}{c f:Nat}(d:a.fits b):(BA a c f).fits b:=by
 have e:(EZ a c).fits b:=by
  unfold EZ;split
  ·exact Zx (Ro d (.inr (.inl rfl)))
  ·exact d
 unfold BA;split
 ·exact Zx e
 ·exact e
abbrev jm:=Option (A2I×(List UInt8×Int×Int))
end Go.Lf.G
namespace Go.Lf
open G
open Go
open M (Sorted Ab Bw Av Ac Am BF Ah bz Az aP Ay)
structure bC.beside (C:bC) (o:jm):Prop where
 ok: ∀p∈C.au,Ah p=0
 dc: ∀p∈C.au,(BC p.key≠104/\BC p.key≠119/\BC p.key≠114)\/ ∃r x,o=some (r,x)/\p=ZB r x
 lQ: ∀p∈C.au,BC p.key≠108
end Go.Lf
namespace Go.Lf.G
open Go
open M (Sorted Ab Bw Av Ac Am BF Ah bz Az aP Ay)
theorem MO {a:bC}{c:jm}(b:a.beside c)(d:Ev):(EC a d).beside c:=by have:=(Og a d).2.2.2.2.2.1;exact⟨by rw[this];exact b.ok,by rw[this];exact b.dc,by rw[this];exact b.lQ⟩
theorem Uw {d:bC}{f:jm}(a:d.beside f)(t:gL)(tick:Int)(g:Nat):(ER d t tick g).beside f:=by
 unfold ER;split
 ·exact a
 ·split
  ·exact⟨a.ok,a.dc,a.lQ⟩
  ·rename_i c;have c:KF t d.wid=true:=by simpa using c
   refine⟨λp e=>?_,λp e=>?_,λp e=>?_⟩<;>rcases List.mem_append.1 e with b|b
   ·exact a.ok p b
   ·rw[List.mem_singleton.1 b];exact(qs c).1
   ·exact a.dc p b
   ·rw[List.mem_singleton.1 b];exact .inl (qs c).2.1
   ·exact a.lQ p b
   ·rw[List.mem_singleton.1 b];exact(qs c).2.2
theorem AGn {a:bC}{b:jm}(c:a.beside b)(d f:Nat):(BA a d f).beside b:=by
 have e:(EZ a d).beside b:=by
  unfold EZ;split
  ·exact Uw (MO c _) _ _ _
  ·exact c
 unfold BA;split
 ·exact Uw e _ _ _
 ·exact e
theorem AIc {e:bC}{c:A2I}{x:List UInt8×Int×Int}(a:e.beside none)(f:Aj c=true)(g:0<=x.2.1/\x.2.1<=4)(h:0<=x.2.2/\x.2.2<=501)(i:x.1.length<=2000):(pg e (JM c) (j8 x.1 x.2.1.toNat x.2.2.toNat)).beside (some (c,x)):=by
 refine⟨λp d=>?_,λp d=>?_,λp d=>?_⟩<;>rcases List.mem_append.1 d with b|b
 ·exact a.ok p b
 ·rw[List.mem_singleton.1 b];exact AR1 f g h i
 ·rcases a.dc p b with a|⟨j,k,a,_⟩
  ·exact .inl a
  ·cases a
 ·exact .inr ⟨c,x,rfl,List.mem_singleton.1 b⟩
 ·exact a.lQ p b
 ·rw[List.mem_singleton.1 b];show BC (JM c)≠108;rw[JX];decide
theorem ub(a:bC)(b:Ev):(EC a b).au=a.au:=(Og a b).2.2.2.2.2.1
theorem uc {b:bC}{p:Pr}(a:p∈b.au)(t:gL)(tick:Int)(c:Nat):p∈(ER b t tick c).au:=by
 unfold ER;split
 ·exact a
 ·split
  ·exact a
  ·exact HI _ a
theorem AMc {a:bC}{p:Pr}(b:p∈a.au)(c e:Nat):p∈(BA a c e).au:=by
 have d:p∈(EZ a c).au:=by
  unfold EZ;split
  ·exact uc (by rw[ub];exact b) _ _ _
  ·exact b
 unfold BA;split
 ·exact uc d _ _ _
 ·exact d
theorem JU.note {o b:List Pr}{v:cI}{k:cP}{j:jm}(g:JU o v k)(s:Sorted o)(l:fR b j):JU (cj o b) v (qo k j):=by
 have w: ∀p∈b,BC p.key≠104/\BC p.key≠119:=λp A=>by
  rcases l.dc p A with m|⟨a,x,_,rfl⟩
  ·exact⟨m.1,m.2.1⟩
  ·exact⟨by show BC (JM a)≠104;rw[JX];decide,by show BC (JM a)≠119;rw[JX];decide⟩
 refine⟨λn q B y=>?_,λn q=>?_,λa z=>?_,g.cZ,λa x f=>?_⟩
 ·rw[Jw s λc e d=>(w c e).1 (by rw[d];exact Za y)];exact g.cK n q B y
 ·rw[Jw s λc e d=>(w c e).2 (by rw[d];exact Dh n)];exact g.eQ n q
 ·have no: ∀c∈b,c.key=JM a-> ∃x,j=some (a,x)/\c=ZB a x:=λc e d=>by
   have C:=(congrArg BC d).trans (JX a);rcases l.dc c e with m|⟨h,x,D,rfl⟩
   ·exact absurd C m.2.2
   ·have:h=a:=yn d;subst this;exact⟨x,D,rfl⟩
  cases j with
  |none=>
   rw[Jw s λc e d=>?_,g.kT a z]
   ·rfl
   ·obtain⟨x,f,_⟩:=no c e d;cases f
  |some r=>
   obtain⟨h,x⟩:=r;show _=(dO k h x a).map (ZB a);by_cases i:a=h
   ·subst i;rw[JS];refine(mG (p:=ZB a x) s (l.has a x rfl).1 λc e d=>?_).trans rfl;obtain⟨t,u,rfl⟩:=no c e d;cases u;rfl
   ·rw[Oq i,Jw s λc e d=>?_,g.kT a z];obtain⟨t,u,_⟩:=no c e d;cases u;exact i rfl
 ·cases j with
  |none=>exact g.kU a x f
  |some r=>
   obtain⟨h,t⟩:=r;have f:dO k h t a=some x:=f;by_cases i:a=h
   ·subst i;rw[JS] at f;cases f;exact(l.has a x rfl).2.2
   ·rw[Oq i] at f;exact g.kU a x f
theorem ud {a:bC}{b:List Ev}{g:Nat}(c:a.fits b)(e:b++a.more≠ [])(f:Ec a.st g):IJ (b++a.more)/\Ai (b++a.more)=a.st:=by
 have d:Ai (b++a.more)=a.st:=by unfold Ai;rw[c.1];rfl
 have nx:=yg c.1 e;have:=f.next;exact⟨⟨e,by omega,c.2,by rw[d];exact c.1,by rw[d];exact f.st⟩,d⟩
theorem AOk {a:Type}{f:A2I->Option a}{b:A2I}{x:a}(c:f b=some x):dO f b x=f:=by
 funext e;unfold dO;split
 ·rename_i d;rw[d,c]
 ·rfl
theorem JU.done {c:List Pr}{a:cI}{g:cP}{D:bC}{o:jm}{k:Nat}(h:JU c a g)(s:Sorted c)(m:Aj D.wid=true)(n:D.fits ((a D.wid).getD []))(b:(a D.wid).getD []++D.more≠ [])(p:Ec D.st k)(q:D.beside o)
  (has: ∀d x,o=some (d,x)->ZB d x∈D.au/\Aj d=true/\(0<=x.2.1/\x.2.1<=4)/\(0<=x.2.2/\x.2.2<=501)/\x.1.length<=2000):
  JU (cj c (Et D++D.au)) (dO a D.wid ((a D.wid).getD []++D.more)) (qo g o):=by
 have i:fR D.au o:=⟨q.dc,has⟩;obtain⟨r,t⟩:=ud n b p;by_cases e:D.more= []
 ·have f:Et D= []:=by unfold Et;rw[e];rfl
  rw[f,CT];have:dO a D.wid ((a D.wid).getD []++D.more)=a:=by
   rw[e,AN] at b ⊢;cases j:a D.wid with
   |none=>rw[j] at b;exact absurd rfl b
   |some l=>exact AOk j
  rw[this];exact h.note s i
 ·have f:Et D++D.au=D.more.map (NZ D.wid)++([UF D.wid ((a D.wid).getD []++D.more)]++D.au):=by unfold Et UF;rw[if_neg e,A4,t]
  rw[f];exact h.land s m r i
theorem AJl {e:List Pr}{c:cI}{h:cP}{a:bC}(i:JU e c h)(j:Aj a.wid=true)(b:match c a.wid with|none=>a.cq=0|some l=>a.cJ=(Ai l).status/\a.cq=(Ai l).next/\a.kept=false/\0<a.cq):Bv e (bG a)=true:=by
 have g:=i.fB j;cases f:c a.wid with
 |none=>
  rw[f] at b g;have b:a.cq=0:=b;have d:bG a=⟨Eu a.wid,⟨#[]⟩,true⟩:=by unfold bG;rw[if_neg (by omega)]
  rw[d];unfold Bv;rw[if_pos rfl,g];rfl
 |some l=>
  rw[f] at b g;obtain⟨k,m,n,o⟩:=b;have d:bG a=⟨Eu a.wid,I1 a.cJ.toNat a.cq.toNat a.kept,false⟩:=by unfold bG;rw[if_pos o]
  rw[d];unfold Bv;rw[if_neg (by simp),g,k,m,n];simp
theorem AMz {b:List Pr}{d:cI}{c:cP}{a:A2I}(e:JU b d c)(f:Aj a=true)(h:c a=none):Bv b ⟨JM a,⟨#[]⟩,true⟩=true:=by unfold Bv;have g:=e.fW f;rw[h] at g;rw[if_pos rfl,g];rfl
theorem AOK {b:bC}{g:Nat}(d:Aj b.wid=true)(ok: ∀c∈b.more,Dk c=true/\c.data.size<1099511627776)(e:Ec b.st g): ∀p∈Et b,Ah p=0:=by
 intro p f;have st:=e.st;have nx:=e.next;unfold Et at f;rcases List.mem_append.1 f with a|a
 ·obtain⟨c,h,rfl⟩:=List.mem_map.1 a;exact u9 d (ok c h).1
 ·split at a
  ·cases a
  ·rw[List.mem_singleton.1 a];exact ua d (by omega) (by omega)
theorem ANF(a:bC):(Et a).length<=a.more.length+1:=by unfold Et;rw[A1,AW];split<;>simp
theorem ATr {f e:List Pr}{a:bC}{g:jm}{h:Nat}(i:Aj a.wid=true)(ok: ∀d∈a.more,Dk d=true/\d.data.size<1099511627776)(j:Ec a.st h)(k:a.beside g)(n:a.more.length+1+a.au.length<=64)(l:Et a++a.au≠ [])(o:e.length<=64)(b: ∀c∈e,Bv f c=true):di f e (Et a++a.au)=0:=by
 have q:=ANF a;have d:Fh (Et a++a.au)=0:=u7 l (by rw[A1];omega) λp m=>by
  rcases List.mem_append.1 m with b|b
  ·exact AOK i ok j p b
  ·exact k.ok p b
 unfold di;rw[if_neg (by omega),if_neg (by rw[d];decide),if_pos (List.all_eq_true.2 b)]
theorem ML(a:Nat):BC (Bd a)=108:=by unfold BC Bd;rw[EF];rfl
theorem AI2 {d:List Pr}{b:bC}{i:jm}(s:Sorted d)(j:b.beside i)(e g:Nat)(h:A2I):Bv (cj d (Et b++b.au)) (FH e g h)=Bv d (FH e g h):=by
 have f:Ab (Bd e) (cj d (Et b++b.au))=Ab (Bd e) d:=Jw s λk l m=>by
  have c:=(congrArg BC m).trans (ML e);rcases List.mem_append.1 l with a|a
  ·unfold Et at a;rcases List.mem_append.1 a with a|a
   ·obtain⟨f,_,rfl⟩:=List.mem_map.1 a;rw[show BC (NZ b.wid f).key=104 from Sy _ _] at c;exact absurd c (by decide)
   ·split at a
    ·cases a
    ·rw[List.mem_singleton.1 a] at c;rw[show BC (Eu b.wid)=119 from Dh _] at c;exact absurd c (by decide)
  ·exact j.lQ k a c
 rw[MK,MK];unfold IK;rw[f]
def Ms(x:cC)(p:cA):List UInt8:=BX x.kind.toNat++(BG (bl x.wid)++(BG (if x.kind=2 then bl x.name else [])++(if x.kind=1 then Cs p else [])))
def Po(x:cC)(p:cA):Int:=if x.kind=1/\GL p=false then 130 else if(x.kind=2/\Aj x.name=false)\/Aj x.wid=false\/Aj x.aX=false then 1 else 0
theorem ll {x:cC}{p:cA}(h:Po x p=0):(x.kind=1->GL p=true)/\(x.kind=2->Aj x.name=true)/\Aj x.wid=true/\Aj x.aX=true:=by
 unfold Po at h;split at h
 ·cases h
 ·rename_i b;split at h
  ·cases h
  ·rename_i a;simp only[not_or,not_and,Bool.not_eq_false] at b a;exact⟨b,a.1,a.2⟩
theorem R4 {p:cA}(ok:GL p=true):(Cs p).length<=1700:=by simp only[GL,A3,decide_eq_true_eq] at ok;obtain⟨⟨c,a⟩,b⟩:=ok;have d:=Bc.1 a;have:=Py b;have e:=AV (n:=p.aG.toNat) (by omega);have f:=AV (n:=p.steps.length) (by omega);unfold Cs;simp only[A1];omega
theorem APW {x:cC}{p:cA}(h:Po x p=0)(f:1<=x.kind/\x.kind<=4):(Ms x p).length<=2000:=by
 obtain⟨a,b,c,g⟩:=ll h;have i:=Ep c;have j:=Gy (n:=x.kind.toNat) (by omega);have k:=Kq (s:=x.wid) (by omega);have l:(BG (if x.kind=2 then bl x.name else [])).length<=30:=by
  split
  ·rename_i d;have:=Ep (b d);have:=Kq (s:=x.name) (by omega);omega
  ·have:=AV (n:=0) (by omega);show(BX 0++ []).length<=30;rw[AN];omega
 have m:(if x.kind=1 then Cs p else []).length<=1700:=by
  split
  ·rename_i e;exact R4 (a e)
  ·simp
 unfold Ms;simp only[A1];omega
section
variable {A : ak} {h : aa} {R : A2H}
theorem ANO {x:cC}{p:cA}(V:View TZ h x.steps p.steps)(M:x.aG=p.aG)(len:p.steps.length<=1099511627776)(an:1<=x.kind/\x.kind<=4)
  (w: ∀e,Ext h e->R (J1 #[J7 (if Po x p=0 then AX (Ms x p) else⟨#[]⟩),J6 J9 (Po x p)]) e):AA A P Na #[x.v] h R:=by
 refine AAo ?_;unfold TW;refine ao.mk λi _ j k ap=>ai.mk λK N=>?_
 have y: ∀(n:Int) e,Ext h e->Po x p=n->n≠0->R (J1 #[J7 ⟨#[]⟩,J6 J9 n]) e:=λn e O Q r=>by
  have:=w e O;rw[Q,if_neg r] at this;exact this
 have z: ∀(ps:List UInt8) (b:aa),Ext i b->(x.kind=1->GL p=true/\ps=Cs p)->(x.kind≠1->ps= [])->K (AX ps,()) b:=λps b f m B=>by
  have c:=f.ag j λh=>h
  have aq:ps.length<=1700:=by
   by_cases h:x.kind=1
   ·rw[(m h).2];exact R4 (m h).1
   ·rw[B h];simp
  have C: ¬(x.kind=1/\GL p=false):=λh=>by have:=(m h.1).1;rw[h.2] at this;cases this
  refine N _ _ (ai.mk λt S=>?_);have u: ∀o:Bool,(o=true↔(x.kind=2/\Aj x.name=false)\/Aj x.wid=false\/Aj x.aX=false)->t (o,()) b:=λo D=>by
   refine S _ _ (af.intro (λg=>y 1 b (k.trans f) (by unfold Po;rw[if_neg C,if_pos (D.1 g)]) (by decide)) (λg=>?_));have g:o=false:=g;have T: ¬((x.kind=2/\Aj x.name=false)\/Aj x.wid=false\/Aj x.aX=false):=λh=>by rw[D.2 h] at g;cases g
   have E:Po x p=0:=by unfold Po;rw[if_neg C,if_neg T]
   obtain⟨ar,U,W,au⟩:=ll E;have av:=Ep W;refine AJ.mk (n:=x.name) (AB c rfl) (ai.mk λX Y=>?_);have F: ∀d:List UInt8,d=(if x.kind=2 then bl x.name else [])->X (AX d,()) b:=λd G=>by
    have nl:d.length<=16:=by
     rw[G];split
     ·rename_i Z;rw[A7];exact Ep (U Z)
     ·simp
    refine Y _ _ (AC.mk (n:=x.kind) (AL c rfl) (AJ.mk (n:=x.wid) (AB c rfl) ?_));rw[PD (by omega) (by omega)];refine Ca (by omega) λaw H=>⟨_,rfl,AB (H.ag c λh=>h) rfl,MH (by omega) λax ab=>⟨_,rfl,?_⟩⟩
    have ay:=Gy (n:=x.kind.toNat) (by omega);have az:=Kq (s:=x.wid) (by omega);have aA:(BG d).length<=30:=by unfold BG;rw[A1];have:=AV (n:=d.length) (by omega);omega
    refine⟨by rw[AP,AP,max_i64];omega,?_⟩;rw[Aq];refine Pk (l:=d) (by omega) λac ae=>⟨_,rfl,⟨by rw[AP,AP,A1,max_i64];omega,?_⟩⟩
    rw[Aq];refine⟨by rw[AP,AP,A1,A1,max_i64];omega,?_⟩;rw[Aq];have:=w ac ((((k.trans f).trans H).trans ab).trans ae);rw[E,if_pos rfl] at this;have ag:Ms x p=((BX x.kind.toNat++BG (bl x.wid))++BG d)++ps:=by
     unfold Ms;rw[G];simp only[A4];congr 3;split
     ·rename_i h;rw[(m h).2]
     ·rename_i h;rw[B h]
    rw[ag] at this;exact this
   refine AC.mk (n:=x.kind) (AL c rfl) (af.intro (λa=>?_) (λa=>?_))
   ·have a:x.kind≠2:=by simpa using a
    exact F [] (by rw[if_neg a])
   ·have a:x.kind=2:=by simpa using a
    have:=F (bl x.name) (by rw[if_pos a]);rw[KQ] at this;exact this
  have rest:(x.kind=2->Aj x.name=true)->AJ b ((⟨h.size,0,none⟩:Q6).add 2) λah=>AA A P Bg #[J7 ah] b λaj v=> ∃I:Bool,aj=J3 I/\(af (!I) (t (true,()) v) (
    AJ v ((⟨h.size,0,none⟩:Q6).add 1) λak=>AA A P Bg #[J7 ak] v λal am=> ∃J:Bool,al=J3 J/\(t ((!J),()) am))):=λr=>
   AJ.mk (n:=x.wid) (AB c rfl) (EO ⟨_,rfl,af.intro (λa=>u true (by simp at a;simp[a])) λa=>AJ.mk (n:=x.aX) (AB c rfl) (EO ⟨_,rfl,u _ (by
    have a:Aj x.wid=true:=by simpa using a
    simp only[a,CA,Bool.true_eq_false,false_or];constructor
    ·exact .inr
    ·rintro(⟨i,b⟩|h)
     ·rw[r i] at b;cases b
     ·exact h)⟩)⟩)
  refine AC.mk (n:=x.kind) (AL c rfl) (af.intro (λa=>?_) (λa=>?_))
  ·have a:x.kind=2:=by simpa using a
   refine AJ.mk (n:=x.name) (AB c rfl) (EO ⟨_,rfl,af.intro (λq=>u true (by simp at q;simp[a,q])) λq=>rest λ_=>by simpa using q⟩)
  ·have a:x.kind≠2:=by simpa using a
   exact rest λh=>absurd h a
 refine AC.mk (n:=x.kind) (AL j rfl) (af.intro (λa=>?_) (λa=>?_))
 ·have a:x.kind=1:=by simpa using a
  refine Ad.mk (s:=x.steps) (AB j rfl) (AC.mk (n:=x.aG) (CL (by exact j) rfl) ?_);rw[M];refine uM (V.ext k) len λb f=>?_
  unfold YX;cases L:GL p with
  |false=>exact⟨_,_,rfl,af.yes rfl (y 130 b (k.trans f) (by unfold Po;rw[if_pos ⟨a,L⟩]) (by decide))⟩
  |true=>exact⟨_,_,rfl,af.no rfl (z (Cs p) b f (λ_=>⟨L,rfl⟩) λh=>absurd a h)⟩
 ·have a:x.kind≠1:=by simpa using a
  exact z [] i Mod.refl (λh=>absurd h a) λ_=>rfl
end
def dh(a:Int)(b:A2I):Ev:=⟨0,a,0,0,0,0,false,b⟩
def BP(c:Option (List Ev))(wid:A2I)(a:Nat)(b:Int):bC:=match c with
 |none=>PW wid a 0 0 false UO b
 |some l=>PW wid a (Ai l).status (Ai l).next false (Ai l) b
def ue(p:cA)(a:Int):Int:=if(0:Int)>a+p.aG then 0 else a+p.aG
def Cy(x:cC)(p:cA)(a:bC)(b:Nat):bC:=
 if x.kind=1 then(if 0<p.aG then ER (EC a (dh 1 (AX (Cs p)))) ⟨6,0,0⟩ (ue p a.now) b else EC a (dh 1 (AX (Cs p))))
 else if x.kind=2 then EC a (dh 12 x.name)
 else if x.kind=3 then(if a.st.cancel=true then a else EC a (dh 13 ⟨#[]⟩))
 else EC a (dh 18 ⟨#[]⟩)
def EK(x:cC)(p:cA)(a:bC)(b:Nat):bC:=pg (Cy x p a b) (JM x.aX) (j8 (Ms x p) (Df (Cy x p a b)).1.toNat (Df (Cy x p a b)).2.toNat)
def NT(b:cI)(c:cP)(d:Nat)(x:cC)(p:cA):Option (Int×Int×Int):=
 if x.kind<1\/4<x.kind then some (1,0,0)
 else if Po x p≠0 then some (Po x p,0,0)
 else if d=0 then some (170,0,0)
 else match c x.aX with
  |some a=>if a.1≠Ms x p then some (184,0,0) else some (0,a.2.1,a.2.2)
  |none=>match b x.wid with
   |none=>if x.kind=1 then none else some (180,0,0)
   |some l=>if x.kind=1 then some (181,0,0) else if(Ai l).status≠0 then some (182,0,0) else none
theorem AJe {a:Option (List Ev)}{wid:A2I}{n:Nat}{now:Int}(h: ∀l,a=some l->IJ l):Ec (BP a wid n now).st 500/\(BP a wid n now).more= []/\(BP a wid n now).au= []/\(BP a wid n now).conds= []/\(BP a wid n now).wid=wid/\(BP a wid n now).aq=n/\(BP a wid n now).now=now/\(BP a wid n now).fits (a.getD []):=by
 cases a with
 |none=>exact⟨Ec.zero.up (by omega),rfl,rfl,rfl,rfl,rfl,rfl,rfl,λc d=>by cases d⟩
 |some l=>
  have b:=h l rfl;refine⟨?_,rfl,rfl,rfl,rfl,rfl,rfl,?_⟩
  ·have:=yA Ec.zero b.ok;exact this.up (by have:=b.len;omega)
  ·show FU UO (l++ [])=some (Ai l)/\ ∀c∈l++ [],_;rw[AN];exact⟨b.ok,b.kd⟩
theorem ANA {x:cC}{p:cA}{a:bC}{num c:Nat}(u:Po x p=0)(ok: ∀e∈a.more,Dk e=true/\e.data.size<1099511627776)(v:Ec a.st c):a.grown (Cy x p a num) (c+1) 1 1:=by
 obtain⟨w,y,C,D⟩:=ll u;have b:=XV ok v;have z:(⟨#[]⟩:A2I).size<1099511627776:=by decide
 have up: ∀ {d:bC},a.grown d (c+1) 1 0->a.grown d (c+1) 1 1:=λ{d} ⟨f,g,i,j,k,l,m,s,n,B,o,q⟩=>⟨f,g,i,j,k,l,m,s,n,by omega,o,q⟩
 unfold Cy;split
 ·rename_i r;have t:(dh 1 (AX (Cs p))).data.size<1099511627776:=by show(AX (Cs p)).size<_;have:=R4 (w r);rw[AP];omega
  split
  ·exact Xa (MM b t) _ _ _
  ·exact up (MM b t)
 ·split
  ·rename_i r;exact up (MM b (e:=dh 12 x.name) (by have:=Ep (y r);show x.name.size<_;omega))
  ·split
   ·split
    ·obtain⟨f,g,i,j,k,l,m,s,n,B,o,q⟩:=b;exact⟨f,g,i,j,k,l,m,by omega,n,by omega,o,q.up (BY _)⟩
    ·exact up (MM b z)
   ·exact up (MM b z)
theorem AP5 {x:cC}{p:cA}{a:bC}{c:Nat}{b:List Ev}(h:a.fits b):(Cy x p a c).fits b:=by
 unfold Cy;split
 ·split
  ·exact Zx (Ro h (.inl rfl))
  ·exact Ro h (.inl rfl)
 ·split
  ·exact Ro h (.inr (.inr (.inl rfl)))
  ·split
   ·split
    ·exact h
    ·exact Ro h (.inr (.inr (.inr (.inl rfl))))
   ·exact Ro h (.inr (.inr (.inr (.inr rfl))))
theorem AKT {x:cC}{p:cA}{c:bC}{d:Nat}(h:c.au= []):(Cy x p c d).beside none:=by
 have b:c.beside none:=⟨(λp a=>by rw[h] at a;cases a),(λp a=>by rw[h] at a;cases a),(λp a=>by rw[h] at a;cases a)⟩;unfold Cy;split
 ·split
  ·exact Uw (MO b _) _ _ _
  ·exact MO b _
 ·split
  ·exact MO b _
  ·split
   ·split
    ·exact b
    ·exact MO b _
   ·exact MO b _
theorem uf {b:bC}{c:Ev}(h:(EC b c).err=0):b.err=0:=by
 unfold EC at h;split at h
 ·rename_i a;exact absurd h a
 ·rename_i a;simpa using a
theorem qt {a:bC}{b:Ev}(h:(EC a b).err=0):EC a b= {a with st:=(Bj a.st (Ce a b)).2,more:=a.more++ [Ce a b]}/\(Bj a.st (Ce a b)).1=0:=by
 have d:=uf h;unfold EC at h ⊢;rw[if_neg (by simp[d])] at h ⊢;split at h
 ·cases h
 ·rename_i e;rw[if_neg e];split at h
  ·rename_i c;exact absurd h c
  ·rename_i c;rw[if_neg c];exact⟨rfl,by simpa using c⟩
theorem AOn {a:bC}{b:Nat}(h:(EZ a b).err=0):a.err=0:=by
 unfold EZ at h;split at h
 ·exact uf (YH h)
 ·exact h
theorem ug {a:bC}{c d:Nat}(h:(BA a c d).err=0):(BA a c d).st.status=(Df a).1/\(BA a c d).st.next=(Df a).2:=by
 have g:=Vu h;have j:(BA a c d).st=(EZ a c).st:=by
  unfold BA;split
  ·exact(HV _ _ _ _).1
  ·rfl
 rw[j];unfold Df;by_cases e:Dl a=true
 ·rw[if_pos e];unfold EZ at g ⊢;rw[if_pos e] at g ⊢;rw[(HV _ _ _ _).1];obtain⟨k,b⟩:=qt (YH g);rw[k];show(Bj a.st (Ce a Qp)).2.status=_/\(Bj a.st (Ce a Qp)).2.next=_;have ok:=Qz b;unfold Bj at b ⊢;rw[if_neg (by simp[ok])] at b ⊢;split at b
  ·rename_i i;rw[if_neg (λh=>by have h:(2:Int)=1:=h.1;cases h)] at b;cases b
  ·rename_i i;rw[if_neg i];split at b
   ·cases b
   ·rename_i l;rw[if_neg l];split at b
    ·cases b
    ·rename_i m;rw[if_neg m];cases f:RX a.st (Ce a Qp) with
     |none=>rw[f] at b;cases b
     |some t=>
      unfold RX at f;rw[if_pos (show 2<=(Ce a Qp).kind/\(Ce a Qp).kind<=5 from(by decide:(2:Int)<=2/\(2:Int)<=5))] at f;obtain⟨u,n,rfl⟩:=Option.map_eq_some_iff.1 f;exact⟨(Qg n).2.2.2,rfl⟩
 ·rw[if_neg e];unfold EZ;rw[if_neg e];exact⟨rfl,rfl⟩
structure Hs.dz (y y':Hs):Prop where
 p:y'.p=y.p
 name:y'.name=y.name
 f:y'.f=y.f
 u: ∀m,y.u m<=y'.u m/\y'.u m<=y.u m+3
theorem bo.less {g:aa}{O O':Nat->Prop}{c:Nat}(h:bo g O' c)(b: ∀c,O c->O' c):bo g O c:=⟨h.1,λd=>h.2 (b c d)⟩
theorem XY(wid:A2I){n:Nat}(h:1<=n):A8 wid n<n:=Cp _ h
section
variable {A : ak} {B : bV} {g h : aa} {s a N sh : Nat} {l : List Hs} {mp : List Pr} {O : Nat -> Prop} {i : Nat} {y : Hs} {fl : cI} {an : cP} {R : A2H}
def qv(b:bC):Option (List Ev)->Prop
 |none=>b.cq=0
 |some l=>b.cJ=(Ai l).status/\b.cq=(Ai l).next/\b.kept=false/\0<b.cq
theorem ARn {b:Option (List Ev)}{wid:A2I}{n:Nat}{now:Int}(h: ∀l,b=some l->IJ l):(0<=(BP b wid n now).cJ/\(BP b wid n now).cJ<=4)/\(0<=(BP b wid n now).cq/\(BP b wid n now).cq<=501)/\qv (BP b wid n now) b:=by
 cases b with
 |none=>exact⟨⟨(by decide:(0:Int)<=0),(by decide:(0:Int)<=4)⟩,⟨(by decide:(0:Int)<=0),(by decide:(0:Int)<=501)⟩,rfl⟩
 |some l=>
  have c:=h l rfl;have st:=c.st;have nx:=c.next.1;have d:=c.len;exact⟨st,⟨by show 0<=(Ai l).next;omega,by show(Ai l).next<=501;omega⟩,rfl,rfl,rfl,by show 0<(Ai l).next;omega⟩
theorem AKa {b c:bC}{e d f:Nat}(G:b.grown c e d f)(h:b.more= []):c.more.length<=d:=by have:=G.more;rw[h] at this;simpa using this
theorem AM3 {x:cC}{p:cA}{cY:J0}{now:Int}(cZ:cu g)(c0:B.cm=true)(ac:LW B g h s a N sh l mp O)(aj:l[i]? =some y)(ak:JU mp fl an)(V:View TZ h x.steps p.steps)(a4:x.aG=p.aG)(len:p.steps.length<=1099511627776)
  (d4: -4611686018427300000<=now/\now<=4611686018427300000) (ch: ∀n,y.f n<=2147483647) (ci: ∀n,y.u n+3<16777216) (d5:N+3<=1000000) (hA:4+3*a<=B.A) (c1:64*a+64<=B.C) (c2:a+1<=1000000)
  (aM: ∀f e st nx,NT fl an (y.f (A8 x.wid sh)) x p=some (e,st,nx)->Ext h f->R (fI e st nx).v f)
  (c3: ∀f C aV r u,NT fl an (y.f (A8 x.wid sh)) x p=none->y.dz C->(BA (EK x p (BP (fl x.wid) x.wid (A8 x.wid sh) now) aV) r u).err≠0->LW B g f s a (N+3) sh (l.set i C) mp O->Mod (bo g O) h f->R (fI (BA (EK x p (BP (fl x.wid) x.wid (A8 x.wid sh) now) aV) r u).err 0 0).v f)
  (c4: ∀f C,NT fl an (y.f (A8 x.wid sh)) x p=none->y.dz C->Bv mp (FH (A8 x.wid sh) (y.f (A8 x.wid sh)) y.name)=false->LW B g f s a (N+3) sh (l.set i (C.lost (A8 x.wid sh))) mp O->Mod (bo g O) h f->R (fI 170 0 0).v f)
  (c5: ∀f C aV r u D,D=BA (EK x p (BP (fl x.wid) x.wid (A8 x.wid sh) now) aV) r u->NT fl an (y.f (A8 x.wid sh)) x p=none->y.dz C->(Dl (EK x p (BP (fl x.wid) x.wid (A8 x.wid sh) now) aV)=true->eE y C (A8 x.wid sh) r)->D.err=0->LW B g f s (a+1) (N+3) sh (l.set i C) (cj mp (Et D++D.au)) O->
   JU (cj mp (Et D++D.au)) (dO fl x.wid ((fl x.wid).getD []++D.more)) (dO an x.aX (Ms x p,D.st.status,D.st.next))->Ai ((fl x.wid).getD []++D.more)=D.st->(∀ n bu ck,Bv (cj mp (Et D++D.au)) (FH n bu ck)=Bv mp (FH n bu ck))->Mod (bo g O) h f->R (fI 0 D.st.status D.st.next).v f):
  AA A P Dc #[Ak y.p,cY,J6 J9 now,x.v] h R:=by
 obtain⟨-,cl,c6⟩:=ac.dY aj;have cm:=(List.getElem?_eq_some_iff.1 aj).1;have dx:l.set i y=l:=by rw[<- (List.getElem?_eq_some_iff.1 aj).2];exact OK cm
 have d6:=XY x.wid cl;refine AAY ?_;unfold TU;refine ao.mk λal _ am bv d7=>ao.mk λax _ a5 cn d8=>?_
 have ae:Ext h ax:=bv.trans cn;have am:ax[h.size]? =some (J2 x.c Md (0,0)):=cn.ag am λh=>h
 have d9:=Ag a5;have aN: ∀ {U:aa} (e st nx:Int),Ext ax U->(∀ f,Ext h f->R (fI e st nx).v f)->aW U ⟨al.size,0,none⟩ (fI e st nx).l λa6=>GR a6 ⟨al.size,0,none⟩ λc7=>R (c7.v) a6:=λ{U} e st nx I c8=>
  lj (I.ag a5 λh=>h) λf bw=>c8 f ((ae.trans I).more bw λc d=>by subst d;exact bv.size)
 refine ai.mk λK c9=>?_
 have co: ∀a7:Bool,(a7=true↔x.kind<1\/4<x.kind)->K (a7,()) ax:=λa7 cp=>by
  refine c9 _ _ (af.intro (λk=>aN 1 0 0 Mod.refl λf I=>aM f 1 0 0 (by unfold NT;rw[if_pos (cp.1 k)]) I) (λk=>?_));have k:a7=false:=k;have bx: ¬(x.kind<1\/4<x.kind):=λh=>by rw[cp.2 h] at k;cases k
  have cq:1<=x.kind/\x.kind<=4:=by omega
  refine pn.mk x (EN am rfl) (ANO (V.ext ae) a4 len cq λea aX=>⟨_,_,rfl,?_⟩);by_cases ag:Po x p=0;rotate_left
  ·refine af.yes (by simp[ag]) (aN (Po x p) 0 0 aX λf I=>aM f _ 0 0 (by unfold NT;rw[if_neg bx,if_pos ag]) I)
  rw[if_pos ag];refine af.no (by simp[ag]) (af.no rfl ?_);obtain⟨bz,da,ay,aY⟩:=ll ag;have eb:=Ep ay;have ec:=Ep aY;have dl:=APW ag cq;have bA:=ac.on (ae.trans aX);have bB:=aX.ag am λh=>h
  refine AJ.mk (n:=x.wid) (AB bB rfl) (bA.aI aj ⟨_,rfl,⟨AB bB rfl,Ob (by omega) cl c6 ⟨_,_,rfl,bA.holds aj ⟨_,rfl,?_⟩⟩⟩⟩);refine af.intro (λk=>aN 170 0 0 aX λf I=>aM f 170 0 0 (by unfold NT;rw[if_neg bx,if_neg (by simp[ag]),if_pos (by simpa using k)]) I) (λk=>?_);have bD:y.f (A8 x.wid sh)≠0:=by simpa using k
  have q:NT fl an (y.f (A8 x.wid sh)) x p=match an x.aX with
    |some F=>if F.1≠Ms x p then some (184,0,0) else some (0,F.2.1,F.2.2)
    |none=>match fl x.wid with
     |none=>if x.kind=1 then none else some (180,0,0)
     |some l=>if x.kind=1 then some (181,0,0) else if(Ai l).status≠0 then some (182,0,0) else none:=by
   unfold NT;rw[if_neg bx,if_neg (by simp[ag]),if_neg bD];try rfl
  refine AJ.mk (n:=x.aX) (AB bB rfl) (AIH bA aj ak aY λed db=>?_);have a8:=aX.trans db;cases bE:an x.aX with
  |some F=>
   rw[bE] at q;refine⟨_,KO.mk (fI 0 F.2.1 F.2.2) ⟨_,_,rfl,ao.mk λa6 _ bF bH dc=>aW.mk bF (A0 9) λbI bJ bK dd=>af.no rfl ?_⟩⟩;rw[Qb] at bJ;have az:Ext ax bI:=(a8.trans bH).more bK λc d=>by subst d;exact a8.size
   refine ai.mk λde bL=>af.yes rfl (bL _ _ ?_)
   rw[CZ];refine af.intro (λk=>aN 184 0 0 az λf I=>aM f 184 0 0 (by
    have k: ¬(AX F.1=AX (Ms x p)):=by simpa using k
    rw[q];show(if F.1≠Ms x p then _ else _)=_;rw[if_pos λh=>k (by rw[h])]) I) (λk=>af.yes rfl (GR.mk (fI 0 F.2.1 F.2.2) (UM bJ) (aN 0 F.2.1 F.2.2 az λf I=>aM f 0 F.2.1 F.2.2 (by
    have k:AX F.1=AX (Ms x p):=by simpa using k
    rw[q];show(if F.1≠Ms x p then _ else _)=_;rw[if_neg (by rw[Mq.1 k];simp)]) I)))
  |none=>
   rw[bE] at q;refine⟨_,KO.mk bY.z ⟨_,_,rfl,ao.mk λa6 _ bF bH dc=>aW.mk bF (A0 9) λbI bJ bK dd=>af.no rfl ?_⟩⟩;have az:Ext ax bI:=(a8.trans bH).more bK λc d=>by subst d;exact a8.size
   refine ai.mk λde bL=>af.no rfl (bL _ _ (af.no rfl (af.no rfl ?_)))
   have df:=ac.on (ae.trans az);refine AJ.mk (n:=x.wid) (AB (az.ag am λh=>h) rfl) (u5 df aj ak (λh=>by rw[ay] at h;cases h) λ_ aZ cr=>O9.mk _ ⟨_,rfl,ao.mk λee _ dg di ef=>aW.mk dg (A0 18) λbM aA dj eg=>?_⟩);rw[XQ] at aA;have cs:Ext aZ bM:=di.more dj λc d=>by subst d;exact A0 _
   have aC:Ext ax bM:=(az.trans cr).trans cs;have eh:=(az.trans cr).size;have a9:=aC.ag am λh=>h
   refine ai.mk λct cv=>?_
   have bN: ∀(e:Int),e≠0->NT fl an (y.f (A8 x.wid sh)) x p=some (e,0,0)->ct (e,()) bM:=λe J d=>
    cv _ _ (af.yes (by simp[J]) (aN e 0 0 aC λf I=>aM f e 0 0 d I))
   have cw: ∀l,fl x.wid=some l->IJ l:=λl aD=>ak.cZ _ _ aD
   obtain⟨a0,bO,bP,cx,bQ,cy,cz,dk⟩:=AJe (wid:=x.wid) (n:=A8 x.wid sh) (now:=now) cw;obtain⟨ei,dm,aO⟩:=ARn (wid:=x.wid) (n:=A8 x.wid sh) (now:=now) cw;have cB: ∀ {U:aa} {es:Sl} {a' b' c':Sl},NT fl an (y.f (A8 x.wid sh)) x p=none->Ext h U->U[h.size]? =some (J2 x.c Md (0,0))->U[al.size]? =some (J2 bY.z.c DK (0,0))->
     (∃ fv:bZ,U[aZ.size]? =some (J2 fv.c DJ (0,0))/\fv=⟨x.wid,(A8 x.wid sh:Int),⟨(BP (fl x.wid) x.wid (A8 x.wid sh) now).cJ,(BP (fl x.wid) x.wid (A8 x.wid sh) now).cq,false⟩,es,(BP (fl x.wid) x.wid (A8 x.wid sh) now).st.V a' b' c'⟩)->
     KW U (BP (fl x.wid) x.wid (A8 x.wid sh) now).st a' b' c'->(∀ c,a'.ag=some c\/b'.ag=some c\/c'.ag=some c->aZ.size<c)->(∀ ba:bC,ba=PW x.wid (A8 x.wid sh) (BP (fl x.wid) x.wid (A8 x.wid sh) now).cJ (BP (fl x.wid) x.wid (A8 x.wid sh) now).cq false (BP (fl x.wid) x.wid (A8 x.wid sh) now).st now->ba=BP (fl x.wid) x.wid (A8 x.wid sh) now)->
     ct (0,()) U:=λ{U es a' b' c'} dn bR dp dq a1 bb fr bS=>by
    have bS:=bS _ rfl;have bc:=dn;generalize ej:BP (fl x.wid) x.wid (A8 x.wid sh) now=b at*
    obtain⟨fv,a1,rfl⟩:=a1;refine cv _ _ (af.no rfl (I7.mk _ (X8 a1) ?_));have ek:=Ag a1
    let Q:Nat->Prop:=λc=>O c\/c=h.size\/c=al.size\/c=aZ.size
    have cD: ∀c,iY b.st a' b' c' c->aZ.size<c:=λc d=>fr c (by
     rcases d with⟨_,h⟩|⟨_,h⟩|⟨_,h⟩
     ·exact .inl h
     ·exact .inr (.inl h)
     ·exact .inr (.inr h))
    have el:=bv.size;have cE: ∀c,O c->c<h.size:=λc d=>(ac.out d).1
    have dr:LW B g U s a N sh (l.set i y) mp (λc=>Q c\/iY b.st a' b' c' c):=by
     rw[dx];refine ac.own bR.mod λc d=>?_
     rcases d with(h|h|h|h)|h
     ·exact .inl h
     ·exact .inr (by omega)
     ·exact .inr (by omega)
     ·exact .inr (by omega)
     ·exact .inr ⟨by have:=cD c h;omega,bb.lt h⟩
    refine AQV (O:=Q) (now:=now) dr cm bb (λc d S=>?_) λaE bd z cF aP Y=>⟨_,rfl,?_⟩
    ·have:=cD c d;rcases S with h|h|h|h
     ·have:=cE c h;omega
     ·omega
     ·omega
     ·omega
    rw[bS] at aP;have bT: ∀ {c:Nat} {w:aa} {o:Obj},w[c]? =some o-> ∀ {T:aa},Q c->Mod (bo g Q) w T->T[c]? =some o:=λ{c w o} bU {T} S m=>m.ag bU λbV=>bV.2 S
    have cG:Q h.size:= .inr (.inl rfl);have be:Q al.size:= .inr (.inr (.inl rfl));have aQ:=Y.ag dp λh=>h
    have ds:=Y.ag dq λh=>h
    have dt: ∀e∈b.more,Dk e=true/\e.data.size<1099511627776:=λe J=>by rw[bO] at J;cases J
    refine AC.mk (n:=x.kind) (AL aQ rfl) (ai.mk λcH du=>?_);have bW: ∀ {L:aa} {z':Nat->Nat} {iy:fi} {C:Hs} (num:Nat),CW B g L s a (N+1) sh l i C mp Q bd z' iy (Cy x p b num)->y.dH C->Mod (bo g Q) aE L->cH () L:=λ{L z' iy C} num aR M bX=>by
     have G:=ANA (num:=num) ag dt a0;have dv:=AKa G bO;have b0:=G.au;rw[bP] at b0;have nx:=G.st.next;have dw:=bT aQ cG bX;have dy:=bT ds be bX;refine du _ _ (ARK aR nx λaF aG=>KO.mk (fI 0 (Df (Cy x p b num)).1 (Df (Cy x p b num)).2) ⟨rfl,ao.mk λdA _ dB b1 en=>aW.mk dB (A0 9) λb2 ap dC eo=>?_⟩);rw[Qb] at ap;have bf:Ext L b2:=(aG.trans b1).more dC λc d=>by subst d;exact aG.size
     have bg:=aG.size;have ep:=Ag ap
     let aH:Nat->Prop:=λc=>Q c\/c=aF.size
     have dD:CW B g b2 s a (N+1) sh l i C mp aH bd z' iy (Cy x p b num):=aR.wider (O':=aH) bf.mod λc d=>d.imp id λh=>by omega
     have cI:0<=(Df (Cy x p b num)).1/\(Df (Cy x p b num)).1<=4:=G.st.st;have cJ:0<=(Df (Cy x p b num)).2/\(Df (Cy x p b num)).2<=502:=by unfold Df;dsimp only;split<;>omega
     have b3:=Gy (n:=(Df (Cy x p b num)).1.toNat) (by omega);have eq:=Gy (n:=(Df (Cy x p b num)).2.toNat) (by omega);have er:=AV (n:=(Ms x p).length) (by omega);have et:(BG (Ms x p)).length<=2010:=by unfold BG;rw[A1];omega
     refine AJ.mk (n:=x.aX) (AB (bf.ag dw λh=>h) rfl) (AC.mk (n:=(Df (Cy x p b num)).1) (AB ap rfl) (AC.mk (n:=(Df (Cy x p b num)).2) (AB ap rfl) (uD (by omega) ⟨_,rfl,AB ap rfl,AB ap rfl,Pk (l:=Ms x p) (by omega) λeu cK=>⟨_,rfl,?_⟩⟩)));have b4:=cK.ag ap λh=>h
     refine⟨AB b4 rfl,AB b4 rfl,?_⟩;rw[PD (by omega) (by omega)];refine Ca (by omega) λev cL=>⟨_,rfl,?_⟩
     rw[Aq];have dE:=cL.ag b4 λh=>h
     refine⟨AB dE rfl,by rw[AP,AP,max_i64];omega,?_⟩;rw[PD (by omega) (by omega)];refine Ca (by omega) λew dF=>⟨_,rfl,⟨by rw[AP,AP,A1,max_i64];omega,?_⟩⟩
     rw[Aq,A4];have bh:=(cK.trans cL).trans dF;have dG:=dD.on bh;refine ANy (key:=JM x.aX) (val:=j8 (Ms x p) (Df (Cy x p b num)).1.toNat (Df (Cy x p b num)).2.toNat) dG (by rw[G.conds,cx];decide) (by simp at b0;omega) λb5 ex ey cM b6=>⟨rfl,?_⟩
     have bi: ∀ {c:Nat} {w:aa} {o:Obj},w[c]? =some o-> ∀ {T:aa},aH c->Mod (bo g aH) w T->T[c]? =some o:=λ{c w o} bU {T} S m=>m.ag bU λbV=>bV.2 S
     have cN:aH aF.size:= .inr rfl;have dH:=bi (bh.ag ap λh=>h) cN b6;have dI:=bi (bh.ag (bf.ag dy λh=>h) λh=>h) (.inl be) b6;have dJ:pg (Cy x p b num) (JM x.aX) (j8 (Ms x p) (Df (Cy x p b num)).1.toNat (Df (Cy x p b num)).2.toNat)=EK x p b num:=rfl;rw[dJ] at cM;have aq:(EK x p b num).conds= [⟨JM x.aX,⟨#[]⟩,true⟩]:=by show(Cy x p b num).conds++_=_;rw[G.conds,cx];rfl
     have aI:(EK x p b num).aq=A8 x.wid sh:=G.aq.trans cy;have b7:(EK x p b num).wid=x.wid:=G.wid.trans bQ;have ez:(EK x p b num).au.length<=2:=by show((Cy x p b num).au++ [_]).length<=2;rw[A1,CN];simp at b0;omega
     have b8: ∀ {w:aa},Mod (bo g aH) b5 w->w[al.size]? =some (J2 bY.z.c DK (0,0))/\Mod (bo g O) h w:=λ{w} m=>⟨bi dI (.inl be) m,by
      have bj:Mod (bo g O) h aE:=(bR.trans Y).mod;have dK:Mod (bo g O) aE L:=bX.aj λc _ d=>bo.less d λc S=> .inl S
      have dL:Mod (bo g O) b2 b5:=bh.mod.trans (b6.aj λc _ d=>bo.less d λc S=> .inl (.inl S));have dM:Mod (bo g O) b5 w:=m.aj λc _ d=>bo.less d λc S=> .inl (.inl S)
      exact(((bj.trans dK).trans bf.mod).trans dL).trans dM⟩
     have b9: ∀ {w T:aa} {bj cO:Nat} {b3:List Hs} {cP:List Pr},LW B g w s bj cO sh b3 cP aH->Mod (· =al.size) w T->LW B g T s bj cO sh b3 cP O:=λdN m=>dN.own (m.aj λc _ d=>by subst d;exact .inl be) λc d=> .inl (.inl (.inl d))
     have last: ∀ {w T:aa},Mod (bo g O) h w->Mod (· =al.size) w T->Mod (bo g O) h T:=λm bw=>m.trans (bw.aj λc _ d=>by
      subst d;have:=ac.ext.size;exact⟨by omega,λS=>by have:=cE _ S;omega⟩)
     have dz: ∀ {Z:Hs},C.dZ Z->y.dz Z:=λ{Z} W=>⟨W.p.trans M.p,W.name.trans M.name,W.f.trans M.f,λm=>by have:=M.u m;have:=W.u m;omega⟩
     have dP:FH (EK x p b num).aq (C.f (EK x p b num).aq) C.name=FH (A8 x.wid sh) (y.f (A8 x.wid sh)) y.name:=by rw[aI,M.f,M.name]
     have dQ:bG (EK x p b num)=bG b:=by show bG (Cy x p b num)=_;unfold bG;rw[G.cq,G.cJ,G.kept,G.wid]
     have dR:Bv mp (bG (EK x p b num))=true:=by
      rw[dQ];refine AJl ak (by rw[bQ];exact ay) ?_;rw[bQ];unfold qv at aO;split at aO
      ·rename_i E;first|exact aO|(rw[E];exact aO)
      ·rename_i E;first|exact aO|(rw[E];exact aO)
     have cQ:Ec (EK x p b num).st (500+1):=G.st;have cR: ∀e∈(EK x p b num).more,Dk e=true/\e.data.size<1099511627776:=G.ok;refine ANq cZ c0 cM cQ (by omega) (by rw[b7];exact ay) cR (by rw[aI];omega) (by rw[aI,M.f];exact ch _) (by have:=M.u (EK x p b num).aq;have:=ci (EK x p b num).aq;omega) (by omega) hA c1 c2 (by show(Cy x p b num).more.length<=_;omega) (by omega) (by rw[aq];simp) (λH k=>by
       rw[aq] at k;rw[List.mem_singleton.1 k];show(JM x.aX).size<=_;rw[Vs];omega) (by show 0<=(Cy x p b num).cJ/\(Cy x p b num).cJ<128;rw[G.cJ];omega) (by show 0<=(Cy x p b num).cq/\(Cy x p b num).cq<=501;rw[G.cq];exact dm) (by show -_<=(Cy x p b num).now/\(Cy x p b num).now<=_;rw[G.now,cz];omega)
      (λdS=>absurd dS (by rw[aI,M.f];exact bD)) (λr u Z ca W J aJ aK=>⟨_,rfl,?_⟩) (λr u Z ca W J aD aJ aK=>⟨_,rfl,?_⟩) (λr u Z ca W J aD hd aJ aK=>?_) (λr u Z ca W dT J aD hd aJ aK=>⟨_,rfl,?_⟩)
     ·obtain⟨aS,aT⟩:=b8 aK;refine af.yes (by simpa using J) (lj (x:=fI (BA (EK x p b num) r u).err 0 0) aS λa2 ar=>?_);exact c3 a2 Z num r u bc (dz W) J (b9 aJ ar) (last aT ar)
     ·obtain⟨aS,aT⟩:=b8 aK;rw[dP] at aD;refine af.yes rfl (lj (x:=fI 170 0 0) aS λa2 ar=>?_);rw[aI] at aJ;exact c4 a2 Z bc (dz W) aD (b9 aJ ar) (last aT ar)
     all_goals
      have X:=uR (n:=500+1) cR cQ r u;have cb:(BA (EK x p b num) r u).beside (some (x.aX,(Ms x p,(Df (Cy x p b num)).1,(Df (Cy x p b num)).2))):=by have vc:=(ug J).2;have:=X.st.next;refine AGn (AIc (x:=(Ms x p,(Df (Cy x p b num)).1,(Df (Cy x p b num)).2)) (AKT bP) aY cI ?_ dl) r u;have dU:(Df (EK x p b num)).2=(Df (Cy x p b num)).2:=rfl;rw[dU] at vc;exact⟨cJ.1,by show(Df (Cy x p b num)).2<=501;omega⟩
      have mem:ZB x.aX (Ms x p,(Df (Cy x p b num)).1,(Df (Cy x p b num)).2)∈(BA (EK x p b num) r u).au:=AMc (Iv _ (by simp[ZB])) r u
     ·exfalso;refine hd (ATr (by rw[X.wid,b7];exact ay) X.ok X.st cb ?_ (λh=>?_) ?_ λc d=>?_)
      ·have aS:=X.more;have aT:=X.au;have eA:(EK x p b num).more.length<=1:=dv;omega
      ·rw[SU] at h;rw[h.2] at mem;cases mem
      ·rw[aq];simp
      ·rw[aq] at d;rcases List.mem_cons.1 d with rfl|d
       ·exact aD
       ·rcases List.mem_append.1 d with d|d
        ·rw[List.mem_singleton.1 d];exact AMz ak aY bE
        ·rw[List.mem_singleton.1 d];exact dR
     ·obtain⟨aS,aT⟩:=b8 aK;obtain⟨bk,bm⟩:=ug J;have bk:(BA (EK x p b num) r u).st.status=(Df (Cy x p b num)).1:=bk;have bm:(BA (EK x p b num) r u).st.next=(Df (Cy x p b num)).2:=bm;have dV:=bi dH cN aK;refine af.no rfl (GR.mk (fI 0 (Df (Cy x p b num)).1 (Df (Cy x p b num)).2) (UM dV) (lj aS λa2 ar=>?_));rw[<- bk,<-bm];have cS:(BA (EK x p b num) r u).fits ((fl x.wid).getD []):=AJx (AP5 dk);have bn:(BA (EK x p b num) r u).wid=x.wid:=X.wid.trans b7;have cT:(fl x.wid).getD []++(BA (EK x p b num) r u).more≠ []:=by
       intro h;rw[SU] at h;have bp:x.kind=1:=by
        cases E:fl x.wid with
        |some l=>
         rw[E] at h;exact absurd h.1 (ak.cZ _ _ E).ne
        |none=>
         rw[E] at q;rw[bc] at q;by_cases bp:x.kind=1
         ·exact bp
         ·have q:(none:Option (Int×Int×Int))=if x.kind=1 then none else some (180,0,0):=q;rw[if_neg bp] at q;cases q
       have au:(EK x p b num).err=0:=AOn (Vu J);have au:(Cy x p b num).err=0:=au;refine X.none (λah=>?_) h.2;have ah:(Cy x p b num).more= []:=ah;unfold Cy at ah au;rw[if_pos bp] at ah au;split at ah
       ·rename_i cc;rw[if_pos cc] at au;rw[(HV _ _ _ _).2,(qt (YH au)).1] at ah;simp at ah
       ·rename_i cc;rw[if_neg cc] at au;rw[(qt au).1] at ah;simp at ah
      have a3:=ak.done ac.sorted (D:=BA (EK x p b num) r u) (o:=some (x.aX,(Ms x p,(Df (Cy x p b num)).1,(Df (Cy x p b num)).2))) (by rw[bn];exact ay) (by rw[bn];exact cS) (by rw[bn];exact cT) X.st cb (λbu eB cd=>by
       cases cd;have:=X.st.next;exact⟨mem,aY,cI,⟨cJ.1,by show(Df (Cy x p b num)).2<=501;omega⟩,dl⟩)
      rw[bn] at a3;have a3:JU _ _ (dO an x.aX (Ms x p,(Df (Cy x p b num)).1,(Df (Cy x p b num)).2)):=a3;rw[<- bk,<-bm] at a3;exact c5 a2 Z num r u _ rfl bc (dz W) (λcd=>by
       obtain⟨v,v1,v2,cU⟩:=dT cd (by rw[aI,M.f];exact bD);rw[aI] at v1 v2 cU;exact⟨v,by have:=M.u (A8 x.wid sh);omega,v2,by rw[cU,M.f]⟩) J (b9 aJ ar) a3 (ud cS cT X.st).2 (AI2 ac.sorted cb) (last aT ar)
    have dW:CW B g aE s a (N+1) sh l i y mp Q bd z cF b:=aP.put (by omega) (by omega) (by omega);have bq: ∀ {L z' iy} (e:Ev) (D:bC),D=EC b e->CW B g L s a N sh l i y mp Q bd z' iy D->Mod (bo g Q) aE L->(∀ num,Cy x p b num=D)->cH () L:=λ{L z' iy} e D eC aR aU d=>bW (z':=z') (iy:=iy) 0 (by rw[d];exact aR.put (by omega) (by omega) (by omega)) (Hs.dH.refl y) aU
    have cV:(⟨#[]⟩:A2I).size<1099511627776:=by decide
    have br:b.more.length<1000:=by rw[bO];decide
    refine af.intro (λj=>?_) (λj=>?_)
    ·have j:x.kind=1:=by simpa using j
     refine Ad.mk (s:=x.steps) (AB aQ rfl) (AC.mk (n:=x.aG) (CL (by exact aQ) rfl) ?_);rw[a4];refine uM (V.ext (bR.trans Y)) len λL bs=>?_
     have aR:=aP.on bs;unfold YX;rw[bz j];have eD:=R4 (bz j);refine⟨_,_,rfl,mI (e:=dh 1 (AX (Cs p))) aR a0 (by omega) (by show(AX (Cs p)).size<_;rw[AP];omega) (.inl rfl) br λaF bg aG av aL=>⟨rfl,?_⟩⟩;have ce:Mod (bo g Q) aE aF:=bs.mod.trans aL;have cW:=bT aQ cG ce;refine AC.mk (n:=x.aG) (CL (by exact cW) rfl) ?_;rw[a4];refine af.intro (λk=>?_) (λk=>?_)
     ·have k:0<p.aG:=by simpa using k
      have eF:=(yy (bz j)).2.1;refine AC.mk (n:=x.aG) (CL (by exact cW) rfl) ?_;rw[a4,wrap_i64 (by omega) (by omega)];have dX:(EC b (dh 1 (AX (Cs p)))).aq=A8 x.wid sh:=(Og _ _).2.1.trans cy;refine uP (t:=⟨6,⟨#[]⟩,0,0⟩) av (by rw[dX];omega) (ch _) (by have:=ci (EC b (dh 1 (AX (Cs p)))).aq;omega) (by omega) (by omega) (by rw[ub,bP];decide) (by omega) λdA dY b1 C num dZ M _ d0=>⟨rfl,?_⟩
      refine bW (z':=dY) (iy:=b1) num ?_ M (ce.trans d0);have aq:Cy x p b num=ER (EC b (dh 1 (AX (Cs p)))) ⟨6,0,0⟩ (if(0:Int)>now+p.aG then 0 else now+p.aG) num:=by unfold Cy ue;rw[if_pos j,if_pos k,cz]
      rw[aq];exact dZ
     ·have k: ¬0<p.aG:=by simpa using k
      exact bq (dh 1 (AX (Cs p))) _ rfl av ce λnum=>by unfold Cy;rw[if_pos j,if_neg k]
    have j:x.kind≠1:=by simpa using j
    refine af.intro (λab=>?_) (λab=>?_)
    ·have ab:x.kind=2:=by simpa using ab
     refine AJ.mk (n:=x.name) (AB aQ rfl) (mI (e:=dh 12 x.name) aP a0 (by omega) (by have:=Ep (da ab);show x.name.size<_;omega) (.inr (.inr (.inl rfl))) br λaF bg aG av aL=>⟨rfl,?_⟩);exact bq (dh 12 x.name) _ rfl av aL λnum=>by unfold Cy;rw[if_neg j,if_pos ab]
    have ab:x.kind≠2:=by simpa using ab
    refine af.intro (λaw=>?_) (λaw=>?_)
    ·have aw:x.kind=3:=by simpa using aw
     have d1:=Y.ag a1 λh=>h
     refine AZ.mk (n:=b.st.cancel) (CL (by exact d1) rfl) (af.intro (λd=>?_) (λd=>?_))
     ·have d: ¬b.st.cancel=true:=by simpa using d
      refine mI (e:=dh 13 ⟨#[]⟩) aP a0 (by omega) cV (.inr (.inr (.inr (.inl rfl)))) br λaF bg aG av aL=>⟨rfl,?_⟩
      exact bq (dh 13 ⟨#[]⟩) _ rfl av aL λnum=>by unfold Cy;rw[if_neg j,if_neg ab,if_pos aw,if_neg d]
     ·have d:b.st.cancel=true:=by simpa using d
      refine bW (z':=z) (iy:=cF) 0 ?_ (Hs.dH.refl y) Mod.refl;have aq:Cy x p b 0=b:=by unfold Cy;rw[if_neg j,if_neg ab,if_pos aw,if_pos d]
      rw[aq];exact dW
    have aw:x.kind≠3:=by simpa using aw
    refine af.yes (by simp;omega) (mI (e:=dh 18 ⟨#[]⟩) aP a0 (by omega) cV (.inr (.inr (.inr (.inr rfl)))) br λaF bg aG av aL=>⟨rfl,?_⟩);exact bq (dh 18 ⟨#[]⟩) _ rfl av aL λnum=>by unfold Cy;rw[if_neg j,if_neg ab,if_neg aw]
   refine AC.mk (n:=x.kind) (AL a9 rfl) ?_;cases E:fl x.wid with
   |none=>
    rw[E] at q aA;refine af.intro (λj=>?_) (λj=>?_)
    ·have j:x.kind=1:=by simpa using j
     have q:NT fl an (y.f (A8 x.wid sh)) x p=if x.kind=1 then none else some (180,0,0):=q;rw[if_pos j] at q;refine af.no rfl (af.yes rfl (cB (es:=Xd) (a':=Xd) (b':=Xd) (c':=Xd) q (ae.trans aC) a9 (aC.ag a5 λh=>h) ⟨_,aA,by rw[E];rfl⟩ ?_ (λc d=>by simp[Sl.ag] at d) (λba cf=>by rw[cf,E];rfl)));rw[E];exact⟨View.nil,View.nil,View.nil⟩
    ·have j:x.kind≠1:=by simpa using j
     have q:NT fl an (y.f (A8 x.wid sh)) x p=if x.kind=1 then none else some (180,0,0):=q;rw[if_neg j] at q;exact ai.mk λd2 cg=>af.no rfl (cg _ _ (af.no rfl (af.no rfl (bN 180 (by decide) q))))
   |some bt=>
    rw[E] at q aA;have q:NT fl an (y.f (A8 x.wid sh)) x p=if x.kind=1 then some (181,0,0) else if(Ai bt).status≠0 then some (182,0,0) else none:=q;refine af.intro (λj=>?_) (λj=>?_)
    ·have j:x.kind=1:=by simpa using j
     rw[if_pos j] at q;exact af.yes rfl (bN 181 (by decide) q)
    have j:x.kind≠1:=by simpa using j
    rw[if_neg j] at q;refine ai.mk λd2 cg=>af.yes rfl (AC.mk (n:=(Ai bt).status) (CS (by exact aA) rfl) (cg _ _ (af.intro (λH=>?_) (λH=>?_))))
    ·have H:(Ai bt).status≠0:=by simpa using H
     rw[if_pos H] at q;exact bN 182 (by decide) q
    have H:(Ai bt).status=0:=by simpa using H
    rw[if_neg (by simp[H])] at q;have d3:=ac.on (ae.trans aC);refine af.yes rfl (AJ.mk (n:=x.wid) (AB a9 rfl) (qp d3 aj ak ay E λaE es a' b' c' Y eG bb fr eH=>O9.mk _ ⟨_,rfl,aW.mk (Y.ag aA λh=>h) (A0 18) λL cX aU eI=>?_⟩));rw[XQ] at cX;have eJ:=cs.size;have eK:=Ag aA;have bs:Ext h L:=((ae.trans aC).trans Y).more aU λc d=>by subst d;have:=ae.size;omega
    refine cB q bs (aU.ag (Y.ag a9 λh=>h) (by have:=ae.size;omega)) (aU.ag (Y.ag (aC.ag a5 λh=>h) λh=>h) (by omega)) ⟨_,cX,by rw[E];rfl⟩ ?_ (λc d=>by have:=fr c d;omega) (λba cf=>by rw[cf,E];rfl);rw[E];exact bb.fresh aU fr λc d=>by subst d;omega
 refine AC.mk (n:=x.kind) (AL am rfl) (af.intro (λH=>co true ?_) (λH=>AC.mk (n:=x.kind) (AL am rfl) (co _ ?_)))
 ·have H:x.kind<1:=by simpa using H
  simp[H]
 ·have H: ¬x.kind<1:=by simpa using H
  simp[H]
end
section
variable {x x' : cC} {p p' : cA}
end
section
variable {A : ak} {h : aa} {R : A2H}
end
class Zc where
 bx:Nat
 zf:A2I->Option (A2I×A2I)
def iE [Zc]:bV:=⟨32000,0,1600,by decide,by decide,by decide,Zc.bx,Zc.zf,true⟩
structure EW [Zc] (g h:aa) (s k sh:Nat) (l:List Hs) (mp:List Pr) (fl:cI) (an:cP) (O:Nat->Prop):Prop where
 w:LW iE g h s k (3*k) sh l mp O
 m:JU mp fl an
 all: ∀y∈l,∀n,y.u n<=3*k/\y.f n<=k
def ka(mp:List Pr)(y:Hs)(a:Nat):Prop:=y.f a≠0/\Bv mp (FH a (y.f a) y.name)=true
def Xh(fl:cI)(an:cP)(f:Nat)(x:cC)(p:cA)(j:Int)(b st nx:Int)(m:cI)(n:cP):Prop:=
 (m=fl/\n=an/\(NT fl an 1 x p=some (b,st,nx)\/(NT fl an 1 x p=none/\b≠0/\st=0/\nx=0/\ ∃c d e,b=(BA (EK x p (BP (fl x.wid) x.wid f j) c) d e).err)))\/
 (NT fl an 1 x p=none/\b=0/\ ∃c d e a,a=BA (EK x p (BP (fl x.wid) x.wid f j) c) d e/\a.err=0/\m=dO fl x.wid ((fl x.wid).getD []++a.more)/\n=dO an x.aX (Ms x p,a.st.status,a.st.next)/\st=a.st.status/\nx=a.st.next/\Ai ((fl x.wid).getD []++a.more)=a.st)
def mH(mp c:List Pr)(fl d:cI)(b:Nat)(x:cC)(p:cA)(e:Int)(y m:Hs):Prop:=(c=mp/\d=fl)\/ ∃f j n a,a=BA (EK x p (BP (fl x.wid) x.wid b e) f) j n/\a.err=0/\c=cj mp (Et a++a.au)/\d=dO fl x.wid ((fl x.wid).getD []++a.more)/\
 (Dl (EK x p (BP (fl x.wid) x.wid b e) f)=true->eE y m b j)
theorem AMl {fl:cI}{an:cP}{k:Nat}{x:cC}{p:cA}(h:k≠0):NT fl an k x p=NT fl an 1 x p:=by unfold NT;rw[if_neg h,if_neg (show ¬(1:Nat)=0 by decide)]
theorem AQ0 {l:List Hs}{i:Nat}{b:Hs}{Q:Hs->Prop}(h: ∀y∈l,Q y)(c:Q b): ∀y∈l.set i b,Q y:=λy d=>by
 rcases SW d with a|a
 ·exact h y a
 ·rw[a];exact c
section
variable {A : ak} {g h : aa} {s k sh : Nat} {l : List Hs} {mp : List Pr} {O : Nat -> Prop} {i : Nat} {y : Hs} {fl : cI} {an : cP} {R : A2H}
theorem EW.own [Zc]{a:aa}{O':Nat->Prop}(b:EW g h s k sh l mp fl an O)(d:Mod O h a)(e: ∀c,O' c->O c\/(h.size<=c/\c<a.size)):EW g a s k sh l mp fl an O':=⟨b.w.own d e,b.m,b.all⟩
theorem EW.on [Zc]{b:aa}(a:EW g h s k sh l mp fl an O)(x:Ext h b):EW g b s k sh l mp fl an O:=⟨a.w.on x,a.m,a.all⟩
theorem EW.iL [Zc]{x:cC}{p:cA}{T:J0}{n:Int}(U:cu g)(d:EW g h s k sh l mp fl an O)(o:l[i]? =some y)(ae:k+1<=490)(I:ka mp y (A8 x.wid sh))(V:View TZ h x.steps p.steps)(W:x.aG=p.aG)(len:p.steps.length<=1099511627776)(X: -4611686018427300000<=n/\n<=4611686018427300000)
  (D: ∀c b E F J q st nx,EW g c s (k+1) sh (l.set i b) E F J O->y.dz b->(∀ a K r,Bv E (FH a K r)=Bv mp (FH a K r))->Mod (bo g O) h c->Xh fl an (A8 x.wid sh) x p n q st nx F J->mH mp E fl F (A8 x.wid sh) x p n y b->R (fI q st nx).v c):
  AA A P Dc #[Ak y.p,T,J6 J9 n,x.v] h R:=by
 have G:=AM o;have af:iE.C=32000:=rfl;have hA:iE.A=1600:=rfl;have Y:=(List.getElem?_eq_some_iff.1 o).1;have dx:l.set i y=l:=by rw[<- (List.getElem?_eq_some_iff.1 o).2];exact OK Y
 have H:=AMl (fl:=fl) (an:=an) (x:=x) (p:=p) I.1;have f: ∀ {b:Hs},y.dz b-> ∀z∈l.set i b,∀a,z.u a<=3*(k+1)/\z.f a<=k+1:=λ{b} f=>AQ0 (Q:=λz=> ∀a,z.u a<=3*(k+1)/\z.f a<=k+1) (λz Z a=>by have:=d.all z Z a;omega) λa=>by
  have:=d.all y G a;have:=f.u a;rw[f.f];omega
 refine AM3 U rfl d.w o d.m V W len X (λa=>by have:=(d.all y G a).2;omega) (λa=>by have:=(d.all y G a).1;omega) (by omega) (by omega) (by omega) (by omega)
  (λc q st nx e L=>?_) (λc b t u v e j w B C=>?_) (λc b e j M B C=>?_) λc b t u v N S e j r w B aa ab ac C=>?_
 ·rw[H] at e;refine D c y mp fl an q st nx ⟨?_,d.m,f ⟨rfl,rfl,rfl,λm=>by omega⟩⟩ ⟨rfl,rfl,rfl,λm=>by omega⟩ (λ_ _ _=>rfl) L.mod (.inl ⟨rfl,rfl,.inl e⟩) (.inl ⟨rfl,rfl⟩);rw[dx];exact(d.w.on L).put (by omega) (by omega) (by omega) (by omega)
 ·rw[H] at e;exact D c b mp fl an _ 0 0 ⟨B.put (by omega) (by omega) (by omega) (by omega),d.m,f j⟩ j (λ_ _ _=>rfl) C (.inl ⟨rfl,rfl,.inr ⟨e,w,rfl,rfl,t,u,v,rfl⟩⟩) (.inl ⟨rfl,rfl⟩)
 ·rw[I.2] at M;cases M
 ·rw[H] at e;exact D c b _ _ _ 0 _ _ ⟨B.put (by omega) (by omega) (by omega) (by omega),aa,f j⟩ j ac C (.inr ⟨e,rfl,t,u,v,N,S,w,rfl,rfl,rfl,rfl,ab⟩) (.inr ⟨t,u,v,N,S,w,rfl,rfl,r⟩)
end
abbrev LP:A2I:=⟨#[104,111,115,116,48]⟩
structure od (mp:List Pr) (y:Hs) (sh:Nat):Prop where
 has: ∀n,n<sh->y.f n=1/\ET mp n 1 y.name
 jP: ∀n,sh<=n->y.f n=0/\(n<256->ET mp n 0 ⟨#[]⟩)
theorem od.owns {mp:List Pr}{y:Hs}{sh a:Nat}(b:od mp y sh)(c:a<sh):ka mp y a:=by obtain⟨d,e⟩:=b.has a c;refine⟨by omega,?_⟩;rw[d];exact e.holds (A0 _)
section
variable {A : ak} {g h : aa} {s k sh : Nat} {y : Hs} {mp : List Pr} {O : Nat -> Prop} {R : A2H}
theorem LW.slt {b:bV}{a N:Nat}{l:List Hs}(c:LW b g h s a N sh l mp O):s<h.size:=by obtain⟨e,k,st,m,f,nn,d,_⟩:=c;exact d.lt
end
theorem uh {id tick k:Int}(a:1<=id/\id<=500)(b:0<=tick/\tick<=1099511627776)(c:k=2\/k=13\/k=18):Dk ⟨id,k,tick,0,0,0,false,⟨#[]⟩⟩=true:=by have d:bX id 1 500=true:=Bc.2 a;have e:bX tick 0 1099511627776=true:=Bc.2 b;have f:bX k 1 18=true:=Bc.2 (by omega);unfold Dk FC KV;rw[d,e,f];rcases c with rfl|rfl|rfl<;>rfl
theorem ANW {id tick:Int}{data:A2I}(a:1<=id/\id<=500)(b:0<=tick/\tick<=1099511627776)(c:Aj data=true):Dk ⟨id,12,tick,0,0,0,false,data⟩=true:=by
 have d:bX id 1 500=true:=Bc.2 a;have e:bX tick 0 1099511627776=true:=Bc.2 b;unfold Dk FC KV;dsimp only;rw[d,e,c];have:dW 12=true:=by decide
 rw[this,HK];rfl
theorem ANz {id tick:Int}{p:cA}(a:1<=id/\id<=500)(b:0<=tick/\tick<=1099511627776)(c:GL p=true):Dk ⟨id,1,tick,0,0,0,false,AX (Cs p)⟩=true:=by
 have d:bX id 1 500=true:=Bc.2 a;have e:bX tick 0 1099511627776=true:=Bc.2 b;unfold Dk FC KV;dsimp only;rw[d,e,EF,xo c];have:dW 1=true:=by decide
 rw[this,HK];rfl
theorem ZQ {a:Int}{wid:A2I}{b:Int}(c:1<=a/\a<=7)(d:Aj wid=true)(e:0<=b/\b<=500):KF ⟨a,b,0⟩ wid=true:=by unfold KF;rw[Bc.2 c,d,Bc.2 e];rfl
theorem qw {a:bC}{t:gL}{tick:Int}{c:Nat}(b:a.err=0)(d:KF t a.wid=true):(ER a t tick c).err=0:=by unfold ER;rw[if_neg (by simp[b]),if_neg (by simp[d])];exact b
theorem AH2 {a:bC}(b:Dl a=true):a.more≠ []/\a.st.status=0/\a.st.fresh=true/\a.st.asked=0/\a.st.taken=0:=by unfold Dl at b;simpa [and_assoc] using b
theorem APt {a:bC}(d:a.err=0)(e:Dl a=true)(m:2<=a.st.next/\a.st.next<=500)(f:0<=a.now/\a.now<=1099511627776):
  EC a Qp= {a with st:= {a.st with asked:=a.st.next,next:=a.st.next+1},more:=a.more++ [⟨a.st.next,2,a.now,0,0,0,false,⟨#[]⟩⟩]}:=by
 obtain⟨g,h,i,j,l⟩:=AH2 e;have b:Ce a Qp=⟨a.st.next,2,a.now,0,0,0,false,⟨#[]⟩⟩:=by unfold Ce;rw[if_neg (by omega)];rfl
 have ok:=uh (id:=a.st.next) (tick:=a.now) (k:=2) (by omega) f (.inl rfl);have c:Bj a.st (Ce a Qp)=(0,{a.st with asked:=a.st.next,next:=a.st.next+1}):=by rw[b];unfold Bj;rw[if_neg (by simp[ok]),if_neg (by omega),if_neg (by simp[h]),if_neg (by simp)];unfold RX Ii;rw[if_pos (show(2:Int)<=2/\(2:Int)<=5 by decide),if_pos rfl,if_pos ⟨j,l,i⟩];rfl
 rw[ph d (.inl g) (by rw[c]),c,b]
theorem ANe {a:bC}{n1:Nat}(c:a.err=0)(e:2<=a.st.next/\a.st.next<=500)(f:0<=a.now/\a.now<=1099511627776)(g:Aj a.wid=true):(EZ a n1).err=0/\(EZ a n1).wid=a.wid/\(EZ a n1).now=a.now/\(EZ a n1).st=(if Dl a=true then {a.st with asked:=a.st.next,next:=a.st.next+1} else a.st)/\(EZ a n1).more=(if Dl a=true then a.more++ [⟨a.st.next,2,a.now,0,0,0,false,⟨#[]⟩⟩] else a.more):=by
 unfold EZ;split
 ·rename_i h;have b:=APt c h e f;have i:Wp (EC a Qp)=a.st.next:=by rw[b];show a.st.next+1-1=_;omega
  have d:KF ⟨1,Wp (EC a Qp),0⟩ (EC a Qp).wid=true:=by rw[i,b];exact ZQ (by decide) g (by omega)
  refine⟨qw (by rw[b];exact c) d,?_,?_,?_,?_⟩
  ·unfold ER;rw[if_neg (by rw[b];simp[c]),if_neg (by simp[d]),b]
  ·unfold ER;rw[if_neg (by rw[b];simp[c]),if_neg (by simp[d]),b]
  ·rw[(HV _ _ _ _).1,b]
  ·rw[(HV _ _ _ _).2,b]
 ·exact⟨c,rfl,rfl,rfl,rfl⟩
theorem AJs {a:bC}{n1 n2:Nat}(f:a.err=0)(g:2<=a.st.next/\a.st.next<=500)(h:0<=a.now/\a.now<=1099511627776)(b:Aj a.wid=true):(BA a n1 n2).err=0/\(BA a n1 n2).st=(if Dl a=true then {a.st with asked:=a.st.next,next:=a.st.next+1} else a.st)/\(BA a n1 n2).more=(if Dl a=true then a.more++ [⟨a.st.next,2,a.now,0,0,0,false,⟨#[]⟩⟩] else a.more):=by
 obtain⟨c,i,j,d,e⟩:=ANe (n1:=n1) f g h b;unfold BA;split
 ·refine⟨qw c (by rw[i];exact ZQ (by decide) b (by decide)),?_,?_⟩
  ·rw[(HV _ _ _ _).1,d]
  ·rw[(HV _ _ _ _).2,e]
 ·exact⟨c,d,e⟩
theorem ui {x:cC}{p:cA}{n n0:Nat}{a:Int}(k:x.kind=1)(d:GL p=true)(l:Aj x.wid=true)(r:0<=a/\a<=1099511611776):
  (Cy x p (BP none x.wid n a) n0).err=0/\(Cy x p (BP none x.wid n a) n0).st=⟨p,0,2,a,0,0,true,[],[],false,false⟩/\(Cy x p (BP none x.wid n a) n0).more= [⟨1,1,a,0,0,0,false,AX (Cs p)⟩]/\(Cy x p (BP none x.wid n a) n0).wid=x.wid/\(Cy x p (BP none x.wid n a) n0).now=a:=by
 have ok:=ANz (id:=1) (tick:=a) (p:=p) (by decide) (by omega) d;have f:(BP none x.wid n a).err=0:=by show(if a<0\/1099511611776<a then(1:Int) else 0)=0;rw[if_neg (by omega)]
 have g:Ce (BP none x.wid n a) (dh 1 (AX (Cs p)))=⟨1,1,a,0,0,0,false,AX (Cs p)⟩:=rfl;have h:Bj (BP none x.wid n a).st (Ce (BP none x.wid n a) (dh 1 (AX (Cs p))))=(0,⟨p,0,2,a,0,0,true,[],[],false,false⟩):=by rw[g];unfold Bj;rw[if_neg (by simp[ok]),if_pos (show(BP none x.wid n a).st.next=0 from rfl),if_pos ⟨rfl,rfl⟩];unfold Xq;dsimp only;rw[EF,xo d];rfl
 have i:=ph f (e:=dh 1 (AX (Cs p))) (.inr (.inl (by show(0:Int)<=497;decide))) (by rw[h]);rw[h,g] at i;have base:(EC (BP none x.wid n a) (dh 1 (AX (Cs p)))).err=0/\(EC (BP none x.wid n a) (dh 1 (AX (Cs p)))).st=⟨p,0,2,a,0,0,true,[],[],false,false⟩/\(EC (BP none x.wid n a) (dh 1 (AX (Cs p)))).more= [⟨1,1,a,0,0,0,false,AX (Cs p)⟩]/\(EC (BP none x.wid n a) (dh 1 (AX (Cs p)))).wid=x.wid/\(EC (BP none x.wid n a) (dh 1 (AX (Cs p)))).now=a:=by rw[i];exact⟨f,rfl,rfl,rfl,rfl⟩
 unfold Cy;rw[if_pos k];split
 ·obtain⟨b,m,o,j,q⟩:=base;have c:KF ⟨6,0,0⟩ (EC (BP none x.wid n a) (dh 1 (AX (Cs p)))).wid=true:=by rw[j];exact ZQ (by decide) l (by decide)
  refine⟨qw b c,by rw[(HV _ _ _ _).1,m],by rw[(HV _ _ _ _).2,o],?_,?_⟩
  ·unfold ER;rw[if_neg (by simp[b]),if_neg (by simp[c])];exact j
  ·unfold ER;rw[if_neg (by simp[b]),if_neg (by simp[c])];exact q
 ·exact base
theorem Xw {x:cC}{p:cA}{n n0 n1 n2:Nat}{a:Int}(f:x.kind=1)(g:GL p=true)(b:Aj x.wid=true)(h:0<=a/\a<=1099511611776):
  (BA (EK x p (BP none x.wid n a) n0) n1 n2).err=0/\(BA (EK x p (BP none x.wid n a) n0) n1 n2).st=⟨p,0,3,a,2,0,true,[],[],false,false⟩/\(BA (EK x p (BP none x.wid n a) n0) n1 n2).more= [⟨1,1,a,0,0,0,false,AX (Cs p)⟩,⟨2,2,a,0,0,0,false,⟨#[]⟩⟩]:=by
 obtain⟨i,j,k,l,m⟩:=ui (n:=n) (n0:=n0) f g b h;have c1:(EK x p (BP none x.wid n a) n0).err=0:=i;have c2:(EK x p (BP none x.wid n a) n0).st=⟨p,0,2,a,0,0,true,[],[],false,false⟩:=j;have c3:(EK x p (BP none x.wid n a) n0).more= [⟨1,1,a,0,0,0,false,AX (Cs p)⟩]:=k;have o:(EK x p (BP none x.wid n a) n0).wid=x.wid:=l;have c:(EK x p (BP none x.wid n a) n0).now=a:=m;obtain⟨q,d,e⟩:=AJs (n1:=n1) (n2:=n2) c1 (by rw[c2];exact⟨(by decide:(2:Int)<=2),(by decide:(2:Int)<=500)⟩) (by rw[c];omega) (by rw[o];exact b);have r:Dl (EK x p (BP none x.wid n a) n0)=true:=by unfold Dl;rw[c2,c3];rfl
 rw[r,if_pos rfl] at d e;refine⟨q,?_,?_⟩
 ·rw[d,c2];show(⟨p,0,2+1,a,2,0,true,[],[],false,false⟩:bF)=_;rfl
 ·rw[e,c2,c3,c];rfl
structure AUS (h:aa) (x:cC) (p:cA):Prop where
 V:View TZ h x.steps p.steps
 lim:x.aG=p.aG
 len:p.steps.length<=1099511627776
 sz: ∀y∈p.steps,y.name.size<=1099511627776/\y.aV.size<=1099511627776
 name:x.name.size<=1099511627776
 wid:x.wid.size<=1099511627776
 aX:x.aX.size<=1099511627776
theorem EW.less [Zc]{g h:aa}{s b d:Nat}{l:List Hs}{e:List Pr}{f:cI}{i:cP}{j O':Nat->Prop}(a:EW g h s b d l e f i j)(k: ∀c,O' c->j c):EW g h s b d l e f i O':=⟨a.w.less k,a.m,a.all⟩
theorem bo.aw {g h a:aa}{b:Nat->Prop}{c:Nat}{d:Obj}(m:Mod (bo g b) h a)(e:h[c]? =some d)(f:b c):a[c]? =some d:=m.ag e λi=>i.2 f
abbrev uj:cD:=⟨1,⟨#[97]⟩,⟨#[]⟩,1,0,0⟩
theorem qx {a:cI}{b:cP}{x:cC}{p:cA}(e:1<=x.kind/\x.kind<=4)(c:Po x p=0)(d:b x.aX=none):NT a b 1 x p=(match a x.wid with
   |none=>if x.kind=1 then none else some (180,0,0)
   |some l=>if x.kind=1 then some (181,0,0) else if(Ai l).status≠0 then some (182,0,0) else none):=by
 unfold NT;rw[if_neg (by omega),if_neg (by simp[c]),if_neg (by decide),d]
 try rfl
theorem Xh.start {c k:cI}{d l:cP}{n:Nat}{x:cC}{p:cA}{a m st nx:Int}(D:Xh c d n x p a m st nx k l)(b:x.kind=1)(o:Po x p=0)(E:d x.aX=none)(f:c x.wid=none)(q:0<=a/\a<=1099511611776):
  m=0/\st=0/\nx=3/\k=dO c x.wid [⟨1,1,a,0,0,0,false,AX (Cs p)⟩,⟨2,2,a,0,0,0,false,⟨#[]⟩⟩]/\l=dO d x.aX (Ms x p,0,3)/\Ai [⟨1,1,a,0,0,0,false,AX (Cs p)⟩,⟨2,2,a,0,0,0,false,⟨#[]⟩⟩]=⟨p,0,3,a,2,0,true,[],[],false,false⟩:=by
 obtain⟨r,H,s,I⟩:=ll o;have F:NT c d 1 x p=none:=by rw[qx (by omega) o E,f];show(if x.kind=1 then none else some (180,0,0))=none;rw[if_pos b]
 rcases D with⟨_,_,t|⟨_,i,_,_,n0,n1,n2,u⟩⟩|⟨_,i,n0,n1,n2,J,v,K,j,w,y,z,e⟩
 ·rw[F] at t;cases t
 ·exfalso;rw[f] at u;exact i (u.trans (Xw b (r b) s q).1)
 ·rw[f] at v j e;obtain⟨G,B,C⟩:=Xw (n:=n) (n0:=n0) (n1:=n1) (n2:=n2) b (r b) s q;rw[<- v] at G B C;rw[Option.getD_none,CT,C] at j e;rw[B] at w y z e;exact⟨i,y,z,j,w,e⟩
section
variable {A : ak} {g h : aa} {R : A2H}
end
section
variable {A : ak} {g h : aa} {s k N sh i : Nat} {l : List Hs} {mp : List Pr} {O : Nat -> Prop} {y : Hs} {fl : cI} {an : cP} {R : A2H} {cb : Nat} {z : Nat -> Nat} {x : fi} {C : bC}
structure AUQ (mp:List Pr) (fl:cI) (C:bC):Prop where
 wid:Aj C.wid=true
 fits:C.fits ((fl C.wid).getD [])
 more:C.more≠ []
 st:Ec C.st 500
 ok: ∀e∈C.more,Dk e=true/\e.data.size<1099511627776
 len:C.more.length+C.au.length<=50/\C.conds.length<=50
 keys: ∀p∈C.conds,p.key.size<=1099511627776
 base:qv C (fl C.wid)
 cJ:0<=C.cJ/\C.cJ<=4
 cq:0<=C.cq/\C.cq<=501
 now:0<=C.now/\C.now<=1099511627776
 next:2<=C.st.next/\C.st.next<=500
 err:C.err=0
 bes:C.beside none
end
end Go.Lf.G
