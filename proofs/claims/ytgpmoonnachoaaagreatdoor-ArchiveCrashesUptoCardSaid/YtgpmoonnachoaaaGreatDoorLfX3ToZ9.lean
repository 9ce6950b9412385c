/-
 Contracts: a log opened; added to, synced, rotated, dropped (chapter 4).
-/
import Derived.Test.YtgpmoonnachoaaaGreatDoorLfS3ToY8
import Derived.Test.YtgpmoonnachoaaaGreatDoorLfU2ToS1
import Derived.Test.YtgpmoonnachoaaaGreatDoorLfAToN1
import Derived.Lib.AppendZerosOnto
import Derived.Lib.Overlaps
import Derived.Laws.IdiomCopy
import Derived.Laws.Externs
set_option maxRecDepth 100000
set_option linter.unusedVariables false
set_option linter.unusedSimpArgs false
open Go.IntKind renaming i64→J9,wrap→J8
open Go.Value renaming string→J7,int→J6,pointer→J5,slice→J4,bool→J3,tuple→J1
open Go.Obj renaming cells→J2
open Go renaming Value→J0,Addr→Q6,TypeId→Q7,FuncId→Q8,Program→Q1
open Go.Addr renaming add→Q9,mk→Q5
namespace Go.Lf.G
open Go
def gf(l:List Fi)(a:A2I):Nat:=match CE a l with|none=>0|some f=>f.bM.size+f.soft.size
theorem zK {a:A2I}{f:Fi}{l:List Fi}:CE a (f::l)=if f.name=a then some f else CE a l:=by rw[Ez]
theorem sJ(a:A2I): ∀l:List Fi,gf l a+aY (QU a l)<=aY l
 | []=>by simp[gf,CE,QU,aY]
 |f::l=>by
  have h:=sJ a l;have e:aY (f::l)=f.bM.size+f.soft.size+1+aY l:=by simp[aY]
  by_cases b:f.name=a
  ·have c:gf (f::l) a=f.bM.size+f.soft.size:=by unfold gf;rw[zK,if_pos b]
   have d:QU a (f::l)=QU a l:=by simp[QU,b]
   rw[c,d,e];omega
  ·have c:gf (f::l) a=gf l a:=by unfold gf;rw[zK,if_neg b]
   have d:QU a (f::l)=f::QU a l:=by simp[QU,b]
   have g:aY (f::QU a l)=f.bM.size+f.soft.size+1+aY (QU a l):=by simp[aY]
   rw[c,d,g,e];omega
theorem zL: ∀(a:List A2I),a.Nodup-> ∀l:List Fi,(a.map (gf l)).sum<=aY l
 | [],_,l=>by simp
 |k::a,b,l=>by
  rw[List.nodup_cons] at b;have c:=zL a b.2 (QU k l);have d:a.map (gf (QU k l))=a.map (gf l):=CD λx e=>by
   unfold gf;rw[rQ,if_neg (λf=>by subst f;exact b.1 e)]
  rw[d] at c;have:=sJ k l;simp only[BW,GB];omega
def jc(m:Bx)(a:A2I)(b:Nat):A2I:=(FN m (aD a b)).1
noncomputable def TV (a:A2I) (m:Bx) (l:List Nat):List A2I:=l.flatMap λb=>(lJ (bl (jc m a b))).map AX
theorem zM {m:Bx}(hd:m.down=false)(a:A2I):(FN m a).1.size=gf m.files a:=by
 unfold FN gf;rw[if_neg (by simp[hd])];cases CE a m.files with
 |none=>rfl
 |some f=>simp[Hv]
theorem sK {nm:A2I}{m:Bx}(hd:m.down=false){l:List Nat}(b:l.Pairwise (· < ·)):(TV nm m l).length<=aY m.files:=by
 have e:(TV nm m l).length<=((l.map (aD nm)).map (gf m.files)).sum:=by
  unfold TV;clear b
  induction l with
  |nil=>simp
  |cons f l d=>
   have g:=AHQ (rL (bl (jc m nm f)));rw[A7,jc,zM hd] at g;simp only[AH,A1,AW,BW,GB] at d ⊢;unfold jc at d ⊢;omega
 refine As e (zL _ ?_ _);refine List.pairwise_map.2 (b.imp λ{a c} i h=>?_);have:=Iz h;omega
theorem zN {R:ak}{d:aa}{b:Nat}{S:Nat->Prop}{m:Bx}{nm:A2I}{w:A2H}(E:cu d)(D:Bl d b S m)(hd:m.down=false)(ax:0<nm.size)(F:nm.size<=8)(T:aY m.files<=8000000000000)
  (U: ∀g l,nq nm m l->l.getLast?.getD 0=99999999->Ext d g->w (J1 #[J5 none,J4 none 0 0,J6 J9 2]) g)
  (V: ∀g l r sl,nq nm m l->l.getLast?.getD 0≠99999999->Ext d g->d.size<=r->g[r]? =some (J2 #[Ak b,J7 nm,J6 J9 ((l.getLast?.getD 0+1:Nat):Int),J3 false] ru (0,0))->View IR g sl (TV nm m l)->
   (∀ c,sl.ag=some c->d.size<=c/\c≠r)->w (J1 #[Ak r,J4 sl.p sl.len sl.cap,J6 J9 0]) g):AA R P Ry #[Ak b,J7 nm] d w:=by
 refine AJQ ?_;unfold vU;refine af.no rfl (ai.mk λK W=>?_);have X:bU nm (⟨#[]⟩:A2I)=false:=by rw[CZ,decide_eq_false_iff_not];rintro rfl;have:(⟨#[]⟩:A2I).size=0:=rfl;omega
 rw[X];refine af.no rfl (W _ _ (af.no (by simp;omega) ?_));refine zJ E D hd (by omega) T λG Y l h v2 o _=>⟨Y,_,rfl,af.no rfl ?_⟩
 have ay:l.length<=99999999:=by
  have Z: ∀(l:List Nat) (s:Nat),l.Pairwise (· < ·)->(∀ e∈l,s<e/\e<=99999999)->l.length+s<=99999999\/l= []:=by
   intro l
   induction l with
   |nil=>intro s _ _;exact .inr rfl
   |cons a l ab=>
    intro s y H;rw[R1] at y;have az:=H a (by simp);rcases ab a y.2 (λe t=>⟨y.1 e t,(H e (AG _ t)).2⟩) with d|d
    ·left;simp only[A6];omega
    ·subst d;left;simp;omega
  rcases Z l 0 h.inc (λe t=>by have:=(h.mem e).1 t;omega) with d|d
  ·omega
  ·subst d;simp
 refine Loop.rule (λI x p=> ∃(i:Nat) (sl:Sl),x=(sl,(((l.take i).getLast?.getD 0:Nat):Int),(i:Int),())/\Ext G p/\Own IR BD p sl (TV nm m (l.take i))/\(∀ c,sl.ag=some c->G.size<=c)/\i<=l.length/\I=l.length-i) ?_
  ⟨0,⟨none,0,0⟩,rfl,Mod.refl,Own.nil,λc n=>by simp[Sl.ag] at n,A5 _,rfl⟩
 rintro aA I _ p ⟨i,sl,rfl,j,u,f,aC,rfl⟩ ac;have J:(l.map λe:Nat=>(e:Int)).length=l.length:=AW ..;rw[v2.len,J];refine af.intro (λz=>?_) (λz=>?_)
 ·have q:i<l.length:=by simpa using z
  have ah:l[i]? =some l[i]:=A2 q;have ae:l[i]∈l:=AS q;obtain⟨aE,aF,L⟩:=(h.mem l[i]).1 ae;have M:l.take (i+1)=l.take i++ [l[i]]:=by rw[Ax,ah];rfl
  have ag:(l.take (i+1)).getLast?.getD 0=l[i]:=by rw[M,SD];rfl
  have N:TV nm m (l.take (i+1))=TV nm m (l.take i)++(lJ (bl (jc m nm l[i]))).map AX:=by rw[M];unfold TV;rw[Fo];simp
  have A:=sK (nm:=nm) (m:=m) hd (l:=l.take (i+1)) (h.inc.sublist (OR _ _));rw[N,A1,AW] at A;rw[<- J,<-v2.len];refine(v2.ext j).idx (i:=i) (x:=(l[i]:Int)) (by rw[BE,ah];rfl) λa _ c=>?_
  refine AC.mk c.int ?_;have O:=o.trans j;refine Yz (E.ext O) (by omega) (by omega) λaG v=>⟨_,rfl,?_⟩
  refine Yk ((D.ext O).ext v) ⟨_,_,rfl,?_⟩;have aj:(FN m (aD nm l[i])).2=0:=by
   unfold FN;rw[if_neg (by simp[hd])];cases al:CE (aD nm l[i]) m.files with
   |none=>rw[al] at L;cases L
   |some f=>rfl
  rw[aj];refine af.no rfl ?_;have am:(FN m (aD nm l[i])).1.size<=8000000000000:=by rw[zM hd];have:=sJ (aD nm l[i]) m.files;omega
  refine APh am λaH an aI B ap=>⟨an,_,rfl,?_⟩
  refine GK (E:=IR) zG ((u.ext v).ext B) ap (by rw[AW];unfold jc at A;omega) (by rw[AW];unfold jc at A;simp[maxLen];omega) λaq aJ ar au av aK=>?_
  dsimp only;rw[Aa (by omega)];refine ac (l.length-(i+1)) _ _ (by omega) ⟨i+1,aq,?_,((j.trans v).trans B).more au f,?_,λc n=>?_,q,rfl⟩
  ·rw[ag]
  ·rw[N];exact ar
  ·rcases av c n with d|d
   ·exact f c d
   ·have:=j.size;have:=v.size;have:=B.size;omega
 ·have q:i=l.length:=by simp at z;omega
  subst q;rw[Bk] at u ⊢;refine af.intro (λk=>?_) (λk=>?_)
  ·have k:l.getLast?.getD 0=99999999:=by simp at k;omega
   exact U p l h k (o.trans j)
  ·have k:l.getLast?.getD 0≠99999999:=by simp at k;omega
   have aL:l.getLast?.getD 0<=99999999:=by
    cases aw:l.getLast? with
    |none=>simp
    |some e=>
     have:=(h.mem e).1 (SJ aw);simp;omega
   refine ao.mk λF _ C Q aM=>?_
   dsimp only at C ⊢;rw[Aa (by omega)] at C;refine V F l p.size sl h k ((o.trans j).trans Q) (by have:=o.size;have:=j.size;omega) C (u.ext Q).view λc n=>by have:=f c n;have:=o.size;have:=u.lt n;omega
def Eg(a:aa)(c b:Nat)(d:A2I)(e:Nat)(f:Bool):Prop:=a[c]? =some (J2 #[Ak b,J7 d,J6 J9 (e:Int),J3 f] ru (0,0))
theorem Eg.mod {c d:aa}{a b:Nat}{e:A2I}{f:Nat}{g:Bool}{h:Nat->Prop}(L:Eg c a b e f g)(x:Mod h c d)(i: ¬h a):Eg d a b e f g:=x.ag L i
theorem Eg.ext {a c:aa}{d b:Nat}{e:A2I}{f:Nat}{g:Bool}(L:Eg a d b e f g)(x:Ext a c):Eg c d b e f g:=x.ag L (λa=>a)
theorem zP {s:ak}{a:aa}{d b e:Nat}{f rec:A2I}{p:Bool}{i:Nat->Prop}{m:Bx}{t:A2H}(H:cu a)(L:Eg a d b f e p)(I:Bl a b i m)(u: ¬i d)(X: ∀j,Mod i a j->cu j)(J:f.size<=1099511627776)(K:e<=4294967295)(M:rec.size<=1048576)(Y:aY m.files<=8000000000000)
  (w: ∀j S',Bl j b S' (Dp m (aD f e) (AX (Cg (bl rec)))).2->Eg j d b f e (p||decide ((Dp m (aD f e) (AX (Cg (bl rec)))).1=0))->Mod (λc=>i c\/c=d) a j->(∀ c,S' c->i c\/(a.size<=c/\c≠d))->t (J6 J9 (Dp m (aD f e) (AX (Cg (bl rec)))).1) j):
  AA s P Jm #[Ak d,J7 rec] a t:=by
 refine Yf ?_;unfold Qs;refine af.no rfl ?_;have Z:=Ag L;have N:(bl rec).length<=1048576:=by rw[A7];exact M
 have O:=Ij N;rw[A7] at O;have Q:rec=AX (bl rec):=(KQ rec).symm;have R:AA s P Fx #[J7 rec] a λv l=> ∃x:A2I,∃y:Int,v=J1 #[J7 x,J6 J9 y]/\(x=AX (Cg (bl rec))/\y=0/\Ext a l):=by
  rw[Q];refine Yi (by rw[KQ] at *;omega) (λl=>by rw[KQ] at *;omega) λ_ l k=>⟨_,_,rfl,?_,rfl,k⟩
  rw[KQ]
 refine AA.mono R ?_;rintro v l ⟨ab,ac,rfl,rfl,rfl,k⟩;refine⟨_,_,rfl,af.no rfl ?_⟩;have q:=L.ext k;refine aE (AY.mk (AL q rfl) (aE (AJ.mk (AB q rfl) (aE (AC.mk (AB q rfl) ?_)))));refine Yz (H.ext k) K J λag S=>⟨_,rfl,?_⟩
 have n:=k.trans S;have z:=L.ext n;refine⟨AL z rfl,?_⟩;refine Xv (I.ext n) (by rw[AP];omega) λr o A B C=>⟨_,rfl,?_⟩
 have D:Eg r d b f e p:=z.mod B u;have ah:=n.size;have E: ∀c,o c->i c\/(a.size<=c/\c≠d):=λc g=>(C c g).imp id λa=>⟨by omega,by omega⟩
 have F:Mod (λc=>i c\/c=d) a r:=(Ext.mod n).trans (B.aj λc _ g=> .inl g);refine af.intro (λh=>?_) (λh=>?_)
 ·have h:(Dp m (aD f e) (AX (Cg (bl rec)))).1≠0:=by simpa using h
  exact w r o A (by rw[decide_eq_false h,Bool.or_false];exact D) F E
 ·have h:(Dp m (aD f e) (AX (Cg (bl rec)))).1=0:=by simpa using h
  refine aE (ae.dy D (by simp) λT U G ai=>?_);have V: ¬o d:=λg=>by rcases C d g with a|a;exact u a;omega
  have:=w T o (A.mod G λc g W=>V (W▸g)) (by rw[decide_eq_true h,HK];simpa [Eg] using U) (F.then (G.aj λc _ g=> .inl (.inr g))) E;rw[h] at this;exact this
def NL(m:Bx)(a:A2I)(b:Bool):Int×Bx:=if b then G8 m a else(0,m)
theorem zQ {o:ak}{a:aa}{f b c:Nat}{d:A2I}{e:Bool}{g:Nat->Prop}{m:Bx}{j:A2H}(p:cu a)(L:Eg a f b d c e)(k:Bl a b g m)(q: ¬g f)(r:d.size<=1099511627776)(s:c<=4294967295)
  (l: ∀h,Bl h b g (NL m (aD d c) e).2->Eg h f b d c e->Mod g a h->j (J6 J9 (NL m (aD d c) e).1) h):
  AA o P LV #[Ak f] a j:=by
 refine ABt ?_;unfold VD;refine af.no rfl (aE (AZ.mk (AB L rfl) ?_));cases e with
 |false=>exact af.yes rfl (l a k L Mod.refl)
 |true=>
  refine af.no rfl (aE (AY.mk (AL L rfl) (aE (AJ.mk (AB L rfl) (aE (AC.mk (AB L rfl) ?_))))));refine Yz p s r λv i=>⟨_,rfl,⟨AL (L.ext i) rfl,?_⟩⟩
  refine pZ (k.ext i) λt u n=>⟨_,rfl,?_⟩
  exact l t u ((L.ext i).mod n q) ((Ext.mod i).trans n)
theorem XT {v:ak}{h:aa}{g b a:Nat}{d:A2I}{f:Bool}{i:Nat->Prop}{m:Bx}{l:A2H}(w:cu h)(L:Eg h g b d a f)(x:Bl h b i m)(p: ¬i g)(y:d.size<=1099511627776)(G:a<99999999)
  (z:(NL m (aD d a) f).1≠0-> ∀e,Bl e b i (NL m (aD d a) f).2->Eg e g b d a f->Mod i h e->l (J1 #[J6 J9 0,J6 J9 (NL m (aD d a) f).1]) e)
  (A:(NL m (aD d a) f).1=0-> ∀e,Bl e b i (NL m (aD d a) f).2->Eg e g b d (a+1) false->Mod (λc=>i c\/c=g) h e->l (J1 #[J6 J9 (a:Int),J6 J9 0]) e):
  AA v P G9 #[Ak g] h l:=by
 refine Ym ?_;unfold RQ;refine af.no rfl (aE (AC.mk (AB L rfl) (af.no (by simp;omega) ?_)));refine zQ w L x p y (by omega) λB q n r=>⟨_,rfl,?_⟩
 refine af.intro (λj=>?_) (λj=>?_)
 ·exact z (by simpa using j) B q n r
 ·have j:(NL m (aD d a) f).1=0:=by simpa using j
  refine aE (AC.mk (AB n rfl) ?_);rw[Aa (by omega)];refine aE (ae.dy n (by simp) λH C D I=>?_);refine aE (ae.dy C (by simp) λs E F J=>?_);have t:Eg s g b d (a+1) false:=by simpa [Eg] using E
  refine aE (AC.mk (AB t rfl) ?_);have o:J8 J9 (((a+1:Nat):Int)-1)=(a:Int):=by rw[wrap_i64 (by omega) (by omega)];omega
  rw[o];have u:=D.trans F;exact A j s (q.mod u λc k o=>p (o▸k)) t ((r.aj λc _ k=> .inl k).trans (u.aj λc _ k=> .inr k))
end Go.Lf.G
namespace Go.Lf
open Go
def ff(m:Bx)(a:A2I):Option (A2I×A2I):=(CE a m.files).map λf=>(f.bM,f.soft)
theorem Sr {m:Bx}{k:A2I}:(CE k m.files).isSome=(ff m k).isSome:=by unfold ff;cases CE k m.files<;>rfl
theorem Yd {m:Bx}(hd:m.down=false)(a:A2I):FN m a=match ff m a with|none=>(bg,31)|some p=>(p.1++p.2,0):=by unfold FN ff;rw[if_neg (by simp[hd])];cases CE a m.files<;>rfl
theorem rM(m:Bx)(l:List Fi)(a:A2I):ff {Ie m with files:=l} a=(CE a l).map λf=>(f.bM,f.soft):=rfl
theorem AKv {a x:A2I}(l:List Fi):CE x (Uo a l)=if x=a then some ((CE a l).getD ⟨a,bg,bg⟩) else CE x l:=by
 unfold Uo;cases c:CE a l with
 |some f=>
  simp only[Option.isSome_some,if_true];by_cases b:x=a
  ·subst b;simp[c]
  ·rw[if_neg b]
 |none=>
  rw[if_neg (by simp),xO (λd e=>PX c d e)];by_cases b:x=a
  ·subst b;simp
  ·rw[if_neg b,if_neg (λg=>b g.symm)]
def kK(m:Bx):Prop:=m.down=false/\m.fuel≠0
theorem AM8 {m:Bx}(g:kK m){a d:A2I}(e:Jr a=false):(Dp m a d).1=0/\ ∀x,ff (Dp m a d).2 x=if x=a then some (((ff m a).getD (bg,bg)).1,((ff m a).getD (bg,bg)).2++d) else ff m x:=by
 unfold Dp;rw[if_neg (by simp[g.1]),if_neg (by simp[e]),if_neg g.2];refine⟨rfl,λx=>?_⟩;rw[rM,rP (g:=Sd d) (λ_=>rfl),AKv];unfold ff;by_cases b:x=a
 ·subst b;rw[if_pos rfl,if_pos rfl];cases c:CE x m.files with
  |none=>simp[Sd]
  |some f=>
   have:=(IE c).1;simp[Sd,this]
 ·rw[if_neg b,if_neg b];cases c:CE x m.files with
  |none=>rfl
  |some f=>
   have:=(IE c).1;simp only[HP];rw[if_neg (by rw[this];exact b)]
theorem ARe {m:Bx}(g:kK m){b:A2I}{p:A2I×A2I}(c:ff m b=some p):(G8 m b).1=0/\ ∀x,ff (G8 m b).2 x=if x=b then some (p.1++p.2,bg) else ff m x:=by
 have a: ∃f,CE b m.files=some f/\(f.bM,f.soft)=p:=by
  unfold ff at c;cases a:CE b m.files with
  |none=>rw[a] at c;cases c
  |some f=>rw[a] at c;exact⟨f,rfl,Bm c⟩
 obtain⟨f,a,rfl⟩:=a;unfold G8;rw[if_neg (by simp[g.1]),if_neg (by simp[a]),if_neg g.2];refine⟨rfl,λx=>?_⟩;rw[rM,rP (g:=TG) (λ_=>rfl)];by_cases d:x=b
 ·subst d;have:=(IE a).1;rw[if_pos rfl,a];simp[TG,this]
 ·rw[if_neg d];unfold ff;cases e:CE x m.files with
  |none=>rfl
  |some h=>
   have:=(IE e).1;simp only[HP];rw[if_neg (by rw[this];exact d)]
theorem ANr {m:Bx}(g:kK m){a:A2I}(b:(ff m a).isSome=true):(EU m a).1=0/\ ∀x,ff (EU m a).2 x=if x=a then none else ff m x:=by
 have c:(CE a m.files).isNone=false:=by
  rw[<- Sr] at b;cases c:CE a m.files with
  |none=>rw[c] at b;cases b
  |some f=>rfl
 unfold EU;rw[if_neg (by simp[g.1]),if_neg (by simp[c]),if_neg g.2];refine⟨rfl,λx=>?_⟩;rw[rM,rQ];split<;>rfl
theorem AMZ {m:Bx}(l:List Fi):({Ie m with files:=l}:Bx).down=m.down:=by show(Ie m).down=m.down;unfold Ie;split<;>rfl
theorem ABh {b:List Int}: ∀ {l:List Fi} {a:Nat} {x:A2I},CE x l=none->CE x (Dx b a l)=none:=by
 intro l a x c;refine Ul λf d e=>?_
 obtain⟨g,h,i⟩:=Pf d;exact PX c g h (i.trans e)
theorem xE: ∀ {l f:List Nat},l.Pairwise (· < ·)->f.Pairwise (· < ·)->(∀ e,e∈l↔e∈f)->l=f
 | [],[],_,_,_=>rfl
 | [],b::f,_,_,d=>by have:=(d b).2 (by simp);cases this
 |a::l,[],_,_,d=>by have:=(d a).1 (by simp);cases this
 |a::l,b::f,h,i,d=>by
  rw[R1] at h i;have k:a=b:=by
   rcases List.mem_cons.1 ((d a).1 (by simp)) with c|c
   ·exact c
   ·rcases List.mem_cons.1 ((d b).2 (by simp)) with j|j
    ·exact j.symm
    ·have:=i.1 a c;have:=h.1 b j;omega
  subst k;have:l=f:=xE h.2 i.2 λe=>by
   constructor
   ·intro g;rcases List.mem_cons.1 ((d e).1 (AG _ g)) with c|c
    ·have:=h.1 e g;omega
    ·exact c
   ·intro g;rcases List.mem_cons.1 ((d e).2 (AG _ g)) with c|c
    ·have:=i.1 e g;omega
    ·exact c
  rw[this]
end Go.Lf
namespace Go.Lf.G
open Go
theorem AQx {b:A2I}{m:Bx}{l:List Nat}{c:Nat->List A2I}(hd:m.down=false)(d: ∀a∈l,∃p,ff m (aD b a)=some p/\Nf (bl (p.1++p.2)) ((c a).map bl)):TV b m l=l.flatMap c:=by
 unfold TV
 induction l with
 |nil=>rfl
 |cons a l e=>
  obtain⟨p,f,g⟩:=d a (by simp);rw[AH,AH,e λh i=>d h (AG _ i)];congr 1;have j:jc m b a=p.1++p.2:=by unfold jc;rw[Yd hd,f]
  rw[j,APd g,B9]
  conv=>rhs;rw[<- Jx (c a)]
  exact CD λx _=>KQ x
theorem zR {nm:A2I}{a:Nat}(e:nm.size<=8)(b:a<=99999999):Jr (aD nm a)=false:=by have c:=APk (nm:=nm) b;unfold Jr;rw[Gk,decide_eq_false_iff_not,decide_eq_false_iff_not];refine⟨λd=>?_,by omega⟩;rw[d] at c;have:bg.size=0:=rfl;omega
theorem AQP {i:A2I}{m:Bx}{l:List Nat}(g:nq i m l):l.length<=99999999:=by
 have j: ∀(l:List Nat) (d:Nat),l.Pairwise (· < ·)->(∀ b∈l,d<b/\b<=99999999)->l.length+d<=99999999\/l= []:=by
  intro l
  induction l with
  |nil=>intro d _ _;exact .inr rfl
  |cons a l k=>
   intro d f h;rw[R1] at f;have n:=h a (by simp);rcases k a f.2 (λb e=>⟨f.1 b e,(h b (AG _ e)).2⟩) with c|c
   ·left;simp only[A6];omega
   ·subst c;left;simp;omega
 rcases j l 0 g.inc (λb e=>by have:=(g.mem b).1 e;omega) with c|c
 ·omega
 ·subst c;simp
structure Lw (h:aa) (lg b:Nat) (nm:A2I) (hh:aa) (S:Nat->Prop) (m:Bx) (seg:Nat) (made:Bool):Prop where
 box:Bl hh b S m
 log:Eg hh lg b nm seg made
 ext:Ext h hh
 fresh: ∀c,S c->h.size<=c/\c≠lg
 lgn:h.size<=lg
def aZ(rec:A2I):A2I:=AX (Cg (bl rec))
abbrev nx:A2I:=⟨#[120]⟩
open M (Sorted Ab Bw Av Ac Am BF Ah bz Az)
abbrev bT:=A2I->Option (A2I×A2I)
abbrev nl:A2I:=⟨#[108]⟩
abbrev nn:A2I:=⟨#[110]⟩
abbrev nt:A2I:=⟨#[116]⟩
def ba(a:Nat):A2I:=nt++AX (Lib.decDigits a)
theorem Xg(a:Nat):bl (ba a)=116::Lib.decDigits a:=by show(nt++AX (Lib.decDigits a)).data.toList=_;rw[GP,Ix];show [116]++(AX (Lib.decDigits a)).data.toList=_;rw[show(AX (Lib.decDigits a)).data.toList=Lib.decDigits a from Be _];rfl
theorem Jh {a b:Nat}(e:ba a=ba b):a=b:=by
 have c:=congrArg bl e;rw[Xg,Xg] at c;have f:Lib.decDigits a=Lib.decDigits b:=by injection c
 have d:=(Zo a).2;rw[f,(Zo b).2] at d;exact d.symm
theorem RS(a:Nat):(bl (aD nl a)).head? =some 108:=by rw[R8];rfl
theorem UD(a:Nat):(bl (aD nn a)).head? =some 110:=by rw[R8];rfl
theorem YG(a:Nat):(bl (ba a)).head? =some 116:=by rw[Xg];rfl
theorem Wl(a b:Nat):aD nl a≠aD nn b:=λc=>by have:=RS a;rw[c,UD] at this;cases this
theorem MI(a b:Nat):aD nl a≠ba b:=λc=>by have:=RS a;rw[c,YG] at this;cases this
theorem Qw(a b:Nat):aD nn a≠ba b:=λc=>by have:=UD a;rw[c,YG] at this;cases this
def cz(x:A2I):Prop:=(∃ a,x=aD nl a)\/(∃ a,x=aD nn a)\/ ∃a,x=ba a
def Jo(b G:bT):Prop:= ∀x,match b x with
 |none=>G x=none
 |some p=> ∃a,G x=if p.1++p.2.extract 0 a=bg then none else some (p.1++p.2.extract 0 a,bg)
theorem ATt(s:A2I):s.extract 0 0=bg:=by
 have:(s.extract 0 0).size=0:=by simp
 have a:=KQ (s.extract 0 0);have b:bl (s.extract 0 0)= []:=RD this;rw[b] at a;exact a.symm
theorem ALc(a:Nat):bg.extract 0 a=bg:=by
 have:(bg.extract 0 a).size=0:=by have:bg.size=0:=rfl;rw[LN];omega
 have b:=KQ (bg.extract 0 a);have c:bl (bg.extract 0 a)= []:=RD this;rw[c] at b;exact b.symm
theorem AN0(a:List Int)(b:Nat)(f:Fi): ∃c,Qr a b f=f.bM++f.soft.extract 0 c:=by
 unfold Qr;split
 ·rename_i d;exact⟨0,by rw[ATt,OY]⟩
 ·split
  ·exact⟨_,rfl⟩
  ·exact⟨0,by rw[ATt,OY]⟩
theorem ACf {ks:List Int}: ∀ {l:List Fi} {k:Nat} (x:A2I),Fu l->match CE x l with
  |none=>CE x (Dx ks k l)=none
  |some f=> ∃c,CE x (Dx ks k l)=if f.bM++f.soft.extract 0 c=bg then none else some ⟨f.name,f.bM++f.soft.extract 0 c,bg⟩
 | [],k,x,_=>rfl
 |f::l,k,x,s=>by
  have d:=List.pairwise_cons.1 s;have e:=ACf (ks:=ks) (k:=QC k f) x d.2;unfold Dx iI;rw[Ez];by_cases b:f.name=x
  ·rw[if_pos b];obtain⟨c,h⟩:=AN0 ks k f;refine⟨c,?_⟩;rw[<- h];by_cases a:Qr ks k f=bg
   ·rw[if_pos a,if_pos a,CT];refine ABh (Ul λg i j=>?_);exact Lx (d.1 g i) (b.trans j.symm)
   ·rw[if_neg a,if_neg a,N2,Ez,if_pos b]
  ·rw[if_neg b];by_cases a:Qr ks k f=bg
   ·rw[if_pos a,CT];exact e
   ·rw[if_neg a,N2,Ez,if_neg b];exact e
theorem AN4 {m:Bx}(g:Es m)(ks:List Int):Jo (ff m) (ff (R7 m ks)):=by
 intro x;have a:=ACf (ks:=ks) (k:=0) x g.sorted;cases b:CE x m.files with
 |none=>
  rw[b] at a;have c:ff m x=none:=by unfold ff;rw[b];rfl
  have a:CE x (Dx ks 0 m.files)=none:=a;rw[c];show(CE x (Dx ks 0 m.files)).map _=none;rw[a];rfl
 |some f=>
  rw[b] at a;obtain⟨d,e⟩:=a;have c:ff m x=some (f.bM,f.soft):=by unfold ff;rw[b];rfl
  rw[c];refine⟨d,?_⟩;show(CE x (Dx ks 0 m.files)).map _=_;rw[e];split<;>rfl
def Ny(a b:Option (A2I×A2I)):Prop:=b=a\/(a=some (bg,bg)/\b=none)
theorem Jo.bM {b G:bT}(c:Jo b G){x:A2I}(g: ∀p,b x=some p->p.2=bg):Ny (b x) (G x):=by
 have:=c x;cases d:b x with
 |none=>rw[d] at this;exact .inl this
 |some p=>
  rw[d] at this;obtain⟨i,a⟩:=this;have e:=g p d;obtain⟨h,j⟩:=p;simp only at e;subst e;simp only[ALc,OY] at a;by_cases f:h=bg
  ·subst f;rw[if_pos rfl] at a;exact .inr ⟨rfl,a⟩
  ·rw[if_neg f] at a;exact .inl a
structure gN (F:bT) (nm:A2I) (top:Nat) (R:Nat->List (List UInt8)):Prop where
 has: ∀n p,1<=n->n<=99999999->F (aD nm n)=some p->p.2=bg/\Nf (bl p.1) (R n)
 jP: ∀n,1<=n->n<=99999999->F (aD nm n)=none->R n= []
 out: ∀n,top<=n->n<=99999999->F (aD nm n)=none
 lY: ∀n,(n=0\/top<=n)->R n= []
def Kg {a:Type}(c:Nat->a)(s:Nat)(v:a):Nat->a:=λb=>if b=s then v else c b
theorem EM {a:Type}{b:Nat->a}{s:Nat}{v:a}:Kg b s v s=v:=if_pos rfl
theorem GN {b:Type}{c:Nat->b}{s a:Nat}{v:b}(d:a≠s):Kg c s v a=c a:=if_neg d
theorem sQ {a:List (List UInt8)}(b:Nf [] a):a= []:=b.uniq (.stop Uj)
theorem gN.put {k G:bT}{f:A2I}{l fH:Nat}{m:Nat->List (List UInt8)}(i:gN k f l m){s:Nat}{v:List (List UInt8)}(r:1<=s/\s<=99999999)(t:s<fH)(j: ∀a,1<=a->a<=99999999->a≠s->Ny (k (aD f a)) (G (aD f a)))
  (n:(G (aD f s)=none/\v= [])\/ ∃x,G (aD f s)=some (x,bg)/\Nf (bl x) v) (u:l<=fH):gN G f fH (Kg m s v):=by
 refine⟨λa p g e c=>?_,λa g e c=>?_,λa o e=>?_,λa o=>?_⟩
 ·by_cases d:a=s
  ·subst d;rw[EM];rcases n with⟨b,_⟩|⟨x,b,h⟩
   ·rw[b] at c;cases c
   ·rw[b] at c;cases c;exact⟨rfl,h⟩
  ·rw[GN d];rcases j a g e d with b|⟨b,h⟩
   ·exact i.has a p g e (b▸c)
   ·rw[h] at c;cases c
 ·by_cases d:a=s
  ·subst d;rw[EM];rcases n with⟨_,b⟩|⟨x,b,_⟩
   ·exact b
   ·rw[b] at c;cases c
  ·rw[GN d];rcases j a g e d with b|⟨b,h⟩
   ·exact i.jP a g e (b▸c)
   ·obtain⟨_,q⟩:=i.has a _ g e b;exact sQ q
 ·have d:a≠s:=by omega
  rcases j a (by omega) e d with b|⟨b,h⟩
  ·rw[b];exact i.out a (by omega) e
  ·exact h
 ·have d:a≠s:=by omega
  rw[GN d];exact i.lY a (by omega)
theorem gN.aw {k G:bT}{f:A2I}{i:Nat}{l:Nat->List (List UInt8)}(d:gN k f i l)(o:1<=i)(j: ∀a,1<=a->a<=99999999->Ny (k (aD f a)) (G (aD f a))):gN G f i l:=by
 refine⟨λa p g b e=>?_,λa g b e=>?_,λa m b=>?_,d.lY⟩
 ·rcases j a (by omega) b with c|⟨c,h⟩
  ·exact d.has a p g b (c▸e)
  ·rw[h] at e;cases e
 ·rcases j a (by omega) b with c|⟨c,h⟩
  ·exact d.jP a g b (c▸e)
  ·obtain⟨_,n⟩:=d.has a _ g b c;exact sQ n
 ·rcases j a (by omega) b with c|⟨c,h⟩
  ·rw[c];exact d.out a m b
  ·exact h
theorem gN.drop {l G:bT}{e:A2I}{h:Nat}{m g:Nat->List (List UInt8)}(i:gN l e h m)(j: ∀a,a<=99999999->(G (aD e a)=l (aD e a)/\g a=m a)\/(G (aD e a)=none/\g a= []))(n: ∀a,(a=0\/h<=a)->g a= []):gN G e h g:=by
 refine⟨λa p k c f=>?_,λa k c f=>?_,λa o c=>?_,n⟩
 ·rcases j a c with⟨b,d⟩|⟨b,d⟩
  ·rw[d];exact i.has a p k c (b▸f)
  ·rw[b] at f;cases f
 ·rcases j a c with⟨b,d⟩|⟨b,d⟩
  ·rw[d];exact i.jP a k c (b▸f)
  ·exact d
 ·rcases j a c with⟨b,d⟩|⟨b,d⟩
  ·rw[b];exact i.out a o c
  ·exact b
theorem ALH {rs:List (List UInt8)}{r:List UInt8}(b: ∀x∈rs++ [r],x.length<=1048576)(a:Nat):Nf (bl (AX (aL rs)++(AX (Cg r)).extract 0 a)) rs\/Nf (bl (AX (aL rs)++(AX (Cg r)).extract 0 a)) (rs++ [r]):=by
 have c:bl (AX (aL rs)++(AX (Cg r)).extract 0 a)=aL rs++(Cg r).take a:=by show(AX (aL rs)++(AX (Cg r)).extract 0 a).data.toList=_;rw[GP,Ix,RW,Se];rw[show(AX (aL rs)).data.toList=aL rs from Be _,show(AX (Cg r)).data.toList=Cg r from Be _];simp
 rw[c];by_cases d:a<(Cg r).length
 ·exact .inl (SE (λx e=>b x (by simp[e])) (AM7 (b r (by simp)) d))
 ·right;rw[AE (by omega)];have:=SE (rs:=rs++ [r]) b (t:= []) Uj;simpa using this
structure Nt where
 next:Nat
 aZ:Nat
 names:List Nat
def EG(x:Nt):List UInt8:=BX x.next++BX x.aZ++BX x.names.length++x.names.flatMap BX
structure iv (x:Nt):Prop where
 next:x.next<=99999999
 aZ:1<=x.aZ/\x.aZ<=99999999
 cw:x.names.length<=60000
 below: ∀n∈x.names,n<x.next
 nd:x.names.Nodup
structure Y0 (b:List Pr):Prop where
 len:b.length<=64
 ok: ∀x∈b,Lr x
theorem VW: ∀ {l:List Nat},(∀ n∈l,n<=99999999)->(l.flatMap BX).length<=l.length*10
 | [],_=>by simp
 |n::l,a=>by
  have d:=AV (n:=n) (by have:=a n (by simp);omega);have e:=VW (l:=l) λb c=>a b (AG _ c)
  simp only[AH,A1,A6];omega
theorem AIx {x:Nt}(a:iv x):(EG x).length<=30+x.names.length*10:=by
 have c:=AV (n:=x.next) (by have:=a.next;omega);have d:=AV (n:=x.aZ) (by have:=a.aZ;omega);have e:=AV (n:=x.names.length) (by have:=a.cw;omega);have f:=VW (l:=x.names) λn b=>by have:=a.below n b;have:=a.next;omega
 simp only[EG,A1];omega
theorem Zv {s:Nat}{b:List Pr}(d:s<=99999999)(a:Y0 b):(BU s b).length<=20+64*8276:=by have e:=AV (n:=s) (by omega);have f:=AV (n:=b.length) (by have:=a.len;omega);have g:=ME a.ok;have c:=a.len;have h:b.length*8276<=64*8276:=AK _ c;simp only[BU,A1];omega
structure Bz where
 L:Nat->List (List Pr)
 N:Nat->List Nt
 T:Nat->List Pr
 aS:Nat
 bd:Nat
def Nk(a:Bz):List Nt:=(List.range a.bd).flatMap a.N
def Ar(a:Bz):Nt:=(Nk a).getLast?.getD ⟨1,1,[]⟩
def Ih(a:Bz):List (List Pr):=(List.range a.aS).flatMap λb=>if b<(Ar a).aZ then [] else a.L b
def FD(a:Bz):List Pr:=Av [] (Ih a).flatten
def cM(a:Bz):List Pr:=Az (Ac (FD a::(Ar a).names.map a.T))
structure BH (F:bT) (D:Bz):Prop where
 log:gN F nl D.aS λn=>(D.L n).map (BU n)
 note:gN F nn D.bd λn=>(D.N n).map EG
 cW: ∀n∈(Ar D).names,F (ba n)=some (AX (Js (D.T n)),bg)/\Hg (D.T n)
 gi: ∀n b,b∈D.L n->Y0 b
 dT: ∀n x,x∈D.N n->iv x
 dA: ∀x,F x≠none->(bl x).head? =some 116-> ∃n,x=ba n
 cF:1<=D.aS/\D.aS<=99999999/\1<=D.bd/\D.bd<=99999999
theorem AIS {b:bT}{a:Bz}(c:BH b a):iv (Ar a):=by
 unfold Ar;cases d:(Nk a).getLast? with
 |none=>exact⟨by simp,by simp,by simp,by simp,by simp⟩
 |some x=>
  have:=SJ d;obtain⟨e,_,f⟩:=List.mem_flatMap.1 this;exact c.dT e x f
theorem ATQ {l:List Pr}(t:Hg l):AX (Js l)≠bg:=λd=>by
 have a:Js l= []:=by have:=congrArg bl d;rw[EF] at this;exact this
 have e:aT l (NJ l)≠ []:=by simp[aT]
 unfold Js at a;cases b:aT l (NJ l) with
 |nil=>exact e b
 |cons r f=>
  rw[b] at a;have g:(Cg r).length=0:=by have c:=congrArg List.length a;rw[Xt,A1] at c;simp at c;simp[c.1]
  have h:=(Ij (r:=r) (OC t.fx r (by rw[b];simp))).1;omega
theorem Vr {a b:Option (A2I×A2I)}{l:List Pr}(e:Ny a b)(t:Hg l)(d:a=some (AX (Js l),bg)):b=some (AX (Js l),bg):=by
 rcases e with c|⟨c,_⟩
 ·exact c.trans d
 ·rw[d] at c;injection c with c;exact absurd (Prod.mk.inj c).1 (ATQ t)
theorem BH.same {c G:bT}{e:Bz}(b:BH c e)(h: ∀a,1<=a->a<=99999999->Ny (c (aD nl a)) (G (aD nl a)))(i: ∀a,1<=a->a<=99999999->Ny (c (aD nn a)) (G (aD nn a)))(j: ∀a∈(Ar e).names,Ny (c (ba a)) (G (ba a)))
  (k: ∀x,G x≠none->c x≠none\/ ∃a,x=ba a):BH G e:=by
 refine⟨b.log.aw b.cF.1 h,b.note.aw b.cF.2.2.1 i,λa f=>?_,b.gi,b.dT,λx l hd=>?_,b.cF⟩
 ·obtain⟨d,g⟩:=b.cW a f;exact⟨Vr (j a f) g d,g⟩
 ·rcases k x l with d|d
  ·exact b.dA x d hd
  ·exact d
theorem BH.dj {g G:bT}{h:Bz}(d:BH g h)(c:Jo g G):BH G h:=by
 refine d.same (λb e f=>c.bM λp a=>(d.log.has b p e f a).1) (λb e f=>c.bM λp a=>(d.note.has b p e f a).1) (λb i=>c.bM λp a=>?_) λx j=> .inl λk=>j ?_
 ·rw[(d.cW b i).1] at a;cases a;rfl
 ·have:=c x;rw[k] at this;exact this
open M (Sorted Ab Bw Av Ac Am BF Ah bz Az aP Ay Yb)
theorem AQB {x:Pr}(a:Lr x):Ah x=0:=by
 have c:x.key≠(⟨#[]⟩:A2I):=λd=>a.key (by rw[d];rfl)
 have f:=a.bL;have g:=a.cG;unfold M.Ah;rw[if_neg ?_,if_neg ?_]
 ·simp only[DE,decide_eq_true_eq];omega
 ·simp only[DE,A3,decide_eq_true_eq,CA,decide_eq_false_iff_not];rintro(b|⟨b,e⟩)
  ·exact c b
  ·exact e (sM (a.gone b))
theorem pE {x:Pr}(a:Ah x=0):Lr x:=by
 unfold M.Ah at a;split at a
 ·cases a
 ·rename_i b;split at a
  ·cases a
  ·rename_i c;simp only[DE,A3,decide_eq_true_eq,CA,decide_eq_false_iff_not,not_or,not_and,Decidable.not_not] at b c;refine⟨λd=>b.1 (sM d),by omega,by omega,λe=>?_⟩;rw[b.2 e];rfl
theorem AIn {l:List Pr}(a: ∀x∈l,Lr x):BF l:=λx b=>AQB (a x b)
theorem AFL(a:A2I): ∀ {b t:List Pr},Sorted t->BF b->Ab a (Av t b)=(Ab a b.reverse).or (Ab a t)
 | [],t,_,_=>rfl
 |x::b,t,s,g=>by
  have d:=g x (by simp);show Ab a (Av (Bw x t) b)=_;rw[AFL a (M.P8 s) λe f=>g e (AG _ f),RM,M.Oc,M.RJ d,M.YF x a s,M.BB];cases Ab a b.reverse with
  |some p=>rfl
  |none=>
   by_cases c:x.key=a
   ·rw[if_pos c,if_pos c];rfl
   ·rw[if_neg c,if_neg c];rfl
def alive(a:Option Pr):Option Pr:=a.filter λp=> !p.gone
theorem JR(x:Pr):alive (some x)=if x.gone then none else some x:=by unfold alive;cases a:x.gone<;>simp[Option.filter,a]
theorem sR(a:A2I): ∀ {l:List Pr},Sorted l->Ab a (Az l)=alive (Ab a l)
 | [],_=>rfl
 |x::l,s=>by
  have e:=List.pairwise_cons.1 s;have c:=sR a e.2;unfold M.Az at c ⊢;rw[AT,M.BB];by_cases b:x.key=a
  ·rw[if_pos b];cases d:x.gone with
   |false=>rw[if_pos (by rfl),M.BB,if_pos b,JR,d];rfl
   |true=>
    rw[if_neg (by simp),c];have:Ab a l=none:=M.Eh λf g h=>M.Lx (e.1 f g) (b.trans h.symm)
    rw[this,JR,d];rfl
  ·rw[if_neg b];cases d:x.gone with
   |false=>rw[if_pos (by rfl),M.BB,if_neg b];exact c
   |true=>rw[if_neg (by simp)];exact c
theorem VS {l:List Pr}(s:Sorted l):Sorted (Az l):=s.sublist FA
def MC(fr:List Pr)(ts:List (List Pr)):List Pr:=Az (Ac (fr::ts))
theorem Ed(fr:List Pr)(ts:List (List Pr)):Sorted (MC fr ts):=VS (M.Dz _)
theorem Gp(a:A2I){fr:List Pr}{ts:List (List Pr)}(b:bz (fr::ts)):Ab a (MC fr ts)=alive ((Ab a fr).or (Am a ts)):=by unfold MC;rw[sR a (M.Dz _),M.LF a b,M.EQ]
def gG(m:List Pr)(p:Pr):List Pr:=m.take (aP p.key m)++(if p.gone then [] else [p])++m.drop (if Ay p.key m then aP p.key m+1 else aP p.key m)
def cj(m b:List Pr):List Pr:=b.foldl gG m
theorem ZC(a:A2I)(x:Pr)(l:List Pr):aP a (x::l)=if aR x.key a then aP a l+1 else 0:=by unfold M.aP M.iD;rw[LS];split<;>simp
theorem AKF(a:A2I)(x:Pr)(l:List Pr):Ay a (x::l)=if aR x.key a then Ay a l else decide (x.key=a):=by unfold M.Ay;rw[ZC];by_cases b:aR x.key a=true<;>simp[b]
def kR(a:A2I)(l:List Pr):List Pr:=l.filter λb=> !decide (b.key=a)
theorem ALx {k:A2I}: ∀ {l:List Pr},Sorted l->l.take (aP k l)++l.drop (if Ay k l then aP k l+1 else aP k l)=kR k l
 | [],_=>by simp[kR]
 |x::l,s=>by
  have c:=List.pairwise_cons.1 s;have d:=ALx (k:=k) c.2;unfold kR at d ⊢;rw[ZC,AKF,AT];by_cases a:aR x.key k=true
  ·have i:x.key≠k:=M.Lx a;have j:(!decide (x.key=k))=true:=by simp[i]
   simp only[a,if_true,j,HU,DO];rw[<- d];cases o:Ay k l<;>simp
  ·rw[if_neg a,if_neg a,N3,CT];have e:l.filter (λm=> !decide (m.key=k))=l:=by
    refine List.filter_eq_self.2 λf n=>?_
    have g:=c.1 f n;by_cases h:f.key=k
    ·rw[h] at g;exact absurd g a
    ·simp[h]
   by_cases b:x.key=k
   ·rw[if_pos (by simp[b]),if_neg (by simp[b]),e];rfl
   ·rw[if_neg (by simp[b]),if_pos (by simp[b]),e];rfl
theorem sS {m:List Pr}(s:Sorted m)(p:Pr):gG m p=if p.gone then kR p.key m else M.ins p m:=by
 unfold gG;cases a:p.gone with
 |true=>simp only[if_true,AN];exact ALx s
 |false=>
  simp only[Cl,if_false];have:=M.nR p m;unfold M.Yb at this;exact this
theorem AN2(b c:A2I)(m:List Pr):Ab b (kR c m)=if c=b then none else Ab b m:=by
 unfold kR
 induction m with
 |nil=>split<;>rfl
 |cons x m f=>
  rw[AT,M.BB];by_cases d:x.key=c
  ·rw[if_neg (by simp[d]),f];by_cases a:c=b
   ·rw[if_pos a,if_pos a]
   ·rw[if_neg a,if_neg a,if_neg (λe=>a (d.symm.trans e))]
  ·rw[if_pos (by simp[d]),M.BB,f];by_cases a:x.key=b
   ·rw[if_pos a,if_pos a,if_neg (λe=>d (a.trans e.symm))]
   ·rw[if_neg a,if_neg a]
theorem L9 {m:List Pr}(s:Sorted m)(p:Pr):Sorted (gG m p):=by
 rw[sS s];split
 ·exact s.sublist FA
 ·exact M.Xc p s
theorem Rp {m:List Pr}(s:Sorted m)(p:Pr)(a:A2I):Ab a (gG m p)=if p.key=a then alive (some p) else Ab a m:=by
 rw[sS s];cases b:p.gone with
 |true=>rw[if_pos rfl,AN2,JR,b];rfl
 |false=>rw[if_neg (by simp),M.YF p a s,JR,b];rfl
theorem AC9: ∀ {b m:List Pr},Sorted m->Sorted (cj m b)
 | [],_,s=>s
 |p::b,m,s=>AC9 (b:=b) (L9 s p)
theorem Yn(a:A2I): ∀ {b m:List Pr},Sorted m->Ab a (cj m b)=match Ab a b.reverse with|some p=>alive (some p)|none=>Ab a m
 | [],_,_=>rfl
 |p::b,m,s=>by
  show Ab a (cj (gG m p) b)=_;rw[Yn a (L9 s p),RM,M.Oc,M.BB];cases Ab a b.reverse with
  |some d=>rfl
  |none=>
   rw[Rp s];by_cases c:p.key=a
   ·rw[if_pos c,if_pos c];rfl
   ·rw[if_neg c,if_neg c];rfl
theorem ABC {fr b:List Pr}{ts:List (List Pr)}(c:bz (fr::ts))(g:BF b):MC (Av fr b) ts=cj (MC fr ts) b:=by
 have e:=c.sorted fr (by simp);have f:bz (Av fr b::ts):=⟨λl a=>by
   rcases List.mem_cons.1 a with rfl|a
   ·exact M.Rs e
   ·exact c.sorted l (by simp[a]),λl a=>by
   rcases List.mem_cons.1 a with rfl|a
   ·exact M.Xy (c.aO fr (by simp))
   ·exact c.aO l (by simp[a])⟩
 refine(Ed _ _).ext (AC9 (Ed _ _)) λd=>?_
 rw[Gp d f,AFL d e g,Yn d (Ed _ _),Gp d c];cases Ab d b.reverse with
 |some p=>rfl
 |none=>rfl
theorem bz.gX {ts:List (List Pr)}(b:bz ts):bz ([]::ts):=⟨λl a=>by
  rcases List.mem_cons.1 a with rfl|a
  ·exact List.Pairwise.nil
  ·exact b.sorted l a,λl a=>by
  rcases List.mem_cons.1 a with rfl|a
  ·exact λ_ c=>by cases c
  ·exact b.aO l a⟩
theorem bz.tail {l:List Pr}{ts:List (List Pr)}(b:bz (l::ts)):bz ts:=⟨λx a=>b.sorted x (by simp[a]),λx a=>b.aO x (by simp[a])⟩
theorem AHw {fr:List Pr}{ts:List (List Pr)}(a:bz (fr::ts)):MC [] (fr::ts)=MC fr ts:=by
 refine(Ed _ _).ext (Ed _ _) λb=>?_
 rw[Gp b (bz.gX a),Gp b a,M.EQ];rfl
theorem AHX(a b:Option Pr):alive (a.or (alive b))=alive (a.or b):=by
 cases a with
 |some p=>rfl
 |none=>
  cases b with
  |none=>rfl
  |some c=>cases d:c.gone<;>simp[JR,d,alive]
def Gd(ts:List (List Pr)):List Pr:=Az (Ac ts)
theorem pF {ts:List (List Pr)}:Sorted (Gd ts)/\BF (Gd ts):=⟨VS (M.Dz _),λx a=>M.YP _ x (List.mem_filter.1 a).1⟩
theorem bz.left {fr:List Pr}{ts:List (List Pr)}(b:bz (fr::ts)):bz [fr,Gd ts]:=⟨λl a=>by
  rcases List.mem_cons.1 a with rfl|a
  ·exact b.sorted _ (by simp)
  ·rw[List.mem_singleton.1 a];exact pF.1,λl a=>by
  rcases List.mem_cons.1 a with rfl|a
  ·exact b.aO _ (by simp)
  ·rw[List.mem_singleton.1 a];exact pF.2⟩
theorem Wq {fr:List Pr}{ts:List (List Pr)}(b:bz (fr::ts)):MC fr [Gd ts]=MC fr ts:=by
 refine(Ed _ _).ext (Ed _ _) λa=>?_
 rw[Gp a (bz.left b),Gp a b,M.EQ];have:Ab a (Gd ts)=alive (Am a ts):=by unfold Gd;rw[sR a (M.Dz _),M.LF a (bz.tail b)]
 rw[this];have c:Am a ([]:List (List Pr))=none:=rfl;rw[c,Option.or_none,AHX]
theorem ACQ {fr:List Pr}{ts:List (List Pr)}(a:bz (fr::ts))(c:Gd ts= []):MC fr []=MC fr ts:=by
 rw[<- Wq a,c];have e:bz [fr]:=⟨λl b=>by rw[List.mem_singleton.1 b];exact a.sorted _ (by simp),λl b=>by rw[List.mem_singleton.1 b];exact a.aO _ (by simp)⟩;have f:bz [fr,[]]:=by have:=bz.left a;rw[c] at this;exact this
 refine(Ed _ _).ext (Ed _ _) λd=>?_
 rw[Gp d e,Gp d f,M.EQ];rfl
theorem sT(l:List Pr):(Az l).length<=l.length:=(FA).length_le
theorem UU {c:Type}{b:Nat->List c}{t:Nat}: ∀ {t':Nat},t<=t'->(∀ a,t<=a->a<t'->b a= [])->(List.range t').flatMap b=(List.range t).flatMap b
 |0,d,_=>by
  simp_all
 |t'+1,d,e=>by
  by_cases f:t=t'+1
  ·rw[f]
  ·rw[MD,Fo,UU (t':=t') (by omega) λa g h=>e a g (by omega)]
   grind
theorem sZ {c:Type}{a:Nat->List c}{s t:Nat}(e:s<t)(d: ∀b,s<b->a b= []):(List.range t).flatMap a=(List.range s).flatMap a++a s:=by rw[UU (t:=s+1) (by omega) λb f _=>d b (by omega),MD,Fo];simp
theorem AD9 {d:Type}{b c:Nat->List d}{t:Nat}(e: ∀a,a<t->b a=c a):(List.range t).flatMap b=(List.range t).flatMap c:=by grind [List.flatMap,List.map_congr_left]
theorem ta {a:Bz}{s:Nat}{l:List Nt}{x:Nt}(c:a.N s=l++ [x])(d: ∀b,s<b->a.N b= [])(e:s<a.bd):Ar a=x:=by unfold Ar Nk;rw[sZ e d,c,<-A4,SD];rfl
theorem BH.gV {c:bT}{b:Bz}(d:BH c b){a:Nat}(e:a=0\/b.aS<=a):b.L a= []:=by simpa using d.log.lY a e
theorem BH.gY {c:bT}{b:Bz}(d:BH c b){a:Nat}(e:a=0\/b.bd<=a):b.N a= []:=by simpa using d.note.lY a e
theorem BH.jT {b:bT}{c:Bz}(d:BH b c){a:Nat}(e:a<=99999999)(f:b (aD nl a)=none):c.L a= []:=by
 by_cases g:a=0
 ·exact d.gV (.inl g)
 ·simpa using d.log.jP a (by omega) e f
theorem BH.jX {b:bT}{c:Bz}(d:BH b c){a:Nat}(e:a<=99999999)(f:b (aD nn a)=none):c.N a= []:=by
 by_cases g:a=0
 ·exact d.gY (.inl g)
 ·simpa using d.note.jP a (by omega) e f
theorem AH0(t a b:List Pr):Av t (a++b)=Av (Av t a) b:=HW
theorem AI5:BF ([]:List Pr):=λ_ a=>by cases a
theorem Pg:Sorted ([]:List Pr):=List.Pairwise.nil
theorem AHi(a:Bz):Sorted (FD a)/\BF (FD a):=⟨M.Rs Pg,M.Xy AI5⟩
theorem Hg.aO {l:List Pr}(t:Hg l):Sorted l/\BF l:=⟨t.inc,AIn t.ok⟩
theorem BH.gr {f:bT}{a:Bz}(e:BH f a):bz (FD a::(Ar a).names.map a.T):=by
 refine⟨λl b=>?_,λl b=>?_⟩<;>rcases List.mem_cons.1 b with rfl|b
 ·exact(AHi a).1
 ·obtain⟨c,d,rfl⟩:=List.mem_map.1 b;exact(e.cW c d).2.aO.1
 ·exact(AHi a).2
 ·obtain⟨c,d,rfl⟩:=List.mem_map.1 b;exact(e.cW c d).2.aO.2
def Td(a:Bz)(s:Nat)(b:List Pr):Bz:= {a with L:=Kg a.L s (a.L s++ [b]),aS:=max a.aS (s+1)}
theorem AFN {e:bT}{a:Bz}(f:BH e a){s:Nat}{b:List Pr}(l:(Ar a).aZ<=s)(m: ∀c,s<c->a.L c= []):Ih (Td a s b)=Ih a++ [b]:=by
 have d:s<max a.aS (s+1):=by omega
 have g:Ih a=(List.range s).flatMap (λc=>if c<(Ar a).aZ then [] else a.L c)++a.L s:=by
  have h:Ih a=(List.range (max a.aS (s+1))).flatMap λc=>if c<(Ar a).aZ then [] else a.L c:=by
   refine(UU (by omega) λc i n=>?_).symm;split
   ·rfl
   ·exact f.gV (.inr i)
  rw[h,sZ (s:=s) d (λc j=>by
   simp_all),if_neg (by omega)]
 have k:Ih (Td a s b)=(List.range s).flatMap (λc=>if c<(Ar a).aZ then [] else Kg a.L s (a.L s++ [b]) c)++Kg a.L s (a.L s++ [b]) s:=by
  show(List.range (max a.aS (s+1))).flatMap (λc=>if c<(Ar a).aZ then [] else Kg a.L s (a.L s++ [b]) c)=_;rw[sZ (s:=s) d (λc j=>by
   grind [GN]),if_neg (by omega)]
 rw[g,k,EM,A4];congr 1
 grind [AD9,GN]
theorem APX {e:bT}{a:Bz}(f:BH e a){s:Nat}{b:List Pr}(h:(Ar a).aZ<=s)(i: ∀c,s<c->a.L c= [])(g:Y0 b):FD (Td a s b)=Av (FD a) b/\cM (Td a s b)=cj (cM a) b:=by
 have d:FD (Td a s b)=Av (FD a) b:=by grind [FD,AFN,List.flatten_append,AH0]
 refine⟨d,?_⟩;have:=ABC f.gr (AIn g.ok);unfold cM;rw[d];exact this
theorem AQv {g G:bT}{d:Bz}(f:BH g d){s:Nat}{b:List Pr}(j:1<=s/\s+1<=99999999)(k:Y0 b)(l: ∀a,1<=a->a<=99999999->a≠s->Ny (g (aD nl a)) (G (aD nl a)))(m: ∀a,1<=a->a<=99999999->Ny (g (aD nn a)) (G (aD nn a)))
  (n: ∀a,Ny (g (ba a)) (G (ba a))) (o: ∀x,(∀ a,x≠aD nl a)->G x≠none->g x≠none) (p: ∃x,G (aD nl s)=some (x,bg)/\Nf (bl x) ((d.L s++ [b]).map (BU s))):BH G (Td d s b):=by
 have q: ∀a∈(Ar d).names,G (ba a)=some (AX (Js (d.T a)),bg)/\Hg (d.T a):=λa r=>
  let ⟨t,i⟩:=f.cW a r
  ⟨Vr (n a) i t,i⟩
 refine⟨?_,?_,q,λa c e=>?_,f.dT,λx u hd=>?_,by have:=f.cF;refine⟨?_,?_,this.2.2.1,this.2.2.2⟩<;>simp only[Td]<;>omega⟩
 ·have:=f.log.put (G:=G) (fH:=max d.aS (s+1)) (s:=s) (v:=(d.L s++ [b]).map (BU s)) ⟨j.1,by omega⟩ (by omega) (λa w y z=>l a w y z) (.inr p) (by omega);have h:(Kg (λa=>(d.L a).map (BU a)) s ((d.L s++ [b]).map (BU s)))=λa=>((Td d s b).L a).map (BU a):=by
   funext a;show _=(Kg d.L s (d.L s++ [b]) a).map (BU a)
   grind [EM,GN]
  rw[h] at this;exact this
 ·exact f.note.aw f.cF.2.2.1 m
 ·by_cases h:a=s
  ·subst h;have e:c∈Kg d.L a (d.L a++ [b]) a:=e;rw[EM] at e;rcases List.mem_append.1 e with e|e
   ·exact f.gi a c e
   ·rw[List.mem_singleton.1 e];exact k
  ·have e:c∈Kg d.L s (d.L s++ [b]) a:=e;rw[GN h] at e;exact f.gi a c e
 ·exact f.dA x (o x (λa h=>by grind [RS]) u) hd
def addN(a:Bz)(s:Nat)(x:Nt)(T:Nat->List Pr):Bz:= {a with N:=Kg a.N s [x],T:=T,bd:=max a.bd (s+1)}
theorem AFi {a:Bz}{s:Nat}{x:Nt}{T:Nat->List Pr}(c: ∀b,s<b->a.N b= []):Ar (addN a s x T)=x:=by
 refine ta (s:=s) (l:= []) ?_ (λb d=>?_) ?_
 ·show Kg a.N s [x] s=_;rw[EM];rfl
 ·show Kg a.N s [x] b= []
  grind [GN]
 ·show s<max a.bd (s+1);omega
theorem ALR {g G:bT}{c:Bz}(f:BH g c){s:Nat}{x:Nt}{T:Nat->List Pr}(i:1<=s/\s+1<=99999999)(j:iv x)(k: ∀a,s<a->c.N a= [])(l: ∀a,1<=a->a<=99999999->Ny (g (aD nl a)) (G (aD nl a)))(m: ∀a,1<=a->a<=99999999->a≠s->Ny (g (aD nn a)) (G (aD nn a)))
  (n: ∀a∈x.names,G (ba a)=some (AX (Js (T a)),bg)/\Hg (T a)) (o: ∀x,(∀ a,x≠aD nn a)->(∀ a,x≠ba a)->G x≠none->g x≠none) (p: ∃b,G (aD nn s)=some (b,bg)/\Nf (bl b) [EG x]):BH G (addN c s x T):=by
 refine⟨f.log.aw f.cF.1 l,?_,λa h=>?_,f.gi,λa b d=>?_,λb d hd=>?_,by have:=f.cF;refine⟨this.1,this.2.1,?_,?_⟩<;>simp only[addN]<;>omega⟩
 ·have:=f.note.put (G:=G) (fH:=max c.bd (s+1)) (s:=s) (v:= [EG x]) ⟨i.1,by omega⟩ (by omega) (λa q r t=>m a q r t) (.inr p) (by omega);have e:(Kg (λa=>(c.N a).map EG) s [EG x])=λa=>((addN c s x T).N a).map EG:=by
   funext a;show _=(Kg c.N s [x] a).map EG
   grind [EM,GN]
  rw[e] at this;exact this
 ·rw[AFi k] at h;exact n a h
 ·have d:b∈Kg c.N s [x] a:=d;by_cases e:a=s
  ·rw[e,EM] at d;rw[List.mem_singleton.1 d];exact j
  ·rw[GN e] at d;exact f.dT a b d
 ·by_cases e: ∃a,b=ba a
  ·exact e
  ·exact f.dA b (o b (λa e=>by grind [UD]) (λa u=>e ⟨a,u⟩) d) hd
theorem BH.gu {e G:bT}{c:Bz}(f:BH e c)(d: ∀x,(∀ a,a∉(Ar c).names->x≠ba a)->G x=e x):BH G c:=by
 refine f.same (λa _ _=> .inl (d _ λb _=>MI a b)) (λa _ _=> .inl (d _ λb _=>Qw a b)) (λa g=> .inl (d _ λb h i=>h (by rw[<- Jh i];exact g))) λx j=>?_
 grind
open Classical in
noncomputable def Nv (b:Bz) (G:bT):Bz:= {b with L:=λa=>if a<=99999999/\G (aD nl a)=none then [] else b.L a}
open Classical in
noncomputable def pJ (b:Bz) (G:bT):Bz:= {b with N:=λa=>if a<=99999999/\G (aD nn a)=none then [] else b.N a}
theorem AJy {b:Bz}{f G:bT}(g:BH f b)(h: ∀a,a<=99999999->G (aD nl a)=f (aD nl a)\/(G (aD nl a)=none/\a<(Ar b).aZ)):Ih (Nv b G)=Ih b:=by
 unfold Ih;refine AD9 λa i=>?_
 show(if a<(Ar b).aZ then [] else if a<=99999999/\G (aD nl a)=none then [] else b.L a)=_;by_cases c:a<(Ar b).aZ
 ·rw[if_pos c,if_pos c]
 ·rw[if_neg c,if_neg c];split
  ·rename_i d;rcases h a d.1 with e|e
   ·rw[e] at d;exact(g.jT d.1 d.2).symm
   ·exact absurd e.2 c
  ·rfl
theorem APZ {f G:bT}{d:Bz}(c:BH f d)(m: ∀a,a<=99999999->G (aD nl a)=f (aD nl a)\/(G (aD nl a)=none/\a<(Ar d).aZ))(j: ∀x,(∀ a,a<=99999999->x≠aD nl a)->G x=f x):BH G (Nv d G):=by
 refine⟨c.log.drop (λa k=>?_) (λa g=>?_),c.note.aw c.cF.2.2.1 λa n k=> .inl (j _ λh _ i=>Wl h a i.symm),λa g=>?_,λa b e=>?_,c.dT,λx o hd=>?_,c.cF⟩
 ·show _\/(G (aD nl a)=none/\((if a<=99999999/\G (aD nl a)=none then [] else d.L a).map (BU a))= []);rcases m a k with l|l
  ·by_cases p:G (aD nl a)=none
   ·simp_all
   ·left;refine⟨l,?_⟩;show((if a<=99999999/\G (aD nl a)=none then [] else d.L a).map (BU a))=_
    simp_all
  simp_all
 ·show((if a<=99999999/\G (aD nl a)=none then [] else d.L a).map (BU a))= [];split
  ·rfl
  ·rw[c.gV g];rfl
 ·rw[j _ λh _ i=>MI h a i.symm];exact c.cW a g
 ·have e:b∈(if a<=99999999/\G (aD nl a)=none then [] else d.L a):=e;split at e
  ·cases e
  ·exact c.gi a b e
 ·exact c.dA x (by grind) hd
theorem ADm {a:Bz}{G:bT}{s:Nat}{x:Nt}(d:a.N s= [x])(e: ∀b,s<b->a.N b= [])(c:s<a.bd)(f:G (aD nn s)≠none):Ar (pJ a G)=x:=by
 refine ta (s:=s) (l:= []) ?_ (λb g=>?_) c
 ·show(if s<=99999999/\G (aD nn s)=none then [] else a.N s)=_
  simp_all
 ·show(if b<=99999999/\G (aD nn b)=none then [] else a.N b)= []
  simp_all
theorem APv {g G:bT}{c:Bz}(d:BH g c){s:Nat}{x:Nt}(k:c.N s= [x])(f: ∀a,s<a->c.N a= [])(m:s<c.bd)(q:G (aD nn s)≠none)(r: ∀a,a<=99999999->G (aD nn a)=g (aD nn a)\/G (aD nn a)=none)(n: ∀x,(∀ a,a<=99999999->x≠aD nn a)->G x=g x):BH G (pJ c G):=by
 have t:Ar (pJ c G)=Ar c:=by rw[ADm k f m q,ta (l:= []) k f m]
 refine⟨d.log.aw d.cF.1 λa v o=> .inl (n _ λh _ i=>Wl a h i),d.note.drop (λa o=>?_) (λa f=>?_),λa p=>?_,d.gi,λa b e=>?_,λx w hd=>?_,d.cF⟩
 ·rcases r a o with j|j
  ·by_cases u:G (aD nn a)=none
   ·right;refine⟨u,?_⟩;show((if a<=99999999/\G (aD nn a)=none then [] else c.N a).map EG)= []
    simp_all
   ·left;refine⟨j,?_⟩;show((if a<=99999999/\G (aD nn a)=none then [] else c.N a).map EG)=_
    simp_all
  ·right;refine⟨j,?_⟩;show((if a<=99999999/\G (aD nn a)=none then [] else c.N a).map EG)= []
   simp_all
 ·show((if a<=99999999/\G (aD nn a)=none then [] else c.N a).map EG)= [];split
  ·rfl
  ·rw[d.gY f];rfl
 ·rw[t] at p;rw[n _ λh _ i=>Qw h a i.symm];exact d.cW a p
 ·have e:b∈(if a<=99999999/\G (aD nn a)=none then [] else c.N a):=e;split at e
  ·cases e
  ·exact d.dT a b e
 ·exact d.dA x (by grind) hd
structure nD (D:Bz) (s:Nat) (x:Nt) (T:Nat->List Pr) (D':Bz):Prop where
 L:D'.L=D.L
 aS:D'.aS=D.aS
 bd:D'.bd<=max D.bd (s+1)
 last:(Ar D'=Ar D/\D'.T=D.T)\/(Ar D'=x/\D'.T=T)
theorem AOf {a:Bz}{s:Nat}{x:Nt}{T:Nat->List Pr}(c: ∀b,s<b->a.N b= []):nD a s x T (addN a s x T):=⟨rfl,rfl,A0 _,.inr ⟨AFi c,rfl⟩⟩
theorem APj {a:Bz}{s:Nat}{x:Nt}{T:Nat->List Pr}:nD a s x T a:=⟨rfl,rfl,by omega,.inl ⟨rfl,rfl⟩⟩
theorem ANk {x:Nt}(a:iv x)(b:(EG x).length<=1048576):Nf (bl (AX (Cg (EG x)))) [EG x]:=by rw[EF];have:=SE (rs:= [EG x]) (λc d=>by simp_all) (t:= []) Uj;simpa using this
theorem ANU {b g:bT}{c:Bz}{s:Nat}{x:Nt}{T:Nat->List Pr}(d:BH b c)(k:1<=s/\s+1<=99999999)(h:iv x)(l:(EG x).length<=1048576)(m: ∀a,s<=a->a<=99999999->b (aD nn a)=none)
  (q: ∀a∈x.names,b (ba a)=some (AX (Js (T a)),bg)/\Hg (T a)) (f: ∀e,g e=if e=aD nn s then some (AX (Cg (EG x)),bg) else b e):BH g (addN c s x T)/\ ∀a,s<a->c.N a= []:=by
 have i: ∀a,s<a->c.N a= []:=λa n=>by
  by_cases j:a<=99999999
  ·exact d.jX j (m a (by omega) j)
  ·exact d.gY (.inr (by have:=d.cF;omega))
 refine⟨ALR d k h i (λa _ _=> .inl ?_) (λa _ _ o=> .inl ?_) (λa n=>?_) (λe r _ t=>?_) ⟨_,by rw[f,if_pos rfl],ANk h l⟩,i⟩
 ·rw[f,if_neg (Wl a s)]
 ·rw[f,if_neg λp=>o (Iz p)]
 ·grind
 simp_all
theorem AMe {g F1 G:bT}{d:Bz}{s:Nat}{x:Nt}{T:Nat->List Pr}(b:BH g d)(B:1<=s/\s+1<=99999999)(N:iv x)(V:(EG x).length<=1048576)(C: ∀a,s<=a->a<=99999999->g (aD nn a)=none)
  (y: ∀a∈x.names,g (ba a)=some (AX (Js (T a)),bg)/\Hg (T a)) (n: ∀e,F1 e=if e=aD nn s then some (bg,AX (Cg (EG x))) else g e) (c:Jo F1 G): ∃i,BH G i/\nD d s x T i:=by
 have D: ∀a,s<a->d.N a= []:=λa o=>by
  by_cases E:a<=99999999
  ·exact b.jX E (C a (by omega) E)
  ·exact b.gY (.inr (by have:=b.cF;omega))
 have W:d.N s= []:=b.jX (by omega) (C s (A0 _) (by omega));have F: ∀a,1<=a->a<=99999999->Ny (g (aD nl a)) (G (aD nl a)):=λa j k=>by
  have f:F1 (aD nl a)=g (aD nl a):=by rw[n,if_neg (Wl a s)]
  have:=c.bM (x:=aD nl a) λp q=>(b.log.has a p j k (f▸q)).1
  rwa [f] at this
 have H: ∀a,1<=a->a<=99999999->a≠s->Ny (g (aD nn a)) (G (aD nn a)):=λa j k z=>by
  have f:F1 (aD nn a)=g (aD nn a):=by rw[n,if_neg λf=>z (Iz f)]
  have:=c.bM (x:=aD nn a) λp q=>(b.note.has a p j k (f▸q)).1
  rwa [f] at this
 have O: ∀a l,g (ba a)=some (AX (Js l),bg)->Hg l->G (ba a)=some (AX (Js l),bg):=λa l A t=>by
  have f:F1 (ba a)=g (ba a):=by grind
  have:=c.bM (x:=ba a) λp q=>by grind
  rw[f] at this;exact Vr this t A
 have I: ∀e,(∀ a,e≠aD nn a)->G e≠none->g e≠none:=λe m P A=>P (by
  have:=c e;rw[n,if_neg (m s),A] at this;exact this)
 have J:=c (aD nn s);rw[n,if_pos rfl] at J;obtain⟨Q,u⟩:=J;have h:=ALH (rs:= []) (r:=EG x) (λr X=>by simp_all) Q;have R:AX (aL [])=bg:=rfl;rw[R] at h;have K:(G (aD nn s)=none\/ ∃e,G (aD nn s)=some (e,bg)/\Nf (bl e) [])-> ∃i,BH G i/\nD d s x T i:=λS=>by
  have U:Nk {d with bd:=max d.bd (s+1)}=Nk d:=UU (by show d.bd<=max d.bd (s+1);omega) λa w _=>b.gY (.inr w)
  have L:Ar {d with bd:=max d.bd (s+1)}=Ar d:=by unfold Ar;rw[U]
  refine⟨{d with bd:=max d.bd (s+1)},⟨b.log.aw b.cF.1 F,?_,λa M=>?_,b.gi,b.dT,λe m hd=>?_,by have:=b.cF;refine⟨this.1,this.2.1,?_,?_⟩<;>simp only[]<;>omega⟩,⟨rfl,rfl,A0 _,.inl ⟨L,rfl⟩⟩⟩
  ·have:=b.note.put (G:=G) (fH:=max d.bd (s+1)) (s:=s) (v:= []) ⟨B.1,by omega⟩ (by omega) (λa j k z=>H a j k z) (S.imp (λb=>⟨b,rfl⟩) λb=>b) (by omega);have f:(Kg (λa=>(d.N a).map EG) s [])=λa=>(d.N a).map EG:=by
    funext a
    grind [EM,GN]
   rw[f] at this;exact this
  ·rw[L] at M;obtain⟨w,Y⟩:=b.cW a M
   grind
  ·exact b.dA e (I e (λa f=>by grind [UD]) m) hd
 split at u
 ·exact K (.inl u)
 ·rcases h with h|h
  ·exact K (.inr ⟨_,u,h⟩)
  ·exact⟨_,ALR b B N D F H (λa o=>⟨O a _ (y a o).1 (y a o).2,(y a o).2⟩) (λe w _ m=>I e w m) ⟨_,u,h⟩,AOf D⟩
theorem AI1 {e G:bT}{b:Bz}{s:Nat}{x:Nt}{T:Nat->List Pr}(k:BH e (addN b s x T))(o: ∀a,s<a->b.N a= [])(l:e (aD nn s)≠none)(m: ∀d,G d=e d\/(G d=none/\ ∃a,a<s/\a<=99999999/\d=aD nn a)): ∃c,BH G c/\Ar c=x/\c.T=T/\c.L=b.L/\c.aS=b.aS/\c.bd=max b.bd (s+1):=by
 have f:(addN b s x T).N s= [x]:=by show Kg b.N s [x] s=_;rw[EM]
 have g: ∀a,s<a->(addN b s x T).N a= []:=λa p=>by show Kg b.N s [x] a=_;grind [GN]
 have h:s<(addN b s x T).bd:=by show s<max b.bd (s+1);omega
 have i:G (aD nn s)≠none:=by
  rcases m (aD nn s) with j|⟨_,a,j,_,n⟩
  ·rw[j];exact l
  ·have:=Iz n;omega
 refine⟨pJ (addN b s x T) G,APv k f g h i (λa q=>?_) λd r=>?_,ADm f g h i,rfl,rfl,rfl,rfl⟩
 ·grind
 grind
end Go.Lf.G
namespace Go.Lf
open Go
variable {α : Type} {E : cL α} {A : ak} {P : Q1}
def jt(a:Array J0):Nat->List J0->Array J0
 |_,[]=>a
 |o,v::b=>jt (a.setIfInBounds o v) (o+1) b
theorem Ji: ∀(c:List J0) (a:Array J0) (b:Nat),(jt a b c).size=a.size
 | [],_,_=>rfl
 |v::d,a,b=>by unfold jt;rw[Ji d];simp
theorem RI: ∀(c:List J0) (b:Array J0) (a:Nat),a+c.length<=b.size->(jt b a c).toList=b.toList.take a++c++b.toList.drop (a+c.length)
 | [],b,a,e=>by simp[jt]
 |v::d,b,a,e=>by
  have f:b.size=b.toList.length:=by simp
  simp only[A6] at e;unfold jt;rw[RI d _ (a+1) (by simp;omega)];rw[DS,Ax,List.take_set_of_le (A0 _),HN (by omega),ZS (by omega)];simp only[Ds,A4,N2,A6,DO,CT];rw[show a+1+d.length=a+(d.length+1) by omega]
theorem dR {A:ak}: ∀(h:List J0) (c:Nat) {d:aa} {n b:Nat} {f:Array J0} {T:Q7},d[b]? =some (.cells f T (0,0))-> ∃e,(A.at d n).setCells b c h=A.at e n/\e[b]? =some (.cells (jt f c h) T (0,0))/\Mod (· =b) d e/\e.size=d.size
 | [],c,d,n,b,f,T,g=>⟨d,rfl,g,Mod.refl,rfl⟩
 |v::i,c,d,n,b,f,T,g=>by
  have j:(dx d ⟨b,c,none⟩ v)[b]? =some (.cells (f.setIfInBounds c v) T (0,0)):=wg g;obtain⟨e,k,l,m,o⟩:=dR (A:=A) i (c+1) (n:=n) j;refine⟨e,?_,l,(Mod.set (S:=(· =b)) (a:=⟨b,c,none⟩) rfl).trans m,by rw[o,ra]⟩;show((A.at d n).setCell ⟨b,c,none⟩ v).setCells b (c+1) i=_;rw[<- k];rfl
theorem APa {t h j T:Q7}{i:TypeInfo}{f:J0}(n:P.underlying t=some (.slice T))(o:P.underlying h=some (.int J9))(q:P.info? T=some i)(r:i.zero=some f)(D:i.size=1)(s:f.cells= #[f]){a:aa}{p:Q2}{cap b:Nat}{K:Sl->aa->Prop}
  (u:0<b) (F:cap<b) (w:b*i.bytes<=140737488355328) (k:b<=maxLen) (G:0<i.bytes)
  (x: ∀e c l,e[a.size]? =some (.cells l T (0,0))->l.size=c->b<=c->c<=maxLen->Ext a e->e.size=a.size+1->K ⟨some ⟨a.size,0,none⟩,b,c⟩ e):
  BK A P (Builtin.append_ #[t,h] j #[.slice p 0 cap,.int J9 (b:Int)]) a λv e=> ∃g:Sl,v= .slice g.p g.len g.cap/\K g e:=by
 intro d;have y:(Builtin.firstCells i.size 0 (.slice p 0 cap)).run P (A.at a d).drew= .ok ([]:List J0).toArray (A.at a d).drew:=by cases p<;>simp[Builtin.firstCells,loadCells,loadCellsFrom]
 have z:Builtin.nextslicecap (0+b) cap*i.bytes<=281474976710656:=by rw[AI];exact growslice_fits (by omega) w
 have m:=Lib.run_append_grow_zeros (A.at a d) t h j T i f J9 J9 n o q r p 0 cap [] y b u (by omega) (by omega) (by simp only[maxLen] at k;omega) (by omega) z;simp only[AI] at m;have B:=grownCap_ge (A.at a d) b cap T;have C:=grownCap_le_maxLen (A.at a d) b cap T k;generalize grownCap (A.at a d) b cap T=c at*
 refine⟨_,_,d+1,m,⟨some ⟨a.size,0,none⟩,b,c⟩,rfl,x _ c _ (P4 ..) ?_ B C (Mod.push a _) (by show(a.push _).size=a.size+1;simp)⟩;simp[Builtin.zeroCells,s];omega
theorem p8 {t k T:Q7}(q:P.underlying t=some (.slice T))(r:(P.info? T).map (·.size)=some 1){d:aa}{b e g l h m:Nat}{a:Q6}{i:Array J0}{vs:List J0}{K:Int->aa->Prop}
  (j:d[b]? =some (.cells i T (0,0))) (s:vs.length=min h g) (u: ∀f v,vs[f]? =some v->ah d (a.add f)=some v) (G:e+vs.length<=i.size) (w: ∀v∈vs,NW v=true)
  (x: ∀c,c[b]? =some (.cells (jt i e vs) T (0,0))->Mod (· =b) d c->c.size=d.size->K (vs.length:Int) c):
  BK A P (Builtin.copy_ #[t,t] k #[.slice (some ⟨b,e,none⟩) g l,.slice (some a) h m]) d λv c=> ∃o:Int,v= .int J9 o/\K o c:=by
 intro n;have p:=run_copy_cells (P:=P) (A.at d n) t t k T b e g l a h m vs q r s u
  (λf y=>by
   show(ah d ⟨b,e+f,none⟩).isSome=true;rw[KZ j,Ft (by omega)];rfl)
  (λf y=>TE j) (λv z=>wm (w v z))
 obtain⟨c,B,C,D,F⟩:=dR (A:=A) vs e (n:=n) j;rw[B] at p;exact⟨_,c,n,p,_,rfl,x c C D F⟩
def p9(A:ak)(P:Q1)(t b:Q7)(h fr:Q8)(s:Sl)(i:Int)(v:Sl)(e:aa)(d:A2H):Prop:=
 aN ((0:Int)<=i/\i<=((s.len:Nat):Int))<|
 af (((v.len:Nat):Int)==(0:Int)) (
  d (.slice s.p s.len s.cap) e) (
  af (i==((s.len:Nat):Int)) (
   BK A P (Builtin.append_ #[t,t] t #[.slice s.p s.len s.cap,.slice v.p v.len v.cap]) e λv1 j=> ∃c:Sl,v1= .slice c.p c.len c.cap/\(
   d (.slice c.p c.len c.cap) j)) (
   af (decide ((J8 J9 (((s.len:Nat):Int)+((v.len:Nat):Int)))>((s.cap:Nat):Int))) (
    aN ((0:Int)<=i/\i<=((s.cap:Nat):Int))<|
    BK A P (Builtin.append_ #[t,b] t #[.slice (BI s.p s.cap 0 1) (i.toNat-0) (s.cap-0),.int J9 (J8 J9 ((J8 J9 (((s.len:Nat):Int)+((v.len:Nat):Int)))-i))]) e λv2 k=> ∃a:Sl,v2= .slice a.p a.len a.cap/\(
    aN ((0:Int)<=i/\i<=((a.len:Nat):Int))<|
    BK A P (Builtin.copy_ #[t,t] b #[.slice (BI a.p a.cap i.toNat 1) (a.len-i.toNat) (a.cap-i.toNat),.slice v.p v.len v.cap]) k λl m=> ∃n:Int,l= .int J9 n/\(
    aN ((0:Int)<=(J8 J9 (i+((v.len:Nat):Int)))/\(J8 J9 (i+((v.len:Nat):Int)))<=((a.len:Nat):Int))<|
    aN ((0:Int)<=i/\i<=((s.len:Nat):Int))<|
    BK A P (Builtin.copy_ #[t,t] b #[.slice (BI a.p a.cap ((J8 J9 (i+((v.len:Nat):Int))).toNat) 1) (a.len-((J8 J9 (i+((v.len:Nat):Int))).toNat)) (a.cap-((J8 J9 (i+((v.len:Nat):Int))).toNat)),.slice (BI s.p s.cap i.toNat 1) (s.len-i.toNat) (s.cap-i.toNat)]) m λo p=> ∃q:Int,o= .int J9 q/\(
    d (.slice a.p a.len a.cap) p)))) (
    aN ((0:Int)<=(J8 J9 (((s.len:Nat):Int)+((v.len:Nat):Int)))/\(J8 J9 (((s.len:Nat):Int)+((v.len:Nat):Int)))<=((s.cap:Nat):Int))<|
    aN ((0:Int)<=(J8 J9 (i+((v.len:Nat):Int)))/\(J8 J9 (i+((v.len:Nat):Int)))<=(((((J8 J9 (((s.len:Nat):Int)+((v.len:Nat):Int))).toNat)-0):Nat):Int))<|
    oE A P h #[.slice v.p v.len v.cap,.slice (BI (BI s.p s.cap 0 1) (s.cap-0) ((J8 J9 (i+((v.len:Nat):Int))).toNat) 1) ((((J8 J9 (((s.len:Nat):Int)+((v.len:Nat):Int))).toNat)-0)-((J8 J9 (i+((v.len:Nat):Int))).toNat)) ((s.cap-0)-((J8 J9 (i+((v.len:Nat):Int))).toNat))] e λr f=> ∃g:Bool,r= .bool g/\(
    af (!g) (
     aN ((0:Int)<=(J8 J9 (i+((v.len:Nat):Int)))/\(J8 J9 (i+((v.len:Nat):Int)))<=(((((J8 J9 (((s.len:Nat):Int)+((v.len:Nat):Int))).toNat)-0):Nat):Int))<|
     aN ((0:Int)<=i/\i<=(((((J8 J9 (((s.len:Nat):Int)+((v.len:Nat):Int))).toNat)-0):Nat):Int))<|
     BK A P (Builtin.copy_ #[t,t] b #[.slice (BI (BI s.p s.cap 0 1) (s.cap-0) ((J8 J9 (i+((v.len:Nat):Int))).toNat) 1) ((((J8 J9 (((s.len:Nat):Int)+((v.len:Nat):Int))).toNat)-0)-((J8 J9 (i+((v.len:Nat):Int))).toNat)) ((s.cap-0)-((J8 J9 (i+((v.len:Nat):Int))).toNat)),.slice (BI (BI s.p s.cap 0 1) (s.cap-0) i.toNat 1) ((((J8 J9 (((s.len:Nat):Int)+((v.len:Nat):Int))).toNat)-0)-i.toNat) ((s.cap-0)-i.toNat)]) f λu w=> ∃x:Int,u= .int J9 x/\(
     aN ((0:Int)<=i/\i<=(((((J8 J9 (((s.len:Nat):Int)+((v.len:Nat):Int))).toNat)-0):Nat):Int))<|
     BK A P (Builtin.copy_ #[t,t] b #[.slice (BI (BI s.p s.cap 0 1) (s.cap-0) i.toNat 1) ((((J8 J9 (((s.len:Nat):Int)+((v.len:Nat):Int))).toNat)-0)-i.toNat) ((s.cap-0)-i.toNat),.slice v.p v.len v.cap]) w λy z=> ∃B:Int,y= .int J9 B/\(
     d (.slice (BI s.p s.cap 0 1) (((J8 J9 (((s.len:Nat):Int)+((v.len:Nat):Int))).toNat)-0) (s.cap-0)) z))) (
     aN ((0:Int)<=((s.len:Nat):Int)/\((s.len:Nat):Int)<=(((((J8 J9 (((s.len:Nat):Int)+((v.len:Nat):Int))).toNat)-0):Nat):Int))<|
     BK A P (Builtin.copy_ #[t,t] b #[.slice (BI (BI s.p s.cap 0 1) (s.cap-0) (((s.len:Nat):Int).toNat) 1) ((((J8 J9 (((s.len:Nat):Int)+((v.len:Nat):Int))).toNat)-0)-(((s.len:Nat):Int).toNat)) ((s.cap-0)-(((s.len:Nat):Int).toNat)),.slice v.p v.len v.cap]) f λC D=> ∃F:Int,C= .int J9 F/\(
     aN ((0:Int)<=i/\i<=(((((J8 J9 (((s.len:Nat):Int)+((v.len:Nat):Int))).toNat)-0):Nat):Int))<|
     AA A P fr #[.slice (BI (BI s.p s.cap 0 1) (s.cap-0) i.toNat 1) ((((J8 J9 (((s.len:Nat):Int)+((v.len:Nat):Int))).toNat)-0)-i.toNat) ((s.cap-0)-i.toNat),.int J9 ((v.len:Nat):Int)] D λG H=>G= .tuple #[]/\(
     d (.slice (BI s.p s.cap 0 1) (((J8 J9 (((s.len:Nat):Int)+((v.len:Nat):Int))).toNat)-0) (s.cap-0)) H)))))))
theorem XK {e:aa}{b:Nat}{f:Array J0}{T:Q7}{fr:Nat×Nat}(h:e[b]? =some (.cells f T fr)){a:List J0}{g:Nat}(i:(f.toList.drop g).take a.length=a): ∀c v,a[c]? =some v->ah e ((⟨b,g,none⟩:Q6).add c)=some v:=λc v d=>by
 rw[Bq,KZ h];have j:=(List.getElem?_eq_some_iff.1 d).1;rw[<- i,Fm,if_pos j,C5] at d;simpa using d
theorem y7 {t ag T ai:Q7}{aj fr:Q8}{G:J0}{H:Nat}(ak:Ra P t T 1 H=true)(k:E.w=1)(aE:P.underlying ag=some (.int J9))(I:(P.info? T).bind (·.zero)=some G)(aF:G.cells= #[G])(hB:0<H)
  (aG: ∀args J,(callFunc aj args).run P J=((Extern.SlicesOverlaps.overlaps #[t,t] #[ai] args).run P J).andThen λv aH=> .ok (.value v) aH)
  {a:aa} {s:Sl} {l:List α} {x:α} {e:J0} {f:Nat} (S:Own E T a s l) (K:E.enc x= [e]) (o:a[f]? =some (.cells #[e] T (0,0))) (aI:s.ag≠some f) (al:l.length+1<=maxLen) (am:(l.length+1)*H<=140737488355328) {an:A2H}
  (U: ∀m r,Own E T r m (x::l)->Mod (λb=>s.ag=some b) a r->(∀ b,m.ag=some b->s.ag=some b\/a.size<=b)->an (.slice m.p m.len m.cap) r):
  p9 A P t ag aj fr s (0:Int) ⟨some ⟨f,0,none⟩,1,1⟩ a an:=by
 unfold p9;have V:=S.len;have bk:maxLen<=9223372036854775807:=by simp[maxLen]
 obtain⟨q,i,z,w,ao,W,aJ,bm⟩:=wh ak;have aK:z=G:=by rw[w] at I;simp only[P2] at I;rw[ao] at I;exact Bm I
 subst aK;have ap:NW e=true:=E.one x e (by rw[K];simp);have bn:=Ag o;refine⟨⟨GC _,by omega⟩,af.no rfl ?_⟩;refine af.intro (λy=>?_) (λy=>?_)
 ·have y:l= []:=by
   have:(0:Int)=((s.len:Nat):Int):=by simpa using y
   exact DA (by omega)
  subst y;have aL:View E a ⟨some ⟨f,0,none⟩,1,1⟩ [x]:=⟨rfl,A0 _,λj aq n=>⟨_,rfl,λaM u L=>by
   have aN:j=0:=by have:=(List.getElem?_eq_some_iff.1 n).1;simpa using this
   subst aN;simp only[HA,BT] at n;subst n;rw[K] at L;have aO:aM=0:=by have:=(List.getElem?_eq_some_iff.1 L).1;simpa using this
   subst aO;simp only[HA,BT] at L;subst L;rw[HT,Bq,Bq];exact AL o rfl⟩⟩
  have aP:Ra P t T E.w H=true:=by rw[k];exact ak
  exact GK (s:=s) (src:=⟨some ⟨f,0,none⟩,1,1⟩) aP S aL (by simpa using am) (by simpa using al) λm r aQ aR aS _=>U m r aQ aR aS
 ·have aT:0<l.length:=by
   have: ¬(0:Int)=((s.len:Nat):Int):=by simpa using y
   omega
  rcases S.row with⟨rfl,rfl⟩|⟨g,M,B,C,bo,aV,N,X⟩
  ·simp at aT
  ·rw[k,Bs] at N X;have d:(l.flatMap E.enc).length=l.length:=by rw[Kz,k,Bs]
   have ar: ∀v∈l.flatMap E.enc,NW v=true:=λv D=>by
    obtain⟨aq,_,aW⟩:=List.mem_flatMap.1 D;exact E.one aq v aW
   have au:g≠f:=λh=>aI (by rw[Sl.ag,B,h];rfl)
   have bp:=Ag C;have aX:J8 J9 (((s.len:Nat):Int)+(((1:Nat)):Int))=((l.length+1:Nat):Int):=by rw[V];exact Aa (by omega)
   have aY:J8 J9 ((0:Int)+(((1:Nat)):Int))=((1:Nat):Int):=by decide
   have aZ:J8 J9 (((l.length+1:Nat):Int)-(0:Int))=((l.length+1:Nat):Int):=by rw[Int.sub_zero];exact El (by omega)
   have O:(P.info? T).map (·.size)=some 1:=by rw[w];simp[W]
   dsimp only;rw[aX,aY,aZ];have a0:((1:Nat):Int).toNat=1:=rfl;have a1:(0:Int).toNat=0:=rfl;have a2:((l.length+1:Nat):Int).toNat=l.length+1:=by omega
   rw[a0,a1,a2];have av: ∀j v,[e][j]? =some v->ah a ((⟨f,0,none⟩:Q6).add j)=some v:=XK o (by simp);refine af.intro (λY=>?_) (λY=>?_)
   ·have Z:s.cap<l.length+1:=by
     have:((s.cap:Nat):Int)<((l.length+1:Nat):Int):=by simpa using Y
     omega
    refine⟨⟨GC _,by omega⟩,?_⟩;refine APa (p:=BI s.p s.cap 0 1) (cap:=s.cap) q aE w ao W aF (by omega) Z (by rw[aJ];exact am) al (by omega) λbq c aw a3 ax a4 a5 ab br=>⟨⟨GC _,by dsimp only;omega⟩,?_⟩
    have a6:BI (some (⟨a.size,0,none⟩:Q6)) c 0 1=some ⟨a.size,0,none⟩:=by unfold BI;rw[if_neg (by omega)];rfl
    have a7:BI (some (⟨a.size,0,none⟩:Q6)) c 1 1=some ⟨a.size,1,none⟩:=by unfold BI;rw[if_neg (by omega)];rfl
    dsimp only;rw[a6];refine p8 (vs:= [e]) q O a3 (by simp) (λj v n=>ab.ah (av j v n)) (by simp;omega) (λv D=>by rw[List.mem_singleton.1 D];exact ap) λa8 a9 ay bs=>⟨⟨by omega,by omega⟩,⟨GC _,by omega⟩,?_⟩
    rw[a7,B];have Q:BI (some (⟨g,0,none⟩:Q6)) s.cap 0 1=some ⟨g,0,none⟩:=by unfold BI;rw[if_neg (by omega)];rfl
    rw[Q];have ba:a8[g]? =some (.cells M T (0,0)):=ay.ag (ab.ag C (λa=>a)) (by omega);refine p8 (vs:=l.flatMap E.enc) q O a9 (by rw[d];omega) (XK ba (by rw[d,HM,<-V];exact X)) (by rw[Ji,d];omega) ar λaz ac R bb=>?_
    refine U ⟨some ⟨a.size,0,none⟩,l.length+1,c⟩ az ⟨rfl,.inr ⟨a.size,_,rfl,ac,a4,a5,by rw[Ji,Ji,k,Bs];exact ax,?_⟩⟩ ?_ (λb F=> .inr (by simp[Sl.ag] at F;omega))
    ·rw[RI _ _ _ (by rw[Ji,d];omega),RI _ _ _ (by simp;omega)];rw[k,Bs,AH,K];have bc:aw.toList.length=c:=by simp[ax]
     simp only[N3,CT,CN];have bd:(([e]++aw.toList.drop (0+1)).take 1)= [e]:=by simp
     rw[bd,N4 (by simp[d])];rw[AE (by simp[d])]
    ·refine((Ext.mod ab).trans ((ay.trans R).aj (S':=λb=>s.ag=some b\/b=a.size) λc aA h=> .inr h)) |> λaC=>?_
     exact⟨aC.size,λb F be=>aC.get b F (λbf=>bf.elim be (by omega))⟩
   ·have Z:l.length+1<=s.cap:=by
     have: ¬((s.cap:Nat):Int)<((l.length+1:Nat):Int):=by simpa using Y
     omega
    have Q: ∀c,0<c->BI (some (⟨g,0,none⟩:Q6)) c 0 1=some ⟨g,0,none⟩:=λc aA=>by
     unfold BI;rw[if_neg (by omega)];rfl
    have bg: ∀c,1<c->BI (some (⟨g,0,none⟩:Q6)) c 1 1=some ⟨g,1,none⟩:=λc aA=>by
     unfold BI;rw[if_neg (by omega)];rfl
    refine⟨⟨by omega,by omega⟩,⟨by omega,by omega⟩,?_⟩;rw[B,Q _ (by omega),JT,JT,JT,Q _ (by omega),bg _ (by omega)];intro aD;refine⟨.bool false,a,aD,?_,false,rfl,af.yes rfl ⟨⟨by omega,by omega⟩,⟨GC _,by omega⟩,?_⟩⟩
    ·rw[aG,Lib.run_overlaps_apart (A.at a aD) t ai T q 1 (λJ=>by rw[Go.run_sizeOf J w];simp[Program.cellsOf,w,W]) ⟨f,0,none⟩ ⟨g,1,none⟩ 1 1 _ _ (λh=>au h.symm) T T 1 s.cap
      (by show(match a[f]? with|some (.cells c ae _)=>some (ae,c.size)|_=>none)=_;rw[o];rfl) (by show(match a[g]? with|some (.cells c ae _)=>some (ae,c.size)|_=>none)=_;rw[C];simp[N]) (by omega) (TE o) (TE o)]
     rfl
    ·refine p8 (vs:=l.flatMap E.enc) q O C (by rw[d];omega) (XK C (by rw[d,HM,<-V];exact X)) (by rw[d];omega) ar λaz ac R bb=>⟨⟨GC _,by omega⟩,?_⟩
     refine p8 (vs:= [e]) q O ac (by simp) (λj v n=>R.ah (av j v n) (by rw[aU];exact λh=>au h.symm)) (by rw[Ji];simp;omega) (λv D=>by rw[List.mem_singleton.1 D];exact ap) λbh bi bj bt=>?_
     refine U ⟨some ⟨g,0,none⟩,l.length+1,s.cap⟩ bh ⟨rfl,.inr ⟨g,_,rfl,bi,Z,aV,by rw[Ji,Ji,k,Bs];exact N,?_⟩⟩ ((R.trans bj).aj λb _ h=>by rw[Sl.ag,B,h];rfl) (λb F=> .inl (by rw[Sl.ag,B];exact F));rw[RI _ _ _ (by rw[Ji];simp;omega),RI _ _ _ (by rw[d];omega)];rw[k,Bs,AH,K];have bc:M.toList.length=s.cap:=by simp[N]
     have bu:(M.toList.take 1).length=1:=by simp;omega
     simp only[N3,CT,CN,AI];rw[A4 (M.toList.take 1),A0n (by omega),I0 (by omega),CT];rw[<- A4,N4 (by simp[d])];rw[AE (by simp[d])]
end Go.Lf
namespace Go.Lf.G
open Go
def gb:cL Nat where
 enc t:= [Ak t]
 w:=1
 len _:=rfl
 pos:=by omega
 one x v a:=by simp at a;subst a;rfl
theorem Cells.pt {b:aa}{a:Q6}{x:Nat}(c:Cells b a (gb.enc x)):ah b a=some (Ak x):=by have d:=c 0 _ rfl;rwa [add_zero] at d
theorem wU:Ra P Au BJ gb.w 8=true:=by kernel_rfl
theorem ovT(args:Array J0)(a:World):(callFunc EX args).run P a=((Extern.SlicesOverlaps.overlaps #[Au,Au] #[rp] args).run P a).andThen λv b=> .ok (.value v) b:=
 run_callFunc_extern (fn:=Proofs.Tryz.f231) Proofs.Tryz.func231 (by kernel_rfl) (by kernel_rfl) (by kernel_rfl) (by kernel_rfl) args a
theorem ovI(args:Array J0)(a:World):(callFunc Gr args).run P a=((Extern.SlicesOverlaps.overlaps #[Cj,Cj] #[rp] args).run P a).andThen λv b=> .ok (.value v) b:=
 run_callFunc_extern (fn:=Proofs.Tryz.f233) Proofs.Tryz.func233 (by kernel_rfl) (by kernel_rfl) (by kernel_rfl) (by kernel_rfl) args a
theorem ATv:(P.info? BJ).bind (·.zero)=some (J5 none):=by kernel_rfl
theorem AUD:(P.info? Bp).bind (·.zero)=some (J6 J9 0):=by kernel_rfl
theorem wV:P.underlying Bp=some (.int J9):=by kernel_rfl
theorem ASL(a:ak)(s v:Sl)(i:Int)(b:aa)(c:A2H):Dw a s i v b c=p9 a P Au Bp EX Fj s i v b c:=rfl
theorem AS8(a:ak)(s v:Sl)(i:Int)(b:aa)(c:A2H):IY a s i v b c=p9 a P Cj Bp Gr I8 s i v b c:=rfl
theorem rA {g:ak}{a:aa}{s:Sl}{l:List Nat}{x d:Nat}{f:A2H}(h:Own gb BJ a s l)(i:a[d]? =some (J2 #[Ak x] BJ (0,0)))(j:s.ag≠some d)(m:l.length<=1000000)
  (k: ∀c e,Own gb BJ e c (x::l)->Mod (λb=>s.ag=some b) a e->(∀ b,c.ag=some b->s.ag=some b\/a.size<=b)->f (J4 c.p c.len c.cap) e):
  AA g P BM #[J4 s.p s.len s.cap,J6 J9 0,J4 (some (⟨d,0,none⟩:Q6)) 1 1] a f:=by
 refine Gh (v:=⟨some ⟨d,0,none⟩,1,1⟩) ?_;rw[ASL];exact y7 wU rfl wV ATv rfl (by decide) ovT h rfl i j (by simp[maxLen];omega) (by omega) k
theorem rB {g:ak}{a:aa}{s:Sl}{l:List Int}{x:Int}{d:Nat}{f:A2H}(h:Own GV Bp a s l)(i:a[d]? =some (J2 #[J6 J9 x] Bp (0,0)))(j:s.ag≠some d)(m:l.length<=1000000)
  (k: ∀c e,Own GV Bp e c (x::l)->Mod (λb=>s.ag=some b) a e->(∀ b,c.ag=some b->s.ag=some b\/a.size<=b)->f (J4 c.p c.len c.cap) e):
  AA g P DF #[J4 s.p s.len s.cap,J6 J9 0,J4 (some (⟨d,0,none⟩:Q6)) 1 1] a f:=by
 refine NN (v:=⟨some ⟨d,0,none⟩,1,1⟩) ?_;rw[AS8];exact y7 sI rfl wV AUD rfl (by decide) ovI h rfl i j (by simp[maxLen];omega) (by omega) k
structure Db where
 fr:List Pr
 ts:List (Nat×List Pr)
 next:Nat
 aZ:Nat
 az:Nat
 aM:Nat
 bB:Bool
structure Hp where
 d:Nat
 b:Nat
 lg:Nat
 nt:Nat
 ft:Nat
 Sb:Nat->Prop
 ns:List M.DR
 tp:Sl
 np:Sl
 ps:List Nat
abbrev eT(q:Hp)(st:Db)(down:Bool):Array J0:= #[Ak q.b,Ak q.lg,Ak q.nt,Ak q.ft,J4 q.tp.p q.tp.len q.tp.cap,J4 q.np.p q.np.len q.np.cap,J6 J9 (st.next:Int),J6 J9 (st.aZ:Int),J3 down]
abbrev eV(st:Db):List Int:=st.ts.map λp=>(p.1:Int)
def nE(h:aa)(k:Nat->Nat)(t:Nat)(l:List Pr):Prop:= ∃b a,bW h t l (NJ l) b a/\a<=h.size/\(∀ c,b<=c->c<a->k c=8)/\Hg l
structure bQ (g h:aa) (q:Hp) (k:Nat->Nat) (st:Db) (m:Bx):Prop where
 cell:h[q.d]? =some (J2 (eT q st false) FW (0,0))
 box:Bl h q.b q.Sb m
 log:Eg h q.lg q.b nl st.az st.bB
 dT:Eg h q.nt q.b nn st.aM false
 fresh:M.dt h q.ft q.ns st.fr
 cy:Own gb BJ h q.tp q.ps
 dw:q.ps.length=st.ts.length
 cW: ∀(i:Nat) (t:Nat) (p:Nat×List Pr),q.ps[i]? =some t->st.ts[i]? =some p->nE h k t p.2
 names:Own GV Bp h q.np (eV st)
 kd:k q.d=1
 kb: ∀c,q.Sb c->k c=2
 kl:k q.lg=3
 kn:k q.nt=4
 kf: ∀c,M.dk q.ft q.ns c->k c=5
 kt: ∀c,q.tp.ag=some c->k c=6
 kx: ∀c,q.np.ag=some c->k c=7
 own: ∀c,k c≠0->g.size<=c/\c<h.size
 ext:Ext g h
theorem Tv {b:Type}{d:cL b}{T:Q7}{h:aa}{s:Sl}{l:List b}(e:Own d T h s l){c:Nat}(a:s.ag=some c):c<h.size:=by
 rcases e.row with⟨rfl,_⟩|⟨g,j,f,i,_⟩
 ·simp[Sl.ag] at a
 ·rw[Sl.ag,f] at a;have:g=c:=by simpa using a
  subst this;exact Ag i
theorem nE.mod {h h':aa}{k a:Nat->Nat}{t:Nat}{l:List Pr}{b:Nat->Prop}(T:nE h k t l)(x:Mod b h h')(e: ∀c,k c=8-> ¬b c)(f: ∀c,c<h.size->a c=k c):nE h' a t l:=by obtain⟨i,j,n,o,d,p⟩:=T;exact⟨i,j,n.mod x λc c1 c2=>e c (d c c1 c2),As o x.size,λc c1 c2=>by rw[f c (by omega)];exact d c c1 c2,p⟩
structure DbR (C:Nat->Prop) (g h h':aa) (q:Hp) (k:Nat->Nat) (st:Db) (m:Bx):Prop where
 ext:Ext g h'
 size:h.size<=h'.size
 cell: ¬C 1->h'[q.d]? =some (J2 (eT q st false) FW (0,0))
 box: ¬C 2->Bl h' q.b q.Sb m
 log: ¬C 3->Eg h' q.lg q.b nl st.az st.bB
 dT: ¬C 4->Eg h' q.nt q.b nn st.aM false
 fresh: ¬C 5->M.dt h' q.ft q.ns st.fr
 cy: ¬C 6->Own gb BJ h' q.tp q.ps
 names: ¬C 7->Own GV Bp h' q.np (eV st)
 cW: ¬C 8-> ∀k',(∀ c,c<h.size->k' c=k c)-> ∀(i:Nat) (t:Nat) (p:Nat×List Pr),q.ps[i]? =some t->st.ts[i]? =some p->nE h' k' t p.2
theorem bQ.rest {C:Nat->Prop}{g h h':aa}{q:Hp}{k:Nat->Nat}{st:Db}{m:Bx}(a:bQ g h q k st m)(x:Mod (λc=>C (k c)) h h')(f: ¬C 0):DbR C g h h' q k st m:=by
 refine⟨⟨As a.ext.size x.size,λc d _=>?_⟩,x.size,λb=>x.ag a.cell (by rw[a.kd];exact b),λb=>a.box.mod x λc d=>by rw[a.kb c d];exact b,λb=>a.log.mod x (by rw[a.kl];exact b),λb=>a.dT.mod x (by rw[a.kn];exact b),
  λb=>a.fresh.mod x λc d=>by rw[a.kf c d];exact b,λb=>a.cy.mod x λc d=>by rw[a.kt c d];exact b,λb=>a.names.mod x λc d=>by rw[a.kx c d];exact b,
  λb n e i t p j l=>(a.cW i t p j l).mod x (λc d=>by rw[d];exact b) e⟩
 have e:k c=0:=Decidable.byContradiction λh=>by have:=(a.own c h).1;omega
 exact(x.get c (F0 d a.ext.size) (by rw[e];exact f)).trans (a.ext.get c d (λh=>h))
section
variable {g h h' : aa} {q : Hp} {k : Nat -> Nat} {st : Db} {m : Bx}
theorem bQ.iB(a:bQ g h q k st m):q.d<h.size:=Ag a.cell
theorem bQ.pU(a:bQ g h q k st m):q.lg<h.size:=Ag a.log
theorem bQ.pV(a:bQ g h q k st m):q.nt<h.size:=Ag a.dT
theorem bQ.mf(a:bQ g h q k st m): ¬q.Sb q.lg:=λb=>by have:=a.kb _ b;rw[a.kl] at this;cases this
theorem bQ.tN(a:bQ g h q k st m): ¬q.Sb q.nt:=λb=>by have:=a.kb _ b;rw[a.kn] at this;cases this
theorem bQ.nP(a:bQ g h q k st m): ¬q.Sb q.d:=λb=>by have:=a.kb _ b;rw[a.kd] at this;cases this
theorem bQ.dl(a:bQ g h q k st m):q.d≠q.lg:=λb=>by have:=a.kd;rw[b,a.kl] at this;cases this
theorem bQ.dn(a:bQ g h q k st m):q.d≠q.nt:=λb=>by have:=a.kd;rw[b,a.kn] at this;cases this
theorem bQ.on(a:bQ g h q k st m)(x:Ext h h'):bQ g h' q k st m:=by
 have b:=a.rest (C:=λ_=>False) x (λh=>h);exact⟨b.cell λh=>h,b.box λh=>h,b.log λh=>h,b.dT λh=>h,b.fresh λh=>h,b.cy λh=>h,a.dw,b.cW (λh=>h) k (λ_ _=>rfl),b.names λh=>h,a.kd,a.kb,a.kl,a.kn,a.kf,a.kt,a.kx,
  λc d=>⟨(a.own c d).1,F0 (a.own c d).2 x.size⟩,b.ext⟩
theorem bQ.beside {e:Nat->Prop}(a:bQ g h q k st m)(x:Mod e h h')(f: ∀c,e c->k c=0/\g.size<=c):bQ g h' q k st m:=by
 have j:Ext g h':=⟨As a.ext.size x.size,λc b _=>(x.get c (F0 b a.ext.size) λh=>by have:=(f c h).2;omega).trans (a.ext.get c b (λh=>h))⟩;have d: ∀ {c},k c≠0-> ¬e c:=λb l=>b (f _ l).1
 exact⟨x.ag a.cell (d (by rw[a.kd];decide)),a.box.mod x λc b=>d (by rw[a.kb c b];decide),a.log.mod x (d (by rw[a.kl];decide)),a.dT.mod x (d (by rw[a.kn];decide)),a.fresh.mod x λc b=>d (by rw[a.kf c b];decide),
  a.cy.mod x λc b=>d (by rw[a.kt c b];decide),a.dw,λi t p n o=>(a.cW i t p n o).mod x (λc b=>d (by rw[b];decide)) (λ_ _=>rfl),a.names.mod x λc b=>d (by rw[a.kx c b];decide),a.kd,a.kb,a.kl,a.kn,a.kf,a.kt,a.kx,
  λc b=>⟨(a.own c b).1,F0 (a.own c b).2 x.size⟩,j⟩
open Classical in
noncomputable def IZ (k:Nat->Nat) (a:Nat) (b:Nat->Prop) (d:Nat):Nat->Nat:=λc=>if c<a then k c else if b c then d else 0
theorem Ga {a b c:Nat}{d:Nat->Prop}(e:c<a):IZ k a d b c=k c:=by unfold IZ;rw[if_pos e]
theorem tc {a b c:Nat}{d:Nat->Prop}(f:a<=c)(e:d c):IZ k a d b c=b:=by unfold IZ;rw[if_neg (by omega),if_pos e]
theorem Vy {a b c:Nat}{S:Nat->Prop}(e:a<=c)(d: ¬S c):IZ k a S b c=0:=by unfold IZ;rw[if_neg (by omega),if_neg d]
theorem bQ.boxed(b:bQ g h q k st m){S':Nat->Prop}{p:Bx}{j:Nat}{bH:Db}(r:Bl h' q.b S' p)(x:Mod (λc=>q.Sb c\/(j=3/\c=q.lg)\/(j=4/\c=q.nt)) h h')(s: ∀c,S' c->q.Sb c\/h.size<=c)
  (u:bH.fr=st.fr) (i:bH.ts=st.ts) (v:bH.next=st.next) (w:bH.aZ=st.aZ)
  (l:(j≠3/\bH.az=st.az/\bH.bB=st.bB)\/Eg h' q.lg q.b nl bH.az bH.bB) (y:(j≠4/\bH.aM=st.aM)\/Eg h' q.nt q.b nn bH.aM false):
  bQ g h' {q with Sb:=S'} (IZ k h.size S' 2) bH p:=by
 have e:=b.rest (C:=λc=>c=2\/(j=3/\c=3)\/(j=4/\c=4)) (h':=h') (x.aj λc _ a=>by
  rcases a with a|⟨d,rfl⟩|⟨d,rfl⟩
  ·exact .inl (b.kb c a)
  ·exact .inr (.inl ⟨d,b.kl⟩)
  ·exact .inr (.inr ⟨d,b.kn⟩)) (by rintro(h|⟨_,h⟩|⟨_,h⟩)<;>cases h)
 have f: ∀ {c},c<h.size->IZ k h.size S' 2 c=k c:=λa=>Ga a
 have z:eT {q with Sb:=S'} bH false=eT q st false:=by simp only[eT,v,w]
 refine⟨by rw[z];exact e.cell (by omega),r,?_,?_,by rw[u];exact e.fresh (by omega),e.cy (by omega),by rw[i];exact b.dw,by rw[i];exact e.cW (by omega) _ (λc a=>f a),by rw[eV,i];exact e.names (by omega),
  by rw[f b.iB];exact b.kd,λc a=>?_,by rw[f b.pU];exact b.kl,by rw[f b.pV];exact b.kn,λc a=>by rw[f (b.fresh.lt a)];exact b.kf c a,λc a=>by rw[f (Tv b.cy a)];exact b.kt c a,
  λc a=>by rw[f (Tv b.names a)];exact b.kx c a,λc a=>?_,e.ext⟩
 ·rcases l with⟨d,n,A⟩|d
  ·rw[n,A];exact e.log (by omega)
  ·exact d
 ·rcases y with⟨d,n⟩|d
  ·rw[n];exact e.dT (by omega)
  ·exact d
 ·by_cases o:c<h.size
  ·rw[f o];rcases s c a with d|d
   ·exact b.kb c d
   ·omega
  ·exact tc (by omega) a
 ·by_cases o:c<h.size
  ·rw[f o] at a;exact⟨(b.own c a).1,by have:=e.size;omega⟩
  ·by_cases t:S' c
   ·exact⟨by have:=b.ext.size;omega,r.lt t⟩
   ·exact absurd (Vy (by omega) t) a
theorem bQ.pT(b:bQ g h q k st m){f:List M.DR}{j:List Pr}(T:M.dt h' q.ft f j)(x:Mod (M.dk q.ft q.ns) h h')(s: ∀c,M.dk q.ft f c->M.dk q.ft q.ns c\/h.size<=c):
  bQ g h' {q with ns:=f} (IZ k h.size (M.dk q.ft f) 5) {st with fr:=j} m:=by
 have d:=b.rest (C:=λc=>c=5) (h':=h') (x.aj λc _ a=>b.kf c a) (by decide);have e: ∀ {c},c<h.size->IZ k h.size (M.dk q.ft f) 5 c=k c:=λa=>Ga a
 refine⟨d.cell (by decide),d.box (by decide),d.log (by decide),d.dT (by decide),T,d.cy (by decide),b.dw,d.cW (by decide) _ (λc a=>e a),d.names (by decide),
  by rw[e b.iB];exact b.kd,λc a=>by rw[e (b.box.lt a)];exact b.kb c a,by rw[e b.pU];exact b.kl,by rw[e b.pV];exact b.kn,λc a=>?_,λc a=>by rw[e (Tv b.cy a)];exact b.kt c a,
  λc a=>by rw[e (Tv b.names a)];exact b.kx c a,λc a=>?_,d.ext⟩
 ·by_cases i:c<h.size
  ·rw[e i];rcases s c a with l|l
   ·exact b.kf c l
   ·omega
  ·exact tc (by omega) a
 ·by_cases i:c<h.size
  ·rw[e i] at a;exact⟨(b.own c a).1,by have:=d.size;omega⟩
  ·by_cases n:M.dk q.ft f c
   ·exact⟨by have:=b.ext.size;omega,T.lt n⟩
   ·exact absurd (Vy (by omega) n) a
theorem bQ.renew(b:bQ g h q k st m){gW:Nat}(T:M.dt h' gW [] [])(i:h.size<=gW)(a:h'[q.d]? =some (J2 (eT {q with ft:=gW} st false) FW (0,0)))(x:Mod (λc=>c=q.d) h h'):
  bQ g h' {q with ft:=gW,ns:= []} (IZ k h.size (· =gW) 5) {st with fr:= []} m:=by
 have d:=b.rest (C:=λc=>c=1) (h':=h') (x.aj λc _ a=>by rw[a];exact b.kd) (by decide);have e: ∀ {c},c<h.size->IZ k h.size (· =gW) 5 c=k c:=λa=>Ga a
 have j: ∀c,M.dk gW [] c->c=gW:=λc a=>by
  rcases a with rfl|⟨x,l,_⟩
  ·rfl
  ·cases l
 refine⟨a,d.box (by decide),d.log (by decide),d.dT (by decide),T,d.cy (by decide),b.dw,d.cW (by decide) _ (λc a=>e a),d.names (by decide),
  by rw[e b.iB];exact b.kd,λc a=>by rw[e (b.box.lt a)];exact b.kb c a,by rw[e b.pU];exact b.kl,by rw[e b.pV];exact b.kn,λc a=>by rw[j c a];exact tc i rfl,λc a=>by rw[e (Tv b.cy a)];exact b.kt c a,
  λc a=>by rw[e (Tv b.names a)];exact b.kx c a,λc a=>?_,d.ext⟩
 by_cases n:c<h.size
 ·rw[e n] at a;exact⟨(b.own c a).1,by have:=d.size;omega⟩
 ·by_cases f:c=gW
  ·subst f;exact⟨by have:=b.ext.size;omega,T.lt (.inl rfl)⟩
  ·exact absurd (Vy (S:=(· =gW)) (by omega) f) a
open Classical in
noncomputable def Lm (k:Nat->Nat) (b:Nat) (tp np:Sl) (a:Nat->Prop):Nat->Nat:=λc=>if k c≠0 then k c else if tp.ag=some c then 6 else if np.ag=some c then 7 else if a c then 8 else 0
theorem bQ.fG(d:bQ g h q k st m){tp np:Sl}{ps:List Nat}{ts:List (Nat×List Pr)}{next aZ:Nat}{S:Nat->Prop}
  (a:h'[q.d]? =some (J2 (eT {q with tp:=tp,np:=np} {st with next:=next,aZ:=aZ} false) FW (0,0))) (x:Mod (λc=>c=q.d\/q.tp.ag=some c\/q.np.ag=some c) h h')
  (G:Own gb BJ h' tp ps) (on:Own GV Bp h' np (ts.map λp=>(p.1:Int))) (I:ps.length=ts.length)
  (r: ∀c,tp.ag=some c->q.tp.ag=some c\/(k c=0/\g.size<=c/\np.ag≠some c/\ ¬S c)) (s: ∀c,np.ag=some c->q.np.ag=some c\/(k c=0/\g.size<=c/\tp.ag≠some c/\ ¬S c)) (J: ∀c,S c->g.size<=c/\c<h'.size)
  (K: ∀(i:Nat) (t:Nat) (p:Nat×List Pr),ps[i]? =some t->ts[i]? =some p->(∃ e:Nat,q.ps[e]? =some t/\st.ts[e]? =some p)\/ ∃n j,bW h' t p.2 (NJ p.2) n j/\j<=h'.size/\(∀ c,n<=c->c<j->S c/\k c=0)/\Hg p.2):
  bQ g h' {q with tp:=tp,np:=np,ps:=ps} (Lm k h.size tp np S) {st with ts:=ts,next:=next,aZ:=aZ} m:=by
 have l:=d.rest (C:=λc=>c=1\/c=6\/c=7) (h':=h') (x.aj λc _ a=>by
  rcases a with rfl|a|a
  ·exact .inl d.kd
  ·exact .inr (.inl (d.kt c a))
  ·exact .inr (.inr (d.kx c a))) (by decide)
 have f: ∀ {c e},k c=e->e≠0->Lm k h.size tp np S c=e:=λb u=>by unfold Lm;rw[if_pos (by rw[b];exact u)];exact b
 refine⟨a,l.box (by decide),l.log (by decide),l.dT (by decide),l.fresh (by decide),G,I,λi t p b u=>?_,on,f d.kd (by decide),λc a=>f (d.kb c a) (by decide),f d.kl (by decide),f d.kn (by decide),λc a=>f (d.kf c a) (by decide),λc a=>?_,λc a=>?_,λc a=>?_,l.ext⟩
 ·rcases K i t p b u with⟨e,L,M⟩|⟨n,j,v,w,y,z⟩
  ·obtain⟨n,j,v,w,y,z⟩:=l.cW (by decide) k (λ_ _=>rfl) e t p L M;exact⟨n,j,v,w,λc c1 c2=>f (y c c1 c2) (by decide),z⟩
  ·refine⟨n,j,v,w,λc c1 c2=>?_,z⟩;obtain⟨A,B⟩:=y c c1 c2;have N:tp.ag≠some c:=λD=>by
    rcases r c D with h|h
    ·have:=d.kt c h;rw[B] at this;cases this
    ·exact h.2.2.2 A
   have O:np.ag≠some c:=λD=>by
    rcases s c D with h|h
    ·have:=d.kx c h;rw[B] at this;cases this
    ·exact h.2.2.2 A
   unfold Lm;rw[if_neg (by simp[B]),if_neg N,if_neg O,if_pos A]
 ·rcases r c a with b|b
  ·exact f (d.kt c b) (by decide)
  ·unfold Lm;rw[if_neg (by simp[b.1]),if_pos a]
 ·rcases s c a with b|b
  ·exact f (d.kx c b) (by decide)
  ·unfold Lm;rw[if_neg (by simp[b.1]),if_neg b.2.2.1,if_pos a]
 ·by_cases o:k c=0
  ·unfold Lm at a;rw[if_neg (by simp[o])] at a;by_cases E:tp.ag=some c
   ·refine⟨?_,Tv G E⟩;rcases r c E with b|b
    ·have:=d.kt c b;rw[o] at this;cases this
    ·exact b.2.1
   ·rw[if_neg E] at a;by_cases F:np.ag=some c
    ·refine⟨?_,Tv on F⟩;rcases s c F with b|b
     ·have:=d.kx c b;rw[o] at this;cases this
     ·exact b.2.1
    ·rw[if_neg F] at a;by_cases H:S c
     ·exact J c H
     ·rw[if_neg H] at a;exact absurd rfl a
  ·exact⟨(d.own c o).1,by have:=(d.own c o).2;have:=l.size;omega⟩
end
structure IX (m m':Bx):Prop where
 up:m'.down=false
 calm:m.fuel= -1->m'.fuel= -1
theorem IX.refl {m:Bx}(a:m.down=false):IX m m:=⟨a,λa=>a⟩
theorem IX.trans {m c d:Bx}(a:IX m c)(b:IX c d):IX m d:=⟨b.up,λe=>b.calm (a.calm e)⟩
theorem Z0 {m:Bx}(hd:m.down=false)(l:List Fi):IX m {Ie m with files:=l}:=by refine⟨(AMZ l).trans hd,λa=>?_⟩;show(Ie m).fuel= -1;unfold Ie;rw[if_neg (by rw[a];decide)];exact a
theorem OL {m:Bx}{k d:A2I}(hd:m.down=false)(b:Jr k=false):(m.fuel=0/\Dp m k d=(30,LQ m))\/((Dp m k d).1=0/\IX m (Dp m k d).2/\
  ∀x,ff (Dp m k d).2 x=if x=k then some (((ff m k).getD (bg,bg)).1,((ff m k).getD (bg,bg)).2++d) else ff m x):=by
 by_cases a:m.fuel=0
 ·left;refine⟨a,?_⟩;unfold Dp;rw[if_neg (by simp[hd]),if_neg (by simp[b]),if_pos a]
 ·right;obtain⟨c,e⟩:=AM8 ⟨hd,a⟩ (d:=d) b;refine⟨c,?_,e⟩;unfold Dp;rw[if_neg (by simp[hd]),if_neg (by simp[b]),if_neg a];exact Z0 hd _
theorem MF {m:Bx}{a:A2I}{p:A2I×A2I}(hd:m.down=false)(c:ff m a=some p):(m.fuel=0/\G8 m a=(30,LQ m))\/((G8 m a).1=0/\IX m (G8 m a).2/\ ∀x,ff (G8 m a).2 x=if x=a then some (p.1++p.2,bg) else ff m x):=by
 have d:(CE a m.files).isNone=false:=by
  cases b:CE a m.files with
  |none=>unfold ff at c;rw[b] at c;cases c
  |some f=>rfl
 by_cases b:m.fuel=0
 ·left;refine⟨b,?_⟩;unfold G8;rw[if_neg (by simp[hd]),if_neg (by simp[d]),if_pos b]
 ·right;obtain⟨e,g⟩:=ARe ⟨hd,b⟩ c;refine⟨e,?_,g⟩;unfold G8;rw[if_neg (by simp[hd]),if_neg (by simp[d]),if_neg b];exact Z0 hd _
theorem N8 {m:Bx}{k:A2I}(hd:m.down=false)(b:(ff m k).isSome=true):(m.fuel=0/\EU m k=(30,LQ m))\/((EU m k).1=0/\IX m (EU m k).2/\ ∀x,ff (EU m k).2 x=if x=k then none else ff m x):=by
 have c:(CE k m.files).isNone=false:=by
  rw[<- Sr] at b;cases a:CE k m.files with
  |none=>rw[a] at b;cases b
  |some f=>rfl
 by_cases a:m.fuel=0
 ·left;refine⟨a,?_⟩;unfold EU;rw[if_neg (by simp[hd]),if_neg (by simp[c]),if_pos a]
 ·right;obtain⟨d,e⟩:=ANr ⟨hd,a⟩ b;refine⟨d,?_,e⟩;unfold EU;rw[if_neg (by simp[hd]),if_neg (by simp[c]),if_neg a];exact Z0 hd _
theorem pK(m:Bx)(x:A2I):ff (LQ m) x=ff m x:=rfl
theorem td(m:Bx):aY (LQ m).files=aY m.files:=rfl
theorem AF0 {ar:ak}{g:aa}{H b z:Nat}{h:A2I}{X:Bool}{n:Nat->Prop}{m:Bx}{upto:Int}{I:A2H}(au:cu g)(av: ∀j,Mod n g j->cu j)(L:Eg g H b h z X)(N:Bl g b n m)(hd:m.down=false)(aw: ¬n H)(a4:h.size<=8)(ax:aY m.files<=8000000000000)
  (ay:upto>=(z:Int)->I (J6 J9 1) g)
  (az:m.fuel≠ -1-> ∀j S' f,Bl j b S' f->f.down=true->Mod n g j->(∀ c,S' c->n c)->aY f.files<=aY m.files->(∀ x,ff f x=ff m x\/(ff f x=none/\ ∃d:Nat,1<=d/\d<=99999999/\(d:Int)<=upto/\x=aD h d))->I (J6 J9 30) j)
  (aA:upto<(z:Int)-> ∀j S' f,Bl j b S' f->IX m f->Mod n g j->(∀ c,S' c->n c)->aY f.files<=aY m.files->(∀ d:Nat,1<=d->d<=99999999->(d:Int)<=upto->ff f (aD h d)=none)->
   (∀ x,(∀ d:Nat,1<=d->d<=99999999->(d:Int)<=upto->x≠aD h d)->ff f x=ff m x)->I (J6 J9 0) j):AA ar P Jd #[Ak H,J6 J9 upto] g I:=by
 refine ABz ?_;unfold Uv;refine ai.mk λK aC=>af.no rfl (aE (AC.mk (AB L rfl) (aC _ _ ?_)))
 refine af.intro (λq=>ay (by simpa using q)) (λq=>?_);have aF:upto<(z:Int):=by simpa using q
 refine aE (AY.mk (AL L rfl) (aE (AJ.mk (AB L rfl) ?_)));refine zJ au N hd (by omega) ax λY Z l A v2 ab O=>⟨Z,_,rfl,af.no rfl ?_⟩
 have ac:(l.map λd:Nat=>(d:Int)).length=l.length:=AW ..;have J: ∀d∈l,1<=d/\d<=99999999/\(ff m (aD h d)).isSome=true:=λd e=>by
  have:=(A.mem d).1 e;rw[Sr] at this;exact this
 have a5:l.Nodup:=List.nodup_iff_pairwise_ne.2 (A.inc.imp λg=>Nat.ne_of_lt g);have a6:=AQP A;refine Loop.rule (λae x s=> ∃(i:Nat) (B:Nat->Prop) (r:Bx),x=((i:Int),())/\Bl s b B r/\IX m r/\Mod n g s/\Mod n Y s/\(∀ c,B c->n c)/\aY r.files<=aY m.files/\(∀ d∈l.take i,(d:Int)<=upto->ff r (aD h d)=none)/\(∀ x,(∀ d∈l.take i,(d:Int)<=upto->x≠aD h d)->ff r x=ff m x)/\i<=l.length/\ae=l.length-i) ?_
  ⟨0,n,m,rfl,N.ext ab,IX.refl hd,Ext.mod ab,Mod.refl,λ_ g=>g,A0 _,by simp,λ_ _=>rfl,A5 _,rfl⟩
 rintro a7 ae _ s ⟨i,B,r,rfl,Q,C,w,R,D,M,E,u,a8,rfl⟩ aG;have aH:View GV s Z (l.map λd:Nat=>(d:Int)):=v2.mod R λc v aI=>by have:=O c v;have:=N.lt aI;omega
 rw[v2.len,ac];refine af.intro (λS=>?_) (λS=>?_)
 ·have F:i<l.length:=by simpa using S
  have ah:l[i]? =some l[i]:=A2 F;obtain⟨ag,aj,aJ⟩:=J l[i] (AS F);have y:l.take (i+1)=l.take i++ [l[i]]:=by rw[Ax,ah];rfl
  have aK: ∀d∈l.take i,d<l[i]:=λd e=>by
   have:=A.inc;rw[<- DH (i+1) l,y] at this;have aL:=(List.pairwise_append.1 (List.pairwise_append.1 this).1).2.2 d e l[i] (by simp);exact aL
  refine ai.mk λaM aN=>?_
  have al: ∀S' f j,Bl j b S' f->IX m f->Mod n g j->Mod n Y j->(∀ c,S' c->n c)->aY f.files<=aY m.files->(∀ d∈l.take (i+1),(d:Int)<=upto->ff f (aD h d)=none)->(∀ x,(∀ d∈l.take (i+1),(d:Int)<=upto->x≠aD h d)->ff f x=ff m x)->aM () j:=λS' f j aO aP aQ aR aS aT aU O=>by
   refine aN _ _ ?_;dsimp only;rw[Aa (by omega)];exact aG (l.length-(i+1)) _ _ (by omega) ⟨i+1,S',f,rfl,aO,aP,aQ,aR,aS,aT,aU,O,F,rfl⟩
  rw[<- ac,<-v2.len];refine aH.idx (i:=i) (x:=(l[i]:Int)) (by rw[BE,ah];rfl) λa _ c=>?_
  refine AC.mk c.int ?_;refine af.intro (λq=>?_) (λq=>?_)
  ·have q:(l[i]:Int)<=upto:=by simpa using q
   have T:Eg s H b h z X:=L.mod w aw;refine aE (AY.mk (AL T rfl) (aE (AJ.mk (AB T rfl) ?_)));refine Yz (av s w) (by omega) (by omega) λa9 U=>⟨_,rfl,⟨AL (T.ext U) rfl,?_⟩⟩
   refine SX (Q.ext U) λam an V aV ao=>⟨_,rfl,?_⟩
   have aW:(ff r (aD h l[i])).isSome=true:=by rw[u (aD h l[i]) λd e _ G=>by have:=aK d e;have:=Iz G;omega];exact aJ
   have W:=(Ext.mod U).trans (aV.aj λc _ v=>D c v);rcases N8 (k:=aD h l[i]) C.up aW with⟨aX,aZ⟩|⟨a0,ds,ap⟩
   ·rw[aZ] at V ⊢;refine af.yes rfl (az (λg=>by have:=C.calm g;rw[aX] at this;cases this) am an _ V rfl (w.trans W) (λc v=>D c (ao c v)) M λx=>?_);show ff r x=_\/(ff r x=_/\_);by_cases t: ∃d,d∈l.take i/\(d:Int)<=upto/\x=aD h d
    ·obtain⟨d,e,o,rfl⟩:=t;have aq:=J d (C2 e);exact .inr ⟨E d e o,d,aq.1,aq.2.1,o,rfl⟩
    ·exact .inl (u x λd e o G=>t ⟨d,e,o,G⟩)
   rw[a0];refine af.no rfl (al an _ am V (C.trans ds) (w.trans W) (R.trans W) (λc v=>D c (ao c v)) (As (Vi _) M) ?_ ?_)
   ·intro d e o;rw[ap];split
    ·rfl
    ·rename_i a1;rw[y] at e;rcases List.mem_append.1 e with e|e
     ·exact E d e o
     ·exact absurd (by rw[List.mem_singleton.1 e]) a1
   ·intro x t;rw[ap,if_neg (t l[i] (by rw[y];exact List.mem_append.2 (.inr (List.mem_singleton.2 rfl))) q)];exact u x λd e=>t d (by rw[y];exact List.mem_append.2 (.inl e))
  ·have q: ¬(l[i]:Int)<=upto:=by simpa using q
   refine al B r s Q C w R D M ?_ ?_
   ·intro d e o;rw[y] at e;rcases List.mem_append.1 e with e|e
    ·exact E d e o
    ·rw[List.mem_singleton.1 e] at o;exact absurd o q
   ·intro x t;exact u x λd e=>t d (by rw[y];exact List.mem_append.2 (.inl e))
 ·have F:i=l.length:=by simp at S;omega
  subst F;rw[Bk] at E u;refine aA aF s B r Q C w D M ?_ ?_
  ·intro d ag aj o;by_cases e:d∈l
   ·exact E d e o
   ·rw[u (aD h d) λk a2 _ G=>e (by rw[Iz G];exact a2)];have: ¬((ff m (aD h d)).isSome=true):=λg=>e ((A.mem d).2 ⟨ag,aj,by rw[Sr];exact g⟩)
    cases a3:ff m (aD h d) with
    |none=>rfl
    |some p=>rw[a3] at this;exact absurd rfl this
  ·intro x t;exact u x λd e o=>t d (J d e).1 (J d e).2.1 o
theorem ARw {a:Nat}(h:a<=99999999):Jr (ba a)=false:=by
 have b:(ba a).size=1+(Lib.decDigits a).length:=by have:=A7 (ba a);rw[Xg] at this;rw[<- this];simp;omega
 have c:(Lib.decDigits a).length<=20:=by rw[Lib.decDigits_length];exact Lib.nDigits_le20 a (by omega)
 unfold Jr;rw[Gk,decide_eq_false_iff_not,decide_eq_false_iff_not];refine⟨λh=>?_,by omega⟩;rw[h] at b;have:bg.size=0:=rfl;omega
theorem Qt {A:ak}{h:aa}{a:Nat}{R:A2H}(c:cu h)(l:a<=1099511627776)(d: ∀b,Ext h b->R (J7 (ba a)) b):AA A P JV #[J6 J9 a] h R:=by
 refine AIv ?_;unfold vW;refine zF c.cW (by omega) (by omega) λe f=>⟨_,rfl,?_⟩
 have i:Lib.itoa (a:Int)=Lib.decDigits a:=Lib.itoa_nonneg a;rw[i];have n:(Lib.decDigits a).length<=20:=by rw[Lib.decDigits_length];exact Lib.nDigits_le20 a (by omega)
 have j:(⟨(Lib.decDigits a).toArray⟩:A2I).size=(Lib.decDigits a).length:=by simp[ByteArray.size]
 refine⟨?_,?_⟩
 ·rw[j,max_i64];have:(⟨#[116]⟩:A2I).size=1:=rfl;omega
 ·exact d e f
def QS(h:aa)(a:Nat):Prop:= ∃b c1 c2 c3 c d e f,h[a]? =some (J2 #[b,c1,c2,c3,c,d,e,f,J3 true] FW (0,0))
theorem QS.mod {b:Nat->Prop}{h c:aa}{a:Nat}(d:QS h a)(x:Mod b h c)(e: ¬b a):QS c a:=by obtain⟨f,c1,c2,c3,i,j,l,n,hd⟩:=d;exact⟨f,c1,c2,c3,i,j,l,n,x.ag hd e⟩
theorem ARp {A:ak}{h:aa}{q:Hp}{st:Db}{R:A2H}(hd:h[q.d]? =some (J2 (eT q st false) FW (0,0)))(b: ∀a,QS a q.d->Mod (· =q.d) h a->a.size=h.size->R (J6 J9 30) a):AA A P Co #[Ak q.d,J6 J9 30] h R:=by
 refine ACi ?_;unfold XC;refine ai.mk λK c=>af.yes rfl (aE (ae.dy hd (by simp) λd e f i=>c _ _ (b d ?_ f i)))
 exact⟨_,_,_,_,_,_,_,_,by simpa using e⟩
section
variable {A : ak} {g h : aa} {q : Hp} {k : Nat -> Nat} {st : Db} {m : Bx} {R : A2H}
theorem bQ.iC(a:bQ g h q k st m)(b:cu g):cu h:=b.ext a.ext
def Grow(k a:Nat->Nat)(b:Nat):Prop:= ∀c,c<b->a c=k c
theorem Grow.refl {k:Nat->Nat}{a:Nat}:Grow k k a:=λ_ _=>rfl
theorem tf {k:Nat->Nat}{a b:Nat}{d:Nat->Prop}:Grow k (IZ k a d b) a:=λc e=>Ga e
theorem ARI(b:bQ g h q k st m)(r:st.next<=99999999)(I:st.aZ<=99999999)(J:st.ts.length<=60000)(t: ∀p∈st.ts,p.1<=99999999)(C: ∀u,Ext h u->R (J7 (AX (EG ⟨st.next,st.aZ,st.ts.map (·.1)⟩))) u):AA A P QN #[Ak q.d] h R:=by
 refine AEO ?_;unfold Wo;refine aE (AC.mk (AB b.cell rfl) (aE (AC.mk (AB b.cell rfl) (aE (Ad.mk (s:=q.np) (AB b.cell rfl) ?_)))));rw[CJ (by omega)];refine Ca (by omega) λL v=>⟨_,rfl,?_⟩
 have c1:=Ap v b.cell;refine⟨AB c1 rfl,AB c1 rfl,?_⟩;rw[CJ (by omega)];refine Ca (by omega) λM w=>⟨_,rfl,?_⟩
 have c2:=Ap w c1;have N:=AV (n:=st.next) (by omega);have O:=AV (n:=st.aZ) (by omega);have f:q.np.len=st.ts.length:=by rw[b.names.len];simp
 refine⟨AB c2 rfl,by rw[AP,AP,max_i64];omega,?_⟩;rw[f,CJ (by omega),Aq];refine Ca (by omega) λD y=>⟨_,rfl,?_⟩
 have c3:=Ap y c2;have Q:=AV (n:=st.ts.length) (by omega);refine⟨by rw[AP,AP,A1,max_i64];omega,?_⟩;refine aE (Ad.mk (s:=q.np) (AB c3 rfl) ?_);rw[Aq];have z:=(v.trans w).trans y;have E:=(b.names.ext z).view;have S: ∀i,((st.ts.map (·.1)).take i).flatMap BX=((st.ts.map (·.1)).take i).flatMap BX:=λ_=>rfl
 refine Loop.rule (λB x j=> ∃i:Nat,x=(AX (BX st.next++BX st.aZ++BX st.ts.length++((st.ts.map (·.1)).take i).flatMap BX),(i:Int),())/\B=st.ts.length-i/\i<=st.ts.length/\Ext D j) ?_ ⟨0,by simp,rfl,by omega,Mod.refl⟩;rintro K B _ j ⟨i,rfl,rfl,T,o⟩ F;dsimp only;refine af.intro (λe=>?_) (λe=>?_)
 ·have d:i<st.ts.length:=by rw[<- f];simpa using e
  have ah:st.ts[i]? =some st.ts[i]:=A2 d;have U:=t st.ts[i] (AS d);refine(E.ext o).idx (i:=i) (x:=(st.ts[i].1:Int)) (by rw[eV,BE,ah];rfl) λa _ c=>AC.mk c.int ?_
  rw[CJ (by omega)];refine Ca (by omega) λV G=>⟨_,rfl,?_⟩
  have W:=AV (n:=st.ts[i].1) (by omega);have X:=VW (l:=(st.ts.map (·.1)).take i) λn r=>by
   obtain⟨p,H,rfl⟩:=List.mem_map.1 (C2 r);exact t p H
  have Y:((st.ts.map (·.1)).take i).length<=60000:=by simp;omega
  refine⟨by rw[AP,AP,max_i64];simp only[A1];omega,?_⟩;rw[Aq,Aa (by omega)];refine F (st.ts.length-(i+1)) _ _ (by omega) ⟨i+1,?_,rfl,d,o.trans G⟩;rw[Ax,BE,ah];simp
 ·have d:i=st.ts.length:=by rw[f] at e;simp at e;omega
  subst d;have:=C j (z.trans o);rw[AE (by simp)];simpa [EG] using this
theorem APS {n:Nat}{s:Sl}{l:List Pr}(z:cu g)(Q:bQ g h q k st m)(hd:m.down=false)(T:Hg l)(ao:View BO h s l)(B: ∀c,s.ag=some c->c<h.size)(ap:n<=99999999)(aq:ff m (ba n)=none)(ar:aY m.files+(Js l).length+1<=8796093022208)
  (S:m.fuel≠ -1-> ∀b S' e,Bl b q.b S' e->e.down=true->Mod q.Sb h b->(∀ c,S' c->q.Sb c\/h.size<=c)->(∀ x,x≠ba n->ff e x=ff m x)->aY e.files<=aY m.files+(Js l).length+1->R (J1 #[J5 none,J6 J9 30]) b)
  (au: ∀b S' C e t D U,bQ g b {q with Sb:=S'} C st e->IX m e->(∀ x,ff e x=if x=ba n then some (AX (Js l),bg) else ff m x)->aY e.files<=aY m.files+(Js l).length+1->bW b t l (NJ l) D U->h.size<=D->U<=b.size->(∀ c,D<=c->C c=0)->
   Mod q.Sb h b->Grow k C h.size->R (J1 #[Ak t,J6 J9 0]) b):AA A P Nz #[Ak q.d,J6 J9 (n:Int),J4 s.p s.len s.cap] h R:=by
 refine AEW ?_;unfold Yt;refine AO6 T ao B λaD V=>⟨_,_,rfl,af.no rfl ?_⟩
 have p:=Q.on V;refine aE (AY.mk (AL p.cell rfl) ?_);refine Qt (p.iC z) (by omega) λE F=>⟨_,rfl,⟨AL (p.on F).cell rfl,?_⟩⟩
 have W:=p.on F;have X:=V.trans F;have aF:=X.size;refine Xv W.box (by rw[AP];exact ar) λY f G H Z=>⟨_,rfl,?_⟩
 have I:=Vg Q.box.aO (ba n) (AX (Js l));rw[AP] at I;have aa:Mod q.Sb h Y:=(Ext.mod X).trans H;have J: ∀c,f c->q.Sb c\/h.size<=c:=λc a=>(Z c a).imp id λh=>by omega
 rcases OL (k:=ba n) (d:=AX (Js l)) hd (ARw ap) with⟨K,L⟩|⟨L,M,r⟩
 ·rw[L] at G ⊢;refine af.yes rfl ?_;exact S (by rw[K];decide) Y f _ G rfl aa J (λx _=>rfl) (by rw[td,HJ];exact HD _ _)
 rw[L];refine af.no rfl ?_;have o:=W.boxed (j:=2) (bH:=st) G (H.aj λc _ a=> .inl a) Z rfl rfl rfl rfl (.inl ⟨by decide,rfl,rfl⟩) (.inl ⟨by decide,rfl⟩);generalize (Dp m (ba n) (AX (Js l))).2=ab at*
 have aG:Grow k (IZ k E.size f 2) E.size:=tf;refine aE (AY.mk (AL o.cell rfl) ?_);refine Qt (o.iC z) (by omega) λav u=>⟨_,rfl,⟨AL (o.on u).cell rfl,?_⟩⟩
 have ac:=o.on u;rw[aq] at r;have aw:ff ab (ba n)=some (bg,bg++AX (Js l)):=by rw[r,if_pos rfl];rfl
 refine pZ ac.box λae v N=>⟨_,rfl,?_⟩
 have ax:=YZ o.box.aO (ba n);have ag:Mod q.Sb h ae:=by refine aa.then ((Ext.mod u).trans N |>.aj λc _ a=>?_);exact(J c a)
 rcases MF M.up aw with⟨K,O⟩|⟨O,ah,ai⟩
 ·rw[O] at v ⊢;refine af.yes rfl ?_;exact S (λay=>by have:=M.calm ay;rw[K] at this;cases this) ae f _ v rfl ag J (λx i=>by
   rw[pK,r,if_neg i]) I
 rw[O];refine af.no rfl ?_;have w:=ac.boxed (j:=2) (bH:=st) v (N.aj λc _ a=> .inl a) (λc a=> .inl a) rfl rfl rfl rfl (.inl ⟨by decide,rfl,rfl⟩) (.inl ⟨by decide,rfl⟩);generalize (G8 ab (ba n)).2=aj at*
 refine aE (AY.mk (AL w.cell rfl) ?_);refine Qt (w.iC z) (by omega) λak y=>⟨_,rfl,⟨AL (w.on y).cell rfl,?_⟩⟩
 have al:=w.on y;refine Yk al.box ⟨_,_,rfl,?_⟩;have az:ff aj (ba n)=some (AX (Js l),bg):=by rw[ai,if_pos rfl,OE,OE]
 rw[Yd ah.up,az];dsimp only;rw[OY];refine af.no rfl ?_;refine AIk T.fx λam t an aA=>⟨_,_,rfl,?_⟩
 have aH:=u.size;have aI:=H.size;have aJ:=N.size;have aK:=y.size;have aC: ∀c,ak.size<=c->IZ (IZ k E.size f 2) av.size f 2 c=0:=λc a=>by
  have: ¬f c:=λB=>by have:=v.lt B;omega
  exact Vy (by omega) this
 refine au am f _ aj t ak.size am.size (al.on an) (M.trans ah) (λx=>?_) (As ax I) aA (by omega) (A0 _) (λc a=>aC c a) ?_ ?_
 ·rw[ai];by_cases i:x=ba n
  ·rw[if_pos i,if_pos i,OE,OE]
  ·rw[if_neg i,if_neg i,r,if_neg i]
 ·exact(ag.trans (Ext.mod y)).trans (Ext.mod an)
 ·exact λc a=>by
   rw[Ga (by omega),Ga (by omega)]
end
section
variable {A : ak} {g h : aa} {q : Hp} {k : Nat -> Nat} {st : Db} {m : Bx} {R : A2H}
theorem bQ.gv(a:bQ g h q k st m)(e:cu g){d:aa}(x:Mod (λc=>q.Sb c\/c=q.lg\/c=q.nt) h d):cu d:=
 e.ext (a.rest (C:=λc=>c=2\/c=3\/c=4) (x.aj λc _ b=>by
  rcases b with b|rfl|rfl
  ·exact .inl (a.kb c b)
  ·exact .inr (.inl a.kl)
  ·exact .inr (.inr a.kn)) (by decide)).ext
def da(st:Db):Nt:=⟨st.next,st.aZ,st.ts.map (·.1)⟩
theorem ALo {B:Bz}{T:Nat->List Pr}(I:cu g)(f:bQ g h q k st m)(hd:m.down=false)(ac:BH (ff m) B)(u:iv (da st))(ay: ∀a∈(da st).names,ff m (ba a)=some (AX (Js (T a)),bg)/\Hg (T a))(az:1<=st.aM/\st.aM+2<=99999999)
  (S: ∀a,st.aM<=a->a<=99999999->ff m (aD nn a)=none) (bi:aY m.files+1000000<=8000000000000)
  (ae:m.fuel≠ -1-> ∀n S' o,Bl n q.b S' o->o.down=true->Mod (λc=>q.Sb c\/c=q.nt) h n->(∀ c,S' c->q.Sb c\/h.size<=c)->(∀ G,Jo (ff o) G-> ∃l,BH G l/\nD B st.aM (da st) T l)->(∀ b,(∀ a,b≠aD nn a)->ff o b=ff m b)->aY o.files<=aY m.files+700000->R (J6 J9 30) n)
  (aN: ∀n S' aA o l,bQ g n {q with Sb:=S'} aA {st with aM:=st.aM+1} o->IX m o->BH (ff o) l->Ar l=da st->l.T=T->l.L=B.L->l.aS=B.aS->l.bd<=max B.bd (st.aM+1)->(∀ b,(∀ a,b≠aD nn a)->ff o b=ff m b)->
   (∀ a,st.aM+1<=a->a<=99999999->ff o (aD nn a)=none)->aY o.files<=aY m.files+700000->Mod (λc=>q.Sb c\/c=q.nt) h n->Grow k aA h.size->R (J6 J9 0) n):AA A P KJ #[Ak q.d] h R:=by
 have aO: ∀p∈st.ts,p.1<=99999999:=λp aP=>by
  have v:=u.below p.1 (List.mem_map.2 ⟨p,aP,rfl⟩);have r:=u.next;simp only[da] at v r;omega
 have aQ:st.ts.length<=60000:=by have:=u.cw;simpa [da] using this
 have aR:=AIx u;have aS:(da st).names.length=st.ts.length:=by simp[da]
 rw[aS] at aR;have ag:(EG (da st)).length<=1048576:=by omega
 refine ADc ?_;unfold Wd;refine aE (AY.mk (AB f.cell rfl) ?_);refine ARI f u.next u.aZ.2 aQ aO λv U=>⟨_,rfl,⟨AB (f.on U).cell rfl,?_⟩⟩
 have J:=f.on U;have bj:=U.size;have aT:(AX (EG ⟨st.next,st.aZ,st.ts.map (·.1)⟩)).size=(EG (da st)).length:=by rw[AP];rfl
 refine zP (J.iC I) J.dT J.box J.tN (λn x=>J.gv I (x.aj λc _ e=> .inl e)) (by decide) (by omega) (by rw[aT];omega) (by omega) λr C K V aU aC=>⟨_,rfl,?_⟩
 rw[show bl (AX (EG ⟨st.next,st.aZ,st.ts.map (·.1)⟩))=EG (da st) from EF _] at K V ⊢;have aV:=Vg f.box.aO (aD nn st.aM) (AX (Cg (EG (da st))));have bk:=(Ij ag).2;rw[AP] at aV;have L:Mod (λc=>q.Sb c\/c=q.nt) h r:=(Ext.mod U).trans aU;have s: ∀c,C c->q.Sb c\/h.size<=c:=λc e=>(aC c e).imp id λh=>by omega
 rcases OL (k:=aD nn st.aM) (d:=AX (Cg (EG (da st)))) hd (zR (by decide) (by omega)) with⟨W,ah⟩|⟨ah,M,aF⟩
 ·rw[ah] at K ⊢;refine af.yes rfl ?_;exact ae (by rw[W];decide) r C _ K rfl L s (λG c=>⟨B,ac.dj c,APj⟩) (λb _=>rfl) (by rw[td];omega)
 rw[ah] at V ⊢;refine af.no rfl ?_;rw[decide_eq_true rfl,HK] at V;generalize (Dp m (aD nn st.aM) (AX (Cg (EG (da st))))).2=t at*
 rw[S st.aM (A0 _) (by omega)] at aF;have X: ∀b,ff t b=if b=aD nn st.aM then some (bg,AX (Cg (EG (da st)))) else ff m b:=λb=>by
  rw[aF];split<;>simp only[Option.getD_none,OE]
 have ai: ¬C q.nt:=λe=>by
  rcases aC _ e with h|h
  ·exact f.tN h
  ·exact h.2 rfl
 have aW:r[q.d]? =some (J2 (eT q st false) FW (0,0)):=L.ag f.cell (by rintro(h|h);exact f.nP h;exact f.dn h);refine aE (AY.mk (AB aW rfl) ?_);have aG:ff t (aD nn st.aM)=some (bg,AX (Cg (EG (da st)))):=by rw[X,if_pos rfl]
 have aX:cu r:=f.gv I (L.aj λc _ e=>e.imp id .inr);refine XT aX V K ai (by decide) (by omega) (λaZ w D aj ak=>⟨_,_,rfl,?_⟩) λa0 w D aj ak=>⟨_,_,rfl,?_⟩
 ·
  have a1:(G8 t (aD nn st.aM)).1≠0:=aZ;rcases MF M.up aG with⟨W,E⟩|⟨E,_,_⟩
  ·have a2:NL t (aD nn st.aM) true=(30,LQ t):=E;rw[a2] at D ⊢;refine af.yes rfl ?_;have z:Mod (λc=>q.Sb c\/c=q.nt) h w:=L.then (ak.aj λc _ e=>(s c e).imp .inl id);exact ae (λal=>by have:=M.calm al;rw[W] at this;cases this) w C _ D rfl z s (λG c=>AMe ac ⟨az.1,by omega⟩ u ag S ay (F1:=ff (LQ t)) X c) (λb i=>by
    rw[pK,X,if_neg (i _)]) (by rw[td];omega)
  ·exact absurd E a1
 ·rcases MF M.up aG with⟨W,E⟩|⟨E,am,a3⟩
  ·have aH:(G8 t (aD nn st.aM)).1=0:=a0;rw[E] at aH;cases aH
  have D:Bl w q.b C (G8 t (aD nn st.aM)).2:=D;have bm:=YZ K.aO (aD nn st.aM);generalize (G8 t (aD nn st.aM)).2=aI at*
  refine af.no rfl ?_;have N: ∀b,ff aI b=if b=aD nn st.aM then some (AX (Cg (EG (da st))),bg) else ff m b:=λb=>by
   rw[a3];by_cases i:b=aD nn st.aM
   ·rw[if_pos i,if_pos i];simp only[OE]
   ·rw[if_neg i,if_neg i,X,if_neg i]
  obtain⟨aJ,aK⟩:=ANU ac ⟨az.1,by omega⟩ u ag S ay N;have z:Mod (λc=>q.Sb c\/c=q.nt) h w:=L.then (ak.aj λc _ e=>by
   rcases e with e|rfl
   ·exact(s c e).imp .inl id
   ·exact .inl (.inr rfl))
  have a4:w[q.d]? =some (J2 (eT q st false) FW (0,0)):=z.ag f.cell (by rintro(h|h);exact f.nP h;exact f.dn h);refine aE (AY.mk (AB a4 rfl) ?_);have a5:J8 J9 (((st.aM:Nat):Int)-(1:Int))=(st.aM:Int)-1:=wrap_i64 (by omega) (by omega);rw[a5];have a6:cu w:=f.gv I (z.aj λc _ e=>e.imp id .inr);have a7: ∀n,Mod C w n->cu n:=λn x=>f.gv I ((z.then (x.aj λc _ e=>(s c e).imp .inl id)).aj λc _ e=>e.imp id .inr)
  have aL:ff aI (aD nn st.aM)≠none:=by rw[N,if_pos rfl];simp
  refine AF0 a6 a7 aj D am.up ai (by decide) (by omega) (λh=>absurd h (by omega)) (λa8 F an H ao a9 Y ap bb Z=>⟨_,rfl,?_⟩) λ_ F an H ao bc Y ap bb Z aq=>⟨_,rfl,?_⟩
  ·have aa:Mod (λc=>q.Sb c\/c=q.nt) h F:=z.then (Y.aj λc _ e=>(s c e).imp .inl id);obtain⟨l,ar,au,av,aw,ax,bd⟩:=AI1 (G:=ff H) aJ aK aL λb=>by
    rcases Z b with v|⟨v,a,O,y,ab,r⟩
    ·exact .inl v
    ·exact .inr ⟨v,a,by omega,y,r⟩
   refine ae (λal=>a8 (am.calm (M.calm al))) F an H ao a9 aa (λc e=>s c (ap c e)) (λG c=>⟨l,ar.dj c,aw,ax,by omega,.inr ⟨au,av⟩⟩) (λb i=>?_) (by omega);rcases Z b with v|⟨_,a,_,_,_,r⟩
   ·rw[v,N,if_neg (i _)]
   ·exact absurd r (i a)
  ·have aa:Mod (λc=>q.Sb c\/c=q.nt) h F:=z.then (Y.aj λc _ e=>(s c e).imp .inl id);obtain⟨l,ar,au,av,aw,ax,bd⟩:=AI1 (G:=ff H) aJ aK aL λb=>by
    by_cases i: ∃a:Nat,1<=a/\a<=99999999/\(a:Int)<=(st.aM:Int)-1/\b=aD nn a
    ·obtain⟨a,O,y,ab,rfl⟩:=i;exact .inr ⟨Z a O y ab,a,by omega,y,rfl⟩
    ·exact .inl (aq b λa O y ab Q=>i ⟨a,O,y,ab,Q⟩)
   have be: ∀b,(∀ a,b≠aD nn a)->ff H b=ff m b:=λb i=>by
    rw[aq b λa _ _ _=>i a,N,if_neg (i _)]
   have bf:Eg F q.nt q.b nn (st.aM+1) false:=aj.mod Y ai;have bh:=f.boxed (j:=4) (bH:= {st with aM:=st.aM+1}) ao (aa.aj λc _ e=>e.imp id λh=> .inr ⟨rfl,h⟩) (λc e=>s c (ap c e)) rfl rfl rfl rfl (.inl ⟨by decide,rfl,rfl⟩) (.inr bf);refine aN F an _ H l bh ((M.trans am).trans bc) ar au av aw ax (by omega) be (λa O y=>?_) (by omega) aa tf;rw[aq (aD nn a) λk _ _ bn Q=>by have:=Iz Q;omega,N,if_neg λQ=>by have:=Iz Q;omega];exact S a (by omega) y
end
end Go.Lf.G
namespace Go.Lf.G.M
open Go Go.Lf Go.Lf.G
theorem AK0 {N:ak}{n:aa}{b:Nat}{T:Q7}{fr:Nat×Nat}{s:Sl}{l:List Pr}(f:n[b]? =some (J2 #[J4 s.p s.len s.cap] T fr))(v:View BO n s l)(ag:l.length<=1099511627776):
  EY N P (.func (.func DL) #[] #[J5 (some ⟨b,0,none⟩)]) (λc=>c<n.size/\(c=b\/s.ag=some c)) n l:=by
 refine⟨λc o=>o.1,_,_,rfl,λO=>by kernel_rfl,λe D O Q h ah hd hB R S=>?_⟩;rw[ri];refine Ib ?_;unfold Ew;have E:=Ag f;have U: ∀d,Mod h e d->d[b]? =some (J2 #[J4 s.p s.len s.cap] T fr):=λd m=>by
  have w:=D b ⟨E,.inl rfl⟩;exact m.ag (w.trans f) (hd b ⟨E,.inl rfl⟩)
 have V: ∀i x,l[i]? =some x-> ∃a,s.p=some a/\ ∀d,Mod h e d->Cells d (a.add (i*3)) (BO.enc x):=λi x F=>by
  obtain⟨a,q,o⟩:=v.cells i x F;refine⟨a,q,λd m W u r=>?_⟩;have G:=o W u r;have H:=Vk G;rw[aU,aU] at H;have I:a.block<n.size/\(a.block=b\/s.ag=some a.block):=⟨H,.inr (by simp[Sl.ag,q])⟩;have w:=D _ I;refine m.ah ((Qy ?_).trans G) ?_
  ·rw[aU,aU];exact w
  ·rw[aU,aU];exact hd _ I
 refine Ad.mk (AL (U e Mod.refl) rfl) ?_;refine Loop.rule (λm x d=> ∃(i:Nat) (k:Nat->Prop),x=((i:Int),())/\m=l.length-i/\i<=l.length/\Mod h e d/\(∀ b,k b->h b\/e.size<=b)/\Q i true k d) ?_ ⟨0,h,rfl,rfl,by omega,Mod.refl,λb f=> .inl f,S⟩;rintro K m _ d ⟨i,k,rfl,rfl,F,t,y,r⟩ X;refine af.intro (λj=>?_) (λj=>?_)
 ·have p:i<l.length:=by simp[v.len] at j;omega
  obtain⟨a,q,o⟩:=V i _ (A2 p);have c1:=o d t;refine bJ.mk q (by rw[v.len];exact p) ?_;refine AJ.mk (c1.pair.1) (AJ.mk c1.pair.2.1 (AZ.mk c1.pair.2.2 ?_));refine ao.pair λai Y aj z A al=>?_
  refine AJ.mk (AL z rfl) (AJ.mk (AB z rfl) (AZ.mk (AB z rfl) ?_));have Z:=hB.br _ _ _ _ _ r (A.aj (S':=λb=>¬k b/\e.size<=b) λ_ _ e=>e.elim);refine F4.mono (R i _ k Y (A2 p) Z) ?_;rintro _ ab ⟨g,B,rfl,ac,ae,J⟩;have L: ∀b,B b->h b\/e.size<=b:=λb f=>(ac b f).elim (y b) λam=> .inr (by have:=t.size;have:=A.size;omega)
  have M:Mod h e ab:=(t.trans A.mod).then (ae.aj λb _ f=>(y b f));refine⟨g,rfl,?_⟩;refine af.intro (λj=>?_) (λj=>?_)
  ·refine⟨rfl,i+1,g,B,M,L,J,λC=>?_,by omega⟩;subst C;cases j
  ·have C:g=true:=by simpa using j
   subst C;exact X _ _ _ (by omega) ⟨i+1,B,by rw[Aa (by omega)],rfl,by omega,M,L,J⟩
 ·have p:i=l.length:=by simp[v.len] at j;omega
  exact⟨rfl,i,true,k,t,y,r,λ_=>p,by omega⟩
theorem tP {d:ak}{a:aa}{s:Sl}{l:List Pr}{e:A2H}(v:View BO a s l)(g:l.length<=1099511627776)
  (h: ∀fv b,EY d P fv (λc=>c<b.size/\(c=a.size\/s.ag=some c)) b l->Ext a b->b.size=a.size+1->e fv b):AA d P Cm #[J4 s.p s.len s.cap] a e:=by
 refine JF ?_;unfold FQ;refine ao.mk λi _ j f k=>?_
 exact h _ i (AK0 j (v.ext f) g) f k
theorem pW {ar:ak}{t:aa}{fv:J0}{S:Nat->Prop}{l:List Pr}{e:A2I}{n:Int}{au:A2H}(A:(fv= .nilFunc/\l= [])\/EY ar P fv S t l)(bi:l.length<=1099511627776)
  (W: ∀G o,Own BO AQ o G (QH e n l)->(∀ c,G.ag=some c->t.size<=c)->Ext t o->au (J4 G.p G.len G.cap) o):AA ar P Lj #[fv,J7 e,J6 J9 n] t au:=by
 refine AEk ?_;unfold Yy;refine ao.mk λav _ aY aZ a0=>ao.mk λq _ a1 aw bj=>ao.mk λd _ a2 X bk=>?_
 have Y:Ext t d:=(aZ.trans aw).trans X;have a3:d[t.size]? =some (J2 #[J7 e] BD (0,0)):=X.ag (aw.ag aY (by simp)) (by simp);have ax:d[av.size]? =some (J2 #[J6 J9 n] Bp (0,0)):=X.ag a1 (by simp);refine ai.mk λK ay=>?_
 have az:QH e n l= []->K (true,()) d:=λf=>ay _ _ (af.yes rfl (W ⟨none,0,0⟩ d (f▸Own.nil) (λc j=>by simp[Sl.ag] at j) Y))
 rcases A with⟨rfl,rfl⟩|A
 ·exact⟨trivial,af.yes rfl (az (by simp[QH]))⟩
 refine⟨A.one.2.1,af.no A.one.2.2 ?_⟩;refine AC.mk (AL ax rfl) ?_;cases Q:decide (n<=0)
 ·refine ay _ _ (af.no rfl ?_);have Q:0<n:=by simpa using Q
  have aA: ∀o:aa,Mod (λc=>c=q.size) d o->Ext t o:=λo m=>Y.then (m.aj λc _ j=> .inr (by omega))
  have bm:=(Wg (l:=l) (Rn e)).length_le;refine Xu A (λb a=>Y.get b (A.1 b a) (by simp))
   (λi c Z r=>r[t.size]? =some (J2 #[J7 e] BD (0,0))/\r[av.size]? =some (J2 #[J6 J9 n] Bp (0,0))/\ ∃(s:Sl) (u:List Pr),r[q.size]? =some (J2 #[J4 s.p s.len s.cap] AR (0,0))/\Own BO AQ r s u/\(∀ b,Z b↔(b=q.size\/s.ag=some b))/\(∀ b,s.ag=some b->b<r.size/\q.size<b)/\match c with
    |none=>u=l.take i/\i<=(l.takeWhile (Rn e)).length/\(i:Int)<n
    |some aC=>aC=some 0/\u=QH e n l)
   (λb=>b=q.size) (λb a f=>by have:=A.1 b a;omega) ?_ ?_ ?_ ?_ ?_ ?_
  ·rintro i c Z r ⟨_,_,s,u,q,v,h,k,_⟩ b a;rcases(h b).1 a with rfl|d
   ·exact Ag q
   ·exact(k b d).1
  ·rintro i c Z r o ⟨H,I,s,u,w,v,h,k,a4⟩ m;refine⟨m.ag H (λt=>by omega),m.ag I (λt=>by omega),s,u,m.ag w (λab=>ab.1 ((h _).2 (.inl rfl))),v.mod m (λc j ab=>ab.1 ((h _).2 (.inr j))),h,λb a=>⟨?_,(k b a).2⟩,a4⟩;have:=m.size;have:=(k b a).1;omega
  ·exact⟨a3,ax,⟨none,0,0⟩,[],a2,Own.nil,λb=>by simp[Sl.ag],λb a=>by simp[Sl.ag] at a,by simp,by omega,by simpa using Q⟩
  ·rintro i x ac r rec bn bo J ⟨H,I,s,u,w,v,h,k,rfl,R,a5⟩ aD a0 a6 a7 a8 aE;have bp:=(List.getElem?_eq_some_iff.1 J).1;have aF:=VV (p:=Rn e) (l:=l) R;refine ao.pair λbq aG br a9 C bs=>?_
   refine⟨rec,C.ag a6 (by simp),a7,?_⟩;generalize aH:aG.setIfInBounds (d.size+1) (.loop {rec with state:= .busy})=D;have B:Mod (λb=>b=d.size+1) aG D:=aH▸Mod.setObj rfl;have aI:D[d.size+1]? =some (.loop {rec with state:= .busy}):=by rw[<- aH];exact Ci (by omega)
   have T:=B.ag a9 (by omega);have U:=B.ag (C.ag H (by simp)) (by omega);have aJ:=B.ag (C.ag I (by simp)) (by omega);have aK:Mod (λb=>b=d.size+1) r D:=(Ext.mod C).trans B;have ag:=B.ag (C.ag w (by simp)) (by omega);have bt:=Ag w;have aL:=(v.ext C).mod B (λc j f=>aD ((h _).2 (.inr (f▸j))));have bu:=B.size;have aM:(l.take i).length=i:=by simp;omega
   refine ai.mk λah aN=>?_
   have ba:Rn e x=false->ah (true,()) D:=λL=>aN _ _ (af.yes rfl (aE _ _ (by
    refine⟨ac,λb a=> .inl a,aK.aj λb _ a=> .inr a,aI,U,aJ,s,l.take i,ag,aL,h,λb a=>⟨?_,(k b a).2⟩,rfl,?_⟩
    ·have:=(k b a).1;omega
    ·have:=aF.2.1 _ J L;have H:(l.takeWhile (Rn e)).take i=l.takeWhile (Rn e):=AE (by omega);have I:(l.takeWhile (Rn e)).take n.toNat=l.takeWhile (Rn e):=AE (by omega);unfold QH;rw[I,<-oP R,H])))
   have aO:Rn e x=true->ah (false,()) D:=λL=>aN _ _ (af.no rfl (by
    have bv:=aF.1 _ J L;refine Ad.mk (AL ag rfl) (AJ.mk (AL T rfl) (AJ.mk (AB T rfl) (AZ.mk (AB T rfl) ?_)));refine ao.bq (E:=BO) (x:=x) rfl GZ aL (by rw[aM];omega) (by rw[aM];simp[maxLen];omega) λy bb aP F aj _=>?_
    have bc:s.ag≠some q.size:=λf=>by have:=k _ f;omega
    refine ae.mk (F.ag ag bc) (by simp) λal bd M bw=>?_
    have bx:=F.size;have am:al[q.size]? =some (J2 #[J4 y.p y.len y.cap] AR (0,0)):=by simpa using bd
    have V:=aP.mod M (λc j f=>by
     rcases aj c j with d|d
     ·have:=k _ d;omega
     ·omega)
    have aQ:=M.ag (F.ag U (λf=>by have:=k _ f;omega)) (by omega);have an:=M.ag (F.ag aJ (λf=>by have:=k _ f;omega)) (by omega);have be:l.take i++ [x]=l.take (i+1):=by rw[Ax,J];rfl
    rw[be] at V;have aS: ∀b,(b=q.size\/y.ag=some b)->ac b\/r.size<=b:=by
     rintro b (rfl|a)
     ·exact .inl ((h _).2 (.inl rfl))
     ·rcases aj b a with d|d
      ·exact .inl ((h _).2 (.inr d))
      ·exact .inr (by omega)
    have aT:Mod (λb=>ac b\/b=d.size+1) r al:=
     ((aK.aj λb _ a=> .inr a).trans (F.aj λb _ a=> .inl ((h _).2 (.inr a)))).trans (M.aj λb _ a=> .inl ((h _).2 (.inl a)))
    have aU:=M.ag (F.ag aI (λf=>aD ((h _).2 (.inr f)))) (by omega);have aV: ∀b,y.ag=some b->b<al.size/\q.size<b:=by
     intro b a;have bz:b<bb.size:=by
      rcases aP.row with⟨rfl,_⟩|⟨g,bA,L,bf,_⟩
      ·simp[Sl.ag] at a
      ·simp[Sl.ag,L] at a;subst a;exact Ag bf
     refine⟨by omega,?_⟩;rcases aj b a with d|d
     ·exact(k _ d).2
     ·omega
    refine Ad.mk (AL am rfl) (AC.mk (AL an rfl) ?_);have aW:y.len=i+1:=by rw[V.len];simp;omega
    refine af.intro (λz=>aE _ _ ?_) (λz=>a8 _ ?_)
    ·refine⟨_,aS,aT,aU,aQ,an,y,_,am,V,λ_=>CH,aV,rfl,?_⟩;have z:((i+1:Nat):Int)=n:=by rw[aW] at z;simpa using z
     unfold QH;rw[<- z,AF,oP (by omega)]
    ·refine⟨_,aS,aT,aU,aQ,an,y,_,am,V,λ_=>CH,aV,rfl,by omega,?_⟩;have z:((i+1:Nat):Int)≠n:=by rw[aW] at z;simpa using z
     omega))
   refine AJ.mk (AL U rfl) ?_;rw[CZ];refine af.intro (λN=>?_) (λN=>?_)
   ·refine AJ.mk (AL T rfl) (AJ.mk (AL U rfl) ?_);show ah (!aR x.key e,()) D;cases aX:aR x.key e
    ·exact ba (by simp at N;simp[Rn,N,aX])
    ·exact aO (by simp[Rn,aX])
   ·exact aO (by simp at N;simp[Rn,N])
  ·rintro O' o ⟨_,_,s,u,w,v,h,k,rfl,R,a5⟩ O ap bg aq;have bh:=O.size;refine Ad.mk (AL w rfl) ⟨aq,?_⟩;have:QH e n l=l.take l.length:=by unfold QH;rw[AE (by omega),<-oP R,AE (by omega)]
   rw[<- this] at v;refine W s _ (v.mod (Mod.setObj (S:=λc=>c=d.size) rfl) λc j f=>ap ((h _).2 (.inr (f▸j)))) (λc j=>by have:=k _ j;omega) ?_;exact(aA o O).then (Mod.setObj (.inr (by omega)))
  ·rintro i aC O' o ⟨_,_,s,u,w,v,h,k,rfl,rfl⟩ J O ap bg aq;have bh:=O.size;refine Ad.mk (AL w rfl) ⟨aq,?_⟩;refine W s _ (v.mod (Mod.setObj (S:=λc=>c=d.size) rfl) λc j f=>ap ((h _).2 (.inr (f▸j)))) (λc j=>by have:=k _ j;omega) ?_;exact(aA o O).then (Mod.setObj (.inr (by omega)))
 ·refine az ?_;have:n.toNat=0:=by simp at Q;omega
  simp[QH,this]
end Go.Lf.G.M
namespace Go.Lf.G
open Go
open M (Sorted Ab Bw Av Ac Am BF Ah bz Az aP QH Rn)
def kS(f t k:A2I):Bool:= !aR k f&&(decide (t=⟨#[]⟩)||aR k t)
def RZ(f t:A2I)(l:List Pr):List Pr:=l.filter λx=>kS f t x.key
def nF(m:List Pr)(f t:A2I)(a:Int):List Pr:=(RZ f t m).take a.toNat
theorem AAx {p:Pr->Bool}{a:A2I->Bool}(b: ∀x,p x=a x.key)(k:A2I): ∀l:List Pr,Ab k (l.filter p)=if a k then Ab k l else none
 | []=>by split<;>rfl
 |x::l=>by
  have c:=AAx b k l;rw[AT,M.BB];by_cases h:x.key=k
  ·rw[if_pos h];cases d:a k with
   |true=>rw[if_pos (by rw[b,h];exact d),M.BB,if_pos h];rfl
   |false=>
    rw[if_neg (by rw[b,h,d];decide),c,d];rfl
  ·rw[if_neg h];split
   ·rw[M.BB,if_neg h];exact c
   ·exact c
theorem gh(k:A2I): ∀ {l:List Pr},Sorted l->l.drop (aP k l)=l.filter λx=> !aR x.key k
 | [],_=>by simp
 |x::l,s=>by
  have b:=List.pairwise_cons.1 s;rw[ZC,AT];by_cases h:aR x.key k=true
  ·rw[if_pos h,if_neg (by simp[h]),IF];exact gh k b.2
  ·have c: ∀a∈l,(!aR a.key k)=true:=λa d=>by
    grind [aR,absurd,M.DY]
   rw[if_neg h,if_pos (by simp[h]),HM,List.filter_eq_self.2 c]
theorem th(t:A2I): ∀ {l:List Pr},Sorted l->l.takeWhile (Rn t)=l.filter (Rn t)
 | [],_=>rfl
 |x::l,s=>by
  have a:=List.pairwise_cons.1 s;rw[LS,AT];by_cases h:Rn t x=true
  ·rw[if_pos h,if_pos h,th t a.2]
  ·rw[if_neg h,if_neg h];refine(List.filter_eq_nil_iff.2 λc d b=>h ?_).symm;have e:=a.1 c d;unfold M.Rn at b ⊢;rw[DE] at b ⊢
   grind [M.DY]
theorem AIm {f t:A2I}{l:List Pr}(s:Sorted l)(b:l.length<=1099511627776):QH t 1099511627776 (l.drop (aP f l))=RZ f t l:=by
 unfold M.QH;have a:Sorted (l.drop (aP f l)):=s.sublist (List.drop_sublist _ _);rw[th t a,gh f s,List.filter_filter,AE]
 ·unfold RZ;exact HG λx _=>by unfold kS M.Rn;rw[Bool.and_comm]
 grind
theorem XU {f t:A2I}{l:List Pr}(s:Sorted l):Sorted (RZ f t l):=s.sublist FA
theorem AIh(k f t:A2I)(l:List Pr):Ab k (RZ f t l)=if kS f t k then Ab k l else none:=AAx (λ_=>rfl) k l
theorem AFG(k f t:A2I): ∀a:List (List Pr),Am k (a.map (RZ f t))=if kS f t k then Am k a else none
 | []=>by split<;>rfl
 |l::a=>by
  rw[BW,M.EQ,M.EQ,AFG k f t a,AIh];split<;>rfl
theorem AQO {f t:A2I}{c:List (List Pr)}(d:bz c):bz (c.map (RZ f t)):=⟨λl a=>by
  obtain⟨x,b,rfl⟩:=List.mem_map.1 a;exact XU (d.sorted x b),λl a=>by
  obtain⟨x,b,rfl⟩:=List.mem_map.1 a;exact λe i=>d.aO x b e (List.mem_filter.1 i).1⟩
theorem ALe {f t:A2I}{a:List (List Pr)}(b:bz a):Ac (a.map (RZ f t))=RZ f t (Ac a):=
 (M.Dz _).ext (XU (M.Dz _)) λk=>by simp_all [M.LF,AQO,AFG,AIh]
theorem AQy {f t:A2I}{a:List (List Pr)}(c:bz a)(b:Int):QH t b (Az (Ac (a.map (RZ f t))))=nF (Az (Ac a)) f t b:=by
 rw[ALe c];have d:Az (RZ f t (Ac a))=RZ f t (Az (Ac a)):=by simp_all [M.Az,RZ,List.filter_filter,HG,Bool.and_comm]
 rw[d];unfold M.QH nF;have h: ∀x∈RZ f t (Az (Ac a)),Rn t x=true:=λx e=>by
  have:=(List.mem_filter.1 e).2;unfold kS at this;rw[A3] at this;exact this.2
 rw[th t (XU (VS (M.Dz _))),List.filter_eq_self.2 h]
def Tg(A:ak)(h:aa)(s:Sl)(b:List (List Pr)):Prop:=
 ∃a,Own kG Br h s a/\a.length=b.length/\ ∀(i:Nat) (v:iH) (l:List Pr),a[i]? =some v->b[i]? =some l->(∃ d,EY A P v.v d h l/\ ∀c,d c->s.ag≠some c)/\l.length<=1099511627776
theorem EY.at {A:ak}{fv:J0}{b T:Nat->Prop}{h e:aa}{l:List Pr}(d:EY A P fv b h l)(x:Mod T h e)(f: ∀c,b c-> ¬T c):EY A P fv b e l:=
 EY.aj d (λ_ h=>h) (λc a=>by have:=d.1 c a;have:=x.size;omega) λc a=>x.get c (d.1 c a) (f c a)
theorem Tg.ext {A:ak}{h a:aa}{s:Sl}{b:List (List Pr)}(q:Tg A h s b)(x:Ext h a):Tg A a s b:=by obtain⟨c,d,e,f⟩:=q;refine⟨c,d.ext x,e,λi v l j n=>?_⟩;obtain⟨⟨o,p,r⟩,t⟩:=f i v l j n;exact⟨⟨o,EY.at p x (λ_ _ h=>h),r⟩,t⟩
theorem Tg.nil {A:ak}{h:aa}:Tg A h ⟨none,0,0⟩ []:=⟨[],Own.nil,rfl,λi v l h=>by simp at h⟩
theorem Tg.lZ {A:ak}{h:aa}{s:Sl}{b:List (List Pr)}(q:Tg A h s b):M.tO A (λ_=>False) h s b:=by obtain⟨f,d,j,n⟩:=q;refine⟨f,d.view,λc a=>⟨d.lt a,λh=>h⟩,j,λi v l o p=> .inr ?_⟩;obtain⟨⟨t,e,u⟩,r⟩:=n i v l o p;exact⟨e.aj (λc a=>⟨e.1 c a,λh=>h⟩) (λc a=>a.1) (λ_ _=>rfl),r⟩
theorem Tg.one {A:ak}{h a:aa}{fv:J0}{l:List Pr}{e:Nat->Prop}{b:Nat}(d:EY A P fv e h l)(j:l.length<=1099511627776)(n:a[b]? =some (J2 #[fv] Br (0,0)))(x:Ext h a)(s:h.size<=b):Tg A a ⟨some ⟨b,0,none⟩,1,1⟩ [l]:=by
 refine⟨[⟨fv,d.one.1⟩],Own.lit (l:= [(⟨fv,d.one.1⟩:iH)]) n rfl (by simp[maxLen]),rfl,λi v t a f=>?_⟩;have o:i=0:=by grind
 subst o;simp only[HA,BT] at a f;subst a f;exact⟨⟨e,EY.at d x (λ_ _ h=>h),λc p r=>by have:=d.1 c p;simp[Sl.ag] at r;omega⟩,j⟩
theorem Tg.add {A:ak}{h:aa}{s:Sl}{p:List (List Pr)}{fv:J0}{l:List Pr}{e:Nat->Prop}{K:Sl->aa->Prop}{z:Q7}(q:Tg A h s p)(f:EY A P fv e h l)(H: ∀c,e c->s.ag≠some c)(I:l.length<=1099511627776)(J:p.length<=1000000)
  (B: ∀a d,Tg A d a (p++ [l])->Mod (λb=>s.ag=some b) h d->(∀ b,a.ag=some b->s.ag=some b\/h.size<=b)->K a d):
  ao h (J2 #[fv] Br) λb j=>BK A P (Builtin.append_ #[A9,A9] z #[J4 s.p s.len s.cap,J4 (some ⟨b,0,none⟩) 1 1]) j λv d=> ∃a:Sl,v=J4 a.p a.len a.cap/\K a d:=by
 obtain⟨r,C,D,L⟩:=q;refine ao.bq (E:=kG) (x:=⟨fv,f.one.1⟩) (s:=s) (l:=r) rfl M.ARr C (by omega) (by simp[maxLen];omega) λa d F u w _=>?_
 have N: ∀ {T:Nat->Prop} {t:J0} {n:List Pr},EY A P t T h n->(∀ c,T c->s.ag≠some c)-> ∃e,EY A P t e d n/\ ∀c,e c->a.ag≠some c:=λ{T} t n f y=>⟨T,EY.at f u (λc o=>y c o),λc o G=>by
  rcases w c G with j|j
  ·exact y c o j
  ·have:=f.1 c o;omega⟩
 refine B a d ⟨r++ [⟨fv,f.one.1⟩],F,by simp[D],λi v n j O=>?_⟩ u w;by_cases Q:i<r.length
 ·grind
 grind
section
variable {A : ak} {g h : aa} {q : Hp} {k : Nat -> Nat} {st : Db} {m : Bx} {R : A2H}
def aH(st:Db):List (List Pr):=st.ts.map (·.2)
def CY(st:Db):List Pr:=MC st.fr (aH st)
theorem bQ.jk(a:bQ g h q k st m): ∀p∈st.ts,Hg p.2:=λp c=>by
 obtain⟨i,b,rfl⟩:=CC c;have d:i<q.ps.length:=by rw[a.dw];exact b
 obtain⟨e,f,_,_,_,t⟩:=a.cW i q.ps[i] st.ts[i] (A2 d) (A2 b);exact t
theorem bQ.gr(b:bQ g h q k st m):bz (st.fr::aH st):=by
 refine⟨λl a=>?_,λl a=>?_⟩<;>rcases List.mem_cons.1 a with rfl|a
 ·exact b.fresh.sorted
 ·obtain⟨p,c,rfl⟩:=List.mem_map.1 a;exact(b.jk p c).aO.1
 ·exact b.fresh.aO
 ·obtain⟨p,c,rfl⟩:=List.mem_map.1 a;exact(b.jk p c).aO.2
theorem tj(f t:A2I)(l:List Pr):(RZ f t l).length<=l.length:=A0o ..
theorem ASY {f t:A2I}(d:bQ g h q k st m)(aq:st.fr.length<=1000000)(ar:st.ts.length<=100000)
  (O: ∀fv e,EY A P fv (λc=>c<e.size) e (Ac ((st.fr::aH st).map (RZ f t)))->Ext h e->R fv e):AA A P Sz #[Ak q.d,J7 f,J7 t] h R:=by
 refine AEx ?_;unfold YN;refine aE (AY.mk (AB d.cell rfl) ?_);refine M.tI d.fresh λfv j Q w au=>⟨_,rfl,?_⟩
 refine M.pW (.inr Q) (by grind) λsl av y aw z=>⟨_,rfl,?_⟩
 rw[AIm d.fresh.sorted (by omega)] at y;have ax:=tj f t st.fr;refine M.tP y.view (by omega) λay S B C az=>⟨_,rfl,Zl.mk B.one.1 (ao.mk λaA _ T D aC=>?_)⟩
 have U:=Tg.one B (by omega) T D (A0 _);have E:=((w.trans z).trans C).trans D;have V:=d.on E;refine aE (Ad.mk (s:=q.tp) (AB V.cell rfl) ?_);have aD:=d.dw;have aF:=d.cy.len;refine Loop.rule (λF x p=> ∃(i:Nat) (sl:Sl),x=(sl,(i:Int),())/\F=q.ps.length-i/\i<=q.ps.length/\Ext h p/\(∀ c,sl.ag=some c->h.size<=c)/\Tg A p sl ((st.fr::(aH st).take i).map (RZ f t))) ?_ ⟨0,⟨some ⟨S.size,0,none⟩,1,1⟩,rfl,rfl,by omega,E,λc b=>by
  simp[Sl.ag] at b;have:=((w.trans z).trans C).size;omega,by simpa using U⟩
 rintro K F _ p ⟨i,sl,rfl,rfl,aG,l,G,n⟩ W;dsimp only;refine af.intro (λX=>?_) (λX=>?_)
 ·have o:i<q.ps.length:=by grind
  have Y:i<st.ts.length:=by omega
  have H:q.ps[i]? =some q.ps[i]:=A2 o;have Z:st.ts[i]? =some st.ts[i]:=A2 Y;have aa:(aH st)[i]? =some st.ts[i].2:=by unfold aH;grind
  have I:=d.on l;refine I.cy.view.idx H λa _ c=>AY.mk (Cells.pt c) ?_
  obtain⟨aI,aJ,ab,ac,aK,r⟩:=I.cW i _ _ H Z;refine AIK ab ac r.fx λaL aM ae u aN=>⟨_,rfl,?_⟩
  have aO:=r.many;refine M.pW (.inr ae) (by grind) λaP aQ J ag L=>⟨_,rfl,?_⟩
  rw[AIm r.aO.1 (by omega)] at J;have aR:=tj f t st.ts[i].2;refine M.tP J.view (by omega) λaS aT N ah aU=>⟨_,rfl,Zl.mk N.one.1 ?_⟩
  have v:=(u.trans L).trans ah;refine Tg.add (n.ext v) N (λc b ai=>?_) (by omega) (by simp[aH];omega) λaj e ak al am=>?_
  ·obtain⟨aV,an,_,_⟩:=n;have aW:=an.lt ai;rcases b.2 with j|j
   ·have:=(u.trans L).size;omega
   ·have:=ag c j;have:=u.size;omega
  ·rw[Aa (by omega)];refine W (q.ps.length-(i+1)) _ _ (by omega) ⟨i+1,aj,rfl,rfl,o,?_,λc b=>?_,?_⟩
   ·exact(l.trans v).then (al.aj λc _ b=> .inr (G c b))
   ·rcases am c b with j|j
    ·exact G c j
    ·have:=l.size;have:=v.size;omega
   ·rw[Ax,aa];simpa using ak
 ·have o:i=q.ps.length:=by grind
  subst o;rw[AE (by simp[aH];omega)] at n;refine M.tE n.lZ (λc h=>h.elim) (by simp[aH];omega) (AQO d.gr) λfv e ap x _=>⟨_,rfl,O fv e (ap.aj (λc b=>b.1) (λc b=>b) (λ_ _=>rfl)) (l.trans x)⟩
theorem Zm(b:bQ g h q k st m){K:Bool×Unit->aa->Prop}(c:K (false,()) h):af ((some (⟨q.d,0,none⟩:Q6)).isNone) (K (true,()) h) (At (some (⟨q.d,0,none⟩:Q6)) λa=>AZ h (a.add 8) λt=>K (t,()) h):=
 af.no rfl (aE (AZ.mk (AB b.cell rfl) c))
theorem ARA {f t:A2I}{d:Int}(a:bQ g h q k st m)(n:st.fr.length<=1000000)(o:st.ts.length<=100000)(C:(Ac (st.fr::aH st)).length<=1099511627776)
  (p: ∀s b,Own BO AQ b s (nF (CY st) f t d)->(∀ c,s.ag=some c->h.size<=c)->Ext h b->R (J1 #[J4 s.p s.len s.cap,J6 J9 0]) b):AA A P QL #[Ak q.d,J7 f,J7 t,J6 J9 d] h R:=by
 refine ADP ?_;unfold WV;refine ai.mk λK r=>Zm a (r _ _ (af.no rfl ?_))
 refine ASY a n o λfv D u e=>⟨_,rfl,?_⟩
 refine M.tF (.inr u) λE F v i G=>⟨_,rfl,?_⟩
 have w:(Az (Ac ((st.fr::aH st).map (RZ f t)))).length<=1099511627776:=by
  rw[ALe a.gr]
  grind [sT,RZ,Ac,aH,tj]
 refine M.pW (.inr v) w λj x l y z=>⟨j,rfl,?_⟩
 rw[AQy a.gr] at l;exact p j x l (λc B=>by have:=y c B;have:=(e.trans i).size;omega) ((e.trans i).trans z)
theorem AE9(key:A2I): ∀ {l:List Pr},Sorted l->M.NU key l=WH key l
 | [],_=>rfl
 |x::l,s=>by
  have c:=List.pairwise_cons.1 s;have a:=AE9 key c.2;unfold M.NU WH at a ⊢;rw[ZC,M.BB];by_cases h:aR x.key key=true
  ·rw[if_pos h,if_neg (M.Lx h),Wb];exact a
  ·rw[if_neg h,HA];by_cases b:x.key=key
   ·simp[b]
   ·have d:Ab key l=none:=M.Eh λe f i=>h (by
     grind)
    simp[b,d]
def IK(m:List Pr)(key:A2I):A2I×Bool:=match Ab key m with|some p=>(p.val,true)|none=>(⟨#[]⟩,false)
theorem AO8 {key:A2I}(d:bQ g h q k st m)(am:st.ts.length<=100000)(I:key.size<=1099511627776)
  (v: ∀B,Ext h B->R (J1 #[J7 (IK (CY st) key).1,J3 (IK (CY st) key).2,J6 J9 0]) B):AA A P Od #[Ak q.d,J7 key] h R:=by
 refine Wt ?_;unfold Rq;refine ai.mk λK J=>Zm d (J _ _ (af.no rfl ?_))
 refine aE (AY.mk (AB d.cell rfl) ?_);have C: ∀p,(Ab key st.fr).or (Am key (aH st))=some p->IK (CY st) key=(p.val, !p.gone):=λp f=>by
  have e:Ab key (CY st)=alive (some p):=by unfold CY;rw[Gp key d.gr,f]
  unfold IK;rw[e,JR];cases L:p.gone with
  |false=>rfl
  |true=>
   have N:Ah p=0:=by
    cases j:Ab key st.fr with
    |some x=>
     rw[j] at f;simp only[Option.some_or,BT] at f;subst f;exact d.fresh.aO x (M.Ol j).2
    |none=>
     rw[j,Lo] at f;unfold M.Am at f;obtain⟨l,O,Q⟩:=A08 f;exact d.gr.aO l (AG _ O) p (M.Ol Q).2
   have S:=(pE N).gone L;show((⟨#[]⟩:A2I),false)=(p.val, !true);rw[sM S];rfl
 have T:(Ab key st.fr).or (Am key (aH st))=none->IK (CY st) key=(⟨#[]⟩,false):=λf=>by
  have e:Ab key (CY st)=alive none:=by unfold CY;rw[Gp key d.gr,f]
  unfold IK;rw[e];rfl
 refine M.AQa d.fresh λan U=>⟨_,_,_,_,rfl,?_⟩
 rw[AE9 key d.fresh.sorted];refine ao.pair λb V _ n W ap=>?_
 have w:=U.trans W;cases j:Ab key st.fr with
 |some p=>
  have e:WH key st.fr=(p,true):=by unfold WH;rw[j]
  rw[e] at n ⊢;refine af.yes rfl (AJ.mk (AB n rfl) (AZ.mk (AB n rfl) ?_));have:=v V w;rw[C p (by rw[j];rfl)] at this;exact this
 |none=>
  have e:WH key st.fr=(M.VA,false):=by unfold WH;rw[j]
  rw[e] at n ⊢;refine af.no rfl ?_;have X:=d.on w;refine aE (Ad.mk (s:=q.tp) (AB X.cell rfl) ?_);have aq:=d.dw;have ar:=d.cy.len;refine Loop.rule (λD x y=> ∃i:Nat,x=((i:Int),())/\D=q.ps.length-i/\i<=q.ps.length/\Ext h y/\Am key ((aH st).take i)=none) ?_ ⟨0,rfl,rfl,by omega,w,rfl⟩;rintro au D _ y ⟨i,rfl,rfl,av,z,o⟩ Y;dsimp only;refine af.intro (λZ=>?_) (λZ=>?_)
  ·have r:i<q.ps.length:=by grind
   have aa:i<st.ts.length:=by omega
   have E:q.ps[i]? =some q.ps[i]:=A2 r;have ab:st.ts[i]? =some st.ts[i]:=A2 aa;have ac:(aH st)[i]? =some st.ts[i].2:=by unfold aH;grind
   have F:=d.on z;refine F.cy.view.idx E λa _ c=>AY.mk (Cells.pt c) ?_
   obtain⟨aw,ax,ae,ay,az,ag⟩:=F.cW i _ _ E ab;refine ARa ae ag.fx I λaA ah=>⟨_,_,_,_,rfl,?_⟩
   refine ao.pair λaC aj _ t ak aD=>?_
   have G:=(z.trans ah).trans ak;have H:(aH st).take (i+1)=(aH st).take i++ [st.ts[i].2]:=by rw[Ax,ac];rfl
   have al:Am key (aH st)=(Ab key st.ts[i].2).or (Am key ((aH st).drop (i+1))):=by
    conv=>lhs;rw[<- DH (i+1) (aH st),H]
    rw[M.Qf,M.Qf,o,M.EQ];have:Am key ([]:List (List Pr))=none:=rfl;rw[this,Option.or_none,Lo]
   cases u:Ab key st.ts[i].2 with
   |some p=>
    have e:WH key st.ts[i].2=(p,true):=by unfold WH;rw[u]
    rw[e] at t ⊢;refine af.yes rfl (AJ.mk (AB t rfl) (AZ.mk (AB t rfl) ?_));have:=v aj G;rw[C p (by rw[j,al,u];rfl)] at this;exact this
   |none=>
    have e:WH key st.ts[i].2=(M.VA,false):=by unfold WH;rw[u]
    rw[e] at t ⊢;refine af.no rfl ?_;rw[Aa (by omega)];refine Y (q.ps.length-(i+1)) _ _ (by omega) ⟨i+1,rfl,rfl,r,G,?_⟩;rw[H,M.Qf,o,M.EQ,u];rfl
  ·have r:i=q.ps.length:=by grind
   subst r;rw[AE (by simp[aH];omega)] at o;have:=v y z;rw[T (by rw[j,o];rfl)] at this;exact this
theorem AQu {b:Nat}(c:QS h b){K:Bool×Unit->aa->Prop}(d:K (true,()) h):af ((some (⟨b,0,none⟩:Q6)).isNone) (K (true,()) h) (At (some (⟨b,0,none⟩:Q6)) λa=>AZ h (a.add 8) λt=>K (t,()) h):=by obtain⟨e,c1,c2,c3,f,i,j,l,hd⟩:=c;exact af.no rfl (aE (AZ.mk (AB hd rfl) d))
end
open M (Sorted Ab Bw Av Ac Am BF Ah bz Az)
def nG(a:Nat):Nat:=20000*a+10000000
structure bV where
 C:Nat
 W0:Nat
 A:Nat
 hC:C<=100000
 hA:A<=60000
 hW:W0+A*nG C<=8000000000000
 bx:Nat
 zf:A2I->Option (A2I×A2I)
 cm:Bool
def bV.K(a:bV):Nat:=nG a.C
theorem bV.wt(b:bV){a:Nat}(c:a<=b.A):b.W0+a*b.K<=8000000000000:=by
 have d:=b.hW;have f:a*b.K<=b.A*b.K:=AK _ c;have e:b.A*nG b.C=b.A*b.K:=rfl;rw[e] at d;generalize a*b.K=x at*
 generalize b.A*b.K=g at*
 omega
theorem AFl: ∀a:List (List UInt8),(∀ r∈a,r.length<=1048576)->(aL a).length<=(a.map List.length).sum+a.length*14
 | [],_=>by simp
 |r::a,b=>by
  have d:=(Ij (b r Cd)).2;have e:=AFl a λx c=>b x (AG _ c)
  rw[Xt];simp only[A1,BW,GB,A6];omega
theorem AFb: ∀a:List (List Pr),((a.map BN).map List.length).sum=(BN a.flatten).length
 | []=>rfl
 |b::a=>by
  simp only[BW,GB,List.flatten_cons,AFb a];simp[BN]
theorem ANu {a b s c f p:Nat}(d:b<=s+c*14)(e:s=p+f)(g:p<=a*8276)(h:f<=1048576)(i:c<=a+2):b<=8400*a+1100000:=by omega
theorem ALw {l:List Pr}(t:Hg l):(Js l).length<=8400*l.length+1100000:=by
 have c:=AFl (aT l (NJ l)) (OC t.fx);have d:((aT l (NJ l)).map List.length).sum=(BN l).length+(WL l (NJ l)).length:=by have a:=AFb (Kv l);rw[AM6] at a;rw[<- a];simp only[aT,By,List.sum_append,BW,RC,GB,List.sum_nil,G0]
 have b:(aT l (NJ l)).length<=l.length+2:=by
  have b:(aT l (NJ l)).length=CG l+1:=by simp[aT,JK]
  have e:CG l<=l.length+1:=by unfold CG;omega
  omega
 exact ANu c d (ME t.ok) (Yc t.fx) b
def OU(a:Bz):Nat:=((Ar a).names.map λb=>(a.T b).length).sum+(Ih a).flatten.length
structure Ee (F:bT) (st:Db) (D:Bz):Prop where
 ok:BH F D
 names:(Ar D).names=st.ts.map (·.1)
 cy: ∀p∈st.ts,D.T p.1=p.2
 aZ:(Ar D).aZ=st.aZ
 next:(Ar D).next<=st.next
 below: ∀p∈st.ts,p.1<st.next
 fr:st.fr=FD D
 gU: ∀n,st.az<=n->n<=99999999->(st.bB=true->n≠st.az)->F (aD nl n)=none
 jR:st.bB=true->F (aD nl st.az)=some (AX (aL ((D.L st.az).map (BU st.az))),bg)
 jQ: ∀n,st.aM<=n->n<=99999999->F (aD nn n)=none
 fy:1<=st.aZ/\st.aZ<=st.az
 aM:1<=st.aM
 clean: ∀n,F (ba n)≠none->n∈st.ts.map (·.1)
structure TY (st:Db) (D:Bz) (aJ c:Nat):Prop where
 az:st.az<=8*aJ+4
 aM:st.aM<=8*aJ+4
 next:st.next<=8*aJ+4
 cw:st.ts.length<=aJ
 ck:OU D<=c
 aS:D.aS<=8*aJ+6
 bd:D.bd<=8*aJ+6
structure jA (F:bT) (D:Bz) (aJ c:Nat):Prop where
 aS:D.aS<=8*aJ+8
 bd:D.bd<=8*aJ+8
 next:(Ar D).next<=8*aJ+8
 aZ:(Ar D).aZ<=8*aJ+8
 cw:(Ar D).names.length<=aJ
 ck:OU D<=c
 nQ: ∀n,F (ba n)≠none->n<8*aJ+8
def Rec(b:bT)(aJ c:Nat)(d:List Pr):Prop:= ∃a,BH b a/\jA b a aJ c/\cM a=d
def jB(a:bT)(aJ c:Nat)(b:List Pr):Prop:= ∀G,Jo a G->Rec G aJ c b
theorem TY.mono {st:Db}{a:Bz}{aJ b c d:Nat}(l:TY st a aJ c)(e:aJ<=b)(f:c<=d):TY st a b d:=
 ⟨by have:=l.az;omega,by have:=l.aM;omega,by have:=l.next;omega,by have:=l.cw;omega,by have:=l.ck;omega,by have:=l.aS;omega,by have:=l.bd;omega⟩
theorem jA.mono {a:bT}{b:Bz}{aJ d c e:Nat}(l:jA a b aJ c)(h:aJ<=d)(i:c<=e):jA a b d e:=
 ⟨by have:=l.aS;omega,by have:=l.bd;omega,by have:=l.next;omega,by have:=l.aZ;omega,by have:=l.cw;omega,by have:=l.ck;omega,λf g=>by have:=l.nQ f g;omega⟩
theorem Rec.mono {a:bT}{aJ b c d:Nat}{e:List Pr}(f:Rec a aJ c e)(g:aJ<=b)(h:c<=d):Rec a b d e:=by obtain⟨i,j,k,l⟩:=f;exact⟨i,j,k.mono g h,l⟩
theorem Jo.some {a G:bT}(c:Jo a G){x:A2I}(b:G x≠none):a x≠none:=λd=>b (by
 have:=c x;rw[d] at this;exact this)
theorem Ee.iV {b:bT}{st:Db}{a:Bz}(L:Ee b st a):(Ar a).names.length=st.ts.length:=by rw[L.names];simp
theorem Ee.aH {b:bT}{st:Db}{a:Bz}(L:Ee b st a):(Ar a).names.map a.T=G.aH st:=by rw[L.names,B9];exact CD λp c=>L.cy p c
theorem Ee.map {b:bT}{st:Db}{a:Bz}(L:Ee b st a):cM a=CY st:=by unfold cM CY MC;rw[L.aH,<-L.fr]
theorem Ee.mg {b:bT}{st:Db}{a:Bz}(L:Ee b st a):iv (Ar a):=AIS L.ok
theorem Ee.nd {a:bT}{st:Db}{b:Bz}(L:Ee a st b):(st.ts.map (·.1)).Nodup:=by rw[<- L.names];exact L.mg.nd
theorem Ee.jU {d F':bT}{st:Db}{a:Bz}{aJ c:Nat}(L:Ee d st a)(l:TY st a aJ c)(e: ∀b,F' (ba b)≠none->b<8*aJ+8):jA F' a aJ c:=by have:=L.next;have:=l.next;have:=L.fy;have:=l.az;exact⟨by have:=l.aS;omega,by have:=l.bd;omega,by omega,by rw[L.aZ];omega,by rw[L.iV];exact l.cw,l.ck,e⟩
theorem Ee.fP {a:bT}{st:Db}{b:Bz}{aJ c:Nat}(L:Ee a st b)(l:TY st b aJ c){n:Nat}(d:a (ba n)≠none):n<st.next:=by obtain⟨p,e,rfl⟩:=List.mem_map.1 (L.clean n d);exact L.below p e
theorem Ee.jj {a:bT}{st:Db}{b:Bz}{aJ c:Nat}(L:Ee a st b)(l:TY st b aJ c):a (ba st.next)=none:=by
 cases d:a (ba st.next) with
 |none=>rfl
 |some p=>exact absurd (L.fP l (n:=st.next) (by rw[d];simp)) (by omega)
theorem Ee.jH {b:bT}{st:Db}{a:Bz}{aJ c:Nat}(L:Ee b st a)(l:TY st a aJ c):jB b aJ c (CY st):=λG d=>by
 refine⟨a,L.ok.dj d,L.jU l λf e=>?_,L.map⟩;have g:=L.fP l (d.some e);have:=l.next;omega
theorem Ee.jS {e F':bT}{st:Db}{b:Bz}{aJ c:Nat}(L:Ee e st b)(l:TY st b aJ c)(h: ∀x,(∀ a,a∉st.ts.map (·.1)->x≠ba a)->F' x=e x)(i: ∀a,F' (ba a)≠none->a<8*aJ+8):BH F' b/\jB F' aJ c (CY st):=by
 have f:BH F' b:=L.ok.gu λx j=>h x λa d=>j a (by rw[L.names];exact d)
 exact⟨f,λG g=>⟨b,f.dj g,L.jU l λa d=>i a (g.some d),L.map⟩⟩
theorem ALG {a b:Bz}{f:Nat}(d:b.L=a.L)(e:b.aS=a.aS)(g:(Ar b).aZ=f):Ih b=(List.range a.aS).flatMap λc=>if c<f then [] else a.L c:=by unfold Ih;rw[d,e,g]
theorem AFY {a b:Bz}(c:b.L=a.L)(d:b.aS=a.aS)(e:(Ar b).aZ=(Ar a).aZ):Ih b=Ih a:=by rw[ALG c d e];rfl
theorem ANN {c a:Bz}{f:Nat}(d:a.L=c.L)(e:a.aS=c.aS)(g:(Ar a).aZ=f)(h: ∀b,f<=b->c.L b= []):Ih a= []:=by
 rw[ALG d e g,List.flatMap_eq_nil_iff];intro b _;split
 ·rfl
 ·exact h b (by omega)
theorem AHg {a b:Bz}(d:b.L=a.L)(e:b.aS=a.aS)(c:Ar b=Ar a)(f:b.T=a.T):cM b=cM a/\OU b=OU a:=by have g:=AFY d e (congrArg Nt.aZ c);unfold cM FD OU;rw[g,c,f];exact⟨rfl,rfl⟩
structure Bt (B:bV) (g h:aa) (q:Hp) (k:Nat->Nat) (st:Db) (m:Bx) (D:Bz) (aJ c:Nat):Prop where
 mem:bQ g h q k st m
 up:m.down=false
 dN:Ee (ff m) st D
 lim:TY st D aJ c
 wt:aY m.files<=B.W0+aJ*B.K
 hc:c<=B.C
theorem Bt.aJ {b:bV}{g d:aa}{e:Hp}{f:Nat->Nat}{st:Db}{m:Bx}{h:Bz}{aJ i c:Nat}(a:Bt b g d e f st m h aJ c)(j:aJ<=i):Bt b g d e f st m h i c:=
 ⟨a.mem,a.up,a.dN,a.lim.mono j (A0 _),As a.wt (Hi (AK _ j) _),a.hc⟩
theorem AOe(l:List (List Pr)):M.total l=(l.map List.length).sum:=rfl
theorem Ee.cw {b:bT}{st:Db}{a:Bz}(L:Ee b st a):OU a=M.total (G.aH st)+(Ih a).flatten.length:=by unfold OU;rw[<- L.aH,AOe,B9];rfl
theorem AMX(a:Bz):(FD a).length<=(Ih a).flatten.length:=by have:=M.RY (l:=(Ih a).flatten) (t:= []);unfold FD;simpa using this
theorem Ee.dB {b:bT}{st:Db}{a:Bz}{aJ c:Nat}(L:Ee b st a)(l:TY st a aJ c):st.fr.length+M.total (G.aH st)<=c:=by have d:=L.cw;have e:=AMX a;have f:=l.ck;rw[L.fr];omega
theorem Ee.jW {b:bT}{st:Db}{a:Bz}{aJ c:Nat}(L:Ee b st a)(l:TY st a aJ c):(Ac (st.fr::G.aH st)).length<=c:=by have d:=M.UC (st.fr::G.aH st);rw[M.AJw] at d;have:=L.dB l;omega
theorem Ee.ga {b:bT}{st:Db}{a:Bz}{aJ c:Nat}(L:Ee b st a)(l:TY st a aJ c):(Gd (G.aH st)).length<=M.total (G.aH st):=by have d:=M.UC (G.aH st);have e:=sT (Ac (G.aH st));unfold Gd;omega
end Go.Lf.G
