/-
 Contracts: a log opened; added to, synced, rotated, dropped (chapter 4).
-/
import Derived.Test.YtecomiijolnjpaaGreatDoorLfX2ToY8
import Derived.Test.YtecomiijolnjpaaGreatDoorLfU2ToS3
import Derived.Test.YtecomiijolnjpaaGreatDoorLfAToI
import Derived.Lib.AppendZerosOnto
import Derived.Lib.Overlaps
import Derived.Laws.IdiomCopy
import Derived.Laws.Externs
set_option maxRecDepth 100000
set_option linter.unusedVariables false
set_option linter.unusedSimpArgs false
open Go.IntKind renaming i64→J9,wrap→J8
open Go.Value renaming string→J7,int→J6,pointer→J5,slice→J4,bool→J3,tuple→J1
open Go.Obj renaming cells→J2
open Go renaming Value→J0,Addr→Q6,TypeId→Q7,FuncId→Q8,Program→Q1
open Go.Addr renaming add→Q9,mk→Q5
namespace Go.Lf.G
open Go
def fM(l:List Fi)(a:A2P):Nat:=match Cb a l with|none=>0|some f=>f.bX.size+f.soft.size
theorem xF {a:A2P}{f:Fi}{l:List Fi}:Cb a (f::l)=if f.name=a then some f else Cb a l:=by rw[GL]
theorem re(a:A2P): ∀l:List Fi,fM l a+bg (Pd a l)<=bg l
 | []=>by simp[fM,Cb,Pd,bg]
 |f::l=>by
  have h:=re a l;have e:bg (f::l)=f.bX.size+f.soft.size+1+bg l:=by simp[bg]
  by_cases b:f.name=a
  ·have c:fM (f::l) a=f.bX.size+f.soft.size:=by unfold fM;rw[xF,if_pos b]
   have d:Pd a (f::l)=Pd a l:=by simp[Pd,b]
   rw[c,d,e];omega
  ·have c:fM (f::l) a=fM l a:=by unfold fM;rw[xF,if_neg b]
   have d:Pd a (f::l)=f::Pd a l:=by simp[Pd,b]
   have g:bg (f::Pd a l)=f.bX.size+f.soft.size+1+bg (Pd a l):=by simp[bg]
   rw[c,d,g,e];omega
theorem xG: ∀(a:List A2P),a.Nodup-> ∀l:List Fi,(a.map (fM l)).sum<=bg l
 | [],_,l=>by simp
 |k::a,b,l=>by
  rw[List.nodup_cons] at b;have c:=xG a b.2 (Pd k l);have d:a.map (fM (Pd k l))=a.map (fM l):=CM λx e=>by
   unfold fM;rw[ZV,if_neg (λf=>by subst f;exact b.1 e)]
  rw[d] at c;have:=re k l;simp only[By,GS];omega
def iF(m:Bx)(a:A2P)(b:Nat):A2P:=(Te m (aD a b)).1
noncomputable def Ry (a:A2P) (m:Bx) (l:List Nat):List A2P:=l.flatMap λb=>(kH (bl (iF m a b))).map AX
theorem xH {m:Bx}(hd:m.down=false)(a:A2P):(Te m a).1.size=fM m.files a:=by
 unfold Te fM;rw[if_neg (by simp[hd])];cases Cb a m.files with
 |none=>rfl
 |some f=>simp[Hn]
theorem rf {nm:A2P}{m:Bx}(hd:m.down=false){l:List Nat}(b:l.Pairwise (· < ·)):(Ry nm m l).length<=bg m.files:=by
 have e:(Ry nm m l).length<=((l.map (aD nm)).map (fM m.files)).sum:=by
  unfold Ry;clear b
  induction l with
  |nil=>simp
  |cons f l d=>
   have g:=AGk (qC (bl (iF m nm f)));rw[BA,iF,xH hd] at g;simp only[AH,A1,BE,By,GS] at d ⊢;unfold iF at d ⊢;omega
 refine AF e (xG _ ?_ _);refine List.pairwise_map.2 (b.imp λ{a c} i h=>?_);have:=Ib h;omega
theorem xI {R:al}{d:aa}{b:Nat}{S:Nat->Prop}{m:Bx}{nm:A2P}{w:A2O}(E:cj d)(D:Cm d b S m)(hd:m.down=false)(aw:0<nm.size)(F:nm.size<=8)(T:bg m.files<=8000000000000)
  (U: ∀g l,mg nm m l->l.getLast?.getD 0=99999999->Ext d g->w (J1 #[J5 none,J4 none 0 0,J6 J9 2]) g)
  (V: ∀g l r sl,mg nm m l->l.getLast?.getD 0≠99999999->Ext d g->d.size<=r->g[r]? =some (J2 #[Ap b,J7 nm,J6 J9 ((l.getLast?.getD 0+1:Nat):Int),J3 false] Zl (0,0))->View IV g sl (Ry nm m l)->
   (∀ c,sl.af=some c->d.size<=c/\c≠r)->w (J1 #[Ap r,J4 sl.p sl.len sl.cap,J6 J9 0]) g):AA R P Qk #[Ap b,J7 nm] d w:=by
 refine AIe ?_;unfold tY;refine ae.no rfl (ah.mk λK W=>?_);have X:bL nm (⟨#[]⟩:A2P)=false:=by rw[CY,decide_eq_false_iff_not];rintro rfl;have:(⟨#[]⟩:A2P).size=0:=rfl;omega
 rw[X];refine ae.no rfl (W _ _ (ae.no (by simp;omega) ?_));refine xE E D hd (by omega) T λG Y l h v2 o _=>⟨Y,_,rfl,ae.no rfl ?_⟩
 have ax:l.length<=99999999:=by
  have Z: ∀(l:List Nat) (s:Nat),l.Pairwise (· < ·)->(∀ e∈l,s<e/\e<=99999999)->l.length+s<=99999999\/l= []:=by
   intro l
   induction l with
   |nil=>intro s _ _;exact .inr rfl
   |cons a l ab=>
    intro s y H;rw[RR] at y;have ay:=H a (by simp);rcases ab a y.2 (λe t=>⟨y.1 e t,(H e (An _ t)).2⟩) with d|d
    ·left;simp only[A5];omega
    ·subst d;left;simp;omega
  rcases Z l 0 h.inc (λe t=>by have:=(h.mem e).1 t;omega) with d|d
  ·omega
  ·subst d;simp
 refine Loop.rule (λI x p=> ∃(i:Nat) (sl:Sl),x=(sl,(((l.take i).getLast?.getD 0:Nat):Int),(i:Int),())/\Ext G p/\Own IV Az p sl (Ry nm m (l.take i))/\(∀ c,sl.af=some c->G.size<=c)/\i<=l.length/\I=l.length-i) ?_
  ⟨0,⟨none,0,0⟩,rfl,Mod.refl,Own.nil,λc n=>by simp[Sl.af] at n,AD _,rfl⟩
 rintro az I _ p ⟨i,sl,rfl,j,u,f,aA,rfl⟩ ac;have J:(l.map λe:Nat=>(e:Int)).length=l.length:=BE ..;rw[v2.len,J];refine ae.intro (λz=>?_) (λz=>?_)
 ·have q:i<l.length:=by simpa using z
  have ag:l[i]? =some l[i]:=A2 q;have ad:l[i]∈l:=AW q;obtain⟨aC,aE,L⟩:=(h.mem l[i]).1 ad;have M:l.take (i+1)=l.take i++ [l[i]]:=by rw[Ax,ag];rfl
  have af:(l.take (i+1)).getLast?.getD 0=l[i]:=by rw[M,T6];rfl
  have N:Ry nm m (l.take (i+1))=Ry nm m (l.take i)++(kH (bl (iF m nm l[i]))).map AX:=by rw[M];unfold Ry;rw[GC];simp
  have A:=rf (nm:=nm) (m:=m) hd (l:=l.take (i+1)) (h.inc.sublist (List.take_sublist _ _));rw[N,A1,BE] at A;rw[<- J,<-v2.len];refine(v2.ext j).idx (i:=i) (x:=(l[i]:Int)) (by rw[Bm,ag];rfl) λa _ c=>?_
  refine AC.mk c.int ?_;have O:=o.trans j;refine Xp (E.ext O) (by omega) (by omega) λaF v=>⟨_,rfl,?_⟩
  refine oU ((D.ext O).ext v) ⟨_,_,rfl,?_⟩;have ai:(Te m (aD nm l[i])).2=0:=by
   unfold Te;rw[if_neg (by simp[hd])];cases aj:Cb (aD nm l[i]) m.files with
   |none=>rw[aj] at L;cases L
   |some f=>rfl
  rw[ai];refine ae.no rfl ?_;have am:(Te m (aD nm l[i])).1.size<=8000000000000:=by rw[xH hd];have:=re (aD nm l[i]) m.files;omega
  refine AOf am λaG an aH B ao=>⟨an,_,rfl,?_⟩
  refine GX (E:=IV) xA ((u.ext v).ext B) ao (by rw[BE];unfold iF at A;omega) (by rw[BE];unfold iF at A;simp[maxLen];omega) λap aI aq ar au aJ=>?_
  dsimp only;rw[Ab (by omega)];refine ac (l.length-(i+1)) _ _ (by omega) ⟨i+1,ap,?_,((j.trans v).trans B).more ar f,?_,λc n=>?_,q,rfl⟩
  ·rw[af]
  ·rw[N];exact aq
  ·rcases au c n with d|d
   ·exact f c d
   ·have:=j.size;have:=v.size;have:=B.size;omega
 ·have q:i=l.length:=by simp at z;omega
  subst q;rw[C5] at u ⊢;refine ae.intro (λk=>?_) (λk=>?_)
  ·have k:l.getLast?.getD 0=99999999:=by simp at k;omega
   exact U p l h k (o.trans j)
  ·have k:l.getLast?.getD 0≠99999999:=by simp at k;omega
   have aK:l.getLast?.getD 0<=99999999:=by
    cases av:l.getLast? with
    |none=>simp
    |some e=>
     have:=(h.mem e).1 (Tl av);simp;omega
   refine ak.mk λF _ C Q aL=>?_
   dsimp only at C ⊢;rw[Ab (by omega)] at C;refine V F l p.size sl h k ((o.trans j).trans Q) (by have:=o.size;have:=j.size;omega) C (u.ext Q).view λc n=>by have:=f c n;have:=o.size;have:=u.lt n;omega
def EM(a:aa)(c b:Nat)(d:A2P)(e:Nat)(f:Bool):Prop:=a[c]? =some (J2 #[Ap b,J7 d,J6 J9 (e:Int),J3 f] Zl (0,0))
theorem EM.mod {c d:aa}{a b:Nat}{e:A2P}{f:Nat}{g:Bool}{h:Nat->Prop}(L:EM c a b e f g)(x:Mod h c d)(i: ¬h a):EM d a b e f g:=x.af L i
theorem EM.ext {a c:aa}{d b:Nat}{e:A2P}{f:Nat}{g:Bool}(L:EM a d b e f g)(x:Ext a c):EM c d b e f g:=x.af L (λa=>a)
theorem xJ {s:al}{a:aa}{d b e:Nat}{f rec:A2P}{p:Bool}{i:Nat->Prop}{m:Bx}{t:A2O}(H:cj a)(L:EM a d b f e p)(I:Cm a b i m)(u: ¬i d)(X: ∀j,Mod i a j->cj j)(J:f.size<=1099511627776)(K:e<=4294967295)(M:rec.size<=1048576)(Y:bg m.files<=8000000000000)
  (w: ∀j S',Cm j b S' (EF m (aD f e) (AX (Cj (bl rec)))).2->EM j d b f e (p||decide ((EF m (aD f e) (AX (Cj (bl rec)))).1=0))->Mod (λc=>i c\/c=d) a j->(∀ c,S' c->i c\/(a.size<=c/\c≠d))->t (J6 J9 (EF m (aD f e) (AX (Cj (bl rec)))).1) j):
  AA s P JR #[Ap d,J7 rec] a t:=by
 refine Xa ?_;unfold P5;refine ae.no rfl ?_;have Z:=Af L;have N:(bl rec).length<=1048576:=by rw[BA];exact M
 have O:=JK N;rw[BA] at O;have Q:rec=AX (bl rec):=(strL_bl rec).symm;have R:AA s P Hg #[J7 rec] a λv l=> ∃x:A2P,∃y:Int,v=J1 #[J7 x,J6 J9 y]/\(x=AX (Cj (bl rec))/\y=0/\Ext a l):=by
  rw[Q];refine qU (by rw[strL_bl] at *;omega) (λl=>by rw[strL_bl] at *;omega) λ_ l k=>⟨_,_,rfl,?_,rfl,k⟩
  rw[strL_bl]
 refine AA.mono R ?_;rintro v l ⟨ac,ad,rfl,rfl,rfl,k⟩;refine⟨_,_,rfl,ae.no rfl ?_⟩;have q:=L.ext k;refine aE (AZ.mk (AL q rfl) (aE (AJ.mk (AB q rfl) (aE (AC.mk (AB q rfl) ?_)))));refine Xp (H.ext k) K J λaf S=>⟨_,rfl,?_⟩
 have n:=k.trans S;have z:=L.ext n;refine⟨AL z rfl,?_⟩;refine sq (I.ext n) (by rw[AP];omega) λr o A B C=>⟨_,rfl,?_⟩
 have D:EM r d b f e p:=z.mod B u;have ag:=n.size;have E: ∀c,o c->i c\/(a.size<=c/\c≠d):=λc g=>(C c g).imp id λa=>⟨by omega,by omega⟩
 have F:Mod (λc=>i c\/c=d) a r:=(Ext.mod n).trans (B.ai λc _ g=> .inl g);refine ae.intro (λh=>?_) (λh=>?_)
 ·have h:(EF m (aD f e) (AX (Cj (bl rec)))).1≠0:=by simpa using h
  exact w r o A (by rw[decide_eq_false h,Bool.or_false];exact D) F E
 ·have h:(EF m (aD f e) (AX (Cj (bl rec)))).1=0:=by simpa using h
  refine aE (ab.dm D (by simp) λT U G ah=>?_);have V: ¬o d:=λg=>by rcases C d g with a|a;exact u a;omega
  have:=w T o (A.mod G λc g W=>V (W▸g)) (by rw[decide_eq_true h,HK];simpa [EM] using U) (F.then (G.ai λc _ g=> .inl (.inr g))) E;rw[h] at this;exact this
def MU(m:Bx)(a:A2P)(b:Bool):Int×Bx:=if b then G6 m a else(0,m)
theorem xL {o:al}{a:aa}{f b c:Nat}{d:A2P}{e:Bool}{g:Nat->Prop}{m:Bx}{j:A2O}(p:cj a)(L:EM a f b d c e)(k:Cm a b g m)(q: ¬g f)(r:d.size<=1099511627776)(s:c<=4294967295)
  (l: ∀h,Cm h b g (MU m (aD d c) e).2->EM h f b d c e->Mod g a h->j (J6 J9 (MU m (aD d c) e).1) h):
  AA o P KZ #[Ap f] a j:=by
 refine AA5 ?_;unfold Tu;refine ae.no rfl (aE (Aa.mk (AB L rfl) ?_));cases e with
 |false=>exact ae.yes rfl (l a k L Mod.refl)
 |true=>
  refine ae.no rfl (aE (AZ.mk (AL L rfl) (aE (AJ.mk (AB L rfl) (aE (AC.mk (AB L rfl) ?_))))));refine Xp p s r λv i=>⟨_,rfl,⟨AL (L.ext i) rfl,?_⟩⟩
  refine sr (k.ext i) λt u n=>⟨_,rfl,?_⟩
  exact l t u ((L.ext i).mod n q) ((Ext.mod i).trans n)
theorem WB {v:al}{h:aa}{g b a:Nat}{d:A2P}{f:Bool}{i:Nat->Prop}{m:Bx}{l:A2O}(w:cj h)(L:EM h g b d a f)(x:Cm h b i m)(p: ¬i g)(y:d.size<=1099511627776)(G:a<99999999)
  (z:(MU m (aD d a) f).1≠0-> ∀e,Cm e b i (MU m (aD d a) f).2->EM e g b d a f->Mod i h e->l (J1 #[J6 J9 0,J6 J9 (MU m (aD d a) f).1]) e)
  (A:(MU m (aD d a) f).1=0-> ∀e,Cm e b i (MU m (aD d a) f).2->EM e g b d (a+1) false->Mod (λc=>i c\/c=g) h e->l (J1 #[J6 J9 (a:Int),J6 J9 0]) e):
  AA v P Gq #[Ap g] h l:=by
 refine Xg ?_;unfold QP;refine ae.no rfl (aE (AC.mk (AB L rfl) (ae.no (by simp;omega) ?_)));refine xL w L x p y (by omega) λB q n r=>⟨_,rfl,?_⟩
 refine ae.intro (λj=>?_) (λj=>?_)
 ·exact z (by simpa using j) B q n r
 ·have j:(MU m (aD d a) f).1=0:=by simpa using j
  refine aE (AC.mk (AB n rfl) ?_);rw[Ab (by omega)];refine aE (ab.dm n (by simp) λH C D I=>?_);refine aE (ab.dm C (by simp) λs E F J=>?_);have t:EM s g b d (a+1) false:=by simpa [EM] using E
  refine aE (AC.mk (AB t rfl) ?_);have o:J8 J9 (((a+1:Nat):Int)-1)=(a:Int):=by rw[wrap_i64 (by omega) (by omega)];omega
  rw[o];have u:=D.trans F;exact A j s (q.mod u λc k o=>p (o▸k)) t ((r.ai λc _ k=> .inl k).trans (u.ai λc _ k=> .inr k))
end Go.Lf.G
namespace Go.Lf
open Go
def ff(m:Bx)(a:A2P):Option (A2P×A2P):=(Cb a m.files).map λf=>(f.bX,f.soft)
theorem Ud {m:Bx}{a:A2P}:(Cb a m.files).isSome=(ff m a).isSome:=by unfold ff;cases Cb a m.files<;>rfl
theorem qD {m:Bx}(hd:m.down=false)(a:A2P):Te m a=match ff m a with|none=>(bD,31)|some p=>(p.1++p.2,0):=by unfold Te ff;rw[if_neg (by simp[hd])];cases Cb a m.files<;>rfl
theorem qE(m:Bx)(l:List Fi)(a:A2P):ff {IK m with files:=l} a=(Cb a l).map λf=>(f.bX,f.soft):=rfl
theorem AJ4 {a x:A2P}(l:List Fi):Cb x (TZ a l)=if x=a then some ((Cb a l).getD ⟨a,bD,bD⟩) else Cb x l:=by
 unfold TZ;cases c:Cb a l with
 |some f=>
  simp only[Option.isSome_some,if_true];by_cases b:x=a
  ·subst b;simp[c]
  ·rw[if_neg b]
 |none=>
  rw[if_neg (by simp),vB (λd e=>RY c d e)];by_cases b:x=a
  ·subst b;simp
  ·rw[if_neg b,if_neg (λg=>b g.symm)]
def jQ(m:Bx):Prop:=m.down=false/\m.fuel≠0
theorem AMC {m:Bx}(g:jQ m){a d:A2P}(e:Kn a=false):(EF m a d).1=0/\ ∀x,ff (EF m a d).2 x=if x=a then some (((ff m a).getD (bD,bD)).1,((ff m a).getD (bD,bD)).2++d) else ff m x:=by
 unfold EF;rw[if_neg (by simp[g.1]),if_neg (by simp[e]),if_neg g.2];refine⟨rfl,λx=>?_⟩;rw[qE,Zg (g:=RP d) (λ_=>rfl),AJ4];unfold ff;by_cases b:x=a
 ·subst b;rw[if_pos rfl,if_pos rfl];cases c:Cb x m.files with
  |none=>simp[RP]
  |some f=>
   have:=(Jy c).1;simp[RP,this]
 ·rw[if_neg b,if_neg b];cases c:Cb x m.files with
  |none=>rfl
  |some f=>
   have:=(Jy c).1;simp only[HN];rw[if_neg (by rw[this];exact b)]
theorem AQQ {m:Bx}(g:jQ m){b:A2P}{p:A2P×A2P}(c:ff m b=some p):(G6 m b).1=0/\ ∀x,ff (G6 m b).2 x=if x=b then some (p.1++p.2,bD) else ff m x:=by
 have a: ∃f,Cb b m.files=some f/\(f.bX,f.soft)=p:=by
  unfold ff at c;cases a:Cb b m.files with
  |none=>rw[a] at c;cases c
  |some f=>rw[a] at c;exact⟨f,rfl,BT c⟩
 obtain⟨f,a,rfl⟩:=a;unfold G6;rw[if_neg (by simp[g.1]),if_neg (by simp[a]),if_neg g.2];refine⟨rfl,λx=>?_⟩;rw[qE,Zg (g:=Ri) (λ_=>rfl)];by_cases d:x=b
 ·subst d;have:=(Jy a).1;rw[if_pos rfl,a];simp[Ri,this]
 ·rw[if_neg d];unfold ff;cases e:Cb x m.files with
  |none=>rfl
  |some h=>
   have:=(Jy e).1;simp only[HN];rw[if_neg (by rw[this];exact d)]
theorem AMn {m:Bx}(g:jQ m){a:A2P}(b:(ff m a).isSome=true):(Gi m a).1=0/\ ∀x,ff (Gi m a).2 x=if x=a then none else ff m x:=by
 have c:(Cb a m.files).isNone=false:=by
  rw[<- Ud] at b;cases c:Cb a m.files with
  |none=>rw[c] at b;cases b
  |some f=>rfl
 unfold Gi;rw[if_neg (by simp[g.1]),if_neg (by simp[c]),if_neg g.2];refine⟨rfl,λx=>?_⟩;rw[qE,ZV];split<;>rfl
theorem ALd {m:Bx}(l:List Fi):({IK m with files:=l}:Bx).down=m.down:=by show(IK m).down=m.down;unfold IK;split<;>rfl
theorem vg: ∀ {l f:List Nat},l.Pairwise (· < ·)->f.Pairwise (· < ·)->(∀ e,e∈l↔e∈f)->l=f
 | [],[],_,_,_=>rfl
 | [],b::f,_,_,d=>by have:=(d b).2 (by simp);cases this
 |a::l,[],_,_,d=>by have:=(d a).1 (by simp);cases this
 |a::l,b::f,h,i,d=>by
  rw[RR] at h i;have k:a=b:=by
   rcases List.mem_cons.1 ((d a).1 (by simp)) with c|c
   ·exact c
   ·rcases List.mem_cons.1 ((d b).2 (by simp)) with j|j
    ·exact j.symm
    ·have:=i.1 a c;have:=h.1 b j;omega
  subst k;have:l=f:=vg h.2 i.2 λe=>by
   constructor
   ·intro g;rcases List.mem_cons.1 ((d e).1 (An _ g)) with c|c
    ·have:=h.1 e g;omega
    ·exact c
   ·intro g;rcases List.mem_cons.1 ((d e).2 (An _ g)) with c|c
    ·have:=i.1 e g;omega
    ·exact c
  rw[this]
end Go.Lf
namespace Go.Lf.G
open Go
theorem APo {b:A2P}{m:Bx}{l:List Nat}{c:Nat->List A2P}(hd:m.down=false)(d: ∀a∈l,∃p,ff m (aD b a)=some p/\Mi (bl (p.1++p.2)) ((c a).map bl)):Ry b m l=l.flatMap c:=by
 unfold Ry
 induction l with
 |nil=>rfl
 |cons a l e=>
  obtain⟨p,f,g⟩:=d a (by simp);rw[AH,AH,e λh i=>d h (An _ i)];congr 1;have j:iF m b a=p.1++p.2:=by unfold iF;rw[qD hd,f]
  rw[j,AOb g,AT]
  conv=>rhs;rw[<- Lo (c a)]
  exact CM λx _=>strL_bl x
theorem xM {nm:A2P}{a:Nat}(e:nm.size<=8)(b:a<=99999999):Kn (aD nm a)=false:=by have c:=AOi (nm:=nm) b;unfold Kn;rw[Hk,decide_eq_false_iff_not,decide_eq_false_iff_not];refine⟨λd=>?_,by omega⟩;rw[d] at c;have:bD.size=0:=rfl;omega
theorem APP {i:A2P}{m:Bx}{l:List Nat}(g:mg i m l):l.length<=99999999:=by
 have j: ∀(l:List Nat) (d:Nat),l.Pairwise (· < ·)->(∀ b∈l,d<b/\b<=99999999)->l.length+d<=99999999\/l= []:=by
  intro l
  induction l with
  |nil=>intro d _ _;exact .inr rfl
  |cons a l k=>
   intro d f h;rw[RR] at f;have n:=h a (by simp);rcases k a f.2 (λb e=>⟨f.1 b e,(h b (An _ e)).2⟩) with c|c
   ·left;simp only[A5];omega
   ·subst c;left;simp;omega
 rcases j l 0 g.inc (λb e=>by have:=(g.mem b).1 e;omega) with c|c
 ·omega
 ·subst c;simp
structure Lw (h:aa) (lg b:Nat) (nm:A2P) (hh:aa) (S:Nat->Prop) (m:Bx) (seg:Nat) (made:Bool):Prop where
 box:Cm hh b S m
 log:EM hh lg b nm seg made
 ext:Ext h hh
 fresh: ∀c,S c->h.size<=c/\c≠lg
 lgn:h.size<=lg
def aT(rec:A2P):A2P:=AX (Cj (bl rec))
abbrev nx:A2P:=⟨#[120]⟩
open M (Sorted Ae Ca A8 Ag Ar BV Ah bE BF)
abbrev bP:=A2P->Option (A2P×A2P)
abbrev nl:A2P:=⟨#[108]⟩
abbrev nn:A2P:=⟨#[110]⟩
abbrev nt:A2P:=⟨#[116]⟩
def aU(a:Nat):A2P:=nt++AX (Lib.decDigits a)
theorem WP(a:Nat):bl (aU a)=116::Lib.decDigits a:=by show(nt++AX (Lib.decDigits a)).data.toList=_;rw[I3,KB];show [116]++(AX (Lib.decDigits a)).data.toList=_;rw[show(AX (Lib.decDigits a)).data.toList=Lib.decDigits a from Ce _];rfl
theorem JO {a b:Nat}(e:aU a=aU b):a=b:=by
 have c:=congrArg bl e;rw[WP,WP] at c;have f:Lib.decDigits a=Lib.decDigits b:=by injection c
 have d:=(YX a).2;rw[f,(YX b).2] at d;exact d.symm
theorem QQ(a:Nat):(bl (aD nl a)).head? =some 108:=by rw[Qq];rfl
theorem Sg(a:Nat):(bl (aD nn a)).head? =some 110:=by rw[Qq];rfl
theorem rk(a:Nat):(bl (aU a)).head? =some 116:=by rw[WP];rfl
theorem VV(a b:Nat):aD nl a≠aD nn b:=λc=>by have:=QQ a;rw[c,Sg] at this;cases this
theorem LM(a b:Nat):aD nl a≠aU b:=λc=>by have:=QQ a;rw[c,rk] at this;cases this
theorem OH(a b:Nat):aD nn a≠aU b:=λc=>by have:=Sg a;rw[c,rk] at this;cases this
def dd(x:A2P):Prop:=(∃ a,x=aD nl a)\/(∃ a,x=aD nn a)\/ ∃a,x=aU a
def Lr(b G:bP):Prop:= ∀x,match b x with
 |none=>G x=none
 |some p=> ∃a,G x=if p.1++p.2.extract 0 a=bD then none else some (p.1++p.2.extract 0 a,bD)
theorem APn(a:Nat):bD.extract 0 a=bD:=by
 have:(bD.extract 0 a).size=0:=by have:bD.size=0:=rfl;rw[A0T];omega
 have b:=strL_bl (bD.extract 0 a);have c:bl (bD.extract 0 a)= []:=TP this;rw[c] at b;exact b.symm
def NF(a b:Option (A2P×A2P)):Prop:=b=a\/(a=some (bD,bD)/\b=none)
theorem Lr.bX {b G:bP}(c:Lr b G){x:A2P}(g: ∀p,b x=some p->p.2=bD):NF (b x) (G x):=by
 have:=c x;cases d:b x with
 |none=>rw[d] at this;exact .inl this
 |some p=>
  rw[d] at this;obtain⟨i,a⟩:=this;have e:=g p d;obtain⟨h,j⟩:=p;simp only at e;subst e;simp only[APn,Xv] at a;by_cases f:h=bD
  ·subst f;rw[if_pos rfl] at a;exact .inr ⟨rfl,a⟩
  ·rw[if_neg f] at a;exact .inl a
structure gl (F:bP) (nm:A2P) (top:Nat) (R:Nat->List (List UInt8)):Prop where
 has: ∀n p,1<=n->n<=99999999->F (aD nm n)=some p->p.2=bD/\Mi (bl p.1) (R n)
 ig: ∀n,1<=n->n<=99999999->F (aD nm n)=none->R n= []
 out: ∀n,top<=n->n<=99999999->F (aD nm n)=none
 kW: ∀n,(n=0\/top<=n)->R n= []
def KD {a:Type}(c:Nat->a)(s:Nat)(v:a):Nat->a:=λb=>if b=s then v else c b
theorem DK {a:Type}{b:Nat->a}{s:Nat}{v:a}:KD b s v s=v:=if_pos rfl
theorem Eo {b:Type}{c:Nat->b}{s a:Nat}{v:b}(d:a≠s):KD c s v a=c a:=if_neg d
theorem rm {a:List (List UInt8)}(b:Mi [] a):a= []:=b.uniq (.stop TT)
theorem gl.put {k G:bP}{f:A2P}{l eV:Nat}{m:Nat->List (List UInt8)}(i:gl k f l m){s:Nat}{v:List (List UInt8)}(r:1<=s/\s<=99999999)(t:s<eV)(j: ∀a,1<=a->a<=99999999->a≠s->NF (k (aD f a)) (G (aD f a)))
  (n:(G (aD f s)=none/\v= [])\/ ∃x,G (aD f s)=some (x,bD)/\Mi (bl x) v) (u:l<=eV):gl G f eV (KD m s v):=by
 refine⟨λa p g e c=>?_,λa g e c=>?_,λa o e=>?_,λa o=>?_⟩
 ·by_cases d:a=s
  ·subst d;rw[DK];rcases n with⟨b,_⟩|⟨x,b,h⟩
   ·rw[b] at c;cases c
   ·rw[b] at c;cases c;exact⟨rfl,h⟩
  ·rw[Eo d];rcases j a g e d with b|⟨b,h⟩
   ·exact i.has a p g e (b▸c)
   ·rw[h] at c;cases c
 ·by_cases d:a=s
  ·subst d;rw[DK];rcases n with⟨_,b⟩|⟨x,b,_⟩
   ·exact b
   ·rw[b] at c;cases c
  ·rw[Eo d];rcases j a g e d with b|⟨b,h⟩
   ·exact i.ig a g e (b▸c)
   ·obtain⟨_,q⟩:=i.has a _ g e b;exact rm q
 ·have d:a≠s:=by omega
  rcases j a (by omega) e d with b|⟨b,h⟩
  ·rw[b];exact i.out a (by omega) e
  ·exact h
 ·have d:a≠s:=by omega
  rw[Eo d];exact i.kW a (by omega)
theorem gl.aW {k G:bP}{f:A2P}{i:Nat}{l:Nat->List (List UInt8)}(d:gl k f i l)(o:1<=i)(j: ∀a,1<=a->a<=99999999->NF (k (aD f a)) (G (aD f a))):gl G f i l:=by
 refine⟨λa p g b e=>?_,λa g b e=>?_,λa m b=>?_,d.kW⟩
 ·rcases j a (by omega) b with c|⟨c,h⟩
  ·exact d.has a p g b (c▸e)
  ·rw[h] at e;cases e
 ·rcases j a (by omega) b with c|⟨c,h⟩
  ·exact d.ig a g b (c▸e)
  ·obtain⟨_,n⟩:=d.has a _ g b c;exact rm n
 ·rcases j a (by omega) b with c|⟨c,h⟩
  ·rw[c];exact d.out a m b
  ·exact h
theorem gl.drop {l G:bP}{e:A2P}{h:Nat}{m g:Nat->List (List UInt8)}(i:gl l e h m)(j: ∀a,a<=99999999->(G (aD e a)=l (aD e a)/\g a=m a)\/(G (aD e a)=none/\g a= []))(n: ∀a,(a=0\/h<=a)->g a= []):gl G e h g:=by
 refine⟨λa p k c f=>?_,λa k c f=>?_,λa o c=>?_,n⟩
 ·rcases j a c with⟨b,d⟩|⟨b,d⟩
  ·rw[d];exact i.has a p k c (b▸f)
  ·rw[b] at f;cases f
 ·rcases j a c with⟨b,d⟩|⟨b,d⟩
  ·rw[d];exact i.ig a k c (b▸f)
  ·exact d
 ·rcases j a c with⟨b,d⟩|⟨b,d⟩
  ·rw[b];exact i.out a o c
  ·exact b
theorem yg {rs:List (List UInt8)}{r:List UInt8}(b: ∀x∈rs++ [r],x.length<=1048576)(a:Nat):Mi (bl (AX (aI rs)++(AX (Cj r)).extract 0 a)) rs\/Mi (bl (AX (aI rs)++(AX (Cj r)).extract 0 a)) (rs++ [r]):=by
 have c:bl (AX (aI rs)++(AX (Cj r)).extract 0 a)=aI rs++(Cj r).take a:=by show(AX (aI rs)++(AX (Cj r)).extract 0 a).data.toList=_;rw[I3,KB,SR,SU];rw[show(AX (aI rs)).data.toList=aI rs from Ce _,show(AX (Cj r)).data.toList=Cj r from Ce _];simp
 rw[c];by_cases d:a<(Cj r).length
 ·exact .inl (Qy (λx e=>b x (by simp[e])) (AMB (b r (by simp)) d))
 ·right;rw[AG (by omega)];have:=Qy (rs:=rs++ [r]) b (t:= []) TT;simpa using this
structure Nt where
 next:Nat
 aT:Nat
 names:List Nat
def Dt(x:Nt):List UInt8:=BX x.next++BX x.aT++BX x.names.length++x.names.flatMap BX
structure gS (x:Nt):Prop where
 next:x.next<=99999999
 aT:1<=x.aT/\x.aT<=99999999
 cp:x.names.length<=60000
 below: ∀n∈x.names,n<x.next
 nd:x.names.Nodup
structure Xq (b:List Pr):Prop where
 len:b.length<=64
 ok: ∀x∈b,Kw x
theorem UL: ∀ {l:List Nat},(∀ n∈l,n<=99999999)->(l.flatMap BX).length<=l.length*10
 | [],_=>by simp
 |n::l,a=>by
  have d:=AV (n:=n) (by have:=a n (by simp);omega);have e:=UL (l:=l) λb c=>a b (An _ c)
  simp only[AH,A1,A5];omega
theorem yh {x:Nt}(a:gS x):(Dt x).length<=30+x.names.length*10:=by
 have c:=AV (n:=x.next) (by have:=a.next;omega);have d:=AV (n:=x.aT) (by have:=a.aT;omega);have e:=AV (n:=x.names.length) (by have:=a.cp;omega);have f:=UL (l:=x.names) λn b=>by have:=a.below n b;have:=a.next;omega
 simp only[Dt,A1];omega
theorem Yc {s:Nat}{b:List Pr}(d:s<=99999999)(a:Xq b):(BM s b).length<=20+64*8276:=by have e:=AV (n:=s) (by omega);have f:=AV (n:=b.length) (by have:=a.len;omega);have g:=LJ a.ok;have c:=a.len;have h:b.length*8276<=64*8276:=AS _ c;simp only[BM,A1];omega
structure Bl where
 L:Nat->List (List Pr)
 N:Nat->List Nt
 T:Nat->List Pr
 aP:Nat
 aV:Nat
def Mm(a:Bl):List Nt:=(List.range a.aV).flatMap a.N
def Aj(a:Bl):Nt:=(Mm a).getLast?.getD ⟨1,1,[]⟩
def IM(a:Bl):List (List Pr):=(List.range a.aP).flatMap λb=>if b<(Aj a).aT then [] else a.L b
def Ef(a:Bl):List Pr:=A8 [] (IM a).flatten
def cu(a:Bl):List Pr:=BF (Ag (Ef a::(Aj a).names.map a.T))
structure BD (F:bP) (D:Bl):Prop where
 log:gl F nl D.aP λn=>(D.L n).map (BM n)
 note:gl F nn D.aV λn=>(D.N n).map Dt
 cL: ∀n∈(Aj D).names,F (aU n)=some (AX (JZ (D.T n)),bD)/\Gs (D.T n)
 gh: ∀n b,b∈D.L n->Xq b
 dL: ∀n x,x∈D.N n->gS x
 dr: ∀x,F x≠none->(bl x).head? =some 116-> ∃n,x=aU n
 cy:1<=D.aP/\D.aP<=99999999/\1<=D.aV/\D.aV<=99999999
theorem yi {b:bP}{a:Bl}(c:BD b a):gS (Aj a):=by
 unfold Aj;cases d:(Mm a).getLast? with
 |none=>exact⟨by simp,by simp,by simp,by simp,by simp⟩
 |some x=>
  have:=Tl d;obtain⟨e,_,f⟩:=List.mem_flatMap.1 this;exact c.dL e x f
theorem AR5 {l:List Pr}(t:Gs l):AX (JZ l)≠bD:=λd=>by
 have a:JZ l= []:=by have:=congrArg bl d;rw[EP] at this;exact this
 have e:aR l (MR l)≠ []:=by simp[aR]
 unfold JZ at a;cases b:aR l (MR l) with
 |nil=>exact e b
 |cons r f=>
  rw[b] at a;have g:(Cj r).length=0:=by have c:=congrArg List.length a;rw[WX,A1] at c;simp at c;simp[c.1]
  have h:=(JK (r:=r) (NK t.eE r (by rw[b];simp))).1;omega
theorem Ue {a b:Option (A2P×A2P)}{l:List Pr}(e:NF a b)(t:Gs l)(d:a=some (AX (JZ l),bD)):b=some (AX (JZ l),bD):=by
 rcases e with c|⟨c,_⟩
 ·exact c.trans d
 ·rw[d] at c;injection c with c;exact absurd (Prod.mk.inj c).1 (AR5 t)
theorem BD.same {c G:bP}{e:Bl}(b:BD c e)(h: ∀a,1<=a->a<=99999999->NF (c (aD nl a)) (G (aD nl a)))(i: ∀a,1<=a->a<=99999999->NF (c (aD nn a)) (G (aD nn a)))(j: ∀a∈(Aj e).names,NF (c (aU a)) (G (aU a)))
  (k: ∀x,G x≠none->c x≠none\/ ∃a,x=aU a):BD G e:=by
 refine⟨b.log.aW b.cy.1 h,b.note.aW b.cy.2.2.1 i,λa f=>?_,b.gh,b.dL,λx l hd=>?_,b.cy⟩
 ·obtain⟨d,g⟩:=b.cL a f;exact⟨Ue (j a f) g d,g⟩
 ·rcases k x l with d|d
  ·exact b.dr x d hd
  ·exact d
theorem BD.dM {g G:bP}{h:Bl}(d:BD g h)(c:Lr g G):BD G h:=by
 refine d.same (λb e f=>c.bX λp a=>(d.log.has b p e f a).1) (λb e f=>c.bX λp a=>(d.note.has b p e f a).1) (λb i=>c.bX λp a=>?_) λx j=> .inl λk=>j ?_
 ·rw[(d.cL b i).1] at a;cases a;rfl
 ·have:=c x;rw[k] at this;exact this
open M (Sorted Ae Ca A8 Ag Ar BV Ah bE BF aS BL XY)
theorem AO8 {x:Pr}(a:Kw x):Ah x=0:=by
 have c:x.key≠(⟨#[]⟩:A2P):=λd=>a.key (by rw[d];rfl)
 have f:=a.bI;have g:=a.cq;unfold M.Ah;rw[if_neg ?_,if_neg ?_]
 ·simp only[Cp,decide_eq_true_eq];omega
 ·simp only[Cp,A3,decide_eq_true_eq,CA,decide_eq_false_iff_not];rintro(b|⟨b,e⟩)
  ·exact c b
  ·exact e (Zf (a.gone b))
theorem oA {x:Pr}(a:Ah x=0):Kw x:=by
 unfold M.Ah at a;split at a
 ·cases a
 ·rename_i b;split at a
  ·cases a
  ·rename_i c;simp only[Cp,A3,decide_eq_true_eq,CA,decide_eq_false_iff_not,not_or,not_and,Decidable.not_not] at b c;refine⟨λd=>b.1 (Zf d),by omega,by omega,λe=>?_⟩;rw[b.2 e];rfl
theorem yz {l:List Pr}(a: ∀x∈l,Kw x):BV l:=λx b=>AO8 (a x b)
theorem yA(a:A2P): ∀ {b t:List Pr},Sorted t->BV b->Ae a (A8 t b)=(Ae a b.reverse).or (Ae a t)
 | [],t,_,_=>rfl
 |x::b,t,s,g=>by
  have d:=g x (by simp);show Ae a (A8 (Ca x t) b)=_;rw[yA a (M.O0 s) λe f=>g e (An _ f),SM,M.Nb,M.QK d,M.Wy x a s,M.BB];cases Ae a b.reverse with
  |some p=>rfl
  |none=>
   by_cases c:x.key=a
   ·rw[if_pos c,if_pos c];rfl
   ·rw[if_neg c,if_neg c];rfl
def alive(a:Option Pr):Option Pr:=a.filter λp=> !p.gone
theorem I9(x:Pr):alive (some x)=if x.gone then none else some x:=by unfold alive;cases a:x.gone<;>simp[Option.filter,a]
theorem Yq(a:A2P): ∀ {l:List Pr},Sorted l->Ae a (BF l)=alive (Ae a l)
 | [],_=>rfl
 |x::l,s=>by
  have e:=List.pairwise_cons.1 s;have c:=Yq a e.2;unfold M.BF at c ⊢;rw[B9,M.BB];by_cases b:x.key=a
  ·rw[if_pos b];cases d:x.gone with
   |false=>rw[if_pos (by rfl),M.BB,if_pos b,I9,d];rfl
   |true=>
    rw[if_neg (by simp),c];have:Ae a l=none:=M.Ee λf g h=>M.OD (e.1 f g) (b.trans h.symm)
    rw[this,I9,d];rfl
  ·rw[if_neg b];cases d:x.gone with
   |false=>rw[if_pos (by rfl),M.BB,if_neg b];exact c
   |true=>rw[if_neg (by simp)];exact c
theorem UH {l:List Pr}(s:Sorted l):Sorted (BF l):=s.sublist Hi
def LH(fr:List Pr)(ts:List (List Pr)):List Pr:=BF (Ag (fr::ts))
theorem En(fr:List Pr)(ts:List (List Pr)):Sorted (LH fr ts):=UH (M.Dp _)
theorem GV(a:A2P){fr:List Pr}{ts:List (List Pr)}(b:bE (fr::ts)):Ae a (LH fr ts)=alive ((Ae a fr).or (Ar a ts)):=by unfold LH;rw[Yq a (M.Dp _),M.JL a b,M.ED]
def j7(m:List Pr)(p:Pr):List Pr:=m.take (aS p.key m)++(if p.gone then [] else [p])++m.drop (if BL p.key m then aS p.key m+1 else aS p.key m)
def cM(m b:List Pr):List Pr:=b.foldl j7 m
theorem Xx(a:A2P)(x:Pr)(l:List Pr):aS a (x::l)=if aO x.key a then aS a l+1 else 0:=by unfold M.aS M.gY;rw[MT];split<;>simp
theorem AJP(a:A2P)(x:Pr)(l:List Pr):BL a (x::l)=if aO x.key a then BL a l else decide (x.key=a):=by unfold M.BL;rw[Xx];by_cases b:aO x.key a=true<;>simp[b]
def kO(a:A2P)(l:List Pr):List Pr:=l.filter λb=> !decide (b.key=a)
theorem yB {k:A2P}: ∀ {l:List Pr},Sorted l->l.take (aS k l)++l.drop (if BL k l then aS k l+1 else aS k l)=kO k l
 | [],_=>by simp[kO]
 |x::l,s=>by
  have c:=List.pairwise_cons.1 s;have d:=yB (k:=k) c.2;unfold kO at d ⊢;rw[Xx,AJP,B9];by_cases a:aO x.key k=true
  ·have i:x.key≠k:=M.OD a;have j:(!decide (x.key=k))=true:=by simp[i]
   simp only[a,if_true,j,HX,F0];rw[<- d];cases o:BL k l<;>simp
  ·rw[if_neg a,if_neg a,It,DA];have e:l.filter (λm=> !decide (m.key=k))=l:=by
    refine List.filter_eq_self.2 λf n=>?_
    have g:=c.1 f n;by_cases h:f.key=k
    ·rw[h] at g;exact absurd g a
    ·simp[h]
   by_cases b:x.key=k
   ·rw[if_pos (by simp[b]),if_neg (by simp[b]),e];rfl
   ·rw[if_neg (by simp[b]),if_pos (by simp[b]),e];rfl
theorem yC {m:List Pr}(s:Sorted m)(p:Pr):j7 m p=if p.gone then kO p.key m else M.ins p m:=by
 unfold j7;cases a:p.gone with
 |true=>simp only[if_true,AM];exact yB s
 |false=>
  simp only[Cl,if_false];have:=M.mL p m;unfold M.XY at this;exact this
theorem AMy(b c:A2P)(m:List Pr):Ae b (kO c m)=if c=b then none else Ae b m:=by
 unfold kO
 induction m with
 |nil=>split<;>rfl
 |cons x m f=>
  rw[B9,M.BB];by_cases d:x.key=c
  ·rw[if_neg (by simp[d]),f];by_cases a:c=b
   ·rw[if_pos a,if_pos a]
   ·rw[if_neg a,if_neg a,if_neg (λe=>a (d.symm.trans e))]
  ·rw[if_pos (by simp[d]),M.BB,f];by_cases a:x.key=b
   ·rw[if_pos a,if_pos a,if_neg (λe=>d (a.trans e.symm))]
   ·rw[if_neg a,if_neg a]
theorem yD {m:List Pr}(s:Sorted m)(p:Pr):Sorted (j7 m p):=by
 rw[yC s];split
 ·exact s.sublist Hi
 ·exact M.WK p s
theorem rn {m:List Pr}(s:Sorted m)(p:Pr)(a:A2P):Ae a (j7 m p)=if p.key=a then alive (some p) else Ae a m:=by
 rw[yC s];cases b:p.gone with
 |true=>rw[if_pos rfl,AMy,I9,b];rfl
 |false=>rw[if_neg (by simp),M.Wy p a s,I9,b];rfl
theorem yE: ∀ {b m:List Pr},Sorted m->Sorted (cM m b)
 | [],_,s=>s
 |p::b,m,s=>yE (b:=b) (yD s p)
theorem Xh(a:A2P): ∀ {b m:List Pr},Sorted m->Ae a (cM m b)=match Ae a b.reverse with|some p=>alive (some p)|none=>Ae a m
 | [],_,_=>rfl
 |p::b,m,s=>by
  show Ae a (cM (j7 m p) b)=_;rw[Xh a (yD s p),SM,M.Nb,M.BB];cases Ae a b.reverse with
  |some d=>rfl
  |none=>
   rw[rn s];by_cases c:p.key=a
   ·rw[if_pos c,if_pos c];rfl
   ·rw[if_neg c,if_neg c];rfl
theorem yF {fr b:List Pr}{ts:List (List Pr)}(c:bE (fr::ts))(g:BV b):LH (A8 fr b) ts=cM (LH fr ts) b:=by
 have e:=c.sorted fr (by simp);have f:bE (A8 fr b::ts):=⟨λl a=>by
   rcases List.mem_cons.1 a with rfl|a
   ·exact M.Qf e
   ·exact c.sorted l (by simp[a]),λl a=>by
   rcases List.mem_cons.1 a with rfl|a
   ·exact M.Wj (c.aC fr (by simp))
   ·exact c.aC l (by simp[a])⟩
 refine(En _ _).ext (yE (En _ _)) λd=>?_
 rw[GV d f,yA d e g,Xh d (En _ _),GV d c];cases Ae d b.reverse with
 |some p=>rfl
 |none=>rfl
theorem bE.gD {ts:List (List Pr)}(b:bE ts):bE ([]::ts):=⟨λl a=>by
  rcases List.mem_cons.1 a with rfl|a
  ·exact List.Pairwise.nil
  ·exact b.sorted l a,λl a=>by
  rcases List.mem_cons.1 a with rfl|a
  ·exact λ_ c=>by cases c
  ·exact b.aC l a⟩
theorem bE.tail {l:List Pr}{ts:List (List Pr)}(b:bE (l::ts)):bE ts:=⟨λx a=>b.sorted x (by simp[a]),λx a=>b.aC x (by simp[a])⟩
theorem AHB {fr:List Pr}{ts:List (List Pr)}(a:bE (fr::ts)):LH [] (fr::ts)=LH fr ts:=by
 refine(En _ _).ext (En _ _) λb=>?_
 rw[GV b (bE.gD a),GV b a,M.ED];rfl
theorem AGq(a b:Option Pr):alive (a.or (alive b))=alive (a.or b):=by
 cases a with
 |some p=>rfl
 |none=>
  cases b with
  |none=>rfl
  |some c=>cases d:c.gone<;>simp[I9,d,alive]
def GI(ts:List (List Pr)):List Pr:=BF (Ag ts)
theorem oB {ts:List (List Pr)}:Sorted (GI ts)/\BV (GI ts):=⟨UH (M.Dp _),λx a=>M.XL _ x (List.mem_filter.1 a).1⟩
theorem bE.left {fr:List Pr}{ts:List (List Pr)}(b:bE (fr::ts)):bE [fr,GI ts]:=⟨λl a=>by
  rcases List.mem_cons.1 a with rfl|a
  ·exact b.sorted _ (by simp)
  ·rw[List.mem_singleton.1 a];exact oB.1,λl a=>by
  rcases List.mem_cons.1 a with rfl|a
  ·exact b.aC _ (by simp)
  ·rw[List.mem_singleton.1 a];exact oB.2⟩
theorem VZ {fr:List Pr}{ts:List (List Pr)}(b:bE (fr::ts)):LH fr [GI ts]=LH fr ts:=by
 refine(En _ _).ext (En _ _) λa=>?_
 rw[GV a (bE.left b),GV a b,M.ED];have:Ae a (GI ts)=alive (Ar a ts):=by unfold GI;rw[Yq a (M.Dp _),M.JL a (bE.tail b)]
 rw[this];have c:Ar a ([]:List (List Pr))=none:=rfl;rw[c,Option.or_none,AGq]
theorem ABa {fr:List Pr}{ts:List (List Pr)}(a:bE (fr::ts))(c:GI ts= []):LH fr []=LH fr ts:=by
 rw[<- VZ a,c];have e:bE [fr]:=⟨λl b=>by rw[List.mem_singleton.1 b];exact a.sorted _ (by simp),λl b=>by rw[List.mem_singleton.1 b];exact a.aC _ (by simp)⟩;have f:bE [fr,[]]:=by have:=bE.left a;rw[c] at this;exact this
 refine(En _ _).ext (En _ _) λd=>?_
 rw[GV d e,GV d f,M.ED];rfl
theorem rp(l:List Pr):(BF l).length<=l.length:=(Hi).length_le
theorem TA {d:Type}{b:Nat->List d}{t:Nat}: ∀ {t':Nat},t<=t'->(∀ a,t<=a->a<t'->b a= [])->(List.range t').flatMap b=(List.range t).flatMap b
 |0,e,_=>by
  have:t=0:=by omega
  rw[this]
 |t'+1,e,c=>by
  by_cases f:t=t'+1
  ·rw[f]
  ·rw[Nx,GC,TA (t':=t') (by omega) λa g h=>c a g (by omega)];rw[AH,c t' (by omega) (by omega)];simp
theorem ZF {c:Type}{a:Nat->List c}{s t:Nat}(e:s<t)(d: ∀b,s<b->a b= []):(List.range t).flatMap a=(List.range s).flatMap a++a s:=by rw[TA (t:=s+1) (by omega) λb f _=>d b (by omega),Nx,GC];simp
theorem yJ {d:Type}{b c:Nat->List d}{t:Nat}(e: ∀a,a<t->b a=c a):(List.range t).flatMap b=(List.range t).flatMap c:=by unfold List.flatMap;congr 1;exact CM λa f=>e a (List.mem_range.1 f)
theorem ru {a:Bl}{s:Nat}{l:List Nt}{x:Nt}(c:a.N s=l++ [x])(d: ∀b,s<b->a.N b= [])(e:s<a.aV):Aj a=x:=by unfold Aj Mm;rw[ZF e d,c,<-A4,T6];rfl
theorem BD.gB {c:bP}{b:Bl}(d:BD c b){a:Nat}(e:a=0\/b.aP<=a):b.L a= []:=by simpa using d.log.kW a e
theorem BD.gE {c:bP}{b:Bl}(d:BD c b){a:Nat}(e:a=0\/b.aV<=a):b.N a= []:=by simpa using d.note.kW a e
theorem BD.jt {b:bP}{c:Bl}(d:BD b c){a:Nat}(e:a<=99999999)(f:b (aD nl a)=none):c.L a= []:=by
 by_cases g:a=0
 ·exact d.gB (.inl g)
 ·simpa using d.log.ig a (by omega) e f
theorem BD.jy {b:bP}{c:Bl}(d:BD b c){a:Nat}(e:a<=99999999)(f:b (aD nn a)=none):c.N a= []:=by
 by_cases g:a=0
 ·exact d.gE (.inl g)
 ·simpa using d.note.ig a (by omega) e f
theorem yK(t a b:List Pr):A8 t (a++b)=A8 (A8 t a) b:=I0
theorem yL:BV ([]:List Pr):=λ_ a=>by cases a
theorem AJx:Sorted ([]:List Pr):=List.Pairwise.nil
theorem yM(a:Bl):Sorted (Ef a)/\BV (Ef a):=⟨M.Qf AJx,M.Wj yL⟩
theorem Gs.aC {l:List Pr}(t:Gs l):Sorted l/\BV l:=⟨t.inc,yz t.ok⟩
theorem BD.fT {f:bP}{a:Bl}(e:BD f a):bE (Ef a::(Aj a).names.map a.T):=by
 refine⟨λl b=>?_,λl b=>?_⟩<;>rcases List.mem_cons.1 b with rfl|b
 ·exact(yM a).1
 ·obtain⟨c,d,rfl⟩:=List.mem_map.1 b;exact(e.cL c d).2.aC.1
 ·exact(yM a).2
 ·obtain⟨c,d,rfl⟩:=List.mem_map.1 b;exact(e.cL c d).2.aC.2
def R6(a:Bl)(s:Nat)(b:List Pr):Bl:= {a with L:=KD a.L s (a.L s++ [b]),aP:=max a.aP (s+1)}
theorem yN {g:bP}{a:Bl}(h:BD g a){s:Nat}{b:List Pr}(m:(Aj a).aT<=s)(e: ∀c,s<c->a.L c= []):IM (R6 a s b)=IM a++ [b]:=by
 have f:s<max a.aP (s+1):=by omega
 have i:IM a=(List.range s).flatMap (λc=>if c<(Aj a).aT then [] else a.L c)++a.L s:=by
  have j:IM a=(List.range (max a.aP (s+1))).flatMap λc=>if c<(Aj a).aT then [] else a.L c:=by
   refine(TA (by omega) λc k n=>?_).symm;split
   ·rfl
   ·exact h.gB (.inr k)
  rw[j,ZF (s:=s) f (λc d=>by
   split
   ·rfl
   ·exact e c d),if_neg (by omega)]
 have l:IM (R6 a s b)=(List.range s).flatMap (λc=>if c<(Aj a).aT then [] else KD a.L s (a.L s++ [b]) c)++KD a.L s (a.L s++ [b]) s:=by
  show(List.range (max a.aP (s+1))).flatMap (λc=>if c<(Aj a).aT then [] else KD a.L s (a.L s++ [b]) c)=_;rw[ZF (s:=s) f (λc d=>by
   split
   ·rfl
   ·rw[Eo (by omega)];exact e c d),if_neg (by omega)]
 rw[i,l,DK,A4];congr 1;exact yJ λc d=>by rw[Eo (by omega)]
theorem AOU {f:bP}{a:Bl}(c:BD f a){s:Nat}{b:List Pr}(g:(Aj a).aT<=s)(h: ∀d,s<d->a.L d= [])(i:Xq b):Ef (R6 a s b)=A8 (Ef a) b/\cu (R6 a s b)=cM (cu a) b:=by
 have e:Ef (R6 a s b)=A8 (Ef a) b:=by unfold Ef;rw[yN c g h,NO,yK];simp
 refine⟨e,?_⟩;have:=yF c.fT (yz i.ok);unfold cu;rw[e];exact this
theorem APm {h G:bP}{d:Bl}(g:BD h d){s:Nat}{b:List Pr}(j:1<=s/\s+1<=99999999)(k:Xq b)(l: ∀a,1<=a->a<=99999999->a≠s->NF (h (aD nl a)) (G (aD nl a)))(m: ∀a,1<=a->a<=99999999->NF (h (aD nn a)) (G (aD nn a)))
  (n: ∀a,NF (h (aU a)) (G (aU a))) (o: ∀x,(∀ a,x≠aD nl a)->G x≠none->h x≠none) (p: ∃x,G (aD nl s)=some (x,bD)/\Mi (bl x) ((d.L s++ [b]).map (BM s))):BD G (R6 d s b):=by
 have q: ∀a∈(Aj d).names,G (aU a)=some (AX (JZ (d.T a)),bD)/\Gs (d.T a):=λa r=>
  let ⟨t,i⟩:=g.cL a r
  ⟨Ue (n a) i t,i⟩
 refine⟨?_,?_,q,λa c e=>?_,g.dL,λx u hd=>?_,by have:=g.cy;refine⟨?_,?_,this.2.2.1,this.2.2.2⟩<;>simp only[R6]<;>omega⟩
 ·have:=g.log.put (G:=G) (eV:=max d.aP (s+1)) (s:=s) (v:=(d.L s++ [b]).map (BM s)) ⟨j.1,by omega⟩ (by omega) (λa w y z=>l a w y z) (.inr p) (by omega);have f:(KD (λa=>(d.L a).map (BM a)) s ((d.L s++ [b]).map (BM s)))=λa=>((R6 d s b).L a).map (BM a):=by
   funext a;show _=(KD d.L s (d.L s++ [b]) a).map (BM a);by_cases f:a=s
   ·subst f;rw[DK,DK]
   ·rw[Eo f,Eo f]
  rw[f] at this;exact this
 ·exact g.note.aW g.cy.2.2.1 m
 ·by_cases f:a=s
  ·subst f;have e:c∈KD d.L a (d.L a++ [b]) a:=e;rw[DK] at e;rcases List.mem_append.1 e with e|e
   ·exact g.gh a c e
   ·rw[List.mem_singleton.1 e];exact k
  ·have e:c∈KD d.L s (d.L s++ [b]) a:=e;rw[Eo f] at e;exact g.gh a c e
 ·exact g.dr x (o x (λa f=>by rw[f,QQ] at hd;cases hd) u) hd
def addN(a:Bl)(s:Nat)(x:Nt)(T:Nat->List Pr):Bl:= {a with N:=KD a.N s [x],T:=T,aV:=max a.aV (s+1)}
theorem yO {a:Bl}{s:Nat}{x:Nt}{T:Nat->List Pr}(c: ∀b,s<b->a.N b= []):Aj (addN a s x T)=x:=by
 refine ru (s:=s) (l:= []) ?_ (λb d=>?_) ?_
 ·show KD a.N s [x] s=_;rw[DK];rfl
 ·show KD a.N s [x] b= [];rw[Eo (by omega)];exact c b d
 ·show s<max a.aV (s+1);omega
theorem yP {g G:bP}{d:Bl}(f:BD g d){s:Nat}{x:Nt}{T:Nat->List Pr}(i:1<=s/\s+1<=99999999)(j:gS x)(k: ∀a,s<a->d.N a= [])(l: ∀a,1<=a->a<=99999999->NF (g (aD nl a)) (G (aD nl a)))(m: ∀a,1<=a->a<=99999999->a≠s->NF (g (aD nn a)) (G (aD nn a)))
  (n: ∀a∈x.names,G (aU a)=some (AX (JZ (T a)),bD)/\Gs (T a)) (o: ∀x,(∀ a,x≠aD nn a)->(∀ a,x≠aU a)->G x≠none->g x≠none) (p: ∃c,G (aD nn s)=some (c,bD)/\Mi (bl c) [Dt x]):BD G (addN d s x T):=by
 refine⟨f.log.aW f.cy.1 l,?_,λa h=>?_,f.gh,λa c e=>?_,λc e hd=>?_,by have:=f.cy;refine⟨this.1,this.2.1,?_,?_⟩<;>simp only[addN]<;>omega⟩
 ·have:=f.note.put (G:=G) (eV:=max d.aV (s+1)) (s:=s) (v:= [Dt x]) ⟨i.1,by omega⟩ (by omega) (λa q r t=>m a q r t) (.inr p) (by omega);have b:(KD (λa=>(d.N a).map Dt) s [Dt x])=λa=>((addN d s x T).N a).map Dt:=by
   funext a;show _=(KD d.N s [x] a).map Dt;by_cases b:a=s
   ·subst b;rw[DK,DK];rfl
   ·rw[Eo b,Eo b]
  rw[b] at this;exact this
 ·rw[yO k] at h;exact n a h
 ·have e:c∈KD d.N s [x] a:=e;by_cases b:a=s
  ·rw[b,DK] at e;rw[List.mem_singleton.1 e];exact j
  ·rw[Eo b] at e;exact f.dL a c e
 ·by_cases b: ∃a,c=aU a
  ·exact b
  ·exact f.dr c (o c (λa b=>by rw[b,Sg] at hd;cases hd) (λa u=>b ⟨a,u⟩) e) hd
theorem BD.fU {f G:bP}{e:Bl}(g:BD f e)(b: ∀x,(∀ a,a∉(Aj e).names->x≠aU a)->G x=f x):BD G e:=by
 refine g.same (λa _ _=> .inl (b _ λc _=>LM a c)) (λa _ _=> .inl (b _ λc _=>OH a c)) (λa h=> .inl (b _ λc i d=>i (by rw[<- JO d];exact h))) λx j=>?_
 by_cases d: ∃a,x=aU a
 ·exact .inr d
 ·exact .inl (by rw[<- b x λa _ k=>d ⟨a,k⟩];exact j)
open Classical in
noncomputable def Mx (b:Bl) (G:bP):Bl:= {b with L:=λa=>if a<=99999999/\G (aD nl a)=none then [] else b.L a}
open Classical in
noncomputable def oF (b:Bl) (G:bP):Bl:= {b with N:=λa=>if a<=99999999/\G (aD nn a)=none then [] else b.N a}
theorem AI7 {b:Bl}{f G:bP}(g:BD f b)(h: ∀a,a<=99999999->G (aD nl a)=f (aD nl a)\/(G (aD nl a)=none/\a<(Aj b).aT)):IM (Mx b G)=IM b:=by
 unfold IM;refine yJ λa i=>?_
 show(if a<(Aj b).aT then [] else if a<=99999999/\G (aD nl a)=none then [] else b.L a)=_;by_cases c:a<(Aj b).aT
 ·rw[if_pos c,if_pos c]
 ·rw[if_neg c,if_neg c];split
  ·rename_i d;rcases h a d.1 with e|e
   ·rw[e] at d;exact(g.jt d.1 d.2).symm
   ·exact absurd e.2 c
  ·rfl
theorem AOW {i G:bP}{d:Bl}(c:BD i d)(n: ∀a,a<=99999999->G (aD nl a)=i (aD nl a)\/(G (aD nl a)=none/\a<(Aj d).aT))(j: ∀x,(∀ a,a<=99999999->x≠aD nl a)->G x=i x):BD G (Mx d G):=by
 refine⟨c.log.drop (λa g=>?_) (λa k=>?_),c.note.aW c.cy.2.2.1 λa q g=> .inl (j _ λl _ e=>VV l a e.symm),λa k=>?_,λa b f=>?_,c.dL,λx o hd=>?_,c.cy⟩
 ·show _\/(G (aD nl a)=none/\((if a<=99999999/\G (aD nl a)=none then [] else d.L a).map (BM a))= []);rcases n a g with h|h
  ·by_cases m:G (aD nl a)=none
   ·right;exact⟨m,by rw[if_pos ⟨g,m⟩];rfl⟩
   ·left;refine⟨h,?_⟩;show((if a<=99999999/\G (aD nl a)=none then [] else d.L a).map (BM a))=_;rw[if_neg λp=>m p.2]
  ·right;exact⟨h.1,by rw[if_pos ⟨g,h.1⟩];rfl⟩
 ·show((if a<=99999999/\G (aD nl a)=none then [] else d.L a).map (BM a))= [];split
  ·rfl
  ·rw[c.gB k];rfl
 ·rw[j _ λl _ e=>LM l a e.symm];exact c.cL a k
 ·have f:b∈(if a<=99999999/\G (aD nl a)=none then [] else d.L a):=f;split at f
  ·cases f
  ·exact c.gh a b f
 ·exact c.dr x (by rw[<- j x λa _ e=>by rw[e,QQ] at hd;cases hd];exact o) hd
theorem yQ {b:Bl}{G:bP}{s:Nat}{x:Nt}(d:b.N s= [x])(e: ∀a,s<a->b.N a= [])(f:s<b.aV)(g:G (aD nn s)≠none):Aj (oF b G)=x:=by
 refine ru (s:=s) (l:= []) ?_ (λa c=>?_) f
 ·show(if s<=99999999/\G (aD nn s)=none then [] else b.N s)=_;rw[if_neg λc=>g c.2];exact d
 ·show(if a<=99999999/\G (aD nn a)=none then [] else b.N a)= [];split
  ·rfl
  ·exact e a c
theorem AOr {j G:bP}{c:Bl}(d:BD j c){s:Nat}{x:Nt}(o:c.N s= [x])(g: ∀a,s<a->c.N a= [])(p:s<c.aV)(r:G (aD nn s)≠none)(t: ∀a,a<=99999999->G (aD nn a)=j (aD nn a)\/G (aD nn a)=none)(k: ∀x,(∀ a,a<=99999999->x≠aD nn a)->G x=j x):BD G (oF c G):=by
 have u:Aj (oF c G)=Aj c:=by rw[yQ o g p r,ru (l:= []) o g p]
 refine⟨d.log.aW d.cy.1 λa y h=> .inl (k _ λm _ e=>VV a m e),d.note.drop (λa h=>?_) (λa g=>?_),λa q=>?_,d.gh,λa b f=>?_,λx v hd=>?_,d.cy⟩
 ·rcases t a h with i|i
  ·by_cases n:G (aD nn a)=none
   ·right;refine⟨n,?_⟩;show((if a<=99999999/\G (aD nn a)=none then [] else c.N a).map Dt)= [];rw[if_pos ⟨h,n⟩];rfl
   ·left;refine⟨i,?_⟩;show((if a<=99999999/\G (aD nn a)=none then [] else c.N a).map Dt)=_;rw[if_neg λw=>n w.2]
  ·right;refine⟨i,?_⟩;show((if a<=99999999/\G (aD nn a)=none then [] else c.N a).map Dt)= [];rw[if_pos ⟨h,i⟩];rfl
 ·show((if a<=99999999/\G (aD nn a)=none then [] else c.N a).map Dt)= [];split
  ·rfl
  ·rw[d.gE g];rfl
 ·rw[u] at q;rw[k _ λm _ e=>OH m a e.symm];exact d.cL a q
 ·have f:b∈(if a<=99999999/\G (aD nn a)=none then [] else c.N a):=f;split at f
  ·cases f
  ·exact d.dL a b f
 ·exact d.dr x (by rw[<- k x λa _ e=>by rw[e,Sg] at hd;cases hd];exact v) hd
structure mw (D:Bl) (s:Nat) (x:Nt) (T:Nat->List Pr) (D':Bl):Prop where
 L:D'.L=D.L
 aP:D'.aP=D.aP
 aV:D'.aV<=max D.aV (s+1)
 last:(Aj D'=Aj D/\D'.T=D.T)\/(Aj D'=x/\D'.T=T)
theorem ANf {a:Bl}{s:Nat}{x:Nt}{T:Nat->List Pr}(c: ∀b,s<b->a.N b= []):mw a s x T (addN a s x T):=⟨rfl,rfl,A0 _,.inr ⟨yO c,rfl⟩⟩
theorem AOh {a:Bl}{s:Nat}{x:Nt}{T:Nat->List Pr}:mw a s x T a:=⟨rfl,rfl,by omega,.inl ⟨rfl,rfl⟩⟩
theorem AMi {x:Nt}(c:gS x)(a:(Dt x).length<=1048576):Mi (bl (AX (Cj (Dt x)))) [Dt x]:=by rw[EP];have:=Qy (rs:= [Dt x]) (λd b=>by rw[List.mem_singleton.1 b];exact a) (t:= []) TT;simpa using this
theorem AMX {c h:bP}{d:Bl}{s:Nat}{x:Nt}{T:Nat->List Pr}(e:BD c d)(n:1<=s/\s+1<=99999999)(i:gS x)(o:(Dt x).length<=1048576)(p: ∀a,s<=a->a<=99999999->c (aD nn a)=none)
  (q: ∀a∈x.names,c (aU a)=some (AX (JZ (T a)),bD)/\Gs (T a)) (b: ∀f,h f=if f=aD nn s then some (AX (Cj (Dt x)),bD) else c f):BD h (addN d s x T)/\ ∀a,s<a->d.N a= []:=by
 have j: ∀a,s<a->d.N a= []:=λa k=>by
  by_cases l:a<=99999999
  ·exact e.jy l (p a (by omega) l)
  ·exact e.gE (.inr (by have:=e.cy;omega))
 refine⟨yP e n i j (λa _ _=> .inl ?_) (λa _ _ r=> .inl ?_) (λa k=>?_) (λf t _ m=>?_) ⟨_,by rw[b,if_pos rfl],AMi i o⟩,j⟩
 ·rw[b,if_neg (VV a s)]
 ·rw[b,if_neg λg=>r (Ib g)]
 ·rw[b,if_neg λg=>OH s a g.symm];exact q a k
 ·rw[b,if_neg (t s)] at m;exact m
theorem ALi {g F1 G:bP}{e:Bl}{s:Nat}{x:Nt}{T:Nat->List Pr}(b:BD g e)(B:1<=s/\s+1<=99999999)(Q:gS x)(R:(Dt x).length<=1048576)(C: ∀a,s<=a->a<=99999999->g (aD nn a)=none)
  (z: ∀a∈x.names,g (aU a)=some (AX (JZ (T a)),bD)/\Gs (T a)) (j: ∀f,F1 f=if f=aD nn s then some (bD,AX (Cj (Dt x))) else g f) (c:Lr F1 G): ∃k,BD G k/\mw e s x T k:=by
 have D: ∀a,s<a->e.N a= []:=λa u=>by
  by_cases E:a<=99999999
  ·exact b.jy E (C a (by omega) E)
  ·exact b.gE (.inr (by have:=b.cy;omega))
 have S:e.N s= []:=b.jy (by omega) (C s (A0 _) (by omega));have F: ∀a,1<=a->a<=99999999->NF (g (aD nl a)) (G (aD nl a)):=λa m n=>by
  have d:F1 (aD nl a)=g (aD nl a):=by rw[j,if_neg (VV a s)]
  have:=c.bX (x:=aD nl a) λp h=>(b.log.has a p m n (d▸h)).1
  rwa [d] at this
 have H: ∀a,1<=a->a<=99999999->a≠s->NF (g (aD nn a)) (G (aD nn a)):=λa m n A=>by
  have d:F1 (aD nn a)=g (aD nn a):=by rw[j,if_neg λd=>A (Ib d)]
  have:=c.bX (x:=aD nn a) λp h=>(b.note.has a p m n (d▸h)).1
  rwa [d] at this
 have I: ∀a l,g (aU a)=some (AX (JZ l),bD)->Gs l->G (aU a)=some (AX (JZ l),bD):=λa l w t=>by
  have d:F1 (aU a)=g (aU a):=by rw[j,if_neg λd=>OH s a d.symm]
  have:=c.bX (x:=aU a) λp h=>by rw[d,w] at h;cases h;rfl
  rw[d] at this;exact Ue this t w
 have J: ∀f,(∀ a,f≠aD nn a)->G f≠none->g f≠none:=λf o U w=>U (by
  have:=c f;rw[j,if_neg (o s),w] at this;exact this)
 have K:=c (aD nn s);rw[j,if_pos rfl] at K;obtain⟨V,y⟩:=K;have i:=yg (rs:= []) (r:=Dt x) (λr L=>by rw[DA] at L;rw[List.mem_singleton.1 L];exact R) V;have W:AX (aI [])=bD:=rfl;rw[W] at i;have M:(G (aD nn s)=none\/ ∃f,G (aD nn s)=some (f,bD)/\Mi (bl f) [])-> ∃k,BD G k/\mw e s x T k:=λX=>by
  have Y:Mm {e with aV:=max e.aV (s+1)}=Mm e:=TA (by show e.aV<=max e.aV (s+1);omega) λa q _=>b.gE (.inr q)
  have N:Aj {e with aV:=max e.aV (s+1)}=Aj e:=by unfold Aj;rw[Y]
  refine⟨{e with aV:=max e.aV (s+1)},⟨b.log.aW b.cy.1 F,?_,λa O=>?_,b.gh,b.dL,λf o hd=>?_,by have:=b.cy;refine⟨this.1,this.2.1,?_,?_⟩<;>simp only[]<;>omega⟩,⟨rfl,rfl,A0 _,.inl ⟨N,rfl⟩⟩⟩
  ·have:=b.note.put (G:=G) (eV:=max e.aV (s+1)) (s:=s) (v:= []) ⟨B.1,by omega⟩ (by omega) (λa m n A=>H a m n A) (X.imp (λb=>⟨b,rfl⟩) λb=>b) (by omega);have d:(KD (λa=>(e.N a).map Dt) s [])=λa=>(e.N a).map Dt:=by
    funext a;by_cases d:a=s
    ·subst d;rw[DK,S];rfl
    ·rw[Eo d]
   rw[d] at this;exact this
  ·rw[N] at O;obtain⟨q,P⟩:=b.cL a O;exact⟨I a _ q P,P⟩
  ·exact b.dr f (J f (λa d=>by rw[d,Sg] at hd;cases hd) o) hd
 split at y
 ·exact M (.inl y)
 ·rcases i with i|i
  ·exact M (.inr ⟨_,y,i⟩)
  ·exact⟨_,yP b B Q D F H (λa u=>⟨I a _ (z a u).1 (z a u).2,(z a u).2⟩) (λf q _ o=>J f q o) ⟨_,y,i⟩,ANf D⟩
theorem yR {f G:bP}{b:Bl}{s:Nat}{x:Nt}{T:Nat->List Pr}(m:BD f (addN b s x T))(n: ∀a,s<a->b.N a= [])(o:f (aD nn s)≠none)(g: ∀d,G d=f d\/(G d=none/\ ∃a,a<s/\a<=99999999/\d=aD nn a)): ∃e,BD G e/\Aj e=x/\e.T=T/\e.L=b.L/\e.aP=b.aP/\e.aV=max b.aV (s+1):=by
 have i:(addN b s x T).N s= [x]:=by show KD b.N s [x] s=_;rw[DK]
 have j: ∀a,s<a->(addN b s x T).N a= []:=λa p=>by show KD b.N s [x] a=_;rw[Eo (by omega)];exact n a p
 have k:s<(addN b s x T).aV:=by show s<max b.aV (s+1);omega
 have l:G (aD nn s)≠none:=by
  rcases g (aD nn s) with c|⟨_,a,c,_,h⟩
  ·rw[c];exact o
  ·have:=Ib h;omega
 refine⟨oF (addN b s x T) G,AOr m i j k l (λa t=>?_) λd q=>?_,yQ i j k l,rfl,rfl,rfl,rfl⟩
 ·rcases g (aD nn a) with c|c
  ·exact .inl c
  ·exact .inr c.1
 ·rcases g d with c|⟨_,a,_,r,h⟩
  ·exact c
  ·exact absurd h (q a r)
end Go.Lf.G
namespace Go.Lf
open Go
variable {α : Type} {E : cz α} {A : al} {P : Q1}
def gR(a:Array J0):Nat->List J0->Array J0
 |_,[]=>a
 |o,v::b=>gR (a.setIfInBounds o v) (o+1) b
theorem IQ: ∀(c:List J0) (a:Array J0) (b:Nat),(gR a b c).size=a.size
 | [],_,_=>rfl
 |v::d,a,b=>by unfold gR;rw[IQ d];simp
theorem Nj: ∀(c:List J0) (b:Array J0) (a:Nat),a+c.length<=b.size->(gR b a c).toList=b.toList.take a++c++b.toList.drop (a+c.length)
 | [],b,a,e=>by simp[gR]
 |v::d,b,a,e=>by
  have f:b.size=b.toList.length:=by simp
  simp only[A5] at e;unfold gR;rw[Nj d _ (a+1) (by simp;omega)];rw[Fm,Ax,List.take_set_of_le (A0 _),HM (by omega),List.drop_set_of_lt (by omega)];simp only[DM,A4,List.singleton_append,A5,F0,DA];rw[show a+1+d.length=a+(d.length+1) by omega]
theorem cS {A:al}: ∀(h:List J0) (c:Nat) {d:aa} {n b:Nat} {f:Array J0} {T:Q7},d[b]? =some (.cells f T (0,0))-> ∃e,(A.at d n).setCells b c h=A.at e n/\e[b]? =some (.cells (gR f c h) T (0,0))/\Mod (· =b) d e/\e.size=d.size
 | [],c,d,n,b,f,T,g=>⟨d,rfl,g,Mod.refl,rfl⟩
 |v::i,c,d,n,b,f,T,g=>by
  have j:(dc d ⟨b,c,none⟩ v)[b]? =some (.cells (f.setIfInBounds c v) T (0,0)):=uh g;obtain⟨e,k,l,m,o⟩:=cS (A:=A) i (c+1) (n:=n) j;refine⟨e,?_,l,(Mod.set (S:=(· =b)) (a:=⟨b,c,none⟩) rfl).trans m,by rw[o,ZL]⟩;show((A.at d n).setCell ⟨b,c,none⟩ v).setCells b (c+1) i=_;rw[<- k];rfl
theorem AOX {t h j T:Q7}{i:TypeInfo}{f:J0}(n:P.underlying t=some (.slice T))(o:P.underlying h=some (.int J9))(q:P.info? T=some i)(r:i.zero=some f)(D:i.size=1)(s:f.cells= #[f]){a:aa}{p:Q2}{cap b:Nat}{K:Sl->aa->Prop}
  (u:0<b) (F:cap<b) (w:b*i.bytes<=140737488355328) (k:b<=maxLen) (G:0<i.bytes)
  (x: ∀e c l,e[a.size]? =some (.cells l T (0,0))->l.size=c->b<=c->c<=maxLen->Ext a e->e.size=a.size+1->K ⟨some ⟨a.size,0,none⟩,b,c⟩ e):
  BI A P (Builtin.append_ #[t,h] j #[.slice p 0 cap,.int J9 (b:Int)]) a λv e=> ∃g:Sl,v= .slice g.p g.len g.cap/\K g e:=by
 intro d;have y:(Builtin.firstCells i.size 0 (.slice p 0 cap)).run P (A.at a d).drew= .ok ([]:List J0).toArray (A.at a d).drew:=by cases p<;>simp[Builtin.firstCells,loadCells,loadCellsFrom]
 have z:Builtin.nextslicecap (0+b) cap*i.bytes<=281474976710656:=by rw[AI];exact growslice_fits (by omega) w
 have m:=Lib.run_append_grow_zeros (A.at a d) t h j T i f J9 J9 n o q r p 0 cap [] y b u (by omega) (by omega) (by simp only[maxLen] at k;omega) (by omega) z;simp only[AI] at m;have B:=grownCap_ge (A.at a d) b cap T;have C:=grownCap_le_maxLen (A.at a d) b cap T k;generalize grownCap (A.at a d) b cap T=c at*
 refine⟨_,_,d+1,m,⟨some ⟨a.size,0,none⟩,b,c⟩,rfl,x _ c _ (R1 ..) ?_ B C (Mod.push a _) (by show(a.push _).size=a.size+1;simp)⟩;simp[Builtin.zeroCells,s];omega
theorem nS {t k T:Q7}(q:P.underlying t=some (.slice T))(r:(P.info? T).map (·.size)=some 1){d:aa}{b e g l h m:Nat}{a:Q6}{i:Array J0}{vs:List J0}{K:Int->aa->Prop}
  (j:d[b]? =some (.cells i T (0,0))) (s:vs.length=min h g) (u: ∀f v,vs[f]? =some v->ag d (a.add f)=some v) (G:e+vs.length<=i.size) (w: ∀v∈vs,LP v=true)
  (x: ∀c,c[b]? =some (.cells (gR i e vs) T (0,0))->Mod (· =b) d c->c.size=d.size->K (vs.length:Int) c):
  BI A P (Builtin.copy_ #[t,t] k #[.slice (some ⟨b,e,none⟩) g l,.slice (some a) h m]) d λv c=> ∃o:Int,v= .int J9 o/\K o c:=by
 intro n;have p:=run_copy_cells (P:=P) (A.at d n) t t k T b e g l a h m vs q r s u
  (λf y=>by
   show(ag d ⟨b,e+f,none⟩).isSome=true;rw[Hl j,CD (by omega)];rfl)
  (λf y=>Og j) (λv z=>Ou (w v z))
 obtain⟨c,B,C,D,F⟩:=cS (A:=A) vs e (n:=n) j;rw[B] at p;exact⟨_,c,n,p,_,rfl,x c C D F⟩
def nT(A:al)(P:Q1)(t b:Q7)(h fr:Q8)(s:Sl)(i:Int)(v:Sl)(e:aa)(d:A2O):Prop:=
 aH ((0:Int)<=i/\i<=((s.len:Nat):Int))<|
 ae (((v.len:Nat):Int)==(0:Int)) (
  d (.slice s.p s.len s.cap) e) (
  ae (i==((s.len:Nat):Int)) (
   BI A P (Builtin.append_ #[t,t] t #[.slice s.p s.len s.cap,.slice v.p v.len v.cap]) e λv1 j=> ∃c:Sl,v1= .slice c.p c.len c.cap/\(
   d (.slice c.p c.len c.cap) j)) (
   ae (decide ((J8 J9 (((s.len:Nat):Int)+((v.len:Nat):Int)))>((s.cap:Nat):Int))) (
    aH ((0:Int)<=i/\i<=((s.cap:Nat):Int))<|
    BI A P (Builtin.append_ #[t,b] t #[.slice (A7 s.p s.cap 0 1) (i.toNat-0) (s.cap-0),.int J9 (J8 J9 ((J8 J9 (((s.len:Nat):Int)+((v.len:Nat):Int)))-i))]) e λv2 k=> ∃a:Sl,v2= .slice a.p a.len a.cap/\(
    aH ((0:Int)<=i/\i<=((a.len:Nat):Int))<|
    BI A P (Builtin.copy_ #[t,t] b #[.slice (A7 a.p a.cap i.toNat 1) (a.len-i.toNat) (a.cap-i.toNat),.slice v.p v.len v.cap]) k λl m=> ∃n:Int,l= .int J9 n/\(
    aH ((0:Int)<=(J8 J9 (i+((v.len:Nat):Int)))/\(J8 J9 (i+((v.len:Nat):Int)))<=((a.len:Nat):Int))<|
    aH ((0:Int)<=i/\i<=((s.len:Nat):Int))<|
    BI A P (Builtin.copy_ #[t,t] b #[.slice (A7 a.p a.cap ((J8 J9 (i+((v.len:Nat):Int))).toNat) 1) (a.len-((J8 J9 (i+((v.len:Nat):Int))).toNat)) (a.cap-((J8 J9 (i+((v.len:Nat):Int))).toNat)),.slice (A7 s.p s.cap i.toNat 1) (s.len-i.toNat) (s.cap-i.toNat)]) m λo p=> ∃q:Int,o= .int J9 q/\(
    d (.slice a.p a.len a.cap) p)))) (
    aH ((0:Int)<=(J8 J9 (((s.len:Nat):Int)+((v.len:Nat):Int)))/\(J8 J9 (((s.len:Nat):Int)+((v.len:Nat):Int)))<=((s.cap:Nat):Int))<|
    aH ((0:Int)<=(J8 J9 (i+((v.len:Nat):Int)))/\(J8 J9 (i+((v.len:Nat):Int)))<=(((((J8 J9 (((s.len:Nat):Int)+((v.len:Nat):Int))).toNat)-0):Nat):Int))<|
    ng A P h #[.slice v.p v.len v.cap,.slice (A7 (A7 s.p s.cap 0 1) (s.cap-0) ((J8 J9 (i+((v.len:Nat):Int))).toNat) 1) ((((J8 J9 (((s.len:Nat):Int)+((v.len:Nat):Int))).toNat)-0)-((J8 J9 (i+((v.len:Nat):Int))).toNat)) ((s.cap-0)-((J8 J9 (i+((v.len:Nat):Int))).toNat))] e λr f=> ∃g:Bool,r= .bool g/\(
    ae (!g) (
     aH ((0:Int)<=(J8 J9 (i+((v.len:Nat):Int)))/\(J8 J9 (i+((v.len:Nat):Int)))<=(((((J8 J9 (((s.len:Nat):Int)+((v.len:Nat):Int))).toNat)-0):Nat):Int))<|
     aH ((0:Int)<=i/\i<=(((((J8 J9 (((s.len:Nat):Int)+((v.len:Nat):Int))).toNat)-0):Nat):Int))<|
     BI A P (Builtin.copy_ #[t,t] b #[.slice (A7 (A7 s.p s.cap 0 1) (s.cap-0) ((J8 J9 (i+((v.len:Nat):Int))).toNat) 1) ((((J8 J9 (((s.len:Nat):Int)+((v.len:Nat):Int))).toNat)-0)-((J8 J9 (i+((v.len:Nat):Int))).toNat)) ((s.cap-0)-((J8 J9 (i+((v.len:Nat):Int))).toNat)),.slice (A7 (A7 s.p s.cap 0 1) (s.cap-0) i.toNat 1) ((((J8 J9 (((s.len:Nat):Int)+((v.len:Nat):Int))).toNat)-0)-i.toNat) ((s.cap-0)-i.toNat)]) f λu w=> ∃x:Int,u= .int J9 x/\(
     aH ((0:Int)<=i/\i<=(((((J8 J9 (((s.len:Nat):Int)+((v.len:Nat):Int))).toNat)-0):Nat):Int))<|
     BI A P (Builtin.copy_ #[t,t] b #[.slice (A7 (A7 s.p s.cap 0 1) (s.cap-0) i.toNat 1) ((((J8 J9 (((s.len:Nat):Int)+((v.len:Nat):Int))).toNat)-0)-i.toNat) ((s.cap-0)-i.toNat),.slice v.p v.len v.cap]) w λy z=> ∃B:Int,y= .int J9 B/\(
     d (.slice (A7 s.p s.cap 0 1) (((J8 J9 (((s.len:Nat):Int)+((v.len:Nat):Int))).toNat)-0) (s.cap-0)) z))) (
     aH ((0:Int)<=((s.len:Nat):Int)/\((s.len:Nat):Int)<=(((((J8 J9 (((s.len:Nat):Int)+((v.len:Nat):Int))).toNat)-0):Nat):Int))<|
     BI A P (Builtin.copy_ #[t,t] b #[.slice (A7 (A7 s.p s.cap 0 1) (s.cap-0) (((s.len:Nat):Int).toNat) 1) ((((J8 J9 (((s.len:Nat):Int)+((v.len:Nat):Int))).toNat)-0)-(((s.len:Nat):Int).toNat)) ((s.cap-0)-(((s.len:Nat):Int).toNat)),.slice v.p v.len v.cap]) f λC D=> ∃F:Int,C= .int J9 F/\(
     aH ((0:Int)<=i/\i<=(((((J8 J9 (((s.len:Nat):Int)+((v.len:Nat):Int))).toNat)-0):Nat):Int))<|
     AA A P fr #[.slice (A7 (A7 s.p s.cap 0 1) (s.cap-0) i.toNat 1) ((((J8 J9 (((s.len:Nat):Int)+((v.len:Nat):Int))).toNat)-0)-i.toNat) ((s.cap-0)-i.toNat),.int J9 ((v.len:Nat):Int)] D λG H=>G= .tuple #[]/\(
     d (.slice (A7 s.p s.cap 0 1) (((J8 J9 (((s.len:Nat):Int)+((v.len:Nat):Int))).toNat)-0) (s.cap-0)) H)))))))
theorem Vv {e:aa}{b:Nat}{f:Array J0}{T:Q7}{fr:Nat×Nat}(h:e[b]? =some (.cells f T fr)){a:List J0}{g:Nat}(i:(f.toList.drop g).take a.length=a): ∀c v,a[c]? =some v->ag e ((⟨b,g,none⟩:Q6).add c)=some v:=λc v d=>by
 rw[Ba,Hl h];have j:=(List.getElem?_eq_some_iff.1 d).1;rw[<- i,Fo,if_pos j,Bs] at d;simpa using d
theorem vO {t af T ah:Q7}{ai fr:Q8}{G:J0}{H:Nat}(aj:Pi P t T 1 H=true)(k:E.w=1)(aD:P.underlying af=some (.int J9))(I:(P.info? T).bind (·.zero)=some G)(aE:G.cells= #[G])(hB:0<H)
  (aF: ∀args J,(callFunc ai args).run P J=((Extern.SlicesOverlaps.overlaps #[t,t] #[ah] args).run P J).andThen λv aG=> .ok (.value v) aG)
  {a:aa} {s:Sl} {l:List α} {x:α} {e:J0} {f:Nat} (S:Own E T a s l) (K:E.enc x= [e]) (o:a[f]? =some (.cells #[e] T (0,0))) (aH:s.af≠some f) (ak:l.length+1<=maxLen) (al:(l.length+1)*H<=140737488355328) {am:A2O}
  (U: ∀m r,Own E T r m (x::l)->Mod (λb=>s.af=some b) a r->(∀ b,m.af=some b->s.af=some b\/a.size<=b)->am (.slice m.p m.len m.cap) r):
  nT A P t af ai fr s (0:Int) ⟨some ⟨f,0,none⟩,1,1⟩ a am:=by
 unfold nT;have V:=S.len;have bj:maxLen<=9223372036854775807:=by simp[maxLen]
 obtain⟨q,i,z,w,an,W,aI,bk⟩:=Zm aj;have aJ:z=G:=by rw[w] at I;simp only[Hj] at I;rw[an] at I;exact BT I
 subst aJ;have ao:LP e=true:=E.one x e (by rw[K];simp);have bm:=Af o;refine⟨⟨GW _,by omega⟩,ae.no rfl ?_⟩;refine ae.intro (λy=>?_) (λy=>?_)
 ·have y:l= []:=by
   have:(0:Int)=((s.len:Nat):Int):=by simpa using y
   exact CC (by omega)
  subst y;have aK:View E a ⟨some ⟨f,0,none⟩,1,1⟩ [x]:=⟨rfl,A0 _,λj ap n=>⟨_,rfl,λaL u L=>by
   have aN:j=0:=by have:=(List.getElem?_eq_some_iff.1 n).1;simpa using this
   subst aN;simp only[HA,BY] at n;subst n;rw[K] at L;have aO:aL=0:=by have:=(List.getElem?_eq_some_iff.1 L).1;simpa using this
   subst aO;simp only[HA,BY] at L;subst L;rw[HQ,Ba,Ba];exact AL o rfl⟩⟩
  have aP:Pi P t T E.w H=true:=by rw[k];exact aj
  exact GX (s:=s) (src:=⟨some ⟨f,0,none⟩,1,1⟩) aP S aK (by simpa using al) (by simpa using ak) λm r aQ aR aS _=>U m r aQ aR aS
 ·have aT:0<l.length:=by
   have: ¬(0:Int)=((s.len:Nat):Int):=by simpa using y
   omega
  rcases S.row with⟨rfl,rfl⟩|⟨g,M,B,C,bn,aU,N,X⟩
  ·simp at aT
  ·rw[k,Bk] at N X;have d:(l.flatMap E.enc).length=l.length:=by rw[Jh,k,Bk]
   have aq: ∀v∈l.flatMap E.enc,LP v=true:=λv D=>by
    obtain⟨ap,_,aV⟩:=List.mem_flatMap.1 D;exact E.one ap v aV
   have ar:g≠f:=λh=>aH (by rw[Sl.af,B,h];rfl)
   have bo:=Af C;have aW:J8 J9 (((s.len:Nat):Int)+(((1:Nat)):Int))=((l.length+1:Nat):Int):=by rw[V];exact Ab (by omega)
   have aX:J8 J9 ((0:Int)+(((1:Nat)):Int))=((1:Nat):Int):=by decide
   have aY:J8 J9 (((l.length+1:Nat):Int)-(0:Int))=((l.length+1:Nat):Int):=by rw[Int.sub_zero];exact Gz (by omega)
   have O:(P.info? T).map (·.size)=some 1:=by rw[w];simp[W]
   dsimp only;rw[aW,aX,aY];have aZ:((1:Nat):Int).toNat=1:=rfl;have a0:(0:Int).toNat=0:=rfl;have a1:((l.length+1:Nat):Int).toNat=l.length+1:=by omega
   rw[aZ,a0,a1];have au: ∀j v,[e][j]? =some v->ag a ((⟨f,0,none⟩:Q6).add j)=some v:=Vv o (by simp);refine ae.intro (λY=>?_) (λY=>?_)
   ·have Z:s.cap<l.length+1:=by
     have:((s.cap:Nat):Int)<((l.length+1:Nat):Int):=by simpa using Y
     omega
    refine⟨⟨GW _,by omega⟩,?_⟩;refine AOX (p:=A7 s.p s.cap 0 1) (cap:=s.cap) q aD w an W aE (by omega) Z (by rw[aI];exact al) ak (by omega) λbp c av a2 aw a3 a4 ab bq=>⟨⟨GW _,by dsimp only;omega⟩,?_⟩
    have a5:A7 (some (⟨a.size,0,none⟩:Q6)) c 0 1=some ⟨a.size,0,none⟩:=by unfold A7;rw[if_neg (by omega)];rfl
    have a6:A7 (some (⟨a.size,0,none⟩:Q6)) c 1 1=some ⟨a.size,1,none⟩:=by unfold A7;rw[if_neg (by omega)];rfl
    dsimp only;rw[a5];refine nS (vs:= [e]) q O a2 (by simp) (λj v n=>ab.ag (au j v n)) (by simp;omega) (λv D=>by rw[List.mem_singleton.1 D];exact ao) λa7 a8 ax br=>⟨⟨by omega,by omega⟩,⟨GW _,by omega⟩,?_⟩
    rw[a6,B];have Q:A7 (some (⟨g,0,none⟩:Q6)) s.cap 0 1=some ⟨g,0,none⟩:=by unfold A7;rw[if_neg (by omega)];rfl
    rw[Q];have a9:a7[g]? =some (.cells M T (0,0)):=ax.af (ab.af C (λa=>a)) (by omega);refine nS (vs:=l.flatMap E.enc) q O a8 (by rw[d];omega) (Vv a9 (by rw[d,On,<-V];exact X)) (by rw[IQ,d];omega) aq λay ac R ba=>?_
    refine U ⟨some ⟨a.size,0,none⟩,l.length+1,c⟩ ay ⟨rfl,.inr ⟨a.size,_,rfl,ac,a3,a4,by rw[IQ,IQ,k,Bk];exact aw,?_⟩⟩ ?_ (λb F=> .inr (by simp[Sl.af] at F;omega))
    ·rw[Nj _ _ _ (by rw[IQ,d];omega),Nj _ _ _ (by simp;omega)];rw[k,Bk,AH,K];have bb:av.toList.length=c:=by simp[aw]
     simp only[It,DA,CN];have bc:(([e]++av.toList.drop (0+1)).take 1)= [e]:=by simp
     rw[bc,OF (by simp[d])];rw[AG (by simp[d])]
    ·refine((Ext.mod ab).trans ((ax.trans R).ai (S':=λb=>s.af=some b\/b=a.size) λc az h=> .inr h)) |> λaA=>?_
     exact⟨aA.size,λb F bd=>aA.get b F (λbe=>be.elim bd (by omega))⟩
   ·have Z:l.length+1<=s.cap:=by
     have: ¬((s.cap:Nat):Int)<((l.length+1:Nat):Int):=by simpa using Y
     omega
    have Q: ∀c,0<c->A7 (some (⟨g,0,none⟩:Q6)) c 0 1=some ⟨g,0,none⟩:=λc az=>by
     unfold A7;rw[if_neg (by omega)];rfl
    have bf: ∀c,1<c->A7 (some (⟨g,0,none⟩:Q6)) c 1 1=some ⟨g,1,none⟩:=λc az=>by
     unfold A7;rw[if_neg (by omega)];rfl
    refine⟨⟨by omega,by omega⟩,⟨by omega,by omega⟩,?_⟩;rw[B,Q _ (by omega),HD,HD,HD,Q _ (by omega),bf _ (by omega)];intro aC;refine⟨.bool false,a,aC,?_,false,rfl,ae.yes rfl ⟨⟨by omega,by omega⟩,⟨GW _,by omega⟩,?_⟩⟩
    ·rw[aF,Lib.run_overlaps_apart (A.at a aC) t ah T q 1 (λJ=>by rw[Go.run_sizeOf J w];simp[Program.cellsOf,w,W]) ⟨f,0,none⟩ ⟨g,1,none⟩ 1 1 _ _ (λh=>ar h.symm) T T 1 s.cap
      (by show(match a[f]? with|some (.cells c ad _)=>some (ad,c.size)|_=>none)=_;rw[o];rfl) (by show(match a[g]? with|some (.cells c ad _)=>some (ad,c.size)|_=>none)=_;rw[C];simp[N]) (by omega) (Og o) (Og o)]
     rfl
    ·refine nS (vs:=l.flatMap E.enc) q O C (by rw[d];omega) (Vv C (by rw[d,On,<-V];exact X)) (by rw[d];omega) aq λay ac R ba=>⟨⟨GW _,by omega⟩,?_⟩
     refine nS (vs:= [e]) q O ac (by simp) (λj v n=>R.ag (au j v n) (by rw[aM];exact λh=>ar h.symm)) (by rw[IQ];simp;omega) (λv D=>by rw[List.mem_singleton.1 D];exact ao) λbg bh bi bs=>?_
     refine U ⟨some ⟨g,0,none⟩,l.length+1,s.cap⟩ bg ⟨rfl,.inr ⟨g,_,rfl,bh,Z,aU,by rw[IQ,IQ,k,Bk];exact N,?_⟩⟩ ((R.trans bi).ai λb _ h=>by rw[Sl.af,B,h];rfl) (λb F=> .inl (by rw[Sl.af,B];exact F));rw[Nj _ _ _ (by rw[IQ];simp;omega),Nj _ _ _ (by rw[d];omega)];rw[k,Bk,AH,K];have bb:M.toList.length=s.cap:=by simp[N]
     have bt:(M.toList.take 1).length=1:=by simp;omega
     simp only[It,DA,CN,AI];rw[A4 (M.toList.take 1),N5 (by omega),HE (by omega),DA];rw[<- A4,OF (by simp[d])];rw[AG (by simp[d])]
end Go.Lf
namespace Go.Lf.G
open Go
def fL:cz Nat where
 enc t:= [Ap t]
 w:=1
 len _:=rfl
 pos:=by omega
 one x v a:=by simp at a;subst a;rfl
theorem Cells.pt {b:aa}{a:Q6}{x:Nat}(c:Cells b a (fL.enc x)):ag b a=some (Ap x):=by have d:=c 0 _ rfl;rwa [add_zero] at d
theorem uL:Pi P Am BG fL.w 8=true:=by kernel_rfl
theorem ovT(args:Array J0)(a:World):(callFunc EH args).run P a=((Extern.SlicesOverlaps.overlaps #[Am,Am] #[lN] args).run P a).andThen λv b=> .ok (.value v) b:=
 run_callFunc_extern (fn:=Proofs.Tryz.f209) Proofs.Tryz.func209 (by kernel_rfl) (by kernel_rfl) (by kernel_rfl) (by kernel_rfl) args a
theorem ovI(args:Array J0)(a:World):(callFunc GZ args).run P a=((Extern.SlicesOverlaps.overlaps #[Ct,Ct] #[lN] args).run P a).andThen λv b=> .ok (.value v) b:=
 run_callFunc_extern (fn:=Proofs.Tryz.f211) Proofs.Tryz.func211 (by kernel_rfl) (by kernel_rfl) (by kernel_rfl) (by kernel_rfl) args a
theorem ASb:(P.info? BG).bind (·.zero)=some (J5 none):=by kernel_rfl
theorem ASp:(P.info? Bb).bind (·.zero)=some (J6 J9 0):=by kernel_rfl
theorem uM:P.underlying Bb=some (.int J9):=by kernel_rfl
theorem AQ1(a:al)(s v:Sl)(i:Int)(b:aa)(c:A2O):Dm a s i v b c=nT a P Am Bb EH FL s i v b c:=rfl
theorem ARk(a:al)(s v:Sl)(i:Int)(b:aa)(c:A2O):IA a s i v b c=nT a P Ct Bb GZ Ii s i v b c:=rfl
theorem qs {g:al}{a:aa}{s:Sl}{l:List Nat}{x d:Nat}{f:A2O}(h:Own fL BG a s l)(i:a[d]? =some (J2 #[Ap x] BG (0,0)))(j:s.af≠some d)(m:l.length<=1000000)
  (k: ∀c e,Own fL BG e c (x::l)->Mod (λb=>s.af=some b) a e->(∀ b,c.af=some b->s.af=some b\/a.size<=b)->f (J4 c.p c.len c.cap) e):
  AA g P BJ #[J4 s.p s.len s.cap,J6 J9 0,J4 (some (⟨d,0,none⟩:Q6)) 1 1] a f:=by
 refine GK (v:=⟨some ⟨d,0,none⟩,1,1⟩) ?_;rw[AQ1];exact vO uL rfl uM ASb rfl (by decide) ovT h rfl i j (by simp[maxLen];omega) (by omega) k
theorem qt {g:al}{a:aa}{s:Sl}{l:List Int}{x:Int}{d:Nat}{f:A2O}(h:Own IE Bb a s l)(i:a[d]? =some (J2 #[J6 J9 x] Bb (0,0)))(j:s.af≠some d)(m:l.length<=1000000)
  (k: ∀c e,Own IE Bb e c (x::l)->Mod (λb=>s.af=some b) a e->(∀ b,c.af=some b->s.af=some b\/a.size<=b)->f (J4 c.p c.len c.cap) e):
  AA g P Cu #[J4 s.p s.len s.cap,J6 J9 0,J4 (some (⟨d,0,none⟩:Q6)) 1 1] a f:=by
 refine MX (v:=⟨some ⟨d,0,none⟩,1,1⟩) ?_;rw[ARk];exact vO ra rfl uM ASp rfl (by decide) ovI h rfl i j (by simp[maxLen];omega) (by omega) k
structure Db where
 fr:List Pr
 ts:List (Nat×List Pr)
 next:Nat
 aT:Nat
 au:Nat
 aK:Nat
 bq:Bool
structure Hp where
 d:Nat
 b:Nat
 lg:Nat
 nt:Nat
 ft:Nat
 Sb:Nat->Prop
 ns:List M.DC
 tp:Sl
 np:Sl
 ps:List Nat
abbrev dZ(q:Hp)(st:Db)(down:Bool):Array J0:= #[Ap q.b,Ap q.lg,Ap q.nt,Ap q.ft,J4 q.tp.p q.tp.len q.tp.cap,J4 q.np.p q.np.len q.np.cap,J6 J9 (st.next:Int),J6 J9 (st.aT:Int),J3 down]
abbrev eg(st:Db):List Int:=st.ts.map λp=>(p.1:Int)
def my(h:aa)(k:Nat->Nat)(t:Nat)(l:List Pr):Prop:= ∃b a,bR h t l (MR l) b a/\a<=h.size/\(∀ c,b<=c->c<a->k c=8)/\Gs l
structure bK (g h:aa) (q:Hp) (k:Nat->Nat) (st:Db) (m:Bx):Prop where
 cell:h[q.d]? =some (J2 (dZ q st false) Ey (0,0))
 box:Cm h q.b q.Sb m
 log:EM h q.lg q.b nl st.au st.bq
 dL:EM h q.nt q.b nn st.aK false
 fresh:M.cU h q.ft q.ns st.fr
 ck:Own fL BG h q.tp q.ps
 da:q.ps.length=st.ts.length
 cL: ∀(i:Nat) (t:Nat) (p:Nat×List Pr),q.ps[i]? =some t->st.ts[i]? =some p->my h k t p.2
 names:Own IE Bb h q.np (eg st)
 kd:k q.d=1
 kb: ∀c,q.Sb c->k c=2
 kl:k q.lg=3
 kn:k q.nt=4
 kf: ∀c,M.cQ q.ft q.ns c->k c=5
 kt: ∀c,q.tp.af=some c->k c=6
 kx: ∀c,q.np.af=some c->k c=7
 own: ∀c,k c≠0->g.size<=c/\c<h.size
 ext:Ext g h
theorem SN {b:Type}{d:cz b}{T:Q7}{h:aa}{s:Sl}{l:List b}(e:Own d T h s l){c:Nat}(a:s.af=some c):c<h.size:=by
 rcases e.row with⟨rfl,_⟩|⟨g,j,f,i,_⟩
 ·simp[Sl.af] at a
 ·rw[Sl.af,f] at a;have:g=c:=by simpa using a
  subst this;exact Af i
theorem my.mod {h h':aa}{k d:Nat->Nat}{t:Nat}{l:List Pr}{e:Nat->Prop}(T:my h k t l)(x:Mod e h h')(i: ∀c,k c=8-> ¬e c)(j: ∀c,c<h.size->d c=k c):my h' d t l:=by obtain⟨n,o,p,r,f,s⟩:=T;exact⟨n,o,p.mod x λc a b=>i c (f c a b),AF r x.size,λc a b=>by rw[j c (by omega)];exact f c a b,s⟩
structure DbR (C:Nat->Prop) (g h h':aa) (q:Hp) (k:Nat->Nat) (st:Db) (m:Bx):Prop where
 ext:Ext g h'
 size:h.size<=h'.size
 cell: ¬C 1->h'[q.d]? =some (J2 (dZ q st false) Ey (0,0))
 box: ¬C 2->Cm h' q.b q.Sb m
 log: ¬C 3->EM h' q.lg q.b nl st.au st.bq
 dL: ¬C 4->EM h' q.nt q.b nn st.aK false
 fresh: ¬C 5->M.cU h' q.ft q.ns st.fr
 ck: ¬C 6->Own fL BG h' q.tp q.ps
 names: ¬C 7->Own IE Bb h' q.np (eg st)
 cL: ¬C 8-> ∀k',(∀ c,c<h.size->k' c=k c)-> ∀(i:Nat) (t:Nat) (p:Nat×List Pr),q.ps[i]? =some t->st.ts[i]? =some p->my h' k' t p.2
theorem bK.rest {C:Nat->Prop}{g h h':aa}{q:Hp}{k:Nat->Nat}{st:Db}{m:Bx}(a:bK g h q k st m)(x:Mod (λc=>C (k c)) h h')(f: ¬C 0):DbR C g h h' q k st m:=by
 refine⟨⟨AF a.ext.size x.size,λc d _=>?_⟩,x.size,λb=>x.af a.cell (by rw[a.kd];exact b),λb=>a.box.mod x λc d=>by rw[a.kb c d];exact b,λb=>a.log.mod x (by rw[a.kl];exact b),λb=>a.dL.mod x (by rw[a.kn];exact b),
  λb=>a.fresh.mod x λc d=>by rw[a.kf c d];exact b,λb=>a.ck.mod x λc d=>by rw[a.kt c d];exact b,λb=>a.names.mod x λc d=>by rw[a.kx c d];exact b,
  λb n e i t p j l=>(a.cL i t p j l).mod x (λc d=>by rw[d];exact b) e⟩
 have e:k c=0:=Decidable.byContradiction λh=>by have:=(a.own c h).1;omega
 exact(x.get c (GF d a.ext.size) (by rw[e];exact f)).trans (a.ext.get c d (λh=>h))
section
variable {g h h' : aa} {q : Hp} {k : Nat -> Nat} {st : Db} {m : Bx}
theorem bK.gW(a:bK g h q k st m):q.d<h.size:=Af a.cell
theorem bK.oR(a:bK g h q k st m):q.lg<h.size:=Af a.log
theorem bK.oS(a:bK g h q k st m):q.nt<h.size:=Af a.dL
theorem bK.kY(a:bK g h q k st m): ¬q.Sb q.lg:=λb=>by have:=a.kb _ b;rw[a.kl] at this;cases this
theorem bK.rW(a:bK g h q k st m): ¬q.Sb q.nt:=λb=>by have:=a.kb _ b;rw[a.kn] at this;cases this
theorem bK.mJ(a:bK g h q k st m): ¬q.Sb q.d:=λb=>by have:=a.kb _ b;rw[a.kd] at this;cases this
theorem bK.dl(a:bK g h q k st m):q.d≠q.lg:=λb=>by have:=a.kd;rw[b,a.kl] at this;cases this
theorem bK.dn(a:bK g h q k st m):q.d≠q.nt:=λb=>by have:=a.kd;rw[b,a.kn] at this;cases this
theorem bK.on(a:bK g h q k st m)(x:Ext h h'):bK g h' q k st m:=by
 have b:=a.rest (C:=λ_=>False) x (λh=>h);exact⟨b.cell λh=>h,b.box λh=>h,b.log λh=>h,b.dL λh=>h,b.fresh λh=>h,b.ck λh=>h,a.da,b.cL (λh=>h) k (λ_ _=>rfl),b.names λh=>h,a.kd,a.kb,a.kl,a.kn,a.kf,a.kt,a.kx,
  λc d=>⟨(a.own c d).1,GF (a.own c d).2 x.size⟩,b.ext⟩
theorem bK.beside {e:Nat->Prop}(a:bK g h q k st m)(x:Mod e h h')(f: ∀c,e c->k c=0/\g.size<=c):bK g h' q k st m:=by
 have j:Ext g h':=⟨AF a.ext.size x.size,λc b _=>(x.get c (GF b a.ext.size) λh=>by have:=(f c h).2;omega).trans (a.ext.get c b (λh=>h))⟩;have d: ∀ {c},k c≠0-> ¬e c:=λb l=>b (f _ l).1
 exact⟨x.af a.cell (d (by rw[a.kd];decide)),a.box.mod x λc b=>d (by rw[a.kb c b];decide),a.log.mod x (d (by rw[a.kl];decide)),a.dL.mod x (d (by rw[a.kn];decide)),a.fresh.mod x λc b=>d (by rw[a.kf c b];decide),
  a.ck.mod x λc b=>d (by rw[a.kt c b];decide),a.da,λi t p n o=>(a.cL i t p n o).mod x (λc b=>d (by rw[b];decide)) (λ_ _=>rfl),a.names.mod x λc b=>d (by rw[a.kx c b];decide),a.kd,a.kb,a.kl,a.kn,a.kf,a.kt,a.kx,
  λc b=>⟨(a.own c b).1,GF (a.own c b).2 x.size⟩,j⟩
open Classical in
noncomputable def Kz (k:Nat->Nat) (a:Nat) (b:Nat->Prop) (d:Nat):Nat->Nat:=λc=>if c<a then k c else if b c then d else 0
theorem F9 {a b c:Nat}{d:Nat->Prop}(e:c<a):Kz k a d b c=k c:=by unfold Kz;rw[if_pos e]
theorem rv {a b c:Nat}{d:Nat->Prop}(f:a<=c)(e:d c):Kz k a d b c=b:=by unfold Kz;rw[if_neg (by omega),if_pos e]
theorem Ul {a b c:Nat}{S:Nat->Prop}(e:a<=c)(d: ¬S c):Kz k a S b c=0:=by unfold Kz;rw[if_neg (by omega),if_neg d]
theorem bK.boxed(b:bK g h q k st m){S':Nat->Prop}{p:Bx}{j:Nat}{bF:Db}(r:Cm h' q.b S' p)(x:Mod (λc=>q.Sb c\/(j=3/\c=q.lg)\/(j=4/\c=q.nt)) h h')(s: ∀c,S' c->q.Sb c\/h.size<=c)
  (u:bF.fr=st.fr) (i:bF.ts=st.ts) (v:bF.next=st.next) (w:bF.aT=st.aT)
  (l:(j≠3/\bF.au=st.au/\bF.bq=st.bq)\/EM h' q.lg q.b nl bF.au bF.bq) (y:(j≠4/\bF.aK=st.aK)\/EM h' q.nt q.b nn bF.aK false):
  bK g h' {q with Sb:=S'} (Kz k h.size S' 2) bF p:=by
 have e:=b.rest (C:=λc=>c=2\/(j=3/\c=3)\/(j=4/\c=4)) (h':=h') (x.ai λc _ a=>by
  rcases a with a|⟨d,rfl⟩|⟨d,rfl⟩
  ·exact .inl (b.kb c a)
  ·exact .inr (.inl ⟨d,b.kl⟩)
  ·exact .inr (.inr ⟨d,b.kn⟩)) (by rintro(h|⟨_,h⟩|⟨_,h⟩)<;>cases h)
 have f: ∀ {c},c<h.size->Kz k h.size S' 2 c=k c:=λa=>F9 a
 have z:dZ {q with Sb:=S'} bF false=dZ q st false:=by simp only[dZ,v,w]
 refine⟨by rw[z];exact e.cell (by omega),r,?_,?_,by rw[u];exact e.fresh (by omega),e.ck (by omega),by rw[i];exact b.da,by rw[i];exact e.cL (by omega) _ (λc a=>f a),by rw[eg,i];exact e.names (by omega),
  by rw[f b.gW];exact b.kd,λc a=>?_,by rw[f b.oR];exact b.kl,by rw[f b.oS];exact b.kn,λc a=>by rw[f (b.fresh.lt a)];exact b.kf c a,λc a=>by rw[f (SN b.ck a)];exact b.kt c a,
  λc a=>by rw[f (SN b.names a)];exact b.kx c a,λc a=>?_,e.ext⟩
 ·rcases l with⟨d,n,A⟩|d
  ·rw[n,A];exact e.log (by omega)
  ·exact d
 ·rcases y with⟨d,n⟩|d
  ·rw[n];exact e.dL (by omega)
  ·exact d
 ·by_cases o:c<h.size
  ·rw[f o];rcases s c a with d|d
   ·exact b.kb c d
   ·omega
  ·exact rv (by omega) a
 ·by_cases o:c<h.size
  ·rw[f o] at a;exact⟨(b.own c a).1,by have:=e.size;omega⟩
  ·by_cases t:S' c
   ·exact⟨by have:=b.ext.size;omega,r.lt t⟩
   ·exact absurd (Ul (by omega) t) a
theorem bK.oQ(b:bK g h q k st m){f:List M.DC}{j:List Pr}(T:M.cU h' q.ft f j)(x:Mod (M.cQ q.ft q.ns) h h')(s: ∀c,M.cQ q.ft f c->M.cQ q.ft q.ns c\/h.size<=c):
  bK g h' {q with ns:=f} (Kz k h.size (M.cQ q.ft f) 5) {st with fr:=j} m:=by
 have d:=b.rest (C:=λc=>c=5) (h':=h') (x.ai λc _ a=>b.kf c a) (by decide);have e: ∀ {c},c<h.size->Kz k h.size (M.cQ q.ft f) 5 c=k c:=λa=>F9 a
 refine⟨d.cell (by decide),d.box (by decide),d.log (by decide),d.dL (by decide),T,d.ck (by decide),b.da,d.cL (by decide) _ (λc a=>e a),d.names (by decide),
  by rw[e b.gW];exact b.kd,λc a=>by rw[e (b.box.lt a)];exact b.kb c a,by rw[e b.oR];exact b.kl,by rw[e b.oS];exact b.kn,λc a=>?_,λc a=>by rw[e (SN b.ck a)];exact b.kt c a,
  λc a=>by rw[e (SN b.names a)];exact b.kx c a,λc a=>?_,d.ext⟩
 ·by_cases i:c<h.size
  ·rw[e i];rcases s c a with l|l
   ·exact b.kf c l
   ·omega
  ·exact rv (by omega) a
 ·by_cases i:c<h.size
  ·rw[e i] at a;exact⟨(b.own c a).1,by have:=d.size;omega⟩
  ·by_cases n:M.cQ q.ft f c
   ·exact⟨by have:=b.ext.size;omega,T.lt n⟩
   ·exact absurd (Ul (by omega) n) a
theorem bK.renew(b:bK g h q k st m){gC:Nat}(T:M.cU h' gC [] [])(i:h.size<=gC)(a:h'[q.d]? =some (J2 (dZ {q with ft:=gC} st false) Ey (0,0)))(x:Mod (λc=>c=q.d) h h'):
  bK g h' {q with ft:=gC,ns:= []} (Kz k h.size (· =gC) 5) {st with fr:= []} m:=by
 have d:=b.rest (C:=λc=>c=1) (h':=h') (x.ai λc _ a=>by rw[a];exact b.kd) (by decide);have e: ∀ {c},c<h.size->Kz k h.size (· =gC) 5 c=k c:=λa=>F9 a
 have j: ∀c,M.cQ gC [] c->c=gC:=λc a=>by
  rcases a with rfl|⟨x,l,_⟩
  ·rfl
  ·cases l
 refine⟨a,d.box (by decide),d.log (by decide),d.dL (by decide),T,d.ck (by decide),b.da,d.cL (by decide) _ (λc a=>e a),d.names (by decide),
  by rw[e b.gW];exact b.kd,λc a=>by rw[e (b.box.lt a)];exact b.kb c a,by rw[e b.oR];exact b.kl,by rw[e b.oS];exact b.kn,λc a=>by rw[j c a];exact rv i rfl,λc a=>by rw[e (SN b.ck a)];exact b.kt c a,
  λc a=>by rw[e (SN b.names a)];exact b.kx c a,λc a=>?_,d.ext⟩
 by_cases n:c<h.size
 ·rw[e n] at a;exact⟨(b.own c a).1,by have:=d.size;omega⟩
 ·by_cases f:c=gC
  ·subst f;exact⟨by have:=b.ext.size;omega,T.lt (.inl rfl)⟩
  ·exact absurd (Ul (S:=(· =gC)) (by omega) f) a
open Classical in
noncomputable def Kr (k:Nat->Nat) (b:Nat) (tp np:Sl) (a:Nat->Prop):Nat->Nat:=λc=>if k c≠0 then k c else if tp.af=some c then 6 else if np.af=some c then 7 else if a c then 8 else 0
theorem bK.eU(d:bK g h q k st m){tp np:Sl}{ps:List Nat}{ts:List (Nat×List Pr)}{next aT:Nat}{S:Nat->Prop}
  (a:h'[q.d]? =some (J2 (dZ {q with tp:=tp,np:=np} {st with next:=next,aT:=aT} false) Ey (0,0))) (x:Mod (λc=>c=q.d\/q.tp.af=some c\/q.np.af=some c) h h')
  (I:Own fL BG h' tp ps) (on:Own IE Bb h' np (ts.map λp=>(p.1:Int))) (K:ps.length=ts.length)
  (r: ∀c,tp.af=some c->q.tp.af=some c\/(k c=0/\g.size<=c/\np.af≠some c/\ ¬S c)) (s: ∀c,np.af=some c->q.np.af=some c\/(k c=0/\g.size<=c/\tp.af≠some c/\ ¬S c)) (L: ∀c,S c->g.size<=c/\c<h'.size)
  (M: ∀(i:Nat) (t:Nat) (p:Nat×List Pr),ps[i]? =some t->ts[i]? =some p->(∃ e:Nat,q.ps[e]? =some t/\st.ts[e]? =some p)\/ ∃n j,bR h' t p.2 (MR p.2) n j/\j<=h'.size/\(∀ c,n<=c->c<j->S c/\k c=0)/\Gs p.2):
  bK g h' {q with tp:=tp,np:=np,ps:=ps} (Kr k h.size tp np S) {st with ts:=ts,next:=next,aT:=aT} m:=by
 have l:=d.rest (C:=λc=>c=1\/c=6\/c=7) (h':=h') (x.ai λc _ a=>by
  rcases a with rfl|a|a
  ·exact .inl d.kd
  ·exact .inr (.inl (d.kt c a))
  ·exact .inr (.inr (d.kx c a))) (by decide)
 have f: ∀ {c e},k c=e->e≠0->Kr k h.size tp np S c=e:=λb u=>by unfold Kr;rw[if_pos (by rw[b];exact u)];exact b
 refine⟨a,l.box (by decide),l.log (by decide),l.dL (by decide),l.fresh (by decide),I,K,λi t p b u=>?_,on,f d.kd (by decide),λc a=>f (d.kb c a) (by decide),f d.kl (by decide),f d.kn (by decide),λc a=>f (d.kf c a) (by decide),λc a=>?_,λc a=>?_,λc a=>?_,l.ext⟩
 ·rcases M i t p b u with⟨e,N,O⟩|⟨n,j,v,w,y,z⟩
  ·obtain⟨n,j,v,w,y,z⟩:=l.cL (by decide) k (λ_ _=>rfl) e t p N O;exact⟨n,j,v,w,λc A B=>f (y c A B) (by decide),z⟩
  ·refine⟨n,j,v,w,λc A B=>?_,z⟩;obtain⟨D,E⟩:=y c A B;have P:tp.af≠some c:=λF=>by
    rcases r c F with h|h
    ·have:=d.kt c h;rw[E] at this;cases this
    ·exact h.2.2.2 D
   have Q:np.af≠some c:=λF=>by
    rcases s c F with h|h
    ·have:=d.kx c h;rw[E] at this;cases this
    ·exact h.2.2.2 D
   unfold Kr;rw[if_neg (by simp[E]),if_neg P,if_neg Q,if_pos D]
 ·rcases r c a with b|b
  ·exact f (d.kt c b) (by decide)
  ·unfold Kr;rw[if_neg (by simp[b.1]),if_pos a]
 ·rcases s c a with b|b
  ·exact f (d.kx c b) (by decide)
  ·unfold Kr;rw[if_neg (by simp[b.1]),if_neg b.2.2.1,if_pos a]
 ·by_cases o:k c=0
  ·unfold Kr at a;rw[if_neg (by simp[o])] at a;by_cases G:tp.af=some c
   ·refine⟨?_,SN I G⟩;rcases r c G with b|b
    ·have:=d.kt c b;rw[o] at this;cases this
    ·exact b.2.1
   ·rw[if_neg G] at a;by_cases H:np.af=some c
    ·refine⟨?_,SN on H⟩;rcases s c H with b|b
     ·have:=d.kx c b;rw[o] at this;cases this
     ·exact b.2.1
    ·rw[if_neg H] at a;by_cases J:S c
     ·exact L c J
     ·rw[if_neg J] at a;exact absurd rfl a
  ·exact⟨(d.own c o).1,by have:=(d.own c o).2;have:=l.size;omega⟩
end
structure JN (m m':Bx):Prop where
 up:m'.down=false
 calm:m.fuel= -1->m'.fuel= -1
theorem JN.refl {m:Bx}(a:m.down=false):JN m m:=⟨a,λa=>a⟩
theorem JN.trans {m c d:Bx}(a:JN m c)(b:JN c d):JN m d:=⟨b.up,λe=>b.calm (a.calm e)⟩
theorem Yk {m:Bx}(hd:m.down=false)(l:List Fi):JN m {IK m with files:=l}:=by refine⟨(ALd l).trans hd,λa=>?_⟩;show(IK m).fuel= -1;unfold IK;rw[if_neg (by rw[a];decide)];exact a
theorem RF {m:Bx}{k d:A2P}(hd:m.down=false)(b:Kn k=false):(m.fuel=0/\EF m k d=(30,Mg m))\/((EF m k d).1=0/\JN m (EF m k d).2/\
  ∀x,ff (EF m k d).2 x=if x=k then some (((ff m k).getD (bD,bD)).1,((ff m k).getD (bD,bD)).2++d) else ff m x):=by
 by_cases a:m.fuel=0
 ·left;refine⟨a,?_⟩;unfold EF;rw[if_neg (by simp[hd]),if_neg (by simp[b]),if_pos a]
 ·right;obtain⟨c,e⟩:=AMC ⟨hd,a⟩ (d:=d) b;refine⟨c,?_,e⟩;unfold EF;rw[if_neg (by simp[hd]),if_neg (by simp[b]),if_neg a];exact Yk hd _
theorem Nv {m:Bx}{a:A2P}{p:A2P×A2P}(hd:m.down=false)(c:ff m a=some p):(m.fuel=0/\G6 m a=(30,Mg m))\/((G6 m a).1=0/\JN m (G6 m a).2/\ ∀x,ff (G6 m a).2 x=if x=a then some (p.1++p.2,bD) else ff m x):=by
 have d:(Cb a m.files).isNone=false:=by
  cases b:Cb a m.files with
  |none=>unfold ff at c;rw[b] at c;cases c
  |some f=>rfl
 by_cases b:m.fuel=0
 ·left;refine⟨b,?_⟩;unfold G6;rw[if_neg (by simp[hd]),if_neg (by simp[d]),if_pos b]
 ·right;obtain⟨e,g⟩:=AQQ ⟨hd,b⟩ c;refine⟨e,?_,g⟩;unfold G6;rw[if_neg (by simp[hd]),if_neg (by simp[d]),if_neg b];exact Yk hd _
theorem Qh {m:Bx}{k:A2P}(hd:m.down=false)(b:(ff m k).isSome=true):(m.fuel=0/\Gi m k=(30,Mg m))\/((Gi m k).1=0/\JN m (Gi m k).2/\ ∀x,ff (Gi m k).2 x=if x=k then none else ff m x):=by
 have c:(Cb k m.files).isNone=false:=by
  rw[<- Ud] at b;cases a:Cb k m.files with
  |none=>rw[a] at b;cases b
  |some f=>rfl
 by_cases a:m.fuel=0
 ·left;refine⟨a,?_⟩;unfold Gi;rw[if_neg (by simp[hd]),if_neg (by simp[c]),if_pos a]
 ·right;obtain⟨d,e⟩:=AMn ⟨hd,a⟩ b;refine⟨d,?_,e⟩;unfold Gi;rw[if_neg (by simp[hd]),if_neg (by simp[c]),if_neg a];exact Yk hd _
theorem oG(m:Bx)(x:A2P):ff (Mg m) x=ff m x:=rfl
theorem ry(m:Bx):bg (Mg m).files=bg m.files:=rfl
theorem yS {aq:al}{g:aa}{H b z:Nat}{h:A2P}{X:Bool}{n:Nat->Prop}{m:Bx}{upto:Int}{I:A2O}(ar:cj g)(au: ∀j,Mod n g j->cj j)(L:EM g H b h z X)(N:Cm g b n m)(hd:m.down=false)(av: ¬n H)(a2:h.size<=8)(aw:bg m.files<=8000000000000)
  (ax:upto>=(z:Int)->I (J6 J9 1) g)
  (ay:m.fuel≠ -1-> ∀j S' f,Cm j b S' f->f.down=true->Mod n g j->(∀ c,S' c->n c)->bg f.files<=bg m.files->(∀ x,ff f x=ff m x\/(ff f x=none/\ ∃d:Nat,1<=d/\d<=99999999/\(d:Int)<=upto/\x=aD h d))->I (J6 J9 30) j)
  (az:upto<(z:Int)-> ∀j S' f,Cm j b S' f->JN m f->Mod n g j->(∀ c,S' c->n c)->bg f.files<=bg m.files->(∀ d:Nat,1<=d->d<=99999999->(d:Int)<=upto->ff f (aD h d)=none)->
   (∀ x,(∀ d:Nat,1<=d->d<=99999999->(d:Int)<=upto->x≠aD h d)->ff f x=ff m x)->I (J6 J9 0) j):AA aq P JG #[Ap H,J6 J9 upto] g I:=by
 refine ABA ?_;unfold Tf;refine ah.mk λK aA=>ae.no rfl (aE (AC.mk (AB L rfl) (aA _ _ ?_)))
 refine ae.intro (λq=>ax (by simpa using q)) (λq=>?_);have aC:upto<(z:Int):=by simpa using q
 refine aE (AZ.mk (AL L rfl) (aE (AJ.mk (AB L rfl) ?_)));refine xE ar N hd (by omega) aw λY Z l A v2 ab O=>⟨Z,_,rfl,ae.no rfl ?_⟩
 have ac:(l.map λd:Nat=>(d:Int)).length=l.length:=BE ..;have J: ∀d∈l,1<=d/\d<=99999999/\(ff m (aD h d)).isSome=true:=λd e=>by
  have:=(A.mem d).1 e;rw[Ud] at this;exact this
 have a3:l.Nodup:=List.nodup_iff_pairwise_ne.2 (A.inc.imp λg=>Nat.ne_of_lt g);have a4:=APP A;refine Loop.rule (λad x s=> ∃(i:Nat) (B:Nat->Prop) (r:Bx),x=((i:Int),())/\Cm s b B r/\JN m r/\Mod n g s/\Mod n Y s/\(∀ c,B c->n c)/\bg r.files<=bg m.files/\(∀ d∈l.take i,(d:Int)<=upto->ff r (aD h d)=none)/\(∀ x,(∀ d∈l.take i,(d:Int)<=upto->x≠aD h d)->ff r x=ff m x)/\i<=l.length/\ad=l.length-i) ?_
  ⟨0,n,m,rfl,N.ext ab,JN.refl hd,Ext.mod ab,Mod.refl,λ_ g=>g,A0 _,by simp,λ_ _=>rfl,AD _,rfl⟩
 rintro a5 ad _ s ⟨i,B,r,rfl,Q,C,w,R,D,M,E,u,a6,rfl⟩ aF;have aG:View IE s Z (l.map λd:Nat=>(d:Int)):=v2.mod R λc v aH=>by have:=O c v;have:=N.lt aH;omega
 rw[v2.len,ac];refine ae.intro (λS=>?_) (λS=>?_)
 ·have F:i<l.length:=by simpa using S
  have ag:l[i]? =some l[i]:=A2 F;obtain⟨af,ai,aI⟩:=J l[i] (AW F);have y:l.take (i+1)=l.take i++ [l[i]]:=by rw[Ax,ag];rfl
  have aJ: ∀d∈l.take i,d<l[i]:=λd e=>by
   have:=A.inc;rw[<- DP (i+1) l,y] at this;have aK:=(List.pairwise_append.1 (List.pairwise_append.1 this).1).2.2 d e l[i] (by simp);exact aK
  refine ah.mk λaL aM=>?_
  have aj: ∀S' f j,Cm j b S' f->JN m f->Mod n g j->Mod n Y j->(∀ c,S' c->n c)->bg f.files<=bg m.files->(∀ d∈l.take (i+1),(d:Int)<=upto->ff f (aD h d)=none)->(∀ x,(∀ d∈l.take (i+1),(d:Int)<=upto->x≠aD h d)->ff f x=ff m x)->aL () j:=λS' f j aN aO aP aQ aR aS aT O=>by
   refine aM _ _ ?_;dsimp only;rw[Ab (by omega)];exact aF (l.length-(i+1)) _ _ (by omega) ⟨i+1,S',f,rfl,aN,aO,aP,aQ,aR,aS,aT,O,F,rfl⟩
  rw[<- ac,<-v2.len];refine aG.idx (i:=i) (x:=(l[i]:Int)) (by rw[Bm,ag];rfl) λa _ c=>?_
  refine AC.mk c.int ?_;refine ae.intro (λq=>?_) (λq=>?_)
  ·have q:(l[i]:Int)<=upto:=by simpa using q
   have T:EM s H b h z X:=L.mod w av;refine aE (AZ.mk (AL T rfl) (aE (AJ.mk (AB T rfl) ?_)));refine Xp (au s w) (by omega) (by omega) λa7 U=>⟨_,rfl,⟨AL (T.ext U) rfl,?_⟩⟩
   refine WO (Q.ext U) λak am V aU an=>⟨_,rfl,?_⟩
   have aV:(ff r (aD h l[i])).isSome=true:=by rw[u (aD h l[i]) λd e _ G=>by have:=aJ d e;have:=Ib G;omega];exact aI
   have W:=(Ext.mod U).trans (aU.ai λc _ v=>D c v);rcases Qh (k:=aD h l[i]) C.up aV with⟨aW,aX⟩|⟨aY,ds,ao⟩
   ·rw[aX] at V ⊢;refine ae.yes rfl (ay (λg=>by have:=C.calm g;rw[aW] at this;cases this) ak am _ V rfl (w.trans W) (λc v=>D c (an c v)) M λx=>?_);show ff r x=_\/(ff r x=_/\_);by_cases t: ∃d,d∈l.take i/\(d:Int)<=upto/\x=aD h d
    ·obtain⟨d,e,o,rfl⟩:=t;have ap:=J d (DQ e);exact .inr ⟨E d e o,d,ap.1,ap.2.1,o,rfl⟩
    ·exact .inl (u x λd e o G=>t ⟨d,e,o,G⟩)
   rw[aY];refine ae.no rfl (aj am _ ak V (C.trans ds) (w.trans W) (R.trans W) (λc v=>D c (an c v)) (AF (Yz _) M) ?_ ?_)
   ·intro d e o;rw[ao];split
    ·rfl
    ·rename_i aZ;rw[y] at e;rcases List.mem_append.1 e with e|e
     ·exact E d e o
     ·exact absurd (by rw[List.mem_singleton.1 e]) aZ
   ·intro x t;rw[ao,if_neg (t l[i] (by rw[y];exact List.mem_append.2 (.inr (List.mem_singleton.2 rfl))) q)];exact u x λd e=>t d (by rw[y];exact List.mem_append.2 (.inl e))
  ·have q: ¬(l[i]:Int)<=upto:=by simpa using q
   refine aj B r s Q C w R D M ?_ ?_
   ·intro d e o;rw[y] at e;rcases List.mem_append.1 e with e|e
    ·exact E d e o
    ·rw[List.mem_singleton.1 e] at o;exact absurd o q
   ·intro x t;exact u x λd e=>t d (by rw[y];exact List.mem_append.2 (.inl e))
 ·have F:i=l.length:=by simp at S;omega
  subst F;rw[C5] at E u;refine az aC s B r Q C w D M ?_ ?_
  ·intro d af ai o;by_cases e:d∈l
   ·exact E d e o
   ·rw[u (aD h d) λk a0 _ G=>e (by rw[Ib G];exact a0)];have: ¬((ff m (aD h d)).isSome=true):=λg=>e ((A.mem d).2 ⟨af,ai,by rw[Ud];exact g⟩)
    cases a1:ff m (aD h d) with
    |none=>rfl
    |some p=>rw[a1] at this;exact absurd rfl this
  ·intro x t;exact u x λd e o=>t d (J d e).1 (J d e).2.1 o
theorem AQg {a:Nat}(h:a<=99999999):Kn (aU a)=false:=by
 have b:(aU a).size=1+(Lib.decDigits a).length:=by have:=BA (aU a);rw[WP] at this;rw[<- this];simp;omega
 have c:(Lib.decDigits a).length<=20:=by rw[Lib.decDigits_length];exact Lib.nDigits_le20 a (by omega)
 unfold Kn;rw[Hk,decide_eq_false_iff_not,decide_eq_false_iff_not];refine⟨λh=>?_,by omega⟩;rw[h] at b;have:bD.size=0:=rfl;omega
theorem P6 {A:al}{h:aa}{a:Nat}{R:A2O}(c:cj h)(l:a<=1099511627776)(d: ∀b,Ext h b->R (J7 (aU a)) b):AA A P JA #[J6 J9 a] h R:=by
 refine AIC ?_;unfold u0;refine xz c.cL (by omega) (by omega) λe f=>⟨_,rfl,?_⟩
 have i:Lib.itoa (a:Int)=Lib.decDigits a:=Lib.itoa_nonneg a;rw[i];have n:(Lib.decDigits a).length<=20:=by rw[Lib.decDigits_length];exact Lib.nDigits_le20 a (by omega)
 have j:(⟨(Lib.decDigits a).toArray⟩:A2P).size=(Lib.decDigits a).length:=by simp[ByteArray.size]
 refine⟨?_,?_⟩
 ·rw[j,max_i64];have:(⟨#[116]⟩:A2P).size=1:=rfl;omega
 ·exact d e f
def rz(h:aa)(a:Nat):Prop:= ∃b c d e f i j l,h[a]? =some (J2 #[b,c,d,e,f,i,j,l,J3 true] Ey (0,0))
theorem AQb {A:al}{h:aa}{q:Hp}{st:Db}{R:A2O}(hd:h[q.d]? =some (J2 (dZ q st false) Ey (0,0)))(b: ∀a,rz a q.d->Mod (· =q.d) h a->a.size=h.size->R (J6 J9 30) a):AA A P CV #[Ap q.d,J6 J9 30] h R:=by
 refine ABt ?_;unfold Vk;refine ah.mk λK c=>ae.yes rfl (aE (ab.dm hd (by simp) λd e f i=>c _ _ (b d ?_ f i)))
 exact⟨_,_,_,_,_,_,_,_,by simpa using e⟩
section
variable {A : al} {g h : aa} {q : Hp} {k : Nat -> Nat} {st : Db} {m : Bx} {R : A2O}
theorem bK.gX(a:bK g h q k st m)(b:cj g):cj h:=b.ext a.ext
def Grow(k a:Nat->Nat)(b:Nat):Prop:= ∀c,c<b->a c=k c
theorem Grow.refl {k:Nat->Nat}{a:Nat}:Grow k k a:=λ_ _=>rfl
theorem rA {k:Nat->Nat}{a b:Nat}{d:Nat->Prop}:Grow k (Kz k a d b) a:=λc e=>F9 e
theorem AP5(b:bK g h q k st m)(t:st.next<=99999999)(M:st.aT<=99999999)(N:st.ts.length<=60000)(u: ∀p∈st.ts,p.1<=99999999)(E: ∀v,Ext h v->R (J7 (AX (Dt ⟨st.next,st.aT,st.ts.map (·.1)⟩))) v):AA A P PU #[Ap q.d] h R:=by
 refine ADg ?_;unfold VY;refine aE (AC.mk (AB b.cell rfl) ?_);rw[Bv (by omega)];refine CR (by omega) λO w=>⟨_,rfl,?_⟩
 have f:=Ai w b.cell;refine aE (AC.mk (AB f rfl) ⟨AB b.cell rfl,?_⟩);rw[Bv (by omega)];refine CR (by omega) λQ y=>⟨_,rfl,?_⟩
 have z:=Ai y f;have S:=AV (n:=st.next) (by omega);have T:=AV (n:=st.aT) (by omega);have j:q.np.len=st.ts.length:=by rw[b.names.len];simp
 refine⟨by rw[AP,AP,max_i64];omega,?_⟩;refine aE (AY.mk (s:=q.np) (AB z rfl) ⟨AB f rfl,AB b.cell rfl,?_⟩);rw[j,Bv (by omega),Ak];refine CR (by omega) λF B=>⟨_,rfl,?_⟩
 have G:=Ai B z;have U:=AV (n:=st.ts.length) (by omega);refine⟨by rw[AP,AP,A1,max_i64];omega,?_⟩;refine aE (AY.mk (s:=q.np) (AB G rfl) ?_);rw[Ak];have C:=(w.trans y).trans B;have H:=(b.names.ext C).view;have V: ∀i,((st.ts.map (·.1)).take i).flatMap BX=((st.ts.map (·.1)).take i).flatMap BX:=λ_=>rfl
 refine Loop.rule (λD x o=> ∃i:Nat,x=(AX (BX st.next++BX st.aT++BX st.ts.length++((st.ts.map (·.1)).take i).flatMap BX),(i:Int),())/\D=st.ts.length-i/\i<=st.ts.length/\Ext F o) ?_ ⟨0,by simp,rfl,by omega,Mod.refl⟩;rintro K D _ o ⟨i,rfl,rfl,W,r⟩ I;dsimp only;refine ae.intro (λe=>?_) (λe=>?_)
 ·have d:i<st.ts.length:=by rw[<- j];simpa using e
  have ag:st.ts[i]? =some st.ts[i]:=A2 d;have X:=u st.ts[i] (AW d);refine(H.ext r).idx (i:=i) (x:=(st.ts[i].1:Int)) (by rw[eg,Bm,ag];rfl) λa _ c=>AC.mk c.int ?_
  rw[Bv (by omega)];refine CR (by omega) λY J=>⟨_,rfl,?_⟩
  have Z:=AV (n:=st.ts[i].1) (by omega);have aa:=UL (l:=(st.ts.map (·.1)).take i) λn t=>by
   obtain⟨p,L,rfl⟩:=List.mem_map.1 (DQ t);exact u p L
  have ab:((st.ts.map (·.1)).take i).length<=60000:=by simp;omega
  refine⟨by rw[AP,AP,max_i64];simp only[A1];omega,?_⟩;rw[Ak,Ab (by omega)];refine I (st.ts.length-(i+1)) _ _ (by omega) ⟨i+1,?_,rfl,d,r.trans J⟩;rw[Ax,Bm,ag];simp
 ·have d:i=st.ts.length:=by rw[j] at e;simp at e;omega
  subst d;have:=E o (C.trans r);rw[AG (by simp)];simpa [Dt] using this
theorem yT {n:Nat}{s:Sl}{l:List Pr}(z:cj g)(Q:bK g h q k st m)(hd:m.down=false)(T:Gs l)(an:View BZ h s l)(B: ∀c,s.af=some c->c<h.size)(ao:n<=99999999)(ap:ff m (aU n)=none)(aq:bg m.files+(JZ l).length+1<=8796093022208)
  (S:m.fuel≠ -1-> ∀b S' e,Cm b q.b S' e->e.down=true->Mod q.Sb h b->(∀ c,S' c->q.Sb c\/h.size<=c)->(∀ x,x≠aU n->ff e x=ff m x)->bg e.files<=bg m.files+(JZ l).length+1->R (J1 #[J5 none,J6 J9 30]) b)
  (ar: ∀b S' C e t D U,bK g b {q with Sb:=S'} C st e->JN m e->(∀ x,ff e x=if x=aU n then some (AX (JZ l),bD) else ff m x)->bg e.files<=bg m.files+(JZ l).length+1->bR b t l (MR l) D U->h.size<=D->U<=b.size->(∀ c,D<=c->C c=0)->
   Mod q.Sb h b->Grow k C h.size->R (J1 #[Ap t,J6 J9 0]) b):AA A P NG #[Ap q.d,J6 J9 (n:Int),J4 s.p s.len s.cap] h R:=by
 refine ADp ?_;unfold Xm;refine AN3 T an B λaC V=>⟨_,_,rfl,ae.no rfl ?_⟩
 have p:=Q.on V;refine aE (AZ.mk (AL p.cell rfl) ?_);refine P6 (p.gX z) (by omega) λE F=>⟨_,rfl,⟨AL (p.on F).cell rfl,?_⟩⟩
 have W:=p.on F;have X:=V.trans F;have aD:=X.size;refine sq W.box (by rw[AP];exact aq) λY f G H Z=>⟨_,rfl,?_⟩
 have I:=Yw Q.box.aC (aU n) (AX (JZ l));rw[AP] at I;have aa:Mod q.Sb h Y:=(Ext.mod X).trans H;have J: ∀c,f c->q.Sb c\/h.size<=c:=λc a=>(Z c a).imp id λh=>by omega
 rcases RF (k:=aU n) (d:=AX (JZ l)) hd (AQg ao) with⟨K,L⟩|⟨L,M,r⟩
 ·rw[L] at G ⊢;refine ae.yes rfl ?_;exact S (by rw[K];decide) Y f _ G rfl aa J (λx _=>rfl) (by rw[ry,GB];exact ID _ _)
 rw[L];refine ae.no rfl ?_;have o:=W.boxed (j:=2) (bF:=st) G (H.ai λc _ a=> .inl a) Z rfl rfl rfl rfl (.inl ⟨by decide,rfl,rfl⟩) (.inl ⟨by decide,rfl⟩);generalize (EF m (aU n) (AX (JZ l))).2=ab at*
 have aF:Grow k (Kz k E.size f 2) E.size:=rA;refine aE (AZ.mk (AL o.cell rfl) ?_);refine P6 (o.gX z) (by omega) λau u=>⟨_,rfl,⟨AL (o.on u).cell rfl,?_⟩⟩
 have ac:=o.on u;rw[ap] at r;have av:ff ab (aU n)=some (bD,bD++AX (JZ l)):=by rw[r,if_pos rfl];rfl
 refine sr ac.box λad v N=>⟨_,rfl,?_⟩
 have aw:=nR o.box.aC (aU n);have af:Mod q.Sb h ad:=by refine aa.then ((Ext.mod u).trans N |>.ai λc _ a=>?_);exact(J c a)
 rcases Nv M.up av with⟨K,O⟩|⟨O,ag,ah⟩
 ·rw[O] at v ⊢;refine ae.yes rfl ?_;exact S (λax=>by have:=M.calm ax;rw[K] at this;cases this) ad f _ v rfl af J (λx i=>by
   rw[oG,r,if_neg i]) I
 rw[O];refine ae.no rfl ?_;have w:=ac.boxed (j:=2) (bF:=st) v (N.ai λc _ a=> .inl a) (λc a=> .inl a) rfl rfl rfl rfl (.inl ⟨by decide,rfl,rfl⟩) (.inl ⟨by decide,rfl⟩);generalize (G6 ab (aU n)).2=ai at*
 refine aE (AZ.mk (AL w.cell rfl) ?_);refine P6 (w.gX z) (by omega) λaj y=>⟨_,rfl,⟨AL (w.on y).cell rfl,?_⟩⟩
 have ak:=w.on y;refine oU ak.box ⟨_,_,rfl,?_⟩;have ay:ff ai (aU n)=some (AX (JZ l),bD):=by rw[ah,if_pos rfl,Qw,Qw]
 rw[qD ag.up,ay];dsimp only;rw[Xv];refine ae.no rfl ?_;refine y5 T.eE λal t am az=>⟨_,_,rfl,?_⟩
 have aG:=u.size;have aH:=H.size;have aI:=N.size;have aJ:=y.size;have aA: ∀c,aj.size<=c->Kz (Kz k E.size f 2) au.size f 2 c=0:=λc a=>by
  have: ¬f c:=λB=>by have:=v.lt B;omega
  exact Ul (by omega) this
 refine ar al f _ ai t aj.size al.size (ak.on am) (M.trans ag) (λx=>?_) (AF aw I) az (by omega) (A0 _) (λc a=>aA c a) ?_ ?_
 ·rw[ah];by_cases i:x=aU n
  ·rw[if_pos i,if_pos i,Qw,Qw]
  ·rw[if_neg i,if_neg i,r,if_neg i]
 ·exact(af.trans (Ext.mod y)).trans (Ext.mod am)
 ·exact λc a=>by
   rw[F9 (by omega),F9 (by omega)]
end
section
variable {A : al} {g h : aa} {q : Hp} {k : Nat -> Nat} {st : Db} {m : Bx} {R : A2O}
theorem bK.fV(a:bK g h q k st m)(e:cj g){d:aa}(x:Mod (λc=>q.Sb c\/c=q.lg\/c=q.nt) h d):cj d:=
 e.ext (a.rest (C:=λc=>c=2\/c=3\/c=4) (x.ai λc _ b=>by
  rcases b with b|rfl|rfl
  ·exact .inl (a.kb c b)
  ·exact .inr (.inl a.kl)
  ·exact .inr (.inr a.kn)) (by decide)).ext
def cN(st:Db):Nt:=⟨st.next,st.aT,st.ts.map (·.1)⟩
theorem yU {B:Bl}{T:Nat->List Pr}(I:cj g)(f:bK g h q k st m)(hd:m.down=false)(ac:BD (ff m) B)(u:gS (cN st))(ax: ∀a∈(cN st).names,ff m (aU a)=some (AX (JZ (T a)),bD)/\Gs (T a))(ay:1<=st.aK/\st.aK+2<=99999999)
  (S: ∀a,st.aK<=a->a<=99999999->ff m (aD nn a)=none) (bf:bg m.files+1000000<=8000000000000)
  (ad:m.fuel≠ -1-> ∀n S' o,Cm n q.b S' o->o.down=true->Mod (λc=>q.Sb c\/c=q.nt) h n->(∀ c,S' c->q.Sb c\/h.size<=c)->(∀ G,Lr (ff o) G-> ∃l,BD G l/\mw B st.aK (cN st) T l)->(∀ b,(∀ a,b≠aD nn a)->ff o b=ff m b)->bg o.files<=bg m.files+700000->R (J6 J9 30) n)
  (aM: ∀n S' az o l,bK g n {q with Sb:=S'} az {st with aK:=st.aK+1} o->JN m o->BD (ff o) l->Aj l=cN st->l.T=T->l.L=B.L->l.aP=B.aP->l.aV<=max B.aV (st.aK+1)->(∀ b,(∀ a,b≠aD nn a)->ff o b=ff m b)->
   (∀ a,st.aK+1<=a->a<=99999999->ff o (aD nn a)=none)->bg o.files<=bg m.files+700000->Mod (λc=>q.Sb c\/c=q.nt) h n->Grow k az h.size->R (J6 J9 0) n):AA A P Jm #[Ap q.d] h R:=by
 have aN: ∀p∈st.ts,p.1<=99999999:=λp aO=>by
  have v:=u.below p.1 (List.mem_map.2 ⟨p,aO,rfl⟩);have r:=u.next;simp only[cN] at v r;omega
 have aP:st.ts.length<=60000:=by have:=u.cp;simpa [cN] using this
 have aQ:=yh u;have aR:(cN st).names.length=st.ts.length:=by simp[cN]
 rw[aR] at aQ;have af:(Dt (cN st)).length<=1048576:=by omega
 refine ACt ?_;unfold VS;refine aE (AZ.mk (AB f.cell rfl) ?_);refine AP5 f u.next u.aT.2 aP aN λv U=>⟨_,rfl,⟨AB (f.on U).cell rfl,?_⟩⟩
 have J:=f.on U;have bh:=U.size;have aS:(AX (Dt ⟨st.next,st.aT,st.ts.map (·.1)⟩)).size=(Dt (cN st)).length:=by rw[AP];rfl
 refine xJ (J.gX I) J.dL J.box J.rW (λn x=>J.fV I (x.ai λc _ e=> .inl e)) (by decide) (by omega) (by rw[aS];omega) (by omega) λr C K V aT aA=>⟨_,rfl,?_⟩
 rw[show bl (AX (Dt ⟨st.next,st.aT,st.ts.map (·.1)⟩))=Dt (cN st) from EP _] at K V ⊢;have aV:=Yw f.box.aC (aD nn st.aK) (AX (Cj (Dt (cN st))));have bi:=(JK af).2;rw[AP] at aV;have L:Mod (λc=>q.Sb c\/c=q.nt) h r:=(Ext.mod U).trans aT;have s: ∀c,C c->q.Sb c\/h.size<=c:=λc e=>(aA c e).imp id λh=>by omega
 rcases RF (k:=aD nn st.aK) (d:=AX (Cj (Dt (cN st)))) hd (xM (by decide) (by omega)) with⟨W,ag⟩|⟨ag,M,aC⟩
 ·rw[ag] at K ⊢;refine ae.yes rfl ?_;exact ad (by rw[W];decide) r C _ K rfl L s (λG c=>⟨B,ac.dM c,AOh⟩) (λb _=>rfl) (by rw[ry];omega)
 rw[ag] at V ⊢;refine ae.no rfl ?_;rw[decide_eq_true rfl,HK] at V;generalize (EF m (aD nn st.aK) (AX (Cj (Dt (cN st))))).2=t at*
 rw[S st.aK (A0 _) (by omega)] at aC;have X: ∀b,ff t b=if b=aD nn st.aK then some (bD,AX (Cj (Dt (cN st)))) else ff m b:=λb=>by
  rw[aC];split<;>simp only[Option.getD_none,Qw]
 have ah: ¬C q.nt:=λe=>by
  rcases aA _ e with h|h
  ·exact f.rW h
  ·exact h.2 rfl
 have aW:r[q.d]? =some (J2 (dZ q st false) Ey (0,0)):=L.af f.cell (by rintro(h|h);exact f.mJ h;exact f.dn h);refine aE (AZ.mk (AB aW rfl) ?_);have aF:ff t (aD nn st.aK)=some (bD,AX (Cj (Dt (cN st)))):=by rw[X,if_pos rfl]
 have aX:cj r:=f.fV I (L.ai λc _ e=>e.imp id .inr);refine WB aX V K ah (by decide) (by omega) (λaY w D ai aj=>⟨_,_,rfl,?_⟩) λaZ w D ai aj=>⟨_,_,rfl,?_⟩
 ·
  have a0:(G6 t (aD nn st.aK)).1≠0:=aY;rcases Nv M.up aF with⟨W,E⟩|⟨E,_,_⟩
  ·have a1:MU t (aD nn st.aK) true=(30,Mg t):=E;rw[a1] at D ⊢;refine ae.yes rfl ?_;have z:Mod (λc=>q.Sb c\/c=q.nt) h w:=L.then (aj.ai λc _ e=>(s c e).imp .inl id);exact ad (λak=>by have:=M.calm ak;rw[W] at this;cases this) w C _ D rfl z s (λG c=>ALi ac ⟨ay.1,by omega⟩ u af S ax (F1:=ff (Mg t)) X c) (λb i=>by
    rw[oG,X,if_neg (i _)]) (by rw[ry];omega)
  ·exact absurd E a0
 ·rcases Nv M.up aF with⟨W,E⟩|⟨E,al,a2⟩
  ·have aG:(G6 t (aD nn st.aK)).1=0:=aZ;rw[E] at aG;cases aG
  have D:Cm w q.b C (G6 t (aD nn st.aK)).2:=D;have bj:=nR K.aC (aD nn st.aK);generalize (G6 t (aD nn st.aK)).2=aH at*
  refine ae.no rfl ?_;have N: ∀b,ff aH b=if b=aD nn st.aK then some (AX (Cj (Dt (cN st))),bD) else ff m b:=λb=>by
   rw[a2];by_cases i:b=aD nn st.aK
   ·rw[if_pos i,if_pos i];simp only[Qw]
   ·rw[if_neg i,if_neg i,X,if_neg i]
  obtain⟨aI,aJ⟩:=AMX ac ⟨ay.1,by omega⟩ u af S ax N;have z:Mod (λc=>q.Sb c\/c=q.nt) h w:=L.then (aj.ai λc _ e=>by
   rcases e with e|rfl
   ·exact(s c e).imp .inl id
   ·exact .inl (.inr rfl))
  have a3:w[q.d]? =some (J2 (dZ q st false) Ey (0,0)):=z.af f.cell (by rintro(h|h);exact f.mJ h;exact f.dn h);refine aE (AZ.mk (AB a3 rfl) ?_);have a4:J8 J9 (((st.aK:Nat):Int)-(1:Int))=(st.aK:Int)-1:=wrap_i64 (by omega) (by omega);rw[a4];have a5:cj w:=f.fV I (z.ai λc _ e=>e.imp id .inr);have a6: ∀n,Mod C w n->cj n:=λn x=>f.fV I ((z.then (x.ai λc _ e=>(s c e).imp .inl id)).ai λc _ e=>e.imp id .inr)
  have aL:ff aH (aD nn st.aK)≠none:=by rw[N,if_pos rfl];simp
  refine yS a5 a6 ai D al.up ah (by decide) (by omega) (λh=>absurd h (by omega)) (λa7 F am H an a8 Y ao a9 Z=>⟨_,rfl,?_⟩) λ_ F am H an ba Y ao a9 Z ap=>⟨_,rfl,?_⟩
  ·have aa:Mod (λc=>q.Sb c\/c=q.nt) h F:=z.then (Y.ai λc _ e=>(s c e).imp .inl id);obtain⟨l,aq,ar,au,av,aw,bb⟩:=yR (G:=ff H) aI aJ aL λb=>by
    rcases Z b with v|⟨v,a,O,y,ab,r⟩
    ·exact .inl v
    ·exact .inr ⟨v,a,by omega,y,r⟩
   refine ad (λak=>a7 (al.calm (M.calm ak))) F am H an a8 aa (λc e=>s c (ao c e)) (λG c=>⟨l,aq.dM c,av,aw,by omega,.inr ⟨ar,au⟩⟩) (λb i=>?_) (by omega);rcases Z b with v|⟨_,a,_,_,_,r⟩
   ·rw[v,N,if_neg (i _)]
   ·exact absurd r (i a)
  ·have aa:Mod (λc=>q.Sb c\/c=q.nt) h F:=z.then (Y.ai λc _ e=>(s c e).imp .inl id);obtain⟨l,aq,ar,au,av,aw,bb⟩:=yR (G:=ff H) aI aJ aL λb=>by
    by_cases i: ∃a:Nat,1<=a/\a<=99999999/\(a:Int)<=(st.aK:Int)-1/\b=aD nn a
    ·obtain⟨a,O,y,ab,rfl⟩:=i;exact .inr ⟨Z a O y ab,a,by omega,y,rfl⟩
    ·exact .inl (ap b λa O y ab Q=>i ⟨a,O,y,ab,Q⟩)
   have bc: ∀b,(∀ a,b≠aD nn a)->ff H b=ff m b:=λb i=>by
    rw[ap b λa _ _ _=>i a,N,if_neg (i _)]
   have bd:EM F q.nt q.b nn (st.aK+1) false:=ai.mod Y ah;have be:=f.boxed (j:=4) (bF:= {st with aK:=st.aK+1}) an (aa.ai λc _ e=>e.imp id λh=> .inr ⟨rfl,h⟩) (λc e=>s c (ao c e)) rfl rfl rfl rfl (.inl ⟨by decide,rfl,rfl⟩) (.inr bd);refine aM F am _ H l be ((M.trans al).trans ba) aq ar au av aw (by omega) bc (λa O y=>?_) (by omega) aa rA;rw[ap (aD nn a) λk _ _ bk Q=>by have:=Ib Q;omega,N,if_neg λQ=>by have:=Ib Q;omega];exact S a (by omega) y
end
end Go.Lf.G
namespace Go.Lf.G.M
open Go Go.Lf Go.Lf.G
theorem AJ9 {O:al}{n:aa}{b:Nat}{T:Q7}{fr:Nat×Nat}{s:Sl}{l:List Pr}(f:n[b]? =some (J2 #[J4 s.p s.len s.cap] T fr))(v:View BZ n s l)(ag:l.length<=1099511627776):
  EJ O P (.func (.func Cy) #[] #[J5 (some ⟨b,0,none⟩)]) (λc=>c<n.size/\(c=b\/s.af=some c)) n l:=by
 refine⟨λc o=>o.1,_,_,rfl,λQ=>by kernel_rfl,λe E Q R h ah hd hB S U=>?_⟩;rw[qk];refine II ?_;unfold EZ;have F:=Af f;have V: ∀d,Mod h e d->d[b]? =some (J2 #[J4 s.p s.len s.cap] T fr):=λd m=>by
  have w:=E b ⟨F,.inl rfl⟩;exact m.af (w.trans f) (hd b ⟨F,.inl rfl⟩)
 have W: ∀i x,l[i]? =some x-> ∃a,s.p=some a/\ ∀d,Mod h e d->Cells d (a.add (i*3)) (BZ.enc x):=λi x G=>by
  obtain⟨a,q,o⟩:=v.cells i x G;refine⟨a,q,λd m X u r=>?_⟩;have H:=o X u r;have I:=UV H;rw[aM,aM] at I;have J:a.block<n.size/\(a.block=b\/s.af=some a.block):=⟨I,.inr (by simp[Sl.af,q])⟩;have w:=E _ J;refine m.ag ((QD ?_).trans H) ?_
  ·rw[aM,aM];exact w
  ·rw[aM,aM];exact hd _ J
 refine AY.mk (AL (V e Mod.refl) rfl) ?_;refine Loop.rule (λm x d=> ∃(i:Nat) (k:Nat->Prop),x=((i:Int),())/\m=l.length-i/\i<=l.length/\Mod h e d/\(∀ b,k b->h b\/e.size<=b)/\R i true k d) ?_ ⟨0,h,rfl,rfl,by omega,Mod.refl,λb f=> .inl f,U⟩;rintro K m _ d ⟨i,k,rfl,rfl,G,t,y,r⟩ Y;refine ae.intro (λj=>?_) (λj=>?_)
 ·have p:i<l.length:=by simp[v.len] at j;omega
  obtain⟨a,q,o⟩:=W i _ (A2 p);have z:=o d t;refine bH.mk q (by rw[v.len];exact p) ?_;refine AJ.mk (z.pair.1) (AJ.mk z.pair.2.1 (Aa.mk z.pair.2.2 ?_));refine ak.pair λai Z aj A B am=>?_
  refine AJ.mk (AL A rfl) (AJ.mk (AB A rfl) (Aa.mk (AB A rfl) ?_));have ab:=hB.bd _ _ _ _ _ r (B.ai (S':=λb=>¬k b/\e.size<=b) λ_ _ e=>e.elim);refine Du.mono (S i _ k Z (A2 p) ab) ?_;rintro _ ac ⟨g,C,rfl,ad,af,L⟩;have M: ∀b,C b->h b\/e.size<=b:=λb f=>(ad b f).elim (y b) λan=> .inr (by have:=t.size;have:=B.size;omega)
  have N:Mod h e ac:=(t.trans B.mod).then (af.ai λb _ f=>(y b f));refine⟨g,rfl,?_⟩;refine ae.intro (λj=>?_) (λj=>?_)
  ·refine⟨rfl,i+1,g,C,N,M,L,λD=>?_,by omega⟩;subst D;cases j
  ·have D:g=true:=by simpa using j
   subst D;exact Y _ _ _ (by omega) ⟨i+1,C,by rw[Ab (by omega)],rfl,by omega,N,M,L⟩
 ·have p:i=l.length:=by simp[v.len] at j;omega
  exact⟨rfl,i,true,k,t,y,r,λ_=>p,by omega⟩
theorem rY {d:al}{a:aa}{s:Sl}{l:List Pr}{e:A2O}(v:View BZ a s l)(g:l.length<=1099511627776)
  (h: ∀fv b,EJ d P fv (λc=>c<b.size/\(c=a.size\/s.af=some c)) b l->Ext a b->b.size=a.size+1->e fv b):AA d P CU #[J4 s.p s.len s.cap] a e:=by
 refine Iu ?_;unfold Er;refine ak.mk λi _ j f k=>?_
 exact h _ i (AJ9 j (v.ext f) g) f k
theorem oT {aq:al}{t:aa}{fv:J0}{S:Nat->Prop}{l:List Pr}{e:A2P}{n:Int}{ar:A2O}(A:(fv= .nilFunc/\l= [])\/EJ aq P fv S t l)(bi:l.length<=1099511627776)
  (W: ∀G o,Own BZ AR o G (PM e n l)->(∀ c,G.af=some c->t.size<=c)->Ext t o->ar (J4 G.p G.len G.cap) o):AA aq P Ko #[fv,J7 e,J6 J9 n] t ar:=by
 refine AD3 ?_;unfold Xo;refine ak.mk λau _ aX aY aZ=>ak.mk λq _ a0 av bj=>ak.mk λd _ a1 X bk=>?_
 have Y:Ext t d:=(aY.trans av).trans X;have a2:d[t.size]? =some (J2 #[J7 e] Az (0,0)):=X.af (av.af aX (by simp)) (by simp);have aw:d[au.size]? =some (J2 #[J6 J9 n] Bb (0,0)):=X.af a0 (by simp);refine ah.mk λK ax=>?_
 have ay:PM e n l= []->K (true,()) d:=λf=>ax _ _ (ae.yes rfl (W ⟨none,0,0⟩ d (f▸Own.nil) (λc j=>by simp[Sl.af] at j) Y))
 rcases A with⟨rfl,rfl⟩|A
 ·exact⟨trivial,ae.yes rfl (ay (by simp[PM]))⟩
 refine⟨A.one.2.1,ae.no A.one.2.2 ?_⟩;refine AC.mk (AL aw rfl) ?_;cases Q:decide (n<=0)
 ·refine ax _ _ (ae.no rfl ?_);have Q:0<n:=by simpa using Q
  have az: ∀o:aa,Mod (λc=>c=q.size) d o->Ext t o:=λo m=>Y.then (m.ai λc _ j=> .inr (by omega))
  have bm:=(A00 (l:=l) (Pp e)).length_le;refine Wd A (λb a=>Y.get b (A.1 b a) (by simp))
   (λi c Z r=>r[t.size]? =some (J2 #[J7 e] Az (0,0))/\r[au.size]? =some (J2 #[J6 J9 n] Bb (0,0))/\ ∃(s:Sl) (u:List Pr),r[q.size]? =some (J2 #[J4 s.p s.len s.cap] AQ (0,0))/\Own BZ AR r s u/\(∀ b,Z b↔(b=q.size\/s.af=some b))/\(∀ b,s.af=some b->b<r.size/\q.size<b)/\match c with
    |none=>u=l.take i/\i<=(l.takeWhile (Pp e)).length/\(i:Int)<n
    |some aA=>aA=some 0/\u=PM e n l)
   (λb=>b=q.size) (λb a f=>by have:=A.1 b a;omega) ?_ ?_ ?_ ?_ ?_ ?_
  ·rintro i c Z r ⟨_,_,s,u,q,v,h,k,_⟩ b a;rcases(h b).1 a with rfl|d
   ·exact Af q
   ·exact(k b d).1
  ·rintro i c Z r o ⟨H,I,s,u,w,v,h,k,a3⟩ m;refine⟨m.af H (λt=>by omega),m.af I (λt=>by omega),s,u,m.af w (λac=>ac.1 ((h _).2 (.inl rfl))),v.mod m (λc j ac=>ac.1 ((h _).2 (.inr j))),h,λb a=>⟨?_,(k b a).2⟩,a3⟩;have:=m.size;have:=(k b a).1;omega
  ·exact⟨a2,aw,⟨none,0,0⟩,[],a1,Own.nil,λb=>by simp[Sl.af],λb a=>by simp[Sl.af] at a,by simp,by omega,by simpa using Q⟩
  ·rintro i x ad r rec bn bo J ⟨H,I,s,u,w,v,h,k,rfl,R,a4⟩ aC aZ a5 a6 a7 aD;have bp:=(List.getElem?_eq_some_iff.1 J).1;have aE:=UK (p:=Pp e) (l:=l) R;refine ak.pair λbq aF br a8 C bs=>?_
   refine⟨rec,C.af a5 (by simp),a6,?_⟩;generalize aG:aF.setIfInBounds (d.size+1) (.loop {rec with state:= .busy})=D;have B:Mod (λb=>b=d.size+1) aF D:=aG▸Mod.setObj rfl;have aH:D[d.size+1]? =some (.loop {rec with state:= .busy}):=by rw[<- aG];exact CQ (by omega)
   have T:=B.af a8 (by omega);have U:=B.af (C.af H (by simp)) (by omega);have aI:=B.af (C.af I (by simp)) (by omega);have aJ:Mod (λb=>b=d.size+1) r D:=(Ext.mod C).trans B;have af:=B.af (C.af w (by simp)) (by omega);have bt:=Af w;have aK:=(v.ext C).mod B (λc j f=>aC ((h _).2 (.inr (f▸j))));have bu:=B.size;have aL:(l.take i).length=i:=by simp;omega
   refine ah.mk λag aM=>?_
   have a9:Pp e x=false->ag (true,()) D:=λL=>aM _ _ (ae.yes rfl (aD _ _ (by
    refine⟨ad,λb a=> .inl a,aJ.ai λb _ a=> .inr a,aH,U,aI,s,l.take i,af,aK,h,λb a=>⟨?_,(k b a).2⟩,rfl,?_⟩
    ·have:=(k b a).1;omega
    ·have:=aE.2.1 _ J L;have H:(l.takeWhile (Pp e)).take i=l.takeWhile (Pp e):=AG (by omega);have I:(l.takeWhile (Pp e)).take n.toNat=l.takeWhile (Pp e):=AG (by omega);unfold PM;rw[I,<-nC R,H])))
   have aN:Pp e x=true->ag (false,()) D:=λL=>aM _ _ (ae.no rfl (by
    have bv:=aE.1 _ J L;refine AY.mk (AL af rfl) (AJ.mk (AL T rfl) (AJ.mk (AB T rfl) (Aa.mk (AB T rfl) ?_)));refine ak.aY (E:=BZ) (x:=x) rfl Hy aK (by rw[aL];omega) (by rw[aL];simp[maxLen];omega) λy ba aP F ai _=>?_
    have bb:s.af≠some q.size:=λf=>by have:=k _ f;omega
    refine ab.mk (F.af af bb) (by simp) λaj bc M bw=>?_
    have bx:=F.size;have am:aj[q.size]? =some (J2 #[J4 y.p y.len y.cap] AQ (0,0)):=by simpa using bc
    have V:=aP.mod M (λc j f=>by
     rcases ai c j with d|d
     ·have:=k _ d;omega
     ·omega)
    have aQ:=M.af (F.af U (λf=>by have:=k _ f;omega)) (by omega);have an:=M.af (F.af aI (λf=>by have:=k _ f;omega)) (by omega);have bd:l.take i++ [x]=l.take (i+1):=by rw[Ax,J];rfl
    rw[bd] at V;have aR: ∀b,(b=q.size\/y.af=some b)->ad b\/r.size<=b:=by
     rintro b (rfl|a)
     ·exact .inl ((h _).2 (.inl rfl))
     ·rcases ai b a with d|d
      ·exact .inl ((h _).2 (.inr d))
      ·exact .inr (by omega)
    have aS:Mod (λb=>ad b\/b=d.size+1) r aj:=
     ((aJ.ai λb _ a=> .inr a).trans (F.ai λb _ a=> .inl ((h _).2 (.inr a)))).trans (M.ai λb _ a=> .inl ((h _).2 (.inl a)))
    have aT:=M.af (F.af aH (λf=>aC ((h _).2 (.inr f)))) (by omega);have aU: ∀b,y.af=some b->b<aj.size/\q.size<b:=by
     intro b a;have bz:b<ba.size:=by
      rcases aP.row with⟨rfl,_⟩|⟨g,bA,L,be,_⟩
      ·simp[Sl.af] at a
      ·simp[Sl.af,L] at a;subst a;exact Af be
     refine⟨by omega,?_⟩;rcases ai b a with d|d
     ·exact(k _ d).2
     ·omega
    refine AY.mk (AL am rfl) (AC.mk (AL an rfl) ?_);have aV:y.len=i+1:=by rw[V.len];simp;omega
    refine ae.intro (λz=>aD _ _ ?_) (λz=>a7 _ ?_)
    ·refine⟨_,aR,aS,aT,aQ,an,y,_,am,V,λ_=>Ds,aU,rfl,?_⟩;have z:((i+1:Nat):Int)=n:=by rw[aV] at z;simpa using z
     unfold PM;rw[<- z,A6,nC (by omega)]
    ·refine⟨_,aR,aS,aT,aQ,an,y,_,am,V,λ_=>Ds,aU,rfl,by omega,?_⟩;have z:((i+1:Nat):Int)≠n:=by rw[aV] at z;simpa using z
     omega))
   refine AJ.mk (AL U rfl) ?_;rw[CY];refine ae.intro (λN=>?_) (λN=>?_)
   ·refine AJ.mk (AL T rfl) (AJ.mk (AL U rfl) ?_);show ag (!aO x.key e,()) D;cases aW:aO x.key e
    ·exact a9 (by simp at N;simp[Pp,N,aW])
    ·exact aN (by simp[Pp,aW])
   ·exact aN (by simp at N;simp[Pp,N])
  ·rintro bf o ⟨_,_,s,u,w,v,h,k,rfl,R,a4⟩ O ao bg ap;have bh:=O.size;refine AY.mk (AL w rfl) ⟨ap,?_⟩;have:PM e n l=l.take l.length:=by unfold PM;rw[AG (by omega),<-nC R,AG (by omega)]
   rw[<- this] at v;refine W s _ (v.mod (Mod.setObj (S:=λc=>c=d.size) rfl) λc j f=>ao ((h _).2 (.inr (f▸j)))) (λc j=>by have:=k _ j;omega) ?_;exact(az o O).then (Mod.setObj (.inr (by omega)))
  ·rintro i aA bf o ⟨_,_,s,u,w,v,h,k,rfl,rfl⟩ J O ao bg ap;have bh:=O.size;refine AY.mk (AL w rfl) ⟨ap,?_⟩;refine W s _ (v.mod (Mod.setObj (S:=λc=>c=d.size) rfl) λc j f=>ao ((h _).2 (.inr (f▸j)))) (λc j=>by have:=k _ j;omega) ?_;exact(az o O).then (Mod.setObj (.inr (by omega)))
 ·refine ay ?_;have:n.toNat=0:=by simp at Q;omega
  simp[PM,this]
end Go.Lf.G.M
namespace Go.Lf.G
open Go
open M (Sorted Ae Ca A8 Ag Ar BV Ah bE BF aS PM Pp)
def jT(f t k:A2P):Bool:= !aO k f&&(decide (t=⟨#[]⟩)||aO k t)
def QU(f t:A2P)(l:List Pr):List Pr:=l.filter λx=>jT f t x.key
def mz(m:List Pr)(f t:A2P)(a:Int):List Pr:=(QU f t m).take a.toNat
theorem Zy {p:Pr->Bool}{a:A2P->Bool}(b: ∀x,p x=a x.key)(k:A2P): ∀l:List Pr,Ae k (l.filter p)=if a k then Ae k l else none
 | []=>by split<;>rfl
 |x::l=>by
  have c:=Zy b k l;rw[B9,M.BB];by_cases h:x.key=k
  ·rw[if_pos h];cases d:a k with
   |true=>rw[if_pos (by rw[b,h];exact d),M.BB,if_pos h];rfl
   |false=>
    rw[if_neg (by rw[b,h,d];decide),c,d];rfl
  ·rw[if_neg h];split
   ·rw[M.BB,if_neg h];exact c
   ·exact c
theorem fP(k:A2P): ∀ {l:List Pr},Sorted l->l.drop (aS k l)=l.filter λx=> !aO x.key k
 | [],_=>by simp
 |x::l,s=>by
  have b:=List.pairwise_cons.1 s;rw[Xx,B9];by_cases h:aO x.key k=true
  ·rw[if_pos h,if_neg (by simp[h]),HS];exact fP k b.2
  ·have c: ∀a∈l,(!aO a.key k)=true:=λa d=>by
    have e:=b.1 a d;cases f:aO a.key k with
    |false=>rfl
    |true=>exact absurd (M.DJ e f) h
   rw[if_neg h,if_pos (by simp[h]),On,List.filter_eq_self.2 c]
theorem rB(t:A2P): ∀ {l:List Pr},Sorted l->l.takeWhile (Pp t)=l.filter (Pp t)
 | [],_=>rfl
 |x::l,s=>by
  have c:=List.pairwise_cons.1 s;rw[MT,B9];by_cases h:Pp t x=true
  ·rw[if_pos h,if_pos h,rB t c.2]
  ·rw[if_neg h,if_neg h];refine(List.filter_eq_nil_iff.2 λd e a=>h ?_).symm;have f:=c.1 d e;unfold M.Pp at a ⊢;rw[Cp] at a ⊢;rcases a with b|b
   ·exact .inl b
   ·exact .inr (M.DJ f b)
theorem yV {f t:A2P}{l:List Pr}(s:Sorted l)(c:l.length<=1099511627776):PM t 1099511627776 (l.drop (aS f l))=QU f t l:=by
 unfold M.PM;have b:Sorted (l.drop (aS f l)):=s.sublist (List.drop_sublist _ _);rw[rB t b,fP f s,To,AG]
 ·unfold QU;exact IF λx _=>by unfold jT M.Pp;rw[Bool.and_comm]
 ·have d:=Se (λa=>Pp t a&& !aO a.key f) l;have:(1099511627776:Int).toNat=1099511627776:=rfl;omega
theorem WC {f t:A2P}{l:List Pr}(s:Sorted l):Sorted (QU f t l):=s.sublist Hi
theorem yW(k f t:A2P)(l:List Pr):Ae k (QU f t l)=if jT f t k then Ae k l else none:=Zy (λ_=>rfl) k l
theorem yX(k f t:A2P): ∀a:List (List Pr),Ar k (a.map (QU f t))=if jT f t k then Ar k a else none
 | []=>by split<;>rfl
 |l::a=>by
  rw[By,M.ED,M.ED,yX k f t a,yW];split<;>rfl
theorem yY {f t:A2P}{c:List (List Pr)}(d:bE c):bE (c.map (QU f t)):=⟨λl a=>by
  obtain⟨x,b,rfl⟩:=List.mem_map.1 a;exact WC (d.sorted x b),λl a=>by
  obtain⟨x,b,rfl⟩:=List.mem_map.1 a;exact λe i=>d.aC x b e (List.mem_filter.1 i).1⟩
theorem yZ {f t:A2P}{a:List (List Pr)}(b:bE a):Ag (a.map (QU f t))=QU f t (Ag a):=
 (M.Dp _).ext (WC (M.Dp _)) λk=>by rw[M.JL k (yY b),yX,yW,M.JL k b]
theorem APp {f t:A2P}{a:List (List Pr)}(c:bE a)(b:Int):PM t b (BF (Ag (a.map (QU f t))))=mz (BF (Ag a)) f t b:=by
 rw[yZ c];have d:BF (QU f t (Ag a))=QU f t (BF (Ag a)):=by unfold M.BF QU;rw[To,To];exact IF λx _=>Bool.and_comm ..
 rw[d];unfold M.PM mz;have h: ∀x∈QU f t (BF (Ag a)),Pp t x=true:=λx e=>by
  have:=(List.mem_filter.1 e).2;unfold jT at this;rw[A3] at this;exact this.2
 rw[rB t (WC (UH (M.Dp _))),List.filter_eq_self.2 h]
def R9(A:al)(h:aa)(s:Sl)(b:List (List Pr)):Prop:=
 ∃a,Own jJ Bd h s a/\a.length=b.length/\ ∀(i:Nat) (v:hP) (l:List Pr),a[i]? =some v->b[i]? =some l->(∃ d,EJ A P v.v d h l/\ ∀c,d c->s.af≠some c)/\l.length<=1099511627776
theorem EJ.at {A:al}{fv:J0}{b T:Nat->Prop}{h e:aa}{l:List Pr}(d:EJ A P fv b h l)(x:Mod T h e)(f: ∀c,b c-> ¬T c):EJ A P fv b e l:=
 EJ.ai d (λ_ h=>h) (λc a=>by have:=d.1 c a;have:=x.size;omega) λc a=>x.get c (d.1 c a) (f c a)
theorem R9.ext {A:al}{h a:aa}{s:Sl}{b:List (List Pr)}(q:R9 A h s b)(x:Ext h a):R9 A a s b:=by obtain⟨c,d,e,f⟩:=q;refine⟨c,d.ext x,e,λi v l j n=>?_⟩;obtain⟨⟨o,p,r⟩,t⟩:=f i v l j n;exact⟨⟨o,EJ.at p x (λ_ _ h=>h),r⟩,t⟩
theorem R9.nil {A:al}{h:aa}:R9 A h ⟨none,0,0⟩ []:=⟨[],Own.nil,rfl,λi v l h=>by simp at h⟩
theorem R9.kX {A:al}{h:aa}{s:Sl}{b:List (List Pr)}(q:R9 A h s b):M.rX A (λ_=>False) h s b:=by obtain⟨f,d,j,n⟩:=q;refine⟨f,d.view,λc a=>⟨d.lt a,λh=>h⟩,j,λi v l o p=> .inr ?_⟩;obtain⟨⟨t,e,u⟩,r⟩:=n i v l o p;exact⟨e.ai (λc a=>⟨e.1 c a,λh=>h⟩) (λc a=>a.1) (λ_ _=>rfl),r⟩
theorem R9.one {A:al}{h a:aa}{fv:J0}{l:List Pr}{e:Nat->Prop}{b:Nat}(d:EJ A P fv e h l)(j:l.length<=1099511627776)(n:a[b]? =some (J2 #[fv] Bd (0,0)))(x:Ext h a)(s:h.size<=b):R9 A a ⟨some ⟨b,0,none⟩,1,1⟩ [l]:=by
 refine⟨[⟨fv,d.one.1⟩],Own.lit (l:= [(⟨fv,d.one.1⟩:hP)]) n rfl (by simp[maxLen]),rfl,λi v t a f=>?_⟩;have o:i=0:=by have:=(List.getElem?_eq_some_iff.1 a).1;simpa using this
 subst o;simp only[HA,BY] at a f;subst a f;exact⟨⟨e,EJ.at d x (λ_ _ h=>h),λc p r=>by have:=d.1 c p;simp[Sl.af] at r;omega⟩,j⟩
theorem R9.add {A:al}{h:aa}{s:Sl}{u:List (List Pr)}{fv:J0}{l:List Pr}{n:Nat->Prop}{K:Sl->aa->Prop}{F:Q7}(q:R9 A h s u)(f:EJ A P fv n h l)(G: ∀c,n c->s.af≠some c)(H:l.length<=1099511627776)(U:u.length<=1000000)
  (I: ∀a e,R9 A e a (u++ [l])->Mod (λb=>s.af=some b) h e->(∀ b,a.af=some b->s.af=some b\/h.size<=b)->K a e):
  ak h (J2 #[fv] Bd) λb d=>BI A P (Builtin.append_ #[A9,A9] F #[J4 s.p s.len s.cap,J4 (some ⟨b,0,none⟩) 1 1]) d λv e=> ∃a:Sl,v=J4 a.p a.len a.cap/\K a e:=by
 obtain⟨p,J,z,w⟩:=q;refine ak.aY (E:=jJ) (x:=⟨fv,f.one.1⟩) (s:=s) (l:=p) rfl M.zF J (by omega) (by simp[maxLen];omega) λa e L B C _=>?_
 have D: ∀ {T:Nat->Prop} {y:J0} {o:List Pr},EJ A P y T h o->(∀ c,T c->s.af≠some c)-> ∃n,EJ A P y n e o/\ ∀c,n c->a.af≠some c:=λ{T} y o f r=>⟨T,EJ.at f B (λc t=>r c t),λc t N=>by
  rcases C c N with d|d
  ·exact r c t d
  ·have:=f.1 c t;omega⟩
 refine I a e ⟨p++ [⟨fv,f.one.1⟩],L,by simp[z],λi v o d j=>?_⟩ B C;by_cases O:i<p.length
 ·rw[Fk O] at d;rw[Fk (by omega)] at j;obtain⟨⟨T,Q,r⟩,S⟩:=w i v o d j;exact⟨D Q r,S⟩
 ·have w:i=p.length:=by have:=(List.getElem?_eq_some_iff.1 d).1;simp at this;omega
  subst w;rw[DE (A0 _)] at d;rw[DE (by omega)] at j;simp at d;rw[z] at j;simp at j;subst d j;exact⟨D f G,H⟩
section
variable {A : al} {g h : aa} {q : Hp} {k : Nat -> Nat} {st : Db} {m : Bx} {R : A2O}
def aF(st:Db):List (List Pr):=st.ts.map (·.2)
def CZ(st:Db):List Pr:=LH st.fr (aF st)
theorem bK.iM(a:bK g h q k st m): ∀p∈st.ts,Gs p.2:=λp c=>by
 obtain⟨i,b,rfl⟩:=DB c;have d:i<q.ps.length:=by rw[a.da];exact b
 obtain⟨e,f,_,_,_,t⟩:=a.cL i q.ps[i] st.ts[i] (A2 d) (A2 b);exact t
theorem bK.fT(b:bK g h q k st m):bE (st.fr::aF st):=by
 refine⟨λl a=>?_,λl a=>?_⟩<;>rcases List.mem_cons.1 a with rfl|a
 ·exact b.fresh.sorted
 ·obtain⟨p,c,rfl⟩:=List.mem_map.1 a;exact(b.iM p c).aC.1
 ·exact b.fresh.aC
 ·obtain⟨p,c,rfl⟩:=List.mem_map.1 a;exact(b.iM p c).aC.2
theorem rC(f t:A2P)(l:List Pr):(QU f t l).length<=l.length:=Se ..
theorem ARB {f t:A2P}(d:bK g h q k st m)(aq:st.fr.length<=1000000)(ar:st.ts.length<=100000)
  (S: ∀fv e,EJ A P fv (λc=>c<e.size) e (Ag ((st.fr::aF st).map (QU f t)))->Ext h e->R fv e):AA A P Rb #[Ap q.d,J7 f,J7 t] h R:=by
 refine AEH ?_;unfold XJ;refine aE (AZ.mk (AB d.cell rfl) ?_);refine M.rS d.fresh λfv j T y au=>⟨_,rfl,?_⟩
 refine M.oT (.inr T) (by rw[DG];omega) λsl av z aw B=>⟨_,rfl,?_⟩
 rw[yV d.fresh.sorted (by omega)] at z;have ax:=rC f t st.fr;refine M.rY z.view (by omega) λay U C D az=>⟨_,rfl,YU.mk C.one.1 (ak.mk λaA _ V E aC=>?_)⟩
 have W:=R9.one C (by omega) V E (A0 _);have F:=((y.trans B).trans D).trans E;have X:=d.on F;refine aE (AY.mk (s:=q.tp) (AB X.cell rfl) ?_);have aD:=d.da;have Y:=d.ck.len;refine Loop.rule (λG x p=> ∃(i:Nat) (sl:Sl),x=(sl,(i:Int),())/\G=q.ps.length-i/\i<=q.ps.length/\Ext h p/\(∀ c,sl.af=some c->h.size<=c)/\R9 A p sl ((st.fr::(aF st).take i).map (QU f t))) ?_ ⟨0,⟨some ⟨U.size,0,none⟩,1,1⟩,rfl,rfl,by omega,F,λc b=>by
  simp[Sl.af] at b;have:=((y.trans B).trans D).size;omega,by simpa using W⟩
 rintro K G _ p ⟨i,sl,rfl,rfl,aG,l,H,n⟩ Z;dsimp only;refine ae.intro (λr=>?_) (λr=>?_)
 ·have o:i<q.ps.length:=by rw[<- Y];simpa using r
  have aa:i<st.ts.length:=by omega
  have I:q.ps[i]? =some q.ps[i]:=A2 o;have J:st.ts[i]? =some st.ts[i]:=A2 aa;have ab:(aF st)[i]? =some st.ts[i].2:=by unfold aF;rw[Bm,J];rfl
  have L:=d.on l;refine L.ck.view.idx I λa _ c=>AZ.mk (Cells.pt c) ?_
  obtain⟨aH,aI,ac,ad,aJ,u⟩:=L.cL i _ _ I J;refine ye ac ad u.eE λaK aL af v aM=>⟨_,rfl,?_⟩
  have aN:=u.many;refine M.oT (.inr af) (by rw[DG];omega) λaO aP N ag O=>⟨_,rfl,?_⟩
  rw[yV u.aC.1 (by omega)] at N;have aQ:=rC f t st.ts[i].2;refine M.rY N.view (by omega) λaR aS Q ah aT=>⟨_,rfl,YU.mk Q.one.1 ?_⟩
  have w:=(v.trans O).trans ah;refine R9.add (n.ext w) Q (λc b ai=>?_) (by omega) (by simp[aF];omega) λaj e al am an=>?_
  ·obtain⟨aU,ao,_,_⟩:=n;have aV:=ao.lt ai;rcases b.2 with j|j
   ·have:=(v.trans O).size;omega
   ·have:=ag c j;have:=v.size;omega
  ·rw[Ab (by omega)];refine Z (q.ps.length-(i+1)) _ _ (by omega) ⟨i+1,aj,rfl,rfl,o,?_,λc b=>?_,?_⟩
   ·exact(l.trans w).then (am.ai λc _ b=> .inr (H c b))
   ·rcases an c b with j|j
    ·exact H c j
    ·have:=l.size;have:=w.size;omega
   ·rw[Ax,ab];simpa using al
 ·have o:i=q.ps.length:=by
   have: ¬i<q.tp.len:=by simpa using r
   omega
  subst o;rw[AG (by simp[aF];omega)] at n;refine M.rO n.kX (λc h=>h.elim) (by simp[aF];omega) (yY d.fT) λfv e ap x _=>⟨_,rfl,S fv e (ap.ai (λc b=>b.1) (λc b=>b) (λ_ _=>rfl)) (l.trans x)⟩
theorem YV(b:bK g h q k st m){K:Bool×Unit->aa->Prop}(c:K (false,()) h):ae ((some (⟨q.d,0,none⟩:Q6)).isNone) (K (true,()) h) (At (some (⟨q.d,0,none⟩:Q6)) λa=>Aa h (a.add 8) λt=>K (t,()) h):=
 ae.no rfl (aE (Aa.mk (AB b.cell rfl) c))
theorem APy {f t:A2P}{d:Int}(a:bK g h q k st m)(n:st.fr.length<=1000000)(o:st.ts.length<=100000)(E:(Ag (st.fr::aF st)).length<=1099511627776)
  (p: ∀s b,Own BZ AR b s (mz (CZ st) f t d)->(∀ c,s.af=some c->h.size<=c)->Ext h b->R (J1 #[J4 s.p s.len s.cap,J6 J9 0]) b):AA A P PS #[Ap q.d,J7 f,J7 t,J6 J9 d] h R:=by
 refine ACd ?_;unfold VK;refine ah.mk λK r=>YV a (r _ _ (ae.no rfl ?_))
 refine ARB a n o λfv u v e=>⟨_,rfl,?_⟩
 refine M.rP (.inr v) λF w x i G=>⟨_,rfl,?_⟩
 have y:(BF (Ag ((st.fr::aF st).map (QU f t)))).length<=1099511627776:=by rw[yZ a.fT];have u:=rp (QU f t (Ag (st.fr::aF st)));have w:=rC f t (Ag (st.fr::aF st));omega
 refine M.oT (.inr x) y λj z l B C=>⟨j,rfl,?_⟩
 rw[APp a.fT] at l;exact p j z l (λc D=>by have:=B c D;have:=(e.trans i).size;omega) ((e.trans i).trans C)
theorem za(key:A2P): ∀ {l:List Pr},Sorted l->M.Ma key l=Ux key l
 | [],_=>rfl
 |x::l,s=>by
  have a:=List.pairwise_cons.1 s;have b:=za key a.2;unfold M.Ma Ux at b ⊢;rw[Xx,M.BB];by_cases h:aO x.key key=true
  ·rw[if_pos h,if_neg (M.OD h),PJ];exact b
  ·rw[if_neg h,HA];by_cases c:x.key=key
   ·simp[c]
   ·have d:Ae key l=none:=M.Ee λe f i=>h (by
     have:=a.1 e f;rwa [i] at this)
    simp[c,d]
def Gc(m:List Pr)(key:A2P):A2P×Bool:=match Ae key m with|some p=>(p.val,true)|none=>(⟨#[]⟩,false)
theorem zd {key:A2P}(d:bK g h q k st m)(an:st.ts.length<=100000)(L:key.size<=1099511627776)
  (v: ∀C,Ext h C->R (J1 #[J7 (Gc (CZ st) key).1,J3 (Gc (CZ st) key).2,J6 J9 0]) C):AA A P Nc #[Ap q.d,J7 key] h R:=by
 refine AD7 ?_;unfold Wl;refine ah.mk λK N=>YV d (N _ _ (ae.no rfl ?_))
 refine aE (AZ.mk (AB d.cell rfl) ?_);have D: ∀p,(Ae key st.fr).or (Ar key (aF st))=some p->Gc (CZ st) key=(p.val, !p.gone):=λp f=>by
  have e:Ae key (CZ st)=alive (some p):=by unfold CZ;rw[GV key d.fT,f]
  unfold Gc;rw[e,I9];cases O:p.gone with
  |false=>rfl
  |true=>
   have Q:Ah p=0:=by
    cases j:Ae key st.fr with
    |some x=>
     rw[j] at f;simp only[Option.some_or,BY] at f;subst f;exact d.fresh.aC x (M.Np j).2
    |none=>
     rw[j,Mn] at f;unfold M.Ar at f;obtain⟨l,S,T⟩:=A0h f;exact d.fT.aC l (An _ S) p (M.Np T).2
   have U:=(oA Q).gone O;show((⟨#[]⟩:A2P),false)=(p.val, !true);rw[Zf U];rfl
 have V:(Ae key st.fr).or (Ar key (aF st))=none->Gc (CZ st) key=(⟨#[]⟩,false):=λf=>by
  have e:Ae key (CZ st)=alive none:=by unfold CZ;rw[GV key d.fT,f]
  unfold Gc;rw[e];rfl
 refine M.zG d.fresh λao W=>⟨_,_,_,_,rfl,?_⟩
 rw[za key d.fresh.sorted];refine ak.pair λb X _ n Y ap=>?_
 have w:=W.trans Y;cases j:Ae key st.fr with
 |some p=>
  have e:Ux key st.fr=(p,true):=by unfold Ux;rw[j]
  rw[e] at n ⊢;refine ae.yes rfl (AJ.mk (AB n rfl) (Aa.mk (AB n rfl) ?_));have:=v X w;rw[D p (by rw[j];rfl)] at this;exact this
 |none=>
  have e:Ux key st.fr=(M.Tp,false):=by unfold Ux;rw[j]
  rw[e] at n ⊢;refine ae.no rfl ?_;have Z:=d.on w;refine aE (AY.mk (s:=q.tp) (AB Z.cell rfl) ?_);have aq:=d.da;have aa:=d.ck.len;refine Loop.rule (λE x y=> ∃i:Nat,x=((i:Int),())/\E=q.ps.length-i/\i<=q.ps.length/\Ext h y/\Ar key ((aF st).take i)=none) ?_ ⟨0,rfl,rfl,by omega,w,rfl⟩;rintro ar E _ y ⟨i,rfl,rfl,au,z,o⟩ ab;dsimp only;refine ae.intro (λB=>?_) (λB=>?_)
  ·have r:i<q.ps.length:=by rw[<- aa];simpa using B
   have ac:i<st.ts.length:=by omega
   have F:q.ps[i]? =some q.ps[i]:=A2 r;have G:st.ts[i]? =some st.ts[i]:=A2 ac;have ad:(aF st)[i]? =some st.ts[i].2:=by unfold aF;rw[Bm,G];rfl
   have H:=d.on z;refine H.ck.view.idx F λa _ c=>AZ.mk (Cells.pt c) ?_
   obtain⟨av,aw,af,ax,ay,ag⟩:=H.cL i _ _ F G;refine AQN af ag.eE L λaz ai=>⟨_,_,_,_,rfl,?_⟩
   refine ak.pair λaA aj _ t al aC=>?_
   have I:=(z.trans ai).trans al;have J:(aF st).take (i+1)=(aF st).take i++ [st.ts[i].2]:=by rw[Ax,ad];rfl
   have am:Ar key (aF st)=(Ae key st.ts[i].2).or (Ar key ((aF st).drop (i+1))):=by
    conv=>lhs;rw[<- DP (i+1) (aF st),J]
    rw[M.Ph,M.Ph,o,M.ED];have:Ar key ([]:List (List Pr))=none:=rfl;rw[this,Option.or_none,Mn]
   cases u:Ae key st.ts[i].2 with
   |some p=>
    have e:Ux key st.ts[i].2=(p,true):=by unfold Ux;rw[u]
    rw[e] at t ⊢;refine ae.yes rfl (AJ.mk (AB t rfl) (Aa.mk (AB t rfl) ?_));have:=v aj I;rw[D p (by rw[j,am,u];rfl)] at this;exact this
   |none=>
    have e:Ux key st.ts[i].2=(M.Tp,false):=by unfold Ux;rw[u]
    rw[e] at t ⊢;refine ae.no rfl ?_;rw[Ab (by omega)];refine ab (q.ps.length-(i+1)) _ _ (by omega) ⟨i+1,rfl,rfl,r,I,?_⟩;rw[J,M.Ph,o,M.ED,u];rfl
  ·have r:i=q.ps.length:=by
    have: ¬i<q.tp.len:=by simpa using B
    omega
   subst r;rw[AG (by simp[aF];omega)] at o;have:=v y z;rw[V (by rw[j,o];rfl)] at this;exact this
end
open M (Sorted Ae Ca A8 Ag Ar BV Ah bE BF)
def rD(a:Nat):Nat:=20000*a+10000000
structure cE where
 C:Nat
 W0:Nat
 A:Nat
 hC:C<=100000
 hA:A<=60000
 hW:W0+A*rD C<=8000000000000
def cE.K(a:cE):Nat:=rD a.C
theorem cE.wt(b:cE){a:Nat}(c:a<=b.A):b.W0+a*b.K<=8000000000000:=by
 have d:=b.hW;have f:a*b.K<=b.A*b.K:=AS _ c;have e:b.A*rD b.C=b.A*b.K:=rfl;rw[e] at d;generalize a*b.K=x at*
 generalize b.A*b.K=g at*
 omega
theorem ze: ∀a:List (List UInt8),(∀ r∈a,r.length<=1048576)->(aI a).length<=(a.map List.length).sum+a.length*14
 | [],_=>by simp
 |r::a,b=>by
  have d:=(JK (b r AN)).2;have e:=ze a λx c=>b x (An _ c)
  rw[WX];simp only[A1,By,GS,A5];omega
theorem zf: ∀a:List (List Pr),((a.map BK).map List.length).sum=(BK a.flatten).length
 | []=>rfl
 |b::a=>by
  simp only[By,GS,List.flatten_cons,zf a];simp[BK]
theorem AMq {a b s c f p:Nat}(d:b<=s+c*14)(e:s=p+f)(g:p<=a*8276)(h:f<=1048576)(i:c<=a+2):b<=8400*a+1100000:=by omega
theorem zg {l:List Pr}(t:Gs l):(JZ l).length<=8400*l.length+1100000:=by
 have c:=ze (aR l (MR l)) (NK t.eE);have d:((aR l (MR l)).map List.length).sum=(BK l).length+(VB l (MR l)).length:=by have a:=zf (KP l);rw[AMA] at a;rw[<- a];simp only[aR,CH,List.sum_append,By,Sh,GS,List.sum_nil,Gk]
 have b:(aR l (MR l)).length<=l.length+2:=by
  have b:(aR l (MR l)).length=Bn l+1:=by simp[aR,Gr]
  have e:Bn l<=l.length+1:=by unfold Bn;omega
  omega
 exact AMq c d (LJ t.ok) (XZ t.eE) b
def NW(a:Bl):Nat:=((Aj a).names.map λb=>(a.T b).length).sum+(IM a).flatten.length
structure El (F:bP) (st:Db) (D:Bl):Prop where
 ok:BD F D
 names:(Aj D).names=st.ts.map (·.1)
 ck: ∀p∈st.ts,D.T p.1=p.2
 aT:(Aj D).aT=st.aT
 next:(Aj D).next<=st.next
 below: ∀p∈st.ts,p.1<st.next
 fr:st.fr=Ef D
 gA: ∀n,st.au<=n->n<=99999999->(st.bq=true->n≠st.au)->F (aD nl n)=none
 jr:st.bq=true->F (aD nl st.au)=some (AX (aI ((D.L st.au).map (BM st.au))),bD)
 jq: ∀n,st.aK<=n->n<=99999999->F (aD nn n)=none
 eF:1<=st.aT/\st.aT<=st.au
 aK:1<=st.aK
 clean: ∀n,F (aU n)≠none->n∈st.ts.map (·.1)
structure R3 (st:Db) (D:Bl) (aJ c:Nat):Prop where
 au:st.au<=8*aJ+4
 aK:st.aK<=8*aJ+4
 next:st.next<=8*aJ+4
 cp:st.ts.length<=aJ
 bV:NW D<=c
 aP:D.aP<=8*aJ+6
 aV:D.aV<=8*aJ+6
structure ja (F:bP) (D:Bl) (aJ c:Nat):Prop where
 aP:D.aP<=8*aJ+8
 aV:D.aV<=8*aJ+8
 next:(Aj D).next<=8*aJ+8
 aT:(Aj D).aT<=8*aJ+8
 cp:(Aj D).names.length<=aJ
 bV:NW D<=c
 mK: ∀n,F (aU n)≠none->n<8*aJ+8
def Rec(b:bP)(aJ c:Nat)(d:List Pr):Prop:= ∃a,BD b a/\ja b a aJ c/\cu a=d
def jU(a:bP)(aJ c:Nat)(b:List Pr):Prop:= ∀G,Lr a G->Rec G aJ c b
theorem R3.mono {st:Db}{a:Bl}{aJ b c d:Nat}(l:R3 st a aJ c)(e:aJ<=b)(f:c<=d):R3 st a b d:=
 ⟨by have:=l.au;omega,by have:=l.aK;omega,by have:=l.next;omega,by have:=l.cp;omega,by have:=l.bV;omega,by have:=l.aP;omega,by have:=l.aV;omega⟩
theorem ja.mono {a:bP}{b:Bl}{aJ d c e:Nat}(l:ja a b aJ c)(h:aJ<=d)(i:c<=e):ja a b d e:=
 ⟨by have:=l.aP;omega,by have:=l.aV;omega,by have:=l.next;omega,by have:=l.aT;omega,by have:=l.cp;omega,by have:=l.bV;omega,λf g=>by have:=l.mK f g;omega⟩
theorem Rec.mono {a:bP}{aJ b c d:Nat}{e:List Pr}(f:Rec a aJ c e)(g:aJ<=b)(h:c<=d):Rec a b d e:=by obtain⟨i,j,k,l⟩:=f;exact⟨i,j,k.mono g h,l⟩
theorem Lr.some {a G:bP}(c:Lr a G){x:A2P}(b:G x≠none):a x≠none:=λd=>b (by
 have:=c x;rw[d] at this;exact this)
theorem El.iy {b:bP}{st:Db}{a:Bl}(L:El b st a):(Aj a).names.length=st.ts.length:=by rw[L.names];simp
theorem El.aF {b:bP}{st:Db}{a:Bl}(L:El b st a):(Aj a).names.map a.T=G.aF st:=by rw[L.names,AT];exact CM λp c=>L.ck p c
theorem El.map {b:bP}{st:Db}{a:Bl}(L:El b st a):cu a=CZ st:=by unfold cu CZ LH;rw[L.aF,<-L.fr]
theorem El.kZ {b:bP}{st:Db}{a:Bl}(L:El b st a):gS (Aj a):=yi L.ok
theorem El.nd {a:bP}{st:Db}{b:Bl}(L:El a st b):(st.ts.map (·.1)).Nodup:=by rw[<- L.names];exact L.kZ.nd
theorem El.ju {d F':bP}{st:Db}{a:Bl}{aJ c:Nat}(L:El d st a)(l:R3 st a aJ c)(e: ∀b,F' (aU b)≠none->b<8*aJ+8):ja F' a aJ c:=by have:=L.next;have:=l.next;have:=L.eF;have:=l.au;exact⟨by have:=l.aP;omega,by have:=l.aV;omega,by omega,by rw[L.aT];omega,by rw[L.iy];exact l.cp,l.bV,e⟩
theorem El.fw {a:bP}{st:Db}{b:Bl}{aJ c:Nat}(L:El a st b)(l:R3 st b aJ c){n:Nat}(d:a (aU n)≠none):n<st.next:=by obtain⟨p,e,rfl⟩:=List.mem_map.1 (L.clean n d);exact L.below p e
theorem El.iL {a:bP}{st:Db}{b:Bl}{aJ c:Nat}(L:El a st b)(l:R3 st b aJ c):a (aU st.next)=none:=by
 cases d:a (aU st.next) with
 |none=>rfl
 |some p=>exact absurd (L.fw l (n:=st.next) (by rw[d];simp)) (by omega)
theorem El.oP {b:bP}{st:Db}{a:Bl}{aJ c:Nat}(L:El b st a)(l:R3 st a aJ c):jU b aJ c (CZ st):=λG d=>by
 refine⟨a,L.ok.dM d,L.ju l λf e=>?_,L.map⟩;have g:=L.fw l (d.some e);have:=l.next;omega
theorem El.js {e F':bP}{st:Db}{b:Bl}{aJ c:Nat}(L:El e st b)(l:R3 st b aJ c)(h: ∀x,(∀ a,a∉st.ts.map (·.1)->x≠aU a)->F' x=e x)(i: ∀a,F' (aU a)≠none->a<8*aJ+8):BD F' b/\jU F' aJ c (CZ st):=by
 have f:BD F' b:=L.ok.fU λx j=>h x λa d=>j a (by rw[L.names];exact d)
 exact⟨f,λG g=>⟨b,f.dM g,L.ju l λa d=>i a (g.some d),L.map⟩⟩
theorem zh {a b:Bl}{f:Nat}(d:b.L=a.L)(e:b.aP=a.aP)(g:(Aj b).aT=f):IM b=(List.range a.aP).flatMap λc=>if c<f then [] else a.L c:=by unfold IM;rw[d,e,g]
theorem zi {a b:Bl}(c:b.L=a.L)(d:b.aP=a.aP)(e:(Aj b).aT=(Aj a).aT):IM b=IM a:=by rw[zh c d e];rfl
theorem AMP {c a:Bl}{f:Nat}(d:a.L=c.L)(e:a.aP=c.aP)(g:(Aj a).aT=f)(h: ∀b,f<=b->c.L b= []):IM a= []:=by
 rw[zh d e g,List.flatMap_eq_nil_iff];intro b _;split
 ·rfl
 ·exact h b (by omega)
theorem zj {a b:Bl}(d:b.L=a.L)(e:b.aP=a.aP)(c:Aj b=Aj a)(f:b.T=a.T):cu b=cu a/\NW b=NW a:=by have g:=zi d e (congrArg Nt.aT c);unfold cu Ef NW;rw[g,c,f];exact⟨rfl,rfl⟩
structure Bp (B:cE) (g h:aa) (q:Hp) (k:Nat->Nat) (st:Db) (m:Bx) (D:Bl) (aJ c:Nat):Prop where
 mem:bK g h q k st m
 up:m.down=false
 eW:El (ff m) st D
 lim:R3 st D aJ c
 wt:bg m.files<=B.W0+aJ*B.K
 hc:c<=B.C
theorem Bp.aJ {b:cE}{g d:aa}{e:Hp}{f:Nat->Nat}{st:Db}{m:Bx}{h:Bl}{aJ i c:Nat}(a:Bp b g d e f st m h aJ c)(j:aJ<=i):Bp b g d e f st m h i c:=
 ⟨a.mem,a.up,a.eW,a.lim.mono j (A0 _),AF a.wt (LN (AS _ j) _),a.hc⟩
theorem ANe(l:List (List Pr)):M.total l=(l.map List.length).sum:=rfl
theorem El.cp {b:bP}{st:Db}{a:Bl}(L:El b st a):NW a=M.total (G.aF st)+(IM a).flatten.length:=by unfold NW;rw[<- L.aF,ANe,AT];rfl
theorem ALb(a:Bl):(Ef a).length<=(IM a).flatten.length:=by have:=M.QT (l:=(IM a).flatten) (t:= []);unfold Ef;simpa using this
theorem El.di {b:bP}{st:Db}{a:Bl}{aJ c:Nat}(L:El b st a)(l:R3 st a aJ c):st.fr.length+M.total (G.aF st)<=c:=by have d:=L.cp;have e:=ALb a;have f:=l.bV;rw[L.fr];omega
theorem El.jw {b:bP}{st:Db}{a:Bl}{aJ c:Nat}(L:El b st a)(l:R3 st a aJ c):(Ag (st.fr::G.aF st)).length<=c:=by have d:=M.Sd (st.fr::G.aF st);rw[M.zH] at d;have:=L.di l;omega
theorem El.fK {b:bP}{st:Db}{a:Bl}{aJ c:Nat}(L:El b st a)(l:R3 st a aJ c):(GI (G.aF st)).length<=M.total (G.aF st):=by have d:=M.Sd (G.aF st);have e:=rp (Ag (G.aF st));unfold GI;omega
end Go.Lf.G
