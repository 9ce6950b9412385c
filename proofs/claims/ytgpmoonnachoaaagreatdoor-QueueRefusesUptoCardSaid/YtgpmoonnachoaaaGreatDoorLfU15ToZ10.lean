/-
 The plain law of a box, file by file: firm and soft bytes.
-/
import Derived.Test.YtgpmoonnachoaaaGreatDoorLfU2ToS3
import Derived.Test.YtgpmoonnachoaaaGreatDoorLfX2ToS5
import Derived.Test.YtgpmoonnachoaaaGreatDoorLfAToN1
import Derived.Lib.AppendZerosOnto
import Derived.Lib.Overlaps
import Derived.Laws.IdiomCopy
import Derived.Laws.Externs
set_option maxRecDepth 100000
set_option linter.unusedVariables false
set_option linter.unusedSimpArgs false
open Go.IntKind renaming i64→J9,wrap→J8
open Go.Value renaming string→J7,int→J6,pointer→J5,slice→J4,bool→J3,tuple→J1
open Go.Obj renaming cells→J2
open Go renaming Value→J0,Addr→Q6,TypeId→Q7,FuncId→Q8,Program→Q1
open Go.Addr renaming add→Q9,mk→Q5
namespace Go.Lf
open Go
def ff(m:Bx)(a:A2L):Option (A2L×A2L):=(Cq a m.files).map λf=>(f.bY,f.soft)
theorem VQ {m:Bx}{a:A2L}:(Cq a m.files).isSome=(ff m a).isSome:=by unfold ff;cases Cq a m.files<;>rfl
theorem qP {m:Bx}(hd:m.down=false)(a:A2L):UU m a=match ff m a with|none=>(bF,31)|some p=>(p.1++p.2,0):=by unfold UU ff;rw[if_neg (by simp[hd])];cases Cq a m.files<;>rfl
theorem qQ(m:Bx)(l:List Fi)(a:A2L):ff {IQ m with files:=l} a=(Cq a l).map λf=>(f.bY,f.soft):=rfl
theorem AKu {a x:A2L}(l:List Fi):Cq x (UN a l)=if x=a then some ((Cq a l).getD ⟨a,bF,bF⟩) else Cq x l:=by
 unfold UN;cases c:Cq a l with
 |some f=>
  simp only[Option.isSome_some,if_true];by_cases b:x=a
  ·subst b;simp[c]
  ·rw[if_neg b]
 |none=>
  rw[if_neg (by simp),wA (λd e=>R5 c d e)];by_cases b:x=a
  ·subst b;simp
  ·rw[if_neg b,if_neg (λg=>b g.symm)]
def ka(m:Bx):Prop:=m.down=false/\m.fuel≠0
theorem AM8 {m:Bx}(g:ka m){a d:A2L}(e:LY a=false):(EM m a d).1=0/\ ∀x,ff (EM m a d).2 x=if x=a then some (((ff m a).getD (bF,bF)).1,((ff m a).getD (bF,bF)).2++d) else ff m x:=by
 unfold EM;rw[if_neg (by simp[g.1]),if_neg (by simp[e]),if_neg g.2];refine⟨rfl,λx=>?_⟩;rw[qQ,qT (g:=Rw d) (λ_=>rfl),AKu];unfold ff;by_cases b:x=a
 ·subst b;rw[if_pos rfl,if_pos rfl];cases c:Cq x m.files with
  |none=>simp[Rw]
  |some f=>
   have:=(KO c).1;simp[Rw,this]
 ·rw[if_neg b,if_neg b];cases c:Cq x m.files with
  |none=>rfl
  |some f=>
   have:=(KO c).1;simp only[HP];rw[if_neg (by rw[this];exact b)]
theorem ARV {m:Bx}(g:ka m){b:A2L}{p:A2L×A2L}(c:ff m b=some p):(Hm m b).1=0/\ ∀x,ff (Hm m b).2 x=if x=b then some (p.1++p.2,bF) else ff m x:=by
 have a: ∃f,Cq b m.files=some f/\(f.bY,f.soft)=p:=by
  unfold ff at c;cases a:Cq b m.files with
  |none=>rw[a] at c;cases c
  |some f=>rw[a] at c;exact⟨f,rfl,BY c⟩
 obtain⟨f,a,rfl⟩:=a;unfold Hm;rw[if_neg (by simp[g.1]),if_neg (by simp[a]),if_neg g.2];refine⟨rfl,λx=>?_⟩;rw[qQ,qT (g:=SQ) (λ_=>rfl)];by_cases d:x=b
 ·subst d;have:=(KO a).1;rw[if_pos rfl,a];simp[SQ,this]
 ·rw[if_neg d];unfold ff;cases e:Cq x m.files with
  |none=>rfl
  |some h=>
   have:=(KO e).1;simp only[HP];rw[if_neg (by rw[this];exact d)]
theorem ANp {m:Bx}(g:ka m){a:A2L}(b:(ff m a).isSome=true):(Gs m a).1=0/\ ∀x,ff (Gs m a).2 x=if x=a then none else ff m x:=by
 have c:(Cq a m.files).isNone=false:=by
  rw[<- VQ] at b;cases c:Cq a m.files with
  |none=>rw[c] at b;cases b
  |some f=>rfl
 unfold Gs;rw[if_neg (by simp[g.1]),if_neg (by simp[c]),if_neg g.2];refine⟨rfl,λx=>?_⟩;rw[qQ,Zu];split<;>rfl
theorem AMY {m:Bx}(l:List Fi):({IQ m with files:=l}:Bx).down=m.down:=by show(IQ m).down=m.down;unfold IQ;split<;>rfl
theorem wh: ∀ {l f:List Nat},l.Pairwise (· < ·)->f.Pairwise (· < ·)->(∀ e,e∈l↔e∈f)->l=f
 | [],[],_,_,_=>rfl
 | [],b::f,_,_,d=>by have:=(d b).2 (by simp);cases this
 |a::l,[],_,_,d=>by have:=(d a).1 (by simp);cases this
 |a::l,b::f,h,i,d=>by
  rw[RR] at h i;have k:a=b:=by
   rcases List.mem_cons.1 ((d a).1 (by simp)) with c|c
   ·exact c
   ·rcases List.mem_cons.1 ((d b).2 (by simp)) with j|j
    ·exact j.symm
    ·have:=i.1 a c;have:=h.1 b j;omega
  subst k;have:l=f:=wh h.2 i.2 λe=>by
   constructor
   ·intro g;rcases List.mem_cons.1 ((d e).1 (AG _ g)) with c|c
    ·have:=h.1 e g;omega
    ·exact c
   ·intro g;rcases List.mem_cons.1 ((d e).2 (AG _ g)) with c|c
    ·have:=i.1 e g;omega
    ·exact c
  rw[this]
end Go.Lf
namespace Go.Lf.G
open Go
theorem AQq {b:A2L}{m:Bx}{l:List Nat}{c:Nat->List A2L}(hd:m.down=false)(d: ∀a∈l,∃p,ff m (aC b a)=some p/\NQ (bl (p.1++p.2)) ((c a).map bl)):Sv b m l=l.flatMap c:=by
 unfold Sv
 induction l with
 |nil=>rfl
 |cons a l e=>
  obtain⟨p,f,g⟩:=d a (by simp);rw[AH,AH,e λh i=>d h (AG _ i)];congr 1;have j:iM m b a=p.1++p.2:=by unfold iM;rw[qP hd,f]
  rw[j,APb g,AT]
  conv=>rhs;rw[<- Kx (c a)]
  exact CA λx _=>K9 x
theorem yD {nm:A2L}{a:Nat}(e:nm.size<=8)(b:a<=99999999):LY (aC nm a)=false:=by have c:=APi (nm:=nm) b;unfold LY;rw[Hk,decide_eq_false_iff_not,decide_eq_false_iff_not];refine⟨λd=>?_,by omega⟩;rw[d] at c;have:bF.size=0:=rfl;omega
theorem AQQ {i:A2L}{m:Bx}{l:List Nat}(g:mw i m l):l.length<=99999999:=by
 have j: ∀(l:List Nat) (d:Nat),l.Pairwise (· < ·)->(∀ b∈l,d<b/\b<=99999999)->l.length+d<=99999999\/l= []:=by
  intro l
  induction l with
  |nil=>intro d _ _;exact .inr rfl
  |cons a l k=>
   intro d f h;rw[RR] at f;have n:=h a (by simp);rcases k a f.2 (λb e=>⟨f.1 b e,(h b (AG _ e)).2⟩) with c|c
   ·left;simp only[A5];omega
   ·subst c;left;simp;omega
 rcases j l 0 g.inc (λb e=>by have:=(g.mem b).1 e;omega) with c|c
 ·omega
 ·subst c;simp
structure Lw (h:aa) (lg b:Nat) (nm:A2L) (hh:aa) (S:Nat->Prop) (m:Bx) (seg:Nat) (made:Bool):Prop where
 box:Cw hh b S m
 log:ES hh lg b nm seg made
 ext:Ext h hh
 fresh: ∀c,S c->h.size<=c/\c≠lg
 lgn:h.size<=lg
def aV(rec:A2L):A2L:=AY (Cv (bl rec))
abbrev nx:A2L:=⟨#[120]⟩
open M (Sorted Af CZ A8 Ag Aq BU Ah bA BG)
abbrev bQ:=A2L->Option (A2L×A2L)
abbrev nl:A2L:=⟨#[108]⟩
abbrev nn:A2L:=⟨#[110]⟩
abbrev nt:A2L:=⟨#[116]⟩
def aX(a:Nat):A2L:=nt++AY (Lib.decDigits a)
theorem XL(a:Nat):bl (aX a)=116::Lib.decDigits a:=by show(nt++AY (Lib.decDigits a)).data.toList=_;rw[Kd,N6];show [116]++(AY (Lib.decDigits a)).data.toList=_;rw[show(AY (Lib.decDigits a)).data.toList=Lib.decDigits a from Bh _];rfl
theorem JV {a b:Nat}(e:aX a=aX b):a=b:=by
 have c:=congrArg bl e;rw[XL,XL] at c;have f:Lib.decDigits a=Lib.decDigits b:=by injection c
 have d:=(ZF a).2;rw[f,(ZF b).2] at d;exact d.symm
theorem UL(a:Nat):(bl (aC nl a)).head? =some 108:=by rw[RZ];rfl
theorem Xk(a:Nat):(bl (aC nn a)).head? =some 110:=by rw[RZ];rfl
theorem rF(a:Nat):(bl (aX a)).head? =some 116:=by rw[XL];rfl
theorem WH(a b:Nat):aC nl a≠aC nn b:=λc=>by have:=UL a;rw[c,Xk] at this;cases this
theorem Lx(a b:Nat):aC nl a≠aX b:=λc=>by have:=UL a;rw[c,rF] at this;cases this
theorem Qf(a b:Nat):aC nn a≠aX b:=λc=>by have:=Xk a;rw[c,rF] at this;cases this
def dc(x:A2L):Prop:=(∃ a,x=aC nl a)\/(∃ a,x=aC nn a)\/ ∃a,x=aX a
def Mc(b G:bQ):Prop:= ∀x,match b x with
 |none=>G x=none
 |some p=> ∃a,G x=if p.1++p.2.extract 0 a=bF then none else some (p.1++p.2.extract 0 a,bF)
theorem AQp(a:Nat):bF.extract 0 a=bF:=by
 have:(bF.extract 0 a).size=0:=by have:bF.size=0:=rfl;rw[A0N];omega
 have b:=K9 (bF.extract 0 a);have c:bl (bF.extract 0 a)= []:=UD this;rw[c] at b;exact b.symm
def Nj(a b:Option (A2L×A2L)):Prop:=b=a\/(a=some (bF,bF)/\b=none)
theorem Mc.bY {b G:bQ}(c:Mc b G){x:A2L}(g: ∀p,b x=some p->p.2=bF):Nj (b x) (G x):=by
 have:=c x;cases d:b x with
 |none=>rw[d] at this;exact .inl this
 |some p=>
  rw[d] at this;obtain⟨i,a⟩:=this;have e:=g p d;obtain⟨h,j⟩:=p;simp only at e;subst e;simp only[AQp,Ya] at a;by_cases f:h=bF
  ·subst f;rw[if_pos rfl] at a;exact .inr ⟨rfl,a⟩
  ·rw[if_neg f] at a;exact .inl a
structure gu (F:bQ) (nm:A2L) (top:Nat) (R:Nat->List (List UInt8)):Prop where
 has: ∀n p,1<=n->n<=99999999->F (aC nm n)=some p->p.2=bF/\NQ (bl p.1) (R n)
 ir: ∀n,1<=n->n<=99999999->F (aC nm n)=none->R n= []
 out: ∀n,top<=n->n<=99999999->F (aC nm n)=none
 lq: ∀n,(n=0\/top<=n)->R n= []
def KT {a:Type}(c:Nat->a)(s:Nat)(v:a):Nat->a:=λb=>if b=s then v else c b
theorem EJ {a:Type}{b:Nat->a}{s:Nat}{v:a}:KT b s v s=v:=if_pos rfl
theorem F6 {b:Type}{c:Nat->b}{s a:Nat}{v:b}(d:a≠s):KT c s v a=c a:=if_neg d
theorem rG {a:List (List UInt8)}(b:NQ [] a):a= []:=b.uniq (.stop UI)
theorem gu.put {k G:bQ}{f:A2L}{l eX:Nat}{m:Nat->List (List UInt8)}(i:gu k f l m){s:Nat}{v:List (List UInt8)}(r:1<=s/\s<=99999999)(t:s<eX)(j: ∀a,1<=a->a<=99999999->a≠s->Nj (k (aC f a)) (G (aC f a)))
  (n:(G (aC f s)=none/\v= [])\/ ∃x,G (aC f s)=some (x,bF)/\NQ (bl x) v) (u:l<=eX):gu G f eX (KT m s v):=by
 refine⟨λa p g e c=>?_,λa g e c=>?_,λa o e=>?_,λa o=>?_⟩
 ·by_cases d:a=s
  ·subst d;rw[EJ];rcases n with⟨b,_⟩|⟨x,b,h⟩
   ·rw[b] at c;cases c
   ·rw[b] at c;cases c;exact⟨rfl,h⟩
  ·rw[F6 d];rcases j a g e d with b|⟨b,h⟩
   ·exact i.has a p g e (b▸c)
   ·rw[h] at c;cases c
 ·by_cases d:a=s
  ·subst d;rw[EJ];rcases n with⟨_,b⟩|⟨x,b,_⟩
   ·exact b
   ·rw[b] at c;cases c
  ·rw[F6 d];rcases j a g e d with b|⟨b,h⟩
   ·exact i.ir a g e (b▸c)
   ·obtain⟨_,q⟩:=i.has a _ g e b;exact rG q
 ·have d:a≠s:=by omega
  rcases j a (by omega) e d with b|⟨b,h⟩
  ·rw[b];exact i.out a (by omega) e
  ·exact h
 ·have d:a≠s:=by omega
  rw[F6 d];exact i.lq a (by omega)
theorem gu.aR {k G:bQ}{f:A2L}{i:Nat}{l:Nat->List (List UInt8)}(d:gu k f i l)(o:1<=i)(j: ∀a,1<=a->a<=99999999->Nj (k (aC f a)) (G (aC f a))):gu G f i l:=by
 refine⟨λa p g b e=>?_,λa g b e=>?_,λa m b=>?_,d.lq⟩
 ·rcases j a (by omega) b with c|⟨c,h⟩
  ·exact d.has a p g b (c▸e)
  ·rw[h] at e;cases e
 ·rcases j a (by omega) b with c|⟨c,h⟩
  ·exact d.ir a g b (c▸e)
  ·obtain⟨_,n⟩:=d.has a _ g b c;exact rG n
 ·rcases j a (by omega) b with c|⟨c,h⟩
  ·rw[c];exact d.out a m b
  ·exact h
theorem gu.drop {l G:bQ}{e:A2L}{h:Nat}{m g:Nat->List (List UInt8)}(i:gu l e h m)(j: ∀a,a<=99999999->(G (aC e a)=l (aC e a)/\g a=m a)\/(G (aC e a)=none/\g a= []))(n: ∀a,(a=0\/h<=a)->g a= []):gu G e h g:=by
 refine⟨λa p k c f=>?_,λa k c f=>?_,λa o c=>?_,n⟩
 ·rcases j a c with⟨b,d⟩|⟨b,d⟩
  ·rw[d];exact i.has a p k c (b▸f)
  ·rw[b] at f;cases f
 ·rcases j a c with⟨b,d⟩|⟨b,d⟩
  ·rw[d];exact i.ir a k c (b▸f)
  ·exact d
 ·rcases j a c with⟨b,d⟩|⟨b,d⟩
  ·rw[b];exact i.out a o c
  ·exact b
theorem yY {rs:List (List UInt8)}{r:List UInt8}(b: ∀x∈rs++ [r],x.length<=1048576)(a:Nat):NQ (bl (AY (aJ rs)++(AY (Cv r)).extract 0 a)) rs\/NQ (bl (AY (aJ rs)++(AY (Cv r)).extract 0 a)) (rs++ [r]):=by
 have c:bl (AY (aJ rs)++(AY (Cv r)).extract 0 a)=aJ rs++(Cv r).take a:=by show(AY (aJ rs)++(AY (Cv r)).extract 0 a).data.toList=_;rw[Kd,N6,SP,SR];rw[show(AY (aJ rs)).data.toList=aJ rs from Bh _,show(AY (Cv r)).data.toList=Cv r from Bh _];simp
 rw[c];by_cases d:a<(Cv r).length
 ·exact .inl (Rh (λx e=>b x (by simp[e])) (AM7 (b r (by simp)) d))
 ·right;rw[AF (by omega)];have:=Rh (rs:=rs++ [r]) b (t:= []) UI;simpa using this
structure Nt where
 next:Nat
 aV:Nat
 names:List Nat
def EG(x:Nt):List UInt8:=Bc x.next++Bc x.aV++Bc x.names.length++x.names.flatMap Bc
structure gY (x:Nt):Prop where
 next:x.next<=99999999
 aV:1<=x.aV/\x.aV<=99999999
 cn:x.names.length<=60000
 below: ∀n∈x.names,n<x.next
 nd:x.names.Nodup
structure YW (b:List Pr):Prop where
 len:b.length<=64
 ok: ∀x∈b,Lg x
theorem U0: ∀ {l:List Nat},(∀ n∈l,n<=99999999)->(l.flatMap Bc).length<=l.length*10
 | [],_=>by simp
 |n::l,a=>by
  have d:=AV (n:=n) (by have:=a n (by simp);omega);have e:=U0 (l:=l) λb c=>a b (AG _ c)
  simp only[AH,A1,A5];omega
theorem yZ {x:Nt}(a:gY x):(EG x).length<=30+x.names.length*10:=by
 have c:=AV (n:=x.next) (by have:=a.next;omega);have d:=AV (n:=x.aV) (by have:=a.aV;omega);have e:=AV (n:=x.names.length) (by have:=a.cn;omega);have f:=U0 (l:=x.names) λn b=>by have:=a.below n b;have:=a.next;omega
 simp only[EG,A1];omega
theorem ZM {s:Nat}{b:List Pr}(d:s<=99999999)(a:YW b):(BV s b).length<=20+64*8276:=by have e:=AV (n:=s) (by omega);have f:=AV (n:=b.length) (by have:=a.len;omega);have g:=Lu a.ok;have c:=a.len;have h:b.length*8276<=64*8276:=AN _ c;simp only[BV,A1];omega
structure Bq where
 L:Nat->List (List Pr)
 N:Nat->List Nt
 T:Nat->List Pr
 aP:Nat
 aW:Nat
def NT(a:Bq):List Nt:=(List.range a.aW).flatMap a.N
def Ap(a:Bq):Nt:=(NT a).getLast?.getD ⟨1,1,[]⟩
def IU(a:Bq):List (List Pr):=(List.range a.aP).flatMap λb=>if b<(Ap a).aV then [] else a.L b
def Er(a:Bq):List Pr:=A8 [] (IU a).flatten
def cz(a:Bq):List Pr:=BG (Ag (Er a::(Ap a).names.map a.T))
structure BK (F:bQ) (D:Bq):Prop where
 log:gu F nl D.aP λn=>(D.L n).map (BV n)
 note:gu F nn D.aW λn=>(D.N n).map EG
 cN: ∀n∈(Ap D).names,F (aX n)=some (AY (Jh (D.T n)),bF)/\G7 (D.T n)
 gk: ∀n b,b∈D.L n->YW b
 dO: ∀n x,x∈D.N n->gY x
 dx: ∀x,F x≠none->(bl x).head? =some 116-> ∃n,x=aX n
 cC:1<=D.aP/\D.aP<=99999999/\1<=D.aW/\D.aW<=99999999
theorem z6 {b:bQ}{a:Bq}(c:BK b a):gY (Ap a):=by
 unfold Ap;cases d:(NT a).getLast? with
 |none=>exact⟨by simp,by simp,by simp,by simp,by simp⟩
 |some x=>
  have:=T4 d;obtain⟨e,_,f⟩:=List.mem_flatMap.1 this;exact c.dO e x f
theorem ATI {l:List Pr}(t:G7 l):AY (Jh l)≠bF:=λd=>by
 have a:Jh l= []:=by have:=congrArg bl d;rw[EN] at this;exact this
 have e:aT l (NA l)≠ []:=by simp[aT]
 unfold Jh at a;cases b:aT l (NA l) with
 |nil=>exact e b
 |cons r f=>
  rw[b] at a;have g:(Cv r).length=0:=by have c:=congrArg List.length a;rw[XV,A1] at c;simp at c;simp[c.1]
  have h:=(JQ (r:=r) (Np t.eL r (by rw[b];simp))).1;omega
theorem VS {a b:Option (A2L×A2L)}{l:List Pr}(e:Nj a b)(t:G7 l)(d:a=some (AY (Jh l),bF)):b=some (AY (Jh l),bF):=by
 rcases e with c|⟨c,_⟩
 ·exact c.trans d
 ·rw[d] at c;injection c with c;exact absurd (Prod.mk.inj c).1 (ATI t)
theorem BK.same {c G:bQ}{e:Bq}(b:BK c e)(h: ∀a,1<=a->a<=99999999->Nj (c (aC nl a)) (G (aC nl a)))(i: ∀a,1<=a->a<=99999999->Nj (c (aC nn a)) (G (aC nn a)))(j: ∀a∈(Ap e).names,Nj (c (aX a)) (G (aX a)))
  (k: ∀x,G x≠none->c x≠none\/ ∃a,x=aX a):BK G e:=by
 refine⟨b.log.aR b.cC.1 h,b.note.aR b.cC.2.2.1 i,λa f=>?_,b.gk,b.dO,λx l hd=>?_,b.cC⟩
 ·obtain⟨d,g⟩:=b.cN a f;exact⟨VS (j a f) g d,g⟩
 ·rcases k x l with d|d
  ·exact b.dx x d hd
  ·exact d
theorem BK.dP {g G:bQ}{h:Bq}(d:BK g h)(c:Mc g G):BK G h:=by
 refine d.same (λb e f=>c.bY λp a=>(d.log.has b p e f a).1) (λb e f=>c.bY λp a=>(d.note.has b p e f a).1) (λb i=>c.bY λp a=>?_) λx j=> .inl λk=>j ?_
 ·rw[(d.cN b i).1] at a;cases a;rfl
 ·have:=c x;rw[k] at this;exact this
open M (Sorted Af CZ A8 Ag Aq BU Ah bA BG aO BC YD)
theorem AP8 {x:Pr}(a:Lg x):Ah x=0:=by
 have c:x.key≠(⟨#[]⟩:A2L):=λd=>a.key (by rw[d];rfl)
 have f:=a.bK;have g:=a.cp;unfold M.Ah;rw[if_neg ?_,if_neg ?_]
 ·simp only[DE,decide_eq_true_eq];omega
 ·simp only[DE,A4,decide_eq_true_eq,CH,decide_eq_false_iff_not];rintro(b|⟨b,e⟩)
  ·exact c b
  ·exact e (rC (a.gone b))
theorem oG {x:Pr}(a:Ah x=0):Lg x:=by
 unfold M.Ah at a;split at a
 ·cases a
 ·rename_i b;split at a
  ·cases a
  ·rename_i c;simp only[DE,A4,decide_eq_true_eq,CH,decide_eq_false_iff_not,not_or,not_and,Decidable.not_not] at b c;refine⟨λd=>b.1 (rC d),by omega,by omega,λe=>?_⟩;rw[b.2 e];rfl
theorem zo {l:List Pr}(a: ∀x∈l,Lg x):BU l:=λx b=>AP8 (a x b)
theorem zr(a:A2L): ∀ {b t:List Pr},Sorted t->BU b->Af a (A8 t b)=(Af a b.reverse).or (Af a t)
 | [],t,_,_=>rfl
 |x::b,t,s,g=>by
  have d:=g x (by simp);show Af a (A8 (CZ x t) b)=_;rw[zr a (M.PZ s) λe f=>g e (AG _ f),SD,M.LV,M.Qr d,M.Xm x a s,M.BB];cases Af a b.reverse with
  |some p=>rfl
  |none=>
   by_cases c:x.key=a
   ·rw[if_pos c,if_pos c];rfl
   ·rw[if_neg c,if_neg c];rfl
def alive(a:Option Pr):Option Pr:=a.filter λp=> !p.gone
theorem H7(x:Pr):alive (some x)=if x.gone then none else some x:=by unfold alive;cases a:x.gone<;>simp[Option.filter,a]
theorem ZZ(a:A2L): ∀ {l:List Pr},Sorted l->Af a (BG l)=alive (Af a l)
 | [],_=>rfl
 |x::l,s=>by
  have e:=List.pairwise_cons.1 s;have c:=ZZ a e.2;unfold M.BG at c ⊢;rw[AS,M.BB];by_cases b:x.key=a
  ·rw[if_pos b];cases d:x.gone with
   |false=>rw[if_pos (by rfl),M.BB,if_pos b,H7,d];rfl
   |true=>
    rw[if_neg (by simp),c];have:Af a l=none:=M.EI λf g h=>M.Lp (e.1 f g) (b.trans h.symm)
    rw[this,H7,d];rfl
  ·rw[if_neg b];cases d:x.gone with
   |false=>rw[if_pos (by rfl),M.BB,if_neg b];exact c
   |true=>rw[if_neg (by simp)];exact c
theorem Uw {l:List Pr}(s:Sorted l):Sorted (BG l):=s.sublist G4
def Lt(fr:List Pr)(ts:List (List Pr)):List Pr:=BG (Ag (fr::ts))
theorem FB(fr:List Pr)(ts:List (List Pr)):Sorted (Lt fr ts):=Uw (M.Dz _)
theorem Gf(a:A2L){fr:List Pr}{ts:List (List Pr)}(b:bA (fr::ts)):Af a (Lt fr ts)=alive ((Af a fr).or (Aq a ts)):=by unfold Lt;rw[ZZ a (M.Dz _),M.Kv a b,M.EK]
def fg(m:List Pr)(p:Pr):List Pr:=m.take (aO p.key m)++(if p.gone then [] else [p])++m.drop (if BC p.key m then aO p.key m+1 else aO p.key m)
def cy(m b:List Pr):List Pr:=b.foldl fg m
theorem UR(a:A2L)(x:Pr)(l:List Pr):aO a (x::l)=if aM x.key a then aO a l+1 else 0:=by unfold M.aO M.ia;rw[MA];split<;>simp
theorem zt(a:A2L)(x:Pr)(l:List Pr):BC a (x::l)=if aM x.key a then BC a l else decide (x.key=a):=by unfold M.BC;rw[UR];by_cases b:aM x.key a=true<;>simp[b]
def kp(a:A2L)(l:List Pr):List Pr:=l.filter λb=> !decide (b.key=a)
theorem zu {k:A2L}: ∀ {l:List Pr},Sorted l->l.take (aO k l)++l.drop (if BC k l then aO k l+1 else aO k l)=kp k l
 | [],_=>by simp[kp]
 |x::l,s=>by
  have c:=List.pairwise_cons.1 s;have d:=zu (k:=k) c.2;unfold kp at d ⊢;rw[UR,zt,AS];by_cases a:aM x.key k=true
  ·have i:x.key≠k:=M.Lp a;have j:(!decide (x.key=k))=true:=by simp[i]
   simp only[a,if_true,j,I0,CN];rw[<- d];cases o:BC k l<;>simp
  ·rw[if_neg a,if_neg a,I3,CM];have e:l.filter (λm=> !decide (m.key=k))=l:=by
    refine List.filter_eq_self.2 λf n=>?_
    have g:=c.1 f n;by_cases h:f.key=k
    ·rw[h] at g;exact absurd g a
    ·simp[h]
   by_cases b:x.key=k
   ·rw[if_pos (by simp[b]),if_neg (by simp[b]),e];rfl
   ·rw[if_neg (by simp[b]),if_pos (by simp[b]),e];rfl
theorem rH {m:List Pr}(s:Sorted m)(p:Pr):fg m p=if p.gone then kp p.key m else M.ins p m:=by
 unfold fg;cases a:p.gone with
 |true=>simp only[if_true,AM];exact zu s
 |false=>
  simp only[Cp,if_false];have:=M.mS p m;unfold M.YD at this;exact this
theorem AN0(b c:A2L)(m:List Pr):Af b (kp c m)=if c=b then none else Af b m:=by
 unfold kp
 induction m with
 |nil=>split<;>rfl
 |cons x m f=>
  rw[AS,M.BB];by_cases d:x.key=c
  ·rw[if_neg (by simp[d]),f];by_cases a:c=b
   ·rw[if_pos a,if_pos a]
   ·rw[if_neg a,if_neg a,if_neg (λe=>a (d.symm.trans e))]
  ·rw[if_pos (by simp[d]),M.BB,f];by_cases a:x.key=b
   ·rw[if_pos a,if_pos a,if_neg (λe=>d (a.trans e.symm))]
   ·rw[if_neg a,if_neg a]
theorem KH {m:List Pr}(s:Sorted m)(p:Pr):Sorted (fg m p):=by
 rw[rH s];split
 ·exact s.sublist G4
 ·exact M.XH p s
theorem PK {m:List Pr}(s:Sorted m)(p:Pr)(a:A2L):Af a (fg m p)=if p.key=a then alive (some p) else Af a m:=by
 rw[rH s];cases b:p.gone with
 |true=>rw[if_pos rfl,AN0,H7,b];rfl
 |false=>rw[if_neg (by simp),M.Xm p a s,H7,b];rfl
theorem zw: ∀ {b m:List Pr},Sorted m->Sorted (cy m b)
 | [],_,s=>s
 |p::b,m,s=>zw (b:=b) (KH s p)
theorem YO(a:A2L): ∀ {b m:List Pr},Sorted m->Af a (cy m b)=match Af a b.reverse with|some p=>alive (some p)|none=>Af a m
 | [],_,_=>rfl
 |p::b,m,s=>by
  show Af a (cy (fg m p) b)=_;rw[YO a (KH s p),SD,M.LV,M.BB];cases Af a b.reverse with
  |some d=>rfl
  |none=>
   rw[PK s];by_cases c:p.key=a
   ·rw[if_pos c,if_pos c];rfl
   ·rw[if_neg c,if_neg c];rfl
theorem zx {fr b:List Pr}{ts:List (List Pr)}(c:bA (fr::ts))(g:BU b):Lt (A8 fr b) ts=cy (Lt fr ts) b:=by
 have e:=c.sorted fr (by simp);have f:bA (A8 fr b::ts):=⟨λl a=>by
   rcases List.mem_cons.1 a with rfl|a
   ·exact M.RI e
   ·exact c.sorted l (by simp[a]),λl a=>by
   rcases List.mem_cons.1 a with rfl|a
   ·exact M.XZ (c.aS fr (by simp))
   ·exact c.aS l (by simp[a])⟩
 refine(FB _ _).ext (zw (FB _ _)) λd=>?_
 rw[Gf d f,zr d e g,YO d (FB _ _),Gf d c];cases Af d b.reverse with
 |some p=>rfl
 |none=>rfl
theorem bA.gG {ts:List (List Pr)}(b:bA ts):bA ([]::ts):=⟨λl a=>by
  rcases List.mem_cons.1 a with rfl|a
  ·exact List.Pairwise.nil
  ·exact b.sorted l a,λl a=>by
  rcases List.mem_cons.1 a with rfl|a
  ·exact λ_ c=>by cases c
  ·exact b.aS l a⟩
theorem bA.tail {l:List Pr}{ts:List (List Pr)}(b:bA (l::ts)):bA ts:=⟨λx a=>b.sorted x (by simp[a]),λx a=>b.aS x (by simp[a])⟩
theorem AHt {fr:List Pr}{ts:List (List Pr)}(a:bA (fr::ts)):Lt [] (fr::ts)=Lt fr ts:=by
 refine(FB _ _).ext (FB _ _) λb=>?_
 rw[Gf b (bA.gG a),Gf b a,M.EK];rfl
theorem AHV(a b:Option Pr):alive (a.or (alive b))=alive (a.or b):=by
 cases a with
 |some p=>rfl
 |none=>
  cases b with
  |none=>rfl
  |some c=>cases d:c.gone<;>simp[H7,d,alive]
def GR(ts:List (List Pr)):List Pr:=BG (Ag ts)
theorem oH {ts:List (List Pr)}:Sorted (GR ts)/\BU (GR ts):=⟨Uw (M.Dz _),λx a=>M.Xw _ x (List.mem_filter.1 a).1⟩
theorem bA.left {fr:List Pr}{ts:List (List Pr)}(b:bA (fr::ts)):bA [fr,GR ts]:=⟨λl a=>by
  rcases List.mem_cons.1 a with rfl|a
  ·exact b.sorted _ (by simp)
  ·rw[List.mem_singleton.1 a];exact oH.1,λl a=>by
  rcases List.mem_cons.1 a with rfl|a
  ·exact b.aS _ (by simp)
  ·rw[List.mem_singleton.1 a];exact oH.2⟩
theorem WM {fr:List Pr}{ts:List (List Pr)}(b:bA (fr::ts)):Lt fr [GR ts]=Lt fr ts:=by
 refine(FB _ _).ext (FB _ _) λa=>?_
 rw[Gf a (bA.left b),Gf a b,M.EK];have:Af a (GR ts)=alive (Aq a ts):=by unfold GR;rw[ZZ a (M.Dz _),M.Kv a (bA.tail b)]
 rw[this];have c:Aq a ([]:List (List Pr))=none:=rfl;rw[c,Option.or_none,AHV]
theorem AB5 {fr:List Pr}{ts:List (List Pr)}(a:bA (fr::ts))(c:GR ts= []):Lt fr []=Lt fr ts:=by
 rw[<- WM a,c];have e:bA [fr]:=⟨λl b=>by rw[List.mem_singleton.1 b];exact a.sorted _ (by simp),λl b=>by rw[List.mem_singleton.1 b];exact a.aS _ (by simp)⟩;have f:bA [fr,[]]:=by have:=bA.left a;rw[c] at this;exact this
 refine(FB _ _).ext (FB _ _) λd=>?_
 rw[Gf d e,Gf d f,M.EK];rfl
theorem rI(l:List Pr):(BG l).length<=l.length:=(G4).length_le
theorem Tn {c:Type}{b:Nat->List c}{t:Nat}: ∀ {t':Nat},t<=t'->(∀ a,t<=a->a<t'->b a= [])->(List.range t').flatMap b=(List.range t).flatMap b
 |0,d,_=>by
  simp_all
 |t'+1,d,e=>by
  by_cases f:t=t'+1
  ·rw[f]
  ·rw[Nd,G3,Tn (t':=t') (by omega) λa g h=>e a g (by omega)]
   grind
theorem Zn {c:Type}{a:Nat->List c}{s t:Nat}(e:s<t)(d: ∀b,s<b->a b= []):(List.range t).flatMap a=(List.range s).flatMap a++a s:=by rw[Tn (t:=s+1) (by omega) λb f _=>d b (by omega),Nd,G3];simp
theorem zC {d:Type}{b c:Nat->List d}{t:Nat}(e: ∀a,a<t->b a=c a):(List.range t).flatMap b=(List.range t).flatMap c:=by grind [List.flatMap,List.map_congr_left]
theorem rK {a:Bq}{s:Nat}{l:List Nt}{x:Nt}(c:a.N s=l++ [x])(d: ∀b,s<b->a.N b= [])(e:s<a.aW):Ap a=x:=by unfold Ap NT;rw[Zn e d,c,<-A3,SZ];rfl
theorem BK.gE {c:bQ}{b:Bq}(d:BK c b){a:Nat}(e:a=0\/b.aP<=a):b.L a= []:=by simpa using d.log.lq a e
theorem BK.gH {c:bQ}{b:Bq}(d:BK c b){a:Nat}(e:a=0\/b.aW<=a):b.N a= []:=by simpa using d.note.lq a e
theorem BK.jD {b:bQ}{c:Bq}(d:BK b c){a:Nat}(e:a<=99999999)(f:b (aC nl a)=none):c.L a= []:=by
 by_cases g:a=0
 ·exact d.gE (.inl g)
 ·simpa using d.log.ir a (by omega) e f
theorem BK.jI {b:bQ}{c:Bq}(d:BK b c){a:Nat}(e:a<=99999999)(f:b (aC nn a)=none):c.N a= []:=by
 by_cases g:a=0
 ·exact d.gH (.inl g)
 ·simpa using d.note.ir a (by omega) e f
theorem zD(t a b:List Pr):A8 t (a++b)=A8 (A8 t a) b:=Hi
theorem zE:BU ([]:List Pr):=λ_ a=>by cases a
theorem AKn:Sorted ([]:List Pr):=List.Pairwise.nil
theorem zF(a:Bq):Sorted (Er a)/\BU (Er a):=⟨M.RI AKn,M.XZ zE⟩
theorem G7.aS {l:List Pr}(t:G7 l):Sorted l/\BU l:=⟨t.inc,zo t.ok⟩
theorem BK.fV {f:bQ}{a:Bq}(e:BK f a):bA (Er a::(Ap a).names.map a.T):=by
 refine⟨λl b=>?_,λl b=>?_⟩<;>rcases List.mem_cons.1 b with rfl|b
 ·exact(zF a).1
 ·obtain⟨c,d,rfl⟩:=List.mem_map.1 b;exact(e.cN c d).2.aS.1
 ·exact(zF a).2
 ·obtain⟨c,d,rfl⟩:=List.mem_map.1 b;exact(e.cN c d).2.aS.2
def TF(a:Bq)(s:Nat)(b:List Pr):Bq:= {a with L:=KT a.L s (a.L s++ [b]),aP:=max a.aP (s+1)}
theorem zG {e:bQ}{a:Bq}(f:BK e a){s:Nat}{b:List Pr}(l:(Ap a).aV<=s)(m: ∀c,s<c->a.L c= []):IU (TF a s b)=IU a++ [b]:=by
 have d:s<max a.aP (s+1):=by omega
 have g:IU a=(List.range s).flatMap (λc=>if c<(Ap a).aV then [] else a.L c)++a.L s:=by
  have h:IU a=(List.range (max a.aP (s+1))).flatMap λc=>if c<(Ap a).aV then [] else a.L c:=by
   refine(Tn (by omega) λc i n=>?_).symm;split
   ·rfl
   ·exact f.gE (.inr i)
  rw[h,Zn (s:=s) d (λc j=>by
   simp_all),if_neg (by omega)]
 have k:IU (TF a s b)=(List.range s).flatMap (λc=>if c<(Ap a).aV then [] else KT a.L s (a.L s++ [b]) c)++KT a.L s (a.L s++ [b]) s:=by
  show(List.range (max a.aP (s+1))).flatMap (λc=>if c<(Ap a).aV then [] else KT a.L s (a.L s++ [b]) c)=_;rw[Zn (s:=s) d (λc j=>by
   grind [F6]),if_neg (by omega)]
 rw[g,k,EJ,A3];congr 1
 grind [zC,F6]
theorem APS {e:bQ}{a:Bq}(f:BK e a){s:Nat}{b:List Pr}(h:(Ap a).aV<=s)(i: ∀c,s<c->a.L c= [])(g:YW b):Er (TF a s b)=A8 (Er a) b/\cz (TF a s b)=cy (cz a) b:=by
 have d:Er (TF a s b)=A8 (Er a) b:=by grind [Er,zG,List.flatten_append,zD]
 refine⟨d,?_⟩;have:=zx f.fV (zo g.ok);unfold cz;rw[d];exact this
theorem AQo {g G:bQ}{d:Bq}(f:BK g d){s:Nat}{b:List Pr}(j:1<=s/\s+1<=99999999)(k:YW b)(l: ∀a,1<=a->a<=99999999->a≠s->Nj (g (aC nl a)) (G (aC nl a)))(m: ∀a,1<=a->a<=99999999->Nj (g (aC nn a)) (G (aC nn a)))
  (n: ∀a,Nj (g (aX a)) (G (aX a))) (o: ∀x,(∀ a,x≠aC nl a)->G x≠none->g x≠none) (p: ∃x,G (aC nl s)=some (x,bF)/\NQ (bl x) ((d.L s++ [b]).map (BV s))):BK G (TF d s b):=by
 have q: ∀a∈(Ap d).names,G (aX a)=some (AY (Jh (d.T a)),bF)/\G7 (d.T a):=λa r=>
  let ⟨t,i⟩:=f.cN a r
  ⟨VS (n a) i t,i⟩
 refine⟨?_,?_,q,λa c e=>?_,f.dO,λx u hd=>?_,by have:=f.cC;refine⟨?_,?_,this.2.2.1,this.2.2.2⟩<;>simp only[TF]<;>omega⟩
 ·have:=f.log.put (G:=G) (eX:=max d.aP (s+1)) (s:=s) (v:=(d.L s++ [b]).map (BV s)) ⟨j.1,by omega⟩ (by omega) (λa w y z=>l a w y z) (.inr p) (by omega);have h:(KT (λa=>(d.L a).map (BV a)) s ((d.L s++ [b]).map (BV s)))=λa=>((TF d s b).L a).map (BV a):=by
   funext a;show _=(KT d.L s (d.L s++ [b]) a).map (BV a)
   grind [EJ,F6]
  rw[h] at this;exact this
 ·exact f.note.aR f.cC.2.2.1 m
 ·by_cases h:a=s
  ·subst h;have e:c∈KT d.L a (d.L a++ [b]) a:=e;rw[EJ] at e;rcases List.mem_append.1 e with e|e
   ·exact f.gk a c e
   ·rw[List.mem_singleton.1 e];exact k
  ·have e:c∈KT d.L s (d.L s++ [b]) a:=e;rw[F6 h] at e;exact f.gk a c e
 ·exact f.dx x (o x (λa h=>by grind [UL]) u) hd
def addN(a:Bq)(s:Nat)(x:Nt)(T:Nat->List Pr):Bq:= {a with N:=KT a.N s [x],T:=T,aW:=max a.aW (s+1)}
theorem zH {a:Bq}{s:Nat}{x:Nt}{T:Nat->List Pr}(c: ∀b,s<b->a.N b= []):Ap (addN a s x T)=x:=by
 refine rK (s:=s) (l:= []) ?_ (λb d=>?_) ?_
 ·show KT a.N s [x] s=_;rw[EJ];rfl
 ·show KT a.N s [x] b= []
  grind [F6]
 ·show s<max a.aW (s+1);omega
theorem zI {g G:bQ}{c:Bq}(f:BK g c){s:Nat}{x:Nt}{T:Nat->List Pr}(i:1<=s/\s+1<=99999999)(j:gY x)(k: ∀a,s<a->c.N a= [])(l: ∀a,1<=a->a<=99999999->Nj (g (aC nl a)) (G (aC nl a)))(m: ∀a,1<=a->a<=99999999->a≠s->Nj (g (aC nn a)) (G (aC nn a)))
  (n: ∀a∈x.names,G (aX a)=some (AY (Jh (T a)),bF)/\G7 (T a)) (o: ∀x,(∀ a,x≠aC nn a)->(∀ a,x≠aX a)->G x≠none->g x≠none) (p: ∃b,G (aC nn s)=some (b,bF)/\NQ (bl b) [EG x]):BK G (addN c s x T):=by
 refine⟨f.log.aR f.cC.1 l,?_,λa h=>?_,f.gk,λa b d=>?_,λb d hd=>?_,by have:=f.cC;refine⟨this.1,this.2.1,?_,?_⟩<;>simp only[addN]<;>omega⟩
 ·have:=f.note.put (G:=G) (eX:=max c.aW (s+1)) (s:=s) (v:= [EG x]) ⟨i.1,by omega⟩ (by omega) (λa q r t=>m a q r t) (.inr p) (by omega);have e:(KT (λa=>(c.N a).map EG) s [EG x])=λa=>((addN c s x T).N a).map EG:=by
   funext a;show _=(KT c.N s [x] a).map EG
   grind [EJ,F6]
  rw[e] at this;exact this
 ·rw[zH k] at h;exact n a h
 ·have d:b∈KT c.N s [x] a:=d;by_cases e:a=s
  ·rw[e,EJ] at d;rw[List.mem_singleton.1 d];exact j
  ·rw[F6 e] at d;exact f.dO a b d
 ·by_cases e: ∃a,b=aX a
  ·exact e
  ·exact f.dx b (o b (λa e=>by grind [Xk]) (λa u=>e ⟨a,u⟩) d) hd
theorem BK.fW {e G:bQ}{c:Bq}(f:BK e c)(d: ∀x,(∀ a,a∉(Ap c).names->x≠aX a)->G x=e x):BK G c:=by
 refine f.same (λa _ _=> .inl (d _ λb _=>Lx a b)) (λa _ _=> .inl (d _ λb _=>Qf a b)) (λa g=> .inl (d _ λb h i=>h (by rw[<- JV i];exact g))) λx j=>?_
 grind
open Classical in
noncomputable def Nf (b:Bq) (G:bQ):Bq:= {b with L:=λa=>if a<=99999999/\G (aC nl a)=none then [] else b.L a}
open Classical in
noncomputable def oL (b:Bq) (G:bQ):Bq:= {b with N:=λa=>if a<=99999999/\G (aC nn a)=none then [] else b.N a}
theorem AJv {b:Bq}{f G:bQ}(g:BK f b)(h: ∀a,a<=99999999->G (aC nl a)=f (aC nl a)\/(G (aC nl a)=none/\a<(Ap b).aV)):IU (Nf b G)=IU b:=by
 unfold IU;refine zC λa i=>?_
 show(if a<(Ap b).aV then [] else if a<=99999999/\G (aC nl a)=none then [] else b.L a)=_;by_cases c:a<(Ap b).aV
 ·rw[if_pos c,if_pos c]
 ·rw[if_neg c,if_neg c];split
  ·rename_i d;rcases h a d.1 with e|e
   ·rw[e] at d;exact(g.jD d.1 d.2).symm
   ·exact absurd e.2 c
  ·rfl
theorem APW {f G:bQ}{d:Bq}(c:BK f d)(m: ∀a,a<=99999999->G (aC nl a)=f (aC nl a)\/(G (aC nl a)=none/\a<(Ap d).aV))(j: ∀x,(∀ a,a<=99999999->x≠aC nl a)->G x=f x):BK G (Nf d G):=by
 refine⟨c.log.drop (λa k=>?_) (λa g=>?_),c.note.aR c.cC.2.2.1 λa n k=> .inl (j _ λh _ i=>WH h a i.symm),λa g=>?_,λa b e=>?_,c.dO,λx o hd=>?_,c.cC⟩
 ·show _\/(G (aC nl a)=none/\((if a<=99999999/\G (aC nl a)=none then [] else d.L a).map (BV a))= []);rcases m a k with l|l
  ·by_cases p:G (aC nl a)=none
   ·simp_all
   ·left;refine⟨l,?_⟩;show((if a<=99999999/\G (aC nl a)=none then [] else d.L a).map (BV a))=_
    simp_all
  simp_all
 ·show((if a<=99999999/\G (aC nl a)=none then [] else d.L a).map (BV a))= [];split
  ·rfl
  ·rw[c.gE g];rfl
 ·rw[j _ λh _ i=>Lx h a i.symm];exact c.cN a g
 ·have e:b∈(if a<=99999999/\G (aC nl a)=none then [] else d.L a):=e;split at e
  ·cases e
  ·exact c.gk a b e
 ·exact c.dx x (by grind) hd
theorem zJ {a:Bq}{G:bQ}{s:Nat}{x:Nt}(d:a.N s= [x])(e: ∀b,s<b->a.N b= [])(c:s<a.aW)(f:G (aC nn s)≠none):Ap (oL a G)=x:=by
 refine rK (s:=s) (l:= []) ?_ (λb g=>?_) c
 ·show(if s<=99999999/\G (aC nn s)=none then [] else a.N s)=_
  simp_all
 ·show(if b<=99999999/\G (aC nn b)=none then [] else a.N b)= []
  simp_all
theorem APr {g G:bQ}{c:Bq}(d:BK g c){s:Nat}{x:Nt}(k:c.N s= [x])(f: ∀a,s<a->c.N a= [])(m:s<c.aW)(q:G (aC nn s)≠none)(r: ∀a,a<=99999999->G (aC nn a)=g (aC nn a)\/G (aC nn a)=none)(n: ∀x,(∀ a,a<=99999999->x≠aC nn a)->G x=g x):BK G (oL c G):=by
 have t:Ap (oL c G)=Ap c:=by rw[zJ k f m q,rK (l:= []) k f m]
 refine⟨d.log.aR d.cC.1 λa v o=> .inl (n _ λh _ i=>WH a h i),d.note.drop (λa o=>?_) (λa f=>?_),λa p=>?_,d.gk,λa b e=>?_,λx w hd=>?_,d.cC⟩
 ·rcases r a o with j|j
  ·by_cases u:G (aC nn a)=none
   ·right;refine⟨u,?_⟩;show((if a<=99999999/\G (aC nn a)=none then [] else c.N a).map EG)= []
    simp_all
   ·left;refine⟨j,?_⟩;show((if a<=99999999/\G (aC nn a)=none then [] else c.N a).map EG)=_
    simp_all
  ·right;refine⟨j,?_⟩;show((if a<=99999999/\G (aC nn a)=none then [] else c.N a).map EG)= []
   simp_all
 ·show((if a<=99999999/\G (aC nn a)=none then [] else c.N a).map EG)= [];split
  ·rfl
  ·rw[d.gH f];rfl
 ·rw[t] at p;rw[n _ λh _ i=>Qf h a i.symm];exact d.cN a p
 ·have e:b∈(if a<=99999999/\G (aC nn a)=none then [] else c.N a):=e;split at e
  ·cases e
  ·exact d.dO a b e
 ·exact d.dx x (by grind) hd
structure mE (D:Bq) (s:Nat) (x:Nt) (T:Nat->List Pr) (D':Bq):Prop where
 L:D'.L=D.L
 aP:D'.aP=D.aP
 aW:D'.aW<=max D.aW (s+1)
 last:(Ap D'=Ap D/\D'.T=D.T)\/(Ap D'=x/\D'.T=T)
theorem AOe {a:Bq}{s:Nat}{x:Nt}{T:Nat->List Pr}(c: ∀b,s<b->a.N b= []):mE a s x T (addN a s x T):=⟨rfl,rfl,A0 _,.inr ⟨zH c,rfl⟩⟩
theorem APh {a:Bq}{s:Nat}{x:Nt}{T:Nat->List Pr}:mE a s x T a:=⟨rfl,rfl,by omega,.inl ⟨rfl,rfl⟩⟩
theorem ANi {x:Nt}(a:gY x)(b:(EG x).length<=1048576):NQ (bl (AY (Cv (EG x)))) [EG x]:=by rw[EN];have:=Rh (rs:= [EG x]) (λc d=>by simp_all) (t:= []) UI;simpa using this
theorem ANV {b g:bQ}{c:Bq}{s:Nat}{x:Nt}{T:Nat->List Pr}(d:BK b c)(k:1<=s/\s+1<=99999999)(h:gY x)(l:(EG x).length<=1048576)(m: ∀a,s<=a->a<=99999999->b (aC nn a)=none)
  (q: ∀a∈x.names,b (aX a)=some (AY (Jh (T a)),bF)/\G7 (T a)) (f: ∀e,g e=if e=aC nn s then some (AY (Cv (EG x)),bF) else b e):BK g (addN c s x T)/\ ∀a,s<a->c.N a= []:=by
 have i: ∀a,s<a->c.N a= []:=λa n=>by
  by_cases j:a<=99999999
  ·exact d.jI j (m a (by omega) j)
  ·exact d.gH (.inr (by have:=d.cC;omega))
 refine⟨zI d k h i (λa _ _=> .inl ?_) (λa _ _ o=> .inl ?_) (λa n=>?_) (λe r _ t=>?_) ⟨_,by rw[f,if_pos rfl],ANi h l⟩,i⟩
 ·rw[f,if_neg (WH a s)]
 ·rw[f,if_neg λp=>o (Ij p)]
 ·grind
 simp_all
theorem AMe {g F1 G:bQ}{d:Bq}{s:Nat}{x:Nt}{T:Nat->List Pr}(b:BK g d)(B:1<=s/\s+1<=99999999)(N:gY x)(V:(EG x).length<=1048576)(C: ∀a,s<=a->a<=99999999->g (aC nn a)=none)
  (y: ∀a∈x.names,g (aX a)=some (AY (Jh (T a)),bF)/\G7 (T a)) (n: ∀e,F1 e=if e=aC nn s then some (bF,AY (Cv (EG x))) else g e) (c:Mc F1 G): ∃i,BK G i/\mE d s x T i:=by
 have D: ∀a,s<a->d.N a= []:=λa o=>by
  by_cases E:a<=99999999
  ·exact b.jI E (C a (by omega) E)
  ·exact b.gH (.inr (by have:=b.cC;omega))
 have W:d.N s= []:=b.jI (by omega) (C s (A0 _) (by omega));have F: ∀a,1<=a->a<=99999999->Nj (g (aC nl a)) (G (aC nl a)):=λa j k=>by
  have f:F1 (aC nl a)=g (aC nl a):=by rw[n,if_neg (WH a s)]
  have:=c.bY (x:=aC nl a) λp q=>(b.log.has a p j k (f▸q)).1
  rwa [f] at this
 have H: ∀a,1<=a->a<=99999999->a≠s->Nj (g (aC nn a)) (G (aC nn a)):=λa j k z=>by
  have f:F1 (aC nn a)=g (aC nn a):=by rw[n,if_neg λf=>z (Ij f)]
  have:=c.bY (x:=aC nn a) λp q=>(b.note.has a p j k (f▸q)).1
  rwa [f] at this
 have O: ∀a l,g (aX a)=some (AY (Jh l),bF)->G7 l->G (aX a)=some (AY (Jh l),bF):=λa l A t=>by
  have f:F1 (aX a)=g (aX a):=by grind
  have:=c.bY (x:=aX a) λp q=>by grind
  rw[f] at this;exact VS this t A
 have I: ∀e,(∀ a,e≠aC nn a)->G e≠none->g e≠none:=λe m P A=>P (by
  have:=c e;rw[n,if_neg (m s),A] at this;exact this)
 have J:=c (aC nn s);rw[n,if_pos rfl] at J;obtain⟨Q,u⟩:=J;have h:=yY (rs:= []) (r:=EG x) (λr X=>by simp_all) Q;have R:AY (aJ [])=bF:=rfl;rw[R] at h;have K:(G (aC nn s)=none\/ ∃e,G (aC nn s)=some (e,bF)/\NQ (bl e) [])-> ∃i,BK G i/\mE d s x T i:=λS=>by
  have U:NT {d with aW:=max d.aW (s+1)}=NT d:=Tn (by show d.aW<=max d.aW (s+1);omega) λa w _=>b.gH (.inr w)
  have L:Ap {d with aW:=max d.aW (s+1)}=Ap d:=by unfold Ap;rw[U]
  refine⟨{d with aW:=max d.aW (s+1)},⟨b.log.aR b.cC.1 F,?_,λa M=>?_,b.gk,b.dO,λe m hd=>?_,by have:=b.cC;refine⟨this.1,this.2.1,?_,?_⟩<;>simp only[]<;>omega⟩,⟨rfl,rfl,A0 _,.inl ⟨L,rfl⟩⟩⟩
  ·have:=b.note.put (G:=G) (eX:=max d.aW (s+1)) (s:=s) (v:= []) ⟨B.1,by omega⟩ (by omega) (λa j k z=>H a j k z) (S.imp (λb=>⟨b,rfl⟩) λb=>b) (by omega);have f:(KT (λa=>(d.N a).map EG) s [])=λa=>(d.N a).map EG:=by
    funext a
    grind [EJ,F6]
   rw[f] at this;exact this
  ·rw[L] at M;obtain⟨w,Y⟩:=b.cN a M
   grind
  ·exact b.dx e (I e (λa f=>by grind [Xk]) m) hd
 split at u
 ·exact K (.inl u)
 ·rcases h with h|h
  ·exact K (.inr ⟨_,u,h⟩)
  ·exact⟨_,zI b B N D F H (λa o=>⟨O a _ (y a o).1 (y a o).2,(y a o).2⟩) (λe w _ m=>I e w m) ⟨_,u,h⟩,AOe D⟩
theorem zK {e G:bQ}{b:Bq}{s:Nat}{x:Nt}{T:Nat->List Pr}(k:BK e (addN b s x T))(o: ∀a,s<a->b.N a= [])(l:e (aC nn s)≠none)(m: ∀d,G d=e d\/(G d=none/\ ∃a,a<s/\a<=99999999/\d=aC nn a)): ∃c,BK G c/\Ap c=x/\c.T=T/\c.L=b.L/\c.aP=b.aP/\c.aW=max b.aW (s+1):=by
 have f:(addN b s x T).N s= [x]:=by show KT b.N s [x] s=_;rw[EJ]
 have g: ∀a,s<a->(addN b s x T).N a= []:=λa p=>by show KT b.N s [x] a=_;grind [F6]
 have h:s<(addN b s x T).aW:=by show s<max b.aW (s+1);omega
 have i:G (aC nn s)≠none:=by
  rcases m (aC nn s) with j|⟨_,a,j,_,n⟩
  ·rw[j];exact l
  ·have:=Ij n;omega
 refine⟨oL (addN b s x T) G,APr k f g h i (λa q=>?_) λd r=>?_,zJ f g h i,rfl,rfl,rfl,rfl⟩
 ·grind
 grind
end Go.Lf.G
namespace Go.Lf
open Go
variable {α : Type} {E : cD α} {A : aq} {P : Q1}
def gX(a:Array J0):Nat->List J0->Array J0
 |_,[]=>a
 |o,v::b=>gX (a.setIfInBounds o v) (o+1) b
theorem IV: ∀(c:List J0) (a:Array J0) (b:Nat),(gX a b c).size=a.size
 | [],_,_=>rfl
 |v::d,a,b=>by unfold gX;rw[IV d];simp
theorem OM: ∀(c:List J0) (b:Array J0) (a:Nat),a+c.length<=b.size->(gX b a c).toList=b.toList.take a++c++b.toList.drop (a+c.length)
 | [],b,a,e=>by simp[gX]
 |v::d,b,a,e=>by
  have f:b.size=b.toList.length:=by simp
  simp only[A5] at e;unfold gX;rw[OM d _ (a+1) (by simp;omega)];rw[Ek,As,List.take_set_of_le (A0 _),HN (by omega),List.drop_set_of_lt (by omega)];simp only[CT,A3,List.singleton_append,A5,CN,CM];rw[show a+1+d.length=a+(d.length+1) by omega]
theorem cS {A:aq}: ∀(h:List J0) (c:Nat) {d:aa} {n b:Nat} {f:Array J0} {T:Q7},d[b]? =some (.cells f T (0,0))-> ∃e,(A.at d n).setCells b c h=A.at e n/\e[b]? =some (.cells (gX f c h) T (0,0))/\Mod (· =b) d e/\e.size=d.size
 | [],c,d,n,b,f,T,g=>⟨d,rfl,g,Mod.refl,rfl⟩
 |v::i,c,d,n,b,f,T,g=>by
  have j:(da d ⟨b,c,none⟩ v)[b]? =some (.cells (f.setIfInBounds c v) T (0,0)):=vt g;obtain⟨e,k,l,m,o⟩:=cS (A:=A) i (c+1) (n:=n) j;refine⟨e,?_,l,(Mod.set (S:=(· =b)) (a:=⟨b,c,none⟩) rfl).trans m,by rw[o,Zp]⟩;show((A.at d n).setCell ⟨b,c,none⟩ v).setCells b (c+1) i=_;rw[<- k];rfl
theorem APX {t h j T:Q7}{i:TypeInfo}{f:J0}(n:P.underlying t=some (.slice T))(o:P.underlying h=some (.int J9))(q:P.info? T=some i)(r:i.zero=some f)(D:i.size=1)(s:f.cells= #[f]){a:aa}{p:Q2}{cap b:Nat}{K:Sl->aa->Prop}
  (u:0<b) (F:cap<b) (w:b*i.bytes<=140737488355328) (k:b<=maxLen) (G:0<i.bytes)
  (x: ∀e c l,e[a.size]? =some (.cells l T (0,0))->l.size=c->b<=c->c<=maxLen->Ext a e->e.size=a.size+1->K ⟨some ⟨a.size,0,none⟩,b,c⟩ e):
  BJ A P (Builtin.append_ #[t,h] j #[.slice p 0 cap,.int J9 (b:Int)]) a λv e=> ∃g:Sl,v= .slice g.p g.len g.cap/\K g e:=by
 intro d;have y:(Builtin.firstCells i.size 0 (.slice p 0 cap)).run P (A.at a d).drew= .ok ([]:List J0).toArray (A.at a d).drew:=by cases p<;>simp[Builtin.firstCells,loadCells,loadCellsFrom]
 have z:Builtin.nextslicecap (0+b) cap*i.bytes<=281474976710656:=by rw[AI];exact growslice_fits (by omega) w
 have m:=Lib.run_append_grow_zeros (A.at a d) t h j T i f J9 J9 n o q r p 0 cap [] y b u (by omega) (by omega) (by simp only[maxLen] at k;omega) (by omega) z;simp only[AI] at m;have B:=grownCap_ge (A.at a d) b cap T;have C:=grownCap_le_maxLen (A.at a d) b cap T k;generalize grownCap (A.at a d) b cap T=c at*
 refine⟨_,_,d+1,m,⟨some ⟨a.size,0,none⟩,b,c⟩,rfl,x _ c _ (R0 ..) ?_ B C (Mod.push a _) (by show(a.push _).size=a.size+1;simp)⟩;simp[Builtin.zeroCells,s];omega
theorem nX {t k T:Q7}(q:P.underlying t=some (.slice T))(r:(P.info? T).map (·.size)=some 1){d:aa}{b e g l h m:Nat}{a:Q6}{i:Array J0}{vs:List J0}{K:Int->aa->Prop}
  (j:d[b]? =some (.cells i T (0,0))) (s:vs.length=min h g) (u: ∀f v,vs[f]? =some v->ag d (a.add f)=some v) (G:e+vs.length<=i.size) (w: ∀v∈vs,ME v=true)
  (x: ∀c,c[b]? =some (.cells (gX i e vs) T (0,0))->Mod (· =b) d c->c.size=d.size->K (vs.length:Int) c):
  BJ A P (Builtin.copy_ #[t,t] k #[.slice (some ⟨b,e,none⟩) g l,.slice (some a) h m]) d λv c=> ∃o:Int,v= .int J9 o/\K o c:=by
 intro n;have p:=run_copy_cells (P:=P) (A.at d n) t t k T b e g l a h m vs q r s u
  (λf y=>by
   show(ag d ⟨b,e+f,none⟩).isSome=true;rw[Hw j,Ft (by omega)];rfl)
  (λf y=>PL j) (λv z=>PQ (w v z))
 obtain⟨c,B,C,D,F⟩:=cS (A:=A) vs e (n:=n) j;rw[B] at p;exact⟨_,c,n,p,_,rfl,x c C D F⟩
def nY(A:aq)(P:Q1)(t b:Q7)(h fr:Q8)(s:Sl)(i:Int)(v:Sl)(e:aa)(d:A2K):Prop:=
 aH ((0:Int)<=i/\i<=((s.len:Nat):Int))<|
 af (((v.len:Nat):Int)==(0:Int)) (
  d (.slice s.p s.len s.cap) e) (
  af (i==((s.len:Nat):Int)) (
   BJ A P (Builtin.append_ #[t,t] t #[.slice s.p s.len s.cap,.slice v.p v.len v.cap]) e λv1 j=> ∃c:Sl,v1= .slice c.p c.len c.cap/\(
   d (.slice c.p c.len c.cap) j)) (
   af (decide ((J8 J9 (((s.len:Nat):Int)+((v.len:Nat):Int)))>((s.cap:Nat):Int))) (
    aH ((0:Int)<=i/\i<=((s.cap:Nat):Int))<|
    BJ A P (Builtin.append_ #[t,b] t #[.slice (BA s.p s.cap 0 1) (i.toNat-0) (s.cap-0),.int J9 (J8 J9 ((J8 J9 (((s.len:Nat):Int)+((v.len:Nat):Int)))-i))]) e λv2 k=> ∃a:Sl,v2= .slice a.p a.len a.cap/\(
    aH ((0:Int)<=i/\i<=((a.len:Nat):Int))<|
    BJ A P (Builtin.copy_ #[t,t] b #[.slice (BA a.p a.cap i.toNat 1) (a.len-i.toNat) (a.cap-i.toNat),.slice v.p v.len v.cap]) k λl m=> ∃n:Int,l= .int J9 n/\(
    aH ((0:Int)<=(J8 J9 (i+((v.len:Nat):Int)))/\(J8 J9 (i+((v.len:Nat):Int)))<=((a.len:Nat):Int))<|
    aH ((0:Int)<=i/\i<=((s.len:Nat):Int))<|
    BJ A P (Builtin.copy_ #[t,t] b #[.slice (BA a.p a.cap ((J8 J9 (i+((v.len:Nat):Int))).toNat) 1) (a.len-((J8 J9 (i+((v.len:Nat):Int))).toNat)) (a.cap-((J8 J9 (i+((v.len:Nat):Int))).toNat)),.slice (BA s.p s.cap i.toNat 1) (s.len-i.toNat) (s.cap-i.toNat)]) m λo p=> ∃q:Int,o= .int J9 q/\(
    d (.slice a.p a.len a.cap) p)))) (
    aH ((0:Int)<=(J8 J9 (((s.len:Nat):Int)+((v.len:Nat):Int)))/\(J8 J9 (((s.len:Nat):Int)+((v.len:Nat):Int)))<=((s.cap:Nat):Int))<|
    aH ((0:Int)<=(J8 J9 (i+((v.len:Nat):Int)))/\(J8 J9 (i+((v.len:Nat):Int)))<=(((((J8 J9 (((s.len:Nat):Int)+((v.len:Nat):Int))).toNat)-0):Nat):Int))<|
    nz A P h #[.slice v.p v.len v.cap,.slice (BA (BA s.p s.cap 0 1) (s.cap-0) ((J8 J9 (i+((v.len:Nat):Int))).toNat) 1) ((((J8 J9 (((s.len:Nat):Int)+((v.len:Nat):Int))).toNat)-0)-((J8 J9 (i+((v.len:Nat):Int))).toNat)) ((s.cap-0)-((J8 J9 (i+((v.len:Nat):Int))).toNat))] e λr f=> ∃g:Bool,r= .bool g/\(
    af (!g) (
     aH ((0:Int)<=(J8 J9 (i+((v.len:Nat):Int)))/\(J8 J9 (i+((v.len:Nat):Int)))<=(((((J8 J9 (((s.len:Nat):Int)+((v.len:Nat):Int))).toNat)-0):Nat):Int))<|
     aH ((0:Int)<=i/\i<=(((((J8 J9 (((s.len:Nat):Int)+((v.len:Nat):Int))).toNat)-0):Nat):Int))<|
     BJ A P (Builtin.copy_ #[t,t] b #[.slice (BA (BA s.p s.cap 0 1) (s.cap-0) ((J8 J9 (i+((v.len:Nat):Int))).toNat) 1) ((((J8 J9 (((s.len:Nat):Int)+((v.len:Nat):Int))).toNat)-0)-((J8 J9 (i+((v.len:Nat):Int))).toNat)) ((s.cap-0)-((J8 J9 (i+((v.len:Nat):Int))).toNat)),.slice (BA (BA s.p s.cap 0 1) (s.cap-0) i.toNat 1) ((((J8 J9 (((s.len:Nat):Int)+((v.len:Nat):Int))).toNat)-0)-i.toNat) ((s.cap-0)-i.toNat)]) f λu w=> ∃x:Int,u= .int J9 x/\(
     aH ((0:Int)<=i/\i<=(((((J8 J9 (((s.len:Nat):Int)+((v.len:Nat):Int))).toNat)-0):Nat):Int))<|
     BJ A P (Builtin.copy_ #[t,t] b #[.slice (BA (BA s.p s.cap 0 1) (s.cap-0) i.toNat 1) ((((J8 J9 (((s.len:Nat):Int)+((v.len:Nat):Int))).toNat)-0)-i.toNat) ((s.cap-0)-i.toNat),.slice v.p v.len v.cap]) w λy z=> ∃B:Int,y= .int J9 B/\(
     d (.slice (BA s.p s.cap 0 1) (((J8 J9 (((s.len:Nat):Int)+((v.len:Nat):Int))).toNat)-0) (s.cap-0)) z))) (
     aH ((0:Int)<=((s.len:Nat):Int)/\((s.len:Nat):Int)<=(((((J8 J9 (((s.len:Nat):Int)+((v.len:Nat):Int))).toNat)-0):Nat):Int))<|
     BJ A P (Builtin.copy_ #[t,t] b #[.slice (BA (BA s.p s.cap 0 1) (s.cap-0) (((s.len:Nat):Int).toNat) 1) ((((J8 J9 (((s.len:Nat):Int)+((v.len:Nat):Int))).toNat)-0)-(((s.len:Nat):Int).toNat)) ((s.cap-0)-(((s.len:Nat):Int).toNat)),.slice v.p v.len v.cap]) f λC D=> ∃F:Int,C= .int J9 F/\(
     aH ((0:Int)<=i/\i<=(((((J8 J9 (((s.len:Nat):Int)+((v.len:Nat):Int))).toNat)-0):Nat):Int))<|
     AA A P fr #[.slice (BA (BA s.p s.cap 0 1) (s.cap-0) i.toNat 1) ((((J8 J9 (((s.len:Nat):Int)+((v.len:Nat):Int))).toNat)-0)-i.toNat) ((s.cap-0)-i.toNat),.int J9 ((v.len:Nat):Int)] D λG H=>G= .tuple #[]/\(
     d (.slice (BA s.p s.cap 0 1) (((J8 J9 (((s.len:Nat):Int)+((v.len:Nat):Int))).toNat)-0) (s.cap-0)) H)))))))
theorem Wo {e:aa}{b:Nat}{f:Array J0}{T:Q7}{fr:Nat×Nat}(h:e[b]? =some (.cells f T fr)){a:List J0}{g:Nat}(i:(f.toList.drop g).take a.length=a): ∀c v,a[c]? =some v->ag e ((⟨b,g,none⟩:Q6).add c)=some v:=λc v d=>by
 rw[Bf,Hw h];have j:=(List.getElem?_eq_some_iff.1 d).1;rw[<- i,Fc,if_pos j,C5] at d;simpa using d
theorem wP {t ae T ah:Q7}{ai fr:Q8}{G:J0}{H:Nat}(aj:QF P t T 1 H=true)(k:E.w=1)(aD:P.underlying ae=some (.int J9))(I:(P.info? T).bind (·.zero)=some G)(aE:G.cells= #[G])(hB:0<H)
  (aF: ∀args J,(callFunc ai args).run P J=((Extern.SlicesOverlaps.overlaps #[t,t] #[ah] args).run P J).andThen λv aG=> .ok (.value v) aG)
  {a:aa} {s:Sl} {l:List α} {x:α} {e:J0} {f:Nat} (S:Own E T a s l) (K:E.enc x= [e]) (o:a[f]? =some (.cells #[e] T (0,0))) (aH:s.ah≠some f) (ak:l.length+1<=maxLen) (al:(l.length+1)*H<=140737488355328) {am:A2K}
  (U: ∀m r,Own E T r m (x::l)->Mod (λb=>s.ah=some b) a r->(∀ b,m.ah=some b->s.ah=some b\/a.size<=b)->am (.slice m.p m.len m.cap) r):
  nY A P t ae ai fr s (0:Int) ⟨some ⟨f,0,none⟩,1,1⟩ a am:=by
 unfold nY;have V:=S.len;have bh:maxLen<=9223372036854775807:=by simp[maxLen]
 obtain⟨q,i,z,w,an,W,aI,bi⟩:=qv aj;have aJ:z=G:=by rw[w] at I;simp only[PF] at I;rw[an] at I;exact BY I
 subst aJ;have ao:ME e=true:=E.one x e (by rw[K];simp);have bj:=Ai o;refine⟨⟨GP _,by omega⟩,af.no rfl ?_⟩;refine af.intro (λy=>?_) (λy=>?_)
 ·have y:l= []:=by
   have:(0:Int)=((s.len:Nat):Int):=by simpa using y
   exact Dd (by omega)
  subst y;have aK:View E a ⟨some ⟨f,0,none⟩,1,1⟩ [x]:=⟨rfl,A0 _,λj ap n=>⟨_,rfl,λaL u L=>by
   have aM:j=0:=by have:=(List.getElem?_eq_some_iff.1 n).1;simpa using this
   subst aM;simp only[Hv,BE] at n;subst n;rw[K] at L;have aN:aL=0:=by have:=(List.getElem?_eq_some_iff.1 L).1;simpa using this
   subst aN;simp only[Hv,BE] at L;subst L;rw[HT,Bf,Bf];exact AO o rfl⟩⟩
  have aO:QF P t T E.w H=true:=by rw[k];exact aj
  exact Fz (s:=s) (src:=⟨some ⟨f,0,none⟩,1,1⟩) aO S aK (by simpa using al) (by simpa using ak) λm r aP aQ aR _=>U m r aP aQ aR
 ·have aS:0<l.length:=by
   have: ¬(0:Int)=((s.len:Nat):Int):=by simpa using y
   omega
  rcases S.row with⟨rfl,rfl⟩|⟨g,M,B,C,bk,aT,N,X⟩
  ·simp at aS
  ·rw[k,Bk] at N X;have d:(l.flatMap E.enc).length=l.length:=by rw[Jo,k,Bk]
   have aq: ∀v∈l.flatMap E.enc,ME v=true:=λv D=>by
    obtain⟨ap,_,aV⟩:=List.mem_flatMap.1 D;exact E.one ap v aV
   have ar:g≠f:=λh=>aH (by rw[Sl.ah,B,h];rfl)
   have bm:=Ai C;have aW:J8 J9 (((s.len:Nat):Int)+(((1:Nat)):Int))=((l.length+1:Nat):Int):=by rw[V];exact Ae (by omega)
   have w2:J8 J9 ((0:Int)+(((1:Nat)):Int))=((1:Nat):Int):=by decide
   have w3:J8 J9 (((l.length+1:Nat):Int)-(0:Int))=((l.length+1:Nat):Int):=by rw[Int.sub_zero];exact GY (by omega)
   have O:(P.info? T).map (·.size)=some 1:=by rw[w];simp[W]
   dsimp only;rw[aW,w2,w3];have aX:((1:Nat):Int).toNat=1:=rfl;have aY:(0:Int).toNat=0:=rfl;have aZ:((l.length+1:Nat):Int).toNat=l.length+1:=by omega
   rw[aX,aY,aZ];have au: ∀j v,[e][j]? =some v->ag a ((⟨f,0,none⟩:Q6).add j)=some v:=Wo o (by simp);refine af.intro (λY=>?_) (λY=>?_)
   ·have Z:s.cap<l.length+1:=by
     have:((s.cap:Nat):Int)<((l.length+1:Nat):Int):=by simpa using Y
     omega
    refine⟨⟨GP _,by omega⟩,?_⟩;refine APX (p:=BA s.p s.cap 0 1) (cap:=s.cap) q aD w an W aE (by omega) Z (by rw[aI];exact al) ak (by omega) λbn c av a0 aw a1 a2 ab bo=>⟨⟨GP _,by dsimp only;omega⟩,?_⟩
    have a3:BA (some (⟨a.size,0,none⟩:Q6)) c 0 1=some ⟨a.size,0,none⟩:=by unfold BA;rw[if_neg (by omega)];rfl
    have a4:BA (some (⟨a.size,0,none⟩:Q6)) c 1 1=some ⟨a.size,1,none⟩:=by unfold BA;rw[if_neg (by omega)];rfl
    dsimp only;rw[a3];refine nX (vs:= [e]) q O a0 (by simp) (λj v n=>ab.ag (au j v n)) (by simp;omega) (λv D=>by rw[List.mem_singleton.1 D];exact ao) λa5 a6 ax bp=>⟨⟨by omega,by omega⟩,⟨GP _,by omega⟩,?_⟩
    rw[a4,B];have Q:BA (some (⟨g,0,none⟩:Q6)) s.cap 0 1=some ⟨g,0,none⟩:=by unfold BA;rw[if_neg (by omega)];rfl
    rw[Q];have a7:a5[g]? =some (.cells M T (0,0)):=ax.ah (ab.ah C (λa=>a)) (by omega);refine nX (vs:=l.flatMap E.enc) q O a6 (by rw[d];omega) (Wo a7 (by rw[d,IT,<-V];exact X)) (by rw[IV,d];omega) aq λay ac R a8=>?_
    refine U ⟨some ⟨a.size,0,none⟩,l.length+1,c⟩ ay ⟨rfl,.inr ⟨a.size,_,rfl,ac,a1,a2,by rw[IV,IV,k,Bk];exact aw,?_⟩⟩ ?_ (λb F=> .inr (by simp[Sl.ah] at F;omega))
    ·rw[OM _ _ _ (by rw[IV,d];omega),OM _ _ _ (by simp;omega)];rw[k,Bk,AH,K];have a9:av.toList.length=c:=by simp[aw]
     simp only[I3,CM,Cd];have ba:(([e]++av.toList.drop (0+1)).take 1)= [e]:=by simp
     rw[ba,NO (by simp[d])];rw[AF (by simp[d])]
    ·refine((Ext.mod ab).trans ((ax.trans R).aj (S':=λb=>s.ah=some b\/b=a.size) λc az h=> .inr h)) |> λaA=>?_
     exact⟨aA.size,λb F bb=>aA.get b F (λbc=>bc.elim bb (by omega))⟩
   ·have Z:l.length+1<=s.cap:=by
     have: ¬((s.cap:Nat):Int)<((l.length+1:Nat):Int):=by simpa using Y
     omega
    have Q: ∀c,0<c->BA (some (⟨g,0,none⟩:Q6)) c 0 1=some ⟨g,0,none⟩:=λc az=>by
     unfold BA;rw[if_neg (by omega)];rfl
    have bd: ∀c,1<c->BA (some (⟨g,0,none⟩:Q6)) c 1 1=some ⟨g,1,none⟩:=λc az=>by
     unfold BA;rw[if_neg (by omega)];rfl
    refine⟨⟨by omega,by omega⟩,⟨by omega,by omega⟩,?_⟩;rw[B,Q _ (by omega),HA,HA,HA,Q _ (by omega),bd _ (by omega)];intro aC;refine⟨.bool false,a,aC,?_,false,rfl,af.yes rfl ⟨⟨by omega,by omega⟩,⟨GP _,by omega⟩,?_⟩⟩
    ·rw[aF,Lib.run_overlaps_apart (A.at a aC) t ah T q 1 (λJ=>by rw[Go.run_sizeOf J w];simp[Program.cellsOf,w,W]) ⟨f,0,none⟩ ⟨g,1,none⟩ 1 1 _ _ (λh=>ar h.symm) T T 1 s.cap
      (by show(match a[f]? with|some (.cells c ad _)=>some (ad,c.size)|_=>none)=_;rw[o];rfl) (by show(match a[g]? with|some (.cells c ad _)=>some (ad,c.size)|_=>none)=_;rw[C];simp[N]) (by omega) (PL o) (PL o)]
     rfl
    ·refine nX (vs:=l.flatMap E.enc) q O C (by rw[d];omega) (Wo C (by rw[d,IT,<-V];exact X)) (by rw[d];omega) aq λay ac R a8=>⟨⟨GP _,by omega⟩,?_⟩
     refine nX (vs:= [e]) q O ac (by simp) (λj v n=>R.ag (au j v n) (by rw[aU];exact λh=>ar h.symm)) (by rw[IV];simp;omega) (λv D=>by rw[List.mem_singleton.1 D];exact ao) λbe bf bg bq=>?_
     refine U ⟨some ⟨g,0,none⟩,l.length+1,s.cap⟩ be ⟨rfl,.inr ⟨g,_,rfl,bf,Z,aT,by rw[IV,IV,k,Bk];exact N,?_⟩⟩ ((R.trans bg).aj λb _ h=>by rw[Sl.ah,B,h];rfl) (λb F=> .inl (by rw[Sl.ah,B];exact F));rw[OM _ _ _ (by rw[IV];simp;omega),OM _ _ _ (by rw[d];omega)];rw[k,Bk,AH,K];have a9:M.toList.length=s.cap:=by simp[N]
     have br:(M.toList.take 1).length=1:=by simp;omega
     simp only[I3,CM,Cd,AI];rw[A3 (M.toList.take 1),A0r (by omega),HD (by omega),CM];rw[<- A3,NO (by simp[d])];rw[AF (by simp[d])]
end Go.Lf
namespace Go.Lf.G
open Go
def fL:cD Nat where
 enc t:= [Am t]
 w:=1
 len _:=rfl
 pos:=by omega
 one x v a:=by simp at a;subst a;rfl
theorem Cells.pt {b:aa}{a:Q6}{x:Nat}(c:Cells b a (fL.enc x)):ag b a=some (Am x):=by have d:=c 0 _ rfl;rwa [add_zero] at d
theorem vR:QF P Au BL fL.w 8=true:=by kernel_rfl
theorem ovT(args:Array J0)(a:World):(callFunc EO args).run P a=((Extern.SlicesOverlaps.overlaps #[Au,Au] #[qz] args).run P a).andThen λv b=> .ok (.value v) b:=
 run_callFunc_extern (fn:=Proofs.Tryz.f231) Proofs.Tryz.func231 (by kernel_rfl) (by kernel_rfl) (by kernel_rfl) (by kernel_rfl) args a
theorem ovI(args:Array J0)(a:World):(callFunc Gh args).run P a=((Extern.SlicesOverlaps.overlaps #[DJ,DJ] #[qz] args).run P a).andThen λv b=> .ok (.value v) b:=
 run_callFunc_extern (fn:=Proofs.Tryz.f233) Proofs.Tryz.func233 (by kernel_rfl) (by kernel_rfl) (by kernel_rfl) (by kernel_rfl) args a
theorem ATk:(P.info? BL).bind (·.zero)=some (J5 none):=by kernel_rfl
theorem ATy:(P.info? Bp).bind (·.zero)=some (J6 J9 0):=by kernel_rfl
theorem vS:P.underlying Bp=some (.int J9):=by kernel_rfl
theorem ASH(a:aq)(s v:Sl)(i:Int)(b:aa)(c:A2K):Dx a s i v b c=nY a P Au Bp EO FZ s i v b c:=rfl
theorem AS0(a:aq)(s v:Sl)(i:Int)(b:aa)(c:A2K):IJ a s i v b c=nY a P DJ Bp Gh Io s i v b c:=rfl
theorem qD {g:aq}{a:aa}{s:Sl}{l:List Nat}{x d:Nat}{f:A2K}(h:Own fL BL a s l)(i:a[d]? =some (J2 #[Am x] BL (0,0)))(j:s.ah≠some d)(m:l.length<=1000000)
  (k: ∀c e,Own fL BL e c (x::l)->Mod (λb=>s.ah=some b) a e->(∀ b,c.ah=some b->s.ah=some b\/a.size<=b)->f (J4 c.p c.len c.cap) e):
  AA g P BO #[J4 s.p s.len s.cap,J6 J9 0,J4 (some (⟨d,0,none⟩:Q6)) 1 1] a f:=by
 refine GX (v:=⟨some ⟨d,0,none⟩,1,1⟩) ?_;rw[ASH];exact wP vR rfl vS ATk rfl (by decide) ovT h rfl i j (by simp[maxLen];omega) (by omega) k
theorem qE {g:aq}{a:aa}{s:Sl}{l:List Int}{x:Int}{d:Nat}{f:A2K}(h:Own IM Bp a s l)(i:a[d]? =some (J2 #[J6 J9 x] Bp (0,0)))(j:s.ah≠some d)(m:l.length<=1000000)
  (k: ∀c e,Own IM Bp e c (x::l)->Mod (λb=>s.ah=some b) a e->(∀ b,c.ah=some b->s.ah=some b\/a.size<=b)->f (J4 c.p c.len c.cap) e):
  AA g P DK #[J4 s.p s.len s.cap,J6 J9 0,J4 (some (⟨d,0,none⟩:Q6)) 1 1] a f:=by
 refine NH (v:=⟨some ⟨d,0,none⟩,1,1⟩) ?_;rw[AS0];exact wP ry rfl vS ATy rfl (by decide) ovI h rfl i j (by simp[maxLen];omega) (by omega) k
structure Db where
 fr:List Pr
 ts:List (Nat×List Pr)
 next:Nat
 aV:Nat
 aw:Nat
 aK:Nat
 bq:Bool
structure Hp where
 d:Nat
 b:Nat
 lg:Nat
 nt:Nat
 ft:Nat
 Sb:Nat->Prop
 ns:List M.DX
 tp:Sl
 np:Sl
 ps:List Nat
abbrev eA(q:Hp)(st:Db)(down:Bool):Array J0:= #[Am q.b,Am q.lg,Am q.nt,Am q.ft,J4 q.tp.p q.tp.len q.tp.cap,J4 q.np.p q.np.len q.np.cap,J6 J9 (st.next:Int),J6 J9 (st.aV:Int),J3 down]
abbrev eB(st:Db):List Int:=st.ts.map λp=>(p.1:Int)
def mF(h:aa)(k:Nat->Nat)(t:Nat)(l:List Pr):Prop:= ∃b a,bR h t l (NA l) b a/\a<=h.size/\(∀ c,b<=c->c<a->k c=8)/\G7 l
structure bM (g h:aa) (q:Hp) (k:Nat->Nat) (st:Db) (m:Bx):Prop where
 cell:h[q.d]? =some (J2 (eA q st false) FL (0,0))
 box:Cw h q.b q.Sb m
 log:ES h q.lg q.b nl st.aw st.bq
 dO:ES h q.nt q.b nn st.aK false
 fresh:M.cT h q.ft q.ns st.fr
 cj:Own fL BL h q.tp q.ps
 cZ:q.ps.length=st.ts.length
 cN: ∀(i:Nat) (t:Nat) (p:Nat×List Pr),q.ps[i]? =some t->st.ts[i]? =some p->mF h k t p.2
 names:Own IM Bp h q.np (eB st)
 kd:k q.d=1
 kb: ∀c,q.Sb c->k c=2
 kl:k q.lg=3
 kn:k q.nt=4
 kf: ∀c,M.cQ q.ft q.ns c->k c=5
 kt: ∀c,q.tp.ah=some c->k c=6
 kx: ∀c,q.np.ah=some c->k c=7
 own: ∀c,k c≠0->g.size<=c/\c<h.size
 ext:Ext g h
theorem TR {b:Type}{d:cD b}{T:Q7}{h:aa}{s:Sl}{l:List b}(e:Own d T h s l){c:Nat}(a:s.ah=some c):c<h.size:=by
 rcases e.row with⟨rfl,_⟩|⟨g,j,f,i,_⟩
 ·simp[Sl.ah] at a
 ·rw[Sl.ah,f] at a;have:g=c:=by simpa using a
  subst this;exact Ai i
theorem mF.mod {h h':aa}{k b:Nat->Nat}{t:Nat}{l:List Pr}{d:Nat->Prop}(T:mF h k t l)(x:Mod d h h')(f: ∀c,k c=8-> ¬d c)(i: ∀c,c<h.size->b c=k c):mF h' b t l:=by obtain⟨j,n,o,p,e,r⟩:=T;exact⟨j,n,o.mod x λc a c2=>f c (e c a c2),AE p x.size,λc a c2=>by rw[i c (by omega)];exact e c a c2,r⟩
structure DbR (C:Nat->Prop) (g h h':aa) (q:Hp) (k:Nat->Nat) (st:Db) (m:Bx):Prop where
 ext:Ext g h'
 size:h.size<=h'.size
 cell: ¬C 1->h'[q.d]? =some (J2 (eA q st false) FL (0,0))
 box: ¬C 2->Cw h' q.b q.Sb m
 log: ¬C 3->ES h' q.lg q.b nl st.aw st.bq
 dO: ¬C 4->ES h' q.nt q.b nn st.aK false
 fresh: ¬C 5->M.cT h' q.ft q.ns st.fr
 cj: ¬C 6->Own fL BL h' q.tp q.ps
 names: ¬C 7->Own IM Bp h' q.np (eB st)
 cN: ¬C 8-> ∀k',(∀ c,c<h.size->k' c=k c)-> ∀(i:Nat) (t:Nat) (p:Nat×List Pr),q.ps[i]? =some t->st.ts[i]? =some p->mF h' k' t p.2
theorem bM.rest {C:Nat->Prop}{g h h':aa}{q:Hp}{k:Nat->Nat}{st:Db}{m:Bx}(a:bM g h q k st m)(x:Mod (λc=>C (k c)) h h')(f: ¬C 0):DbR C g h h' q k st m:=by
 refine⟨⟨AE a.ext.size x.size,λc d _=>?_⟩,x.size,λb=>x.ah a.cell (by rw[a.kd];exact b),λb=>a.box.mod x λc d=>by rw[a.kb c d];exact b,λb=>a.log.mod x (by rw[a.kl];exact b),λb=>a.dO.mod x (by rw[a.kn];exact b),
  λb=>a.fresh.mod x λc d=>by rw[a.kf c d];exact b,λb=>a.cj.mod x λc d=>by rw[a.kt c d];exact b,λb=>a.names.mod x λc d=>by rw[a.kx c d];exact b,
  λb n e i t p j l=>(a.cN i t p j l).mod x (λc d=>by rw[d];exact b) e⟩
 have e:k c=0:=Decidable.byContradiction λh=>by have:=(a.own c h).1;omega
 exact(x.get c (Fl d a.ext.size) (by rw[e];exact f)).trans (a.ext.get c d (λh=>h))
section
variable {g h h' : aa} {q : Hp} {k : Nat -> Nat} {st : Db} {m : Bx}
theorem bM.hU(a:bM g h q k st m):q.d<h.size:=Ai a.cell
theorem bM.oY(a:bM g h q k st m):q.lg<h.size:=Ai a.log
theorem bM.p5(a:bM g h q k st m):q.nt<h.size:=Ai a.dO
theorem bM.lu(a:bM g h q k st m): ¬q.Sb q.lg:=λb=>by have:=a.kb _ b;rw[a.kl] at this;cases this
theorem bM.sx(a:bM g h q k st m): ¬q.Sb q.nt:=λb=>by have:=a.kb _ b;rw[a.kn] at this;cases this
theorem bM.mQ(a:bM g h q k st m): ¬q.Sb q.d:=λb=>by have:=a.kb _ b;rw[a.kd] at this;cases this
theorem bM.dl(a:bM g h q k st m):q.d≠q.lg:=λb=>by have:=a.kd;rw[b,a.kl] at this;cases this
theorem bM.dn(a:bM g h q k st m):q.d≠q.nt:=λb=>by have:=a.kd;rw[b,a.kn] at this;cases this
theorem bM.on(a:bM g h q k st m)(x:Ext h h'):bM g h' q k st m:=by
 have b:=a.rest (C:=λ_=>False) x (λh=>h);exact⟨b.cell λh=>h,b.box λh=>h,b.log λh=>h,b.dO λh=>h,b.fresh λh=>h,b.cj λh=>h,a.cZ,b.cN (λh=>h) k (λ_ _=>rfl),b.names λh=>h,a.kd,a.kb,a.kl,a.kn,a.kf,a.kt,a.kx,
  λc d=>⟨(a.own c d).1,Fl (a.own c d).2 x.size⟩,b.ext⟩
theorem bM.beside {e:Nat->Prop}(a:bM g h q k st m)(x:Mod e h h')(f: ∀c,e c->k c=0/\g.size<=c):bM g h' q k st m:=by
 have j:Ext g h':=⟨AE a.ext.size x.size,λc b _=>(x.get c (Fl b a.ext.size) λh=>by have:=(f c h).2;omega).trans (a.ext.get c b (λh=>h))⟩;have d: ∀ {c},k c≠0-> ¬e c:=λb l=>b (f _ l).1
 exact⟨x.ah a.cell (d (by rw[a.kd];decide)),a.box.mod x λc b=>d (by rw[a.kb c b];decide),a.log.mod x (d (by rw[a.kl];decide)),a.dO.mod x (d (by rw[a.kn];decide)),a.fresh.mod x λc b=>d (by rw[a.kf c b];decide),
  a.cj.mod x λc b=>d (by rw[a.kt c b];decide),a.cZ,λi t p n o=>(a.cN i t p n o).mod x (λc b=>d (by rw[b];decide)) (λ_ _=>rfl),a.names.mod x λc b=>d (by rw[a.kx c b];decide),a.kd,a.kb,a.kl,a.kn,a.kf,a.kt,a.kx,
  λc b=>⟨(a.own c b).1,Fl (a.own c b).2 x.size⟩,j⟩
open Classical in
noncomputable def Li (k:Nat->Nat) (a:Nat) (b:Nat->Prop) (d:Nat):Nat->Nat:=λc=>if c<a then k c else if b c then d else 0
theorem GL {a b c:Nat}{d:Nat->Prop}(e:c<a):Li k a d b c=k c:=by unfold Li;rw[if_pos e]
theorem rL {a b c:Nat}{d:Nat->Prop}(f:a<=c)(e:d c):Li k a d b c=b:=by unfold Li;rw[if_neg (by omega),if_pos e]
theorem Va {a b c:Nat}{S:Nat->Prop}(e:a<=c)(d: ¬S c):Li k a S b c=0:=by unfold Li;rw[if_neg (by omega),if_neg d]
theorem bM.boxed(b:bM g h q k st m){S':Nat->Prop}{p:Bx}{j:Nat}{bJ:Db}(r:Cw h' q.b S' p)(x:Mod (λc=>q.Sb c\/(j=3/\c=q.lg)\/(j=4/\c=q.nt)) h h')(s: ∀c,S' c->q.Sb c\/h.size<=c)
  (u:bJ.fr=st.fr) (i:bJ.ts=st.ts) (v:bJ.next=st.next) (w:bJ.aV=st.aV)
  (l:(j≠3/\bJ.aw=st.aw/\bJ.bq=st.bq)\/ES h' q.lg q.b nl bJ.aw bJ.bq) (y:(j≠4/\bJ.aK=st.aK)\/ES h' q.nt q.b nn bJ.aK false):
  bM g h' {q with Sb:=S'} (Li k h.size S' 2) bJ p:=by
 have e:=b.rest (C:=λc=>c=2\/(j=3/\c=3)\/(j=4/\c=4)) (h':=h') (x.aj λc _ a=>by
  rcases a with a|⟨d,rfl⟩|⟨d,rfl⟩
  ·exact .inl (b.kb c a)
  ·exact .inr (.inl ⟨d,b.kl⟩)
  ·exact .inr (.inr ⟨d,b.kn⟩)) (by rintro(h|⟨_,h⟩|⟨_,h⟩)<;>cases h)
 have f: ∀ {c},c<h.size->Li k h.size S' 2 c=k c:=λa=>GL a
 have z:eA {q with Sb:=S'} bJ false=eA q st false:=by simp only[eA,v,w]
 refine⟨by rw[z];exact e.cell (by omega),r,?_,?_,by rw[u];exact e.fresh (by omega),e.cj (by omega),by rw[i];exact b.cZ,by rw[i];exact e.cN (by omega) _ (λc a=>f a),by rw[eB,i];exact e.names (by omega),
  by rw[f b.hU];exact b.kd,λc a=>?_,by rw[f b.oY];exact b.kl,by rw[f b.p5];exact b.kn,λc a=>by rw[f (b.fresh.lt a)];exact b.kf c a,λc a=>by rw[f (TR b.cj a)];exact b.kt c a,
  λc a=>by rw[f (TR b.names a)];exact b.kx c a,λc a=>?_,e.ext⟩
 ·rcases l with⟨d,n,A⟩|d
  ·rw[n,A];exact e.log (by omega)
  ·exact d
 ·rcases y with⟨d,n⟩|d
  ·rw[n];exact e.dO (by omega)
  ·exact d
 ·by_cases o:c<h.size
  ·rw[f o];rcases s c a with d|d
   ·exact b.kb c d
   ·omega
  ·exact rL (by omega) a
 ·by_cases o:c<h.size
  ·rw[f o] at a;exact⟨(b.own c a).1,by have:=e.size;omega⟩
  ·by_cases t:S' c
   ·exact⟨by have:=b.ext.size;omega,r.lt t⟩
   ·exact absurd (Va (by omega) t) a
theorem bM.oX(b:bM g h q k st m){f:List M.DX}{j:List Pr}(T:M.cT h' q.ft f j)(x:Mod (M.cQ q.ft q.ns) h h')(s: ∀c,M.cQ q.ft f c->M.cQ q.ft q.ns c\/h.size<=c):
  bM g h' {q with ns:=f} (Li k h.size (M.cQ q.ft f) 5) {st with fr:=j} m:=by
 have d:=b.rest (C:=λc=>c=5) (h':=h') (x.aj λc _ a=>b.kf c a) (by decide);have e: ∀ {c},c<h.size->Li k h.size (M.cQ q.ft f) 5 c=k c:=λa=>GL a
 refine⟨d.cell (by decide),d.box (by decide),d.log (by decide),d.dO (by decide),T,d.cj (by decide),b.cZ,d.cN (by decide) _ (λc a=>e a),d.names (by decide),
  by rw[e b.hU];exact b.kd,λc a=>by rw[e (b.box.lt a)];exact b.kb c a,by rw[e b.oY];exact b.kl,by rw[e b.p5];exact b.kn,λc a=>?_,λc a=>by rw[e (TR b.cj a)];exact b.kt c a,
  λc a=>by rw[e (TR b.names a)];exact b.kx c a,λc a=>?_,d.ext⟩
 ·by_cases i:c<h.size
  ·rw[e i];rcases s c a with l|l
   ·exact b.kf c l
   ·omega
  ·exact rL (by omega) a
 ·by_cases i:c<h.size
  ·rw[e i] at a;exact⟨(b.own c a).1,by have:=d.size;omega⟩
  ·by_cases n:M.cQ q.ft f c
   ·exact⟨by have:=b.ext.size;omega,T.lt n⟩
   ·exact absurd (Va (by omega) n) a
theorem bM.renew(b:bM g h q k st m){gF:Nat}(T:M.cT h' gF [] [])(i:h.size<=gF)(a:h'[q.d]? =some (J2 (eA {q with ft:=gF} st false) FL (0,0)))(x:Mod (λc=>c=q.d) h h'):
  bM g h' {q with ft:=gF,ns:= []} (Li k h.size (· =gF) 5) {st with fr:= []} m:=by
 have d:=b.rest (C:=λc=>c=1) (h':=h') (x.aj λc _ a=>by rw[a];exact b.kd) (by decide);have e: ∀ {c},c<h.size->Li k h.size (· =gF) 5 c=k c:=λa=>GL a
 have j: ∀c,M.cQ gF [] c->c=gF:=λc a=>by
  rcases a with rfl|⟨x,l,_⟩
  ·rfl
  ·cases l
 refine⟨a,d.box (by decide),d.log (by decide),d.dO (by decide),T,d.cj (by decide),b.cZ,d.cN (by decide) _ (λc a=>e a),d.names (by decide),
  by rw[e b.hU];exact b.kd,λc a=>by rw[e (b.box.lt a)];exact b.kb c a,by rw[e b.oY];exact b.kl,by rw[e b.p5];exact b.kn,λc a=>by rw[j c a];exact rL i rfl,λc a=>by rw[e (TR b.cj a)];exact b.kt c a,
  λc a=>by rw[e (TR b.names a)];exact b.kx c a,λc a=>?_,d.ext⟩
 by_cases n:c<h.size
 ·rw[e n] at a;exact⟨(b.own c a).1,by have:=d.size;omega⟩
 ·by_cases f:c=gF
  ·subst f;exact⟨by have:=b.ext.size;omega,T.lt (.inl rfl)⟩
  ·exact absurd (Va (S:=(· =gF)) (by omega) f) a
open Classical in
noncomputable def Ld (k:Nat->Nat) (b:Nat) (tp np:Sl) (a:Nat->Prop):Nat->Nat:=λc=>if k c≠0 then k c else if tp.ah=some c then 6 else if np.ah=some c then 7 else if a c then 8 else 0
theorem bM.eW(d:bM g h q k st m){tp np:Sl}{ps:List Nat}{ts:List (Nat×List Pr)}{next aV:Nat}{S:Nat->Prop}
  (a:h'[q.d]? =some (J2 (eA {q with tp:=tp,np:=np} {st with next:=next,aV:=aV} false) FL (0,0))) (x:Mod (λc=>c=q.d\/q.tp.ah=some c\/q.np.ah=some c) h h')
  (H:Own fL BL h' tp ps) (on:Own IM Bp h' np (ts.map λp=>(p.1:Int))) (J:ps.length=ts.length)
  (r: ∀c,tp.ah=some c->q.tp.ah=some c\/(k c=0/\g.size<=c/\np.ah≠some c/\ ¬S c)) (s: ∀c,np.ah=some c->q.np.ah=some c\/(k c=0/\g.size<=c/\tp.ah≠some c/\ ¬S c)) (K: ∀c,S c->g.size<=c/\c<h'.size)
  (L: ∀(i:Nat) (t:Nat) (p:Nat×List Pr),ps[i]? =some t->ts[i]? =some p->(∃ e:Nat,q.ps[e]? =some t/\st.ts[e]? =some p)\/ ∃n j,bR h' t p.2 (NA p.2) n j/\j<=h'.size/\(∀ c,n<=c->c<j->S c/\k c=0)/\G7 p.2):
  bM g h' {q with tp:=tp,np:=np,ps:=ps} (Ld k h.size tp np S) {st with ts:=ts,next:=next,aV:=aV} m:=by
 have l:=d.rest (C:=λc=>c=1\/c=6\/c=7) (h':=h') (x.aj λc _ a=>by
  rcases a with rfl|a|a
  ·exact .inl d.kd
  ·exact .inr (.inl (d.kt c a))
  ·exact .inr (.inr (d.kx c a))) (by decide)
 have f: ∀ {c e},k c=e->e≠0->Ld k h.size tp np S c=e:=λb u=>by unfold Ld;rw[if_pos (by rw[b];exact u)];exact b
 refine⟨a,l.box (by decide),l.log (by decide),l.dO (by decide),l.fresh (by decide),H,J,λi t p b u=>?_,on,f d.kd (by decide),λc a=>f (d.kb c a) (by decide),f d.kl (by decide),f d.kn (by decide),λc a=>f (d.kf c a) (by decide),λc a=>?_,λc a=>?_,λc a=>?_,l.ext⟩
 ·rcases L i t p b u with⟨e,M,N⟩|⟨n,j,v,w,y,z⟩
  ·obtain⟨n,j,v,w,y,z⟩:=l.cN (by decide) k (λ_ _=>rfl) e t p M N;exact⟨n,j,v,w,λc A c2=>f (y c A c2) (by decide),z⟩
  ·refine⟨n,j,v,w,λc A c2=>?_,z⟩;obtain⟨B,D⟩:=y c A c2;have O:tp.ah≠some c:=λE=>by
    rcases r c E with h|h
    ·have:=d.kt c h;rw[D] at this;cases this
    ·exact h.2.2.2 B
   have P:np.ah≠some c:=λE=>by
    rcases s c E with h|h
    ·have:=d.kx c h;rw[D] at this;cases this
    ·exact h.2.2.2 B
   unfold Ld;rw[if_neg (by simp[D]),if_neg O,if_neg P,if_pos B]
 ·rcases r c a with b|b
  ·exact f (d.kt c b) (by decide)
  ·unfold Ld;rw[if_neg (by simp[b.1]),if_pos a]
 ·rcases s c a with b|b
  ·exact f (d.kx c b) (by decide)
  ·unfold Ld;rw[if_neg (by simp[b.1]),if_neg b.2.2.1,if_pos a]
 ·by_cases o:k c=0
  ·unfold Ld at a;rw[if_neg (by simp[o])] at a;by_cases F:tp.ah=some c
   ·refine⟨?_,TR H F⟩;rcases r c F with b|b
    ·have:=d.kt c b;rw[o] at this;cases this
    ·exact b.2.1
   ·rw[if_neg F] at a;by_cases G:np.ah=some c
    ·refine⟨?_,TR on G⟩;rcases s c G with b|b
     ·have:=d.kx c b;rw[o] at this;cases this
     ·exact b.2.1
    ·rw[if_neg G] at a;by_cases I:S c
     ·exact K c I
     ·rw[if_neg I] at a;exact absurd rfl a
  ·exact⟨(d.own c o).1,by have:=(d.own c o).2;have:=l.size;omega⟩
end
structure JU (m m':Bx):Prop where
 up:m'.down=false
 calm:m.fuel= -1->m'.fuel= -1
theorem JU.refl {m:Bx}(a:m.down=false):JU m m:=⟨a,λa=>a⟩
theorem JU.trans {m c d:Bx}(a:JU m c)(b:JU c d):JU m d:=⟨b.up,λe=>b.calm (a.calm e)⟩
theorem ZR {m:Bx}(hd:m.down=false)(l:List Fi):JU m {IQ m with files:=l}:=by refine⟨(AMY l).trans hd,λa=>?_⟩;show(IQ m).fuel= -1;unfold IQ;rw[if_neg (by rw[a];decide)];exact a
theorem Ro {m:Bx}{k d:A2L}(hd:m.down=false)(b:LY k=false):(m.fuel=0/\EM m k d=(30,NN m))\/((EM m k d).1=0/\JU m (EM m k d).2/\
  ∀x,ff (EM m k d).2 x=if x=k then some (((ff m k).getD (bF,bF)).1,((ff m k).getD (bF,bF)).2++d) else ff m x):=by
 by_cases a:m.fuel=0
 ·left;refine⟨a,?_⟩;unfold EM;rw[if_neg (by simp[hd]),if_neg (by simp[b]),if_pos a]
 ·right;obtain⟨c,e⟩:=AM8 ⟨hd,a⟩ (d:=d) b;refine⟨c,?_,e⟩;unfold EM;rw[if_neg (by simp[hd]),if_neg (by simp[b]),if_neg a];exact ZR hd _
theorem OX {m:Bx}{a:A2L}{p:A2L×A2L}(hd:m.down=false)(c:ff m a=some p):(m.fuel=0/\Hm m a=(30,NN m))\/((Hm m a).1=0/\JU m (Hm m a).2/\ ∀x,ff (Hm m a).2 x=if x=a then some (p.1++p.2,bF) else ff m x):=by
 have d:(Cq a m.files).isNone=false:=by
  cases b:Cq a m.files with
  |none=>unfold ff at c;rw[b] at c;cases c
  |some f=>rfl
 by_cases b:m.fuel=0
 ·left;refine⟨b,?_⟩;unfold Hm;rw[if_neg (by simp[hd]),if_neg (by simp[d]),if_pos b]
 ·right;obtain⟨e,g⟩:=ARV ⟨hd,b⟩ c;refine⟨e,?_,g⟩;unfold Hm;rw[if_neg (by simp[hd]),if_neg (by simp[d]),if_neg b];exact ZR hd _
theorem RL {m:Bx}{k:A2L}(hd:m.down=false)(b:(ff m k).isSome=true):(m.fuel=0/\Gs m k=(30,NN m))\/((Gs m k).1=0/\JU m (Gs m k).2/\ ∀x,ff (Gs m k).2 x=if x=k then none else ff m x):=by
 have c:(Cq k m.files).isNone=false:=by
  rw[<- VQ] at b;cases a:Cq k m.files with
  |none=>rw[a] at b;cases b
  |some f=>rfl
 by_cases a:m.fuel=0
 ·left;refine⟨a,?_⟩;unfold Gs;rw[if_neg (by simp[hd]),if_neg (by simp[c]),if_pos a]
 ·right;obtain⟨d,e⟩:=ANp ⟨hd,a⟩ b;refine⟨d,?_,e⟩;unfold Gs;rw[if_neg (by simp[hd]),if_neg (by simp[c]),if_neg a];exact ZR hd _
theorem oM(m:Bx)(x:A2L):ff (NN m) x=ff m x:=rfl
theorem rM(m:Bx):bj (NN m).files=bj m.files:=rfl
theorem zL {an:aq}{g:aa}{H b z:Nat}{h:A2L}{made:Bool}{n:Nat->Prop}{m:Bx}{upto:Int}{I:A2K}(ao:bZ g)(ap: ∀j,Mod n g j->bZ j)(L:ES g H b h z made)(N:Cw g b n m)(hd:m.down=false)(ar: ¬n H)(a0:h.size<=8)(au:bj m.files<=8000000000000)
  (av:upto>=(z:Int)->I (J6 J9 1) g)
  (aw:m.fuel≠ -1-> ∀j S' f,Cw j b S' f->f.down=true->Mod n g j->(∀ c,S' c->n c)->bj f.files<=bj m.files->(∀ x,ff f x=ff m x\/(ff f x=none/\ ∃d:Nat,1<=d/\d<=99999999/\(d:Int)<=upto/\x=aC h d))->I (J6 J9 30) j)
  (ax:upto<(z:Int)-> ∀j S' f,Cw j b S' f->JU m f->Mod n g j->(∀ c,S' c->n c)->bj f.files<=bj m.files->(∀ d:Nat,1<=d->d<=99999999->(d:Int)<=upto->ff f (aC h d)=none)->
   (∀ x,(∀ d:Nat,1<=d->d<=99999999->(d:Int)<=upto->x≠aC h d)->ff f x=ff m x)->I (J6 J9 0) j):AA an P JM #[Am H,J6 J9 upto] g I:=by
 refine ABc ?_;unfold UX;refine ai.mk λK ay=>af.no rfl (aD (AC.mk (AB L rfl) (ay _ _ ?_)))
 refine af.intro (λq=>av (by simpa using q)) (λq=>?_);have az:upto<(z:Int):=by simpa using q
 refine aD (AX.mk (AO L rfl) (aD (AJ.mk (AB L rfl) ?_)));refine yw ao N hd (by omega) au λX Y l A v2 Z O=>⟨Y,_,rfl,af.no rfl ?_⟩
 have ab:(l.map λd:Nat=>(d:Int)).length=l.length:=Bs ..;have J: ∀d∈l,1<=d/\d<=99999999/\(ff m (aC h d)).isSome=true:=λd e=>by
  have:=(A.mem d).1 e;rw[VQ] at this;exact this
 have a1:l.Nodup:=List.nodup_iff_pairwise_ne.2 (A.inc.imp λg=>Nat.ne_of_lt g);have a2:=AQQ A;refine Loop.rule (λac x s=> ∃(i:Nat) (B:Nat->Prop) (r:Bx),x=((i:Int),())/\Cw s b B r/\JU m r/\Mod n g s/\Mod n X s/\(∀ c,B c->n c)/\bj r.files<=bj m.files/\(∀ d∈l.take i,(d:Int)<=upto->ff r (aC h d)=none)/\(∀ x,(∀ d∈l.take i,(d:Int)<=upto->x≠aC h d)->ff r x=ff m x)/\i<=l.length/\ac=l.length-i) ?_
  ⟨0,n,m,rfl,N.ext Z,JU.refl hd,Ext.mod Z,Mod.refl,λ_ g=>g,A0 _,by simp,λ_ _=>rfl,AD _,rfl⟩
 rintro a3 ac _ s ⟨i,B,r,rfl,Q,C,w,R,D,M,E,u,a4,rfl⟩ aA;have aE:View IM s Y (l.map λd:Nat=>(d:Int)):=v2.mod R λc v aF=>by have:=O c v;have:=N.lt aF;omega
 rw[v2.len,ab];refine af.intro (λS=>?_) (λS=>?_)
 ·have F:i<l.length:=by simpa using S
  have ag:l[i]? =some l[i]:=A2 F;obtain⟨ad,ae,aG⟩:=J l[i] (AW F);have y:l.take (i+1)=l.take i++ [l[i]]:=by rw[As,ag];rfl
  have aH: ∀d∈l.take i,d<l[i]:=λd e=>by
   have:=A.inc;rw[<- DA (i+1) l,y] at this;have aI:=(List.pairwise_append.1 (List.pairwise_append.1 this).1).2.2 d e l[i] (by simp);exact aI
  refine ai.mk λaJ aK=>?_
  have fin: ∀S' f j,Cw j b S' f->JU m f->Mod n g j->Mod n X j->(∀ c,S' c->n c)->bj f.files<=bj m.files->(∀ d∈l.take (i+1),(d:Int)<=upto->ff f (aC h d)=none)->(∀ x,(∀ d∈l.take (i+1),(d:Int)<=upto->x≠aC h d)->ff f x=ff m x)->aJ () j:=λS' f j aL aM aN aO aP aQ aR O=>by
   refine aK _ _ ?_;dsimp only;rw[Ae (by omega)];exact aA (l.length-(i+1)) _ _ (by omega) ⟨i+1,S',f,rfl,aL,aM,aN,aO,aP,aQ,aR,O,F,rfl⟩
  rw[<- ab,<-v2.len];refine aE.idx (i:=i) (x:=(l[i]:Int)) (by rw[C2,ag];rfl) λa _ c=>?_
  refine AC.mk c.int ?_;refine af.intro (λq=>?_) (λq=>?_)
  ·have q:(l[i]:Int)<=upto:=by simpa using q
   have T:ES s H b h z made:=L.mod w ar;refine aD (AX.mk (AO T rfl) (aD (AJ.mk (AB T rfl) ?_)));refine YV (ap s w) (by omega) (by omega) λa5 U=>⟨_,rfl,⟨AO (T.ext U) rfl,?_⟩⟩
   refine XK (Q.ext U) λah aj V aS ak=>⟨_,rfl,?_⟩
   have aT:(ff r (aC h l[i])).isSome=true:=by rw[u (aC h l[i]) λd e _ G=>by have:=aH d e;have:=Ij G;omega];exact aG
   have W:=(Ext.mod U).trans (aS.aj λc _ v=>D c v);rcases RL (k:=aC h l[i]) C.up aT with⟨aU,aV⟩|⟨aW,ds,al⟩
   ·rw[aV] at V ⊢;refine af.yes rfl (aw (λg=>by have:=C.calm g;rw[aU] at this;cases this) ah aj _ V rfl (w.trans W) (λc v=>D c (ak c v)) M λx=>?_);show ff r x=_\/(ff r x=_/\_);by_cases t: ∃d,d∈l.take i/\(d:Int)<=upto/\x=aC h d
    ·obtain⟨d,e,o,rfl⟩:=t;have am:=J d (DM e);exact .inr ⟨E d e o,d,am.1,am.2.1,o,rfl⟩
    ·exact .inl (u x λd e o G=>t ⟨d,e,o,G⟩)
   rw[aW];refine af.no rfl (fin aj _ ah V (C.trans ds) (w.trans W) (R.trans W) (λc v=>D c (ak c v)) (AE (Zi _) M) ?_ ?_)
   ·intro d e o;rw[al];split
    ·rfl
    ·rename_i aX;rw[y] at e;rcases List.mem_append.1 e with e|e
     ·exact E d e o
     ·exact absurd (by rw[List.mem_singleton.1 e]) aX
   ·intro x t;rw[al,if_neg (t l[i] (by rw[y];exact List.mem_append.2 (.inr (List.mem_singleton.2 rfl))) q)];exact u x λd e=>t d (by rw[y];exact List.mem_append.2 (.inl e))
  ·have q: ¬(l[i]:Int)<=upto:=by simpa using q
   refine fin B r s Q C w R D M ?_ ?_
   ·intro d e o;rw[y] at e;rcases List.mem_append.1 e with e|e
    ·exact E d e o
    ·rw[List.mem_singleton.1 e] at o;exact absurd o q
   ·intro x t;exact u x λd e=>t d (by rw[y];exact List.mem_append.2 (.inl e))
 ·have F:i=l.length:=by simp at S;omega
  subst F;rw[BT] at E u;refine ax az s B r Q C w D M ?_ ?_
  ·intro d ad ae o;by_cases e:d∈l
   ·exact E d e o
   ·rw[u (aC h d) λk aY _ G=>e (by rw[Ij G];exact aY)];have: ¬((ff m (aC h d)).isSome=true):=λg=>e ((A.mem d).2 ⟨ad,ae,by rw[VQ];exact g⟩)
    cases aZ:ff m (aC h d) with
    |none=>rfl
    |some p=>rw[aZ] at this;exact absurd rfl this
  ·intro x t;exact u x λd e o=>t d (J d e).1 (J d e).2.1 o
theorem ARr {a:Nat}(h:a<=99999999):LY (aX a)=false:=by
 have b:(aX a).size=1+(Lib.decDigits a).length:=by have:=Ay (aX a);rw[XL] at this;rw[<- this];simp;omega
 have c:(Lib.decDigits a).length<=20:=by rw[Lib.decDigits_length];exact Lib.nDigits_le20 a (by omega)
 unfold LY;rw[Hk,decide_eq_false_iff_not,decide_eq_false_iff_not];refine⟨λh=>?_,by omega⟩;rw[h] at b;have:bF.size=0:=rfl;omega
theorem Qb {A:aq}{h:aa}{a:Nat}{R:A2K}(c:bZ h)(l:a<=1099511627776)(d: ∀b,Ext h b->R (J7 (aX a)) b):AA A P JF #[J6 J9 a] h R:=by
 refine AIu ?_;unfold uV;refine yp c.cN (by omega) (by omega) λe f=>⟨_,rfl,?_⟩
 have i:Lib.itoa (a:Int)=Lib.decDigits a:=Lib.itoa_nonneg a;rw[i];have n:(Lib.decDigits a).length<=20:=by rw[Lib.decDigits_length];exact Lib.nDigits_le20 a (by omega)
 have j:(⟨(Lib.decDigits a).toArray⟩:A2L).size=(Lib.decDigits a).length:=by simp[ByteArray.size]
 refine⟨?_,?_⟩
 ·rw[j,max_i64];have:(⟨#[116]⟩:A2L).size=1:=rfl;omega
 ·exact d e f
def rN(h:aa)(a:Nat):Prop:= ∃b c c2 d c4 e f i,h[a]? =some (J2 #[b,c,c2,d,c4,e,f,i,J3 true] FL (0,0))
theorem ARk {A:aq}{h:aa}{q:Hp}{st:Db}{R:A2K}(hd:h[q.d]? =some (J2 (eA q st false) FL (0,0)))(b: ∀a,rN a q.d->Mod (· =q.d) h a->a.size=h.size->R (J6 J9 30) a):AA A P Cg #[Am q.d,J6 J9 30] h R:=by
 refine ACQ ?_;unfold WY;refine ai.mk λK c=>af.yes rfl (aD (ae.dq hd (by simp) λd e f i=>c _ _ (b d ?_ f i)))
 exact⟨_,_,_,_,_,_,_,_,by simpa using e⟩
section
variable {A : aq} {g h : aa} {q : Hp} {k : Nat -> Nat} {st : Db} {m : Bx} {R : A2K}
theorem bM.hZ(a:bM g h q k st m)(b:bZ g):bZ h:=b.ext a.ext
def Grow(k a:Nat->Nat)(b:Nat):Prop:= ∀c,c<b->a c=k c
theorem Grow.refl {k:Nat->Nat}{a:Nat}:Grow k k a:=λ_ _=>rfl
theorem rO {k:Nat->Nat}{a b:Nat}{d:Nat->Prop}:Grow k (Li k a d b) a:=λc e=>GL e
theorem AQ6(b:bM g h q k st m)(t:st.next<=99999999)(L:st.aV<=99999999)(M:st.ts.length<=60000)(u: ∀p∈st.ts,p.1<=99999999)(D: ∀v,Ext h v->R (J7 (AY (EG ⟨st.next,st.aV,st.ts.map (·.1)⟩))) v):AA A P Pw #[Am q.d] h R:=by
 refine AEG ?_;unfold WK;refine aD (AC.mk (AB b.cell rfl) (aD (AC.mk (AB b.cell rfl) (aD (AZ.mk (s:=q.np) (AB b.cell rfl) ?_)))));rw[CF (by omega)];refine Cc (by omega) λN w=>⟨_,rfl,?_⟩
 have f:=Ao w b.cell;refine⟨AB f rfl,AB f rfl,?_⟩;rw[CF (by omega)];refine Cc (by omega) λO y=>⟨_,rfl,?_⟩
 have c2:=Ao y f;have Q:=AV (n:=st.next) (by omega);have S:=AV (n:=st.aV) (by omega);have j:q.np.len=st.ts.length:=by rw[b.names.len];simp
 refine⟨AB c2 rfl,by rw[AP,AP,max_i64];omega,?_⟩;rw[j,CF (by omega),Ak];refine Cc (by omega) λE z=>⟨_,rfl,?_⟩
 have F:=Ao z c2;have T:=AV (n:=st.ts.length) (by omega);refine⟨by rw[AP,AP,A1,max_i64];omega,?_⟩;refine aD (AZ.mk (s:=q.np) (AB F rfl) ?_);rw[Ak];have B:=(w.trans y).trans z;have G:=(b.names.ext B).view;have U: ∀i,((st.ts.map (·.1)).take i).flatMap Bc=((st.ts.map (·.1)).take i).flatMap Bc:=λ_=>rfl
 refine Loop.rule (λC x o=> ∃i:Nat,x=(AY (Bc st.next++Bc st.aV++Bc st.ts.length++((st.ts.map (·.1)).take i).flatMap Bc),(i:Int),())/\C=st.ts.length-i/\i<=st.ts.length/\Ext E o) ?_ ⟨0,by simp,rfl,by omega,Mod.refl⟩;rintro K C _ o ⟨i,rfl,rfl,V,r⟩ H;dsimp only;refine af.intro (λe=>?_) (λe=>?_)
 ·have d:i<st.ts.length:=by rw[<- j];simpa using e
  have ag:st.ts[i]? =some st.ts[i]:=A2 d;have W:=u st.ts[i] (AW d);refine(G.ext r).idx (i:=i) (x:=(st.ts[i].1:Int)) (by rw[eB,C2,ag];rfl) λa _ c=>AC.mk c.int ?_
  rw[CF (by omega)];refine Cc (by omega) λX I=>⟨_,rfl,?_⟩
  have Y:=AV (n:=st.ts[i].1) (by omega);have Z:=U0 (l:=(st.ts.map (·.1)).take i) λn t=>by
   obtain⟨p,J,rfl⟩:=List.mem_map.1 (DM t);exact u p J
  have aa:((st.ts.map (·.1)).take i).length<=60000:=by simp;omega
  refine⟨by rw[AP,AP,max_i64];simp only[A1];omega,?_⟩;rw[Ak,Ae (by omega)];refine H (st.ts.length-(i+1)) _ _ (by omega) ⟨i+1,?_,rfl,d,r.trans I⟩;rw[As,C2,ag];simp
 ·have d:i=st.ts.length:=by rw[j] at e;simp at e;omega
  subst d;have:=D o (B.trans r);rw[AF (by simp)];simpa [EG] using this
theorem zM {n:Nat}{s:Sl}{l:List Pr}(z:bZ g)(Q:bM g h q k st m)(hd:m.down=false)(T:G7 l)(an:View BR h s l)(B: ∀c,s.ah=some c->c<h.size)(ao:n<=99999999)(ap:ff m (aX n)=none)(aq:bj m.files+(Jh l).length+1<=8796093022208)
  (S:m.fuel≠ -1-> ∀b S' e,Cw b q.b S' e->e.down=true->Mod q.Sb h b->(∀ c,S' c->q.Sb c\/h.size<=c)->(∀ x,x≠aX n->ff e x=ff m x)->bj e.files<=bj m.files+(Jh l).length+1->R (J1 #[J5 none,J6 J9 30]) b)
  (ar: ∀b S' C e t D U,bM g b {q with Sb:=S'} C st e->JU m e->(∀ x,ff e x=if x=aX n then some (AY (Jh l),bF) else ff m x)->bj e.files<=bj m.files+(Jh l).length+1->bR b t l (NA l) D U->h.size<=D->U<=b.size->(∀ c,D<=c->C c=0)->
   Mod q.Sb h b->Grow k C h.size->R (J1 #[Am t,J6 J9 0]) b):AA A P Nk #[Am q.d,J6 J9 (n:Int),J4 s.p s.len s.cap] h R:=by
 refine AEO ?_;unfold YT;refine AO2 T an B λaC V=>⟨_,_,rfl,af.no rfl ?_⟩
 have p:=Q.on V;refine aD (AX.mk (AO p.cell rfl) ?_);refine Qb (p.hZ z) (by omega) λE F=>⟨_,rfl,⟨AO (p.on F).cell rfl,?_⟩⟩
 have W:=p.on F;have X:=V.trans F;have aE:=X.size;refine sE W.box (by rw[AP];exact aq) λY f G H Z=>⟨_,rfl,?_⟩
 have I:=Zh Q.box.aS (aX n) (AY (Jh l));rw[AP] at I;have aa:Mod q.Sb h Y:=(Ext.mod X).trans H;have J: ∀c,f c->q.Sb c\/h.size<=c:=λc a=>(Z c a).imp id λh=>by omega
 rcases Ro (k:=aX n) (d:=AY (Jh l)) hd (ARr ao) with⟨K,L⟩|⟨L,M,r⟩
 ·rw[L] at G ⊢;refine af.yes rfl ?_;exact S (by rw[K];decide) Y f _ G rfl aa J (λx _=>rfl) (by rw[rM,HJ];exact Iv _ _)
 rw[L];refine af.no rfl ?_;have o:=W.boxed (j:=2) (bJ:=st) G (H.aj λc _ a=> .inl a) Z rfl rfl rfl rfl (.inl ⟨by decide,rfl,rfl⟩) (.inl ⟨by decide,rfl⟩);generalize (EM m (aX n) (AY (Jh l))).2=ab at*
 have aF:Grow k (Li k E.size f 2) E.size:=rO;refine aD (AX.mk (AO o.cell rfl) ?_);refine Qb (o.hZ z) (by omega) λau u=>⟨_,rfl,⟨AO (o.on u).cell rfl,?_⟩⟩
 have ac:=o.on u;rw[ap] at r;have av:ff ab (aX n)=some (bF,bF++AY (Jh l)):=by rw[r,if_pos rfl];rfl
 refine sF ac.box λad v N=>⟨_,rfl,?_⟩
 have aw:=nW o.box.aS (aX n);have ae:Mod q.Sb h ad:=by refine aa.then ((Ext.mod u).trans N |>.aj λc _ a=>?_);exact(J c a)
 rcases OX M.up av with⟨K,O⟩|⟨O,ag,ah⟩
 ·rw[O] at v ⊢;refine af.yes rfl ?_;exact S (λax=>by have:=M.calm ax;rw[K] at this;cases this) ad f _ v rfl ae J (λx i=>by
   rw[oM,r,if_neg i]) I
 rw[O];refine af.no rfl ?_;have w:=ac.boxed (j:=2) (bJ:=st) v (N.aj λc _ a=> .inl a) (λc a=> .inl a) rfl rfl rfl rfl (.inl ⟨by decide,rfl,rfl⟩) (.inl ⟨by decide,rfl⟩);generalize (Hm ab (aX n)).2=ai at*
 refine aD (AX.mk (AO w.cell rfl) ?_);refine Qb (w.hZ z) (by omega) λaj y=>⟨_,rfl,⟨AO (w.on y).cell rfl,?_⟩⟩
 have ak:=w.on y;refine p8 ak.box ⟨_,_,rfl,?_⟩;have ay:ff ai (aX n)=some (AY (Jh l),bF):=by rw[ah,if_pos rfl,Rf,Rf]
 rw[qP ag.up,ay];dsimp only;rw[Ya];refine af.no rfl ?_;refine yR T.eL λal t am az=>⟨_,_,rfl,?_⟩
 have aG:=u.size;have aH:=H.size;have aI:=N.size;have aJ:=y.size;have aA: ∀c,aj.size<=c->Li (Li k E.size f 2) au.size f 2 c=0:=λc a=>by
  have: ¬f c:=λB=>by have:=v.lt B;omega
  exact Va (by omega) this
 refine ar al f _ ai t aj.size al.size (ak.on am) (M.trans ag) (λx=>?_) (AE aw I) az (by omega) (A0 _) (λc a=>aA c a) ?_ ?_
 ·rw[ah];by_cases i:x=aX n
  ·rw[if_pos i,if_pos i,Rf,Rf]
  ·rw[if_neg i,if_neg i,r,if_neg i]
 ·exact(ae.trans (Ext.mod y)).trans (Ext.mod am)
 ·exact λc a=>by
   rw[GL (by omega),GL (by omega)]
end
section
variable {A : aq} {g h : aa} {q : Hp} {k : Nat -> Nat} {st : Db} {m : Bx} {R : A2K}
theorem bM.fX(a:bM g h q k st m)(e:bZ g){d:aa}(x:Mod (λc=>q.Sb c\/c=q.lg\/c=q.nt) h d):bZ d:=
 e.ext (a.rest (C:=λc=>c=2\/c=3\/c=4) (x.aj λc _ b=>by
  rcases b with b|rfl|rfl
  ·exact .inl (a.kb c b)
  ·exact .inr (.inl a.kl)
  ·exact .inr (.inr a.kn)) (by decide)).ext
def cO(st:Db):Nt:=⟨st.next,st.aV,st.ts.map (·.1)⟩
theorem zN {B:Bq}{T:Nat->List Pr}(I:bZ g)(f:bM g h q k st m)(hd:m.down=false)(ac:BK (ff m) B)(u:gY (cO st))(ax: ∀a∈(cO st).names,ff m (aX a)=some (AY (Jh (T a)),bF)/\G7 (T a))(ay:1<=st.aK/\st.aK+2<=99999999)
  (S: ∀a,st.aK<=a->a<=99999999->ff m (aC nn a)=none) (be:bj m.files+1000000<=8000000000000)
  (ad:m.fuel≠ -1-> ∀n S' o,Cw n q.b S' o->o.down=true->Mod (λc=>q.Sb c\/c=q.nt) h n->(∀ c,S' c->q.Sb c\/h.size<=c)->(∀ G,Mc (ff o) G-> ∃l,BK G l/\mE B st.aK (cO st) T l)->(∀ b,(∀ a,b≠aC nn a)->ff o b=ff m b)->bj o.files<=bj m.files+700000->R (J6 J9 30) n)
  (aM: ∀n S' az o l,bM g n {q with Sb:=S'} az {st with aK:=st.aK+1} o->JU m o->BK (ff o) l->Ap l=cO st->l.T=T->l.L=B.L->l.aP=B.aP->l.aW<=max B.aW (st.aK+1)->(∀ b,(∀ a,b≠aC nn a)->ff o b=ff m b)->
   (∀ a,st.aK+1<=a->a<=99999999->ff o (aC nn a)=none)->bj o.files<=bj m.files+700000->Mod (λc=>q.Sb c\/c=q.nt) h n->Grow k az h.size->R (J6 J9 0) n):AA A P Jw #[Am q.d] h R:=by
 have aN: ∀p∈st.ts,p.1<=99999999:=λp aO=>by
  have v:=u.below p.1 (List.mem_map.2 ⟨p,aO,rfl⟩);have r:=u.next;simp only[cO] at v r;omega
 have aP:st.ts.length<=60000:=by have:=u.cn;simpa [cO] using this
 have aQ:=yZ u;have aR:(cO st).names.length=st.ts.length:=by simp[cO]
 rw[aR] at aQ;have ae:(EG (cO st)).length<=1048576:=by omega
 refine ADQ ?_;unfold WE;refine aD (AX.mk (AB f.cell rfl) ?_);refine AQ6 f u.next u.aV.2 aP aN λv U=>⟨_,rfl,⟨AB (f.on U).cell rfl,?_⟩⟩
 have J:=f.on U;have bf:=U.size;have aS:(AY (EG ⟨st.next,st.aV,st.ts.map (·.1)⟩)).size=(EG (cO st)).length:=by rw[AP];rfl
 refine yB (J.hZ I) J.dO J.box J.sx (λn x=>J.fX I (x.aj λc _ e=> .inl e)) (by decide) (by omega) (by rw[aS];omega) (by omega) λr C K V aT aA=>⟨_,rfl,?_⟩
 rw[show bl (AY (EG ⟨st.next,st.aV,st.ts.map (·.1)⟩))=EG (cO st) from EN _] at K V ⊢;have aU:=Zh f.box.aS (aC nn st.aK) (AY (Cv (EG (cO st))));have bg:=(JQ ae).2;rw[AP] at aU;have L:Mod (λc=>q.Sb c\/c=q.nt) h r:=(Ext.mod U).trans aT;have s: ∀c,C c->q.Sb c\/h.size<=c:=λc e=>(aA c e).imp id λh=>by omega
 rcases Ro (k:=aC nn st.aK) (d:=AY (Cv (EG (cO st)))) hd (yD (by decide) (by omega)) with⟨W,ag⟩|⟨ag,M,aE⟩
 ·rw[ag] at K ⊢;refine af.yes rfl ?_;exact ad (by rw[W];decide) r C _ K rfl L s (λG c=>⟨B,ac.dP c,APh⟩) (λb _=>rfl) (by rw[rM];omega)
 rw[ag] at V ⊢;refine af.no rfl ?_;rw[decide_eq_true rfl,IF] at V;generalize (EM m (aC nn st.aK) (AY (Cv (EG (cO st))))).2=t at*
 rw[S st.aK (A0 _) (by omega)] at aE;have X: ∀b,ff t b=if b=aC nn st.aK then some (bF,AY (Cv (EG (cO st)))) else ff m b:=λb=>by
  rw[aE];split<;>simp only[Option.getD_none,Rf]
 have ah: ¬C q.nt:=λe=>by
  rcases aA _ e with h|h
  ·exact f.sx h
  ·exact h.2 rfl
 have aV:r[q.d]? =some (J2 (eA q st false) FL (0,0)):=L.ah f.cell (by rintro(h|h);exact f.mQ h;exact f.dn h);refine aD (AX.mk (AB aV rfl) ?_);have aF:ff t (aC nn st.aK)=some (bF,AY (Cv (EG (cO st)))):=by rw[X,if_pos rfl]
 have aW:bZ r:=f.fX I (L.aj λc _ e=>e.imp id .inr);refine Wy aW V K ah (by decide) (by omega) (λaY w D ai aj=>⟨_,_,rfl,?_⟩) λaZ w D ai aj=>⟨_,_,rfl,?_⟩
 ·
  have a0:(Hm t (aC nn st.aK)).1≠0:=aY;rcases OX M.up aF with⟨W,E⟩|⟨E,_,_⟩
  ·have a1:NF t (aC nn st.aK) true=(30,NN t):=E;rw[a1] at D ⊢;refine af.yes rfl ?_;have z:Mod (λc=>q.Sb c\/c=q.nt) h w:=L.then (aj.aj λc _ e=>(s c e).imp .inl id);exact ad (λak=>by have:=M.calm ak;rw[W] at this;cases this) w C _ D rfl z s (λG c=>AMe ac ⟨ay.1,by omega⟩ u ae S ax (F1:=ff (NN t)) X c) (λb i=>by
    rw[oM,X,if_neg (i _)]) (by rw[rM];omega)
  ·exact absurd E a0
 ·rcases OX M.up aF with⟨W,E⟩|⟨E,al,a2⟩
  ·have aG:(Hm t (aC nn st.aK)).1=0:=aZ;rw[E] at aG;cases aG
  have D:Cw w q.b C (Hm t (aC nn st.aK)).2:=D;have bh:=nW K.aS (aC nn st.aK);generalize (Hm t (aC nn st.aK)).2=aH at*
  refine af.no rfl ?_;have N: ∀b,ff aH b=if b=aC nn st.aK then some (AY (Cv (EG (cO st))),bF) else ff m b:=λb=>by
   rw[a2];by_cases i:b=aC nn st.aK
   ·rw[if_pos i,if_pos i];simp only[Rf]
   ·rw[if_neg i,if_neg i,X,if_neg i]
  obtain⟨aI,aJ⟩:=ANV ac ⟨ay.1,by omega⟩ u ae S ax N;have z:Mod (λc=>q.Sb c\/c=q.nt) h w:=L.then (aj.aj λc _ e=>by
   rcases e with e|rfl
   ·exact(s c e).imp .inl id
   ·exact .inl (.inr rfl))
  have a3:w[q.d]? =some (J2 (eA q st false) FL (0,0)):=z.ah f.cell (by rintro(h|h);exact f.mQ h;exact f.dn h);refine aD (AX.mk (AB a3 rfl) ?_);have a4:J8 J9 (((st.aK:Nat):Int)-(1:Int))=(st.aK:Int)-1:=wrap_i64 (by omega) (by omega);rw[a4];have a5:bZ w:=f.fX I (z.aj λc _ e=>e.imp id .inr);have a6: ∀n,Mod C w n->bZ n:=λn x=>f.fX I ((z.then (x.aj λc _ e=>(s c e).imp .inl id)).aj λc _ e=>e.imp id .inr)
  have aL:ff aH (aC nn st.aK)≠none:=by rw[N,if_pos rfl];simp
  refine zL a5 a6 ai D al.up ah (by decide) (by omega) (λh=>absurd h (by omega)) (λa7 F am H an a8 Y ao w4 Z=>⟨_,rfl,?_⟩) λ_ F am H an a9 Y ao w4 Z ap=>⟨_,rfl,?_⟩
  ·have aa:Mod (λc=>q.Sb c\/c=q.nt) h F:=z.then (Y.aj λc _ e=>(s c e).imp .inl id);obtain⟨l,aq,ar,au,av,aw,ba⟩:=zK (G:=ff H) aI aJ aL λb=>by
    rcases Z b with v|⟨v,a,O,y,ab,r⟩
    ·exact .inl v
    ·exact .inr ⟨v,a,by omega,y,r⟩
   refine ad (λak=>a7 (al.calm (M.calm ak))) F am H an a8 aa (λc e=>s c (ao c e)) (λG c=>⟨l,aq.dP c,av,aw,by omega,.inr ⟨ar,au⟩⟩) (λb i=>?_) (by omega);rcases Z b with v|⟨_,a,_,_,_,r⟩
   ·rw[v,N,if_neg (i _)]
   ·exact absurd r (i a)
  ·have aa:Mod (λc=>q.Sb c\/c=q.nt) h F:=z.then (Y.aj λc _ e=>(s c e).imp .inl id);obtain⟨l,aq,ar,au,av,aw,ba⟩:=zK (G:=ff H) aI aJ aL λb=>by
    by_cases i: ∃a:Nat,1<=a/\a<=99999999/\(a:Int)<=(st.aK:Int)-1/\b=aC nn a
    ·obtain⟨a,O,y,ab,rfl⟩:=i;exact .inr ⟨Z a O y ab,a,by omega,y,rfl⟩
    ·exact .inl (ap b λa O y ab Q=>i ⟨a,O,y,ab,Q⟩)
   have bb: ∀b,(∀ a,b≠aC nn a)->ff H b=ff m b:=λb i=>by
    rw[ap b λa _ _ _=>i a,N,if_neg (i _)]
   have bc:ES F q.nt q.b nn (st.aK+1) false:=ai.mod Y ah;have bd:=f.boxed (j:=4) (bJ:= {st with aK:=st.aK+1}) an (aa.aj λc _ e=>e.imp id λh=> .inr ⟨rfl,h⟩) (λc e=>s c (ao c e)) rfl rfl rfl rfl (.inl ⟨by decide,rfl,rfl⟩) (.inr bc);refine aM F am _ H l bd ((M.trans al).trans a9) aq ar au av aw (by omega) bb (λa O y=>?_) (by omega) aa rO;rw[ap (aC nn a) λk _ _ bi Q=>by have:=Ij Q;omega,N,if_neg λQ=>by have:=Ij Q;omega];exact S a (by omega) y
end
end Go.Lf.G
namespace Go.Lf.G.M
open Go Go.Lf Go.Lf.G
theorem AKz {O:aq}{n:aa}{b:Nat}{T:Q7}{fr:Nat×Nat}{s:Sl}{l:List Pr}(f:n[b]? =some (J2 #[J4 s.p s.len s.cap] T fr))(v:View BR n s l)(ag:l.length<=1099511627776):
  EQ O P (.func (.func DT) #[] #[J5 (some ⟨b,0,none⟩)]) (λc=>c<n.size/\(c=b\/s.ah=some c)) n l:=by
 refine⟨λc o=>o.1,_,_,rfl,λQ=>by kernel_rfl,λe E Q R h ah hd hB S U=>?_⟩;rw[qx];refine IP ?_;unfold Eh;have F:=Ai f;have V: ∀d,Mod h e d->d[b]? =some (J2 #[J4 s.p s.len s.cap] T fr):=λd m=>by
  have w:=E b ⟨F,.inl rfl⟩;exact m.ah (w.trans f) (hd b ⟨F,.inl rfl⟩)
 have W: ∀i x,l[i]? =some x-> ∃a,s.p=some a/\ ∀d,Mod h e d->Cells d (a.add (i*3)) (BR.enc x):=λi x G=>by
  obtain⟨a,q,o⟩:=v.cells i x G;refine⟨a,q,λd m X u r=>?_⟩;have H:=o X u r;have I:=VI H;rw[aU,aU] at I;have J:a.block<n.size/\(a.block=b\/s.ah=some a.block):=⟨I,.inr (by simp[Sl.ah,q])⟩;have w:=E _ J;refine m.ag ((Qh ?_).trans H) ?_
  ·rw[aU,aU];exact w
  ·rw[aU,aU];exact hd _ J
 refine AZ.mk (AO (V e Mod.refl) rfl) ?_;refine Loop.rule (λm x d=> ∃(i:Nat) (k:Nat->Prop),x=((i:Int),())/\m=l.length-i/\i<=l.length/\Mod h e d/\(∀ b,k b->h b\/e.size<=b)/\R i true k d) ?_ ⟨0,h,rfl,rfl,by omega,Mod.refl,λb f=> .inl f,U⟩;rintro K m _ d ⟨i,k,rfl,rfl,G,t,y,r⟩ Y;refine af.intro (λj=>?_) (λj=>?_)
 ·have p:i<l.length:=by simp[v.len] at j;omega
  obtain⟨a,q,o⟩:=W i _ (A2 p);have z:=o d t;refine bI.mk q (by rw[v.len];exact p) ?_;refine AJ.mk (z.pair.1) (AJ.mk z.pair.2.1 (Aa.mk z.pair.2.2 ?_));refine ao.pair λai Z aj A B ak=>?_
  refine AJ.mk (AO A rfl) (AJ.mk (AB A rfl) (Aa.mk (AB A rfl) ?_));have ab:=hB.ba _ _ _ _ _ r (B.aj (S':=λb=>¬k b/\e.size<=b) λ_ _ e=>e.elim);refine Ed.mono (S i _ k Z (A2 p) ab) ?_;rintro _ ac ⟨g,C,rfl,ad,ae,L⟩;have M: ∀b,C b->h b\/e.size<=b:=λb f=>(ad b f).elim (y b) λal=> .inr (by have:=t.size;have:=B.size;omega)
  have N:Mod h e ac:=(t.trans B.mod).then (ae.aj λb _ f=>(y b f));refine⟨g,rfl,?_⟩;refine af.intro (λj=>?_) (λj=>?_)
  ·refine⟨rfl,i+1,g,C,N,M,L,λD=>?_,by omega⟩;subst D;cases j
  ·have D:g=true:=by simpa using j
   subst D;exact Y _ _ _ (by omega) ⟨i+1,C,by rw[Ae (by omega)],rfl,by omega,N,M,L⟩
 ·have p:i=l.length:=by simp[v.len] at j;omega
  exact⟨rfl,i,true,k,t,y,r,λ_=>p,by omega⟩
theorem sA {d:aq}{a:aa}{s:Sl}{l:List Pr}{e:A2K}(v:View BR a s l)(g:l.length<=1099511627776)
  (h: ∀fv b,EQ d P fv (λc=>c<b.size/\(c=a.size\/s.ah=some c)) b l->Ext a b->b.size=a.size+1->e fv b):AA d P Cf #[J4 s.p s.len s.cap] a e:=by
 refine I5 ?_;unfold FE;refine ao.mk λi _ j f k=>?_
 exact h _ i (AKz j (v.ext f) g) f k
theorem p6 {ap:aq}{t:aa}{fv:J0}{S:Nat->Prop}{l:List Pr}{e:A2L}{n:Int}{ar:A2K}(A:(fv= .nilFunc/\l= [])\/EQ ap P fv S t l)(bh:l.length<=1099511627776)
  (W: ∀G o,Own BR AR o G (Pn e n l)->(∀ c,G.ah=some c->t.size<=c)->Ext t o->ar (J4 G.p G.len G.cap) o):AA ap P LZ #[fv,J7 e,J6 J9 n] t ar:=by
 refine AEe ?_;unfold YU;refine ao.mk λau _ aX aY aZ=>ao.mk λq _ a0 av bi=>ao.mk λd _ a1 X bj=>?_
 have Y:Ext t d:=(aY.trans av).trans X;have a2:d[t.size]? =some (J2 #[J7 e] BF (0,0)):=X.ah (av.ah aX (by simp)) (by simp);have aw:d[au.size]? =some (J2 #[J6 J9 n] Bp (0,0)):=X.ah a0 (by simp);refine ai.mk λK ax=>?_
 have ay:Pn e n l= []->K (true,()) d:=λf=>ax _ _ (af.yes rfl (W ⟨none,0,0⟩ d (f▸Own.nil) (λc j=>by simp[Sl.ah] at j) Y))
 rcases A with⟨rfl,rfl⟩|A
 ·exact⟨trivial,af.yes rfl (ay (by simp[Pn]))⟩
 refine⟨A.one.2.1,af.no A.one.2.2 ?_⟩;refine AC.mk (AO aw rfl) ?_;cases Q:decide (n<=0)
 ·refine ax _ _ (af.no rfl ?_);have Q:0<n:=by simpa using Q
  have az: ∀o:aa,Mod (λc=>c=q.size) d o->Ext t o:=λo m=>Y.then (m.aj λc _ j=> .inr (by omega))
  have bk:=(Zs (l:=l) (RH e)).length_le;refine XW A (λb a=>Y.get b (A.1 b a) (by simp))
   (λi c Z r=>r[t.size]? =some (J2 #[J7 e] BF (0,0))/\r[au.size]? =some (J2 #[J6 J9 n] Bp (0,0))/\ ∃(s:Sl) (u:List Pr),r[q.size]? =some (J2 #[J4 s.p s.len s.cap] AQ (0,0))/\Own BR AR r s u/\(∀ b,Z b↔(b=q.size\/s.ah=some b))/\(∀ b,s.ah=some b->b<r.size/\q.size<b)/\match c with
    |none=>u=l.take i/\i<=(l.takeWhile (RH e)).length/\(i:Int)<n
    |some aA=>aA=some 0/\u=Pn e n l)
   (λb=>b=q.size) (λb a f=>by have:=A.1 b a;omega) ?_ ?_ ?_ ?_ ?_ ?_
  ·rintro i c Z r ⟨_,_,s,u,q,v,h,k,_⟩ b a;rcases(h b).1 a with rfl|d
   ·exact Ai q
   ·exact(k b d).1
  ·rintro i c Z r o ⟨H,I,s,u,w,v,h,k,a3⟩ m;refine⟨m.ah H (λt=>by omega),m.ah I (λt=>by omega),s,u,m.ah w (λab=>ab.1 ((h _).2 (.inl rfl))),v.mod m (λc j ab=>ab.1 ((h _).2 (.inr j))),h,λb a=>⟨?_,(k b a).2⟩,a3⟩;have:=m.size;have:=(k b a).1;omega
  ·exact⟨a2,aw,⟨none,0,0⟩,[],a1,Own.nil,λb=>by simp[Sl.ah],λb a=>by simp[Sl.ah] at a,by simp,by omega,by simpa using Q⟩
  ·rintro i x ac r rec bm bn J ⟨H,I,s,u,w,v,h,k,rfl,R,a4⟩ aC aZ a5 a6 a7 aD;have bo:=(List.getElem?_eq_some_iff.1 J).1;have aE:=Uz (p:=RH e) (l:=l) R;refine ao.pair λbp aF bq a8 C br=>?_
   refine⟨rec,C.ah a5 (by simp),a6,?_⟩;generalize aG:aF.setIfInBounds (d.size+1) (.loop {rec with state:= .busy})=D;have B:Mod (λb=>b=d.size+1) aF D:=aG▸Mod.setObj rfl;have aH:D[d.size+1]? =some (.loop {rec with state:= .busy}):=by rw[<- aG];exact Cb (by omega)
   have T:=B.ah a8 (by omega);have U:=B.ah (C.ah H (by simp)) (by omega);have aI:=B.ah (C.ah I (by simp)) (by omega);have aJ:Mod (λb=>b=d.size+1) r D:=(Ext.mod C).trans B;have ad:=B.ah (C.ah w (by simp)) (by omega);have bs:=Ai w;have aK:=(v.ext C).mod B (λc j f=>aC ((h _).2 (.inr (f▸j))));have bt:=B.size;have aL:(l.take i).length=i:=by simp;omega
   refine ai.mk λag aN=>?_
   have a9:RH e x=false->ag (true,()) D:=λL=>aN _ _ (af.yes rfl (aD _ _ (by
    refine⟨ac,λb a=> .inl a,aJ.aj λb _ a=> .inr a,aH,U,aI,s,l.take i,ad,aK,h,λb a=>⟨?_,(k b a).2⟩,rfl,?_⟩
    ·have:=(k b a).1;omega
    ·have:=aE.2.1 _ J L;have H:(l.takeWhile (RH e)).take i=l.takeWhile (RH e):=AF (by omega);have I:(l.takeWhile (RH e)).take n.toNat=l.takeWhile (RH e):=AF (by omega);unfold Pn;rw[I,<-nK R,H])))
   have aO:RH e x=true->ag (false,()) D:=λL=>aN _ _ (af.no rfl (by
    have bu:=aE.1 _ J L;refine AZ.mk (AO ad rfl) (AJ.mk (AO T rfl) (AJ.mk (AB T rfl) (Aa.mk (AB T rfl) ?_)));refine ao.aY (E:=BR) (x:=x) rfl G6 aK (by rw[aL];omega) (by rw[aL];simp[maxLen];omega) λy ba aP F ah _=>?_
    have bb:s.ah≠some q.size:=λf=>by have:=k _ f;omega
    refine ae.mk (F.ah ad bb) (by simp) λaj bc M bv=>?_
    have bw:=F.size;have ak:aj[q.size]? =some (J2 #[J4 y.p y.len y.cap] AQ (0,0)):=by simpa using bc
    have V:=aP.mod M (λc j f=>by
     rcases ah c j with d|d
     ·have:=k _ d;omega
     ·omega)
    have aQ:=M.ah (F.ah U (λf=>by have:=k _ f;omega)) (by omega);have al:=M.ah (F.ah aI (λf=>by have:=k _ f;omega)) (by omega);have bd:l.take i++ [x]=l.take (i+1):=by rw[As,J];rfl
    rw[bd] at V;have aR: ∀b,(b=q.size\/y.ah=some b)->ac b\/r.size<=b:=by
     rintro b (rfl|a)
     ·exact .inl ((h _).2 (.inl rfl))
     ·rcases ah b a with d|d
      ·exact .inl ((h _).2 (.inr d))
      ·exact .inr (by omega)
    have aS:Mod (λb=>ac b\/b=d.size+1) r aj:=
     ((aJ.aj λb _ a=> .inr a).trans (F.aj λb _ a=> .inl ((h _).2 (.inr a)))).trans (M.aj λb _ a=> .inl ((h _).2 (.inl a)))
    have aT:=M.ah (F.ah aH (λf=>aC ((h _).2 (.inr f)))) (by omega);have aU: ∀b,y.ah=some b->b<aj.size/\q.size<b:=by
     intro b a;have bx:b<ba.size:=by
      rcases aP.row with⟨rfl,_⟩|⟨g,bz,L,be,_⟩
      ·simp[Sl.ah] at a
      ·simp[Sl.ah,L] at a;subst a;exact Ai be
     refine⟨by omega,?_⟩;rcases ah b a with d|d
     ·exact(k _ d).2
     ·omega
    refine AZ.mk (AO ak rfl) (AC.mk (AO al rfl) ?_);have aV:y.len=i+1:=by rw[V.len];simp;omega
    refine af.intro (λz=>aD _ _ ?_) (λz=>a7 _ ?_)
    ·refine⟨_,aR,aS,aT,aQ,al,y,_,ak,V,λ_=>CI,aU,rfl,?_⟩;have z:((i+1:Nat):Int)=n:=by rw[aV] at z;simpa using z
     unfold Pn;rw[<- z,A6,nK (by omega)]
    ·refine⟨_,aR,aS,aT,aQ,al,y,_,ak,V,λ_=>CI,aU,rfl,by omega,?_⟩;have z:((i+1:Nat):Int)≠n:=by rw[aV] at z;simpa using z
     omega))
   refine AJ.mk (AO U rfl) ?_;rw[Bw];refine af.intro (λN=>?_) (λN=>?_)
   ·refine AJ.mk (AO T rfl) (AJ.mk (AO U rfl) ?_);show ag (!aM x.key e,()) D;cases aW:aM x.key e
    ·exact a9 (by simp at N;simp[RH,N,aW])
    ·exact aO (by simp[RH,aW])
   ·exact aO (by simp at N;simp[RH,N])
  ·rintro O' o ⟨_,_,s,u,w,v,h,k,rfl,R,a4⟩ O am bf an;have bg:=O.size;refine AZ.mk (AO w rfl) ⟨an,?_⟩;have:Pn e n l=l.take l.length:=by unfold Pn;rw[AF (by omega),<-nK R,AF (by omega)]
   rw[<- this] at v;refine W s _ (v.mod (Mod.setObj (S:=λc=>c=d.size) rfl) λc j f=>am ((h _).2 (.inr (f▸j)))) (λc j=>by have:=k _ j;omega) ?_;exact(az o O).then (Mod.setObj (.inr (by omega)))
  ·rintro i aA O' o ⟨_,_,s,u,w,v,h,k,rfl,rfl⟩ J O am bf an;have bg:=O.size;refine AZ.mk (AO w rfl) ⟨an,?_⟩;refine W s _ (v.mod (Mod.setObj (S:=λc=>c=d.size) rfl) λc j f=>am ((h _).2 (.inr (f▸j)))) (λc j=>by have:=k _ j;omega) ?_;exact(az o O).then (Mod.setObj (.inr (by omega)))
 ·refine ay ?_;have:n.toNat=0:=by simp at Q;omega
  simp[Pn,this]
end Go.Lf.G.M
namespace Go.Lf.G
open Go
open M (Sorted Af CZ A8 Ag Aq BU Ah bA BG aO Pn RH)
def kq(f t k:A2L):Bool:= !aM k f&&(decide (t=⟨#[]⟩)||aM k t)
def Qz(f t:A2L)(l:List Pr):List Pr:=l.filter λx=>kq f t x.key
def mG(m:List Pr)(f t:A2L)(a:Int):List Pr:=(Qz f t m).take a.toNat
theorem zP {p:Pr->Bool}{a:A2L->Bool}(b: ∀x,p x=a x.key)(k:A2L): ∀l:List Pr,Af k (l.filter p)=if a k then Af k l else none
 | []=>by split<;>rfl
 |x::l=>by
  have c:=zP b k l;rw[AS,M.BB];by_cases h:x.key=k
  ·rw[if_pos h];cases d:a k with
   |true=>rw[if_pos (by rw[b,h];exact d),M.BB,if_pos h];rfl
   |false=>
    rw[if_neg (by rw[b,h,d];decide),c,d];rfl
  ·rw[if_neg h];split
   ·rw[M.BB,if_neg h];exact c
   ·exact c
theorem fQ(k:A2L): ∀ {l:List Pr},Sorted l->l.drop (aO k l)=l.filter λx=> !aM x.key k
 | [],_=>by simp
 |x::l,s=>by
  have b:=List.pairwise_cons.1 s;rw[UR,AS];by_cases h:aM x.key k=true
  ·rw[if_pos h,if_neg (by simp[h]),HU];exact fQ k b.2
  ·have c: ∀a∈l,(!aM a.key k)=true:=λa d=>by
    grind [aM,absurd,M.Da]
   rw[if_neg h,if_pos (by simp[h]),IT,List.filter_eq_self.2 c]
theorem rP(t:A2L): ∀ {l:List Pr},Sorted l->l.takeWhile (RH t)=l.filter (RH t)
 | [],_=>rfl
 |x::l,s=>by
  have a:=List.pairwise_cons.1 s;rw[MA,AS];by_cases h:RH t x=true
  ·rw[if_pos h,if_pos h,rP t a.2]
  ·rw[if_neg h,if_neg h];refine(List.filter_eq_nil_iff.2 λc d b=>h ?_).symm;have e:=a.1 c d;unfold M.RH at b ⊢;rw[DE] at b ⊢
   grind [M.Da]
theorem zQ {f t:A2L}{l:List Pr}(s:Sorted l)(b:l.length<=1099511627776):Pn t 1099511627776 (l.drop (aO f l))=Qz f t l:=by
 unfold M.Pn;have a:Sorted (l.drop (aO f l)):=s.sublist (List.drop_sublist _ _);rw[rP t a,fQ f s,List.filter_filter,AF]
 ·unfold Qz;exact HG λx _=>by unfold kq M.RH;rw[Bool.and_comm]
 grind
theorem Wz {f t:A2L}{l:List Pr}(s:Sorted l):Sorted (Qz f t l):=s.sublist G4
theorem zR(k f t:A2L)(l:List Pr):Af k (Qz f t l)=if kq f t k then Af k l else none:=zP (λ_=>rfl) k l
theorem zS(k f t:A2L): ∀a:List (List Pr),Aq k (a.map (Qz f t))=if kq f t k then Aq k a else none
 | []=>by split<;>rfl
 |l::a=>by
  rw[B9,M.EK,M.EK,zS k f t a,zR];split<;>rfl
theorem zT {f t:A2L}{c:List (List Pr)}(d:bA c):bA (c.map (Qz f t)):=⟨λl a=>by
  obtain⟨x,b,rfl⟩:=List.mem_map.1 a;exact Wz (d.sorted x b),λl a=>by
  obtain⟨x,b,rfl⟩:=List.mem_map.1 a;exact λe i=>d.aS x b e (List.mem_filter.1 i).1⟩
theorem zU {f t:A2L}{a:List (List Pr)}(b:bA a):Ag (a.map (Qz f t))=Qz f t (Ag a):=
 (M.Dz _).ext (Wz (M.Dz _)) λk=>by simp_all [M.Kv,zT,zS,zR]
theorem AQr {f t:A2L}{a:List (List Pr)}(c:bA a)(b:Int):Pn t b (BG (Ag (a.map (Qz f t))))=mG (BG (Ag a)) f t b:=by
 rw[zU c];have d:BG (Qz f t (Ag a))=Qz f t (BG (Ag a)):=by simp_all [M.BG,Qz,List.filter_filter,HG,Bool.and_comm]
 rw[d];unfold M.Pn mG;have h: ∀x∈Qz f t (BG (Ag a)),RH t x=true:=λx e=>by
  have:=(List.mem_filter.1 e).2;unfold kq at this;rw[A4] at this;exact this.2
 rw[rP t (Wz (Uw (M.Dz _))),List.filter_eq_self.2 h]
def TI(A:aq)(h:aa)(s:Sl)(b:List (List Pr)):Prop:=
 ∃a,Own jV Bj h s a/\a.length=b.length/\ ∀(i:Nat) (v:ic) (l:List Pr),a[i]? =some v->b[i]? =some l->(∃ d,EQ A P v.v d h l/\ ∀c,d c->s.ah≠some c)/\l.length<=1099511627776
theorem EQ.at {A:aq}{fv:J0}{b T:Nat->Prop}{h e:aa}{l:List Pr}(d:EQ A P fv b h l)(x:Mod T h e)(f: ∀c,b c-> ¬T c):EQ A P fv b e l:=
 EQ.aj d (λ_ h=>h) (λc a=>by have:=d.1 c a;have:=x.size;omega) λc a=>x.get c (d.1 c a) (f c a)
theorem TI.ext {A:aq}{h a:aa}{s:Sl}{b:List (List Pr)}(q:TI A h s b)(x:Ext h a):TI A a s b:=by obtain⟨c,d,e,f⟩:=q;refine⟨c,d.ext x,e,λi v l j n=>?_⟩;obtain⟨⟨o,p,r⟩,t⟩:=f i v l j n;exact⟨⟨o,EQ.at p x (λ_ _ h=>h),r⟩,t⟩
theorem TI.nil {A:aq}{h:aa}:TI A h ⟨none,0,0⟩ []:=⟨[],Own.nil,rfl,λi v l h=>by simp at h⟩
theorem TI.lr {A:aq}{h:aa}{s:Sl}{b:List (List Pr)}(q:TI A h s b):M.sy A (λ_=>False) h s b:=by obtain⟨f,d,j,n⟩:=q;refine⟨f,d.view,λc a=>⟨d.lt a,λh=>h⟩,j,λi v l o p=> .inr ?_⟩;obtain⟨⟨t,e,u⟩,r⟩:=n i v l o p;exact⟨e.aj (λc a=>⟨e.1 c a,λh=>h⟩) (λc a=>a.1) (λ_ _=>rfl),r⟩
theorem TI.one {A:aq}{h a:aa}{fv:J0}{l:List Pr}{e:Nat->Prop}{b:Nat}(d:EQ A P fv e h l)(j:l.length<=1099511627776)(n:a[b]? =some (J2 #[fv] Bj (0,0)))(x:Ext h a)(s:h.size<=b):TI A a ⟨some ⟨b,0,none⟩,1,1⟩ [l]:=by
 refine⟨[⟨fv,d.one.1⟩],Own.lit (l:= [(⟨fv,d.one.1⟩:ic)]) n rfl (by simp[maxLen]),rfl,λi v t a f=>?_⟩;have o:i=0:=by grind
 subst o;simp only[Hv,BE] at a f;subst a f;exact⟨⟨e,EQ.at d x (λ_ _ h=>h),λc p r=>by have:=d.1 c p;simp[Sl.ah] at r;omega⟩,j⟩
theorem TI.add {A:aq}{h:aa}{s:Sl}{p:List (List Pr)}{fv:J0}{l:List Pr}{e:Nat->Prop}{K:Sl->aa->Prop}{z:Q7}(q:TI A h s p)(f:EQ A P fv e h l)(H: ∀c,e c->s.ah≠some c)(I:l.length<=1099511627776)(J:p.length<=1000000)
  (B: ∀a d,TI A d a (p++ [l])->Mod (λb=>s.ah=some b) h d->(∀ b,a.ah=some b->s.ah=some b\/h.size<=b)->K a d):
  ao h (J2 #[fv] Bj) λb j=>BJ A P (Builtin.append_ #[BD,BD] z #[J4 s.p s.len s.cap,J4 (some ⟨b,0,none⟩) 1 1]) j λv d=> ∃a:Sl,v=J4 a.p a.len a.cap/\K a d:=by
 obtain⟨r,C,D,L⟩:=q;refine ao.aY (E:=jV) (x:=⟨fv,f.one.1⟩) (s:=s) (l:=r) rfl M.ARm C (by omega) (by simp[maxLen];omega) λa d F u w _=>?_
 have N: ∀ {T:Nat->Prop} {t:J0} {n:List Pr},EQ A P t T h n->(∀ c,T c->s.ah≠some c)-> ∃e,EQ A P t e d n/\ ∀c,e c->a.ah≠some c:=λ{T} t n f y=>⟨T,EQ.at f u (λc o=>y c o),λc o G=>by
  rcases w c G with j|j
  ·exact y c o j
  ·have:=f.1 c o;omega⟩
 refine B a d ⟨r++ [⟨fv,f.one.1⟩],F,by simp[D],λi v n j O=>?_⟩ u w;by_cases Q:i<r.length
 ·grind
 grind
section
variable {A : aq} {g h : aa} {q : Hp} {k : Nat -> Nat} {st : Db} {m : Bx} {R : A2K}
def aG(st:Db):List (List Pr):=st.ts.map (·.2)
def Co(st:Db):List Pr:=Lt st.fr (aG st)
theorem bM.iU(a:bM g h q k st m): ∀p∈st.ts,G7 p.2:=λp c=>by
 obtain⟨i,b,rfl⟩:=Ds c;have d:i<q.ps.length:=by rw[a.cZ];exact b
 obtain⟨e,f,_,_,_,t⟩:=a.cN i q.ps[i] st.ts[i] (A2 d) (A2 b);exact t
theorem bM.fV(b:bM g h q k st m):bA (st.fr::aG st):=by
 refine⟨λl a=>?_,λl a=>?_⟩<;>rcases List.mem_cons.1 a with rfl|a
 ·exact b.fresh.sorted
 ·obtain⟨p,c,rfl⟩:=List.mem_map.1 a;exact(b.iU p c).aS.1
 ·exact b.fresh.aS
 ·obtain⟨p,c,rfl⟩:=List.mem_map.1 a;exact(b.iU p c).aS.2
theorem rQ(f t:A2L)(l:List Pr):(Qz f t l).length<=l.length:=A0s ..
theorem ASU {f t:A2L}(d:bM g h q k st m)(ap:st.fr.length<=1000000)(aq:st.ts.length<=100000)
  (O: ∀fv e,EQ A P fv (λc=>c<e.size) e (Ag ((st.fr::aG st).map (Qz f t)))->Ext h e->R fv e):AA A P SB #[Am q.d,J7 f,J7 t] h R:=by
 refine AEq ?_;unfold Xu;refine aD (AX.mk (AB d.cell rfl) ?_);refine M.sq d.fresh λfv j Q w ar=>⟨_,rfl,?_⟩
 refine M.p6 (.inr Q) (by grind) λsl au y av z=>⟨_,rfl,?_⟩
 rw[zQ d.fresh.sorted (by omega)] at y;have aw:=rQ f t st.fr;refine M.sA y.view (by omega) λax S B C ay=>⟨_,rfl,ZA.mk B.one.1 (ao.mk λaz _ T D aA=>?_)⟩
 have U:=TI.one B (by omega) T D (A0 _);have E:=((w.trans z).trans C).trans D;have V:=d.on E;refine aD (AZ.mk (s:=q.tp) (AB V.cell rfl) ?_);have aC:=d.cZ;have aE:=d.cj.len;refine Loop.rule (λF x p=> ∃(i:Nat) (sl:Sl),x=(sl,(i:Int),())/\F=q.ps.length-i/\i<=q.ps.length/\Ext h p/\(∀ c,sl.ah=some c->h.size<=c)/\TI A p sl ((st.fr::(aG st).take i).map (Qz f t))) ?_ ⟨0,⟨some ⟨S.size,0,none⟩,1,1⟩,rfl,rfl,by omega,E,λc b=>by
  simp[Sl.ah] at b;have:=((w.trans z).trans C).size;omega,by simpa using U⟩
 rintro K F _ p ⟨i,sl,rfl,rfl,aF,l,G,n⟩ W;dsimp only;refine af.intro (λX=>?_) (λX=>?_)
 ·have o:i<q.ps.length:=by grind
  have Y:i<st.ts.length:=by omega
  have H:q.ps[i]? =some q.ps[i]:=A2 o;have Z:st.ts[i]? =some st.ts[i]:=A2 Y;have aa:(aG st)[i]? =some st.ts[i].2:=by unfold aG;grind
  have I:=d.on l;refine I.cj.view.idx H λa _ c=>AX.mk (Cells.pt c) ?_
  obtain⟨aH,aI,ab,ac,aJ,r⟩:=I.cN i _ _ H Z;refine yX ab ac r.eL λaK aL ad u aM=>⟨_,rfl,?_⟩
  have aN:=r.many;refine M.p6 (.inr ad) (by grind) λaO aP J ae L=>⟨_,rfl,?_⟩
  rw[zQ r.aS.1 (by omega)] at J;have aQ:=rQ f t st.ts[i].2;refine M.sA J.view (by omega) λaR aS N ag aT=>⟨_,rfl,ZA.mk N.one.1 ?_⟩
  have v:=(u.trans L).trans ag;refine TI.add (n.ext v) N (λc b ah=>?_) (by omega) (by simp[aG];omega) λai e aj ak al=>?_
  ·obtain⟨aU,am,_,_⟩:=n;have aV:=am.lt ah;rcases b.2 with j|j
   ·have:=(u.trans L).size;omega
   ·have:=ae c j;have:=u.size;omega
  ·rw[Ae (by omega)];refine W (q.ps.length-(i+1)) _ _ (by omega) ⟨i+1,ai,rfl,rfl,o,?_,λc b=>?_,?_⟩
   ·exact(l.trans v).then (ak.aj λc _ b=> .inr (G c b))
   ·rcases al c b with j|j
    ·exact G c j
    ·have:=l.size;have:=v.size;omega
   ·rw[As,aa];simpa using aj
 ·have o:i=q.ps.length:=by grind
  subst o;rw[AF (by simp[aG];omega)] at n;refine M.si n.lr (λc h=>h.elim) (by simp[aG];omega) (zT d.fV) λfv e an x _=>⟨_,rfl,O fv e (an.aj (λc b=>b.1) (λc b=>b) (λ_ _=>rfl)) (l.trans x)⟩
theorem ZB(b:bM g h q k st m){K:Bool×Unit->aa->Prop}(c:K (false,()) h):af ((some (⟨q.d,0,none⟩:Q6)).isNone) (K (true,()) h) (At (some (⟨q.d,0,none⟩:Q6)) λa=>Aa h (a.add 8) λt=>K (t,()) h):=
 af.no rfl (aD (Aa.mk (AB b.cell rfl) c))
theorem AQz {f t:A2L}{d:Int}(a:bM g h q k st m)(n:st.fr.length<=1000000)(o:st.ts.length<=100000)(C:(Ag (st.fr::aG st)).length<=1099511627776)
  (p: ∀s b,Own BR AR b s (mG (Co st) f t d)->(∀ c,s.ah=some c->h.size<=c)->Ext h b->R (J1 #[J4 s.p s.len s.cap,J6 J9 0]) b):AA A P Ps #[Am q.d,J7 f,J7 t,J6 J9 d] h R:=by
 refine ADC ?_;unfold Vy;refine ai.mk λK r=>ZB a (r _ _ (af.no rfl ?_))
 refine ASU a n o λfv D u e=>⟨_,rfl,?_⟩
 refine M.sj (.inr u) λE F v i G=>⟨_,rfl,?_⟩
 have w:(BG (Ag ((st.fr::aG st).map (Qz f t)))).length<=1099511627776:=by
  rw[zU a.fV]
  grind [rI,Qz,Ag,aG,rQ]
 refine M.p6 (.inr v) w λj x l y z=>⟨j,rfl,?_⟩
 rw[AQr a.fV] at l;exact p j x l (λc B=>by have:=y c B;have:=(e.trans i).size;omega) ((e.trans i).trans z)
theorem zV(key:A2L): ∀ {l:List Pr},Sorted l->M.NJ key l=Vk key l
 | [],_=>rfl
 |x::l,s=>by
  have c:=List.pairwise_cons.1 s;have a:=zV key c.2;unfold M.NJ Vk at a ⊢;rw[UR,M.BB];by_cases h:aM x.key key=true
  ·rw[if_pos h,if_neg (M.Lp h),Xs];exact a
  ·rw[if_neg h,Hv];by_cases b:x.key=key
   ·simp[b]
   ·have d:Af key l=none:=M.EI λe f i=>h (by
     grind)
    simp[b,d]
def I1(m:List Pr)(key:A2L):A2L×Bool:=match Af key m with|some p=>(p.val,true)|none=>(⟨#[]⟩,false)
theorem zW {key:A2L}(d:bM g h q k st m)(al:st.ts.length<=100000)(I:key.size<=1099511627776)
  (v: ∀B,Ext h B->R (J1 #[J7 (I1 (Co st) key).1,J3 (I1 (Co st) key).2,J6 J9 0]) B):AA A P OG #[Am q.d,J7 key] h R:=by
 refine AEi ?_;unfold Xa;refine ai.mk λK J=>ZB d (J _ _ (af.no rfl ?_))
 refine aD (AX.mk (AB d.cell rfl) ?_);have C: ∀p,(Af key st.fr).or (Aq key (aG st))=some p->I1 (Co st) key=(p.val, !p.gone):=λp f=>by
  have e:Af key (Co st)=alive (some p):=by unfold Co;rw[Gf key d.fV,f]
  unfold I1;rw[e,H7];cases L:p.gone with
  |false=>rfl
  |true=>
   have N:Ah p=0:=by
    cases j:Af key st.fr with
    |some x=>
     rw[j] at f;simp only[Option.some_or,BE] at f;subst f;exact d.fresh.aS x (M.MO j).2
    |none=>
     rw[j,LO] at f;unfold M.Aq at f;obtain⟨l,O,Q⟩:=A0b f;exact d.fV.aS l (AG _ O) p (M.MO Q).2
   have S:=(oG N).gone L;show((⟨#[]⟩:A2L),false)=(p.val, !true);rw[rC S];rfl
 have T:(Af key st.fr).or (Aq key (aG st))=none->I1 (Co st) key=(⟨#[]⟩,false):=λf=>by
  have e:Af key (Co st)=alive none:=by unfold Co;rw[Gf key d.fV,f]
  unfold I1;rw[e];rfl
 refine M.AQX d.fresh λam U=>⟨_,_,_,_,rfl,?_⟩
 rw[zV key d.fresh.sorted];refine ao.pair λb V _ n W an=>?_
 have w:=U.trans W;cases j:Af key st.fr with
 |some p=>
  have e:Vk key st.fr=(p,true):=by unfold Vk;rw[j]
  rw[e] at n ⊢;refine af.yes rfl (AJ.mk (AB n rfl) (Aa.mk (AB n rfl) ?_));have:=v V w;rw[C p (by rw[j];rfl)] at this;exact this
 |none=>
  have e:Vk key st.fr=(M.Ue,false):=by unfold Vk;rw[j]
  rw[e] at n ⊢;refine af.no rfl ?_;have X:=d.on w;refine aD (AZ.mk (s:=q.tp) (AB X.cell rfl) ?_);have ap:=d.cZ;have aq:=d.cj.len;refine Loop.rule (λD x y=> ∃i:Nat,x=((i:Int),())/\D=q.ps.length-i/\i<=q.ps.length/\Ext h y/\Aq key ((aG st).take i)=none) ?_ ⟨0,rfl,rfl,by omega,w,rfl⟩;rintro ar D _ y ⟨i,rfl,rfl,au,z,o⟩ Y;dsimp only;refine af.intro (λZ=>?_) (λZ=>?_)
  ·have r:i<q.ps.length:=by grind
   have aa:i<st.ts.length:=by omega
   have E:q.ps[i]? =some q.ps[i]:=A2 r;have ab:st.ts[i]? =some st.ts[i]:=A2 aa;have ac:(aG st)[i]? =some st.ts[i].2:=by unfold aG;grind
   have F:=d.on z;refine F.cj.view.idx E λa _ c=>AX.mk (Cells.pt c) ?_
   obtain⟨av,aw,ad,ax,ay,ae⟩:=F.cN i _ _ E ab;refine ARS ad ae.eL I λaz ag=>⟨_,_,_,_,rfl,?_⟩
   refine ao.pair λaA ah _ t aj aC=>?_
   have G:=(z.trans ag).trans aj;have H:(aG st).take (i+1)=(aG st).take i++ [st.ts[i].2]:=by rw[As,ac];rfl
   have ak:Aq key (aG st)=(Af key st.ts[i].2).or (Aq key ((aG st).drop (i+1))):=by
    conv=>lhs;rw[<- DA (i+1) (aG st),H]
    rw[M.QE,M.QE,o,M.EK];have:Aq key ([]:List (List Pr))=none:=rfl;rw[this,Option.or_none,LO]
   cases u:Af key st.ts[i].2 with
   |some p=>
    have e:Vk key st.ts[i].2=(p,true):=by unfold Vk;rw[u]
    rw[e] at t ⊢;refine af.yes rfl (AJ.mk (AB t rfl) (Aa.mk (AB t rfl) ?_));have:=v ah G;rw[C p (by rw[j,ak,u];rfl)] at this;exact this
   |none=>
    have e:Vk key st.ts[i].2=(M.Ue,false):=by unfold Vk;rw[u]
    rw[e] at t ⊢;refine af.no rfl ?_;rw[Ae (by omega)];refine Y (q.ps.length-(i+1)) _ _ (by omega) ⟨i+1,rfl,rfl,r,G,?_⟩;rw[H,M.QE,o,M.EK,u];rfl
  ·have r:i=q.ps.length:=by grind
   subst r;rw[AF (by simp[aG];omega)] at o;have:=v y z;rw[T (by rw[j,o];rfl)] at this;exact this
end
open M (Sorted Af CZ A8 Ag Aq BU Ah bA BG)
def rR(a:Nat):Nat:=20000*a+10000000
structure cH where
 C:Nat
 W0:Nat
 A:Nat
 hC:C<=100000
 hA:A<=60000
 hW:W0+A*rR C<=8000000000000
def cH.K(a:cH):Nat:=rR a.C
theorem cH.wt(b:cH){a:Nat}(c:a<=b.A):b.W0+a*b.K<=8000000000000:=by
 have d:=b.hW;have f:a*b.K<=b.A*b.K:=AN _ c;have e:b.A*rR b.C=b.A*b.K:=rfl;rw[e] at d;generalize a*b.K=x at*
 generalize b.A*b.K=g at*
 omega
theorem zX: ∀a:List (List UInt8),(∀ r∈a,r.length<=1048576)->(aJ a).length<=(a.map List.length).sum+a.length*14
 | [],_=>by simp
 |r::a,b=>by
  have d:=(JQ (b r Cl)).2;have e:=zX a λx c=>b x (AG _ c)
  rw[XV];simp only[A1,B9,GO,A5];omega
theorem zY: ∀a:List (List Pr),((a.map BP).map List.length).sum=(BP a.flatten).length
 | []=>rfl
 |b::a=>by
  simp only[B9,GO,List.flatten_cons,zY a];simp[BP]
theorem ANs {a b s c f p:Nat}(d:b<=s+c*14)(e:s=p+f)(g:p<=a*8276)(h:f<=1048576)(i:c<=a+2):b<=8400*a+1100000:=by omega
theorem zZ {l:List Pr}(t:G7 l):(Jh l).length<=8400*l.length+1100000:=by
 have c:=zX (aT l (NA l)) (Np t.eL);have d:((aT l (NA l)).map List.length).sum=(BP l).length+(Vq l (NA l)).length:=by have a:=zY (Kj l);rw[AM6] at a;rw[<- a];simp only[aT,Bm,List.sum_append,B9,Sf,GO,List.sum_nil,G0]
 have b:(aT l (NA l)).length<=l.length+2:=by
  have b:(aT l (NA l)).length=Br l+1:=by simp[aT,JB]
  have e:Br l<=l.length+1:=by unfold Br;omega
  omega
 exact ANs c d (Lu t.ok) (YF t.eL) b
def N9(a:Bq):Nat:=((Ap a).names.map λb=>(a.T b).length).sum+(IU a).flatten.length
structure Ex (F:bQ) (st:Db) (D:Bq):Prop where
 ok:BK F D
 names:(Ap D).names=st.ts.map (·.1)
 cj: ∀p∈st.ts,D.T p.1=p.2
 aV:(Ap D).aV=st.aV
 next:(Ap D).next<=st.next
 below: ∀p∈st.ts,p.1<st.next
 fr:st.fr=Er D
 gD: ∀n,st.aw<=n->n<=99999999->(st.bq=true->n≠st.aw)->F (aC nl n)=none
 jB:st.bq=true->F (aC nl st.aw)=some (AY (aJ ((D.L st.aw).map (BV st.aw))),bF)
 jA: ∀n,st.aK<=n->n<=99999999->F (aC nn n)=none
 eM:1<=st.aV/\st.aV<=st.aw
 aK:1<=st.aK
 clean: ∀n,F (aX n)≠none->n∈st.ts.map (·.1)
structure Sy (st:Db) (D:Bq) (aI c:Nat):Prop where
 aw:st.aw<=8*aI+4
 aK:st.aK<=8*aI+4
 next:st.next<=8*aI+4
 cn:st.ts.length<=aI
 bX:N9 D<=c
 aP:D.aP<=8*aI+6
 aW:D.aW<=8*aI+6
structure jh (F:bQ) (D:Bq) (aI c:Nat):Prop where
 aP:D.aP<=8*aI+8
 aW:D.aW<=8*aI+8
 next:(Ap D).next<=8*aI+8
 aV:(Ap D).aV<=8*aI+8
 cn:(Ap D).names.length<=aI
 bX:N9 D<=c
 mR: ∀n,F (aX n)≠none->n<8*aI+8
def Rec(b:bQ)(aI c:Nat)(d:List Pr):Prop:= ∃a,BK b a/\jh b a aI c/\cz a=d
def ky(a:bQ)(aI c:Nat)(b:List Pr):Prop:= ∀G,Mc a G->Rec G aI c b
theorem Sy.mono {st:Db}{a:Bq}{aI b c d:Nat}(l:Sy st a aI c)(e:aI<=b)(f:c<=d):Sy st a b d:=
 ⟨by have:=l.aw;omega,by have:=l.aK;omega,by have:=l.next;omega,by have:=l.cn;omega,by have:=l.bX;omega,by have:=l.aP;omega,by have:=l.aW;omega⟩
theorem jh.mono {a:bQ}{b:Bq}{aI d c e:Nat}(l:jh a b aI c)(h:aI<=d)(i:c<=e):jh a b d e:=
 ⟨by have:=l.aP;omega,by have:=l.aW;omega,by have:=l.next;omega,by have:=l.aV;omega,by have:=l.cn;omega,by have:=l.bX;omega,λf g=>by have:=l.mR f g;omega⟩
theorem Rec.mono {a:bQ}{aI b c d:Nat}{e:List Pr}(f:Rec a aI c e)(g:aI<=b)(h:c<=d):Rec a b d e:=by obtain⟨i,j,k,l⟩:=f;exact⟨i,j,k.mono g h,l⟩
theorem Mc.some {a G:bQ}(c:Mc a G){x:A2L}(b:G x≠none):a x≠none:=λd=>b (by
 have:=c x;rw[d] at this;exact this)
theorem Ex.iC {b:bQ}{st:Db}{a:Bq}(L:Ex b st a):(Ap a).names.length=st.ts.length:=by rw[L.names];simp
theorem Ex.aG {b:bQ}{st:Db}{a:Bq}(L:Ex b st a):(Ap a).names.map a.T=G.aG st:=by rw[L.names,AT];exact CA λp c=>L.cj p c
theorem Ex.map {b:bQ}{st:Db}{a:Bq}(L:Ex b st a):cz a=Co st:=by unfold cz Co Lt;rw[L.aG,<-L.fr]
theorem Ex.lx {b:bQ}{st:Db}{a:Bq}(L:Ex b st a):gY (Ap a):=z6 L.ok
theorem Ex.nd {a:bQ}{st:Db}{b:Bq}(L:Ex a st b):(st.ts.map (·.1)).Nodup:=by rw[<- L.names];exact L.lx.nd
theorem Ex.jE {d F':bQ}{st:Db}{a:Bq}{aI c:Nat}(L:Ex d st a)(l:Sy st a aI c)(e: ∀b,F' (aX b)≠none->b<8*aI+8):jh F' a aI c:=by have:=L.next;have:=l.next;have:=L.eM;have:=l.aw;exact⟨by have:=l.aP;omega,by have:=l.aW;omega,by omega,by rw[L.aV];omega,by rw[L.iC];exact l.cn,l.bX,e⟩
theorem Ex.fA {a:bQ}{st:Db}{b:Bq}{aI c:Nat}(L:Ex a st b)(l:Sy st b aI c){n:Nat}(d:a (aX n)≠none):n<st.next:=by obtain⟨p,e,rfl⟩:=List.mem_map.1 (L.clean n d);exact L.below p e
theorem Ex.iT {a:bQ}{st:Db}{b:Bq}{aI c:Nat}(L:Ex a st b)(l:Sy st b aI c):a (aX st.next)=none:=by
 cases d:a (aX st.next) with
 |none=>rfl
 |some p=>exact absurd (L.fA l (n:=st.next) (by rw[d];simp)) (by omega)
theorem Ex.oW {b:bQ}{st:Db}{a:Bq}{aI c:Nat}(L:Ex b st a)(l:Sy st a aI c):ky b aI c (Co st):=λG d=>by
 refine⟨a,L.ok.dP d,L.jE l λf e=>?_,L.map⟩;have g:=L.fA l (d.some e);have:=l.next;omega
theorem Ex.jC {e F':bQ}{st:Db}{b:Bq}{aI c:Nat}(L:Ex e st b)(l:Sy st b aI c)(h: ∀x,(∀ a,a∉st.ts.map (·.1)->x≠aX a)->F' x=e x)(i: ∀a,F' (aX a)≠none->a<8*aI+8):BK F' b/\ky F' aI c (Co st):=by
 have f:BK F' b:=L.ok.fW λx j=>h x λa d=>j a (by rw[L.names];exact d)
 exact⟨f,λG g=>⟨b,f.dP g,L.jE l λa d=>i a (g.some d),L.map⟩⟩
theorem ALH {a b:Bq}{f:Nat}(d:b.L=a.L)(e:b.aP=a.aP)(g:(Ap b).aV=f):IU b=(List.range a.aP).flatMap λc=>if c<f then [] else a.L c:=by unfold IU;rw[d,e,g]
theorem AFS {a b:Bq}(c:b.L=a.L)(d:b.aP=a.aP)(e:(Ap b).aV=(Ap a).aV):IU b=IU a:=by rw[ALH c d e];rfl
theorem ANO {c a:Bq}{f:Nat}(d:a.L=c.L)(e:a.aP=c.aP)(g:(Ap a).aV=f)(h: ∀b,f<=b->c.L b= []):IU a= []:=by
 rw[ALH d e g,List.flatMap_eq_nil_iff];intro b _;split
 ·rfl
 ·exact h b (by omega)
theorem AHd {a b:Bq}(d:b.L=a.L)(e:b.aP=a.aP)(c:Ap b=Ap a)(f:b.T=a.T):cz b=cz a/\N9 b=N9 a:=by have g:=AFS d e (congrArg Nt.aV c);unfold cz Er N9;rw[g,c,f];exact⟨rfl,rfl⟩
structure Bv (B:cH) (g h:aa) (q:Hp) (k:Nat->Nat) (st:Db) (m:Bx) (D:Bq) (aI c:Nat):Prop where
 mem:bM g h q k st m
 up:m.down=false
 eY:Ex (ff m) st D
 lim:Sy st D aI c
 wt:bj m.files<=B.W0+aI*B.K
 hc:c<=B.C
theorem Bv.aI {b:cH}{g d:aa}{e:Hp}{f:Nat->Nat}{st:Db}{m:Bx}{h:Bq}{aI i c:Nat}(a:Bv b g d e f st m h aI c)(j:aI<=i):Bv b g d e f st m h i c:=
 ⟨a.mem,a.up,a.eY,a.lim.mono j (A0 _),AE a.wt (Ln (AN _ j) _),a.hc⟩
theorem AOd(l:List (List Pr)):M.total l=(l.map List.length).sum:=rfl
theorem Ex.cn {b:bQ}{st:Db}{a:Bq}(L:Ex b st a):N9 a=M.total (G.aG st)+(IU a).flatten.length:=by unfold N9;rw[<- L.aG,AOd,AT];rfl
theorem AMX(a:Bq):(Er a).length<=(IU a).flatten.length:=by have:=M.Qy (l:=(IU a).flatten) (t:= []);unfold Er;simpa using this
theorem Ex.di {b:bQ}{st:Db}{a:Bq}{aI c:Nat}(L:Ex b st a)(l:Sy st a aI c):st.fr.length+M.total (G.aG st)<=c:=by have d:=L.cn;have e:=AMX a;have f:=l.bX;rw[L.fr];omega
theorem Ex.jG {b:bQ}{st:Db}{a:Bq}{aI c:Nat}(L:Ex b st a)(l:Sy st a aI c):(Ag (st.fr::G.aG st)).length<=c:=by have d:=M.TZ (st.fr::G.aG st);rw[M.AJu] at d;have:=L.di l;omega
theorem Ex.fK {b:bQ}{st:Db}{a:Bq}{aI c:Nat}(L:Ex b st a)(l:Sy st a aI c):(GR (G.aG st)).length<=M.total (G.aG st):=by have d:=M.TZ (G.aG st);have e:=rI (Ag (G.aG st));unfold GR;omega
structure oE (B:cH) (h h':aa) (q:Hp) (k:Nat->Nat) (m m':Bx) (aI:Nat):Prop where
 fuel:m.fuel≠ -1
 dn:rN h' q.d
 box: ∃S',Cw h' q.b S' m'/\ ∀c,S' c->k c≠0\/h.size<=c
 down:m'.down=true
 mod:Mod (λc=>k c≠0) h h'
 fq: ∀y,¬dc y->ff m' y=ff m y
 wt:bj m'.files<=B.W0+aI*B.K
section
variable {A : aq} {B : cH} {g h : aa} {q : Hp} {k : Nat -> Nat} {st : Db} {m : Bx} {D : Bq} {aI c : Nat} {R : A2K}
theorem Ja {f:aa}{e:Nat->Prop}{i:Bx}(a:bM g h q k st m)(o:Cw f q.b e i)(j:Mod (λc=>q.Sb c\/c=q.lg\/c=q.nt) h f)(l: ∀c,e c->q.Sb c\/h.size<=c)
  (p: ∀d,rN d q.d->Cw d q.b e i->Mod (λc=>k c≠0) h d->(∀ c,e c->k c≠0\/h.size<=c)->R (J6 J9 30) d):AA A P Cg #[Am q.d,J6 J9 30] f R:=by
 have u:=a.hU;have r:f[q.d]? =some (J2 (eA q st false) FL (0,0)):=j.ah a.cell (by
  rintro(h|h|h)
  ·exact a.mQ h
  ·exact a.dl h
  ·exact a.dn h)
 have nd: ¬e q.d:=λb=>by
  rcases l _ b with h|h
  ·exact a.mQ h
  ·omega
 refine ARk r λd s n v=>p d s (o.mod n λc b t=>nd (t▸b)) ((j.aj λc _ b=>?_).trans (n.aj λc _ b=>?_)) λc b=>(l c b).imp (λh=>by rw[a.kb c h];decide) id
 ·rcases b with b|rfl|rfl
  ·rw[a.kb c b];decide
  ·rw[a.kl];decide
  ·rw[a.kn];decide
 ·rw[b,a.kd];decide
theorem AS2(a:Nat):dc (aX a):= .inr (.inr ⟨a,rfl⟩)
theorem ASt(a:Nat):dc (aC nn a):= .inr (.inl ⟨a,rfl⟩)
theorem ATH(a:Nat):dc (aC nl a):= .inl ⟨a,rfl⟩
theorem Qx {a:A2L}(h: ¬dc a)(b:Nat):a≠aX b:=λd=>h (d▸AS2 b)
theorem kZ {a:A2L}(h: ¬dc a)(b:Nat):a≠aC nn b:=λd=>h (d▸ASt b)
theorem oF {a:A2L}(h: ¬dc a)(b:Nat):a≠aC nl b:=λd=>h (d▸ATH b)
theorem APP(d:bM g h q k st m)(L:Ex (ff m) st D)(l:Sy st D aI c)(e:c<=B.C)(a:GR (aG st)≠ []):G7 (GR (aG st)):=by have f:=L.fK l;have i:=L.di l;have j:=B.hC;exact⟨a,λx b=>oG (oH.2 x b),oH.1,by omega⟩
theorem cH.step(B:cH){a w' aI d:Nat}(h:a<=B.W0+aI*B.K)(e:w'<=a+d)(hd:d<=20000*B.C+10000000):w'<=B.W0+(aI+1)*B.K:=by
 have b:(aI+1)*B.K=aI*B.K+B.K:=Nat.succ_mul _ _;have f:B.K=20000*B.C+10000000:=rfl;rw[b];generalize aI*B.K=x at*
 omega
theorem ASh {t b a c:Nat}(d:t<=8400*c+1100000)(e:b<=a)(f:a<=8000000000000)(i:c<=100000):b+t+1<=8796093022208:=by omega
theorem ASG {a b d x:Nat}(e:b<=a+x)(f:d<=b+700000):d<=a+(x+700000):=by grind
theorem AOp(a:Nat):8400*a+1100001+700000<=20000*a+10000000:=by omega
theorem cH.step2(B:cH){a b d aI:Nat}(h:a<=B.W0+aI*B.K)(e:b<=a+(8400*B.C+1100001))(f:d<=b+700000):d<=B.W0+(aI+1)*B.K:=
 B.step h (ASG e f) (AOp B.C)
theorem AJ9(br:bZ g)(S:Bv B g h q k st m D aI c)(hA:aI+1<=B.A)
  (bs: ∀h' ab,oE B h h' q k m ab (aI+1)->ky (ff ab) (aI+1) c (Co st)->R (J6 J9 30) h')
  (b4: ∀h' aH b5 bJ ab r,aH.d=q.d->aH.b=q.b->Bv B g h' aH b5 bJ ab r (aI+1) c->JU m ab->bJ.fr=st.fr->Co bJ=Co st->bJ.ts.length<=1->(∀ E,¬dc E->ff ab E=ff m E)->Mod (λc=>k c≠0) h h'->(∀ c,b5 c≠0->k c≠0\/h.size<=c)->R (J6 J9 0) h'):
  AA A P Je #[Am q.d] h R:=by
 have cP:=S;obtain⟨u,hd,L,l,a7,b⟩:=S;have eu:=B.hA;have ev:=B.hC;have ew:=B.wt (a:=aI) (by omega);refine Y9 ?_;unfold Ql;refine ai.mk λK cQ=>ZB u (cQ _ _ (af.no rfl ?_))
 refine aD (AZ.mk (s:=q.tp) (AB u.cell rfl) ?_);have ex:=u.cZ;have cR:=u.cj.len;have ey:=l.cn;refine af.intro (λI=>?_) (λI=>?_)
 ·have f:st.ts.length<=1:=by grind
  exact b4 h q k st m D rfl rfl (cP.aI (by omega)) (JU.refl hd) rfl rfl f (λ_ _=>rfl) Mod.refl (λc b=> .inl b)
 refine aD (AZ.mk (s:=q.tp) (AB u.cell rfl) ?_);refine Loop.rule (λaJ x F=> ∃(i:Nat) (sl:Sl),x=(sl,(i:Int),())/\aJ=q.ps.length-i/\i<=q.ps.length/\Ext h F/\(∀ c,sl.ah=some c->h.size<=c)/\TI A F sl ((aG st).take i)) ?_ ⟨0,⟨none,0,0⟩,rfl,rfl,by omega,Mod.refl,λc b=>by simp[Sl.ah] at b,TI.nil⟩;rintro ez aJ _ F ⟨i,sl,rfl,rfl,a8,aL,bt,a9⟩ b6;dsimp only;refine af.intro (λI=>?_) (λI=>?_)
 ·have V:i<q.ps.length:=by rw[<- cR];simpa using I
  have cS:i<st.ts.length:=by omega
  have b7:q.ps[i]? =some q.ps[i]:=A2 V;have aM:st.ts[i]? =some st.ts[i]:=A2 cS;have cT:(aG st)[i]? =some st.ts[i].2:=by unfold aG;rw[C2,aM];rfl
  have b8:=u.on aL;refine b8.cj.view.idx b7 λa _ c=>AX.mk (Cells.pt c) ?_
  obtain⟨bu,eC,cU,cV,cW,b9⟩:=b8.cN i _ _ b7 aM;refine yX cU cV b9.eL λeD bv bw N eE=>⟨_,rfl,ZA.mk bw.one.1 ?_⟩
  rw[M.se] at bw;have v:=b9.many;refine TI.add (a9.ext N) bw (λc b e=>?_) (by omega) (by simp[aG];omega) λcX h' aH ab cY=>?_
  ·obtain⟨eF,cZ,_,_⟩:=a9;have ac:=cZ.lt e;have eG:=bt c e;rcases b with f|f|f
   ·have:=cW c f.1 f.2;have:=(u.own c (by rw[this];decide)).2;omega
   ·omega
   ·omega
  ·rw[Ae (by omega)];refine b6 (q.ps.length-(i+1)) _ _ (by omega) ⟨i+1,cX,rfl,rfl,V,?_,λc b=>?_,?_⟩
   ·exact(aL.trans N).then (ab.aj λc _ b=> .inr (bt c b))
   ·rcases cY c b with f|f
    ·exact bt c f
    ·have:=aL.size;have:=N.size;omega
   ·rw[As,cT];exact aH
 have V:i=q.ps.length:=by
  have: ¬i<q.tp.len:=by simpa using I
  omega
 subst V;rw[AF (by simp[aG];omega)] at a9;clear b6;have c0:=bA.tail u.fV;refine M.si a9.lr (λc h=>h.elim) (by simp[aG];omega) c0 λeH ca c1 cb _=>⟨_,rfl,?_⟩
 refine M.sj (.inr c1) λeI ba c3 cc _=>⟨_,rfl,?_⟩
 have eJ:=L.fK l;have eK:=L.di l;have c4:(BG (Ag (aG st))).length<=1099511627776:=by have:(BG (Ag (aG st))).length=(GR (aG st)).length:=rfl;omega
 refine M.Wm c3 (λ_ _=>rfl) c4 λbx aN aw c5 c6=>⟨bx,rfl,?_⟩
 have bz:Ext h aN:=((aL.trans cb).trans cc).trans c6;have aw:Own BR AR aN bx (GR (aG st)):=aw;have bb:=u.on bz;have eL:=bz.size;refine aD (AZ.mk (s:=q.np) (AB bb.cell rfl) ?_);refine aD (ae.dq bb.cell (by simp) λeM c7 c8 eN=>?_);refine aD (ae.dq c7 (by simp) λX bB c9 eO=>?_);have bB:X[q.d]? =some (J2 (eA {q with tp:=⟨none,0,0⟩,np:=⟨none,0,0⟩} {st with next:=st.next,aV:=st.aV} false) FL (0,0)):=by simpa using bB
 have aO:Mod (· =q.d) aN X:=c8.trans c9;have am:=bb.eW (tp:=⟨none,0,0⟩) (np:=⟨none,0,0⟩) (ps:= []) (ts:= []) (next:=st.next) (aV:=st.aV) (S:=λ_=>False) bB (aO.aj λc _ b=> .inl b) Own.nil Own.nil rfl
  (λc b=>by simp[Sl.ah] at b) (λc b=>by simp[Sl.ah] at b) (λc h=>h.elim) (λi t p f=>by simp at f)
 have da: ∀c,Ld k aN.size ⟨none,0,0⟩ ⟨none,0,0⟩ (λ_=>False) c=k c:=λc=>by
  unfold Ld;split
  ·rfl
  ·rename_i f;simp[Sl.ah];omega
 have db:Ld k aN.size ⟨none,0,0⟩ ⟨none,0,0⟩ (λ_=>False)=k:=funext da;rw[db] at am;have ax:Mod (λc=>k c≠0) h X:=(Ext.mod bz).trans (aO.aj λc _ b=>by rw[b,u.kd];decide);have dd:=bb.names.view;have cd:View IM X q.np (eB st):=dd.mod aO λc b e=>by have:=u.kx c b;rw[e,u.kd] at this;cases this
 have ce:=L.iT l;have eP:=l.next;have eQ:=l.aK;have bc:st.next∉st.ts.map (·.1):=λv=>by
  obtain⟨p,W,e⟩:=List.mem_map.1 v;have:=L.below p W;omega
 refine ai.mk λde df=>?_
 have fin: ∀(F:aa) (an:Hp) (bd:Nat->Nat) (y:Bx) (z:Nat) (w:List (Nat×List Pr)),bM g F an bd {st with ts:=w,next:=z} y->an.d=q.d->an.b=q.b->JU m y->
   (∀ x,x≠aX st.next->ff y x=ff m x)->((w= []/\z=st.next/\GR (aG st)= []/\ff y (aX st.next)=none)\/(w= [(st.next,GR (aG st))]/\z=st.next+1/\ff y (aX st.next)=some (AY (Jh (GR (aG st))),bF)/\G7 (GR (aG st))))->
   bj y.files<=bj m.files+(8400*B.C+1100001)->Mod (λc=>k c≠0) h F->(∀ c,bd c≠0->k c≠0\/h.size<=c)->View IM F q.np (eB st)->(∀ c,q.np.ah=some c->bd c=7)->de () F:=by
  intro F an bd y z w ap be ay bC Y O cf bf aP dg ba;refine df _ _ ?_;have dh: ∀x,(∀ n,x≠aX n)->ff y x=ff m x:=λx J=>Y x (J _)
  have di:BK (ff y) D:=L.ok.fW λx J=>Y x (J st.next (by rw[L.names];exact bc))
  have dj:gY (cO {st with ts:=w,next:=z}):=by
   have eR:=L.eM;have eS:=l.aw;rcases O with⟨rfl,rfl,_,_⟩|⟨rfl,rfl,_,_⟩
   ·exact⟨by show st.next<=_;omega,by show 1<=st.aV/\st.aV<=_;omega,by simp[cO],by simp[cO],by simp[cO]⟩
   ·exact⟨by show st.next+1<=_;omega,by show 1<=st.aV/\st.aV<=_;omega,by simp[cO],by simp[cO],by simp[cO]⟩
  have dk: ∀n∈(cO {st with ts:=w,next:=z}).names,ff y (aX n)=some (AY (Jh ((λ_=>GR (aG st)) n)),bF)/\G7 ((λ_=>GR (aG st)) n):=λn o=>by
   rcases O with⟨rfl,rfl,_,_⟩|⟨rfl,rfl,f,H⟩
   ·simp[cO] at o
   ·have o:n=st.next:=by simpa [cO] using o
    subst o;exact⟨f,H⟩
  have cg: ∀r:Bq,r.L=D.L->r.aP=D.aP->Ap r=cO {st with ts:=w,next:=z}->r.T=(λ_=>GR (aG st))->cz r=Co st/\N9 r<=c/\Er r=st.fr:=λr bD bE ad bg=>by
   have ay:=AFS bD bE (by rw[ad];exact L.aV.symm);have ch:Er r=st.fr:=by unfold Er;rw[ay];exact L.fr.symm
   have eT:=L.cn;have eU:=l.bX;refine⟨?_,?_,ch⟩
   ·unfold cz;rw[ch,ad,bg];rcases O with⟨rfl,rfl,f,_⟩|⟨rfl,rfl,_,_⟩
    ·exact AB5 u.fV f
    ·exact WM u.fV
   ·unfold N9;rw[ay,ad,bg];rcases O with⟨rfl,rfl,f,_⟩|⟨rfl,rfl,_,_⟩
    ·show 0+(IU D).flatten.length<=c;omega
    ·show((GR (aG st)).length+0)+(IU D).flatten.length<=c;omega
  have ci: ∀ {aq:bQ},(∀ n,aq (aX n)≠none->ff y (aX n)≠none)-> ∀n,aq (aX n)≠none->n<8*(aI+1)+8:=λbG n o=>by
   by_cases e:n=st.next
   ·omega
   ·have f:=bG n o;rw[Y _ λaQ=>e (JV aQ)] at f;have:=L.fA l f;omega
  have cj: ∀(r:Bq) (aq:bQ),BK aq r->r.L=D.L->r.aP=D.aP->r.aW<=max D.aW (st.aK+1)->Ap r=cO {st with ts:=w,next:=z}->r.T=(λ_=>GR (aG st))->(∀ n,aq (aX n)≠none->ff y (aX n)≠none)->Rec aq (aI+1) c (Co st):=λr aq f bD bE o ad bg bG=>by
   obtain⟨aR,aS,_⟩:=cg r bD bE ad bg;have:=l.aP;have:=l.aW;have:=L.eM;have:=l.aw;refine⟨r,f,⟨by omega,by omega,?_,?_,?_,aS,ci bG⟩,aR⟩
   ·rw[ad];show z<=_;omega
   ·rw[ad];show st.aV<=_;omega
   ·rw[ad];rcases O with⟨rfl,_⟩|⟨rfl,_⟩<;>simp[cO]
  rw[<- be];have dl:bj y.files+1000000<=8000000000000:=by have f:=B.wt (a:=aI+1) hA;have H:=B.step (d:=8400*B.C+1100001+1000000) a7 (w':=bj y.files+1000000) (by omega) (by omega);omega
  refine zN (T:=λ_=>GR (aG st)) br ap bC.up di dj dk ⟨L.aK,by show st.aK+2<=_;omega⟩ (λn aT aU=>by rw[dh _ λk=>Qf n k];exact L.jA n aT aU) dl
   (λbH aW bI ag dm dn bh dp dq Z bK=>⟨_,rfl,af.yes rfl ?_⟩) λaW bI ck ag D3 dr bL cl ar bN bO bP cm Z ds bK bh cn=>⟨_,rfl,af.no rfl ?_⟩
  ·refine Ja ap dm (bh.aj λc _ b=>b.imp id .inr) dp λco dt du dv dw=>⟨_,rfl,?_⟩
   have dx:Mod (λc=>k c≠0) h co:=bf.then (dv.aj λc _ b=>aP c b);have bi:bj ag.files<=B.W0+(aI+1)*B.K:=B.step2 a7 cf bK;refine bs co ag ⟨λF=>bH (bC.calm F),by rw[<- be];exact dt,⟨bI,by rw[<- ay];exact du,λc b=>?_⟩,dn,dx,λE Q=>?_,bi⟩ λG aY=>?_
   ·rcases dw c b with f|f
    ·exact aP c f
    ·exact .inr (by have:=bf.size;omega)
   ·rw[Z E λn=>kZ Q n,Y E (Qx Q _)]
   ·obtain⟨r,cp,nx⟩:=dq G aY;have cq: ∀n,G (aX n)≠none->ff y (aX n)≠none:=λn o=>by
     have:=aY.some o;rwa [Z _ λj e=>Qf j n e.symm] at this
    rcases nx.last with⟨ah,bk⟩|⟨ah,bk⟩
    ·obtain⟨aR,aS⟩:=AHd nx.L nx.aP ah bk;have:=l.aP;have:=l.aW;have:=L.eM;have:=l.aw;have:=L.next;have dy:=nx.aW;have bR:({st with ts:=w,next:=z}:Db).aK=st.aK:=rfl;rw[bR] at dy;exact⟨r,cp,⟨by rw[nx.aP];omega,by omega,by rw[ah];omega,by rw[ah,L.aV];omega,by rw[ah,L.iC];omega,by rw[aS];exact l.bX,ci cq⟩,by rw[aR];exact L.map⟩
    ·exact cj r G cp nx.L nx.aP nx.aW ah bk cq
  ·
   have bi: ∀ {cr},cr<=bj ag.files->cr<=B.W0+(aI+1)*B.K:=λdz=>B.step2 a7 cf (AE dz bK)
   have dA:View IM aW q.np (eB st):=dg.mod bh λc b e=>by
    have f:=ba c b;rcases e with e|e
    ·rw[ap.kb c e] at f;cases f
    ·rw[e,ap.kn] at f;cases f
   have dB: ∀c,q.np.ah=some c->c<F.size:=λc b=>(ap.own c (by rw[ba c b];decide)).2
   have eV:q.np.len=st.ts.length:=by rw[u.names.len];simp
   have dC:Mod (λc=>k c≠0) h aW:=bf.then (bh.aj λc _ b=>by
    rcases b with b|b
    ·exact aP c (by rw[ap.kb c b];decide)
    ·exact aP c (by rw[b,ap.kn];decide))
   have dD: ∀c,ck c≠0->k c≠0\/h.size<=c:=λc b=>by
    by_cases ac:c<F.size
    ·rw[cn c ac] at b;exact aP c b
    ·exact .inr (by have:=bf.size;omega)
   have dE: ∀n,(∃ p∈st.ts,p.1=n)->(ff ag (aX n)).isSome=true/\n≠st.next:=λn o=>by
    obtain⟨p,W,rfl⟩:=o;have ac:=L.below p W;have aj:p.1≠st.next:=by omega
    have f:=(L.ok.cN p.1 (by rw[L.names];exact List.mem_map.2 ⟨p,W,rfl⟩)).1;rw[Z _ λj e=>Qf j _ e.symm,Y _ λe=>aj (JV e),f];exact⟨rfl,aj⟩
   have dF:=L.nd;obtain⟨aR,aS,dG⟩:=cg D3 bO bP ar bN;have eW:bL.up=bL.up:=rfl;refine Loop.rule (λaJ x J=> ∃(i:Nat) (bm:Nat->Prop) (aZ:Nat->Nat) (C:Bx),x=((i:Int),())/\aJ=st.ts.length-i/\i<=st.ts.length/\bM g J {an with Sb:=bm} aZ {st with ts:=w,next:=z,aK:=st.aK+1} C/\JU m C/\bj C.files<=bj ag.files/\
     (∀ x,(∀ n∈(st.ts.map (·.1)).take i,x≠aX n)->ff C x=ff ag x)/\(∀ n∈(st.ts.map (·.1)).take i,ff C (aX n)=none)/\Mod (λc=>k c≠0) h J/\(∀ c,aZ c≠0->k c≠0\/h.size<=c)/\View IM J q.np (eB st)/\(∀ c,q.np.ah=some c->aZ c=7)) ?_
    ⟨0,bI,ck,ag,rfl,rfl,by omega,dr,bC.trans bL,A0 _,λx _=>rfl,by simp,dC,dD,dA,λc b=>by rw[cn c (dB c b)];exact ba c b⟩
   rintro eX aJ _ J ⟨i,bm,aZ,C,rfl,rfl,a8,ak,a0,bS,U,bn,a1,a2,cs,bT⟩ dH;dsimp only;refine af.intro (λI=>?_) (λI=>?_)
   ·have V:i<st.ts.length:=by have:=of_decide_eq_true I;omega
    have aM:st.ts[i]? =some st.ts[i]:=A2 V;have ct:(st.ts.map (·.1))[i]? =some st.ts[i].1:=by rw[C2,aM];rfl
    have cu:st.ts[i]∈st.ts:=AW V;have eY:=L.below _ cu;refine cs.idx (i:=i) (x:=(st.ts[i].1:Int)) (by rw[eB,C2,aM];rfl) λa _ dI=>AC.mk dI.int ?_
    refine aD (AX.mk (AO ak.cell rfl) ?_);refine Qb (ak.hZ br) (by omega) λbv N=>⟨_,rfl,⟨AO (ak.on N).cell rfl,?_⟩⟩
    have bU:=ak.on N;refine XK bU.box λca cv bV bo cw=>⟨_,rfl,?_⟩
    have dJ:st.ts[i].1∉(st.ts.map (·.1)).take i:=λv=>by
     obtain⟨j,a3,e⟩:=Ds v;have eZ:j<i:=by have:=a3;simp at this;omega
     rw[List.getElem_take] at e;have f:=(List.getElem?_eq_some_iff.1 ct);have H:=(LN (h₀:=by simp;omega) (h₁:=f.1) dF).1 (e.trans f.2.symm);omega
    have dK:(ff C (aX st.ts[i].1)).isSome=true:=by rw[U _ λn o e=>dJ (by rw[JV e];exact o)];exact(dE _ ⟨_,cu,rfl⟩).1
    have bW:(st.ts.map (·.1)).take (i+1)=(st.ts.map (·.1)).take i++ [st.ts[i].1]:=by rw[As,ct];rfl
    have dL:Mod (λc=>k c≠0) h ca:=a1.then (((Ext.mod N).trans bo).aj λc _ b=>a2 c (by rw[ak.kb c b];decide));rcases RL (k:=aX st.ts[i].1) a0.up dK with⟨dM,bX⟩|⟨bX,dN,cx⟩
    ·rw[bX] at bV ⊢;refine af.yes rfl ?_;refine Ja (q:= {an with Sb:=bm}) bU bV (bo.aj λc _ b=> .inl b) (λc b=> .inl (cw c b)) λcy dO dP dQ dR=>⟨_,rfl,?_⟩
     have dS:Mod (λc=>k c≠0) h cy:=(a1.trans (Ext.mod N)).then (dQ.aj λc _ b=>a2 c b);have dT: ∀n,ff C (aX n)≠none->ff y (aX n)≠none:=λn o=>by
      by_cases v:n∈(st.ts.map (·.1)).take i
      ·exact absurd (bn n v) o
      ·rw[U _ λj a3 e=>v (by rw[JV e];exact a3),Z _ λj e=>Qf j n e.symm] at o;exact o
     have bY:BK (ff C) D3:=cl.fW λx az=>U x λn o e=>az n (by
      rw[ar];intro v;rcases O with⟨rfl,_⟩|⟨rfl,_⟩
      ·simp[cO] at v
      ·have:n=st.next:=by simpa [cO] using v
       have cB:n∈st.ts.map (·.1):=DM o;rw[this] at cB;exact bc cB) e
     refine bs cy (NN C) ⟨(λF=>by have:=a0.calm F;rw[dM] at this;cases this),by rw[<- be];exact dO,⟨cv,by rw[<- ay];exact dP,λc b=>?_⟩,rfl,dS,λE Q=>?_,bi bS⟩ λG aY=>?_
     ·rcases dR c b with f|f
      ·exact a2 c f
      ·exact .inr (by have:=(a1.trans (Ext.mod N)).size;omega)
     ·rw[oM,U E λn _=>Qx Q n,Z E λn=>kZ Q n,Y E (Qx Q _)]
     ·exact cj D3 G (bY.dP aY) bO bP cm ar bN λn o=>dT n (aY.some o)
    ·rw[bX];refine af.no rfl ?_;have dU:=bU.boxed (j:=2) (bJ:= {st with ts:=w,next:=z,aK:=st.aK+1}) bV (bo.aj λc _ b=> .inl b) (λc b=> .inl (cw c b)) rfl rfl rfl rfl (.inl ⟨by decide,rfl,rfl⟩) (.inl ⟨by decide,rfl⟩);have dV:=Zi (m:=C) (aX st.ts[i].1);rw[Ae (by omega)];refine dH (st.ts.length-(i+1)) _ _ (by omega) ⟨i+1,cv,_,_,rfl,rfl,V,dU,a0.trans dN,AE dV bS,λx az=>?_,λn o=>?_,dL,λc b=>?_,?_,λc b=>?_⟩
     ·rw[cx,if_neg (az _ (by rw[bW];simp))];exact U x λn o=>az n (by rw[bW];exact List.mem_append.2 (.inl o))
     ·rw[cx];split
      ·rfl
      ·rename_i aj;rw[bW] at o;rcases List.mem_append.1 o with o|o
       ·exact bn n o
       ·exact absurd (by rw[List.mem_singleton.1 o]) aj
     ·by_cases ac:c<bv.size
      ·rw[GL ac] at b;exact a2 c b
      ·exact .inr (by have:=(a1.trans (Ext.mod N)).size;omega)
     ·exact(cs.ext N).mod bo λc b e=>by
       have f:=bT c b;rw[ak.kb c e] at f;cases f
     ·have ac:c<bv.size:=by have:=(ak.own c (by rw[bT c b];decide)).2;have:=N.size;omega
      rw[GL ac];exact bT c b
   ·have V:i=st.ts.length:=by have: ¬(i:Int)<((q.np.len:Nat):Int):=of_decide_eq_false I;omega
    subst V;rw[AF (by simp)] at U bn;have dW: ∀n,ff C (aX n)≠none->n=st.next/\ff y (aX n)≠none:=λn o=>by
     by_cases v:n∈st.ts.map (·.1)
     ·exact absurd (bn n v) o
     ·rw[U _ λj a3 e=>v (by rw[JV e];exact a3),Z _ λj e=>Qf j n e.symm] at o;refine⟨?_,o⟩;by_cases e:n=st.next
      ·exact e
      ·rw[Y _ λaQ=>e (JV aQ)] at o;exact absurd (L.clean n o) v
    have cC: ∀n,ff C (aC nl n)=ff m (aC nl n):=λn=>by
     rw[U _ λj _=>Lx n j,Z _ λj=>WH n j,Y _ (Lx n _)]
    have bY:BK (ff C) D3:=cl.fW λx az=>U x λn o e=>az n (by
     rw[ar];intro v;rcases O with⟨rfl,_⟩|⟨rfl,_⟩
     ·simp[cO] at v
     ·have:n=st.next:=by simpa [cO] using v
      rw[this] at o;exact bc o) e
    have dX: ∀p∈w,D3.T p.1=p.2:=λp W=>by
     rw[bN];rcases O with⟨rfl,_⟩|⟨rfl,_⟩
     ·cases W
     ·rw[List.mem_singleton.1 W]
    have dY: ∀p∈w,p.1<z:=λp W=>by
     rcases O with⟨rfl,_⟩|⟨rfl,rfl,_⟩
     ·cases W
     ·rw[List.mem_singleton.1 W];exact Hj _
    have dZ: ∀n,ff C (aX n)≠none->n∈w.map (·.1):=λn o=>by
     obtain⟨e,H⟩:=dW n o;rcases O with⟨rfl,_,_,aW⟩|⟨rfl,_⟩
     ·rw[e] at H;exact absurd aW H
     ·simp[e]
    have cD:Ex (ff C) {st with ts:=w,next:=z,aK:=st.aK+1} D3:=
     ⟨bY,by rw[ar];rfl,dX,by rw[ar];rfl,by rw[ar];exact A0 _,dY,dG.symm,λn aT aU aj=>by rw[cC];exact L.gD n aT aU aj,λv=>by rw[cC,bO];exact L.jB v,
      λn aT aU=>by rw[U _ λj _=>Qf n j];exact ds n aT aU,L.eM,by show 1<=st.aK+1;omega,dZ⟩
    have d0:Sy {st with ts:=w,next:=z,aK:=st.aK+1} D3 (aI+1) c:=by
     have:=l.aw;have:=l.aP;have:=l.aW;have bR:({st with ts:=w,next:=z}:Db).aK=st.aK:=rfl;rw[bR] at cm;refine⟨by show st.aw<=_;omega,by show st.aK+1<=_;omega,?_,?_,aS,by rw[bP];omega,by omega⟩
     ·show z<=_;omega
     ·show w.length<=_;rcases O with⟨rfl,_⟩|⟨rfl,_⟩<;>simp
    refine b4 J {an with Sb:=bm} aZ _ C D3 be ay ⟨ak,a0.up,cD,d0,bi bS,b⟩ a0 rfl ?_ ?_ (λE Q=>?_) a1 a2
    ·rw[<- aR];exact cD.map.symm
    ·show w.length<=1;rcases O with⟨rfl,_⟩|⟨rfl,_⟩<;>simp
    ·rw[U E λn _=>Qx Q n,Z E λn=>kZ Q n,Y E (Qx Q _)]
 refine af.intro (λI=>?_) (λI=>?_)
 ·have aj:GR (aG st)≠ []:=λe=>by
   have f:=of_decide_eq_true I;have H:=aw.len;rw[e] at H;simp at H;omega
  have bp:=APP (B:=B) u L l b aj;have e0:=zZ bp;refine aD (AC.mk (AB am.cell rfl) ?_);have d1:View BR X bx (GR (aG st)):=aw.view.mod aO λc b e=>by have:=c5 c b;have:=u.hU;have:=(aL.trans cb).size;have:=cc.size;omega
  have e1:(Jh (GR (aG st))).length<=8400*B.C+1100000:=by omega
  refine zM (q:= {q with tp:=⟨none,0,0⟩,np:=⟨none,0,0⟩,ps:= []}) (n:=st.next) br am hd bp d1 (λc b=>by have:=aw.lt b;have:=aO.size;omega) (by omega) ce (by omega) (λbH au cE aA d2 d3 a4 d4 aE d5=>⟨_,_,rfl,af.yes rfl ?_⟩) λau cE cF aA t bu a8 b0 d6 aE d5 cG e2 e3 cH a4 cI=>⟨_,_,rfl,af.no rfl ?_⟩
  ·refine Ja (q:= {q with tp:=⟨none,0,0⟩,np:=⟨none,0,0⟩,ps:= []}) am d2 (a4.aj λc _ b=> .inl b) d4 λav d7 d8 d9 ea=>⟨_,rfl,?_⟩
   have eb:BK (ff aA) D/\ky (ff aA) (aI+1) c (Co st):=by
    refine L.jC (l.mono (BW _) (A0 _)) (λx J=>aE x (J _ bc)) λn o=>?_
    by_cases e:n=st.next
    ·omega
    ·rw[aE _ λaQ=>e (JV aQ)] at o;have:=L.fA l o;omega
   have ec:bj aA.files<=bj m.files+(8400*B.C+1100001):=by omega
   exact bs av aA ⟨bH,d7,⟨cE,d8,λc b=>(ea c b).imp id λh=>by have:=ax.size;omega⟩,d3,ax.then (d9.aj λc _ b=> .inl b),λE Q=>aE E (Qx Q _),B.step2 a7 ec (Iv _ _)⟩ eb.2
  ·refine ao.mk λav _ ed a5 e4=>?_
   have bq:=b0.on a5;refine aD (AC.mk (AB bq.cell rfl) (ao.mk λee _ ef a6 e5=>?_));have cJ:=bq.on a6;refine aD (ae.dq cJ.cell (by simp) λe6 eg eh e7=>aD (ae.dq eg (by simp) λe8 cK ei e9=>?_));refine aD (AC.mk (AB cK rfl) (aD (ae.dq cK (by simp) λal cL ej fa=>?_)));have ek:J8 J9 (((st.next:Nat):Int)+(1:Int))=((st.next+1:Nat):Int):=Ae (by omega);have aF:Mod (· =q.d) ee al:=(eh.trans ei).trans ej;have el:al[au.size]? =some (J2 #[Am t] BL (0,0)):=aF.ah (a6.ah ed λh=>h) (by have:=b0.hU;show ¬_=q.d;have e:(q.d:Nat)<au.size:=this;omega);have en:al[av.size]? =some (J2 #[J6 J9 (st.next:Int)] Bp (0,0)):=aF.ah ef (by have:=bq.hU;have e:(q.d:Nat)<av.size:=this;show ¬_=q.d;omega);have eo:Own fL BL al ⟨some ⟨au.size,0,none⟩,1,1⟩ [t]:=Own.lit (l:= [t]) el rfl (by simp[maxLen]);have on:Own IM Bp al ⟨some ⟨av.size,0,none⟩,1,1⟩ (([(st.next,GR (aG st))]:List (Nat×List Pr)).map λp=>(p.1:Int)):=Own.lit (l:= [((st.next:Nat):Int)]) en rfl (by simp[maxLen]);have fb:=a4.size;have cM: ∀c,au.size<=c->cF c=0:=λc b=>cH c (by have:=cG.fA;omega)
   have ep:=cJ.eW (h':=al) (tp:=⟨some ⟨au.size,0,none⟩,1,1⟩) (np:=⟨some ⟨av.size,0,none⟩,1,1⟩) (ps:= [t]) (ts:= [(st.next,GR (aG st))]) (next:=st.next+1) (aV:=st.aV) (S:=λc=>bu<=c/\c<a8)
    (by rw[ek] at cL;simpa [eA] using cL) (aF.aj λc _ b=> .inl b) eo on rfl
    (λc b=> .inr (by
     have e:au.size=c:=by simpa [Sl.ah] using b
     subst e;have b1:=b0.ext.size;refine⟨cM _ (A0 _),b1,by simp[Sl.ah];omega,by omega⟩))
    (λc b=> .inr (by
     have e:av.size=c:=by simpa [Sl.ah] using b
     subst e;have b1:=bq.ext.size;refine⟨cM _ (by omega),b1,by simp[Sl.ah];omega,by omega⟩))
    (λc b=>⟨by have:=am.ext.size;omega,by omega⟩)
    (λi t' p f H=>by
     have eq:i=0:=by have:=(List.getElem?_eq_some_iff.1 f).1;simpa using this
     subst eq;simp only[Hv,BE] at f H;subst f H;refine .inr ⟨bu,a8,(cG.ext (a5.trans a6)).mod aF (λc b2 c2 e=>?_),by omega,λc b2 c2=>⟨⟨b2,c2⟩,cH c b2⟩,bp⟩;have:=am.hU;have bk:(q.d:Nat)<X.size:=this;omega)
   have er:Mod (λc=>k c≠0) h al:=by
    refine(ax.trans ((a4.aj λc _ b=>?_))).trans ((Ext.mod (a5.trans a6)).trans (aF.aj λc _ b=>?_))
    ·rw[u.kb c b];decide
    ·rw[b,u.kd];decide
   have b3: ∀c,q.np.ah=some c->c<X.size/\k c=7:=λc b=>⟨by have:=u.names.lt b;have:=ax.size;omega,u.kx c b⟩
   refine fin al _ _ aA (st.next+1) _ ep rfl rfl d6 (λx J=>by rw[aE,if_neg J]) (.inr ⟨rfl,rfl,by rw[aE,if_pos rfl],bp⟩) (by omega) er (λc b=>?_) ?_ λc b=>?_
   ·by_cases ac:c<h.size
    ·left;intro es;have cN:c<X.size:=by have:=ax.size;omega
     have ah:cF c=0:=by rw[cI c cN];exact es
     have fc:=cN;apply b;unfold Ld;rw[if_neg (by simp[ah]),if_neg (by simp[Sl.ah];omega),if_neg (by simp[Sl.ah];have:=a5.size;omega),if_neg (by omega)]
    ·exact .inr (by omega)
   ·refine((cd.mod a4 λc b e=>?_).ext (a5.trans a6)).mod aF λc b e=>?_
    ·have:=(b3 c b).2;rw[u.kb c e] at this;cases this
    ·have:=(b3 c b).2;rw[e,u.kd] at this;cases this
   ·obtain⟨f,H⟩:=b3 c b;unfold Ld;rw[cI c f,H];rfl
 ·have et:GR (aG st)= []:=by have f:=of_decide_eq_false I;have H:=aw.len;exact Dd (by omega)
  refine fin X _ k m st.next [] am rfl rfl (JU.refl hd) (λx _=>rfl) (.inl ⟨rfl,rfl,et,ce⟩) (by omega) ax (λc b=> .inl b) cd λc b=>u.kx c b
end
end Go.Lf.G
