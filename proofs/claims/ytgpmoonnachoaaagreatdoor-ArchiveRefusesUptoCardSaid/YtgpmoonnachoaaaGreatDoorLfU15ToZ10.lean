/-
 The plain law of a box, file by file: firm and soft bytes.
-/
import Derived.Test.YtgpmoonnachoaaaGreatDoorLfU2ToS3
import Derived.Test.YtgpmoonnachoaaaGreatDoorLfX2ToS5
import Derived.Test.YtgpmoonnachoaaaGreatDoorLfAToN1
import Derived.Lib.AppendZerosOnto
import Derived.Lib.Overlaps
import Derived.Laws.IdiomCopy
import Derived.Laws.Externs
set_option maxRecDepth 100000
set_option linter.unusedVariables false
set_option linter.unusedSimpArgs false
open Go.IntKind renaming i64→J9,wrap→J8
open Go.Value renaming string→J7,int→J6,pointer→J5,slice→J4,bool→J3,tuple→J1
open Go.Obj renaming cells→J2
open Go renaming Value→J0,Addr→Q6,TypeId→Q7,FuncId→Q8,Program→Q1
open Go.Addr renaming add→Q9,mk→Q5
namespace Go.Lf
open Go
def ff(m:Bx)(a:A2K):Option (A2K×A2K):=(Cc a m.files).map λf=>(f.bX,f.soft)
theorem SI {m:Bx}{k:A2K}:(Cc k m.files).isSome=(ff m k).isSome:=by unfold ff;cases Cc k m.files<;>rfl
theorem YS {m:Bx}(hd:m.down=false)(a:A2K):FD m a=match ff m a with|none=>(bq,31)|some p=>(p.1++p.2,0):=by unfold FD ff;rw[if_neg (by simp[hd])];cases Cc a m.files<;>rfl
theorem rj(m:Bx)(l:List Fi)(a:A2K):ff {Hy m with files:=l} a=(Cc a l).map λf=>(f.bX,f.soft):=rfl
theorem AKr {a x:A2K}(l:List Fi):Cc x (UX a l)=if x=a then some ((Cc a l).getD ⟨a,bq,bq⟩) else Cc x l:=by
 unfold UX;cases c:Cc a l with
 |some f=>
  simp only[Option.isSome_some,if_true];by_cases b:x=a
  ·subst b;simp[c]
  ·rw[if_neg b]
 |none=>
  rw[if_neg (by simp),wH (λd e=>SH c d e)];by_cases b:x=a
  ·subst b;simp
  ·rw[if_neg b,if_neg (λg=>b g.symm)]
def iN(m:Bx):Prop:=m.down=false/\m.fuel≠0
theorem wm {m:Bx}(g:iN m){k d:A2K}(c:Jr k=false):(CS m k d).1=0/\ ∀x,ff (CS m k d).2 x=if x=k then some (((ff m k).getD (bq,bq)).1,((ff m k).getD (bq,bq)).2++d) else ff m x:=by
 unfold CS;rw[if_neg (by simp[g.1]),if_neg (by simp[c]),if_neg g.2];refine⟨rfl,λx=>?_⟩;rw[rj,rp (g:=SA d) (λ_=>rfl),AKr];unfold ff;by_cases a:x=k
 ·subst a;rw[if_pos rfl,if_pos rfl];cases b:Cc x m.files with
  |none=>simp[SA]
  |some f=>
   have:=(JJ b).1;simp[SA,this]
 ·rw[if_neg a,if_neg a];cases b:Cc x m.files with
  |none=>rfl
  |some f=>
   have:=(JJ b).1;simp only[HP];rw[if_neg (by rw[this];exact a)]
theorem wo {m:Bx}(g:iN m){b:A2K}{p:A2K×A2K}(c:ff m b=some p):(FR m b).1=0/\ ∀x,ff (FR m b).2 x=if x=b then some (p.1++p.2,bq) else ff m x:=by
 have a: ∃f,Cc b m.files=some f/\(f.bX,f.soft)=p:=by
  unfold ff at c;cases a:Cc b m.files with
  |none=>rw[a] at c;cases c
  |some f=>rw[a] at c;exact⟨f,rfl,By c⟩
 obtain⟨f,a,rfl⟩:=a;unfold FR;rw[if_neg (by simp[g.1]),if_neg (by simp[a]),if_neg g.2];refine⟨rfl,λx=>?_⟩;rw[rj,rp (g:=Sj) (λ_=>rfl)];by_cases d:x=b
 ·subst d;have:=(JJ a).1;rw[if_pos rfl,a];simp[Sj,this]
 ·rw[if_neg d];unfold ff;cases e:Cc x m.files with
  |none=>rfl
  |some h=>
   have:=(JJ e).1;simp only[HP];rw[if_neg (by rw[this];exact d)]
theorem wq {m:Bx}(g:iN m){k:A2K}(a:(ff m k).isSome=true):(Cj m k).1=0/\ ∀x,ff (Cj m k).2 x=if x=k then none else ff m x:=by
 have b:(Cc k m.files).isNone=false:=by
  rw[<- SI] at a;cases b:Cc k m.files with
  |none=>rw[b] at a;cases a
  |some f=>rfl
 unfold Cj;rw[if_neg (by simp[g.1]),if_neg (by simp[b]),if_neg g.2];refine⟨rfl,λx=>?_⟩;rw[rj,rq];split<;>rfl
theorem AMQ {m:Bx}(l:List Fi):({Hy m with files:=l}:Bx).down=m.down:=by show(Hy m).down=m.down;unfold Hy;split<;>rfl
def Calm(m:Bx):Prop:=m.down=false/\m.fuel= -1
theorem Calm.goes {m:Bx}(c:Calm m):iN m:=⟨c.1,by rw[c.2];decide⟩
theorem rk {m:Bx}(c:Calm m):Hy m=m:=by unfold Hy;rw[if_neg (by rw[c.2];decide)]
theorem AN9:Calm gW:=⟨rfl,rfl⟩
theorem AIR {m:Bx}(c:Calm m)(a b:A2K):Calm (CS m a b).2:=by
 unfold CS;rw[if_neg (by simp[c.1])];split
 ·exact c
 ·rw[if_neg (by rw[c.2];decide),rk c];exact⟨c.1,c.2⟩
theorem ANk {m:Bx}(c:Calm m)(a:A2K):Calm (FR m a).2:=by
 unfold FR;rw[if_neg (by simp[c.1])];split
 ·exact c
 ·rw[if_neg (by rw[c.2];decide),rk c];exact⟨c.1,c.2⟩
theorem AIA {m:Bx}(c:Calm m)(a:A2K):Calm (Cj m a).2:=by
 unfold Cj;rw[if_neg (by simp[c.1])];split
 ·exact c
 ·rw[if_neg (by rw[c.2];decide),rk c];exact⟨c.1,c.2⟩
theorem wu: ∀ {l f:List Nat},l.Pairwise (· < ·)->f.Pairwise (· < ·)->(∀ e,e∈l↔e∈f)->l=f
 | [],[],_,_,_=>rfl
 | [],b::f,_,_,d=>by have:=(d b).2 (by simp);cases this
 |a::l,[],_,_,d=>by have:=(d a).1 (by simp);cases this
 |a::l,b::f,h,i,d=>by
  rw[PJ] at h i;have k:a=b:=by
   rcases List.mem_cons.1 ((d a).1 (by simp)) with c|c
   ·exact c
   ·rcases List.mem_cons.1 ((d b).2 (by simp)) with j|j
    ·exact j.symm
    ·have:=i.1 a c;have:=h.1 b j;omega
  subst k;have:l=f:=wu h.2 i.2 λe=>by
   constructor
   ·intro g;rcases List.mem_cons.1 ((d e).1 (AG _ g)) with c|c
    ·have:=h.1 e g;omega
    ·exact c
   ·intro g;rcases List.mem_cons.1 ((d e).2 (AG _ g)) with c|c
    ·have:=i.1 e g;omega
    ·exact c
  rw[this]
end Go.Lf
namespace Go.Lf.G
open Go
theorem AQo {b:A2K}{m:Bx}{l:List Nat}{c:Nat->List A2K}(hd:m.down=false)(d: ∀a∈l,∃p,ff m (aC b a)=some p/\NW (bl (p.1++p.2)) ((c a).map bl)):TF b m l=l.flatMap c:=by
 unfold TF
 induction l with
 |nil=>rfl
 |cons a l e=>
  obtain⟨p,f,g⟩:=d a (by simp);rw[AF,AF,e λh i=>d h (AG _ i)];congr 1;have j:iR m b a=p.1++p.2:=by unfold iR;rw[YS hd,f]
  rw[j,APT g,AT]
  conv=>rhs;rw[<- Kd (c a)]
  exact CH λx _=>LP x
theorem yP {nm:A2K}{a:Nat}(e:nm.size<=8)(b:a<=99999999):Jr (aC nm a)=false:=by have c:=APa (nm:=nm) b;unfold Jr;rw[GC,decide_eq_false_iff_not,decide_eq_false_iff_not];refine⟨λd=>?_,by omega⟩;rw[d] at c;have:bq.size=0:=rfl;omega
theorem AQF {i:A2K}{m:Bx}{l:List Nat}(g:mI i m l):l.length<=99999999:=by
 have j: ∀(l:List Nat) (d:Nat),l.Pairwise (· < ·)->(∀ b∈l,d<b/\b<=99999999)->l.length+d<=99999999\/l= []:=by
  intro l
  induction l with
  |nil=>intro d _ _;exact .inr rfl
  |cons a l k=>
   intro d f h;rw[PJ] at f;have n:=h a (by simp);rcases k a f.2 (λb e=>⟨f.1 b e,(h b (AG _ e)).2⟩) with c|c
   ·left;simp only[A6];omega
   ·subst c;left;simp;omega
 rcases j l 0 g.inc (λb e=>by have:=(g.mem b).1 e;omega) with c|c
 ·omega
 ·subst c;simp
structure Lw (h:aa) (lg b:Nat) (nm:A2K) (hh:aa) (S:Nat->Prop) (m:Bx) (seg:Nat) (made:Bool):Prop where
 box:Cf hh b S m
 log:EY hh lg b nm seg made
 ext:Ext h hh
 fresh: ∀c,S c->h.size<=c/\c≠lg
 lgn:h.size<=lg
def aW(rec:A2K):A2K:=AY (CY (bl rec))
abbrev nx:A2K:=⟨#[120]⟩
open M (Sorted Af CZ A7 Ah Ar BV Aj bB BC)
abbrev bO:=A2K->Option (A2K×A2K)
abbrev nl:A2K:=⟨#[108]⟩
abbrev nn:A2K:=⟨#[110]⟩
abbrev nt:A2K:=⟨#[116]⟩
def aX(a:Nat):A2K:=nt++AY (Lib.decDigits a)
theorem XO(a:Nat):bl (aX a)=116::Lib.decDigits a:=by show(nt++AY (Lib.decDigits a)).data.toList=_;rw[Hb,IN];show [116]++(AY (Lib.decDigits a)).data.toList=_;rw[show(AY (Lib.decDigits a)).data.toList=Lib.decDigits a from Bl _];rfl
theorem Jg {a b:Nat}(e:aX a=aX b):a=b:=by
 have c:=congrArg bl e;rw[XO,XO] at c;have f:Lib.decDigits a=Lib.decDigits b:=by injection c
 have d:=(Ze a).2;rw[f,(Ze b).2] at d;exact d.symm
theorem Q3(a:Nat):(bl (aC nl a)).head? =some 108:=by rw[Rk];rfl
theorem Ti(a:Nat):(bl (aC nn a)).head? =some 110:=by rw[Rk];rfl
theorem Xx(a:Nat):(bl (aX a)).head? =some 116:=by rw[XO];rfl
theorem WO(a b:Nat):aC nl a≠aC nn b:=λc=>by have:=Q3 a;rw[c,Ti] at this;cases this
theorem MI(a b:Nat):aC nl a≠aX b:=λc=>by have:=Q3 a;rw[c,Xx] at this;cases this
theorem Ql(a b:Nat):aC nn a≠aX b:=λc=>by have:=Ti a;rw[c,Xx] at this;cases this
def cF(x:A2K):Prop:=(∃ a,x=aC nl a)\/(∃ a,x=aC nn a)\/ ∃a,x=aX a
def Md(b G:bO):Prop:= ∀x,match b x with
 |none=>G x=none
 |some p=> ∃a,G x=if p.1++p.2.extract 0 a=bq then none else some (p.1++p.2.extract 0 a,bq)
theorem AQn(a:Nat):bq.extract 0 a=bq:=by
 have:(bq.extract 0 a).size=0:=by have:bq.size=0:=rfl;rw[A0G];omega
 have b:=LP (bq.extract 0 a);have c:bl (bq.extract 0 a)= []:=UN this;rw[c] at b;exact b.symm
def Nr(a b:Option (A2K×A2K)):Prop:=b=a\/(a=some (bq,bq)/\b=none)
theorem Md.bX {b G:bO}(c:Md b G){x:A2K}(g: ∀p,b x=some p->p.2=bq):Nr (b x) (G x):=by
 have:=c x;cases d:b x with
 |none=>rw[d] at this;exact .inl this
 |some p=>
  rw[d] at this;obtain⟨i,a⟩:=this;have e:=g p d;obtain⟨h,j⟩:=p;simp only at e;subst e;simp only[AQn,VT] at a;by_cases f:h=bq
  ·subst f;rw[if_pos rfl] at a;exact .inr ⟨rfl,a⟩
  ·rw[if_neg f] at a;exact .inl a
structure gu (F:bO) (nm:A2K) (top:Nat) (R:Nat->List (List UInt8)):Prop where
 has: ∀n p,1<=n->n<=99999999->F (aC nm n)=some p->p.2=bq/\NW (bl p.1) (R n)
 iu: ∀n,1<=n->n<=99999999->F (aC nm n)=none->R n= []
 out: ∀n,top<=n->n<=99999999->F (aC nm n)=none
 lB: ∀n,(n=0\/top<=n)->R n= []
def Kc {a:Type}(c:Nat->a)(s:Nat)(v:a):Nat->a:=λb=>if b=s then v else c b
theorem EM {a:Type}{b:Nat->a}{s:Nat}{v:a}:Kc b s v s=v:=if_pos rfl
theorem GL {b:Type}{c:Nat->b}{s a:Nat}{v:b}(d:a≠s):Kc c s v a=c a:=if_neg d
theorem sj {a:List (List UInt8)}(b:NW [] a):a= []:=b.uniq (.stop UT)
theorem gu.put {k G:bO}{f:A2K}{l eZ:Nat}{m:Nat->List (List UInt8)}(i:gu k f l m){s:Nat}{v:List (List UInt8)}(r:1<=s/\s<=99999999)(t:s<eZ)(j: ∀a,1<=a->a<=99999999->a≠s->Nr (k (aC f a)) (G (aC f a)))
  (n:(G (aC f s)=none/\v= [])\/ ∃x,G (aC f s)=some (x,bq)/\NW (bl x) v) (u:l<=eZ):gu G f eZ (Kc m s v):=by
 refine⟨λa p g e c=>?_,λa g e c=>?_,λa o e=>?_,λa o=>?_⟩
 ·by_cases d:a=s
  ·subst d;rw[EM];rcases n with⟨b,_⟩|⟨x,b,h⟩
   ·rw[b] at c;cases c
   ·rw[b] at c;cases c;exact⟨rfl,h⟩
  ·rw[GL d];rcases j a g e d with b|⟨b,h⟩
   ·exact i.has a p g e (b▸c)
   ·rw[h] at c;cases c
 ·by_cases d:a=s
  ·subst d;rw[EM];rcases n with⟨_,b⟩|⟨x,b,_⟩
   ·exact b
   ·rw[b] at c;cases c
  ·rw[GL d];rcases j a g e d with b|⟨b,h⟩
   ·exact i.iu a g e (b▸c)
   ·obtain⟨_,q⟩:=i.has a _ g e b;exact sj q
 ·have d:a≠s:=by omega
  rcases j a (by omega) e d with b|⟨b,h⟩
  ·rw[b];exact i.out a (by omega) e
  ·exact h
 ·have d:a≠s:=by omega
  rw[GL d];exact i.lB a (by omega)
theorem gu.aS {k G:bO}{f:A2K}{i:Nat}{l:Nat->List (List UInt8)}(d:gu k f i l)(o:1<=i)(j: ∀a,1<=a->a<=99999999->Nr (k (aC f a)) (G (aC f a))):gu G f i l:=by
 refine⟨λa p g b e=>?_,λa g b e=>?_,λa m b=>?_,d.lB⟩
 ·rcases j a (by omega) b with c|⟨c,h⟩
  ·exact d.has a p g b (c▸e)
  ·rw[h] at e;cases e
 ·rcases j a (by omega) b with c|⟨c,h⟩
  ·exact d.iu a g b (c▸e)
  ·obtain⟨_,n⟩:=d.has a _ g b c;exact sj n
 ·rcases j a (by omega) b with c|⟨c,h⟩
  ·rw[c];exact d.out a m b
  ·exact h
theorem gu.drop {l G:bO}{e:A2K}{h:Nat}{m g:Nat->List (List UInt8)}(i:gu l e h m)(j: ∀a,a<=99999999->(G (aC e a)=l (aC e a)/\g a=m a)\/(G (aC e a)=none/\g a= []))(n: ∀a,(a=0\/h<=a)->g a= []):gu G e h g:=by
 refine⟨λa p k c f=>?_,λa k c f=>?_,λa o c=>?_,n⟩
 ·rcases j a c with⟨b,d⟩|⟨b,d⟩
  ·rw[d];exact i.has a p k c (b▸f)
  ·rw[b] at f;cases f
 ·rcases j a c with⟨b,d⟩|⟨b,d⟩
  ·rw[d];exact i.iu a k c (b▸f)
  ·exact d
 ·rcases j a c with⟨b,d⟩|⟨b,d⟩
  ·rw[b];exact i.out a o c
  ·exact b
theorem zt {rs:List (List UInt8)}{r:List UInt8}(b: ∀x∈rs++ [r],x.length<=1048576)(a:Nat):NW (bl (AY (aI rs)++(AY (CY r)).extract 0 a)) rs\/NW (bl (AY (aI rs)++(AY (CY r)).extract 0 a)) (rs++ [r]):=by
 have c:bl (AY (aI rs)++(AY (CY r)).extract 0 a)=aI rs++(CY r).take a:=by show(AY (aI rs)++(AY (CY r)).extract 0 a).data.toList=_;rw[Hb,IN,RT,RW];rw[show(AY (aI rs)).data.toList=aI rs from Bl _,show(AY (CY r)).data.toList=CY r from Bl _];simp
 rw[c];by_cases d:a<(CY r).length
 ·exact .inl (Rq (λx e=>b x (by simp[e])) (AMy (b r (by simp)) d))
 ·right;rw[Ax (by omega)];have:=Rq (rs:=rs++ [r]) b (t:= []) UT;simpa using this
structure Nt where
 next:Nat
 aW:Nat
 names:List Nat
def EG(x:Nt):List UInt8:=BU x.next++BU x.aW++BU x.names.length++x.names.flatMap BU
structure gY (x:Nt):Prop where
 next:x.next<=99999999
 aW:1<=x.aW/\x.aW<=99999999
 cn:x.names.length<=60000
 below: ∀n∈x.names,n<x.next
 nd:x.names.Nodup
structure Yn (b:List Pr):Prop where
 len:b.length<=64
 ok: ∀x∈b,Ls x
theorem VC: ∀ {l:List Nat},(∀ n∈l,n<=99999999)->(l.flatMap BU).length<=l.length*10
 | [],_=>by simp
 |n::l,a=>by
  have d:=AV (n:=n) (by have:=a n (by simp);omega);have e:=VC (l:=l) λb c=>a b (AG _ c)
  simp only[AF,A1,A6];omega
theorem zu {x:Nt}(a:gY x):(EG x).length<=30+x.names.length*10:=by
 have c:=AV (n:=x.next) (by have:=a.next;omega);have d:=AV (n:=x.aW) (by have:=a.aW;omega);have e:=AV (n:=x.names.length) (by have:=a.cn;omega);have f:=VC (l:=x.names) λn b=>by have:=a.below n b;have:=a.next;omega
 simp only[EG,A1];omega
theorem Zk {s:Nat}{b:List Pr}(d:s<=99999999)(a:Yn b):(BX s b).length<=20+64*8276:=by have e:=AV (n:=s) (by omega);have f:=AV (n:=b.length) (by have:=a.len;omega);have g:=ME a.ok;have c:=a.len;have h:b.length*8276<=64*8276:=AN _ c;simp only[BX,A1];omega
structure Bo where
 L:Nat->List (List Pr)
 N:Nat->List Nt
 T:Nat->List Pr
 aO:Nat
 aY:Nat
def Nf(a:Bo):List Nt:=(List.range a.aY).flatMap a.N
def Ao(a:Bo):Nt:=(Nf a).getLast?.getD ⟨1,1,[]⟩
def Ie(a:Bo):List (List Pr):=(List.range a.aO).flatMap λb=>if b<(Ao a).aW then [] else a.L b
def Es(a:Bo):List Pr:=A7 [] (Ie a).flatten
def cC(a:Bo):List Pr:=BC (Ah (Es a::(Ao a).names.map a.T))
structure BG (F:bO) (D:Bo):Prop where
 log:gu F nl D.aO λn=>(D.L n).map (BX n)
 note:gu F nn D.aY λn=>(D.N n).map EG
 cO: ∀n∈(Ao D).names,F (aX n)=some (AY (Js (D.T n)),bq)/\Ha (D.T n)
 fQ: ∀n b,b∈D.L n->Yn b
 dI: ∀n x,x∈D.N n->gY x
 dj: ∀x,F x≠none->(bl x).head? =some 116-> ∃n,x=aX n
 cq:1<=D.aO/\D.aO<=99999999/\1<=D.aY/\D.aY<=99999999
theorem zw {b:bO}{a:Bo}(c:BG b a):gY (Ao a):=by
 unfold Ao;cases d:(Nf a).getLast? with
 |none=>exact⟨by simp,by simp,by simp,by simp,by simp⟩
 |some x=>
  have:=SD d;obtain⟨e,_,f⟩:=List.mem_flatMap.1 this;exact c.dI e x f
theorem ATM {l:List Pr}(t:Ha l):AY (Js l)≠bq:=λd=>by
 have a:Js l= []:=by have:=congrArg bl d;rw[EF] at this;exact this
 have e:aT l (NG l)≠ []:=by simp[aT]
 unfold Js at a;cases b:aT l (NG l) with
 |nil=>exact e b
 |cons r f=>
  rw[b] at a;have g:(CY r).length=0:=by have c:=congrArg List.length a;rw[Xb,A1] at c;simp at c;simp[c.1]
  have h:=(Jc (r:=r) (Nw t.eL r (by rw[b];simp))).1;omega
theorem VV {a b:Option (A2K×A2K)}{l:List Pr}(e:Nr a b)(t:Ha l)(d:a=some (AY (Js l),bq)):b=some (AY (Js l),bq):=by
 rcases e with c|⟨c,_⟩
 ·exact c.trans d
 ·rw[d] at c;injection c with c;exact absurd (Prod.mk.inj c).1 (ATM t)
theorem BG.same {c G:bO}{e:Bo}(b:BG c e)(h: ∀a,1<=a->a<=99999999->Nr (c (aC nl a)) (G (aC nl a)))(i: ∀a,1<=a->a<=99999999->Nr (c (aC nn a)) (G (aC nn a)))(j: ∀a∈(Ao e).names,Nr (c (aX a)) (G (aX a)))
  (k: ∀x,G x≠none->c x≠none\/ ∃a,x=aX a):BG G e:=by
 refine⟨b.log.aS b.cq.1 h,b.note.aS b.cq.2.2.1 i,λa f=>?_,b.fQ,b.dI,λx l hd=>?_,b.cq⟩
 ·obtain⟨d,g⟩:=b.cO a f;exact⟨VV (j a f) g d,g⟩
 ·rcases k x l with d|d
  ·exact b.dj x d hd
  ·exact d
theorem BG.dP {g G:bO}{h:Bo}(d:BG g h)(c:Md g G):BG G h:=by
 refine d.same (λb e f=>c.bX λp a=>(d.log.has b p e f a).1) (λb e f=>c.bX λp a=>(d.note.has b p e f a).1) (λb i=>c.bX λp a=>?_) λx j=> .inl λk=>j ?_
 ·rw[(d.cO b i).1] at a;cases a;rfl
 ·have:=c x;rw[k] at this;exact this
open M (Sorted Af CZ A7 Ah Ar BV Aj bB BC aR BH YQ)
theorem APz {x:Pr}(a:Ls x):Aj x=0:=by
 have c:x.key≠(⟨#[]⟩:A2K):=λd=>a.key (by rw[d];rfl)
 have f:=a.bI;have g:=a.ct;unfold M.Aj;rw[if_neg ?_,if_neg ?_]
 ·simp only[Ds,decide_eq_true_eq];omega
 ·simp only[Ds,A3,decide_eq_true_eq,CD,decide_eq_false_iff_not];rintro(b|⟨b,e⟩)
  ·exact c b
  ·exact e (sd (a.gone b))
theorem oT {x:Pr}(a:Aj x=0):Ls x:=by
 unfold M.Aj at a;split at a
 ·cases a
 ·rename_i b;split at a
  ·cases a
  ·rename_i c;simp only[Ds,A3,decide_eq_true_eq,CD,decide_eq_false_iff_not,not_or,not_and,Decidable.not_not] at b c;refine⟨λd=>b.1 (sd d),by omega,by omega,λe=>?_⟩;rw[b.2 e];rfl
theorem zG {l:List Pr}(a: ∀x∈l,Ls x):BV l:=λx b=>APz (a x b)
theorem zH(a:A2K): ∀ {b t:List Pr},Sorted t->BV b->Af a (A7 t b)=(Af a b.reverse).or (Af a t)
 | [],t,_,_=>rfl
 |x::b,t,s,g=>by
  have d:=g x (by simp);show Af a (A7 (CZ x t) b)=_;rw[zH a (M.Pj s) λe f=>g e (AG _ f),RK,M.OM,M.Qu d,M.Xw x a s,M.BB];cases Af a b.reverse with
  |some p=>rfl
  |none=>
   by_cases c:x.key=a
   ·rw[if_pos c,if_pos c];rfl
   ·rw[if_neg c,if_neg c];rfl
def alive(a:Option Pr):Option Pr:=a.filter λp=> !p.gone
theorem JO(x:Pr):alive (some x)=if x.gone then none else some x:=by unfold alive;cases a:x.gone<;>simp[Option.filter,a]
theorem Zw(a:A2K): ∀ {l:List Pr},Sorted l->Af a (BC l)=alive (Af a l)
 | [],_=>rfl
 |x::l,s=>by
  have e:=List.pairwise_cons.1 s;have c:=Zw a e.2;unfold M.BC at c ⊢;rw[AS,M.BB];by_cases b:x.key=a
  ·rw[if_pos b];cases d:x.gone with
   |false=>rw[if_pos (by rfl),M.BB,if_pos b,JO,d];rfl
   |true=>
    rw[if_neg (by simp),c];have:Af a l=none:=M.Ep λf g h=>M.Nl (e.1 f g) (b.trans h.symm)
    rw[this,JO,d];rfl
  ·rw[if_neg b];cases d:x.gone with
   |false=>rw[if_pos (by rfl),M.BB,if_neg b];exact c
   |true=>rw[if_neg (by simp)];exact c
theorem Uy {l:List Pr}(s:Sorted l):Sorted (BC l):=s.sublist G4
def MC(fr:List Pr)(ts:List (List Pr)):List Pr:=BC (Ah (fr::ts))
theorem FH(fr:List Pr)(ts:List (List Pr)):Sorted (MC fr ts):=Uy (M.Dy _)
theorem Gn(a:A2K){fr:List Pr}{ts:List (List Pr)}(b:bB (fr::ts)):Af a (MC fr ts)=alive ((Af a fr).or (Ar a ts)):=by unfold MC;rw[Zw a (M.Dy _),M.LF a b,M.EO]
def gv(m:List Pr)(p:Pr):List Pr:=m.take (aR p.key m)++(if p.gone then [] else [p])++m.drop (if BH p.key m then aR p.key m+1 else aR p.key m)
def cy(m b:List Pr):List Pr:=b.foldl gv m
theorem Yr(a:A2K)(x:Pr)(l:List Pr):aR a (x::l)=if aN x.key a then aR a l+1 else 0:=by unfold M.aR M.ic;rw[Mb];split<;>simp
theorem AKA(a:A2K)(x:Pr)(l:List Pr):BH a (x::l)=if aN x.key a then BH a l else decide (x.key=a):=by unfold M.BH;rw[Yr];by_cases b:aN x.key a=true<;>simp[b]
def jZ(a:A2K)(l:List Pr):List Pr:=l.filter λb=> !decide (b.key=a)
theorem zI {k:A2K}: ∀ {l:List Pr},Sorted l->l.take (aR k l)++l.drop (if BH k l then aR k l+1 else aR k l)=jZ k l
 | [],_=>by simp[jZ]
 |x::l,s=>by
  have c:=List.pairwise_cons.1 s;have d:=zI (k:=k) c.2;unfold jZ at d ⊢;rw[Yr,AKA,AS];by_cases a:aN x.key k=true
  ·have i:x.key≠k:=M.Nl a;have j:(!decide (x.key=k))=true:=by simp[i]
   simp only[a,if_true,j,I0,DG];rw[<- d];cases o:BH k l<;>simp
  ·rw[if_neg a,if_neg a,Is,DA];have e:l.filter (λm=> !decide (m.key=k))=l:=by
    refine List.filter_eq_self.2 λf n=>?_
    have g:=c.1 f n;by_cases h:f.key=k
    ·rw[h] at g;exact absurd g a
    ·simp[h]
   by_cases b:x.key=k
   ·rw[if_pos (by simp[b]),if_neg (by simp[b]),e];rfl
   ·rw[if_neg (by simp[b]),if_pos (by simp[b]),e];rfl
theorem sk {m:List Pr}(s:Sorted m)(p:Pr):gv m p=if p.gone then jZ p.key m else M.ins p m:=by
 unfold gv;cases a:p.gone with
 |true=>simp only[if_true,AM];exact zI s
 |false=>
  simp only[Cd,if_false];have:=M.nf p m;unfold M.YQ at this;exact this
theorem ANw(b c:A2K)(m:List Pr):Af b (jZ c m)=if c=b then none else Af b m:=by
 unfold jZ
 induction m with
 |nil=>split<;>rfl
 |cons x m f=>
  rw[AS,M.BB];by_cases d:x.key=c
  ·rw[if_neg (by simp[d]),f];by_cases a:c=b
   ·rw[if_pos a,if_pos a]
   ·rw[if_neg a,if_neg a,if_neg (λe=>a (d.symm.trans e))]
  ·rw[if_pos (by simp[d]),M.BB,f];by_cases a:x.key=b
   ·rw[if_pos a,if_pos a,if_neg (λe=>d (a.trans e.symm))]
   ·rw[if_neg a,if_neg a]
theorem L9 {m:List Pr}(s:Sorted m)(p:Pr):Sorted (gv m p):=by
 rw[sk s];split
 ·exact s.sublist G4
 ·exact M.XL p s
theorem RV {m:List Pr}(s:Sorted m)(p:Pr)(a:A2K):Af a (gv m p)=if p.key=a then alive (some p) else Af a m:=by
 rw[sk s];cases b:p.gone with
 |true=>rw[if_pos rfl,ANw,JO,b];rfl
 |false=>rw[if_neg (by simp),M.Xw p a s,JO,b];rfl
theorem zJ: ∀ {b m:List Pr},Sorted m->Sorted (cy m b)
 | [],_,s=>s
 |p::b,m,s=>zJ (b:=b) (L9 s p)
theorem Yd(a:A2K): ∀ {b m:List Pr},Sorted m->Af a (cy m b)=match Af a b.reverse with|some p=>alive (some p)|none=>Af a m
 | [],_,_=>rfl
 |p::b,m,s=>by
  show Af a (cy (gv m p) b)=_;rw[Yd a (L9 s p),RK,M.OM,M.BB];cases Af a b.reverse with
  |some d=>rfl
  |none=>
   rw[RV s];by_cases c:p.key=a
   ·rw[if_pos c,if_pos c];rfl
   ·rw[if_neg c,if_neg c];rfl
theorem zK {fr b:List Pr}{ts:List (List Pr)}(c:bB (fr::ts))(g:BV b):MC (A7 fr b) ts=cy (MC fr ts) b:=by
 have e:=c.sorted fr (by simp);have f:bB (A7 fr b::ts):=⟨λl a=>by
   rcases List.mem_cons.1 a with rfl|a
   ·exact M.RX e
   ·exact c.sorted l (by simp[a]),λl a=>by
   rcases List.mem_cons.1 a with rfl|a
   ·exact M.Xh (c.aQ fr (by simp))
   ·exact c.aQ l (by simp[a])⟩
 refine(FH _ _).ext (zJ (FH _ _)) λd=>?_
 rw[Gn d f,zH d e g,Yd d (FH _ _),Gn d c];cases Af d b.reverse with
 |some p=>rfl
 |none=>rfl
theorem bB.gH {ts:List (List Pr)}(b:bB ts):bB ([]::ts):=⟨λl a=>by
  rcases List.mem_cons.1 a with rfl|a
  ·exact List.Pairwise.nil
  ·exact b.sorted l a,λl a=>by
  rcases List.mem_cons.1 a with rfl|a
  ·exact λ_ c=>by cases c
  ·exact b.aQ l a⟩
theorem bB.tail {l:List Pr}{ts:List (List Pr)}(b:bB (l::ts)):bB ts:=⟨λx a=>b.sorted x (by simp[a]),λx a=>b.aQ x (by simp[a])⟩
theorem AHp {fr:List Pr}{ts:List (List Pr)}(a:bB (fr::ts)):MC [] (fr::ts)=MC fr ts:=by
 refine(FH _ _).ext (FH _ _) λb=>?_
 rw[Gn b (bB.gH a),Gn b a,M.EO];rfl
theorem AHU(a b:Option Pr):alive (a.or (alive b))=alive (a.or b):=by
 cases a with
 |some p=>rfl
 |none=>
  cases b with
  |none=>rfl
  |some c=>cases d:c.gone<;>simp[JO,d,alive]
def Gb(ts:List (List Pr)):List Pr:=BC (Ah ts)
theorem oU {ts:List (List Pr)}:Sorted (Gb ts)/\BV (Gb ts):=⟨Uy (M.Dy _),λx a=>M.YD _ x (List.mem_filter.1 a).1⟩
theorem bB.left {fr:List Pr}{ts:List (List Pr)}(b:bB (fr::ts)):bB [fr,Gb ts]:=⟨λl a=>by
  rcases List.mem_cons.1 a with rfl|a
  ·exact b.sorted _ (by simp)
  ·rw[List.mem_singleton.1 a];exact oU.1,λl a=>by
  rcases List.mem_cons.1 a with rfl|a
  ·exact b.aQ _ (by simp)
  ·rw[List.mem_singleton.1 a];exact oU.2⟩
theorem WT {fr:List Pr}{ts:List (List Pr)}(b:bB (fr::ts)):MC fr [Gb ts]=MC fr ts:=by
 refine(FH _ _).ext (FH _ _) λa=>?_
 rw[Gn a (bB.left b),Gn a b,M.EO];have:Af a (Gb ts)=alive (Ar a ts):=by unfold Gb;rw[Zw a (M.Dy _),M.LF a (bB.tail b)]
 rw[this];have c:Ar a ([]:List (List Pr))=none:=rfl;rw[c,Option.or_none,AHU]
theorem ACI {fr:List Pr}{ts:List (List Pr)}(a:bB (fr::ts))(c:Gb ts= []):MC fr []=MC fr ts:=by
 rw[<- WT a,c];have e:bB [fr]:=⟨λl b=>by rw[List.mem_singleton.1 b];exact a.sorted _ (by simp),λl b=>by rw[List.mem_singleton.1 b];exact a.aQ _ (by simp)⟩;have f:bB [fr,[]]:=by have:=bB.left a;rw[c] at this;exact this
 refine(FH _ _).ext (FH _ _) λd=>?_
 rw[Gn d e,Gn d f,M.EO];rfl
theorem sn(l:List Pr):(BC l).length<=l.length:=(G4).length_le
theorem UC {c:Type}{b:Nat->List c}{t:Nat}: ∀ {t':Nat},t<=t'->(∀ a,t<=a->a<t'->b a= [])->(List.range t').flatMap b=(List.range t).flatMap b
 |0,d,_=>by
  simp_all
 |t'+1,d,e=>by
  by_cases f:t=t'+1
  ·rw[f]
  ·rw[MY,Fm,UC (t':=t') (by omega) λa g h=>e a g (by omega)]
   grind
theorem su {c:Type}{a:Nat->List c}{s t:Nat}(e:s<t)(d: ∀b,s<b->a b= []):(List.range t).flatMap a=(List.range s).flatMap a++a s:=by rw[UC (t:=s+1) (by omega) λb f _=>d b (by omega),MY,Fm];simp
theorem zQ {d:Type}{b c:Nat->List d}{t:Nat}(e: ∀a,a<t->b a=c a):(List.range t).flatMap b=(List.range t).flatMap c:=by grind [List.flatMap,List.map_congr_left]
theorem sv {a:Bo}{s:Nat}{l:List Nt}{x:Nt}(c:a.N s=l++ [x])(d: ∀b,s<b->a.N b= [])(e:s<a.aY):Ao a=x:=by unfold Ao Nf;rw[su e d,c,<-A4,Ss];rfl
theorem BG.gF {c:bO}{b:Bo}(d:BG c b){a:Nat}(e:a=0\/b.aO<=a):b.L a= []:=by simpa using d.log.lB a e
theorem BG.gI {c:bO}{b:Bo}(d:BG c b){a:Nat}(e:a=0\/b.aY<=a):b.N a= []:=by simpa using d.note.lB a e
theorem BG.jC {b:bO}{c:Bo}(d:BG b c){a:Nat}(e:a<=99999999)(f:b (aC nl a)=none):c.L a= []:=by
 by_cases g:a=0
 ·exact d.gF (.inl g)
 ·simpa using d.log.iu a (by omega) e f
theorem BG.jG {b:bO}{c:Bo}(d:BG b c){a:Nat}(e:a<=99999999)(f:b (aC nn a)=none):c.N a= []:=by
 by_cases g:a=0
 ·exact d.gI (.inl g)
 ·simpa using d.note.iu a (by omega) e f
theorem zR(t a b:List Pr):A7 t (a++b)=A7 (A7 t a) b:=I2
theorem zS:BV ([]:List Pr):=λ_ a=>by cases a
theorem zT:Sorted ([]:List Pr):=List.Pairwise.nil
theorem zU(a:Bo):Sorted (Es a)/\BV (Es a):=⟨M.RX zT,M.Xh zS⟩
theorem Ha.aQ {l:List Pr}(t:Ha l):Sorted l/\BV l:=⟨t.inc,zG t.ok⟩
theorem BG.fU {f:bO}{a:Bo}(e:BG f a):bB (Es a::(Ao a).names.map a.T):=by
 refine⟨λl b=>?_,λl b=>?_⟩<;>rcases List.mem_cons.1 b with rfl|b
 ·exact(zU a).1
 ·obtain⟨c,d,rfl⟩:=List.mem_map.1 b;exact(e.cO c d).2.aQ.1
 ·exact(zU a).2
 ·obtain⟨c,d,rfl⟩:=List.mem_map.1 b;exact(e.cO c d).2.aQ.2
def TL(a:Bo)(s:Nat)(b:List Pr):Bo:= {a with L:=Kc a.L s (a.L s++ [b]),aO:=max a.aO (s+1)}
theorem zV {e:bO}{a:Bo}(f:BG e a){s:Nat}{b:List Pr}(l:(Ao a).aW<=s)(m: ∀c,s<c->a.L c= []):Ie (TL a s b)=Ie a++ [b]:=by
 have d:s<max a.aO (s+1):=by omega
 have g:Ie a=(List.range s).flatMap (λc=>if c<(Ao a).aW then [] else a.L c)++a.L s:=by
  have h:Ie a=(List.range (max a.aO (s+1))).flatMap λc=>if c<(Ao a).aW then [] else a.L c:=by
   refine(UC (by omega) λc i n=>?_).symm;split
   ·rfl
   ·exact f.gF (.inr i)
  rw[h,su (s:=s) d (λc j=>by
   simp_all),if_neg (by omega)]
 have k:Ie (TL a s b)=(List.range s).flatMap (λc=>if c<(Ao a).aW then [] else Kc a.L s (a.L s++ [b]) c)++Kc a.L s (a.L s++ [b]) s:=by
  show(List.range (max a.aO (s+1))).flatMap (λc=>if c<(Ao a).aW then [] else Kc a.L s (a.L s++ [b]) c)=_;rw[su (s:=s) d (λc j=>by
   grind [GL]),if_neg (by omega)]
 rw[g,k,EM,A4];congr 1
 grind [zQ,GL]
theorem APN {e:bO}{a:Bo}(f:BG e a){s:Nat}{b:List Pr}(h:(Ao a).aW<=s)(i: ∀c,s<c->a.L c= [])(g:Yn b):Es (TL a s b)=A7 (Es a) b/\cC (TL a s b)=cy (cC a) b:=by
 have d:Es (TL a s b)=A7 (Es a) b:=by grind [Es,zV,List.flatten_append,zR]
 refine⟨d,?_⟩;have:=zK f.fU (zG g.ok);unfold cC;rw[d];exact this
theorem AQm {g G:bO}{d:Bo}(f:BG g d){s:Nat}{b:List Pr}(j:1<=s/\s+1<=99999999)(k:Yn b)(l: ∀a,1<=a->a<=99999999->a≠s->Nr (g (aC nl a)) (G (aC nl a)))(m: ∀a,1<=a->a<=99999999->Nr (g (aC nn a)) (G (aC nn a)))
  (n: ∀a,Nr (g (aX a)) (G (aX a))) (o: ∀x,(∀ a,x≠aC nl a)->G x≠none->g x≠none) (p: ∃x,G (aC nl s)=some (x,bq)/\NW (bl x) ((d.L s++ [b]).map (BX s))):BG G (TL d s b):=by
 have q: ∀a∈(Ao d).names,G (aX a)=some (AY (Js (d.T a)),bq)/\Ha (d.T a):=λa r=>
  let ⟨t,i⟩:=f.cO a r
  ⟨VV (n a) i t,i⟩
 refine⟨?_,?_,q,λa c e=>?_,f.dI,λx u hd=>?_,by have:=f.cq;refine⟨?_,?_,this.2.2.1,this.2.2.2⟩<;>simp only[TL]<;>omega⟩
 ·have:=f.log.put (G:=G) (eZ:=max d.aO (s+1)) (s:=s) (v:=(d.L s++ [b]).map (BX s)) ⟨j.1,by omega⟩ (by omega) (λa w y z=>l a w y z) (.inr p) (by omega);have h:(Kc (λa=>(d.L a).map (BX a)) s ((d.L s++ [b]).map (BX s)))=λa=>((TL d s b).L a).map (BX a):=by
   funext a;show _=(Kc d.L s (d.L s++ [b]) a).map (BX a)
   grind [EM,GL]
  rw[h] at this;exact this
 ·exact f.note.aS f.cq.2.2.1 m
 ·by_cases h:a=s
  ·subst h;have e:c∈Kc d.L a (d.L a++ [b]) a:=e;rw[EM] at e;rcases List.mem_append.1 e with e|e
   ·exact f.fQ a c e
   ·rw[List.mem_singleton.1 e];exact k
  ·have e:c∈Kc d.L s (d.L s++ [b]) a:=e;rw[GL h] at e;exact f.fQ a c e
 ·exact f.dj x (o x (λa h=>by grind [Q3]) u) hd
def addN(a:Bo)(s:Nat)(x:Nt)(T:Nat->List Pr):Bo:= {a with N:=Kc a.N s [x],T:=T,aY:=max a.aY (s+1)}
theorem zW {a:Bo}{s:Nat}{x:Nt}{T:Nat->List Pr}(c: ∀b,s<b->a.N b= []):Ao (addN a s x T)=x:=by
 refine sv (s:=s) (l:= []) ?_ (λb d=>?_) ?_
 ·show Kc a.N s [x] s=_;rw[EM];rfl
 ·show Kc a.N s [x] b= []
  grind [GL]
 ·show s<max a.aY (s+1);omega
theorem zX {g G:bO}{c:Bo}(f:BG g c){s:Nat}{x:Nt}{T:Nat->List Pr}(i:1<=s/\s+1<=99999999)(j:gY x)(k: ∀a,s<a->c.N a= [])(l: ∀a,1<=a->a<=99999999->Nr (g (aC nl a)) (G (aC nl a)))(m: ∀a,1<=a->a<=99999999->a≠s->Nr (g (aC nn a)) (G (aC nn a)))
  (n: ∀a∈x.names,G (aX a)=some (AY (Js (T a)),bq)/\Ha (T a)) (o: ∀x,(∀ a,x≠aC nn a)->(∀ a,x≠aX a)->G x≠none->g x≠none) (p: ∃b,G (aC nn s)=some (b,bq)/\NW (bl b) [EG x]):BG G (addN c s x T):=by
 refine⟨f.log.aS f.cq.1 l,?_,λa h=>?_,f.fQ,λa b d=>?_,λb d hd=>?_,by have:=f.cq;refine⟨this.1,this.2.1,?_,?_⟩<;>simp only[addN]<;>omega⟩
 ·have:=f.note.put (G:=G) (eZ:=max c.aY (s+1)) (s:=s) (v:= [EG x]) ⟨i.1,by omega⟩ (by omega) (λa q r t=>m a q r t) (.inr p) (by omega);have e:(Kc (λa=>(c.N a).map EG) s [EG x])=λa=>((addN c s x T).N a).map EG:=by
   funext a;show _=(Kc c.N s [x] a).map EG
   grind [EM,GL]
  rw[e] at this;exact this
 ·rw[zW k] at h;exact n a h
 ·have d:b∈Kc c.N s [x] a:=d;by_cases e:a=s
  ·rw[e,EM] at d;rw[List.mem_singleton.1 d];exact j
  ·rw[GL e] at d;exact f.dI a b d
 ·by_cases e: ∃a,b=aX a
  ·exact e
  ·exact f.dj b (o b (λa e=>by grind [Ti]) (λa u=>e ⟨a,u⟩) d) hd
theorem BG.fV {e G:bO}{c:Bo}(f:BG e c)(d: ∀x,(∀ a,a∉(Ao c).names->x≠aX a)->G x=e x):BG G c:=by
 refine f.same (λa _ _=> .inl (d _ λb _=>MI a b)) (λa _ _=> .inl (d _ λb _=>Ql a b)) (λa g=> .inl (d _ λb h i=>h (by rw[<- Jg i];exact g))) λx j=>?_
 grind
open Classical in
noncomputable def Np (b:Bo) (G:bO):Bo:= {b with L:=λa=>if a<=99999999/\G (aC nl a)=none then [] else b.L a}
open Classical in
noncomputable def oY (b:Bo) (G:bO):Bo:= {b with N:=λa=>if a<=99999999/\G (aC nn a)=none then [] else b.N a}
theorem AJp {b:Bo}{f G:bO}(g:BG f b)(h: ∀a,a<=99999999->G (aC nl a)=f (aC nl a)\/(G (aC nl a)=none/\a<(Ao b).aW)):Ie (Np b G)=Ie b:=by
 unfold Ie;refine zQ λa i=>?_
 show(if a<(Ao b).aW then [] else if a<=99999999/\G (aC nl a)=none then [] else b.L a)=_;by_cases c:a<(Ao b).aW
 ·rw[if_pos c,if_pos c]
 ·rw[if_neg c,if_neg c];split
  ·rename_i d;rcases h a d.1 with e|e
   ·rw[e] at d;exact(g.jC d.1 d.2).symm
   ·exact absurd e.2 c
  ·rfl
theorem APQ {f G:bO}{d:Bo}(c:BG f d)(m: ∀a,a<=99999999->G (aC nl a)=f (aC nl a)\/(G (aC nl a)=none/\a<(Ao d).aW))(j: ∀x,(∀ a,a<=99999999->x≠aC nl a)->G x=f x):BG G (Np d G):=by
 refine⟨c.log.drop (λa k=>?_) (λa g=>?_),c.note.aS c.cq.2.2.1 λa n k=> .inl (j _ λh _ i=>WO h a i.symm),λa g=>?_,λa b e=>?_,c.dI,λx o hd=>?_,c.cq⟩
 ·show _\/(G (aC nl a)=none/\((if a<=99999999/\G (aC nl a)=none then [] else d.L a).map (BX a))= []);rcases m a k with l|l
  ·by_cases p:G (aC nl a)=none
   ·simp_all
   ·left;refine⟨l,?_⟩;show((if a<=99999999/\G (aC nl a)=none then [] else d.L a).map (BX a))=_
    simp_all
  simp_all
 ·show((if a<=99999999/\G (aC nl a)=none then [] else d.L a).map (BX a))= [];split
  ·rfl
  ·rw[c.gF g];rfl
 ·rw[j _ λh _ i=>MI h a i.symm];exact c.cO a g
 ·have e:b∈(if a<=99999999/\G (aC nl a)=none then [] else d.L a):=e;split at e
  ·cases e
  ·exact c.fQ a b e
 ·exact c.dj x (by grind) hd
theorem zY {a:Bo}{G:bO}{s:Nat}{x:Nt}(d:a.N s= [x])(e: ∀b,s<b->a.N b= [])(c:s<a.aY)(f:G (aC nn s)≠none):Ao (oY a G)=x:=by
 refine sv (s:=s) (l:= []) ?_ (λb g=>?_) c
 ·show(if s<=99999999/\G (aC nn s)=none then [] else a.N s)=_
  simp_all
 ·show(if b<=99999999/\G (aC nn b)=none then [] else a.N b)= []
  simp_all
theorem APj {g G:bO}{c:Bo}(d:BG g c){s:Nat}{x:Nt}(k:c.N s= [x])(f: ∀a,s<a->c.N a= [])(m:s<c.aY)(q:G (aC nn s)≠none)(r: ∀a,a<=99999999->G (aC nn a)=g (aC nn a)\/G (aC nn a)=none)(n: ∀x,(∀ a,a<=99999999->x≠aC nn a)->G x=g x):BG G (oY c G):=by
 have t:Ao (oY c G)=Ao c:=by rw[zY k f m q,sv (l:= []) k f m]
 refine⟨d.log.aS d.cq.1 λa v o=> .inl (n _ λh _ i=>WO a h i),d.note.drop (λa o=>?_) (λa f=>?_),λa p=>?_,d.fQ,λa b e=>?_,λx w hd=>?_,d.cq⟩
 ·rcases r a o with j|j
  ·by_cases u:G (aC nn a)=none
   ·right;refine⟨u,?_⟩;show((if a<=99999999/\G (aC nn a)=none then [] else c.N a).map EG)= []
    simp_all
   ·left;refine⟨j,?_⟩;show((if a<=99999999/\G (aC nn a)=none then [] else c.N a).map EG)=_
    simp_all
  ·right;refine⟨j,?_⟩;show((if a<=99999999/\G (aC nn a)=none then [] else c.N a).map EG)= []
   simp_all
 ·show((if a<=99999999/\G (aC nn a)=none then [] else c.N a).map EG)= [];split
  ·rfl
  ·rw[d.gI f];rfl
 ·rw[t] at p;rw[n _ λh _ i=>Ql h a i.symm];exact d.cO a p
 ·have e:b∈(if a<=99999999/\G (aC nn a)=none then [] else c.N a):=e;split at e
  ·cases e
  ·exact d.dI a b e
 ·exact d.dj x (by grind) hd
structure mO (D:Bo) (s:Nat) (x:Nt) (T:Nat->List Pr) (D':Bo):Prop where
 L:D'.L=D.L
 aO:D'.aO=D.aO
 aY:D'.aY<=max D.aY (s+1)
 last:(Ao D'=Ao D/\D'.T=D.T)\/(Ao D'=x/\D'.T=T)
theorem AOa {a:Bo}{s:Nat}{x:Nt}{T:Nat->List Pr}(c: ∀b,s<b->a.N b= []):mO a s x T (addN a s x T):=⟨rfl,rfl,A0 _,.inr ⟨zW c,rfl⟩⟩
theorem APZ {a:Bo}{s:Nat}{x:Nt}{T:Nat->List Pr}:mO a s x T a:=⟨rfl,rfl,by omega,.inl ⟨rfl,rfl⟩⟩
theorem ANb {x:Nt}(a:gY x)(b:(EG x).length<=1048576):NW (bl (AY (CY (EG x)))) [EG x]:=by rw[EF];have:=Rq (rs:= [EG x]) (λc d=>by simp_all) (t:= []) UT;simpa using this
theorem ANJ {b g:bO}{c:Bo}{s:Nat}{x:Nt}{T:Nat->List Pr}(d:BG b c)(k:1<=s/\s+1<=99999999)(h:gY x)(l:(EG x).length<=1048576)(m: ∀a,s<=a->a<=99999999->b (aC nn a)=none)
  (q: ∀a∈x.names,b (aX a)=some (AY (Js (T a)),bq)/\Ha (T a)) (f: ∀e,g e=if e=aC nn s then some (AY (CY (EG x)),bq) else b e):BG g (addN c s x T)/\ ∀a,s<a->c.N a= []:=by
 have i: ∀a,s<a->c.N a= []:=λa n=>by
  by_cases j:a<=99999999
  ·exact d.jG j (m a (by omega) j)
  ·exact d.gI (.inr (by have:=d.cq;omega))
 refine⟨zX d k h i (λa _ _=> .inl ?_) (λa _ _ o=> .inl ?_) (λa n=>?_) (λe r _ t=>?_) ⟨_,by rw[f,if_pos rfl],ANb h l⟩,i⟩
 ·rw[f,if_neg (WO a s)]
 ·rw[f,if_neg λp=>o (Iw p)]
 ·grind
 simp_all
theorem AMV {g F1 G:bO}{d:Bo}{s:Nat}{x:Nt}{T:Nat->List Pr}(b:BG g d)(B:1<=s/\s+1<=99999999)(N:gY x)(V:(EG x).length<=1048576)(C: ∀a,s<=a->a<=99999999->g (aC nn a)=none)
  (y: ∀a∈x.names,g (aX a)=some (AY (Js (T a)),bq)/\Ha (T a)) (n: ∀e,F1 e=if e=aC nn s then some (bq,AY (CY (EG x))) else g e) (c:Md F1 G): ∃i,BG G i/\mO d s x T i:=by
 have D: ∀a,s<a->d.N a= []:=λa o=>by
  by_cases E:a<=99999999
  ·exact b.jG E (C a (by omega) E)
  ·exact b.gI (.inr (by have:=b.cq;omega))
 have W:d.N s= []:=b.jG (by omega) (C s (A0 _) (by omega));have F: ∀a,1<=a->a<=99999999->Nr (g (aC nl a)) (G (aC nl a)):=λa j k=>by
  have f:F1 (aC nl a)=g (aC nl a):=by rw[n,if_neg (WO a s)]
  have:=c.bX (x:=aC nl a) λp q=>(b.log.has a p j k (f▸q)).1
  rwa [f] at this
 have H: ∀a,1<=a->a<=99999999->a≠s->Nr (g (aC nn a)) (G (aC nn a)):=λa j k z=>by
  have f:F1 (aC nn a)=g (aC nn a):=by rw[n,if_neg λf=>z (Iw f)]
  have:=c.bX (x:=aC nn a) λp q=>(b.note.has a p j k (f▸q)).1
  rwa [f] at this
 have O: ∀a l,g (aX a)=some (AY (Js l),bq)->Ha l->G (aX a)=some (AY (Js l),bq):=λa l A t=>by
  have f:F1 (aX a)=g (aX a):=by grind
  have:=c.bX (x:=aX a) λp q=>by grind
  rw[f] at this;exact VV this t A
 have I: ∀e,(∀ a,e≠aC nn a)->G e≠none->g e≠none:=λe m P A=>P (by
  have:=c e;rw[n,if_neg (m s),A] at this;exact this)
 have J:=c (aC nn s);rw[n,if_pos rfl] at J;obtain⟨Q,u⟩:=J;have h:=zt (rs:= []) (r:=EG x) (λr X=>by simp_all) Q;have R:AY (aI [])=bq:=rfl;rw[R] at h;have K:(G (aC nn s)=none\/ ∃e,G (aC nn s)=some (e,bq)/\NW (bl e) [])-> ∃i,BG G i/\mO d s x T i:=λS=>by
  have U:Nf {d with aY:=max d.aY (s+1)}=Nf d:=UC (by show d.aY<=max d.aY (s+1);omega) λa w _=>b.gI (.inr w)
  have L:Ao {d with aY:=max d.aY (s+1)}=Ao d:=by unfold Ao;rw[U]
  refine⟨{d with aY:=max d.aY (s+1)},⟨b.log.aS b.cq.1 F,?_,λa M=>?_,b.fQ,b.dI,λe m hd=>?_,by have:=b.cq;refine⟨this.1,this.2.1,?_,?_⟩<;>simp only[]<;>omega⟩,⟨rfl,rfl,A0 _,.inl ⟨L,rfl⟩⟩⟩
  ·have:=b.note.put (G:=G) (eZ:=max d.aY (s+1)) (s:=s) (v:= []) ⟨B.1,by omega⟩ (by omega) (λa j k z=>H a j k z) (S.imp (λb=>⟨b,rfl⟩) λb=>b) (by omega);have f:(Kc (λa=>(d.N a).map EG) s [])=λa=>(d.N a).map EG:=by
    funext a
    grind [EM,GL]
   rw[f] at this;exact this
  ·rw[L] at M;obtain⟨w,Y⟩:=b.cO a M
   grind
  ·exact b.dj e (I e (λa f=>by grind [Ti]) m) hd
 split at u
 ·exact K (.inl u)
 ·rcases h with h|h
  ·exact K (.inr ⟨_,u,h⟩)
  ·exact⟨_,zX b B N D F H (λa o=>⟨O a _ (y a o).1 (y a o).2,(y a o).2⟩) (λe w _ m=>I e w m) ⟨_,u,h⟩,AOa D⟩
theorem zZ {e G:bO}{b:Bo}{s:Nat}{x:Nt}{T:Nat->List Pr}(k:BG e (addN b s x T))(o: ∀a,s<a->b.N a= [])(l:e (aC nn s)≠none)(m: ∀d,G d=e d\/(G d=none/\ ∃a,a<s/\a<=99999999/\d=aC nn a)): ∃c,BG G c/\Ao c=x/\c.T=T/\c.L=b.L/\c.aO=b.aO/\c.aY=max b.aY (s+1):=by
 have f:(addN b s x T).N s= [x]:=by show Kc b.N s [x] s=_;rw[EM]
 have g: ∀a,s<a->(addN b s x T).N a= []:=λa p=>by show Kc b.N s [x] a=_;grind [GL]
 have h:s<(addN b s x T).aY:=by show s<max b.aY (s+1);omega
 have i:G (aC nn s)≠none:=by
  rcases m (aC nn s) with j|⟨_,a,j,_,n⟩
  ·rw[j];exact l
  ·have:=Iw n;omega
 refine⟨oY (addN b s x T) G,APj k f g h i (λa q=>?_) λd r=>?_,zY f g h i,rfl,rfl,rfl,rfl⟩
 ·grind
 grind
end Go.Lf.G
namespace Go.Lf
open Go
variable {α : Type} {E : cE α} {A : al} {P : Q1}
def gX(a:Array J0):Nat->List J0->Array J0
 |_,[]=>a
 |o,v::b=>gX (a.setIfInBounds o v) (o+1) b
theorem Ig: ∀(c:List J0) (a:Array J0) (b:Nat),(gX a b c).size=a.size
 | [],_,_=>rfl
 |v::d,a,b=>by unfold gX;rw[Ig d];simp
theorem OU: ∀(c:List J0) (b:Array J0) (a:Nat),a+c.length<=b.size->(gX b a c).toList=b.toList.take a++c++b.toList.drop (a+c.length)
 | [],b,a,e=>by simp[gX]
 |v::d,b,a,e=>by
  have f:b.size=b.toList.length:=by simp
  simp only[A6] at e;unfold gX;rw[OU d _ (a+1) (by simp;omega)];rw[DQ,AD,List.take_set_of_le (A0 _),HN (by omega),XS (by omega)];simp only[CA,A4,List.singleton_append,A6,DG,DA];rw[show a+1+d.length=a+(d.length+1) by omega]
theorem cW {A:al}: ∀(h:List J0) (c:Nat) {d:aa} {n b:Nat} {f:Array J0} {T:Q7},d[b]? =some (.cells f T (0,0))-> ∃e,(A.at d n).setCells b c h=A.at e n/\e[b]? =some (.cells (gX f c h) T (0,0))/\Mod (· =b) d e/\e.size=d.size
 | [],c,d,n,b,f,T,g=>⟨d,rfl,g,Mod.refl,rfl⟩
 |v::i,c,d,n,b,f,T,g=>by
  have j:(dc d ⟨b,c,none⟩ v)[b]? =some (.cells (f.setIfInBounds c v) T (0,0)):=vu g;obtain⟨e,k,l,m,o⟩:=cW (A:=A) i (c+1) (n:=n) j;refine⟨e,?_,l,(Mod.set (S:=(· =b)) (a:=⟨b,c,none⟩) rfl).trans m,by rw[o,qH]⟩;show((A.at d n).setCell ⟨b,c,none⟩ v).setCells b (c+1) i=_;rw[<- k];rfl
theorem APR {t h j T:Q7}{i:TypeInfo}{f:J0}(n:P.underlying t=some (.slice T))(o:P.underlying h=some (.int J9))(q:P.info? T=some i)(r:i.zero=some f)(D:i.size=1)(s:f.cells= #[f]){a:aa}{p:Q2}{cap b:Nat}{K:Sl->aa->Prop}
  (u:0<b) (F:cap<b) (w:b*i.bytes<=140737488355328) (k:b<=maxLen) (G:0<i.bytes)
  (x: ∀e c l,e[a.size]? =some (.cells l T (0,0))->l.size=c->b<=c->c<=maxLen->Ext a e->e.size=a.size+1->K ⟨some ⟨a.size,0,none⟩,b,c⟩ e):
  BD A P (Builtin.append_ #[t,h] j #[.slice p 0 cap,.int J9 (b:Int)]) a λv e=> ∃g:Sl,v= .slice g.p g.len g.cap/\K g e:=by
 intro d;have y:(Builtin.firstCells i.size 0 (.slice p 0 cap)).run P (A.at a d).drew= .ok ([]:List J0).toArray (A.at a d).drew:=by cases p<;>simp[Builtin.firstCells,loadCells,loadCellsFrom]
 have z:Builtin.nextslicecap (0+b) cap*i.bytes<=281474976710656:=by rw[AI];exact growslice_fits (by omega) w
 have m:=Lib.run_append_grow_zeros (A.at a d) t h j T i f J9 J9 n o q r p 0 cap [] y b u (by omega) (by omega) (by simp only[maxLen] at k;omega) (by omega) z;simp only[AI] at m;have B:=grownCap_ge (A.at a d) b cap T;have C:=grownCap_le_maxLen (A.at a d) b cap T k;generalize grownCap (A.at a d) b cap T=c at*
 refine⟨_,_,d+1,m,⟨some ⟨a.size,0,none⟩,b,c⟩,rfl,x _ c _ (P3 ..) ?_ B C (Mod.push a _) (by show(a.push _).size=a.size+1;simp)⟩;simp[Builtin.zeroCells,s];omega
theorem oC {t k T:Q7}(q:P.underlying t=some (.slice T))(r:(P.info? T).map (·.size)=some 1){d:aa}{b e g l h m:Nat}{a:Q6}{i:Array J0}{vs:List J0}{K:Int->aa->Prop}
  (j:d[b]? =some (.cells i T (0,0))) (s:vs.length=min h g) (u: ∀f v,vs[f]? =some v->ah d (a.add f)=some v) (G:e+vs.length<=i.size) (w: ∀v∈vs,ML v=true)
  (x: ∀c,c[b]? =some (.cells (gX i e vs) T (0,0))->Mod (· =b) d c->c.size=d.size->K (vs.length:Int) c):
  BD A P (Builtin.copy_ #[t,t] k #[.slice (some ⟨b,e,none⟩) g l,.slice (some a) h m]) d λv c=> ∃o:Int,v= .int J9 o/\K o c:=by
 intro n;have p:=run_copy_cells (P:=P) (A.at d n) t t k T b e g l a h m vs q r s u
  (λf y=>by
   show(ah d ⟨b,e+f,none⟩).isSome=true;rw[IG j,Fo (by omega)];rfl)
  (λf y=>PQ j) (λv z=>Pb (w v z))
 obtain⟨c,B,C,D,F⟩:=cW (A:=A) vs e (n:=n) j;rw[B] at p;exact⟨_,c,n,p,_,rfl,x c C D F⟩
def oD(A:al)(P:Q1)(t b:Q7)(h fr:Q8)(s:Sl)(i:Int)(v:Sl)(e:aa)(d:A2J):Prop:=
 aG ((0:Int)<=i/\i<=((s.len:Nat):Int))<|
 af (((v.len:Nat):Int)==(0:Int)) (
  d (.slice s.p s.len s.cap) e) (
  af (i==((s.len:Nat):Int)) (
   BD A P (Builtin.append_ #[t,t] t #[.slice s.p s.len s.cap,.slice v.p v.len v.cap]) e λv1 j=> ∃c:Sl,v1= .slice c.p c.len c.cap/\(
   d (.slice c.p c.len c.cap) j)) (
   af (decide ((J8 J9 (((s.len:Nat):Int)+((v.len:Nat):Int)))>((s.cap:Nat):Int))) (
    aG ((0:Int)<=i/\i<=((s.cap:Nat):Int))<|
    BD A P (Builtin.append_ #[t,b] t #[.slice (Az s.p s.cap 0 1) (i.toNat-0) (s.cap-0),.int J9 (J8 J9 ((J8 J9 (((s.len:Nat):Int)+((v.len:Nat):Int)))-i))]) e λv2 k=> ∃a:Sl,v2= .slice a.p a.len a.cap/\(
    aG ((0:Int)<=i/\i<=((a.len:Nat):Int))<|
    BD A P (Builtin.copy_ #[t,t] b #[.slice (Az a.p a.cap i.toNat 1) (a.len-i.toNat) (a.cap-i.toNat),.slice v.p v.len v.cap]) k λl m=> ∃n:Int,l= .int J9 n/\(
    aG ((0:Int)<=(J8 J9 (i+((v.len:Nat):Int)))/\(J8 J9 (i+((v.len:Nat):Int)))<=((a.len:Nat):Int))<|
    aG ((0:Int)<=i/\i<=((s.len:Nat):Int))<|
    BD A P (Builtin.copy_ #[t,t] b #[.slice (Az a.p a.cap ((J8 J9 (i+((v.len:Nat):Int))).toNat) 1) (a.len-((J8 J9 (i+((v.len:Nat):Int))).toNat)) (a.cap-((J8 J9 (i+((v.len:Nat):Int))).toNat)),.slice (Az s.p s.cap i.toNat 1) (s.len-i.toNat) (s.cap-i.toNat)]) m λo p=> ∃q:Int,o= .int J9 q/\(
    d (.slice a.p a.len a.cap) p)))) (
    aG ((0:Int)<=(J8 J9 (((s.len:Nat):Int)+((v.len:Nat):Int)))/\(J8 J9 (((s.len:Nat):Int)+((v.len:Nat):Int)))<=((s.cap:Nat):Int))<|
    aG ((0:Int)<=(J8 J9 (i+((v.len:Nat):Int)))/\(J8 J9 (i+((v.len:Nat):Int)))<=(((((J8 J9 (((s.len:Nat):Int)+((v.len:Nat):Int))).toNat)-0):Nat):Int))<|
    nK A P h #[.slice v.p v.len v.cap,.slice (Az (Az s.p s.cap 0 1) (s.cap-0) ((J8 J9 (i+((v.len:Nat):Int))).toNat) 1) ((((J8 J9 (((s.len:Nat):Int)+((v.len:Nat):Int))).toNat)-0)-((J8 J9 (i+((v.len:Nat):Int))).toNat)) ((s.cap-0)-((J8 J9 (i+((v.len:Nat):Int))).toNat))] e λr f=> ∃g:Bool,r= .bool g/\(
    af (!g) (
     aG ((0:Int)<=(J8 J9 (i+((v.len:Nat):Int)))/\(J8 J9 (i+((v.len:Nat):Int)))<=(((((J8 J9 (((s.len:Nat):Int)+((v.len:Nat):Int))).toNat)-0):Nat):Int))<|
     aG ((0:Int)<=i/\i<=(((((J8 J9 (((s.len:Nat):Int)+((v.len:Nat):Int))).toNat)-0):Nat):Int))<|
     BD A P (Builtin.copy_ #[t,t] b #[.slice (Az (Az s.p s.cap 0 1) (s.cap-0) ((J8 J9 (i+((v.len:Nat):Int))).toNat) 1) ((((J8 J9 (((s.len:Nat):Int)+((v.len:Nat):Int))).toNat)-0)-((J8 J9 (i+((v.len:Nat):Int))).toNat)) ((s.cap-0)-((J8 J9 (i+((v.len:Nat):Int))).toNat)),.slice (Az (Az s.p s.cap 0 1) (s.cap-0) i.toNat 1) ((((J8 J9 (((s.len:Nat):Int)+((v.len:Nat):Int))).toNat)-0)-i.toNat) ((s.cap-0)-i.toNat)]) f λu w=> ∃x:Int,u= .int J9 x/\(
     aG ((0:Int)<=i/\i<=(((((J8 J9 (((s.len:Nat):Int)+((v.len:Nat):Int))).toNat)-0):Nat):Int))<|
     BD A P (Builtin.copy_ #[t,t] b #[.slice (Az (Az s.p s.cap 0 1) (s.cap-0) i.toNat 1) ((((J8 J9 (((s.len:Nat):Int)+((v.len:Nat):Int))).toNat)-0)-i.toNat) ((s.cap-0)-i.toNat),.slice v.p v.len v.cap]) w λy z=> ∃B:Int,y= .int J9 B/\(
     d (.slice (Az s.p s.cap 0 1) (((J8 J9 (((s.len:Nat):Int)+((v.len:Nat):Int))).toNat)-0) (s.cap-0)) z))) (
     aG ((0:Int)<=((s.len:Nat):Int)/\((s.len:Nat):Int)<=(((((J8 J9 (((s.len:Nat):Int)+((v.len:Nat):Int))).toNat)-0):Nat):Int))<|
     BD A P (Builtin.copy_ #[t,t] b #[.slice (Az (Az s.p s.cap 0 1) (s.cap-0) (((s.len:Nat):Int).toNat) 1) ((((J8 J9 (((s.len:Nat):Int)+((v.len:Nat):Int))).toNat)-0)-(((s.len:Nat):Int).toNat)) ((s.cap-0)-(((s.len:Nat):Int).toNat)),.slice v.p v.len v.cap]) f λC D=> ∃F:Int,C= .int J9 F/\(
     aG ((0:Int)<=i/\i<=(((((J8 J9 (((s.len:Nat):Int)+((v.len:Nat):Int))).toNat)-0):Nat):Int))<|
     AA A P fr #[.slice (Az (Az s.p s.cap 0 1) (s.cap-0) i.toNat 1) ((((J8 J9 (((s.len:Nat):Int)+((v.len:Nat):Int))).toNat)-0)-i.toNat) ((s.cap-0)-i.toNat),.int J9 ((v.len:Nat):Int)] D λG H=>G= .tuple #[]/\(
     d (.slice (Az s.p s.cap 0 1) (((J8 J9 (((s.len:Nat):Int)+((v.len:Nat):Int))).toNat)-0) (s.cap-0)) H)))))))
theorem Wt {e:aa}{b:Nat}{f:Array J0}{T:Q7}{fr:Nat×Nat}(h:e[b]? =some (.cells f T fr)){a:List J0}{g:Nat}(i:(f.toList.drop g).take a.length=a): ∀c v,a[c]? =some v->ah e ((⟨b,g,none⟩:Q6).add c)=some v:=λc v d=>by
 rw[Be,IG h];have j:=(List.getElem?_eq_some_iff.1 d).1;rw[<- i,F0,if_pos j,BY] at d;simpa using d
theorem wV {t ae T ag:Q7}{ai fr:Q8}{G:J0}{H:Nat}(aj:QP P t T 1 H=true)(k:E.w=1)(aD:P.underlying ae=some (.int J9))(I:(P.info? T).bind (·.zero)=some G)(aE:G.cells= #[G])(hB:0<H)
  (aF: ∀args J,(callFunc ai args).run P J=((Extern.SlicesOverlaps.overlaps #[t,t] #[ag] args).run P J).andThen λv aG=> .ok (.value v) aG)
  {a:aa} {s:Sl} {l:List α} {x:α} {e:J0} {f:Nat} (S:Own E T a s l) (K:E.enc x= [e]) (o:a[f]? =some (.cells #[e] T (0,0))) (aH:s.ag≠some f) (ak:l.length+1<=maxLen) (al:(l.length+1)*H<=140737488355328) {am:A2J}
  (U: ∀m r,Own E T r m (x::l)->Mod (λb=>s.ag=some b) a r->(∀ b,m.ag=some b->s.ag=some b\/a.size<=b)->am (.slice m.p m.len m.cap) r):
  oD A P t ae ai fr s (0:Int) ⟨some ⟨f,0,none⟩,1,1⟩ a am:=by
 unfold oD;have V:=S.len;have bj:maxLen<=9223372036854775807:=by simp[maxLen]
 obtain⟨q,i,z,w,an,W,aI,bk⟩:=qI aj;have aJ:z=G:=by rw[w] at I;simp only[P0] at I;rw[an] at I;exact By I
 subst aJ;have ao:ML e=true:=E.one x e (by rw[K];simp);have bm:=Ai o;refine⟨⟨GO _,by omega⟩,af.no rfl ?_⟩;refine af.intro (λy=>?_) (λy=>?_)
 ·have y:l= []:=by
   have:(0:Int)=((s.len:Nat):Int):=by simpa using y
   exact CT (by omega)
  subst y;have aK:View E a ⟨some ⟨f,0,none⟩,1,1⟩ [x]:=⟨rfl,A0 _,λj ap n=>⟨_,rfl,λaL u L=>by
   have aM:j=0:=by have:=(List.getElem?_eq_some_iff.1 n).1;simpa using this
   subst aM;simp only[Hn,BE] at n;subst n;rw[K] at L;have aN:aL=0:=by have:=(List.getElem?_eq_some_iff.1 L).1;simpa using this
   subst aN;simp only[Hn,BE] at L;subst L;rw[HT,Be,Be];exact AL o rfl⟩⟩
  have aO:QP P t T E.w H=true:=by rw[k];exact aj
  exact GG (s:=s) (src:=⟨some ⟨f,0,none⟩,1,1⟩) aO S aK (by simpa using al) (by simpa using ak) λm r aP aQ aR _=>U m r aP aQ aR
 ·have aS:0<l.length:=by
   have: ¬(0:Int)=((s.len:Nat):Int):=by simpa using y
   omega
  rcases S.row with⟨rfl,rfl⟩|⟨g,M,B,C,bn,aT,N,X⟩
  ·simp at aS
  ·rw[k,Bs] at N X;have d:(l.flatMap E.enc).length=l.length:=by rw[KF,k,Bs]
   have aq: ∀v∈l.flatMap E.enc,ML v=true:=λv D=>by
    obtain⟨ap,_,aV⟩:=List.mem_flatMap.1 D;exact E.one ap v aV
   have ar:g≠f:=λh=>aH (by rw[Sl.ag,B,h];rfl)
   have bo:=Ai C;have aW:J8 J9 (((s.len:Nat):Int)+(((1:Nat)):Int))=((l.length+1:Nat):Int):=by rw[V];exact Ab (by omega)
   have aX:J8 J9 ((0:Int)+(((1:Nat)):Int))=((1:Nat):Int):=by decide
   have aY:J8 J9 (((l.length+1:Nat):Int)-(0:Int))=((l.length+1:Nat):Int):=by rw[Int.sub_zero];exact Eb (by omega)
   have O:(P.info? T).map (·.size)=some 1:=by rw[w];simp[W]
   dsimp only;rw[aW,aX,aY];have aZ:((1:Nat):Int).toNat=1:=rfl;have a0:(0:Int).toNat=0:=rfl;have a1:((l.length+1:Nat):Int).toNat=l.length+1:=by omega
   rw[aZ,a0,a1];have au: ∀j v,[e][j]? =some v->ah a ((⟨f,0,none⟩:Q6).add j)=some v:=Wt o (by simp);refine af.intro (λY=>?_) (λY=>?_)
   ·have Z:s.cap<l.length+1:=by
     have:((s.cap:Nat):Int)<((l.length+1:Nat):Int):=by simpa using Y
     omega
    refine⟨⟨GO _,by omega⟩,?_⟩;refine APR (p:=Az s.p s.cap 0 1) (cap:=s.cap) q aD w an W aE (by omega) Z (by rw[aI];exact al) ak (by omega) λbp c av a2 aw a3 a4 ab bq=>⟨⟨GO _,by dsimp only;omega⟩,?_⟩
    have a5:Az (some (⟨a.size,0,none⟩:Q6)) c 0 1=some ⟨a.size,0,none⟩:=by unfold Az;rw[if_neg (by omega)];rfl
    have a6:Az (some (⟨a.size,0,none⟩:Q6)) c 1 1=some ⟨a.size,1,none⟩:=by unfold Az;rw[if_neg (by omega)];rfl
    dsimp only;rw[a5];refine oC (vs:= [e]) q O a2 (by simp) (λj v n=>ab.ah (au j v n)) (by simp;omega) (λv D=>by rw[List.mem_singleton.1 D];exact ao) λa7 a8 ax br=>⟨⟨by omega,by omega⟩,⟨GO _,by omega⟩,?_⟩
    rw[a6,B];have Q:Az (some (⟨g,0,none⟩:Q6)) s.cap 0 1=some ⟨g,0,none⟩:=by unfold Az;rw[if_neg (by omega)];rfl
    rw[Q];have a9:a7[g]? =some (.cells M T (0,0)):=ax.ag (ab.ag C (λa=>a)) (by omega);refine oC (vs:=l.flatMap E.enc) q O a8 (by rw[d];omega) (Wt a9 (by rw[d,HL,<-V];exact X)) (by rw[Ig,d];omega) aq λay ac R ba=>?_
    refine U ⟨some ⟨a.size,0,none⟩,l.length+1,c⟩ ay ⟨rfl,.inr ⟨a.size,_,rfl,ac,a3,a4,by rw[Ig,Ig,k,Bs];exact aw,?_⟩⟩ ?_ (λb F=> .inr (by simp[Sl.ag] at F;omega))
    ·rw[OU _ _ _ (by rw[Ig,d];omega),OU _ _ _ (by simp;omega)];rw[k,Bs,AF,K];have bb:av.toList.length=c:=by simp[aw]
     simp only[Is,DA,CN];have bc:(([e]++av.toList.drop (0+1)).take 1)= [e]:=by simp
     rw[bc,N5 (by simp[d])];rw[Ax (by simp[d])]
    ·refine((Ext.mod ab).trans ((ax.trans R).aj (S':=λb=>s.ag=some b\/b=a.size) λc az h=> .inr h)) |> λaA=>?_
     exact⟨aA.size,λb F bd=>aA.get b F (λbe=>be.elim bd (by omega))⟩
   ·have Z:l.length+1<=s.cap:=by
     have: ¬((s.cap:Nat):Int)<((l.length+1:Nat):Int):=by simpa using Y
     omega
    have Q: ∀c,0<c->Az (some (⟨g,0,none⟩:Q6)) c 0 1=some ⟨g,0,none⟩:=λc az=>by
     unfold Az;rw[if_neg (by omega)];rfl
    have bf: ∀c,1<c->Az (some (⟨g,0,none⟩:Q6)) c 1 1=some ⟨g,1,none⟩:=λc az=>by
     unfold Az;rw[if_neg (by omega)];rfl
    refine⟨⟨by omega,by omega⟩,⟨by omega,by omega⟩,?_⟩;rw[B,Q _ (by omega),Hv,Hv,Hv,Q _ (by omega),bf _ (by omega)];intro aC;refine⟨.bool false,a,aC,?_,false,rfl,af.yes rfl ⟨⟨by omega,by omega⟩,⟨GO _,by omega⟩,?_⟩⟩
    ·rw[aF,Lib.run_overlaps_apart (A.at a aC) t ag T q 1 (λJ=>by rw[Go.run_sizeOf J w];simp[Program.cellsOf,w,W]) ⟨f,0,none⟩ ⟨g,1,none⟩ 1 1 _ _ (λh=>ar h.symm) T T 1 s.cap
      (by show(match a[f]? with|some (.cells c ad _)=>some (ad,c.size)|_=>none)=_;rw[o];rfl) (by show(match a[g]? with|some (.cells c ad _)=>some (ad,c.size)|_=>none)=_;rw[C];simp[N]) (by omega) (PQ o) (PQ o)]
     rfl
    ·refine oC (vs:=l.flatMap E.enc) q O C (by rw[d];omega) (Wt C (by rw[d,HL,<-V];exact X)) (by rw[d];omega) aq λay ac R ba=>⟨⟨GO _,by omega⟩,?_⟩
     refine oC (vs:= [e]) q O ac (by simp) (λj v n=>R.ah (au j v n) (by rw[aU];exact λh=>ar h.symm)) (by rw[Ig];simp;omega) (λv D=>by rw[List.mem_singleton.1 D];exact ao) λbg bh bi bs=>?_
     refine U ⟨some ⟨g,0,none⟩,l.length+1,s.cap⟩ bg ⟨rfl,.inr ⟨g,_,rfl,bh,Z,aT,by rw[Ig,Ig,k,Bs];exact N,?_⟩⟩ ((R.trans bi).aj λb _ h=>by rw[Sl.ag,B,h];rfl) (λb F=> .inl (by rw[Sl.ag,B];exact F));rw[OU _ _ _ (by rw[Ig];simp;omega),OU _ _ _ (by rw[d];omega)];rw[k,Bs,AF,K];have bb:M.toList.length=s.cap:=by simp[N]
     have bt:(M.toList.take 1).length=1:=by simp;omega
     simp only[Is,DA,CN,AI];rw[A4 (M.toList.take 1),A0l (by omega),HA (by omega),DA];rw[<- A4,N5 (by simp[d])];rw[Ax (by simp[d])]
end Go.Lf
namespace Go.Lf.G
open Go
def fL:cE Nat where
 enc t:= [Ap t]
 w:=1
 len _:=rfl
 pos:=by omega
 one x v a:=by simp at a;subst a;rfl
theorem Cells.pt {b:aa}{a:Q6}{x:Nat}(c:Cells b a (fL.enc x)):ah b a=some (Ap x):=by have d:=c 0 _ rfl;rwa [add_zero] at d
theorem vR:QP P Aq BK fL.w 8=true:=by kernel_rfl
theorem ovT(args:Array J0)(a:World):(callFunc EQ args).run P a=((Extern.SlicesOverlaps.overlaps #[Aq,Aq] #[qO] args).run P a).andThen λv b=> .ok (.value v) b:=
 run_callFunc_extern (fn:=Proofs.Tryz.f231) Proofs.Tryz.func231 (by kernel_rfl) (by kernel_rfl) (by kernel_rfl) (by kernel_rfl) args a
theorem ovI(args:Array J0)(a:World):(callFunc Gq args).run P a=((Extern.SlicesOverlaps.overlaps #[Cz,Cz] #[qO] args).run P a).andThen λv b=> .ok (.value v) b:=
 run_callFunc_extern (fn:=Proofs.Tryz.f233) Proofs.Tryz.func233 (by kernel_rfl) (by kernel_rfl) (by kernel_rfl) (by kernel_rfl) args a
theorem ATt:(P.info? BK).bind (·.zero)=some (J5 none):=by kernel_rfl
theorem AT9:(P.info? Bq).bind (·.zero)=some (J6 J9 0):=by kernel_rfl
theorem vS:P.underlying Bq=some (.int J9):=by kernel_rfl
theorem ASG(a:al)(s v:Sl)(i:Int)(b:aa)(c:A2J):Dv a s i v b c=oD a P Aq Bq EQ Ff s i v b c:=rfl
theorem AS0(a:al)(s v:Sl)(i:Int)(b:aa)(c:A2J):IV a s i v b c=oD a P Cz Bq Gq I5 s i v b c:=rfl
theorem qT {g:al}{a:aa}{s:Sl}{l:List Nat}{x d:Nat}{f:A2J}(h:Own fL BK a s l)(i:a[d]? =some (J2 #[Ap x] BK (0,0)))(j:s.ag≠some d)(m:l.length<=1000000)
  (k: ∀c e,Own fL BK e c (x::l)->Mod (λb=>s.ag=some b) a e->(∀ b,c.ag=some b->s.ag=some b\/a.size<=b)->f (J4 c.p c.len c.cap) e):
  AA g P BN #[J4 s.p s.len s.cap,J6 J9 0,J4 (some (⟨d,0,none⟩:Q6)) 1 1] a f:=by
 refine Gd (v:=⟨some ⟨d,0,none⟩,1,1⟩) ?_;rw[ASG];exact wV vR rfl vS ATt rfl (by decide) ovT h rfl i j (by simp[maxLen];omega) (by omega) k
theorem qU {g:al}{a:aa}{s:Sl}{l:List Int}{x:Int}{d:Nat}{f:A2J}(h:Own IY Bq a s l)(i:a[d]? =some (J2 #[J6 J9 x] Bq (0,0)))(j:s.ag≠some d)(m:l.length<=1000000)
  (k: ∀c e,Own IY Bq e c (x::l)->Mod (λb=>s.ag=some b) a e->(∀ b,c.ag=some b->s.ag=some b\/a.size<=b)->f (J4 c.p c.len c.cap) e):
  AA g P DC #[J4 s.p s.len s.cap,J6 J9 0,J4 (some (⟨d,0,none⟩:Q6)) 1 1] a f:=by
 refine NL (v:=⟨some ⟨d,0,none⟩,1,1⟩) ?_;rw[AS0];exact wV rW rfl vS AT9 rfl (by decide) ovI h rfl i j (by simp[maxLen];omega) (by omega) k
structure Db where
 fr:List Pr
 ts:List (Nat×List Pr)
 next:Nat
 aW:Nat
 aw:Nat
 aJ:Nat
 bo:Bool
structure Hp where
 d:Nat
 b:Nat
 lg:Nat
 nt:Nat
 ft:Nat
 Sb:Nat->Prop
 ns:List M.DL
 tp:Sl
 np:Sl
 ps:List Nat
abbrev eg(q:Hp)(st:Db)(down:Bool):Array J0:= #[Ap q.b,Ap q.lg,Ap q.nt,Ap q.ft,J4 q.tp.p q.tp.len q.tp.cap,J4 q.np.p q.np.len q.np.cap,J6 J9 (st.next:Int),J6 J9 (st.aW:Int),J3 down]
abbrev eo(st:Db):List Int:=st.ts.map λp=>(p.1:Int)
def mP(h:aa)(k:Nat->Nat)(t:Nat)(l:List Pr):Prop:= ∃b a,bR h t l (NG l) b a/\a<=h.size/\(∀ c,b<=c->c<a->k c=8)/\Ha l
structure bK (g h:aa) (q:Hp) (k:Nat->Nat) (st:Db) (m:Bx):Prop where
 cell:h[q.d]? =some (J2 (eg q st false) FP (0,0))
 box:Cf h q.b q.Sb m
 log:EY h q.lg q.b nl st.aw st.bo
 dI:EY h q.nt q.b nn st.aJ false
 fresh:M.cY h q.ft q.ns st.fr
 cj:Own fL BK h q.tp q.ps
 da:q.ps.length=st.ts.length
 cO: ∀(i:Nat) (t:Nat) (p:Nat×List Pr),q.ps[i]? =some t->st.ts[i]? =some p->mP h k t p.2
 names:Own IY Bq h q.np (eo st)
 kd:k q.d=1
 kb: ∀c,q.Sb c->k c=2
 kl:k q.lg=3
 kn:k q.nt=4
 kf: ∀c,M.cS q.ft q.ns c->k c=5
 kt: ∀c,q.tp.ag=some c->k c=6
 kx: ∀c,q.np.ag=some c->k c=7
 own: ∀c,k c≠0->g.size<=c/\c<h.size
 ext:Ext g h
theorem TY {b:Type}{d:cE b}{T:Q7}{h:aa}{s:Sl}{l:List b}(e:Own d T h s l){c:Nat}(a:s.ag=some c):c<h.size:=by
 rcases e.row with⟨rfl,_⟩|⟨g,j,f,i,_⟩
 ·simp[Sl.ag] at a
 ·rw[Sl.ag,f] at a;have:g=c:=by simpa using a
  subst this;exact Ai i
theorem mP.mod {h h':aa}{k a:Nat->Nat}{t:Nat}{l:List Pr}{b:Nat->Prop}(T:mP h k t l)(x:Mod b h h')(e: ∀c,k c=8-> ¬b c)(f: ∀c,c<h.size->a c=k c):mP h' a t l:=by obtain⟨i,j,n,o,d,p⟩:=T;exact⟨i,j,n.mod x λc c1 c2=>e c (d c c1 c2),AH o x.size,λc c1 c2=>by rw[f c (by omega)];exact d c c1 c2,p⟩
structure DbR (C:Nat->Prop) (g h h':aa) (q:Hp) (k:Nat->Nat) (st:Db) (m:Bx):Prop where
 ext:Ext g h'
 size:h.size<=h'.size
 cell: ¬C 1->h'[q.d]? =some (J2 (eg q st false) FP (0,0))
 box: ¬C 2->Cf h' q.b q.Sb m
 log: ¬C 3->EY h' q.lg q.b nl st.aw st.bo
 dI: ¬C 4->EY h' q.nt q.b nn st.aJ false
 fresh: ¬C 5->M.cY h' q.ft q.ns st.fr
 cj: ¬C 6->Own fL BK h' q.tp q.ps
 names: ¬C 7->Own IY Bq h' q.np (eo st)
 cO: ¬C 8-> ∀k',(∀ c,c<h.size->k' c=k c)-> ∀(i:Nat) (t:Nat) (p:Nat×List Pr),q.ps[i]? =some t->st.ts[i]? =some p->mP h' k' t p.2
theorem bK.rest {C:Nat->Prop}{g h h':aa}{q:Hp}{k:Nat->Nat}{st:Db}{m:Bx}(a:bK g h q k st m)(x:Mod (λc=>C (k c)) h h')(f: ¬C 0):DbR C g h h' q k st m:=by
 refine⟨⟨AH a.ext.size x.size,λc d _=>?_⟩,x.size,λb=>x.ag a.cell (by rw[a.kd];exact b),λb=>a.box.mod x λc d=>by rw[a.kb c d];exact b,λb=>a.log.mod x (by rw[a.kl];exact b),λb=>a.dI.mod x (by rw[a.kn];exact b),
  λb=>a.fresh.mod x λc d=>by rw[a.kf c d];exact b,λb=>a.cj.mod x λc d=>by rw[a.kt c d];exact b,λb=>a.names.mod x λc d=>by rw[a.kx c d];exact b,
  λb n e i t p j l=>(a.cO i t p j l).mod x (λc d=>by rw[d];exact b) e⟩
 have e:k c=0:=Decidable.byContradiction λh=>by have:=(a.own c h).1;omega
 exact(x.get c (Fc d a.ext.size) (by rw[e];exact f)).trans (a.ext.get c d (λh=>h))
section
variable {g h h' : aa} {q : Hp} {k : Nat -> Nat} {st : Db} {m : Bx}
theorem bK.ia(a:bK g h q k st m):q.d<h.size:=Ai a.cell
theorem bK.pw(a:bK g h q k st m):q.lg<h.size:=Ai a.log
theorem bK.px(a:bK g h q k st m):q.nt<h.size:=Ai a.dI
theorem bK.lD(a:bK g h q k st m): ¬q.Sb q.lg:=λb=>by have:=a.kb _ b;rw[a.kl] at this;cases this
theorem bK.sV(a:bK g h q k st m): ¬q.Sb q.nt:=λb=>by have:=a.kb _ b;rw[a.kn] at this;cases this
theorem bK.na(a:bK g h q k st m): ¬q.Sb q.d:=λb=>by have:=a.kb _ b;rw[a.kd] at this;cases this
theorem bK.dl(a:bK g h q k st m):q.d≠q.lg:=λb=>by have:=a.kd;rw[b,a.kl] at this;cases this
theorem bK.dn(a:bK g h q k st m):q.d≠q.nt:=λb=>by have:=a.kd;rw[b,a.kn] at this;cases this
theorem bK.on(a:bK g h q k st m)(x:Ext h h'):bK g h' q k st m:=by
 have b:=a.rest (C:=λ_=>False) x (λh=>h);exact⟨b.cell λh=>h,b.box λh=>h,b.log λh=>h,b.dI λh=>h,b.fresh λh=>h,b.cj λh=>h,a.da,b.cO (λh=>h) k (λ_ _=>rfl),b.names λh=>h,a.kd,a.kb,a.kl,a.kn,a.kf,a.kt,a.kx,
  λc d=>⟨(a.own c d).1,Fc (a.own c d).2 x.size⟩,b.ext⟩
theorem bK.beside {e:Nat->Prop}(a:bK g h q k st m)(x:Mod e h h')(f: ∀c,e c->k c=0/\g.size<=c):bK g h' q k st m:=by
 have j:Ext g h':=⟨AH a.ext.size x.size,λc b _=>(x.get c (Fc b a.ext.size) λh=>by have:=(f c h).2;omega).trans (a.ext.get c b (λh=>h))⟩;have d: ∀ {c},k c≠0-> ¬e c:=λb l=>b (f _ l).1
 exact⟨x.ag a.cell (d (by rw[a.kd];decide)),a.box.mod x λc b=>d (by rw[a.kb c b];decide),a.log.mod x (d (by rw[a.kl];decide)),a.dI.mod x (d (by rw[a.kn];decide)),a.fresh.mod x λc b=>d (by rw[a.kf c b];decide),
  a.cj.mod x λc b=>d (by rw[a.kt c b];decide),a.da,λi t p n o=>(a.cO i t p n o).mod x (λc b=>d (by rw[b];decide)) (λ_ _=>rfl),a.names.mod x λc b=>d (by rw[a.kx c b];decide),a.kd,a.kb,a.kl,a.kn,a.kf,a.kt,a.kx,
  λc b=>⟨(a.own c b).1,Fc (a.own c b).2 x.size⟩,j⟩
open Classical in
noncomputable def Jm (k:Nat->Nat) (a:Nat) (b:Nat->Prop) (d:Nat):Nat->Nat:=λc=>if c<a then k c else if b c then d else 0
theorem GY {a b c:Nat}{d:Nat->Prop}(e:c<a):Jm k a d b c=k c:=by unfold Jm;rw[if_pos e]
theorem sw {a b c:Nat}{d:Nat->Prop}(f:a<=c)(e:d c):Jm k a d b c=b:=by unfold Jm;rw[if_neg (by omega),if_pos e]
theorem Vd {a b c:Nat}{S:Nat->Prop}(e:a<=c)(d: ¬S c):Jm k a S b c=0:=by unfold Jm;rw[if_neg (by omega),if_neg d]
theorem bK.boxed(b:bK g h q k st m){S':Nat->Prop}{p:Bx}{j:Nat}{bH:Db}(r:Cf h' q.b S' p)(x:Mod (λc=>q.Sb c\/(j=3/\c=q.lg)\/(j=4/\c=q.nt)) h h')(s: ∀c,S' c->q.Sb c\/h.size<=c)
  (u:bH.fr=st.fr) (i:bH.ts=st.ts) (v:bH.next=st.next) (w:bH.aW=st.aW)
  (l:(j≠3/\bH.aw=st.aw/\bH.bo=st.bo)\/EY h' q.lg q.b nl bH.aw bH.bo) (y:(j≠4/\bH.aJ=st.aJ)\/EY h' q.nt q.b nn bH.aJ false):
  bK g h' {q with Sb:=S'} (Jm k h.size S' 2) bH p:=by
 have e:=b.rest (C:=λc=>c=2\/(j=3/\c=3)\/(j=4/\c=4)) (h':=h') (x.aj λc _ a=>by
  rcases a with a|⟨d,rfl⟩|⟨d,rfl⟩
  ·exact .inl (b.kb c a)
  ·exact .inr (.inl ⟨d,b.kl⟩)
  ·exact .inr (.inr ⟨d,b.kn⟩)) (by rintro(h|⟨_,h⟩|⟨_,h⟩)<;>cases h)
 have f: ∀ {c},c<h.size->Jm k h.size S' 2 c=k c:=λa=>GY a
 have z:eg {q with Sb:=S'} bH false=eg q st false:=by simp only[eg,v,w]
 refine⟨by rw[z];exact e.cell (by omega),r,?_,?_,by rw[u];exact e.fresh (by omega),e.cj (by omega),by rw[i];exact b.da,by rw[i];exact e.cO (by omega) _ (λc a=>f a),by rw[eo,i];exact e.names (by omega),
  by rw[f b.ia];exact b.kd,λc a=>?_,by rw[f b.pw];exact b.kl,by rw[f b.px];exact b.kn,λc a=>by rw[f (b.fresh.lt a)];exact b.kf c a,λc a=>by rw[f (TY b.cj a)];exact b.kt c a,
  λc a=>by rw[f (TY b.names a)];exact b.kx c a,λc a=>?_,e.ext⟩
 ·rcases l with⟨d,n,A⟩|d
  ·rw[n,A];exact e.log (by omega)
  ·exact d
 ·rcases y with⟨d,n⟩|d
  ·rw[n];exact e.dI (by omega)
  ·exact d
 ·by_cases o:c<h.size
  ·rw[f o];rcases s c a with d|d
   ·exact b.kb c d
   ·omega
  ·exact sw (by omega) a
 ·by_cases o:c<h.size
  ·rw[f o] at a;exact⟨(b.own c a).1,by have:=e.size;omega⟩
  ·by_cases t:S' c
   ·exact⟨by have:=b.ext.size;omega,r.lt t⟩
   ·exact absurd (Vd (by omega) t) a
theorem bK.pv(b:bK g h q k st m){f:List M.DL}{j:List Pr}(T:M.cY h' q.ft f j)(x:Mod (M.cS q.ft q.ns) h h')(s: ∀c,M.cS q.ft f c->M.cS q.ft q.ns c\/h.size<=c):
  bK g h' {q with ns:=f} (Jm k h.size (M.cS q.ft f) 5) {st with fr:=j} m:=by
 have d:=b.rest (C:=λc=>c=5) (h':=h') (x.aj λc _ a=>b.kf c a) (by decide);have e: ∀ {c},c<h.size->Jm k h.size (M.cS q.ft f) 5 c=k c:=λa=>GY a
 refine⟨d.cell (by decide),d.box (by decide),d.log (by decide),d.dI (by decide),T,d.cj (by decide),b.da,d.cO (by decide) _ (λc a=>e a),d.names (by decide),
  by rw[e b.ia];exact b.kd,λc a=>by rw[e (b.box.lt a)];exact b.kb c a,by rw[e b.pw];exact b.kl,by rw[e b.px];exact b.kn,λc a=>?_,λc a=>by rw[e (TY b.cj a)];exact b.kt c a,
  λc a=>by rw[e (TY b.names a)];exact b.kx c a,λc a=>?_,d.ext⟩
 ·by_cases i:c<h.size
  ·rw[e i];rcases s c a with l|l
   ·exact b.kf c l
   ·omega
  ·exact sw (by omega) a
 ·by_cases i:c<h.size
  ·rw[e i] at a;exact⟨(b.own c a).1,by have:=d.size;omega⟩
  ·by_cases n:M.cS q.ft f c
   ·exact⟨by have:=b.ext.size;omega,T.lt n⟩
   ·exact absurd (Vd (by omega) n) a
theorem bK.renew(b:bK g h q k st m){gG:Nat}(T:M.cY h' gG [] [])(i:h.size<=gG)(a:h'[q.d]? =some (J2 (eg {q with ft:=gG} st false) FP (0,0)))(x:Mod (λc=>c=q.d) h h'):
  bK g h' {q with ft:=gG,ns:= []} (Jm k h.size (· =gG) 5) {st with fr:= []} m:=by
 have d:=b.rest (C:=λc=>c=1) (h':=h') (x.aj λc _ a=>by rw[a];exact b.kd) (by decide);have e: ∀ {c},c<h.size->Jm k h.size (· =gG) 5 c=k c:=λa=>GY a
 have j: ∀c,M.cS gG [] c->c=gG:=λc a=>by
  rcases a with rfl|⟨x,l,_⟩
  ·rfl
  ·cases l
 refine⟨a,d.box (by decide),d.log (by decide),d.dI (by decide),T,d.cj (by decide),b.da,d.cO (by decide) _ (λc a=>e a),d.names (by decide),
  by rw[e b.ia];exact b.kd,λc a=>by rw[e (b.box.lt a)];exact b.kb c a,by rw[e b.pw];exact b.kl,by rw[e b.px];exact b.kn,λc a=>by rw[j c a];exact sw i rfl,λc a=>by rw[e (TY b.cj a)];exact b.kt c a,
  λc a=>by rw[e (TY b.names a)];exact b.kx c a,λc a=>?_,d.ext⟩
 by_cases n:c<h.size
 ·rw[e n] at a;exact⟨(b.own c a).1,by have:=d.size;omega⟩
 ·by_cases f:c=gG
  ·subst f;exact⟨by have:=b.ext.size;omega,T.lt (.inl rfl)⟩
  ·exact absurd (Vd (S:=(· =gG)) (by omega) f) a
open Classical in
noncomputable def Lp (k:Nat->Nat) (b:Nat) (tp np:Sl) (a:Nat->Prop):Nat->Nat:=λc=>if k c≠0 then k c else if tp.ag=some c then 6 else if np.ag=some c then 7 else if a c then 8 else 0
theorem bK.eY(d:bK g h q k st m){tp np:Sl}{ps:List Nat}{ts:List (Nat×List Pr)}{next aW:Nat}{S:Nat->Prop}
  (a:h'[q.d]? =some (J2 (eg {q with tp:=tp,np:=np} {st with next:=next,aW:=aW} false) FP (0,0))) (x:Mod (λc=>c=q.d\/q.tp.ag=some c\/q.np.ag=some c) h h')
  (G:Own fL BK h' tp ps) (on:Own IY Bq h' np (ts.map λp=>(p.1:Int))) (I:ps.length=ts.length)
  (r: ∀c,tp.ag=some c->q.tp.ag=some c\/(k c=0/\g.size<=c/\np.ag≠some c/\ ¬S c)) (s: ∀c,np.ag=some c->q.np.ag=some c\/(k c=0/\g.size<=c/\tp.ag≠some c/\ ¬S c)) (J: ∀c,S c->g.size<=c/\c<h'.size)
  (K: ∀(i:Nat) (t:Nat) (p:Nat×List Pr),ps[i]? =some t->ts[i]? =some p->(∃ e:Nat,q.ps[e]? =some t/\st.ts[e]? =some p)\/ ∃n j,bR h' t p.2 (NG p.2) n j/\j<=h'.size/\(∀ c,n<=c->c<j->S c/\k c=0)/\Ha p.2):
  bK g h' {q with tp:=tp,np:=np,ps:=ps} (Lp k h.size tp np S) {st with ts:=ts,next:=next,aW:=aW} m:=by
 have l:=d.rest (C:=λc=>c=1\/c=6\/c=7) (h':=h') (x.aj λc _ a=>by
  rcases a with rfl|a|a
  ·exact .inl d.kd
  ·exact .inr (.inl (d.kt c a))
  ·exact .inr (.inr (d.kx c a))) (by decide)
 have f: ∀ {c e},k c=e->e≠0->Lp k h.size tp np S c=e:=λb u=>by unfold Lp;rw[if_pos (by rw[b];exact u)];exact b
 refine⟨a,l.box (by decide),l.log (by decide),l.dI (by decide),l.fresh (by decide),G,I,λi t p b u=>?_,on,f d.kd (by decide),λc a=>f (d.kb c a) (by decide),f d.kl (by decide),f d.kn (by decide),λc a=>f (d.kf c a) (by decide),λc a=>?_,λc a=>?_,λc a=>?_,l.ext⟩
 ·rcases K i t p b u with⟨e,L,M⟩|⟨n,j,v,w,y,z⟩
  ·obtain⟨n,j,v,w,y,z⟩:=l.cO (by decide) k (λ_ _=>rfl) e t p L M;exact⟨n,j,v,w,λc c1 c2=>f (y c c1 c2) (by decide),z⟩
  ·refine⟨n,j,v,w,λc c1 c2=>?_,z⟩;obtain⟨A,B⟩:=y c c1 c2;have N:tp.ag≠some c:=λD=>by
    rcases r c D with h|h
    ·have:=d.kt c h;rw[B] at this;cases this
    ·exact h.2.2.2 A
   have O:np.ag≠some c:=λD=>by
    rcases s c D with h|h
    ·have:=d.kx c h;rw[B] at this;cases this
    ·exact h.2.2.2 A
   unfold Lp;rw[if_neg (by simp[B]),if_neg N,if_neg O,if_pos A]
 ·rcases r c a with b|b
  ·exact f (d.kt c b) (by decide)
  ·unfold Lp;rw[if_neg (by simp[b.1]),if_pos a]
 ·rcases s c a with b|b
  ·exact f (d.kx c b) (by decide)
  ·unfold Lp;rw[if_neg (by simp[b.1]),if_neg b.2.2.1,if_pos a]
 ·by_cases o:k c=0
  ·unfold Lp at a;rw[if_neg (by simp[o])] at a;by_cases E:tp.ag=some c
   ·refine⟨?_,TY G E⟩;rcases r c E with b|b
    ·have:=d.kt c b;rw[o] at this;cases this
    ·exact b.2.1
   ·rw[if_neg E] at a;by_cases F:np.ag=some c
    ·refine⟨?_,TY on F⟩;rcases s c F with b|b
     ·have:=d.kx c b;rw[o] at this;cases this
     ·exact b.2.1
    ·rw[if_neg F] at a;by_cases H:S c
     ·exact J c H
     ·rw[if_neg H] at a;exact absurd rfl a
  ·exact⟨(d.own c o).1,by have:=(d.own c o).2;have:=l.size;omega⟩
end
structure Jf (m m':Bx):Prop where
 up:m'.down=false
 calm:m.fuel= -1->m'.fuel= -1
theorem Jf.refl {m:Bx}(a:m.down=false):Jf m m:=⟨a,λa=>a⟩
theorem Jf.trans {m c d:Bx}(a:Jf m c)(b:Jf c d):Jf m d:=⟨b.up,λe=>b.calm (a.calm e)⟩
theorem Zq {m:Bx}(hd:m.down=false)(l:List Fi):Jf m {Hy m with files:=l}:=by refine⟨(AMQ l).trans hd,λa=>?_⟩;show(Hy m).fuel= -1;unfold Hy;rw[if_neg (by rw[a];decide)];exact a
theorem R3 {m:Bx}{k d:A2K}(hd:m.down=false)(b:Jr k=false):(m.fuel=0/\CS m k d=(30,NU m))\/((CS m k d).1=0/\Jf m (CS m k d).2/\
  ∀x,ff (CS m k d).2 x=if x=k then some (((ff m k).getD (bq,bq)).1,((ff m k).getD (bq,bq)).2++d) else ff m x):=by
 by_cases a:m.fuel=0
 ·left;refine⟨a,?_⟩;unfold CS;rw[if_neg (by simp[hd]),if_neg (by simp[b]),if_pos a]
 ·right;obtain⟨c,e⟩:=wm ⟨hd,a⟩ (d:=d) b;refine⟨c,?_,e⟩;unfold CS;rw[if_neg (by simp[hd]),if_neg (by simp[b]),if_neg a];exact Zq hd _
theorem Od {m:Bx}{a:A2K}{p:A2K×A2K}(hd:m.down=false)(c:ff m a=some p):(m.fuel=0/\FR m a=(30,NU m))\/((FR m a).1=0/\Jf m (FR m a).2/\ ∀x,ff (FR m a).2 x=if x=a then some (p.1++p.2,bq) else ff m x):=by
 have d:(Cc a m.files).isNone=false:=by
  cases b:Cc a m.files with
  |none=>unfold ff at c;rw[b] at c;cases c
  |some f=>rfl
 by_cases b:m.fuel=0
 ·left;refine⟨b,?_⟩;unfold FR;rw[if_neg (by simp[hd]),if_neg (by simp[d]),if_pos b]
 ·right;obtain⟨e,g⟩:=wo ⟨hd,b⟩ c;refine⟨e,?_,g⟩;unfold FR;rw[if_neg (by simp[hd]),if_neg (by simp[d]),if_neg b];exact Zq hd _
theorem RZ {m:Bx}{k:A2K}(hd:m.down=false)(b:(ff m k).isSome=true):(m.fuel=0/\Cj m k=(30,NU m))\/((Cj m k).1=0/\Jf m (Cj m k).2/\ ∀x,ff (Cj m k).2 x=if x=k then none else ff m x):=by
 have c:(Cc k m.files).isNone=false:=by
  rw[<- SI] at b;cases a:Cc k m.files with
  |none=>rw[a] at b;cases b
  |some f=>rfl
 by_cases a:m.fuel=0
 ·left;refine⟨a,?_⟩;unfold Cj;rw[if_neg (by simp[hd]),if_neg (by simp[c]),if_pos a]
 ·right;obtain⟨d,e⟩:=wq ⟨hd,a⟩ b;refine⟨d,?_,e⟩;unfold Cj;rw[if_neg (by simp[hd]),if_neg (by simp[c]),if_neg a];exact Zq hd _
theorem p8(m:Bx)(x:A2K):ff (NU m) x=ff m x:=rfl
theorem sx(m:Bx):ba (NU m).files=ba m.files:=rfl
theorem AFy {aq:al}{g:aa}{H b z:Nat}{h:A2K}{X:Bool}{n:Nat->Prop}{m:Bx}{upto:Int}{I:A2J}(ar:cp g)(au: ∀j,Mod n g j->cp j)(L:EY g H b h z X)(N:Cf g b n m)(hd:m.down=false)(av: ¬n H)(a2:h.size<=8)(aw:ba m.files<=8000000000000)
  (ax:upto>=(z:Int)->I (J6 J9 1) g)
  (ay:m.fuel≠ -1-> ∀j S' f,Cf j b S' f->f.down=true->Mod n g j->(∀ c,S' c->n c)->ba f.files<=ba m.files->(∀ x,ff f x=ff m x\/(ff f x=none/\ ∃d:Nat,1<=d/\d<=99999999/\(d:Int)<=upto/\x=aC h d))->I (J6 J9 30) j)
  (az:upto<(z:Int)-> ∀j S' f,Cf j b S' f->Jf m f->Mod n g j->(∀ c,S' c->n c)->ba f.files<=ba m.files->(∀ d:Nat,1<=d->d<=99999999->(d:Int)<=upto->ff f (aC h d)=none)->
   (∀ x,(∀ d:Nat,1<=d->d<=99999999->(d:Int)<=upto->x≠aC h d)->ff f x=ff m x)->I (J6 J9 0) j):AA aq P JY #[Ap H,J6 J9 upto] g I:=by
 refine ABr ?_;unfold Ub;refine ai.mk λK aA=>af.no rfl (aD (AC.mk (AB L rfl) (aA _ _ ?_)))
 refine af.intro (λq=>ax (by simpa using q)) (λq=>?_);have aE:upto<(z:Int):=by simpa using q
 refine aD (AX.mk (AL L rfl) (aD (AJ.mk (AB L rfl) ?_)));refine yI ar N hd (by omega) aw λY Z l A v2 ab O=>⟨Z,_,rfl,af.no rfl ?_⟩
 have ac:(l.map λd:Nat=>(d:Int)).length=l.length:=B9 ..;have J: ∀d∈l,1<=d/\d<=99999999/\(ff m (aC h d)).isSome=true:=λd e=>by
  have:=(A.mem d).1 e;rw[SI] at this;exact this
 have a3:l.Nodup:=List.nodup_iff_pairwise_ne.2 (A.inc.imp λg=>Nat.ne_of_lt g);have a4:=AQF A;refine Loop.rule (λad x s=> ∃(i:Nat) (B:Nat->Prop) (r:Bx),x=((i:Int),())/\Cf s b B r/\Jf m r/\Mod n g s/\Mod n Y s/\(∀ c,B c->n c)/\ba r.files<=ba m.files/\(∀ d∈l.take i,(d:Int)<=upto->ff r (aC h d)=none)/\(∀ x,(∀ d∈l.take i,(d:Int)<=upto->x≠aC h d)->ff r x=ff m x)/\i<=l.length/\ad=l.length-i) ?_
  ⟨0,n,m,rfl,N.ext ab,Jf.refl hd,Ext.mod ab,Mod.refl,λ_ g=>g,A0 _,by simp,λ_ _=>rfl,A5 _,rfl⟩
 rintro a5 ad _ s ⟨i,B,r,rfl,Q,C,w,R,D,M,E,u,a6,rfl⟩ aF;have aG:View IY s Z (l.map λd:Nat=>(d:Int)):=v2.mod R λc v aH=>by have:=O c v;have:=N.lt aH;omega
 rw[v2.len,ac];refine af.intro (λS=>?_) (λS=>?_)
 ·have F:i<l.length:=by simpa using S
  have ah:l[i]? =some l[i]:=A2 F;obtain⟨ae,ag,aI⟩:=J l[i] (AW F);have y:l.take (i+1)=l.take i++ [l[i]]:=by rw[AD,ah];rfl
  have aJ: ∀d∈l.take i,d<l[i]:=λd e=>by
   have:=A.inc;rw[<- DE (i+1) l,y] at this;have aK:=(List.pairwise_append.1 (List.pairwise_append.1 this).1).2.2 d e l[i] (by simp);exact aK
  refine ai.mk λaL aM=>?_
  have aj: ∀S' f j,Cf j b S' f->Jf m f->Mod n g j->Mod n Y j->(∀ c,S' c->n c)->ba f.files<=ba m.files->(∀ d∈l.take (i+1),(d:Int)<=upto->ff f (aC h d)=none)->(∀ x,(∀ d∈l.take (i+1),(d:Int)<=upto->x≠aC h d)->ff f x=ff m x)->aL () j:=λS' f j aN aO aP aQ aR aS aT O=>by
   refine aM _ _ ?_;dsimp only;rw[Ab (by omega)];exact aF (l.length-(i+1)) _ _ (by omega) ⟨i+1,S',f,rfl,aN,aO,aP,aQ,aR,aS,aT,O,F,rfl⟩
  rw[<- ac,<-v2.len];refine aG.idx (i:=i) (x:=(l[i]:Int)) (by rw[C5,ah];rfl) λa _ c=>?_
  refine AC.mk c.int ?_;refine af.intro (λq=>?_) (λq=>?_)
  ·have q:(l[i]:Int)<=upto:=by simpa using q
   have T:EY s H b h z X:=L.mod w av;refine aD (AX.mk (AL T rfl) (aD (AJ.mk (AB T rfl) ?_)));refine Ym (au s w) (by omega) (by omega) λa7 U=>⟨_,rfl,⟨AL (T.ext U) rfl,?_⟩⟩
   refine R8 (Q.ext U) λak am V aU an=>⟨_,rfl,?_⟩
   have aV:(ff r (aC h l[i])).isSome=true:=by rw[u (aC h l[i]) λd e _ G=>by have:=aJ d e;have:=Iw G;omega];exact aI
   have W:=(Ext.mod U).trans (aU.aj λc _ v=>D c v);rcases RZ (k:=aC h l[i]) C.up aV with⟨aW,aX⟩|⟨aY,ds,ao⟩
   ·rw[aX] at V ⊢;refine af.yes rfl (ay (λg=>by have:=C.calm g;rw[aW] at this;cases this) ak am _ V rfl (w.trans W) (λc v=>D c (an c v)) M λx=>?_);show ff r x=_\/(ff r x=_/\_);by_cases t: ∃d,d∈l.take i/\(d:Int)<=upto/\x=aC h d
    ·obtain⟨d,e,o,rfl⟩:=t;have ap:=J d (DB e);exact .inr ⟨E d e o,d,ap.1,ap.2.1,o,rfl⟩
    ·exact .inl (u x λd e o G=>t ⟨d,e,o,G⟩)
   rw[aY];refine af.no rfl (aj am _ ak V (C.trans ds) (w.trans W) (R.trans W) (λc v=>D c (an c v)) (AH (VL _) M) ?_ ?_)
   ·intro d e o;rw[ao];split
    ·rfl
    ·rename_i aZ;rw[y] at e;rcases List.mem_append.1 e with e|e
     ·exact E d e o
     ·exact absurd (by rw[List.mem_singleton.1 e]) aZ
   ·intro x t;rw[ao,if_neg (t l[i] (by rw[y];exact List.mem_append.2 (.inr (List.mem_singleton.2 rfl))) q)];exact u x λd e=>t d (by rw[y];exact List.mem_append.2 (.inl e))
  ·have q: ¬(l[i]:Int)<=upto:=by simpa using q
   refine aj B r s Q C w R D M ?_ ?_
   ·intro d e o;rw[y] at e;rcases List.mem_append.1 e with e|e
    ·exact E d e o
    ·rw[List.mem_singleton.1 e] at o;exact absurd o q
   ·intro x t;exact u x λd e=>t d (by rw[y];exact List.mem_append.2 (.inl e))
 ·have F:i=l.length:=by simp at S;omega
  subst F;rw[Bk] at E u;refine az aE s B r Q C w D M ?_ ?_
  ·intro d ae ag o;by_cases e:d∈l
   ·exact E d e o
   ·rw[u (aC h d) λk a0 _ G=>e (by rw[Iw G];exact a0)];have: ¬((ff m (aC h d)).isSome=true):=λg=>e ((A.mem d).2 ⟨ae,ag,by rw[SI];exact g⟩)
    cases a1:ff m (aC h d) with
    |none=>rfl
    |some p=>rw[a1] at this;exact absurd rfl this
  ·intro x t;exact u x λd e o=>t d (J d e).1 (J d e).2.1 o
theorem ARq {a:Nat}(h:a<=99999999):Jr (aX a)=false:=by
 have b:(aX a).size=1+(Lib.decDigits a).length:=by have:=A8 (aX a);rw[XO] at this;rw[<- this];simp;omega
 have c:(Lib.decDigits a).length<=20:=by rw[Lib.decDigits_length];exact Lib.nDigits_le20 a (by omega)
 unfold Jr;rw[GC,decide_eq_false_iff_not,decide_eq_false_iff_not];refine⟨λh=>?_,by omega⟩;rw[h] at b;have:bq.size=0:=rfl;omega
theorem Qh {A:al}{h:aa}{a:Nat}{R:A2J}(c:cp h)(l:a<=1099511627776)(d: ∀b,Ext h b->R (J7 (aX a)) b):AA A P JQ #[J6 J9 a] h R:=by
 refine AIo ?_;unfold uW;refine yE c.cO (by omega) (by omega) λe f=>⟨_,rfl,?_⟩
 have i:Lib.itoa (a:Int)=Lib.decDigits a:=Lib.itoa_nonneg a;rw[i];have n:(Lib.decDigits a).length<=20:=by rw[Lib.decDigits_length];exact Lib.nDigits_le20 a (by omega)
 have j:(⟨(Lib.decDigits a).toArray⟩:A2K).size=(Lib.decDigits a).length:=by simp[ByteArray.size]
 refine⟨?_,?_⟩
 ·rw[j,max_i64];have:(⟨#[116]⟩:A2K).size=1:=rfl;omega
 ·exact d e f
def sy(h:aa)(a:Nat):Prop:= ∃b c1 c2 c3 c d e f,h[a]? =some (J2 #[b,c1,c2,c3,c,d,e,f,J3 true] FP (0,0))
theorem ARj {A:al}{h:aa}{q:Hp}{st:Db}{R:A2J}(hd:h[q.d]? =some (J2 (eg q st false) FP (0,0)))(b: ∀a,sy a q.d->Mod (· =q.d) h a->a.size=h.size->R (J6 J9 30) a):AA A P Cm #[Ap q.d,J6 J9 30] h R:=by
 refine ACc ?_;unfold Wl;refine ai.mk λK c=>af.yes rfl (aD (ae.dt hd (by simp) λd e f i=>c _ _ (b d ?_ f i)))
 exact⟨_,_,_,_,_,_,_,_,by simpa using e⟩
section
variable {A : al} {g h : aa} {q : Hp} {k : Nat -> Nat} {st : Db} {m : Bx} {R : A2J}
theorem bK.ib(a:bK g h q k st m)(b:cp g):cp h:=b.ext a.ext
def Grow(k a:Nat->Nat)(b:Nat):Prop:= ∀c,c<b->a c=k c
theorem Grow.refl {k:Nat->Nat}{a:Nat}:Grow k k a:=λ_ _=>rfl
theorem sA {k:Nat->Nat}{a b:Nat}{d:Nat->Prop}:Grow k (Jm k a d b) a:=λc e=>GY e
theorem AQ8(b:bK g h q k st m)(r:st.next<=99999999)(I:st.aW<=99999999)(J:st.ts.length<=60000)(t: ∀p∈st.ts,p.1<=99999999)(C: ∀u,Ext h u->R (J7 (AY (EG ⟨st.next,st.aW,st.ts.map (·.1)⟩))) u):AA A P P5 #[Ap q.d] h R:=by
 refine AEM ?_;unfold WR;refine aD (AC.mk (AB b.cell rfl) (aD (AC.mk (AB b.cell rfl) (aD (Aa.mk (s:=q.np) (AB b.cell rfl) ?_)))));rw[Bu (by omega)];refine CU (by omega) λL v=>⟨_,rfl,?_⟩
 have c1:=Am v b.cell;refine⟨AB c1 rfl,AB c1 rfl,?_⟩;rw[Bu (by omega)];refine CU (by omega) λM w=>⟨_,rfl,?_⟩
 have c2:=Am w c1;have N:=AV (n:=st.next) (by omega);have O:=AV (n:=st.aW) (by omega);have f:q.np.len=st.ts.length:=by rw[b.names.len];simp
 refine⟨AB c2 rfl,by rw[AP,AP,max_i64];omega,?_⟩;rw[f,Bu (by omega),Ak];refine CU (by omega) λD y=>⟨_,rfl,?_⟩
 have c3:=Am y c2;have Q:=AV (n:=st.ts.length) (by omega);refine⟨by rw[AP,AP,A1,max_i64];omega,?_⟩;refine aD (Aa.mk (s:=q.np) (AB c3 rfl) ?_);rw[Ak];have z:=(v.trans w).trans y;have E:=(b.names.ext z).view;have S: ∀i,((st.ts.map (·.1)).take i).flatMap BU=((st.ts.map (·.1)).take i).flatMap BU:=λ_=>rfl
 refine Loop.rule (λB x j=> ∃i:Nat,x=(AY (BU st.next++BU st.aW++BU st.ts.length++((st.ts.map (·.1)).take i).flatMap BU),(i:Int),())/\B=st.ts.length-i/\i<=st.ts.length/\Ext D j) ?_ ⟨0,by simp,rfl,by omega,Mod.refl⟩;rintro K B _ j ⟨i,rfl,rfl,T,o⟩ F;dsimp only;refine af.intro (λe=>?_) (λe=>?_)
 ·have d:i<st.ts.length:=by rw[<- f];simpa using e
  have ah:st.ts[i]? =some st.ts[i]:=A2 d;have U:=t st.ts[i] (AW d);refine(E.ext o).idx (i:=i) (x:=(st.ts[i].1:Int)) (by rw[eo,C5,ah];rfl) λa _ c=>AC.mk c.int ?_
  rw[Bu (by omega)];refine CU (by omega) λV G=>⟨_,rfl,?_⟩
  have W:=AV (n:=st.ts[i].1) (by omega);have X:=VC (l:=(st.ts.map (·.1)).take i) λn r=>by
   obtain⟨p,H,rfl⟩:=List.mem_map.1 (DB r);exact t p H
  have Y:((st.ts.map (·.1)).take i).length<=60000:=by simp;omega
  refine⟨by rw[AP,AP,max_i64];simp only[A1];omega,?_⟩;rw[Ak,Ab (by omega)];refine F (st.ts.length-(i+1)) _ _ (by omega) ⟨i+1,?_,rfl,d,o.trans G⟩;rw[AD,C5,ah];simp
 ·have d:i=st.ts.length:=by rw[f] at e;simp at e;omega
  subst d;have:=C j (z.trans o);rw[Ax (by simp)];simpa [EG] using this
theorem API {n:Nat}{s:Sl}{l:List Pr}(z:cp g)(Q:bK g h q k st m)(hd:m.down=false)(T:Ha l)(an:View BM h s l)(B: ∀c,s.ag=some c->c<h.size)(ao:n<=99999999)(ap:ff m (aX n)=none)(aq:ba m.files+(Js l).length+1<=8796093022208)
  (S:m.fuel≠ -1-> ∀b S' e,Cf b q.b S' e->e.down=true->Mod q.Sb h b->(∀ c,S' c->q.Sb c\/h.size<=c)->(∀ x,x≠aX n->ff e x=ff m x)->ba e.files<=ba m.files+(Js l).length+1->R (J1 #[J5 none,J6 J9 30]) b)
  (ar: ∀b S' C e t D U,bK g b {q with Sb:=S'} C st e->Jf m e->(∀ x,ff e x=if x=aX n then some (AY (Js l),bq) else ff m x)->ba e.files<=ba m.files+(Js l).length+1->bR b t l (NG l) D U->h.size<=D->U<=b.size->(∀ c,D<=c->C c=0)->
   Mod q.Sb h b->Grow k C h.size->R (J1 #[Ap t,J6 J9 0]) b):AA A P Ns #[Ap q.d,J6 J9 (n:Int),J4 s.p s.len s.cap] h R:=by
 refine AEU ?_;unfold Yi;refine AOy T an B λaC V=>⟨_,_,rfl,af.no rfl ?_⟩
 have p:=Q.on V;refine aD (AX.mk (AL p.cell rfl) ?_);refine Qh (p.ib z) (by omega) λE F=>⟨_,rfl,⟨AL (p.on F).cell rfl,?_⟩⟩
 have W:=p.on F;have X:=V.trans F;have aE:=X.size;refine Xe W.box (by rw[AP];exact aq) λY f G H Z=>⟨_,rfl,?_⟩
 have I:=VK Q.box.aQ (aX n) (AY (Js l));rw[AP] at I;have aa:Mod q.Sb h Y:=(Ext.mod X).trans H;have J: ∀c,f c->q.Sb c\/h.size<=c:=λc a=>(Z c a).imp id λh=>by omega
 rcases R3 (k:=aX n) (d:=AY (Js l)) hd (ARq ao) with⟨K,L⟩|⟨L,M,r⟩
 ·rw[L] at G ⊢;refine af.yes rfl ?_;exact S (by rw[K];decide) Y f _ G rfl aa J (λx _=>rfl) (by rw[sx,HG];exact Ix _ _)
 rw[L];refine af.no rfl ?_;have o:=W.boxed (j:=2) (bH:=st) G (H.aj λc _ a=> .inl a) Z rfl rfl rfl rfl (.inl ⟨by decide,rfl,rfl⟩) (.inl ⟨by decide,rfl⟩);generalize (CS m (aX n) (AY (Js l))).2=ab at*
 have aF:Grow k (Jm k E.size f 2) E.size:=sA;refine aD (AX.mk (AL o.cell rfl) ?_);refine Qh (o.ib z) (by omega) λau u=>⟨_,rfl,⟨AL (o.on u).cell rfl,?_⟩⟩
 have ac:=o.on u;rw[ap] at r;have av:ff ab (aX n)=some (bq,bq++AY (Js l)):=by rw[r,if_pos rfl];rfl
 refine pA ac.box λad v N=>⟨_,rfl,?_⟩
 have aw:=YO o.box.aQ (aX n);have ae:Mod q.Sb h ad:=by refine aa.then ((Ext.mod u).trans N |>.aj λc _ a=>?_);exact(J c a)
 rcases Od M.up av with⟨K,O⟩|⟨O,ag,ah⟩
 ·rw[O] at v ⊢;refine af.yes rfl ?_;exact S (λax=>by have:=M.calm ax;rw[K] at this;cases this) ad f _ v rfl ae J (λx i=>by
   rw[p8,r,if_neg i]) I
 rw[O];refine af.no rfl ?_;have w:=ac.boxed (j:=2) (bH:=st) v (N.aj λc _ a=> .inl a) (λc a=> .inl a) rfl rfl rfl rfl (.inl ⟨by decide,rfl,rfl⟩) (.inl ⟨by decide,rfl⟩);generalize (FR ab (aX n)).2=ai at*
 refine aD (AX.mk (AL w.cell rfl) ?_);refine Qh (w.ib z) (by omega) λaj y=>⟨_,rfl,⟨AL (w.on y).cell rfl,?_⟩⟩
 have ak:=w.on y;refine YZ ak.box ⟨_,_,rfl,?_⟩;have ay:ff ai (aX n)=some (AY (Js l),bq):=by rw[ah,if_pos rfl,MV,MV]
 rw[YS ag.up,ay];dsimp only;rw[VT];refine af.no rfl ?_;refine zg T.eL λal t am az=>⟨_,_,rfl,?_⟩
 have aG:=u.size;have aH:=H.size;have aI:=N.size;have aJ:=y.size;have aA: ∀c,aj.size<=c->Jm (Jm k E.size f 2) au.size f 2 c=0:=λc a=>by
  have: ¬f c:=λB=>by have:=v.lt B;omega
  exact Vd (by omega) this
 refine ar al f _ ai t aj.size al.size (ak.on am) (M.trans ag) (λx=>?_) (AH aw I) az (by omega) (A0 _) (λc a=>aA c a) ?_ ?_
 ·rw[ah];by_cases i:x=aX n
  ·rw[if_pos i,if_pos i,MV,MV]
  ·rw[if_neg i,if_neg i,r,if_neg i]
 ·exact(ae.trans (Ext.mod y)).trans (Ext.mod am)
 ·exact λc a=>by
   rw[GY (by omega),GY (by omega)]
end
section
variable {A : al} {g h : aa} {q : Hp} {k : Nat -> Nat} {st : Db} {m : Bx} {R : A2J}
theorem bK.fW(a:bK g h q k st m)(e:cp g){d:aa}(x:Mod (λc=>q.Sb c\/c=q.lg\/c=q.nt) h d):cp d:=
 e.ext (a.rest (C:=λc=>c=2\/c=3\/c=4) (x.aj λc _ b=>by
  rcases b with b|rfl|rfl
  ·exact .inl (a.kb c b)
  ·exact .inr (.inl a.kl)
  ·exact .inr (.inr a.kn)) (by decide)).ext
def cQ(st:Db):Nt:=⟨st.next,st.aW,st.ts.map (·.1)⟩
theorem ALd {B:Bo}{T:Nat->List Pr}(I:cp g)(f:bK g h q k st m)(hd:m.down=false)(ac:BG (ff m) B)(u:gY (cQ st))(ax: ∀a∈(cQ st).names,ff m (aX a)=some (AY (Js (T a)),bq)/\Ha (T a))(ay:1<=st.aJ/\st.aJ+2<=99999999)
  (S: ∀a,st.aJ<=a->a<=99999999->ff m (aC nn a)=none) (bg:ba m.files+1000000<=8000000000000)
  (ad:m.fuel≠ -1-> ∀n S' o,Cf n q.b S' o->o.down=true->Mod (λc=>q.Sb c\/c=q.nt) h n->(∀ c,S' c->q.Sb c\/h.size<=c)->(∀ G,Md (ff o) G-> ∃l,BG G l/\mO B st.aJ (cQ st) T l)->(∀ b,(∀ a,b≠aC nn a)->ff o b=ff m b)->ba o.files<=ba m.files+700000->R (J6 J9 30) n)
  (aM: ∀n S' az o l,bK g n {q with Sb:=S'} az {st with aJ:=st.aJ+1} o->Jf m o->BG (ff o) l->Ao l=cQ st->l.T=T->l.L=B.L->l.aO=B.aO->l.aY<=max B.aY (st.aJ+1)->(∀ b,(∀ a,b≠aC nn a)->ff o b=ff m b)->
   (∀ a,st.aJ+1<=a->a<=99999999->ff o (aC nn a)=none)->ba o.files<=ba m.files+700000->Mod (λc=>q.Sb c\/c=q.nt) h n->Grow k az h.size->R (J6 J9 0) n):AA A P KM #[Ap q.d] h R:=by
 have aN: ∀p∈st.ts,p.1<=99999999:=λp aO=>by
  have v:=u.below p.1 (List.mem_map.2 ⟨p,aO,rfl⟩);have r:=u.next;simp only[cQ] at v r;omega
 have aP:st.ts.length<=60000:=by have:=u.cn;simpa [cQ] using this
 have aQ:=zu u;have aR:(cQ st).names.length=st.ts.length:=by simp[cQ]
 rw[aR] at aQ;have ae:(EG (cQ st)).length<=1048576:=by omega
 refine ADY ?_;unfold WK;refine aD (AX.mk (AB f.cell rfl) ?_);refine AQ8 f u.next u.aW.2 aP aN λv U=>⟨_,rfl,⟨AB (f.on U).cell rfl,?_⟩⟩
 have J:=f.on U;have bh:=U.size;have aS:(AY (EG ⟨st.next,st.aW,st.ts.map (·.1)⟩)).size=(EG (cQ st)).length:=by rw[AP];rfl
 refine yN (J.ib I) J.dI J.box J.sV (λn x=>J.fW I (x.aj λc _ e=> .inl e)) (by decide) (by omega) (by rw[aS];omega) (by omega) λr C K V aT aA=>⟨_,rfl,?_⟩
 rw[show bl (AY (EG ⟨st.next,st.aW,st.ts.map (·.1)⟩))=EG (cQ st) from EF _] at K V ⊢;have aU:=VK f.box.aQ (aC nn st.aJ) (AY (CY (EG (cQ st))));have bi:=(Jc ae).2;rw[AP] at aU;have L:Mod (λc=>q.Sb c\/c=q.nt) h r:=(Ext.mod U).trans aT;have s: ∀c,C c->q.Sb c\/h.size<=c:=λc e=>(aA c e).imp id λh=>by omega
 rcases R3 (k:=aC nn st.aJ) (d:=AY (CY (EG (cQ st)))) hd (yP (by decide) (by omega)) with⟨W,ag⟩|⟨ag,M,aE⟩
 ·rw[ag] at K ⊢;refine af.yes rfl ?_;exact ad (by rw[W];decide) r C _ K rfl L s (λG c=>⟨B,ac.dP c,APZ⟩) (λb _=>rfl) (by rw[sx];omega)
 rw[ag] at V ⊢;refine af.no rfl ?_;rw[decide_eq_true rfl,HI] at V;generalize (CS m (aC nn st.aJ) (AY (CY (EG (cQ st))))).2=t at*
 rw[S st.aJ (A0 _) (by omega)] at aE;have X: ∀b,ff t b=if b=aC nn st.aJ then some (bq,AY (CY (EG (cQ st)))) else ff m b:=λb=>by
  rw[aE];split<;>simp only[Option.getD_none,MV]
 have ah: ¬C q.nt:=λe=>by
  rcases aA _ e with h|h
  ·exact f.sV h
  ·exact h.2 rfl
 have aV:r[q.d]? =some (J2 (eg q st false) FP (0,0)):=L.ag f.cell (by rintro(h|h);exact f.na h;exact f.dn h);refine aD (AX.mk (AB aV rfl) ?_);have aF:ff t (aC nn st.aJ)=some (bq,AY (CY (EG (cQ st)))):=by rw[X,if_pos rfl]
 have aW:cp r:=f.fW I (L.aj λc _ e=>e.imp id .inr);refine XD aW V K ah (by decide) (by omega) (λaY w D ai aj=>⟨_,_,rfl,?_⟩) λaZ w D ai aj=>⟨_,_,rfl,?_⟩
 ·
  have a0:(FR t (aC nn st.aJ)).1≠0:=aY;rcases Od M.up aF with⟨W,E⟩|⟨E,_,_⟩
  ·have a1:NI t (aC nn st.aJ) true=(30,NU t):=E;rw[a1] at D ⊢;refine af.yes rfl ?_;have z:Mod (λc=>q.Sb c\/c=q.nt) h w:=L.then (aj.aj λc _ e=>(s c e).imp .inl id);exact ad (λak=>by have:=M.calm ak;rw[W] at this;cases this) w C _ D rfl z s (λG c=>AMV ac ⟨ay.1,by omega⟩ u ae S ax (F1:=ff (NU t)) X c) (λb i=>by
    rw[p8,X,if_neg (i _)]) (by rw[sx];omega)
  ·exact absurd E a0
 ·rcases Od M.up aF with⟨W,E⟩|⟨E,al,a2⟩
  ·have aG:(FR t (aC nn st.aJ)).1=0:=aZ;rw[E] at aG;cases aG
  have D:Cf w q.b C (FR t (aC nn st.aJ)).2:=D;have bj:=YO K.aQ (aC nn st.aJ);generalize (FR t (aC nn st.aJ)).2=aH at*
  refine af.no rfl ?_;have N: ∀b,ff aH b=if b=aC nn st.aJ then some (AY (CY (EG (cQ st))),bq) else ff m b:=λb=>by
   rw[a2];by_cases i:b=aC nn st.aJ
   ·rw[if_pos i,if_pos i];simp only[MV]
   ·rw[if_neg i,if_neg i,X,if_neg i]
  obtain⟨aI,aK⟩:=ANJ ac ⟨ay.1,by omega⟩ u ae S ax N;have z:Mod (λc=>q.Sb c\/c=q.nt) h w:=L.then (aj.aj λc _ e=>by
   rcases e with e|rfl
   ·exact(s c e).imp .inl id
   ·exact .inl (.inr rfl))
  have a3:w[q.d]? =some (J2 (eg q st false) FP (0,0)):=z.ag f.cell (by rintro(h|h);exact f.na h;exact f.dn h);refine aD (AX.mk (AB a3 rfl) ?_);have a4:J8 J9 (((st.aJ:Nat):Int)-(1:Int))=(st.aJ:Int)-1:=wrap_i64 (by omega) (by omega);rw[a4];have a5:cp w:=f.fW I (z.aj λc _ e=>e.imp id .inr);have a6: ∀n,Mod C w n->cp n:=λn x=>f.fW I ((z.then (x.aj λc _ e=>(s c e).imp .inl id)).aj λc _ e=>e.imp id .inr)
  have aL:ff aH (aC nn st.aJ)≠none:=by rw[N,if_pos rfl];simp
  refine AFy a5 a6 ai D al.up ah (by decide) (by omega) (λh=>absurd h (by omega)) (λa7 F am H an a8 Y ao a9 Z=>⟨_,rfl,?_⟩) λ_ F am H an bb Y ao a9 Z ap=>⟨_,rfl,?_⟩
  ·have aa:Mod (λc=>q.Sb c\/c=q.nt) h F:=z.then (Y.aj λc _ e=>(s c e).imp .inl id);obtain⟨l,aq,ar,au,av,aw,bc⟩:=zZ (G:=ff H) aI aK aL λb=>by
    rcases Z b with v|⟨v,a,O,y,ab,r⟩
    ·exact .inl v
    ·exact .inr ⟨v,a,by omega,y,r⟩
   refine ad (λak=>a7 (al.calm (M.calm ak))) F am H an a8 aa (λc e=>s c (ao c e)) (λG c=>⟨l,aq.dP c,av,aw,by omega,.inr ⟨ar,au⟩⟩) (λb i=>?_) (by omega);rcases Z b with v|⟨_,a,_,_,_,r⟩
   ·rw[v,N,if_neg (i _)]
   ·exact absurd r (i a)
  ·have aa:Mod (λc=>q.Sb c\/c=q.nt) h F:=z.then (Y.aj λc _ e=>(s c e).imp .inl id);obtain⟨l,aq,ar,au,av,aw,bc⟩:=zZ (G:=ff H) aI aK aL λb=>by
    by_cases i: ∃a:Nat,1<=a/\a<=99999999/\(a:Int)<=(st.aJ:Int)-1/\b=aC nn a
    ·obtain⟨a,O,y,ab,rfl⟩:=i;exact .inr ⟨Z a O y ab,a,by omega,y,rfl⟩
    ·exact .inl (ap b λa O y ab Q=>i ⟨a,O,y,ab,Q⟩)
   have bd: ∀b,(∀ a,b≠aC nn a)->ff H b=ff m b:=λb i=>by
    rw[ap b λa _ _ _=>i a,N,if_neg (i _)]
   have be:EY F q.nt q.b nn (st.aJ+1) false:=ai.mod Y ah;have bf:=f.boxed (j:=4) (bH:= {st with aJ:=st.aJ+1}) an (aa.aj λc _ e=>e.imp id λh=> .inr ⟨rfl,h⟩) (λc e=>s c (ao c e)) rfl rfl rfl rfl (.inl ⟨by decide,rfl,rfl⟩) (.inr be);refine aM F am _ H l bf ((M.trans al).trans bb) aq ar au av aw (by omega) bd (λa O y=>?_) (by omega) aa sA;rw[ap (aC nn a) λk _ _ bk Q=>by have:=Iw Q;omega,N,if_neg λQ=>by have:=Iw Q;omega];exact S a (by omega) y
end
end Go.Lf.G
namespace Go.Lf.G.M
open Go Go.Lf Go.Lf.G
theorem AKw {N:al}{n:aa}{b:Nat}{T:Q7}{fr:Nat×Nat}{s:Sl}{l:List Pr}(f:n[b]? =some (J2 #[J4 s.p s.len s.cap] T fr))(v:View BM n s l)(ae:l.length<=1099511627776):
  ES N P (.func (.func DI) #[] #[J5 (some ⟨b,0,none⟩)]) (λc=>c<n.size/\(c=b\/s.ag=some c)) n l:=by
 refine⟨λc o=>o.1,_,_,rfl,λO=>by kernel_rfl,λe D O Q h ag hd hB R S=>?_⟩;rw[qM];refine IZ ?_;unfold El;have E:=Ai f;have U: ∀d,Mod h e d->d[b]? =some (J2 #[J4 s.p s.len s.cap] T fr):=λd m=>by
  have w:=D b ⟨E,.inl rfl⟩;exact m.ag (w.trans f) (hd b ⟨E,.inl rfl⟩)
 have V: ∀i x,l[i]? =some x-> ∃a,s.p=some a/\ ∀d,Mod h e d->Cells d (a.add (i*3)) (BM.enc x):=λi x F=>by
  obtain⟨a,q,o⟩:=v.cells i x F;refine⟨a,q,λd m W u r=>?_⟩;have G:=o W u r;have H:=VN G;rw[aU,aU] at H;have I:a.block<n.size/\(a.block=b\/s.ag=some a.block):=⟨H,.inr (by simp[Sl.ag,q])⟩;have w:=D _ I;refine m.ah ((Qn ?_).trans G) ?_
  ·rw[aU,aU];exact w
  ·rw[aU,aU];exact hd _ I
 refine Aa.mk (AL (U e Mod.refl) rfl) ?_;refine Loop.rule (λm x d=> ∃(i:Nat) (k:Nat->Prop),x=((i:Int),())/\m=l.length-i/\i<=l.length/\Mod h e d/\(∀ b,k b->h b\/e.size<=b)/\Q i true k d) ?_ ⟨0,h,rfl,rfl,by omega,Mod.refl,λb f=> .inl f,S⟩;rintro K m _ d ⟨i,k,rfl,rfl,F,t,y,r⟩ X;refine af.intro (λj=>?_) (λj=>?_)
 ·have p:i<l.length:=by simp[v.len] at j;omega
  obtain⟨a,q,o⟩:=V i _ (A2 p);have c1:=o d t;refine bE.mk q (by rw[v.len];exact p) ?_;refine AJ.mk (c1.pair.1) (AJ.mk c1.pair.2.1 (AZ.mk c1.pair.2.2 ?_));refine ao.pair λah Y ai z A aj=>?_
  refine AJ.mk (AL z rfl) (AJ.mk (AB z rfl) (AZ.mk (AB z rfl) ?_));have Z:=hB.bj _ _ _ _ _ r (A.aj (S':=λb=>¬k b/\e.size<=b) λ_ _ e=>e.elim);refine Eh.mono (R i _ k Y (A2 p) Z) ?_;rintro _ ab ⟨g,B,rfl,ac,ad,J⟩;have L: ∀b,B b->h b\/e.size<=b:=λb f=>(ac b f).elim (y b) λak=> .inr (by have:=t.size;have:=A.size;omega)
  have M:Mod h e ab:=(t.trans A.mod).then (ad.aj λb _ f=>(y b f));refine⟨g,rfl,?_⟩;refine af.intro (λj=>?_) (λj=>?_)
  ·refine⟨rfl,i+1,g,B,M,L,J,λC=>?_,by omega⟩;subst C;cases j
  ·have C:g=true:=by simpa using j
   subst C;exact X _ _ _ (by omega) ⟨i+1,B,by rw[Ab (by omega)],rfl,by omega,M,L,J⟩
 ·have p:i=l.length:=by simp[v.len] at j;omega
  exact⟨rfl,i,true,k,t,y,r,λ_=>p,by omega⟩
theorem sZ {d:al}{a:aa}{s:Sl}{l:List Pr}{e:A2J}(v:View BM a s l)(g:l.length<=1099511627776)
  (h: ∀fv b,ES d P fv (λc=>c<b.size/\(c=a.size\/s.ag=some c)) b l->Ext a b->b.size=a.size+1->e fv b):AA d P Ci #[J4 s.p s.len s.cap] a e:=by
 refine JD ?_;unfold FJ;refine ao.mk λi _ j f k=>?_
 exact h _ i (AKw j (v.ext f) g) f k
theorem py {aq:al}{t:aa}{fv:J0}{S:Nat->Prop}{l:List Pr}{e:A2K}{n:Int}{ar:A2J}(A:(fv= .nilFunc/\l= [])\/ES aq P fv S t l)(bh:l.length<=1099511627776)
  (W: ∀G o,Own BM AQ o G (Pt e n l)->(∀ c,G.ag=some c->t.size<=c)->Ext t o->ar (J4 G.p G.len G.cap) o):AA aq P Ll #[fv,J7 e,J6 J9 n] t ar:=by
 refine AEi ?_;unfold Yl;refine ao.mk λau _ aX aY aZ=>ao.mk λq _ a0 av bi=>ao.mk λd _ a1 X bj=>?_
 have Y:Ext t d:=(aY.trans av).trans X;have a2:d[t.size]? =some (J2 #[J7 e] BI (0,0)):=X.ag (av.ag aX (by simp)) (by simp);have aw:d[au.size]? =some (J2 #[J6 J9 n] Bq (0,0)):=X.ag a0 (by simp);refine ai.mk λK ax=>?_
 have ay:Pt e n l= []->K (true,()) d:=λf=>ax _ _ (af.yes rfl (W ⟨none,0,0⟩ d (f▸Own.nil) (λc j=>by simp[Sl.ag] at j) Y))
 rcases A with⟨rfl,rfl⟩|A
 ·exact⟨trivial,af.yes rfl (ay (by simp[Pt]))⟩
 refine⟨A.one.2.1,af.no A.one.2.2 ?_⟩;refine AC.mk (AL aw rfl) ?_;cases Q:decide (n<=0)
 ·refine ax _ _ (af.no rfl ?_);have Q:0<n:=by simpa using Q
  have az: ∀o:aa,Mod (λc=>c=q.size) d o->Ext t o:=λo m=>Y.then (m.aj λc _ j=> .inr (by omega))
  have bk:=(Wf (l:=l) (RS e)).length_le;refine Xd A (λb a=>Y.get b (A.1 b a) (by simp))
   (λi c Z r=>r[t.size]? =some (J2 #[J7 e] BI (0,0))/\r[au.size]? =some (J2 #[J6 J9 n] Bq (0,0))/\ ∃(s:Sl) (u:List Pr),r[q.size]? =some (J2 #[J4 s.p s.len s.cap] AR (0,0))/\Own BM AQ r s u/\(∀ b,Z b↔(b=q.size\/s.ag=some b))/\(∀ b,s.ag=some b->b<r.size/\q.size<b)/\match c with
    |none=>u=l.take i/\i<=(l.takeWhile (RS e)).length/\(i:Int)<n
    |some aA=>aA=some 0/\u=Pt e n l)
   (λb=>b=q.size) (λb a f=>by have:=A.1 b a;omega) ?_ ?_ ?_ ?_ ?_ ?_
  ·rintro i c Z r ⟨_,_,s,u,q,v,h,k,_⟩ b a;rcases(h b).1 a with rfl|d
   ·exact Ai q
   ·exact(k b d).1
  ·rintro i c Z r o ⟨H,I,s,u,w,v,h,k,a3⟩ m;refine⟨m.ag H (λt=>by omega),m.ag I (λt=>by omega),s,u,m.ag w (λab=>ab.1 ((h _).2 (.inl rfl))),v.mod m (λc j ab=>ab.1 ((h _).2 (.inr j))),h,λb a=>⟨?_,(k b a).2⟩,a3⟩;have:=m.size;have:=(k b a).1;omega
  ·exact⟨a2,aw,⟨none,0,0⟩,[],a1,Own.nil,λb=>by simp[Sl.ag],λb a=>by simp[Sl.ag] at a,by simp,by omega,by simpa using Q⟩
  ·rintro i x ac r rec bm bn J ⟨H,I,s,u,w,v,h,k,rfl,R,a4⟩ aC aZ a5 a6 a7 aD;have bo:=(List.getElem?_eq_some_iff.1 J).1;have aE:=VA (p:=RS e) (l:=l) R;refine ao.pair λbp aF bq a8 C br=>?_
   refine⟨rec,C.ag a5 (by simp),a6,?_⟩;generalize aG:aF.setIfInBounds (d.size+1) (.loop {rec with state:= .busy})=D;have B:Mod (λb=>b=d.size+1) aF D:=aG▸Mod.setObj rfl;have aH:D[d.size+1]? =some (.loop {rec with state:= .busy}):=by rw[<- aG];exact Cg (by omega)
   have T:=B.ag a8 (by omega);have U:=B.ag (C.ag H (by simp)) (by omega);have aI:=B.ag (C.ag I (by simp)) (by omega);have aJ:Mod (λb=>b=d.size+1) r D:=(Ext.mod C).trans B;have ad:=B.ag (C.ag w (by simp)) (by omega);have bs:=Ai w;have aK:=(v.ext C).mod B (λc j f=>aC ((h _).2 (.inr (f▸j))));have bt:=B.size;have aL:(l.take i).length=i:=by simp;omega
   refine ai.mk λag aM=>?_
   have a9:RS e x=false->ag (true,()) D:=λL=>aM _ _ (af.yes rfl (aD _ _ (by
    refine⟨ac,λb a=> .inl a,aJ.aj λb _ a=> .inr a,aH,U,aI,s,l.take i,ad,aK,h,λb a=>⟨?_,(k b a).2⟩,rfl,?_⟩
    ·have:=(k b a).1;omega
    ·have:=aE.2.1 _ J L;have H:(l.takeWhile (RS e)).take i=l.takeWhile (RS e):=Ax (by omega);have I:(l.takeWhile (RS e)).take n.toNat=l.takeWhile (RS e):=Ax (by omega);unfold Pt;rw[I,<-nW R,H])))
   have aO:RS e x=true->ag (false,()) D:=λL=>aM _ _ (af.no rfl (by
    have bu:=aE.1 _ J L;refine Aa.mk (AL ad rfl) (AJ.mk (AL T rfl) (AJ.mk (AB T rfl) (AZ.mk (AB T rfl) ?_)));refine ao.aZ (E:=BM) (x:=x) rfl GX aK (by rw[aL];omega) (by rw[aL];simp[maxLen];omega) λy ba aP F ah _=>?_
    have bb:s.ag≠some q.size:=λf=>by have:=k _ f;omega
    refine ae.mk (F.ag ad bb) (by simp) λaj bc M bv=>?_
    have bw:=F.size;have ak:aj[q.size]? =some (J2 #[J4 y.p y.len y.cap] AR (0,0)):=by simpa using bc
    have V:=aP.mod M (λc j f=>by
     rcases ah c j with d|d
     ·have:=k _ d;omega
     ·omega)
    have aQ:=M.ag (F.ag U (λf=>by have:=k _ f;omega)) (by omega);have am:=M.ag (F.ag aI (λf=>by have:=k _ f;omega)) (by omega);have bd:l.take i++ [x]=l.take (i+1):=by rw[AD,J];rfl
    rw[bd] at V;have aR: ∀b,(b=q.size\/y.ag=some b)->ac b\/r.size<=b:=by
     rintro b (rfl|a)
     ·exact .inl ((h _).2 (.inl rfl))
     ·rcases ah b a with d|d
      ·exact .inl ((h _).2 (.inr d))
      ·exact .inr (by omega)
    have aS:Mod (λb=>ac b\/b=d.size+1) r aj:=
     ((aJ.aj λb _ a=> .inr a).trans (F.aj λb _ a=> .inl ((h _).2 (.inr a)))).trans (M.aj λb _ a=> .inl ((h _).2 (.inl a)))
    have aT:=M.ag (F.ag aH (λf=>aC ((h _).2 (.inr f)))) (by omega);have aU: ∀b,y.ag=some b->b<aj.size/\q.size<b:=by
     intro b a;have bx:b<ba.size:=by
      rcases aP.row with⟨rfl,_⟩|⟨g,bz,L,be,_⟩
      ·simp[Sl.ag] at a
      ·simp[Sl.ag,L] at a;subst a;exact Ai be
     refine⟨by omega,?_⟩;rcases ah b a with d|d
     ·exact(k _ d).2
     ·omega
    refine Aa.mk (AL ak rfl) (AC.mk (AL am rfl) ?_);have aV:y.len=i+1:=by rw[V.len];simp;omega
    refine af.intro (λz=>aD _ _ ?_) (λz=>a7 _ ?_)
    ·refine⟨_,aR,aS,aT,aQ,am,y,_,ak,V,λ_=>CI,aU,rfl,?_⟩;have z:((i+1:Nat):Int)=n:=by rw[aV] at z;simpa using z
     unfold Pt;rw[<- z,An,nW (by omega)]
    ·refine⟨_,aR,aS,aT,aQ,am,y,_,ak,V,λ_=>CI,aU,rfl,by omega,?_⟩;have z:((i+1:Nat):Int)≠n:=by rw[aV] at z;simpa using z
     omega))
   refine AJ.mk (AL U rfl) ?_;rw[Cn];refine af.intro (λN=>?_) (λN=>?_)
   ·refine AJ.mk (AL T rfl) (AJ.mk (AL U rfl) ?_);show ag (!aN x.key e,()) D;cases aW:aN x.key e
    ·exact a9 (by simp at N;simp[RS,N,aW])
    ·exact aO (by simp[RS,aW])
   ·exact aO (by simp at N;simp[RS,N])
  ·rintro O' o ⟨_,_,s,u,w,v,h,k,rfl,R,a4⟩ O an bf ap;have bg:=O.size;refine Aa.mk (AL w rfl) ⟨ap,?_⟩;have:Pt e n l=l.take l.length:=by unfold Pt;rw[Ax (by omega),<-nW R,Ax (by omega)]
   rw[<- this] at v;refine W s _ (v.mod (Mod.setObj (S:=λc=>c=d.size) rfl) λc j f=>an ((h _).2 (.inr (f▸j)))) (λc j=>by have:=k _ j;omega) ?_;exact(az o O).then (Mod.setObj (.inr (by omega)))
  ·rintro i aA O' o ⟨_,_,s,u,w,v,h,k,rfl,rfl⟩ J O an bf ap;have bg:=O.size;refine Aa.mk (AL w rfl) ⟨ap,?_⟩;refine W s _ (v.mod (Mod.setObj (S:=λc=>c=d.size) rfl) λc j f=>an ((h _).2 (.inr (f▸j)))) (λc j=>by have:=k _ j;omega) ?_;exact(az o O).then (Mod.setObj (.inr (by omega)))
 ·refine ay ?_;have:n.toNat=0:=by simp at Q;omega
  simp[Pt,this]
end Go.Lf.G.M
namespace Go.Lf.G
open Go
open M (Sorted Af CZ A7 Ah Ar BV Aj bB BC aR Pt RS)
def ka(f t k:A2K):Bool:= !aN k f&&(decide (t=⟨#[]⟩)||aN k t)
def RD(f t:A2K)(l:List Pr):List Pr:=l.filter λx=>ka f t x.key
def mQ(m:List Pr)(f t:A2K)(a:Int):List Pr:=(RD f t m).take a.toNat
theorem AAp {p:Pr->Bool}{a:A2K->Bool}(b: ∀x,p x=a x.key)(k:A2K): ∀l:List Pr,Af k (l.filter p)=if a k then Af k l else none
 | []=>by split<;>rfl
 |x::l=>by
  have c:=AAp b k l;rw[AS,M.BB];by_cases h:x.key=k
  ·rw[if_pos h];cases d:a k with
   |true=>rw[if_pos (by rw[b,h];exact d),M.BB,if_pos h];rfl
   |false=>
    rw[if_neg (by rw[b,h,d];decide),c,d];rfl
  ·rw[if_neg h];split
   ·rw[M.BB,if_neg h];exact c
   ·exact c
theorem fP(k:A2K): ∀ {l:List Pr},Sorted l->l.drop (aR k l)=l.filter λx=> !aN x.key k
 | [],_=>by simp
 |x::l,s=>by
  have b:=List.pairwise_cons.1 s;rw[Yr,AS];by_cases h:aN x.key k=true
  ·rw[if_pos h,if_neg (by simp[h]),HU];exact fP k b.2
  ·have c: ∀a∈l,(!aN a.key k)=true:=λa d=>by
    grind [aN,absurd,M.DX]
   rw[if_neg h,if_pos (by simp[h]),HL,List.filter_eq_self.2 c]
theorem sB(t:A2K): ∀ {l:List Pr},Sorted l->l.takeWhile (RS t)=l.filter (RS t)
 | [],_=>rfl
 |x::l,s=>by
  have a:=List.pairwise_cons.1 s;rw[Mb,AS];by_cases h:RS t x=true
  ·rw[if_pos h,if_pos h,sB t a.2]
  ·rw[if_neg h,if_neg h];refine(List.filter_eq_nil_iff.2 λc d b=>h ?_).symm;have e:=a.1 c d;unfold M.RS at b ⊢;rw[Ds] at b ⊢
   grind [M.DX]
theorem AIf {f t:A2K}{l:List Pr}(s:Sorted l)(b:l.length<=1099511627776):Pt t 1099511627776 (l.drop (aR f l))=RD f t l:=by
 unfold M.Pt;have a:Sorted (l.drop (aR f l)):=s.sublist (List.drop_sublist _ _);rw[sB t a,fP f s,List.filter_filter,Ax]
 ·unfold RD;exact HD λx _=>by unfold ka M.RS;rw[Bool.and_comm]
 grind
theorem XE {f t:A2K}{l:List Pr}(s:Sorted l):Sorted (RD f t l):=s.sublist G4
theorem AIa(k f t:A2K)(l:List Pr):Af k (RD f t l)=if ka f t k then Af k l else none:=AAp (λ_=>rfl) k l
theorem AFD(k f t:A2K): ∀a:List (List Pr),Ar k (a.map (RD f t))=if ka f t k then Ar k a else none
 | []=>by split<;>rfl
 |l::a=>by
  rw[BT,M.EO,M.EO,AFD k f t a,AIa];split<;>rfl
theorem AQE {f t:A2K}{c:List (List Pr)}(d:bB c):bB (c.map (RD f t)):=⟨λl a=>by
  obtain⟨x,b,rfl⟩:=List.mem_map.1 a;exact XE (d.sorted x b),λl a=>by
  obtain⟨x,b,rfl⟩:=List.mem_map.1 a;exact λe i=>d.aQ x b e (List.mem_filter.1 i).1⟩
theorem ALW {f t:A2K}{a:List (List Pr)}(b:bB a):Ah (a.map (RD f t))=RD f t (Ah a):=
 (M.Dy _).ext (XE (M.Dy _)) λk=>by simp_all [M.LF,AQE,AFD,AIa]
theorem AQp {f t:A2K}{a:List (List Pr)}(c:bB a)(b:Int):Pt t b (BC (Ah (a.map (RD f t))))=mQ (BC (Ah a)) f t b:=by
 rw[ALW c];have d:BC (RD f t (Ah a))=RD f t (BC (Ah a)):=by simp_all [M.BC,RD,List.filter_filter,HD,Bool.and_comm]
 rw[d];unfold M.Pt mQ;have h: ∀x∈RD f t (BC (Ah a)),RS t x=true:=λx e=>by
  have:=(List.mem_filter.1 e).2;unfold ka at this;rw[A3] at this;exact this.2
 rw[sB t (XE (Uy (M.Dy _))),List.filter_eq_self.2 h]
def TP(A:al)(h:aa)(s:Sl)(b:List (List Pr)):Prop:=
 ∃a,Own jS Bj h s a/\a.length=b.length/\ ∀(i:Nat) (v:ij) (l:List Pr),a[i]? =some v->b[i]? =some l->(∃ d,ES A P v.v d h l/\ ∀c,d c->s.ag≠some c)/\l.length<=1099511627776
theorem ES.at {A:al}{fv:J0}{b T:Nat->Prop}{h e:aa}{l:List Pr}(d:ES A P fv b h l)(x:Mod T h e)(f: ∀c,b c-> ¬T c):ES A P fv b e l:=
 ES.aj d (λ_ h=>h) (λc a=>by have:=d.1 c a;have:=x.size;omega) λc a=>x.get c (d.1 c a) (f c a)
theorem TP.ext {A:al}{h a:aa}{s:Sl}{b:List (List Pr)}(q:TP A h s b)(x:Ext h a):TP A a s b:=by obtain⟨c,d,e,f⟩:=q;refine⟨c,d.ext x,e,λi v l j n=>?_⟩;obtain⟨⟨o,p,r⟩,t⟩:=f i v l j n;exact⟨⟨o,ES.at p x (λ_ _ h=>h),r⟩,t⟩
theorem TP.nil {A:al}{h:aa}:TP A h ⟨none,0,0⟩ []:=⟨[],Own.nil,rfl,λi v l h=>by simp at h⟩
theorem TP.lC {A:al}{h:aa}{s:Sl}{b:List (List Pr)}(q:TP A h s b):M.sY A (λ_=>False) h s b:=by obtain⟨f,d,j,n⟩:=q;refine⟨f,d.view,λc a=>⟨d.lt a,λh=>h⟩,j,λi v l o p=> .inr ?_⟩;obtain⟨⟨t,e,u⟩,r⟩:=n i v l o p;exact⟨e.aj (λc a=>⟨e.1 c a,λh=>h⟩) (λc a=>a.1) (λ_ _=>rfl),r⟩
theorem TP.one {A:al}{h a:aa}{fv:J0}{l:List Pr}{e:Nat->Prop}{b:Nat}(d:ES A P fv e h l)(j:l.length<=1099511627776)(n:a[b]? =some (J2 #[fv] Bj (0,0)))(x:Ext h a)(s:h.size<=b):TP A a ⟨some ⟨b,0,none⟩,1,1⟩ [l]:=by
 refine⟨[⟨fv,d.one.1⟩],Own.lit (l:= [(⟨fv,d.one.1⟩:ij)]) n rfl (by simp[maxLen]),rfl,λi v t a f=>?_⟩;have o:i=0:=by grind
 subst o;simp only[Hn,BE] at a f;subst a f;exact⟨⟨e,ES.at d x (λ_ _ h=>h),λc p r=>by have:=d.1 c p;simp[Sl.ag] at r;omega⟩,j⟩
theorem TP.add {A:al}{h:aa}{s:Sl}{p:List (List Pr)}{fv:J0}{l:List Pr}{e:Nat->Prop}{K:Sl->aa->Prop}{z:Q7}(q:TP A h s p)(f:ES A P fv e h l)(H: ∀c,e c->s.ag≠some c)(I:l.length<=1099511627776)(J:p.length<=1000000)
  (B: ∀a d,TP A d a (p++ [l])->Mod (λb=>s.ag=some b) h d->(∀ b,a.ag=some b->s.ag=some b\/h.size<=b)->K a d):
  ao h (J2 #[fv] Bj) λb j=>BD A P (Builtin.append_ #[A9,A9] z #[J4 s.p s.len s.cap,J4 (some ⟨b,0,none⟩) 1 1]) j λv d=> ∃a:Sl,v=J4 a.p a.len a.cap/\K a d:=by
 obtain⟨r,C,D,L⟩:=q;refine ao.aZ (E:=jS) (x:=⟨fv,f.one.1⟩) (s:=s) (l:=r) rfl M.ARl C (by omega) (by simp[maxLen];omega) λa d F u w _=>?_
 have N: ∀ {T:Nat->Prop} {t:J0} {n:List Pr},ES A P t T h n->(∀ c,T c->s.ag≠some c)-> ∃e,ES A P t e d n/\ ∀c,e c->a.ag≠some c:=λ{T} t n f y=>⟨T,ES.at f u (λc o=>y c o),λc o G=>by
  rcases w c G with j|j
  ·exact y c o j
  ·have:=f.1 c o;omega⟩
 refine B a d ⟨r++ [⟨fv,f.one.1⟩],F,by simp[D],λi v n j O=>?_⟩ u w;by_cases Q:i<r.length
 ·grind
 grind
section
variable {A : al} {g h : aa} {q : Hp} {k : Nat -> Nat} {st : Db} {m : Bx} {R : A2J}
def aE(st:Db):List (List Pr):=st.ts.map (·.2)
def Cr(st:Db):List Pr:=MC st.fr (aE st)
theorem bK.iY(a:bK g h q k st m): ∀p∈st.ts,Ha p.2:=λp c=>by
 obtain⟨i,b,rfl⟩:=Dd c;have d:i<q.ps.length:=by rw[a.da];exact b
 obtain⟨e,f,_,_,_,t⟩:=a.cO i q.ps[i] st.ts[i] (A2 d) (A2 b);exact t
theorem bK.fU(b:bK g h q k st m):bB (st.fr::aE st):=by
 refine⟨λl a=>?_,λl a=>?_⟩<;>rcases List.mem_cons.1 a with rfl|a
 ·exact b.fresh.sorted
 ·obtain⟨p,c,rfl⟩:=List.mem_map.1 a;exact(b.iY p c).aQ.1
 ·exact b.fresh.aQ
 ·obtain⟨p,c,rfl⟩:=List.mem_map.1 a;exact(b.iY p c).aQ.2
theorem sC(f t:A2K)(l:List Pr):(RD f t l).length<=l.length:=A0m ..
theorem ASU {f t:A2K}(d:bK g h q k st m)(ap:st.fr.length<=1000000)(aq:st.ts.length<=100000)
  (O: ∀fv e,ES A P fv (λc=>c<e.size) e (Ah ((st.fr::aE st).map (RD f t)))->Ext h e->R fv e):AA A P SV #[Ap q.d,J7 f,J7 t] h R:=by
 refine AEv ?_;unfold YA;refine aD (AX.mk (AB d.cell rfl) ?_);refine M.sR d.fresh λfv j Q w ar=>⟨_,rfl,?_⟩
 refine M.py (.inr Q) (by grind) λsl au y av z=>⟨_,rfl,?_⟩
 rw[AIf d.fresh.sorted (by omega)] at y;have aw:=sC f t st.fr;refine M.sZ y.view (by omega) λax S B C ay=>⟨_,rfl,ZZ.mk B.one.1 (ao.mk λaz _ T D aA=>?_)⟩
 have U:=TP.one B (by omega) T D (A0 _);have E:=((w.trans z).trans C).trans D;have V:=d.on E;refine aD (Aa.mk (s:=q.tp) (AB V.cell rfl) ?_);have aC:=d.da;have aF:=d.cj.len;refine Loop.rule (λF x p=> ∃(i:Nat) (sl:Sl),x=(sl,(i:Int),())/\F=q.ps.length-i/\i<=q.ps.length/\Ext h p/\(∀ c,sl.ag=some c->h.size<=c)/\TP A p sl ((st.fr::(aE st).take i).map (RD f t))) ?_ ⟨0,⟨some ⟨S.size,0,none⟩,1,1⟩,rfl,rfl,by omega,E,λc b=>by
  simp[Sl.ag] at b;have:=((w.trans z).trans C).size;omega,by simpa using U⟩
 rintro K F _ p ⟨i,sl,rfl,rfl,aG,l,G,n⟩ W;dsimp only;refine af.intro (λX=>?_) (λX=>?_)
 ·have o:i<q.ps.length:=by grind
  have Y:i<st.ts.length:=by omega
  have H:q.ps[i]? =some q.ps[i]:=A2 o;have Z:st.ts[i]? =some st.ts[i]:=A2 Y;have aa:(aE st)[i]? =some st.ts[i].2:=by unfold aE;grind
  have I:=d.on l;refine I.cj.view.idx H λa _ c=>AX.mk (Cells.pt c) ?_
  obtain⟨aH,aI,ab,ac,aJ,r⟩:=I.cO i _ _ H Z;refine zr ab ac r.eL λaK aL ad u aM=>⟨_,rfl,?_⟩
  have aN:=r.many;refine M.py (.inr ad) (by grind) λaO aP J ae L=>⟨_,rfl,?_⟩
  rw[AIf r.aQ.1 (by omega)] at J;have aQ:=sC f t st.ts[i].2;refine M.sZ J.view (by omega) λaR aS N ag aT=>⟨_,rfl,ZZ.mk N.one.1 ?_⟩
  have v:=(u.trans L).trans ag;refine TP.add (n.ext v) N (λc b ah=>?_) (by omega) (by simp[aE];omega) λai e aj ak al=>?_
  ·obtain⟨aU,am,_,_⟩:=n;have aV:=am.lt ah;rcases b.2 with j|j
   ·have:=(u.trans L).size;omega
   ·have:=ae c j;have:=u.size;omega
  ·rw[Ab (by omega)];refine W (q.ps.length-(i+1)) _ _ (by omega) ⟨i+1,ai,rfl,rfl,o,?_,λc b=>?_,?_⟩
   ·exact(l.trans v).then (ak.aj λc _ b=> .inr (G c b))
   ·rcases al c b with j|j
    ·exact G c j
    ·have:=l.size;have:=v.size;omega
   ·rw[AD,aa];simpa using aj
 ·have o:i=q.ps.length:=by grind
  subst o;rw[Ax (by simp[aE];omega)] at n;refine M.sM n.lC (λc h=>h.elim) (by simp[aE];omega) (AQE d.fU) λfv e an x _=>⟨_,rfl,O fv e (an.aj (λc b=>b.1) (λc b=>b) (λ_ _=>rfl)) (l.trans x)⟩
theorem Za(b:bK g h q k st m){K:Bool×Unit->aa->Prop}(c:K (false,()) h):af ((some (⟨q.d,0,none⟩:Q6)).isNone) (K (true,()) h) (At (some (⟨q.d,0,none⟩:Q6)) λa=>AZ h (a.add 8) λt=>K (t,()) h):=
 af.no rfl (aD (AZ.mk (AB b.cell rfl) c))
theorem AQ0 {f t:A2K}{d:Int}(a:bK g h q k st m)(n:st.fr.length<=1000000)(o:st.ts.length<=100000)(C:(Ah (st.fr::aE st)).length<=1099511627776)
  (p: ∀s b,Own BM AQ b s (mQ (Cr st) f t d)->(∀ c,s.ag=some c->h.size<=c)->Ext h b->R (J1 #[J4 s.p s.len s.cap,J6 J9 0]) b):AA A P Py #[Ap q.d,J7 f,J7 t,J6 J9 d] h R:=by
 refine ADL ?_;unfold WE;refine ai.mk λK r=>Za a (r _ _ (af.no rfl ?_))
 refine ASU a n o λfv D u e=>⟨_,rfl,?_⟩
 refine M.sN (.inr u) λE F v i G=>⟨_,rfl,?_⟩
 have w:(BC (Ah ((st.fr::aE st).map (RD f t)))).length<=1099511627776:=by
  rw[ALW a.fU]
  grind [sn,RD,Ah,aE,sC]
 refine M.py (.inr v) w λj x l y z=>⟨j,rfl,?_⟩
 rw[AQp a.fU] at l;exact p j x l (λc B=>by have:=y c B;have:=(e.trans i).size;omega) ((e.trans i).trans z)
theorem AE6(key:A2K): ∀ {l:List Pr},Sorted l->M.NP key l=Vp key l
 | [],_=>rfl
 |x::l,s=>by
  have c:=List.pairwise_cons.1 s;have a:=AE6 key c.2;unfold M.NP Vp at a ⊢;rw[Yr,M.BB];by_cases h:aN x.key key=true
  ·rw[if_pos h,if_neg (M.Nl h),Wa];exact a
  ·rw[if_neg h,Hn];by_cases b:x.key=key
   ·simp[b]
   ·have d:Af key l=none:=M.Ep λe f i=>h (by
     grind)
    simp[b,d]
def Jn(m:List Pr)(key:A2K):A2K×Bool:=match Af key m with|some p=>(p.val,true)|none=>(⟨#[]⟩,false)
theorem AO1 {key:A2K}(d:bK g h q k st m)(al:st.ts.length<=100000)(I:key.size<=1099511627776)
  (v: ∀B,Ext h B->R (J1 #[J7 (Jn (Cr st) key).1,J3 (Jn (Cr st) key).2,J6 J9 0]) B):AA A P OO #[Ap q.d,J7 key] h R:=by
 refine AEn ?_;unfold Xi;refine ai.mk λK J=>Za d (J _ _ (af.no rfl ?_))
 refine aD (AX.mk (AB d.cell rfl) ?_);have C: ∀p,(Af key st.fr).or (Ar key (aE st))=some p->Jn (Cr st) key=(p.val, !p.gone):=λp f=>by
  have e:Af key (Cr st)=alive (some p):=by unfold Cr;rw[Gn key d.fU,f]
  unfold Jn;rw[e,JO];cases L:p.gone with
  |false=>rfl
  |true=>
   have N:Aj p=0:=by
    cases j:Af key st.fr with
    |some x=>
     rw[j] at f;simp only[Option.some_or,BE] at f;subst f;exact d.fresh.aQ x (M.OY j).2
    |none=>
     rw[j,Ly] at f;unfold M.Ar at f;obtain⟨l,O,Q⟩:=A06 f;exact d.fU.aQ l (AG _ O) p (M.OY Q).2
   have S:=(oT N).gone L;show((⟨#[]⟩:A2K),false)=(p.val, !true);rw[sd S];rfl
 have T:(Af key st.fr).or (Ar key (aE st))=none->Jn (Cr st) key=(⟨#[]⟩,false):=λf=>by
  have e:Af key (Cr st)=alive none:=by unfold Cr;rw[Gn key d.fU,f]
  unfold Jn;rw[e];rfl
 refine M.AQR d.fresh λam U=>⟨_,_,_,_,rfl,?_⟩
 rw[AE6 key d.fresh.sorted];refine ao.pair λb V _ n W an=>?_
 have w:=U.trans W;cases j:Af key st.fr with
 |some p=>
  have e:Vp key st.fr=(p,true):=by unfold Vp;rw[j]
  rw[e] at n ⊢;refine af.yes rfl (AJ.mk (AB n rfl) (AZ.mk (AB n rfl) ?_));have:=v V w;rw[C p (by rw[j];rfl)] at this;exact this
 |none=>
  have e:Vp key st.fr=(M.Uh,false):=by unfold Vp;rw[j]
  rw[e] at n ⊢;refine af.no rfl ?_;have X:=d.on w;refine aD (Aa.mk (s:=q.tp) (AB X.cell rfl) ?_);have ap:=d.da;have aq:=d.cj.len;refine Loop.rule (λD x y=> ∃i:Nat,x=((i:Int),())/\D=q.ps.length-i/\i<=q.ps.length/\Ext h y/\Ar key ((aE st).take i)=none) ?_ ⟨0,rfl,rfl,by omega,w,rfl⟩;rintro ar D _ y ⟨i,rfl,rfl,au,z,o⟩ Y;dsimp only;refine af.intro (λZ=>?_) (λZ=>?_)
  ·have r:i<q.ps.length:=by grind
   have aa:i<st.ts.length:=by omega
   have E:q.ps[i]? =some q.ps[i]:=A2 r;have ab:st.ts[i]? =some st.ts[i]:=A2 aa;have ac:(aE st)[i]? =some st.ts[i].2:=by unfold aE;grind
   have F:=d.on z;refine F.cj.view.idx E λa _ c=>AX.mk (Cells.pt c) ?_
   obtain⟨av,aw,ad,ax,ay,ae⟩:=F.cO i _ _ E ab;refine ARV ad ae.eL I λaz ag=>⟨_,_,_,_,rfl,?_⟩
   refine ao.pair λaA ah _ t aj aC=>?_
   have G:=(z.trans ag).trans aj;have H:(aE st).take (i+1)=(aE st).take i++ [st.ts[i].2]:=by rw[AD,ac];rfl
   have ak:Ar key (aE st)=(Af key st.ts[i].2).or (Ar key ((aE st).drop (i+1))):=by
    conv=>lhs;rw[<- DE (i+1) (aE st),H]
    rw[M.QO,M.QO,o,M.EO];have:Ar key ([]:List (List Pr))=none:=rfl;rw[this,Option.or_none,Ly]
   cases u:Af key st.ts[i].2 with
   |some p=>
    have e:Vp key st.ts[i].2=(p,true):=by unfold Vp;rw[u]
    rw[e] at t ⊢;refine af.yes rfl (AJ.mk (AB t rfl) (AZ.mk (AB t rfl) ?_));have:=v ah G;rw[C p (by rw[j,ak,u];rfl)] at this;exact this
   |none=>
    have e:Vp key st.ts[i].2=(M.Uh,false):=by unfold Vp;rw[u]
    rw[e] at t ⊢;refine af.no rfl ?_;rw[Ab (by omega)];refine Y (q.ps.length-(i+1)) _ _ (by omega) ⟨i+1,rfl,rfl,r,G,?_⟩;rw[H,M.QO,o,M.EO,u];rfl
  ·have r:i=q.ps.length:=by grind
   subst r;rw[Ax (by simp[aE];omega)] at o;have:=v y z;rw[T (by rw[j,o];rfl)] at this;exact this
end
open M (Sorted Af CZ A7 Ah Ar BV Aj bB BC)
def ll(a:Nat):Nat:=20000*a+10000000
structure cz where
 C:Nat
 W0:Nat
 A:Nat
 hC:C<=100000
 hA:A<=60000
 hW:W0+A*ll C<=8000000000000
 bx:Nat
 zf:A2K->Option (A2K×A2K)
def cz.K(a:cz):Nat:=ll a.C
theorem cz.wt(b:cz){a:Nat}(c:a<=b.A):b.W0+a*b.K<=8000000000000:=by
 have d:=b.hW;have f:a*b.K<=b.A*b.K:=AN _ c;have e:b.A*ll b.C=b.A*b.K:=rfl;rw[e] at d;generalize a*b.K=x at*
 generalize b.A*b.K=g at*
 omega
theorem AFj: ∀a:List (List UInt8),(∀ r∈a,r.length<=1048576)->(aI a).length<=(a.map List.length).sum+a.length*14
 | [],_=>by simp
 |r::a,b=>by
  have d:=(Jc (b r CC)).2;have e:=AFj a λx c=>b x (AG _ c)
  rw[Xb];simp only[A1,BT,GF,A6];omega
theorem AFZ: ∀a:List (List Pr),((a.map BO).map List.length).sum=(BO a.flatten).length
 | []=>rfl
 |b::a=>by
  simp only[BT,GF,List.flatten_cons,AFZ a];simp[BO]
theorem ANm {a b s c f p:Nat}(d:b<=s+c*14)(e:s=p+f)(g:p<=a*8276)(h:f<=1048576)(i:c<=a+2):b<=8400*a+1100000:=by omega
theorem ALn {l:List Pr}(t:Ha l):(Js l).length<=8400*l.length+1100000:=by
 have c:=AFj (aT l (NG l)) (Nw t.eL);have d:((aT l (NG l)).map List.length).sum=(BO l).length+(Vt l (NG l)).length:=by have a:=AFZ (Ku l);rw[AMx] at a;rw[<- a];simp only[aT,C2,List.sum_append,BT,Rg,GF,List.sum_nil,FG]
 have b:(aT l (NG l)).length<=l.length+2:=by
  have b:(aT l (NG l)).length=Bt l+1:=by simp[aT,JH]
  have e:Bt l<=l.length+1:=by unfold Bt;omega
  omega
 exact ANm c d (ME t.ok) (YR t.eL) b
def OG(a:Bo):Nat:=((Ao a).names.map λb=>(a.T b).length).sum+(Ie a).flatten.length
structure Ee (F:bO) (st:Db) (D:Bo):Prop where
 ok:BG F D
 names:(Ao D).names=st.ts.map (·.1)
 cj: ∀p∈st.ts,D.T p.1=p.2
 aW:(Ao D).aW=st.aW
 next:(Ao D).next<=st.next
 below: ∀p∈st.ts,p.1<st.next
 fr:st.fr=Es D
 gE: ∀n,st.aw<=n->n<=99999999->(st.bo=true->n≠st.aw)->F (aC nl n)=none
 jA:st.bo=true->F (aC nl st.aw)=some (AY (aI ((D.L st.aw).map (BX st.aw))),bq)
 jz: ∀n,st.aJ<=n->n<=99999999->F (aC nn n)=none
 eM:1<=st.aW/\st.aW<=st.aw
 aJ:1<=st.aJ
 clean: ∀n,F (aX n)≠none->n∈st.ts.map (·.1)
structure TH (st:Db) (D:Bo) (aH c:Nat):Prop where
 aw:st.aw<=8*aH+4
 aJ:st.aJ<=8*aH+4
 next:st.next<=8*aH+4
 cn:st.ts.length<=aH
 bW:OG D<=c
 aO:D.aO<=8*aH+6
 aY:D.aY<=8*aH+6
structure jj (F:bO) (D:Bo) (aH c:Nat):Prop where
 aO:D.aO<=8*aH+8
 aY:D.aY<=8*aH+8
 next:(Ao D).next<=8*aH+8
 aW:(Ao D).aW<=8*aH+8
 cn:(Ao D).names.length<=aH
 bW:OG D<=c
 nc: ∀n,F (aX n)≠none->n<8*aH+8
def Rec(b:bO)(aH c:Nat)(d:List Pr):Prop:= ∃a,BG b a/\jj b a aH c/\cC a=d
def kg(a:bO)(aH c:Nat)(b:List Pr):Prop:= ∀G,Md a G->Rec G aH c b
theorem TH.mono {st:Db}{a:Bo}{aH b c d:Nat}(l:TH st a aH c)(e:aH<=b)(f:c<=d):TH st a b d:=
 ⟨by have:=l.aw;omega,by have:=l.aJ;omega,by have:=l.next;omega,by have:=l.cn;omega,by have:=l.bW;omega,by have:=l.aO;omega,by have:=l.aY;omega⟩
theorem jj.mono {a:bO}{b:Bo}{aH d c e:Nat}(l:jj a b aH c)(h:aH<=d)(i:c<=e):jj a b d e:=
 ⟨by have:=l.aO;omega,by have:=l.aY;omega,by have:=l.next;omega,by have:=l.aW;omega,by have:=l.cn;omega,by have:=l.bW;omega,λf g=>by have:=l.nc f g;omega⟩
theorem Rec.mono {a:bO}{aH b c d:Nat}{e:List Pr}(f:Rec a aH c e)(g:aH<=b)(h:c<=d):Rec a b d e:=by obtain⟨i,j,k,l⟩:=f;exact⟨i,j,k.mono g h,l⟩
theorem Md.some {a G:bO}(c:Md a G){x:A2K}(b:G x≠none):a x≠none:=λd=>b (by
 have:=c x;rw[d] at this;exact this)
theorem Ee.iF {b:bO}{st:Db}{a:Bo}(L:Ee b st a):(Ao a).names.length=st.ts.length:=by rw[L.names];simp
theorem Ee.aE {b:bO}{st:Db}{a:Bo}(L:Ee b st a):(Ao a).names.map a.T=G.aE st:=by rw[L.names,AT];exact CH λp c=>L.cj p c
theorem Ee.map {b:bO}{st:Db}{a:Bo}(L:Ee b st a):cC a=Cr st:=by unfold cC Cr MC;rw[L.aE,<-L.fr]
theorem Ee.lE {b:bO}{st:Db}{a:Bo}(L:Ee b st a):gY (Ao a):=zw L.ok
theorem Ee.nd {a:bO}{st:Db}{b:Bo}(L:Ee a st b):(st.ts.map (·.1)).Nodup:=by rw[<- L.names];exact L.lE.nd
theorem Ee.jD {d F':bO}{st:Db}{a:Bo}{aH c:Nat}(L:Ee d st a)(l:TH st a aH c)(e: ∀b,F' (aX b)≠none->b<8*aH+8):jj F' a aH c:=by have:=L.next;have:=l.next;have:=L.eM;have:=l.aw;exact⟨by have:=l.aO;omega,by have:=l.aY;omega,by omega,by rw[L.aW];omega,by rw[L.iF];exact l.cn,l.bW,e⟩
theorem Ee.fA {a:bO}{st:Db}{b:Bo}{aH c:Nat}(L:Ee a st b)(l:TH st b aH c){n:Nat}(d:a (aX n)≠none):n<st.next:=by obtain⟨p,e,rfl⟩:=List.mem_map.1 (L.clean n d);exact L.below p e
theorem Ee.iX {a:bO}{st:Db}{b:Bo}{aH c:Nat}(L:Ee a st b)(l:TH st b aH c):a (aX st.next)=none:=by
 cases d:a (aX st.next) with
 |none=>rfl
 |some p=>exact absurd (L.fA l (n:=st.next) (by rw[d];simp)) (by omega)
theorem Ee.pq {b:bO}{st:Db}{a:Bo}{aH c:Nat}(L:Ee b st a)(l:TH st a aH c):kg b aH c (Cr st):=λG d=>by
 refine⟨a,L.ok.dP d,L.jD l λf e=>?_,L.map⟩;have g:=L.fA l (d.some e);have:=l.next;omega
theorem Ee.jB {e F':bO}{st:Db}{b:Bo}{aH c:Nat}(L:Ee e st b)(l:TH st b aH c)(h: ∀x,(∀ a,a∉st.ts.map (·.1)->x≠aX a)->F' x=e x)(i: ∀a,F' (aX a)≠none->a<8*aH+8):BG F' b/\kg F' aH c (Cr st):=by
 have f:BG F' b:=L.ok.fV λx j=>h x λa d=>j a (by rw[L.names];exact d)
 exact⟨f,λG g=>⟨b,f.dP g,L.jD l λa d=>i a (g.some d),L.map⟩⟩
theorem ALA {a b:Bo}{f:Nat}(d:b.L=a.L)(e:b.aO=a.aO)(g:(Ao b).aW=f):Ie b=(List.range a.aO).flatMap λc=>if c<f then [] else a.L c:=by unfold Ie;rw[d,e,g]
theorem AFW {a b:Bo}(c:b.L=a.L)(d:b.aO=a.aO)(e:(Ao b).aW=(Ao a).aW):Ie b=Ie a:=by rw[ALA c d e];rfl
theorem ANC {c a:Bo}{f:Nat}(d:a.L=c.L)(e:a.aO=c.aO)(g:(Ao a).aW=f)(h: ∀b,f<=b->c.L b= []):Ie a= []:=by
 rw[ALA d e g,List.flatMap_eq_nil_iff];intro b _;split
 ·rfl
 ·exact h b (by omega)
theorem AHb {a b:Bo}(d:b.L=a.L)(e:b.aO=a.aO)(c:Ao b=Ao a)(f:b.T=a.T):cC b=cC a/\OG b=OG a:=by have g:=AFW d e (congrArg Nt.aW c);unfold cC Es OG;rw[g,c,f];exact⟨rfl,rfl⟩
structure Br (B:cz) (g h:aa) (q:Hp) (k:Nat->Nat) (st:Db) (m:Bx) (D:Bo) (aH c:Nat):Prop where
 mem:bK g h q k st m
 up:m.down=false
 eE:Ee (ff m) st D
 lim:TH st D aH c
 wt:ba m.files<=B.W0+aH*B.K
 hc:c<=B.C
theorem Br.aH {b:cz}{g d:aa}{e:Hp}{f:Nat->Nat}{st:Db}{m:Bx}{h:Bo}{aH i c:Nat}(a:Br b g d e f st m h aH c)(j:aH<=i):Br b g d e f st m h i c:=
 ⟨a.mem,a.up,a.eE,a.lim.mono j (A0 _),AH a.wt (Kx (AN _ j) _),a.hc⟩
theorem AOY(l:List (List Pr)):M.total l=(l.map List.length).sum:=rfl
theorem Ee.cn {b:bO}{st:Db}{a:Bo}(L:Ee b st a):OG a=M.total (G.aE st)+(Ie a).flatten.length:=by unfold OG;rw[<- L.aE,AOY,AT];rfl
theorem AMP(a:Bo):(Es a).length<=(Ie a).flatten.length:=by have:=M.RB (l:=(Ie a).flatten) (t:= []);unfold Es;simpa using this
theorem Ee.dk {b:bO}{st:Db}{a:Bo}{aH c:Nat}(L:Ee b st a)(l:TH st a aH c):st.fr.length+M.total (G.aE st)<=c:=by have d:=L.cn;have e:=AMP a;have f:=l.bW;rw[L.fr];omega
theorem Ee.jF {b:bO}{st:Db}{a:Bo}{aH c:Nat}(L:Ee b st a)(l:TH st a aH c):(Ah (st.fr::G.aE st)).length<=c:=by have d:=M.Tg (st.fr::G.aE st);rw[M.AJn] at d;have:=L.dk l;omega
theorem Ee.fJ {b:bO}{st:Db}{a:Bo}{aH c:Nat}(L:Ee b st a)(l:TH st a aH c):(Gb (G.aE st)).length<=M.total (G.aE st):=by have d:=M.Tg (G.aE st);have e:=sn (Ah (G.aE st));unfold Gb;omega
structure oR (B:cz) (h h':aa) (q:Hp) (k:Nat->Nat) (m m':Bx) (aH:Nat):Prop where
 fuel:m.fuel≠ -1
 dn:sy h' q.d
 box: ∃S',Cf h' q.b S' m'/\ ∀c,S' c->k c≠0\/h.size<=c
 down:m'.down=true
 mod:Mod (λc=>k c≠0) h h'
 dV: ∀y,¬cF y->ff m' y=ff m y
 wt:ba m'.files<=B.W0+aH*B.K
section
variable {A : al} {B : cz} {g h : aa} {q : Hp} {k : Nat -> Nat} {st : Db} {m : Bx} {D : Bo} {aH c : Nat} {R : A2J}
theorem Jl {f:aa}{e:Nat->Prop}{i:Bx}(a:bK g h q k st m)(o:Cf f q.b e i)(j:Mod (λc=>q.Sb c\/c=q.lg\/c=q.nt) h f)(l: ∀c,e c->q.Sb c\/h.size<=c)
  (p: ∀d,sy d q.d->Cf d q.b e i->Mod (λc=>k c≠0) h d->(∀ c,e c->k c≠0\/h.size<=c)->R (J6 J9 30) d):AA A P Cm #[Ap q.d,J6 J9 30] f R:=by
 have u:=a.ia;have r:f[q.d]? =some (J2 (eg q st false) FP (0,0)):=j.ag a.cell (by
  rintro(h|h|h)
  ·exact a.na h
  ·exact a.dl h
  ·exact a.dn h)
 have nd: ¬e q.d:=λb=>by
  rcases l _ b with h|h
  ·exact a.na h
  ·omega
 refine ARj r λd s n v=>p d s (o.mod n λc b t=>nd (t▸b)) ((j.aj λc _ b=>?_).trans (n.aj λc _ b=>?_)) λc b=>(l c b).imp (λh=>by rw[a.kb c h];decide) id
 ·rcases b with b|rfl|rfl
  ·rw[a.kb c b];decide
  ·rw[a.kl];decide
  ·rw[a.kn];decide
 ·rw[b,a.kd];decide
theorem AS2(a:Nat):cF (aX a):= .inr (.inr ⟨a,rfl⟩)
theorem ASr(a:Nat):cF (aC nn a):= .inr (.inl ⟨a,rfl⟩)
theorem ATL(a:Nat):cF (aC nl a):= .inl ⟨a,rfl⟩
theorem RA {a:A2K}(h: ¬cF a)(b:Nat):a≠aX b:=λd=>h (d▸AS2 b)
theorem lj {a:A2K}(h: ¬cF a)(b:Nat):a≠aC nn b:=λd=>h (d▸ASr b)
theorem oS {a:A2K}(h: ¬cF a)(b:Nat):a≠aC nl b:=λd=>h (d▸ATL b)
theorem APK(d:bK g h q k st m)(L:Ee (ff m) st D)(l:TH st D aH c)(e:c<=B.C)(a:Gb (aE st)≠ []):Ha (Gb (aE st)):=by have f:=L.fJ l;have i:=L.dk l;have j:=B.hC;exact⟨a,λx b=>oT (oU.2 x b),oU.1,by omega⟩
theorem cz.step(B:cz){a w' aH d:Nat}(h:a<=B.W0+aH*B.K)(e:w'<=a+d)(hd:d<=20000*B.C+10000000):w'<=B.W0+(aH+1)*B.K:=by
 have b:(aH+1)*B.K=aH*B.K+B.K:=Nat.succ_mul _ _;have f:B.K=20000*B.C+10000000:=rfl;rw[b];generalize aH*B.K=x at*
 omega
theorem ASh {t b a c:Nat}(d:t<=8400*c+1100000)(e:b<=a)(f:a<=8000000000000)(i:c<=100000):b+t+1<=8796093022208:=by omega
theorem ASF {a b d x:Nat}(e:b<=a+x)(f:d<=b+700000):d<=a+(x+700000):=by grind
theorem AOl(a:Nat):8400*a+1100001+700000<=20000*a+10000000:=by omega
theorem cz.step2(B:cz){a b d aH:Nat}(h:a<=B.W0+aH*B.K)(e:b<=a+(8400*B.C+1100001))(f:d<=b+700000):d<=B.W0+(aH+1)*B.K:=
 B.step h (ASF e f) (AOl B.C)
theorem AJ5(bs:cp g)(S:Br B g h q k st m D aH c)(hA:aH+1<=B.A)
  (bt: ∀h' ab,oR B h h' q k m ab (aH+1)->kg (ff ab) (aH+1) c (Cr st)->R (J6 J9 30) h')
  (b2: ∀h' aI b3 bH ab r,aI.d=q.d->aI.b=q.b->Br B g h' aI b3 bH ab r (aH+1) c->Jf m ab->bH.fr=st.fr->Cr bH=Cr st->bH.ts.length<=1->(∀ E,¬cF E->ff ab E=ff m E)->Mod (λc=>k c≠0) h h'->(∀ c,b3 c≠0->k c≠0\/h.size<=c)->R (J6 J9 0) h'):
  AA A P Jp #[Ap q.d] h R:=by
 have cP:=S;obtain⟨u,hd,L,l,a7,b⟩:=S;have ex:=B.hA;have ey:=B.hC;have ez:=B.wt (a:=aH) (by omega);refine ZX ?_;unfold Qq;refine ai.mk λK cR=>Za u (cR _ _ (af.no rfl ?_))
 refine aD (Aa.mk (s:=q.tp) (AB u.cell rfl) ?_);have eA:=u.da;have cS:=u.cj.len;have eB:=l.cn;refine af.intro (λI=>?_) (λI=>?_)
 ·have f:st.ts.length<=1:=by grind
  exact b2 h q k st m D rfl rfl (cP.aH (by omega)) (Jf.refl hd) rfl rfl f (λ_ _=>rfl) Mod.refl (λc b=> .inl b)
 refine aD (Aa.mk (s:=q.tp) (AB u.cell rfl) ?_);refine Loop.rule (λaK x F=> ∃(i:Nat) (sl:Sl),x=(sl,(i:Int),())/\aK=q.ps.length-i/\i<=q.ps.length/\Ext h F/\(∀ c,sl.ag=some c->h.size<=c)/\TP A F sl ((aE st).take i)) ?_ ⟨0,⟨none,0,0⟩,rfl,rfl,by omega,Mod.refl,λc b=>by simp[Sl.ag] at b,TP.nil⟩;rintro eC aK _ F ⟨i,sl,rfl,rfl,a8,aL,bu,a9⟩ b4;dsimp only;refine af.intro (λI=>?_) (λI=>?_)
 ·have V:i<q.ps.length:=by rw[<- cS];simpa using I
  have cT:i<st.ts.length:=by omega
  have b5:q.ps[i]? =some q.ps[i]:=A2 V;have aM:st.ts[i]? =some st.ts[i]:=A2 cT;have cU:(aE st)[i]? =some st.ts[i].2:=by unfold aE;rw[C5,aM];rfl
  have b6:=u.on aL;refine b6.cj.view.idx b5 λa _ c=>AX.mk (Cells.pt c) ?_
  obtain⟨bv,eD,cV,cW,cX,b7⟩:=b6.cO i _ _ b5 aM;refine zr cV cW b7.eL λeE bw bx N eF=>⟨_,rfl,ZZ.mk bx.one.1 ?_⟩
  rw[M.sL] at bx;have v:=b7.many;refine TP.add (a9.ext N) bx (λc b e=>?_) (by omega) (by simp[aE];omega) λcY h' aI ab cZ=>?_
  ·obtain⟨eG,c0,_,_⟩:=a9;have ac:=c0.lt e;have eH:=bu c e;rcases b with f|f|f
   ·have:=cX c f.1 f.2;have:=(u.own c (by rw[this];decide)).2;omega
   ·omega
   ·omega
  ·rw[Ab (by omega)];refine b4 (q.ps.length-(i+1)) _ _ (by omega) ⟨i+1,cY,rfl,rfl,V,?_,λc b=>?_,?_⟩
   ·exact(aL.trans N).then (ab.aj λc _ b=> .inr (bu c b))
   ·rcases cZ c b with f|f
    ·exact bu c f
    ·have:=aL.size;have:=N.size;omega
   ·rw[AD,cU];exact aI
 have V:i=q.ps.length:=by
  have: ¬i<q.tp.len:=by simpa using I
  omega
 subst V;rw[Ax (by simp[aE];omega)] at a9;clear b4;have c3:=bB.tail u.fU;refine M.sM a9.lC (λc h=>h.elim) (by simp[aE];omega) c3 λeI b8 c4 b9 _=>⟨_,rfl,?_⟩
 refine M.sN (.inr c4) λeJ bb c5 ca _=>⟨_,rfl,?_⟩
 have eK:=L.fJ l;have eL:=L.dk l;have c6:(BC (Ah (aE st))).length<=1099511627776:=by have:(BC (Ah (aE st))).length=(Gb (aE st)).length:=rfl;omega
 refine M.Wq c5 (λ_ _=>rfl) c6 λbz aN aw c7 c8=>⟨bz,rfl,?_⟩
 have bA:Ext h aN:=((aL.trans b9).trans ca).trans c8;have aw:Own BM AQ aN bz (Gb (aE st)):=aw;have bc:=u.on bA;have eM:=bA.size;refine aD (Aa.mk (s:=q.np) (AB bc.cell rfl) ?_);refine aD (ae.dt bc.cell (by simp) λeN c9 da eO=>?_);refine aD (ae.dt c9 (by simp) λX bC db eP=>?_);have bC:X[q.d]? =some (J2 (eg {q with tp:=⟨none,0,0⟩,np:=⟨none,0,0⟩} {st with next:=st.next,aW:=st.aW} false) FP (0,0)):=by simpa using bC
 have aO:Mod (· =q.d) aN X:=da.trans db;have am:=bc.eY (tp:=⟨none,0,0⟩) (np:=⟨none,0,0⟩) (ps:= []) (ts:= []) (next:=st.next) (aW:=st.aW) (S:=λ_=>False) bC (aO.aj λc _ b=> .inl b) Own.nil Own.nil rfl
  (λc b=>by simp[Sl.ag] at b) (λc b=>by simp[Sl.ag] at b) (λc h=>h.elim) (λi t p f=>by simp at f)
 have dc: ∀c,Lp k aN.size ⟨none,0,0⟩ ⟨none,0,0⟩ (λ_=>False) c=k c:=λc=>by
  unfold Lp;split
  ·rfl
  ·rename_i f;simp[Sl.ag];omega
 have dd:Lp k aN.size ⟨none,0,0⟩ ⟨none,0,0⟩ (λ_=>False)=k:=funext dc;rw[dd] at am;have ax:Mod (λc=>k c≠0) h X:=(Ext.mod bA).trans (aO.aj λc _ b=>by rw[b,u.kd];decide);have de:=bc.names.view;have cb:View IY X q.np (eo st):=de.mod aO λc b e=>by have:=u.kx c b;rw[e,u.kd] at this;cases this
 have cc:=L.iX l;have eQ:=l.next;have eR:=l.aJ;have bd:st.next∉st.ts.map (·.1):=λv=>by
  obtain⟨p,W,e⟩:=List.mem_map.1 v;have:=L.below p W;omega
 refine ai.mk λdf dg=>?_
 have cd: ∀(F:aa) (an:Hp) (be:Nat->Nat) (y:Bx) (z:Nat) (w:List (Nat×List Pr)),bK g F an be {st with ts:=w,next:=z} y->an.d=q.d->an.b=q.b->Jf m y->
   (∀ x,x≠aX st.next->ff y x=ff m x)->((w= []/\z=st.next/\Gb (aE st)= []/\ff y (aX st.next)=none)\/(w= [(st.next,Gb (aE st))]/\z=st.next+1/\ff y (aX st.next)=some (AY (Js (Gb (aE st))),bq)/\Ha (Gb (aE st))))->
   ba y.files<=ba m.files+(8400*B.C+1100001)->Mod (λc=>k c≠0) h F->(∀ c,be c≠0->k c≠0\/h.size<=c)->View IY F q.np (eo st)->(∀ c,q.np.ag=some c->be c=7)->df () F:=by
  intro F an be y z w ap bf ay bD Y O ce bg aP dh bb;refine dg _ _ ?_;have di: ∀x,(∀ n,x≠aX n)->ff y x=ff m x:=λx J=>Y x (J _)
  have dj:BG (ff y) D:=L.ok.fV λx J=>Y x (J st.next (by rw[L.names];exact bd))
  have dk:gY (cQ {st with ts:=w,next:=z}):=by
   have eS:=L.eM;have eT:=l.aw;rcases O with⟨rfl,rfl,_,_⟩|⟨rfl,rfl,_,_⟩
   ·exact⟨by show st.next<=_;omega,by show 1<=st.aW/\st.aW<=_;omega,by simp[cQ],by simp[cQ],by simp[cQ]⟩
   ·exact⟨by show st.next+1<=_;omega,by show 1<=st.aW/\st.aW<=_;omega,by simp[cQ],by simp[cQ],by simp[cQ]⟩
  have dl: ∀n∈(cQ {st with ts:=w,next:=z}).names,ff y (aX n)=some (AY (Js ((λ_=>Gb (aE st)) n)),bq)/\Ha ((λ_=>Gb (aE st)) n):=λn o=>by
   rcases O with⟨rfl,rfl,_,_⟩|⟨rfl,rfl,f,H⟩
   ·simp[cQ] at o
   ·have o:n=st.next:=by simpa [cQ] using o
    subst o;exact⟨f,H⟩
  have cf: ∀r:Bo,r.L=D.L->r.aO=D.aO->Ao r=cQ {st with ts:=w,next:=z}->r.T=(λ_=>Gb (aE st))->cC r=Cr st/\OG r<=c/\Es r=st.fr:=λr bE bF ad bh=>by
   have ay:=AFW bE bF (by rw[ad];exact L.aW.symm);have cg:Es r=st.fr:=by unfold Es;rw[ay];exact L.fr.symm
   have eU:=L.cn;have eV:=l.bW;refine⟨?_,?_,cg⟩
   ·unfold cC;rw[cg,ad,bh];rcases O with⟨rfl,rfl,f,_⟩|⟨rfl,rfl,_,_⟩
    ·exact ACI u.fU f
    ·exact WT u.fU
   ·unfold OG;rw[ay,ad,bh];rcases O with⟨rfl,rfl,f,_⟩|⟨rfl,rfl,_,_⟩
    ·show 0+(Ie D).flatten.length<=c;omega
    ·show((Gb (aE st)).length+0)+(Ie D).flatten.length<=c;omega
  have ch: ∀ {aq:bO},(∀ n,aq (aX n)≠none->ff y (aX n)≠none)-> ∀n,aq (aX n)≠none->n<8*(aH+1)+8:=λbG n o=>by
   by_cases e:n=st.next
   ·omega
   ·have f:=bG n o;rw[Y _ λaQ=>e (Jg aQ)] at f;have:=L.fA l f;omega
  have ci: ∀(r:Bo) (aq:bO),BG aq r->r.L=D.L->r.aO=D.aO->r.aY<=max D.aY (st.aJ+1)->Ao r=cQ {st with ts:=w,next:=z}->r.T=(λ_=>Gb (aE st))->(∀ n,aq (aX n)≠none->ff y (aX n)≠none)->Rec aq (aH+1) c (Cr st):=λr aq f bE bF o ad bh bG=>by
   obtain⟨aR,aS,_⟩:=cf r bE bF ad bh;have:=l.aO;have:=l.aY;have:=L.eM;have:=l.aw;refine⟨r,f,⟨by omega,by omega,?_,?_,?_,aS,ch bG⟩,aR⟩
   ·rw[ad];show z<=_;omega
   ·rw[ad];show st.aW<=_;omega
   ·rw[ad];rcases O with⟨rfl,_⟩|⟨rfl,_⟩<;>simp[cQ]
  rw[<- bf];have dm:ba y.files+1000000<=8000000000000:=by have f:=B.wt (a:=aH+1) hA;have H:=B.step (d:=8400*B.C+1100001+1000000) a7 (w':=ba y.files+1000000) (by omega) (by omega);omega
  refine ALd (T:=λ_=>Gb (aE st)) bs ap bD.up dj dk dl ⟨L.aJ,by show st.aJ+2<=_;omega⟩ (λn aT aU=>by rw[di _ λk=>Ql n k];exact L.jz n aT aU) dm
   (λbI aV bJ ag dn dp bi dq dr Z bL=>⟨_,rfl,af.yes rfl ?_⟩) λaV bJ cj ag D3 ds bM ck ar bN bP bQ cl Z dt bL bi cm=>⟨_,rfl,af.no rfl ?_⟩
  ·refine Jl ap dn (bi.aj λc _ b=>b.imp id .inr) dq λcn du dv dw dx=>⟨_,rfl,?_⟩
   have dy:Mod (λc=>k c≠0) h cn:=bg.then (dw.aj λc _ b=>aP c b);have bj:ba ag.files<=B.W0+(aH+1)*B.K:=B.step2 a7 ce bL;refine bt cn ag ⟨λF=>bI (bD.calm F),by rw[<- bf];exact du,⟨bJ,by rw[<- ay];exact dv,λc b=>?_⟩,dp,dy,λE Q=>?_,bj⟩ λG aY=>?_
   ·rcases dx c b with f|f
    ·exact aP c f
    ·exact .inr (by have:=bg.size;omega)
   ·rw[Z E λn=>lj Q n,Y E (RA Q _)]
   ·obtain⟨r,co,nx⟩:=dr G aY;have cq: ∀n,G (aX n)≠none->ff y (aX n)≠none:=λn o=>by
     have:=aY.some o;rwa [Z _ λj e=>Ql j n e.symm] at this
    rcases nx.last with⟨ah,bk⟩|⟨ah,bk⟩
    ·obtain⟨aR,aS⟩:=AHb nx.L nx.aO ah bk;have:=l.aO;have:=l.aY;have:=L.eM;have:=l.aw;have:=L.next;have dz:=nx.aY;have bR:({st with ts:=w,next:=z}:Db).aJ=st.aJ:=rfl;rw[bR] at dz;exact⟨r,co,⟨by rw[nx.aO];omega,by omega,by rw[ah];omega,by rw[ah,L.aW];omega,by rw[ah,L.iF];omega,by rw[aS];exact l.bW,ch cq⟩,by rw[aR];exact L.map⟩
    ·exact ci r G co nx.L nx.aO nx.aY ah bk cq
  ·
   have bj: ∀ {cr},cr<=ba ag.files->cr<=B.W0+(aH+1)*B.K:=λdA=>B.step2 a7 ce (AH dA bL)
   have dB:View IY aV q.np (eo st):=dh.mod bi λc b e=>by
    have f:=bb c b;rcases e with e|e
    ·rw[ap.kb c e] at f;cases f
    ·rw[e,ap.kn] at f;cases f
   have dC: ∀c,q.np.ag=some c->c<F.size:=λc b=>(ap.own c (by rw[bb c b];decide)).2
   have eW:q.np.len=st.ts.length:=by rw[u.names.len];simp
   have dD:Mod (λc=>k c≠0) h aV:=bg.then (bi.aj λc _ b=>by
    rcases b with b|b
    ·exact aP c (by rw[ap.kb c b];decide)
    ·exact aP c (by rw[b,ap.kn];decide))
   have dE: ∀c,cj c≠0->k c≠0\/h.size<=c:=λc b=>by
    by_cases ac:c<F.size
    ·rw[cm c ac] at b;exact aP c b
    ·exact .inr (by have:=bg.size;omega)
   have dF: ∀n,(∃ p∈st.ts,p.1=n)->(ff ag (aX n)).isSome=true/\n≠st.next:=λn o=>by
    obtain⟨p,W,rfl⟩:=o;have ac:=L.below p W;have aj:p.1≠st.next:=by omega
    have f:=(L.ok.cO p.1 (by rw[L.names];exact List.mem_map.2 ⟨p,W,rfl⟩)).1;rw[Z _ λj e=>Ql j _ e.symm,Y _ λe=>aj (Jg e),f];exact⟨rfl,aj⟩
   have dG:=L.nd;obtain⟨aR,aS,dH⟩:=cf D3 bP bQ ar bN;have eX:bM.up=bM.up:=rfl;refine Loop.rule (λaK x J=> ∃(i:Nat) (bm:Nat->Prop) (aZ:Nat->Nat) (C:Bx),x=((i:Int),())/\aK=st.ts.length-i/\i<=st.ts.length/\bK g J {an with Sb:=bm} aZ {st with ts:=w,next:=z,aJ:=st.aJ+1} C/\Jf m C/\ba C.files<=ba ag.files/\
     (∀ x,(∀ n∈(st.ts.map (·.1)).take i,x≠aX n)->ff C x=ff ag x)/\(∀ n∈(st.ts.map (·.1)).take i,ff C (aX n)=none)/\Mod (λc=>k c≠0) h J/\(∀ c,aZ c≠0->k c≠0\/h.size<=c)/\View IY J q.np (eo st)/\(∀ c,q.np.ag=some c->aZ c=7)) ?_
    ⟨0,bJ,cj,ag,rfl,rfl,by omega,ds,bD.trans bM,A0 _,λx _=>rfl,by simp,dD,dE,dB,λc b=>by rw[cm c (dC c b)];exact bb c b⟩
   rintro eY aK _ J ⟨i,bm,aZ,C,rfl,rfl,a8,ak,a0,bS,U,bn,a1,a2,cs,bT⟩ dI;dsimp only;refine af.intro (λI=>?_) (λI=>?_)
   ·have V:i<st.ts.length:=by have:=of_decide_eq_true I;omega
    have aM:st.ts[i]? =some st.ts[i]:=A2 V;have ct:(st.ts.map (·.1))[i]? =some st.ts[i].1:=by rw[C5,aM];rfl
    have cu:st.ts[i]∈st.ts:=AW V;have eZ:=L.below _ cu;refine cs.idx (i:=i) (x:=(st.ts[i].1:Int)) (by rw[eo,C5,aM];rfl) λa _ dJ=>AC.mk dJ.int ?_
    refine aD (AX.mk (AL ak.cell rfl) ?_);refine Qh (ak.ib bs) (by omega) λbw N=>⟨_,rfl,⟨AL (ak.on N).cell rfl,?_⟩⟩
    have bU:=ak.on N;refine R8 bU.box λb8 cv bV bo cw=>⟨_,rfl,?_⟩
    have dK:st.ts[i].1∉(st.ts.map (·.1)).take i:=λv=>by
     obtain⟨j,a3,e⟩:=Dd v;have e0:j<i:=by have:=a3;simp at this;omega
     rw[List.getElem_take] at e;have f:=(List.getElem?_eq_some_iff.1 ct);have H:=(Lq (h₀:=by simp;omega) (h₁:=f.1) dG).1 (e.trans f.2.symm);omega
    have dL:(ff C (aX st.ts[i].1)).isSome=true:=by rw[U _ λn o e=>dK (by rw[Jg e];exact o)];exact(dF _ ⟨_,cu,rfl⟩).1
    have bW:(st.ts.map (·.1)).take (i+1)=(st.ts.map (·.1)).take i++ [st.ts[i].1]:=by rw[AD,ct];rfl
    have dM:Mod (λc=>k c≠0) h b8:=a1.then (((Ext.mod N).trans bo).aj λc _ b=>a2 c (by rw[ak.kb c b];decide));rcases RZ (k:=aX st.ts[i].1) a0.up dL with⟨dN,bX⟩|⟨bX,dO,cx⟩
    ·rw[bX] at bV ⊢;refine af.yes rfl ?_;refine Jl (q:= {an with Sb:=bm}) bU bV (bo.aj λc _ b=> .inl b) (λc b=> .inl (cw c b)) λcy dP dQ dR dS=>⟨_,rfl,?_⟩
     have dT:Mod (λc=>k c≠0) h cy:=(a1.trans (Ext.mod N)).then (dR.aj λc _ b=>a2 c b);have dU: ∀n,ff C (aX n)≠none->ff y (aX n)≠none:=λn o=>by
      by_cases v:n∈(st.ts.map (·.1)).take i
      ·exact absurd (bn n v) o
      ·rw[U _ λj a3 e=>v (by rw[Jg e];exact a3),Z _ λj e=>Ql j n e.symm] at o;exact o
     have bY:BG (ff C) D3:=ck.fV λx az=>U x λn o e=>az n (by
      rw[ar];intro v;rcases O with⟨rfl,_⟩|⟨rfl,_⟩
      ·simp[cQ] at v
      ·have:n=st.next:=by simpa [cQ] using v
       have cz:n∈st.ts.map (·.1):=DB o;rw[this] at cz;exact bd cz) e
     refine bt cy (NU C) ⟨(λF=>by have:=a0.calm F;rw[dN] at this;cases this),by rw[<- bf];exact dP,⟨cv,by rw[<- ay];exact dQ,λc b=>?_⟩,rfl,dT,λE Q=>?_,bj bS⟩ λG aY=>?_
     ·rcases dS c b with f|f
      ·exact a2 c f
      ·exact .inr (by have:=(a1.trans (Ext.mod N)).size;omega)
     ·rw[p8,U E λn _=>RA Q n,Z E λn=>lj Q n,Y E (RA Q _)]
     ·exact ci D3 G (bY.dP aY) bP bQ cl ar bN λn o=>dU n (aY.some o)
    ·rw[bX];refine af.no rfl ?_;have dV:=bU.boxed (j:=2) (bH:= {st with ts:=w,next:=z,aJ:=st.aJ+1}) bV (bo.aj λc _ b=> .inl b) (λc b=> .inl (cw c b)) rfl rfl rfl rfl (.inl ⟨by decide,rfl,rfl⟩) (.inl ⟨by decide,rfl⟩);have dW:=VL (m:=C) (aX st.ts[i].1);rw[Ab (by omega)];refine dI (st.ts.length-(i+1)) _ _ (by omega) ⟨i+1,cv,_,_,rfl,rfl,V,dV,a0.trans dO,AH dW bS,λx az=>?_,λn o=>?_,dM,λc b=>?_,?_,λc b=>?_⟩
     ·rw[cx,if_neg (az _ (by rw[bW];simp))];exact U x λn o=>az n (by rw[bW];exact List.mem_append.2 (.inl o))
     ·rw[cx];split
      ·rfl
      ·rename_i aj;rw[bW] at o;rcases List.mem_append.1 o with o|o
       ·exact bn n o
       ·exact absurd (by rw[List.mem_singleton.1 o]) aj
     ·by_cases ac:c<bw.size
      ·rw[GY ac] at b;exact a2 c b
      ·exact .inr (by have:=(a1.trans (Ext.mod N)).size;omega)
     ·exact(cs.ext N).mod bo λc b e=>by
       have f:=bT c b;rw[ak.kb c e] at f;cases f
     ·have ac:c<bw.size:=by have:=(ak.own c (by rw[bT c b];decide)).2;have:=N.size;omega
      rw[GY ac];exact bT c b
   ·have V:i=st.ts.length:=by have: ¬(i:Int)<((q.np.len:Nat):Int):=of_decide_eq_false I;omega
    subst V;rw[Ax (by simp)] at U bn;have dX: ∀n,ff C (aX n)≠none->n=st.next/\ff y (aX n)≠none:=λn o=>by
     by_cases v:n∈st.ts.map (·.1)
     ·exact absurd (bn n v) o
     ·rw[U _ λj a3 e=>v (by rw[Jg e];exact a3),Z _ λj e=>Ql j n e.symm] at o;refine⟨?_,o⟩;by_cases e:n=st.next
      ·exact e
      ·rw[Y _ λaQ=>e (Jg aQ)] at o;exact absurd (L.clean n o) v
    have cB: ∀n,ff C (aC nl n)=ff m (aC nl n):=λn=>by
     rw[U _ λj _=>MI n j,Z _ λj=>WO n j,Y _ (MI n _)]
    have bY:BG (ff C) D3:=ck.fV λx az=>U x λn o e=>az n (by
     rw[ar];intro v;rcases O with⟨rfl,_⟩|⟨rfl,_⟩
     ·simp[cQ] at v
     ·have:n=st.next:=by simpa [cQ] using v
      rw[this] at o;exact bd o) e
    have dY: ∀p∈w,D3.T p.1=p.2:=λp W=>by
     rw[bN];rcases O with⟨rfl,_⟩|⟨rfl,_⟩
     ·cases W
     ·rw[List.mem_singleton.1 W]
    have dZ: ∀p∈w,p.1<z:=λp W=>by
     rcases O with⟨rfl,_⟩|⟨rfl,rfl,_⟩
     ·cases W
     ·rw[List.mem_singleton.1 W];exact Hh _
    have d0: ∀n,ff C (aX n)≠none->n∈w.map (·.1):=λn o=>by
     obtain⟨e,H⟩:=dX n o;rcases O with⟨rfl,_,_,aV⟩|⟨rfl,_⟩
     ·rw[e] at H;exact absurd aV H
     ·simp[e]
    have cD:Ee (ff C) {st with ts:=w,next:=z,aJ:=st.aJ+1} D3:=
     ⟨bY,by rw[ar];rfl,dY,by rw[ar];rfl,by rw[ar];exact A0 _,dZ,dH.symm,λn aT aU aj=>by rw[cB];exact L.gE n aT aU aj,λv=>by rw[cB,bP];exact L.jA v,
      λn aT aU=>by rw[U _ λj _=>Ql n j];exact dt n aT aU,L.eM,by show 1<=st.aJ+1;omega,d0⟩
    have d1:TH {st with ts:=w,next:=z,aJ:=st.aJ+1} D3 (aH+1) c:=by
     have:=l.aw;have:=l.aO;have:=l.aY;have bR:({st with ts:=w,next:=z}:Db).aJ=st.aJ:=rfl;rw[bR] at cl;refine⟨by show st.aw<=_;omega,by show st.aJ+1<=_;omega,?_,?_,aS,by rw[bQ];omega,by omega⟩
     ·show z<=_;omega
     ·show w.length<=_;rcases O with⟨rfl,_⟩|⟨rfl,_⟩<;>simp
    refine b2 J {an with Sb:=bm} aZ _ C D3 bf ay ⟨ak,a0.up,cD,d1,bj bS,b⟩ a0 rfl ?_ ?_ (λE Q=>?_) a1 a2
    ·rw[<- aR];exact cD.map.symm
    ·show w.length<=1;rcases O with⟨rfl,_⟩|⟨rfl,_⟩<;>simp
    ·rw[U E λn _=>RA Q n,Z E λn=>lj Q n,Y E (RA Q _)]
 refine af.intro (λI=>?_) (λI=>?_)
 ·have aj:Gb (aE st)≠ []:=λe=>by
   have f:=of_decide_eq_true I;have H:=aw.len;rw[e] at H;simp at H;omega
  have bp:=APK (B:=B) u L l b aj;have e1:=ALn bp;refine aD (AC.mk (AB am.cell rfl) ?_);have d2:View BM X bz (Gb (aE st)):=aw.view.mod aO λc b e=>by have:=c7 c b;have:=u.ia;have:=(aL.trans b9).size;have:=ca.size;omega
  have e2:(Js (Gb (aE st))).length<=8400*B.C+1100000:=by omega
  refine API (q:= {q with tp:=⟨none,0,0⟩,np:=⟨none,0,0⟩,ps:= []}) (n:=st.next) bs am hd bp d2 (λc b=>by have:=aw.lt b;have:=aO.size;omega) (by omega) cc (by omega) (λbI au cE aA d3 d4 a4 d5 aF d6=>⟨_,_,rfl,af.yes rfl ?_⟩) λau cE cG aA t bv a8 bZ d7 aF d6 cH e3 e4 cI a4 cJ=>⟨_,_,rfl,af.no rfl ?_⟩
  ·refine Jl (q:= {q with tp:=⟨none,0,0⟩,np:=⟨none,0,0⟩,ps:= []}) am d3 (a4.aj λc _ b=> .inl b) d5 λav d8 d9 ea eb=>⟨_,rfl,?_⟩
   have ec:BG (ff aA) D/\kg (ff aA) (aH+1) c (Cr st):=by
    refine L.jB (l.mono (BW _) (A0 _)) (λx J=>aF x (J _ bd)) λn o=>?_
    by_cases e:n=st.next
    ·omega
    ·rw[aF _ λaQ=>e (Jg aQ)] at o;have:=L.fA l o;omega
   have ed:ba aA.files<=ba m.files+(8400*B.C+1100001):=by omega
   exact bt av aA ⟨bI,d8,⟨cE,d9,λc b=>(eb c b).imp id λh=>by have:=ax.size;omega⟩,d4,ax.then (ea.aj λc _ b=> .inl b),λE Q=>aF E (RA Q _),B.step2 a7 ed (Ix _ _)⟩ ec.2
  ·refine ao.mk λav _ ee a5 e5=>?_
   have br:=bZ.on a5;refine aD (AC.mk (AB br.cell rfl) (ao.mk λef _ eh a6 e6=>?_));have cK:=br.on a6;refine aD (ae.dt cK.cell (by simp) λe7 ei ej e8=>aD (ae.dt ei (by simp) λe9 cL ek fa=>?_));refine aD (AC.mk (AB cL rfl) (aD (ae.dt cL (by simp) λal cM el fb=>?_)));have en:J8 J9 (((st.next:Nat):Int)+(1:Int))=((st.next+1:Nat):Int):=Ab (by omega);have aG:Mod (· =q.d) ef al:=(ej.trans ek).trans el;have ep:al[au.size]? =some (J2 #[Ap t] BK (0,0)):=aG.ag (a6.ag ee λh=>h) (by have:=bZ.ia;show ¬_=q.d;have e:(q.d:Nat)<au.size:=this;omega);have eq:al[av.size]? =some (J2 #[J6 J9 (st.next:Int)] Bq (0,0)):=aG.ag eh (by have:=br.ia;have e:(q.d:Nat)<av.size:=this;show ¬_=q.d;omega);have er:Own fL BK al ⟨some ⟨au.size,0,none⟩,1,1⟩ [t]:=Own.lit (l:= [t]) ep rfl (by simp[maxLen]);have on:Own IY Bq al ⟨some ⟨av.size,0,none⟩,1,1⟩ (([(st.next,Gb (aE st))]:List (Nat×List Pr)).map λp=>(p.1:Int)):=Own.lit (l:= [((st.next:Nat):Int)]) eq rfl (by simp[maxLen]);have fc:=a4.size;have cN: ∀c,au.size<=c->cG c=0:=λc b=>cI c (by have:=cH.fA;omega)
   have es:=cK.eY (h':=al) (tp:=⟨some ⟨au.size,0,none⟩,1,1⟩) (np:=⟨some ⟨av.size,0,none⟩,1,1⟩) (ps:= [t]) (ts:= [(st.next,Gb (aE st))]) (next:=st.next+1) (aW:=st.aW) (S:=λc=>bv<=c/\c<a8)
    (by rw[en] at cM;simpa [eg] using cM) (aG.aj λc _ b=> .inl b) er on rfl
    (λc b=> .inr (by
     have e:au.size=c:=by simpa [Sl.ag] using b
     subst e;have b0:=bZ.ext.size;refine⟨cN _ (A0 _),b0,by simp[Sl.ag];omega,by omega⟩))
    (λc b=> .inr (by
     have e:av.size=c:=by simpa [Sl.ag] using b
     subst e;have b0:=br.ext.size;refine⟨cN _ (by omega),b0,by simp[Sl.ag];omega,by omega⟩))
    (λc b=>⟨by have:=am.ext.size;omega,by omega⟩)
    (λi t' p f H=>by
     have et:i=0:=by have:=(List.getElem?_eq_some_iff.1 f).1;simpa using this
     subst et;simp only[Hn,BE] at f H;subst f H;refine .inr ⟨bv,a8,(cH.ext (a5.trans a6)).mod aG (λc c1 c2 e=>?_),by omega,λc c1 c2=>⟨⟨c1,c2⟩,cI c c1⟩,bp⟩;have:=am.ia;have bk:(q.d:Nat)<X.size:=this;omega)
   have eu:Mod (λc=>k c≠0) h al:=by
    refine(ax.trans ((a4.aj λc _ b=>?_))).trans ((Ext.mod (a5.trans a6)).trans (aG.aj λc _ b=>?_))
    ·rw[u.kb c b];decide
    ·rw[b,u.kd];decide
   have b1: ∀c,q.np.ag=some c->c<X.size/\k c=7:=λc b=>⟨by have:=u.names.lt b;have:=ax.size;omega,u.kx c b⟩
   refine cd al _ _ aA (st.next+1) _ es rfl rfl d7 (λx J=>by rw[aF,if_neg J]) (.inr ⟨rfl,rfl,by rw[aF,if_pos rfl],bp⟩) (by omega) eu (λc b=>?_) ?_ λc b=>?_
   ·by_cases ac:c<h.size
    ·left;intro ev;have cO:c<X.size:=by have:=ax.size;omega
     have ah:cG c=0:=by rw[cJ c cO];exact ev
     have fd:=cO;apply b;unfold Lp;rw[if_neg (by simp[ah]),if_neg (by simp[Sl.ag];omega),if_neg (by simp[Sl.ag];have:=a5.size;omega),if_neg (by omega)]
    ·exact .inr (by omega)
   ·refine((cb.mod a4 λc b e=>?_).ext (a5.trans a6)).mod aG λc b e=>?_
    ·have:=(b1 c b).2;rw[u.kb c e] at this;cases this
    ·have:=(b1 c b).2;rw[e,u.kd] at this;cases this
   ·obtain⟨f,H⟩:=b1 c b;unfold Lp;rw[cJ c f,H];rfl
 ·have ew:Gb (aE st)= []:=by have f:=of_decide_eq_false I;have H:=aw.len;exact CT (by omega)
  refine cd X _ k m st.next [] am rfl rfl (Jf.refl hd) (λx _=>rfl) (.inl ⟨rfl,rfl,ew,cc⟩) (by omega) ax (λc b=> .inl b) cb λc b=>u.kx c b
end
end Go.Lf.G
