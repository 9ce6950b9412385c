/-
 The plain law of a box, file by file: firm and soft bytes.
-/
import Derived.Test.YtgpmoonnachoaaaGreatDoorLfU2ToS3
import Derived.Test.YtgpmoonnachoaaaGreatDoorLfX2ToS5
import Derived.Test.YtgpmoonnachoaaaGreatDoorLfAToN1
import Derived.Lib.AppendZerosOnto
import Derived.Lib.Overlaps
import Derived.Laws.IdiomCopy
import Derived.Laws.Externs
set_option maxRecDepth 100000
set_option linter.unusedVariables false
set_option linter.unusedSimpArgs false
open Go.IntKind renaming i64→J9,wrap→J8
open Go.Value renaming string→J7,int→J6,pointer→J5,slice→J4,bool→J3,tuple→J1
open Go.Obj renaming cells→J2
open Go renaming Value→J0,Addr→Q6,TypeId→Q7,FuncId→Q8,Program→Q1
open Go.Addr renaming add→Q9,mk→Q5
namespace Go.Lf
open Go
def ff(m:Bx)(a:A2M):Option (A2M×A2M):=(Cb a m.files).map λf=>(f.bZ,f.soft)
theorem Sd {m:Bx}{k:A2M}:(Cb k m.files).isSome=(ff m k).isSome:=by unfold ff;cases Cb k m.files<;>rfl
theorem Yb {m:Bx}(hd:m.down=false)(a:A2M):FK m a=match ff m a with|none=>(bq,31)|some p=>(p.1++p.2,0):=by unfold FK ff;rw[if_neg (by simp[hd])];cases Cb a m.files<;>rfl
theorem rz(m:Bx)(l:List Fi)(a:A2M):ff {H7 m with files:=l} a=(Cb a l).map λf=>(f.bZ,f.soft):=rfl
theorem ALE {a x:A2M}(l:List Fi):Cb x (Uj a l)=if x=a then some ((Cb a l).getD ⟨a,bq,bq⟩) else Cb x l:=by
 unfold Uj;cases c:Cb a l with
 |some f=>
  simp only[Option.isSome_some,if_true];by_cases b:x=a
  ·subst b;simp[c]
  ·rw[if_neg b]
 |none=>
  rw[if_neg (by simp),xn (λd e=>Sa c d e)];by_cases b:x=a
  ·subst b;simp
  ·rw[if_neg b,if_neg (λg=>b g.symm)]
def iS(m:Bx):Prop:=m.down=false/\m.fuel≠0
theorem wP {m:Bx}(g:iS m){k d:A2M}(c:Jw k=false):(CS m k d).1=0/\ ∀x,ff (CS m k d).2 x=if x=k then some (((ff m k).getD (bq,bq)).1,((ff m k).getD (bq,bq)).2++d) else ff m x:=by
 unfold CS;rw[if_neg (by simp[g.1]),if_neg (by simp[c]),if_neg g.2];refine⟨rfl,λx=>?_⟩;rw[rz,rD (g:=SQ d) (λ_=>rfl),ALE];unfold ff;by_cases a:x=k
 ·subst a;rw[if_pos rfl,if_pos rfl];cases b:Cb x m.files with
  |none=>simp[SQ]
  |some f=>
   have:=(JP b).1;simp[SQ,this]
 ·rw[if_neg a,if_neg a];cases b:Cb x m.files with
  |none=>rfl
  |some f=>
   have:=(JP b).1;simp only[HU];rw[if_neg (by rw[this];exact a)]
theorem wQ {m:Bx}(g:iS m){b:A2M}{p:A2M×A2M}(c:ff m b=some p):(FY m b).1=0/\ ∀x,ff (FY m b).2 x=if x=b then some (p.1++p.2,bq) else ff m x:=by
 have a: ∃f,Cb b m.files=some f/\(f.bZ,f.soft)=p:=by
  unfold ff at c;cases a:Cb b m.files with
  |none=>rw[a] at c;cases c
  |some f=>rw[a] at c;exact⟨f,rfl,BE c⟩
 obtain⟨f,a,rfl⟩:=a;unfold FY;rw[if_neg (by simp[g.1]),if_neg (by simp[a]),if_neg g.2];refine⟨rfl,λx=>?_⟩;rw[rz,rD (g:=Sz) (λ_=>rfl)];by_cases d:x=b
 ·subst d;have:=(JP a).1;rw[if_pos rfl,a];simp[Sz,this]
 ·rw[if_neg d];unfold ff;cases e:Cb x m.files with
  |none=>rfl
  |some h=>
   have:=(JP e).1;simp only[HU];rw[if_neg (by rw[this];exact d)]
theorem wR {m:Bx}(g:iS m){k:A2M}(a:(ff m k).isSome=true):(Ci m k).1=0/\ ∀x,ff (Ci m k).2 x=if x=k then none else ff m x:=by
 have b:(Cb k m.files).isNone=false:=by
  rw[<- Sd] at a;cases b:Cb k m.files with
  |none=>rw[b] at a;cases a
  |some f=>rfl
 unfold Ci;rw[if_neg (by simp[g.1]),if_neg (by simp[b]),if_neg g.2];refine⟨rfl,λx=>?_⟩;rw[rz,rE];split<;>rfl
theorem AMn {m:Bx}(l:List Fi):({H7 m with files:=l}:Bx).down=m.down:=by show(H7 m).down=m.down;unfold H7;split<;>rfl
def Calm(m:Bx):Prop:=m.down=false/\m.fuel= -1
theorem Calm.goes {m:Bx}(c:Calm m):iS m:=⟨c.1,by rw[c.2];decide⟩
theorem rA {m:Bx}(c:Calm m):H7 m=m:=by unfold H7;rw[if_neg (by rw[c.2];decide)]
theorem AOR:Calm hZ:=⟨rfl,rfl⟩
theorem AIq {m:Bx}(c:Calm m)(a b:A2M):Calm (CS m a b).2:=by
 unfold CS;rw[if_neg (by simp[c.1])];split
 ·exact c
 ·rw[if_neg (by rw[c.2];decide),rA c];exact⟨c.1,c.2⟩
theorem AN5 {m:Bx}(c:Calm m)(a:A2M):Calm (FY m a).2:=by
 unfold FY;rw[if_neg (by simp[c.1])];split
 ·exact c
 ·rw[if_neg (by rw[c.2];decide),rA c];exact⟨c.1,c.2⟩
theorem AIW {m:Bx}(c:Calm m)(a:A2M):Calm (Ci m a).2:=by
 unfold Ci;rw[if_neg (by simp[c.1])];split
 ·exact c
 ·rw[if_neg (by rw[c.2];decide),rA c];exact⟨c.1,c.2⟩
theorem wS: ∀ {l f:List Nat},l.Pairwise (· < ·)->f.Pairwise (· < ·)->(∀ e,e∈l↔e∈f)->l=f
 | [],[],_,_,_=>rfl
 | [],b::f,_,_,d=>by have:=(d b).2 (by simp);cases this
 |a::l,[],_,_,d=>by have:=(d a).1 (by simp);cases this
 |a::l,b::f,h,i,d=>by
  rw[Rr] at h i;have k:a=b:=by
   rcases List.mem_cons.1 ((d a).1 (by simp)) with c|c
   ·exact c
   ·rcases List.mem_cons.1 ((d b).2 (by simp)) with j|j
    ·exact j.symm
    ·have:=i.1 a c;have:=h.1 b j;omega
  subst k;have:l=f:=wS h.2 i.2 λe=>by
   constructor
   ·intro g;rcases List.mem_cons.1 ((d e).1 (AH _ g)) with c|c
    ·have:=h.1 e g;omega
    ·exact c
   ·intro g;rcases List.mem_cons.1 ((d e).2 (AH _ g)) with c|c
    ·have:=i.1 e g;omega
    ·exact c
  rw[this]
end Go.Lf
namespace Go.Lf.G
open Go
theorem AQ7 {b:A2M}{m:Bx}{l:List Nat}{c:Nat->List A2M}(hd:m.down=false)(d: ∀a∈l,∃p,ff m (aC b a)=some p/\Ni (bl (p.1++p.2)) ((c a).map bl)):TP b m l=l.flatMap c:=by
 unfold TP
 induction l with
 |nil=>rfl
 |cons a l e=>
  obtain⟨p,f,g⟩:=d a (by simp);rw[AF,AF,e λh i=>d h (AH _ i)];congr 1;have j:iW m b a=p.1++p.2:=by unfold iW;rw[Yb hd,f]
  rw[j,APj g,AW]
  conv=>rhs;rw[<- Kp (c a)]
  exact CM λx _=>Le x
theorem zl {nm:A2M}{a:Nat}(e:nm.size<=8)(b:a<=99999999):Jw (aC nm a)=false:=by have c:=APq (nm:=nm) b;unfold Jw;rw[GS,decide_eq_false_iff_not,decide_eq_false_iff_not];refine⟨λd=>?_,by omega⟩;rw[d] at c;have:bq.size=0:=rfl;omega
theorem AQa {i:A2M}{m:Bx}{l:List Nat}(g:mV i m l):l.length<=99999999:=by
 have j: ∀(l:List Nat) (d:Nat),l.Pairwise (· < ·)->(∀ b∈l,d<b/\b<=99999999)->l.length+d<=99999999\/l= []:=by
  intro l
  induction l with
  |nil=>intro d _ _;exact .inr rfl
  |cons a l k=>
   intro d f h;rw[Rr] at f;have n:=h a (by simp);rcases k a f.2 (λb e=>⟨f.1 b e,(h b (AH _ e)).2⟩) with c|c
   ·left;simp only[A6];omega
   ·subst c;left;simp;omega
 rcases j l 0 g.inc (λb e=>by have:=(g.mem b).1 e;omega) with c|c
 ·omega
 ·subst c;simp
structure Lw (h:aa) (lg b:Nat) (nm:A2M) (hh:aa) (S:Nat->Prop) (m:Bx) (seg:Nat) (made:Bool):Prop where
 box:Ce hh b S m
 log:Ed hh lg b nm seg made
 ext:Ext h hh
 fresh: ∀c,S c->h.size<=c/\c≠lg
 lgn:h.size<=lg
def aW(rec:A2M):A2M:=AX (Ca (bl rec))
abbrev nx:A2M:=⟨#[120]⟩
open M (Sorted Ad Bu Ay Ae Am BL Ag bo A9)
abbrev bP:=A2M->Option (A2M×A2M)
abbrev nl:A2M:=⟨#[108]⟩
abbrev nn:A2M:=⟨#[110]⟩
abbrev nt:A2M:=⟨#[116]⟩
def aX(a:Nat):A2M:=nt++AX (Lib.decDigits a)
theorem Xd(a:Nat):bl (aX a)=116::Lib.decDigits a:=by show(nt++AX (Lib.decDigits a)).data.toList=_;rw[Hi,IS];show [116]++(AX (Lib.decDigits a)).data.toList=_;rw[show(AX (Lib.decDigits a)).data.toList=Lib.decDigits a from BX _];rfl
theorem Jl {a b:Nat}(e:aX a=aX b):a=b:=by
 have c:=congrArg bl e;rw[Xd,Xd] at c;have f:Lib.decDigits a=Lib.decDigits b:=by injection c
 have d:=(Zh a).2;rw[f,(Zh b).2] at d;exact d.symm
theorem RN(a:Nat):(bl (aC nl a)).head? =some 108:=by rw[Rv];rfl
theorem Tx(a:Nat):(bl (aC nn a)).head? =some 110:=by rw[Rv];rfl
theorem YD(a:Nat):(bl (aX a)).head? =some 116:=by rw[Xd];rfl
theorem Wj(a b:Nat):aC nl a≠aC nn b:=λc=>by have:=RN a;rw[c,Tx] at this;cases this
theorem MQ(a b:Nat):aC nl a≠aX b:=λc=>by have:=RN a;rw[c,YD] at this;cases this
theorem Qt(a b:Nat):aC nn a≠aX b:=λc=>by have:=Tx a;rw[c,YD] at this;cases this
def cG(x:A2M):Prop:=(∃ a,x=aC nl a)\/(∃ a,x=aC nn a)\/ ∃a,x=aX a
def Mm(b G:bP):Prop:= ∀x,match b x with
 |none=>G x=none
 |some p=> ∃a,G x=if p.1++p.2.extract 0 a=bq then none else some (p.1++p.2.extract 0 a,bq)
theorem AQ6(a:Nat):bq.extract 0 a=bq:=by
 have:(bq.extract 0 a).size=0:=by have:bq.size=0:=rfl;rw[A0H];omega
 have b:=Le (bq.extract 0 a);have c:bl (bq.extract 0 a)= []:=Ub this;rw[c] at b;exact b.symm
def N8(a b:Option (A2M×A2M)):Prop:=b=a\/(a=some (bq,bq)/\b=none)
theorem Mm.bZ {b G:bP}(c:Mm b G){x:A2M}(g: ∀p,b x=some p->p.2=bq):N8 (b x) (G x):=by
 have:=c x;cases d:b x with
 |none=>rw[d] at this;exact .inl this
 |some p=>
  rw[d] at this;obtain⟨i,a⟩:=this;have e:=g p d;obtain⟨h,j⟩:=p;simp only at e;subst e;simp only[AQ6,Vi] at a;by_cases f:h=bq
  ·subst f;rw[if_pos rfl] at a;exact .inr ⟨rfl,a⟩
  ·rw[if_neg f] at a;exact .inl a
structure gD (F:bP) (nm:A2M) (top:Nat) (R:Nat->List (List UInt8)):Prop where
 has: ∀n p,1<=n->n<=99999999->F (aC nm n)=some p->p.2=bq/\Ni (bl p.1) (R n)
 iA: ∀n,1<=n->n<=99999999->F (aC nm n)=none->R n= []
 out: ∀n,top<=n->n<=99999999->F (aC nm n)=none
 lJ: ∀n,(n=0\/top<=n)->R n= []
def Kv {a:Type}(c:Nat->a)(s:Nat)(v:a):Nat->a:=λb=>if b=s then v else c b
theorem EQ {a:Type}{b:Nat->a}{s:Nat}{v:a}:Kv b s v s=v:=if_pos rfl
theorem GQ {b:Type}{c:Nat->b}{s a:Nat}{v:b}(d:a≠s):Kv c s v a=c a:=if_neg d
theorem sy {a:List (List UInt8)}(b:Ni [] a):a= []:=b.uniq (.stop Uf)
theorem gD.put {k G:bP}{f:A2M}{l fq:Nat}{m:Nat->List (List UInt8)}(i:gD k f l m){s:Nat}{v:List (List UInt8)}(r:1<=s/\s<=99999999)(t:s<fq)(j: ∀a,1<=a->a<=99999999->a≠s->N8 (k (aC f a)) (G (aC f a)))
  (n:(G (aC f s)=none/\v= [])\/ ∃x,G (aC f s)=some (x,bq)/\Ni (bl x) v) (u:l<=fq):gD G f fq (Kv m s v):=by
 refine⟨λa p g e c=>?_,λa g e c=>?_,λa o e=>?_,λa o=>?_⟩
 ·by_cases d:a=s
  ·subst d;rw[EQ];rcases n with⟨b,_⟩|⟨x,b,h⟩
   ·rw[b] at c;cases c
   ·rw[b] at c;cases c;exact⟨rfl,h⟩
  ·rw[GQ d];rcases j a g e d with b|⟨b,h⟩
   ·exact i.has a p g e (b▸c)
   ·rw[h] at c;cases c
 ·by_cases d:a=s
  ·subst d;rw[EQ];rcases n with⟨_,b⟩|⟨x,b,_⟩
   ·exact b
   ·rw[b] at c;cases c
  ·rw[GQ d];rcases j a g e d with b|⟨b,h⟩
   ·exact i.iA a g e (b▸c)
   ·obtain⟨_,q⟩:=i.has a _ g e b;exact sy q
 ·have d:a≠s:=by omega
  rcases j a (by omega) e d with b|⟨b,h⟩
  ·rw[b];exact i.out a (by omega) e
  ·exact h
 ·have d:a≠s:=by omega
  rw[GQ d];exact i.lJ a (by omega)
theorem gD.aS {k G:bP}{f:A2M}{i:Nat}{l:Nat->List (List UInt8)}(d:gD k f i l)(o:1<=i)(j: ∀a,1<=a->a<=99999999->N8 (k (aC f a)) (G (aC f a))):gD G f i l:=by
 refine⟨λa p g b e=>?_,λa g b e=>?_,λa m b=>?_,d.lJ⟩
 ·rcases j a (by omega) b with c|⟨c,h⟩
  ·exact d.has a p g b (c▸e)
  ·rw[h] at e;cases e
 ·rcases j a (by omega) b with c|⟨c,h⟩
  ·exact d.iA a g b (c▸e)
  ·obtain⟨_,n⟩:=d.has a _ g b c;exact sy n
 ·rcases j a (by omega) b with c|⟨c,h⟩
  ·rw[c];exact d.out a m b
  ·exact h
theorem gD.drop {l G:bP}{e:A2M}{h:Nat}{m g:Nat->List (List UInt8)}(i:gD l e h m)(j: ∀a,a<=99999999->(G (aC e a)=l (aC e a)/\g a=m a)\/(G (aC e a)=none/\g a= []))(n: ∀a,(a=0\/h<=a)->g a= []):gD G e h g:=by
 refine⟨λa p k c f=>?_,λa k c f=>?_,λa o c=>?_,n⟩
 ·rcases j a c with⟨b,d⟩|⟨b,d⟩
  ·rw[d];exact i.has a p k c (b▸f)
  ·rw[b] at f;cases f
 ·rcases j a c with⟨b,d⟩|⟨b,d⟩
  ·rw[d];exact i.iA a k c (b▸f)
  ·exact d
 ·rcases j a c with⟨b,d⟩|⟨b,d⟩
  ·rw[b];exact i.out a o c
  ·exact b
theorem zM {rs:List (List UInt8)}{r:List UInt8}(b: ∀x∈rs++ [r],x.length<=1048576)(a:Nat):Ni (bl (AX (aI rs)++(AX (Ca r)).extract 0 a)) rs\/Ni (bl (AX (aI rs)++(AX (Ca r)).extract 0 a)) (rs++ [r]):=by
 have c:bl (AX (aI rs)++(AX (Ca r)).extract 0 a)=aI rs++(Ca r).take a:=by show(AX (aI rs)++(AX (Ca r)).extract 0 a).data.toList=_;rw[Hi,IS,Sh,Sp];rw[show(AX (aI rs)).data.toList=aI rs from BX _,show(AX (Ca r)).data.toList=Ca r from BX _];simp
 rw[c];by_cases d:a<(Ca r).length
 ·exact .inl (R4 (λx e=>b x (by simp[e])) (ANL (b r (by simp)) d))
 ·right;rw[Ax (by omega)];have:=R4 (rs:=rs++ [r]) b (t:= []) Uf;simpa using this
structure Nt where
 next:Nat
 aW:Nat
 names:List Nat
def EK(x:Nt):List UInt8:=Bb x.next++Bb x.aW++Bb x.names.length++x.names.flatMap Bb
structure ib (x:Nt):Prop where
 next:x.next<=99999999
 aW:1<=x.aW/\x.aW<=99999999
 ct:x.names.length<=60000
 below: ∀n∈x.names,n<x.next
 nd:x.names.Nodup
structure Yw (b:List Pr):Prop where
 len:b.length<=64
 ok: ∀x∈b,MG x
theorem VO: ∀ {l:List Nat},(∀ n∈l,n<=99999999)->(l.flatMap Bb).length<=l.length*10
 | [],_=>by simp
 |n::l,a=>by
  have d:=AV (n:=n) (by have:=a n (by simp);omega);have e:=VO (l:=l) λb c=>a b (AH _ c)
  simp only[AF,A1,A6];omega
theorem zN {x:Nt}(a:ib x):(EK x).length<=30+x.names.length*10:=by
 have c:=AV (n:=x.next) (by have:=a.next;omega);have d:=AV (n:=x.aW) (by have:=a.aW;omega);have e:=AV (n:=x.names.length) (by have:=a.ct;omega);have f:=VO (l:=x.names) λn b=>by have:=a.below n b;have:=a.next;omega
 simp only[EK,A1];omega
theorem Zn {s:Nat}{b:List Pr}(d:s<=99999999)(a:Yw b):(BZ s b).length<=20+64*8276:=by have e:=AV (n:=s) (by omega);have f:=AV (n:=b.length) (by have:=a.len;omega);have g:=MN a.ok;have c:=a.len;have h:b.length*8276<=64*8276:=AN _ c;simp only[BZ,A1];omega
structure Bn where
 L:Nat->List (List Pr)
 N:Nat->List Nt
 T:Nat->List Pr
 aP:Nat
 aY:Nat
def Np(a:Bn):List Nt:=(List.range a.aY).flatMap a.N
def Aq(a:Bn):Nt:=(Np a).getLast?.getD ⟨1,1,[]⟩
def Ig(a:Bn):List (List Pr):=(List.range a.aP).flatMap λb=>if b<(Aq a).aW then [] else a.L b
def Ey(a:Bn):List Pr:=Ay [] (Ig a).flatten
def cH(a:Bn):List Pr:=A9 (Ae (Ey a::(Aq a).names.map a.T))
structure BJ (F:bP) (D:Bn):Prop where
 log:gD F nl D.aP λn=>(D.L n).map (BZ n)
 note:gD F nn D.aY λn=>(D.N n).map EK
 cS: ∀n∈(Aq D).names,F (aX n)=some (AX (Jy (D.T n)),bq)/\Hl (D.T n)
 fX: ∀n b,b∈D.L n->Yw b
 dM: ∀n x,x∈D.N n->ib x
 dp: ∀x,F x≠none->(bl x).head? =some 116-> ∃n,x=aX n
 cz:1<=D.aP/\D.aP<=99999999/\1<=D.aY/\D.aY<=99999999
theorem zP {b:bP}{a:Bn}(c:BJ b a):ib (Aq a):=by
 unfold Aq;cases d:(Np a).getLast? with
 |none=>exact⟨by simp,by simp,by simp,by simp,by simp⟩
 |some x=>
  have:=SP d;obtain⟨e,_,f⟩:=List.mem_flatMap.1 this;exact c.dM e x f
theorem ATd {l:List Pr}(t:Hl l):AX (Jy l)≠bq:=λd=>by
 have a:Jy l= []:=by have:=congrArg bl d;rw[EJ] at this;exact this
 have e:aT l (NQ l)≠ []:=by simp[aT]
 unfold Jy at a;cases b:aT l (NQ l) with
 |nil=>exact e b
 |cons r f=>
  rw[b] at a;have g:(Ca r).length=0:=by have c:=congrArg List.length a;rw[Xp,A1] at c;simp at c;simp[c.1]
  have h:=(Jh (r:=r) (OD t.eQ r (by rw[b];simp))).1;omega
theorem Vk {a b:Option (A2M×A2M)}{l:List Pr}(e:N8 a b)(t:Hl l)(d:a=some (AX (Jy l),bq)):b=some (AX (Jy l),bq):=by
 rcases e with c|⟨c,_⟩
 ·exact c.trans d
 ·rw[d] at c;injection c with c;exact absurd (Prod.mk.inj c).1 (ATd t)
theorem BJ.same {c G:bP}{e:Bn}(b:BJ c e)(h: ∀a,1<=a->a<=99999999->N8 (c (aC nl a)) (G (aC nl a)))(i: ∀a,1<=a->a<=99999999->N8 (c (aC nn a)) (G (aC nn a)))(j: ∀a∈(Aq e).names,N8 (c (aX a)) (G (aX a)))
  (k: ∀x,G x≠none->c x≠none\/ ∃a,x=aX a):BJ G e:=by
 refine⟨b.log.aS b.cz.1 h,b.note.aS b.cz.2.2.1 i,λa f=>?_,b.fX,b.dM,λx l hd=>?_,b.cz⟩
 ·obtain⟨d,g⟩:=b.cS a f;exact⟨Vk (j a f) g d,g⟩
 ·rcases k x l with d|d
  ·exact b.dp x d hd
  ·exact d
theorem BJ.dV {g G:bP}{h:Bn}(d:BJ g h)(c:Mm g G):BJ G h:=by
 refine d.same (λb e f=>c.bZ λp a=>(d.log.has b p e f a).1) (λb e f=>c.bZ λp a=>(d.note.has b p e f a).1) (λb i=>c.bZ λp a=>?_) λx j=> .inl λk=>j ?_
 ·rw[(d.cS b i).1] at a;cases a;rfl
 ·have:=c x;rw[k] at this;exact this
open M (Sorted Ad Bu Ay Ae Am BL Ag bo A9 aM A8 YY)
theorem AQI {x:Pr}(a:MG x):Ag x=0:=by
 have c:x.key≠(⟨#[]⟩:A2M):=λd=>a.key (by rw[d];rfl)
 have f:=a.bI;have g:=a.cA;unfold M.Ag;rw[if_neg ?_,if_neg ?_]
 ·simp only[DG,decide_eq_true_eq];omega
 ·simp only[DG,A3,decide_eq_true_eq,CI,decide_eq_false_iff_not];rintro(b|⟨b,e⟩)
  ·exact c b
  ·exact e (sv (a.gone b))
theorem pg {x:Pr}(a:Ag x=0):MG x:=by
 unfold M.Ag at a;split at a
 ·cases a
 ·rename_i b;split at a
  ·cases a
  ·rename_i c;simp only[DG,A3,decide_eq_true_eq,CI,decide_eq_false_iff_not,not_or,not_and,Decidable.not_not] at b c;refine⟨λd=>b.1 (sv d),by omega,by omega,λe=>?_⟩;rw[b.2 e];rfl
theorem zZ {l:List Pr}(a: ∀x∈l,MG x):BL l:=λx b=>AQI (a x b)
theorem AFX(a:A2M): ∀ {b t:List Pr},Sorted t->BL b->Ad a (Ay t b)=(Ad a b.reverse).or (Ad a t)
 | [],t,_,_=>rfl
 |x::b,t,s,g=>by
  have d:=g x (by simp);show Ad a (Ay (Bu x t) b)=_;rw[AFX a (M.Px s) λe f=>g e (AH _ f),RW,M.L6,M.RF d,M.YC x a s,M.BC];cases Ad a b.reverse with
  |some p=>rfl
  |none=>
   by_cases c:x.key=a
   ·rw[if_pos c,if_pos c];rfl
   ·rw[if_neg c,if_neg c];rfl
def alive(a:Option Pr):Option Pr:=a.filter λp=> !p.gone
theorem IP(x:Pr):alive (some x)=if x.gone then none else some x:=by unfold alive;cases a:x.gone<;>simp[Option.filter,a]
theorem Z0(a:A2M): ∀ {l:List Pr},Sorted l->Ad a (A9 l)=alive (Ad a l)
 | [],_=>rfl
 |x::l,s=>by
  have e:=List.pairwise_cons.1 s;have c:=Z0 a e.2;unfold M.A9 at c ⊢;rw[AT,M.BC];by_cases b:x.key=a
  ·rw[if_pos b];cases d:x.gone with
   |false=>rw[if_pos (by rfl),M.BC,if_pos b,IP,d];rfl
   |true=>
    rw[if_neg (by simp),c];have:Ad a l=none:=M.EO λf g h=>M.NI (e.1 f g) (b.trans h.symm)
    rw[this,IP,d];rfl
  ·rw[if_neg b];cases d:x.gone with
   |false=>rw[if_pos (by rfl),M.BC,if_neg b];exact c
   |true=>rw[if_neg (by simp)];exact c
theorem VK {l:List Pr}(s:Sorted l):Sorted (A9 l):=s.sublist Gk
def MM(fr:List Pr)(ts:List (List Pr)):List Pr:=A9 (Ae (fr::ts))
theorem FM(fr:List Pr)(ts:List (List Pr)):Sorted (MM fr ts):=VK (M.EC _)
theorem Gs(a:A2M){fr:List Pr}{ts:List (List Pr)}(b:bo (fr::ts)):Ad a (MM fr ts)=alive ((Ad a fr).or (Am a ts)):=by unfold MM;rw[Z0 a (M.EC _),M.LX a b,M.ES]
def fV(m:List Pr)(p:Pr):List Pr:=m.take (aM p.key m)++(if p.gone then [] else [p])++m.drop (if A8 p.key m then aM p.key m+1 else aM p.key m)
def cq(m b:List Pr):List Pr:=b.foldl fV m
theorem Y0(a:A2M)(x:Pr)(l:List Pr):aM a (x::l)=if aO x.key a then aM a l+1 else 0:=by unfold M.aM M.iq;rw[My];split<;>simp
theorem AKY(a:A2M)(x:Pr)(l:List Pr):A8 a (x::l)=if aO x.key a then A8 a l else decide (x.key=a):=by unfold M.A8;rw[Y0];by_cases b:aO x.key a=true<;>simp[b]
def kA(a:A2M)(l:List Pr):List Pr:=l.filter λb=> !decide (b.key=a)
theorem AMB {k:A2M}: ∀ {l:List Pr},Sorted l->l.take (aM k l)++l.drop (if A8 k l then aM k l+1 else aM k l)=kA k l
 | [],_=>by simp[kA]
 |x::l,s=>by
  have c:=List.pairwise_cons.1 s;have d:=AMB (k:=k) c.2;unfold kA at d ⊢;rw[Y0,AKY,AT];by_cases a:aO x.key k=true
  ·have i:x.key≠k:=M.NI a;have j:(!decide (x.key=k))=true:=by simp[i]
   simp only[a,if_true,j,I2,DH];rw[<- d];cases o:A8 k l<;>simp
  ·rw[if_neg a,if_neg a,It,CN];have e:l.filter (λm=> !decide (m.key=k))=l:=by
    refine List.filter_eq_self.2 λf n=>?_
    have g:=c.1 f n;by_cases h:f.key=k
    ·rw[h] at g;exact absurd g a
    ·simp[h]
   by_cases b:x.key=k
   ·rw[if_pos (by simp[b]),if_neg (by simp[b]),e];rfl
   ·rw[if_neg (by simp[b]),if_pos (by simp[b]),e];rfl
theorem sA {m:List Pr}(s:Sorted m)(p:Pr):fV m p=if p.gone then kA p.key m else M.ins p m:=by
 unfold fV;cases a:p.gone with
 |true=>simp only[if_true,AK];exact AMB s
 |false=>
  simp only[CA,if_false];have:=M.nE p m;unfold M.YY at this;exact this
theorem AOF(b c:A2M)(m:List Pr):Ad b (kA c m)=if c=b then none else Ad b m:=by
 unfold kA
 induction m with
 |nil=>split<;>rfl
 |cons x m f=>
  rw[AT,M.BC];by_cases d:x.key=c
  ·rw[if_neg (by simp[d]),f];by_cases a:c=b
   ·rw[if_pos a,if_pos a]
   ·rw[if_neg a,if_neg a,if_neg (λe=>a (d.symm.trans e))]
  ·rw[if_pos (by simp[d]),M.BC,f];by_cases a:x.key=b
   ·rw[if_pos a,if_pos a,if_neg (λe=>d (a.trans e.symm))]
   ·rw[if_neg a,if_neg a]
theorem Kj {m:List Pr}(s:Sorted m)(p:Pr):Sorted (fV m p):=by
 rw[sA s];split
 ·exact s.sublist Gk
 ·exact M.Xa p s
theorem Pd {m:List Pr}(s:Sorted m)(p:Pr)(a:A2M):Ad a (fV m p)=if p.key=a then alive (some p) else Ad a m:=by
 rw[sA s];cases b:p.gone with
 |true=>rw[if_pos rfl,AOF,IP,b];rfl
 |false=>rw[if_neg (by simp),M.YC p a s,IP,b];rfl
theorem ADJ: ∀ {b m:List Pr},Sorted m->Sorted (cq m b)
 | [],_,s=>s
 |p::b,m,s=>ADJ (b:=b) (Kj s p)
theorem Yl(a:A2M): ∀ {b m:List Pr},Sorted m->Ad a (cq m b)=match Ad a b.reverse with|some p=>alive (some p)|none=>Ad a m
 | [],_,_=>rfl
 |p::b,m,s=>by
  show Ad a (cq (fV m p) b)=_;rw[Yl a (Kj s p),RW,M.L6,M.BC];cases Ad a b.reverse with
  |some d=>rfl
  |none=>
   rw[Pd s];by_cases c:p.key=a
   ·rw[if_pos c,if_pos c];rfl
   ·rw[if_neg c,if_neg c];rfl
theorem ABA {fr b:List Pr}{ts:List (List Pr)}(c:bo (fr::ts))(g:BL b):MM (Ay fr b) ts=cq (MM fr ts) b:=by
 have e:=c.sorted fr (by simp);have f:bo (Ay fr b::ts):=⟨λl a=>by
   rcases List.mem_cons.1 a with rfl|a
   ·exact M.Ri e
   ·exact c.sorted l (by simp[a]),λl a=>by
   rcases List.mem_cons.1 a with rfl|a
   ·exact M.Xw (c.aR fr (by simp))
   ·exact c.aR l (by simp[a])⟩
 refine(FM _ _).ext (ADJ (FM _ _)) λd=>?_
 rw[Gs d f,AFX d e g,Yl d (FM _ _),Gs d c];cases Ad d b.reverse with
 |some p=>rfl
 |none=>rfl
theorem bo.gO {ts:List (List Pr)}(b:bo ts):bo ([]::ts):=⟨λl a=>by
  rcases List.mem_cons.1 a with rfl|a
  ·exact List.Pairwise.nil
  ·exact b.sorted l a,λl a=>by
  rcases List.mem_cons.1 a with rfl|a
  ·exact λ_ c=>by cases c
  ·exact b.aR l a⟩
theorem bo.tail {l:List Pr}{ts:List (List Pr)}(b:bo (l::ts)):bo ts:=⟨λx a=>b.sorted x (by simp[a]),λx a=>b.aR x (by simp[a])⟩
theorem AH9 {fr:List Pr}{ts:List (List Pr)}(a:bo (fr::ts)):MM [] (fr::ts)=MM fr ts:=by
 refine(FM _ _).ext (FM _ _) λb=>?_
 rw[Gs b (bo.gO a),Gs b a,M.ES];rfl
theorem AHo(a b:Option Pr):alive (a.or (alive b))=alive (a.or b):=by
 cases a with
 |some p=>rfl
 |none=>
  cases b with
  |none=>rfl
  |some c=>cases d:c.gone<;>simp[IP,d,alive]
def Gh(ts:List (List Pr)):List Pr:=A9 (Ae ts)
theorem ph {ts:List (List Pr)}:Sorted (Gh ts)/\BL (Gh ts):=⟨VK (M.EC _),λx a=>M.YM _ x (List.mem_filter.1 a).1⟩
theorem bo.left {fr:List Pr}{ts:List (List Pr)}(b:bo (fr::ts)):bo [fr,Gh ts]:=⟨λl a=>by
  rcases List.mem_cons.1 a with rfl|a
  ·exact b.sorted _ (by simp)
  ·rw[List.mem_singleton.1 a];exact ph.1,λl a=>by
  rcases List.mem_cons.1 a with rfl|a
  ·exact b.aR _ (by simp)
  ·rw[List.mem_singleton.1 a];exact ph.2⟩
theorem Wp {fr:List Pr}{ts:List (List Pr)}(b:bo (fr::ts)):MM fr [Gh ts]=MM fr ts:=by
 refine(FM _ _).ext (FM _ _) λa=>?_
 rw[Gs a (bo.left b),Gs a b,M.ES];have:Ad a (Gh ts)=alive (Am a ts):=by unfold Gh;rw[Z0 a (M.EC _),M.LX a (bo.tail b)]
 rw[this];have c:Am a ([]:List (List Pr))=none:=rfl;rw[c,Option.or_none,AHo]
theorem ACb {fr:List Pr}{ts:List (List Pr)}(a:bo (fr::ts))(c:Gh ts= []):MM fr []=MM fr ts:=by
 rw[<- Wp a,c];have e:bo [fr]:=⟨λl b=>by rw[List.mem_singleton.1 b];exact a.sorted _ (by simp),λl b=>by rw[List.mem_singleton.1 b];exact a.aR _ (by simp)⟩;have f:bo [fr,[]]:=by have:=bo.left a;rw[c] at this;exact this
 refine(FM _ _).ext (FM _ _) λd=>?_
 rw[Gs d e,Gs d f,M.ES];rfl
theorem sB(l:List Pr):(A9 l).length<=l.length:=(Gk).length_le
theorem UN {c:Type}{b:Nat->List c}{t:Nat}: ∀ {t':Nat},t<=t'->(∀ a,t<=a->a<t'->b a= [])->(List.range t').flatMap b=(List.range t).flatMap b
 |0,d,_=>by
  simp_all
 |t'+1,d,e=>by
  by_cases f:t=t'+1
  ·rw[f]
  ·rw[N4,Ft,UN (t':=t') (by omega) λa g h=>e a g (by omega)]
   grind
theorem sE {c:Type}{a:Nat->List c}{s t:Nat}(e:s<t)(d: ∀b,s<b->a b= []):(List.range t).flatMap a=(List.range s).flatMap a++a s:=by rw[UN (t:=s+1) (by omega) λb f _=>d b (by omega),N4,Ft];simp
theorem AEL {d:Type}{b c:Nat->List d}{t:Nat}(e: ∀a,a<t->b a=c a):(List.range t).flatMap b=(List.range t).flatMap c:=by grind [List.flatMap,List.map_congr_left]
theorem sF {a:Bn}{s:Nat}{l:List Nt}{x:Nt}(c:a.N s=l++ [x])(d: ∀b,s<b->a.N b= [])(e:s<a.aY):Aq a=x:=by unfold Aq Np;rw[sE e d,c,<-A4,SO];rfl
theorem BJ.gM {c:bP}{b:Bn}(d:BJ c b){a:Nat}(e:a=0\/b.aP<=a):b.L a= []:=by simpa using d.log.lJ a e
theorem BJ.gP {c:bP}{b:Bn}(d:BJ c b){a:Nat}(e:a=0\/b.aY<=a):b.N a= []:=by simpa using d.note.lJ a e
theorem BJ.jH {b:bP}{c:Bn}(d:BJ b c){a:Nat}(e:a<=99999999)(f:b (aC nl a)=none):c.L a= []:=by
 by_cases g:a=0
 ·exact d.gM (.inl g)
 ·simpa using d.log.iA a (by omega) e f
theorem BJ.jL {b:bP}{c:Bn}(d:BJ b c){a:Nat}(e:a<=99999999)(f:b (aC nn a)=none):c.N a= []:=by
 by_cases g:a=0
 ·exact d.gP (.inl g)
 ·simpa using d.note.iA a (by omega) e f
theorem AID(t a b:List Pr):Ay t (a++b)=Ay (Ay t a) b:=I3
theorem AJN:BL ([]:List Pr):=λ_ a=>by cases a
theorem AEA:Sorted ([]:List Pr):=List.Pairwise.nil
theorem AHw(a:Bn):Sorted (Ey a)/\BL (Ey a):=⟨M.Ri AEA,M.Xw AJN⟩
theorem Hl.aR {l:List Pr}(t:Hl l):Sorted l/\BL l:=⟨t.inc,zZ t.ok⟩
theorem BJ.gb {f:bP}{a:Bn}(e:BJ f a):bo (Ey a::(Aq a).names.map a.T):=by
 refine⟨λl b=>?_,λl b=>?_⟩<;>rcases List.mem_cons.1 b with rfl|b
 ·exact(AHw a).1
 ·obtain⟨c,d,rfl⟩:=List.mem_map.1 b;exact(e.cS c d).2.aR.1
 ·exact(AHw a).2
 ·obtain⟨c,d,rfl⟩:=List.mem_map.1 b;exact(e.cS c d).2.aR.2
def TV(a:Bn)(s:Nat)(b:List Pr):Bn:= {a with L:=Kv a.L s (a.L s++ [b]),aP:=max a.aP (s+1)}
theorem AFZ {e:bP}{a:Bn}(f:BJ e a){s:Nat}{b:List Pr}(l:(Aq a).aW<=s)(m: ∀c,s<c->a.L c= []):Ig (TV a s b)=Ig a++ [b]:=by
 have d:s<max a.aP (s+1):=by omega
 have g:Ig a=(List.range s).flatMap (λc=>if c<(Aq a).aW then [] else a.L c)++a.L s:=by
  have h:Ig a=(List.range (max a.aP (s+1))).flatMap λc=>if c<(Aq a).aW then [] else a.L c:=by
   refine(UN (by omega) λc i n=>?_).symm;split
   ·rfl
   ·exact f.gM (.inr i)
  rw[h,sE (s:=s) d (λc j=>by
   simp_all),if_neg (by omega)]
 have k:Ig (TV a s b)=(List.range s).flatMap (λc=>if c<(Aq a).aW then [] else Kv a.L s (a.L s++ [b]) c)++Kv a.L s (a.L s++ [b]) s:=by
  show(List.range (max a.aP (s+1))).flatMap (λc=>if c<(Aq a).aW then [] else Kv a.L s (a.L s++ [b]) c)=_;rw[sE (s:=s) d (λc j=>by
   grind [GQ]),if_neg (by omega)]
 rw[g,k,EQ,A4];congr 1
 grind [AEL,GQ]
theorem APd {e:bP}{a:Bn}(f:BJ e a){s:Nat}{b:List Pr}(h:(Aq a).aW<=s)(i: ∀c,s<c->a.L c= [])(g:Yw b):Ey (TV a s b)=Ay (Ey a) b/\cH (TV a s b)=cq (cH a) b:=by
 have d:Ey (TV a s b)=Ay (Ey a) b:=by grind [Ey,AFZ,List.flatten_append,AID]
 refine⟨d,?_⟩;have:=ABA f.gb (zZ g.ok);unfold cH;rw[d];exact this
theorem AQ5 {g G:bP}{d:Bn}(f:BJ g d){s:Nat}{b:List Pr}(j:1<=s/\s+1<=99999999)(k:Yw b)(l: ∀a,1<=a->a<=99999999->a≠s->N8 (g (aC nl a)) (G (aC nl a)))(m: ∀a,1<=a->a<=99999999->N8 (g (aC nn a)) (G (aC nn a)))
  (n: ∀a,N8 (g (aX a)) (G (aX a))) (o: ∀x,(∀ a,x≠aC nl a)->G x≠none->g x≠none) (p: ∃x,G (aC nl s)=some (x,bq)/\Ni (bl x) ((d.L s++ [b]).map (BZ s))):BJ G (TV d s b):=by
 have q: ∀a∈(Aq d).names,G (aX a)=some (AX (Jy (d.T a)),bq)/\Hl (d.T a):=λa r=>
  let ⟨t,i⟩:=f.cS a r
  ⟨Vk (n a) i t,i⟩
 refine⟨?_,?_,q,λa c e=>?_,f.dM,λx u hd=>?_,by have:=f.cz;refine⟨?_,?_,this.2.2.1,this.2.2.2⟩<;>simp only[TV]<;>omega⟩
 ·have:=f.log.put (G:=G) (fq:=max d.aP (s+1)) (s:=s) (v:=(d.L s++ [b]).map (BZ s)) ⟨j.1,by omega⟩ (by omega) (λa w y z=>l a w y z) (.inr p) (by omega);have h:(Kv (λa=>(d.L a).map (BZ a)) s ((d.L s++ [b]).map (BZ s)))=λa=>((TV d s b).L a).map (BZ a):=by
   funext a;show _=(Kv d.L s (d.L s++ [b]) a).map (BZ a)
   grind [EQ,GQ]
  rw[h] at this;exact this
 ·exact f.note.aS f.cz.2.2.1 m
 ·by_cases h:a=s
  ·subst h;have e:c∈Kv d.L a (d.L a++ [b]) a:=e;rw[EQ] at e;rcases List.mem_append.1 e with e|e
   ·exact f.fX a c e
   ·rw[List.mem_singleton.1 e];exact k
  ·have e:c∈Kv d.L s (d.L s++ [b]) a:=e;rw[GQ h] at e;exact f.fX a c e
 ·exact f.dp x (o x (λa h=>by grind [RN]) u) hd
def addN(a:Bn)(s:Nat)(x:Nt)(T:Nat->List Pr):Bn:= {a with N:=Kv a.N s [x],T:=T,aY:=max a.aY (s+1)}
theorem AFt {a:Bn}{s:Nat}{x:Nt}{T:Nat->List Pr}(c: ∀b,s<b->a.N b= []):Aq (addN a s x T)=x:=by
 refine sF (s:=s) (l:= []) ?_ (λb d=>?_) ?_
 ·show Kv a.N s [x] s=_;rw[EQ];rfl
 ·show Kv a.N s [x] b= []
  grind [GQ]
 ·show s<max a.aY (s+1);omega
theorem ALj {g G:bP}{c:Bn}(f:BJ g c){s:Nat}{x:Nt}{T:Nat->List Pr}(i:1<=s/\s+1<=99999999)(j:ib x)(k: ∀a,s<a->c.N a= [])(l: ∀a,1<=a->a<=99999999->N8 (g (aC nl a)) (G (aC nl a)))(m: ∀a,1<=a->a<=99999999->a≠s->N8 (g (aC nn a)) (G (aC nn a)))
  (n: ∀a∈x.names,G (aX a)=some (AX (Jy (T a)),bq)/\Hl (T a)) (o: ∀x,(∀ a,x≠aC nn a)->(∀ a,x≠aX a)->G x≠none->g x≠none) (p: ∃b,G (aC nn s)=some (b,bq)/\Ni (bl b) [EK x]):BJ G (addN c s x T):=by
 refine⟨f.log.aS f.cz.1 l,?_,λa h=>?_,f.fX,λa b d=>?_,λb d hd=>?_,by have:=f.cz;refine⟨this.1,this.2.1,?_,?_⟩<;>simp only[addN]<;>omega⟩
 ·have:=f.note.put (G:=G) (fq:=max c.aY (s+1)) (s:=s) (v:= [EK x]) ⟨i.1,by omega⟩ (by omega) (λa q r t=>m a q r t) (.inr p) (by omega);have e:(Kv (λa=>(c.N a).map EK) s [EK x])=λa=>((addN c s x T).N a).map EK:=by
   funext a;show _=(Kv c.N s [x] a).map EK
   grind [EQ,GQ]
  rw[e] at this;exact this
 ·rw[AFt k] at h;exact n a h
 ·have d:b∈Kv c.N s [x] a:=d;by_cases e:a=s
  ·rw[e,EQ] at d;rw[List.mem_singleton.1 d];exact j
  ·rw[GQ e] at d;exact f.dM a b d
 ·by_cases e: ∃a,b=aX a
  ·exact e
  ·exact f.dp b (o b (λa e=>by grind [Tx]) (λa u=>e ⟨a,u⟩) d) hd
theorem BJ.gf {e G:bP}{c:Bn}(f:BJ e c)(d: ∀x,(∀ a,a∉(Aq c).names->x≠aX a)->G x=e x):BJ G c:=by
 refine f.same (λa _ _=> .inl (d _ λb _=>MQ a b)) (λa _ _=> .inl (d _ λb _=>Qt a b)) (λa g=> .inl (d _ λb h i=>h (by rw[<- Jl i];exact g))) λx j=>?_
 grind
open Classical in
noncomputable def Nz (b:Bn) (G:bP):Bn:= {b with L:=λa=>if a<=99999999/\G (aC nl a)=none then [] else b.L a}
open Classical in
noncomputable def pw (b:Bn) (G:bP):Bn:= {b with N:=λa=>if a<=99999999/\G (aC nn a)=none then [] else b.N a}
theorem AKF {b:Bn}{f G:bP}(g:BJ f b)(h: ∀a,a<=99999999->G (aC nl a)=f (aC nl a)\/(G (aC nl a)=none/\a<(Aq b).aW)):Ig (Nz b G)=Ig b:=by
 unfold Ig;refine AEL λa i=>?_
 show(if a<(Aq b).aW then [] else if a<=99999999/\G (aC nl a)=none then [] else b.L a)=_;by_cases c:a<(Aq b).aW
 ·rw[if_pos c,if_pos c]
 ·rw[if_neg c,if_neg c];split
  ·rename_i d;rcases h a d.1 with e|e
   ·rw[e] at d;exact(g.jH d.1 d.2).symm
   ·exact absurd e.2 c
  ·rfl
theorem APg {f G:bP}{d:Bn}(c:BJ f d)(m: ∀a,a<=99999999->G (aC nl a)=f (aC nl a)\/(G (aC nl a)=none/\a<(Aq d).aW))(j: ∀x,(∀ a,a<=99999999->x≠aC nl a)->G x=f x):BJ G (Nz d G):=by
 refine⟨c.log.drop (λa k=>?_) (λa g=>?_),c.note.aS c.cz.2.2.1 λa n k=> .inl (j _ λh _ i=>Wj h a i.symm),λa g=>?_,λa b e=>?_,c.dM,λx o hd=>?_,c.cz⟩
 ·show _\/(G (aC nl a)=none/\((if a<=99999999/\G (aC nl a)=none then [] else d.L a).map (BZ a))= []);rcases m a k with l|l
  ·by_cases p:G (aC nl a)=none
   ·simp_all
   ·left;refine⟨l,?_⟩;show((if a<=99999999/\G (aC nl a)=none then [] else d.L a).map (BZ a))=_
    simp_all
  simp_all
 ·show((if a<=99999999/\G (aC nl a)=none then [] else d.L a).map (BZ a))= [];split
  ·rfl
  ·rw[c.gM g];rfl
 ·rw[j _ λh _ i=>MQ h a i.symm];exact c.cS a g
 ·have e:b∈(if a<=99999999/\G (aC nl a)=none then [] else d.L a):=e;split at e
  ·cases e
  ·exact c.fX a b e
 ·exact c.dp x (by grind) hd
theorem ADy {a:Bn}{G:bP}{s:Nat}{x:Nt}(d:a.N s= [x])(e: ∀b,s<b->a.N b= [])(c:s<a.aY)(f:G (aC nn s)≠none):Aq (pw a G)=x:=by
 refine sF (s:=s) (l:= []) ?_ (λb g=>?_) c
 ·show(if s<=99999999/\G (aC nn s)=none then [] else a.N s)=_
  simp_all
 ·show(if b<=99999999/\G (aC nn b)=none then [] else a.N b)= []
  simp_all
theorem AP2 {g G:bP}{c:Bn}(d:BJ g c){s:Nat}{x:Nt}(k:c.N s= [x])(f: ∀a,s<a->c.N a= [])(m:s<c.aY)(q:G (aC nn s)≠none)(r: ∀a,a<=99999999->G (aC nn a)=g (aC nn a)\/G (aC nn a)=none)(n: ∀x,(∀ a,a<=99999999->x≠aC nn a)->G x=g x):BJ G (pw c G):=by
 have t:Aq (pw c G)=Aq c:=by rw[ADy k f m q,sF (l:= []) k f m]
 refine⟨d.log.aS d.cz.1 λa v o=> .inl (n _ λh _ i=>Wj a h i),d.note.drop (λa o=>?_) (λa f=>?_),λa p=>?_,d.fX,λa b e=>?_,λx w hd=>?_,d.cz⟩
 ·rcases r a o with j|j
  ·by_cases u:G (aC nn a)=none
   ·right;refine⟨u,?_⟩;show((if a<=99999999/\G (aC nn a)=none then [] else c.N a).map EK)= []
    simp_all
   ·left;refine⟨j,?_⟩;show((if a<=99999999/\G (aC nn a)=none then [] else c.N a).map EK)=_
    simp_all
  ·right;refine⟨j,?_⟩;show((if a<=99999999/\G (aC nn a)=none then [] else c.N a).map EK)= []
   simp_all
 ·show((if a<=99999999/\G (aC nn a)=none then [] else c.N a).map EK)= [];split
  ·rfl
  ·rw[d.gP f];rfl
 ·rw[t] at p;rw[n _ λh _ i=>Qt h a i.symm];exact d.cS a p
 ·have e:b∈(if a<=99999999/\G (aC nn a)=none then [] else c.N a):=e;split at e
  ·cases e
  ·exact d.dM a b e
 ·exact d.dp x (by grind) hd
structure nc (D:Bn) (s:Nat) (x:Nt) (T:Nat->List Pr) (D':Bn):Prop where
 L:D'.L=D.L
 aP:D'.aP=D.aP
 aY:D'.aY<=max D.aY (s+1)
 last:(Aq D'=Aq D/\D'.T=D.T)\/(Aq D'=x/\D'.T=T)
theorem AOt {a:Bn}{s:Nat}{x:Nt}{T:Nat->List Pr}(c: ∀b,s<b->a.N b= []):nc a s x T (addN a s x T):=⟨rfl,rfl,A0 _,.inr ⟨AFt c,rfl⟩⟩
theorem APp {a:Bn}{s:Nat}{x:Nt}{T:Nat->List Pr}:nc a s x T a:=⟨rfl,rfl,by omega,.inl ⟨rfl,rfl⟩⟩
theorem ANx {x:Nt}(a:ib x)(b:(EK x).length<=1048576):Ni (bl (AX (Ca (EK x)))) [EK x]:=by rw[EJ];have:=R4 (rs:= [EK x]) (λc d=>by simp_all) (t:= []) Uf;simpa using this
theorem ANi {b g:bP}{c:Bn}{s:Nat}{x:Nt}{T:Nat->List Pr}(d:BJ b c)(k:1<=s/\s+1<=99999999)(h:ib x)(l:(EK x).length<=1048576)(m: ∀a,s<=a->a<=99999999->b (aC nn a)=none)
  (q: ∀a∈x.names,b (aX a)=some (AX (Jy (T a)),bq)/\Hl (T a)) (f: ∀e,g e=if e=aC nn s then some (AX (Ca (EK x)),bq) else b e):BJ g (addN c s x T)/\ ∀a,s<a->c.N a= []:=by
 have i: ∀a,s<a->c.N a= []:=λa n=>by
  by_cases j:a<=99999999
  ·exact d.jL j (m a (by omega) j)
  ·exact d.gP (.inr (by have:=d.cz;omega))
 refine⟨ALj d k h i (λa _ _=> .inl ?_) (λa _ _ o=> .inl ?_) (λa n=>?_) (λe r _ t=>?_) ⟨_,by rw[f,if_pos rfl],ANx h l⟩,i⟩
 ·rw[f,if_neg (Wj a s)]
 ·rw[f,if_neg λp=>o (Iz p)]
 ·grind
 simp_all
theorem AMs {g F1 G:bP}{d:Bn}{s:Nat}{x:Nt}{T:Nat->List Pr}(b:BJ g d)(B:1<=s/\s+1<=99999999)(N:ib x)(V:(EK x).length<=1048576)(C: ∀a,s<=a->a<=99999999->g (aC nn a)=none)
  (y: ∀a∈x.names,g (aX a)=some (AX (Jy (T a)),bq)/\Hl (T a)) (n: ∀e,F1 e=if e=aC nn s then some (bq,AX (Ca (EK x))) else g e) (c:Mm F1 G): ∃i,BJ G i/\nc d s x T i:=by
 have D: ∀a,s<a->d.N a= []:=λa o=>by
  by_cases E:a<=99999999
  ·exact b.jL E (C a (by omega) E)
  ·exact b.gP (.inr (by have:=b.cz;omega))
 have W:d.N s= []:=b.jL (by omega) (C s (A0 _) (by omega));have F: ∀a,1<=a->a<=99999999->N8 (g (aC nl a)) (G (aC nl a)):=λa j k=>by
  have f:F1 (aC nl a)=g (aC nl a):=by rw[n,if_neg (Wj a s)]
  have:=c.bZ (x:=aC nl a) λp q=>(b.log.has a p j k (f▸q)).1
  rwa [f] at this
 have H: ∀a,1<=a->a<=99999999->a≠s->N8 (g (aC nn a)) (G (aC nn a)):=λa j k z=>by
  have f:F1 (aC nn a)=g (aC nn a):=by rw[n,if_neg λf=>z (Iz f)]
  have:=c.bZ (x:=aC nn a) λp q=>(b.note.has a p j k (f▸q)).1
  rwa [f] at this
 have O: ∀a l,g (aX a)=some (AX (Jy l),bq)->Hl l->G (aX a)=some (AX (Jy l),bq):=λa l A t=>by
  have f:F1 (aX a)=g (aX a):=by grind
  have:=c.bZ (x:=aX a) λp q=>by grind
  rw[f] at this;exact Vk this t A
 have I: ∀e,(∀ a,e≠aC nn a)->G e≠none->g e≠none:=λe m P A=>P (by
  have:=c e;rw[n,if_neg (m s),A] at this;exact this)
 have J:=c (aC nn s);rw[n,if_pos rfl] at J;obtain⟨Q,u⟩:=J;have h:=zM (rs:= []) (r:=EK x) (λr X=>by simp_all) Q;have R:AX (aI [])=bq:=rfl;rw[R] at h;have K:(G (aC nn s)=none\/ ∃e,G (aC nn s)=some (e,bq)/\Ni (bl e) [])-> ∃i,BJ G i/\nc d s x T i:=λS=>by
  have U:Np {d with aY:=max d.aY (s+1)}=Np d:=UN (by show d.aY<=max d.aY (s+1);omega) λa w _=>b.gP (.inr w)
  have L:Aq {d with aY:=max d.aY (s+1)}=Aq d:=by unfold Aq;rw[U]
  refine⟨{d with aY:=max d.aY (s+1)},⟨b.log.aS b.cz.1 F,?_,λa M=>?_,b.fX,b.dM,λe m hd=>?_,by have:=b.cz;refine⟨this.1,this.2.1,?_,?_⟩<;>simp only[]<;>omega⟩,⟨rfl,rfl,A0 _,.inl ⟨L,rfl⟩⟩⟩
  ·have:=b.note.put (G:=G) (fq:=max d.aY (s+1)) (s:=s) (v:= []) ⟨B.1,by omega⟩ (by omega) (λa j k z=>H a j k z) (S.imp (λb=>⟨b,rfl⟩) λb=>b) (by omega);have f:(Kv (λa=>(d.N a).map EK) s [])=λa=>(d.N a).map EK:=by
    funext a
    grind [EQ,GQ]
   rw[f] at this;exact this
  ·rw[L] at M;obtain⟨w,Y⟩:=b.cS a M
   grind
  ·exact b.dp e (I e (λa f=>by grind [Tx]) m) hd
 split at u
 ·exact K (.inl u)
 ·rcases h with h|h
  ·exact K (.inr ⟨_,u,h⟩)
  ·exact⟨_,ALj b B N D F H (λa o=>⟨O a _ (y a o).1 (y a o).2,(y a o).2⟩) (λe w _ m=>I e w m) ⟨_,u,h⟩,AOt D⟩
theorem AJJ {e G:bP}{b:Bn}{s:Nat}{x:Nt}{T:Nat->List Pr}(k:BJ e (addN b s x T))(o: ∀a,s<a->b.N a= [])(l:e (aC nn s)≠none)(m: ∀d,G d=e d\/(G d=none/\ ∃a,a<s/\a<=99999999/\d=aC nn a)): ∃c,BJ G c/\Aq c=x/\c.T=T/\c.L=b.L/\c.aP=b.aP/\c.aY=max b.aY (s+1):=by
 have f:(addN b s x T).N s= [x]:=by show Kv b.N s [x] s=_;rw[EQ]
 have g: ∀a,s<a->(addN b s x T).N a= []:=λa p=>by show Kv b.N s [x] a=_;grind [GQ]
 have h:s<(addN b s x T).aY:=by show s<max b.aY (s+1);omega
 have i:G (aC nn s)≠none:=by
  rcases m (aC nn s) with j|⟨_,a,j,_,n⟩
  ·rw[j];exact l
  ·have:=Iz n;omega
 refine⟨pw (addN b s x T) G,AP2 k f g h i (λa q=>?_) λd r=>?_,ADy f g h i,rfl,rfl,rfl,rfl⟩
 ·grind
 grind
end Go.Lf.G
namespace Go.Lf
open Go
variable {α : Type} {E : cJ α} {A : al} {P : Q1}
def ia(a:Array J0):Nat->List J0->Array J0
 |_,[]=>a
 |o,v::b=>ia (a.setIfInBounds o v) (o+1) b
theorem Ii: ∀(c:List J0) (a:Array J0) (b:Nat),(ia a b c).size=a.size
 | [],_,_=>rfl
 |v::d,a,b=>by unfold ia;rw[Ii d];simp
theorem Og: ∀(c:List J0) (b:Array J0) (a:Nat),a+c.length<=b.size->(ia b a c).toList=b.toList.take a++c++b.toList.drop (a+c.length)
 | [],b,a,e=>by simp[ia]
 |v::d,b,a,e=>by
  have f:b.size=b.toList.length:=by simp
  simp only[A6] at e;unfold ia;rw[Og d _ (a+1) (by simp;omega)];rw[F0,AD,List.take_set_of_le (A0 _),HT (by omega),Zs (by omega)];simp only[CD,A4,List.singleton_append,A6,DH,CN];rw[show a+1+d.length=a+(d.length+1) by omega]
theorem dd {A:al}: ∀(h:List J0) (c:Nat) {d:aa} {n b:Nat} {f:Array J0} {T:Q7},d[b]? =some (.cells f T (0,0))-> ∃e,(A.at d n).setCells b c h=A.at e n/\e[b]? =some (.cells (ia f c h) T (0,0))/\Mod (· =b) d e/\e.size=d.size
 | [],c,d,n,b,f,T,g=>⟨d,rfl,g,Mod.refl,rfl⟩
 |v::i,c,d,n,b,f,T,g=>by
  have j:(dk d ⟨b,c,none⟩ v)[b]? =some (.cells (f.setIfInBounds c v) T (0,0)):=vR g;obtain⟨e,k,l,m,o⟩:=dd (A:=A) i (c+1) (n:=n) j;refine⟨e,?_,l,(Mod.set (S:=(· =b)) (a:=⟨b,c,none⟩) rfl).trans m,by rw[o,qQ]⟩;show((A.at d n).setCell ⟨b,c,none⟩ v).setCells b (c+1) i=_;rw[<- k];rfl
theorem APh {t h j T:Q7}{i:TypeInfo}{f:J0}(n:P.underlying t=some (.slice T))(o:P.underlying h=some (.int J9))(q:P.info? T=some i)(r:i.zero=some f)(D:i.size=1)(s:f.cells= #[f]){a:aa}{p:Q2}{cap b:Nat}{K:Sl->aa->Prop}
  (u:0<b) (F:cap<b) (w:b*i.bytes<=140737488355328) (k:b<=maxLen) (G:0<i.bytes)
  (x: ∀e c l,e[a.size]? =some (.cells l T (0,0))->l.size=c->b<=c->c<=maxLen->Ext a e->e.size=a.size+1->K ⟨some ⟨a.size,0,none⟩,b,c⟩ e):
  BG A P (Builtin.append_ #[t,h] j #[.slice p 0 cap,.int J9 (b:Int)]) a λv e=> ∃g:Sl,v= .slice g.p g.len g.cap/\K g e:=by
 intro d;have y:(Builtin.firstCells i.size 0 (.slice p 0 cap)).run P (A.at a d).drew= .ok ([]:List J0).toArray (A.at a d).drew:=by cases p<;>simp[Builtin.firstCells,loadCells,loadCellsFrom]
 have z:Builtin.nextslicecap (0+b) cap*i.bytes<=281474976710656:=by rw[AI];exact growslice_fits (by omega) w
 have m:=Lib.run_append_grow_zeros (A.at a d) t h j T i f J9 J9 n o q r p 0 cap [] y b u (by omega) (by omega) (by simp only[maxLen] at k;omega) (by omega) z;simp only[AI] at m;have B:=grownCap_ge (A.at a d) b cap T;have C:=grownCap_le_maxLen (A.at a d) b cap T k;generalize grownCap (A.at a d) b cap T=c at*
 refine⟨_,_,d+1,m,⟨some ⟨a.size,0,none⟩,b,c⟩,rfl,x _ c _ (Pl ..) ?_ B C (Mod.push a _) (by show(a.push _).size=a.size+1;simp)⟩;simp[Builtin.zeroCells,s];omega
theorem oO {t k T:Q7}(q:P.underlying t=some (.slice T))(r:(P.info? T).map (·.size)=some 1){d:aa}{b e g l h m:Nat}{a:Q6}{i:Array J0}{vs:List J0}{K:Int->aa->Prop}
  (j:d[b]? =some (.cells i T (0,0))) (s:vs.length=min h g) (u: ∀f v,vs[f]? =some v->ah d (a.add f)=some v) (G:e+vs.length<=i.size) (w: ∀v∈vs,MS v=true)
  (x: ∀c,c[b]? =some (.cells (ia i e vs) T (0,0))->Mod (· =b) d c->c.size=d.size->K (vs.length:Int) c):
  BG A P (Builtin.copy_ #[t,t] k #[.slice (some ⟨b,e,none⟩) g l,.slice (some a) h m]) d λv c=> ∃o:Int,v= .int J9 o/\K o c:=by
 intro n;have p:=run_copy_cells (P:=P) (A.at d n) t t k T b e g l a h m vs q r s u
  (λf y=>by
   show(ah d ⟨b,e+f,none⟩).isSome=true;rw[IJ j,FA (by omega)];rfl)
  (λf y=>Pe j) (λv z=>Po (w v z))
 obtain⟨c,B,C,D,F⟩:=dd (A:=A) vs e (n:=n) j;rw[B] at p;exact⟨_,c,n,p,_,rfl,x c C D F⟩
def oP(A:al)(P:Q1)(t b:Q7)(h fr:Q8)(s:Sl)(i:Int)(v:Sl)(e:aa)(d:A2L):Prop:=
 aG ((0:Int)<=i/\i<=((s.len:Nat):Int))<|
 af (((v.len:Nat):Int)==(0:Int)) (
  d (.slice s.p s.len s.cap) e) (
  af (i==((s.len:Nat):Int)) (
   BG A P (Builtin.append_ #[t,t] t #[.slice s.p s.len s.cap,.slice v.p v.len v.cap]) e λv1 j=> ∃c:Sl,v1= .slice c.p c.len c.cap/\(
   d (.slice c.p c.len c.cap) j)) (
   af (decide ((J8 J9 (((s.len:Nat):Int)+((v.len:Nat):Int)))>((s.cap:Nat):Int))) (
    aG ((0:Int)<=i/\i<=((s.cap:Nat):Int))<|
    BG A P (Builtin.append_ #[t,b] t #[.slice (A7 s.p s.cap 0 1) (i.toNat-0) (s.cap-0),.int J9 (J8 J9 ((J8 J9 (((s.len:Nat):Int)+((v.len:Nat):Int)))-i))]) e λv2 k=> ∃a:Sl,v2= .slice a.p a.len a.cap/\(
    aG ((0:Int)<=i/\i<=((a.len:Nat):Int))<|
    BG A P (Builtin.copy_ #[t,t] b #[.slice (A7 a.p a.cap i.toNat 1) (a.len-i.toNat) (a.cap-i.toNat),.slice v.p v.len v.cap]) k λl m=> ∃n:Int,l= .int J9 n/\(
    aG ((0:Int)<=(J8 J9 (i+((v.len:Nat):Int)))/\(J8 J9 (i+((v.len:Nat):Int)))<=((a.len:Nat):Int))<|
    aG ((0:Int)<=i/\i<=((s.len:Nat):Int))<|
    BG A P (Builtin.copy_ #[t,t] b #[.slice (A7 a.p a.cap ((J8 J9 (i+((v.len:Nat):Int))).toNat) 1) (a.len-((J8 J9 (i+((v.len:Nat):Int))).toNat)) (a.cap-((J8 J9 (i+((v.len:Nat):Int))).toNat)),.slice (A7 s.p s.cap i.toNat 1) (s.len-i.toNat) (s.cap-i.toNat)]) m λo p=> ∃q:Int,o= .int J9 q/\(
    d (.slice a.p a.len a.cap) p)))) (
    aG ((0:Int)<=(J8 J9 (((s.len:Nat):Int)+((v.len:Nat):Int)))/\(J8 J9 (((s.len:Nat):Int)+((v.len:Nat):Int)))<=((s.cap:Nat):Int))<|
    aG ((0:Int)<=(J8 J9 (i+((v.len:Nat):Int)))/\(J8 J9 (i+((v.len:Nat):Int)))<=(((((J8 J9 (((s.len:Nat):Int)+((v.len:Nat):Int))).toNat)-0):Nat):Int))<|
    nY A P h #[.slice v.p v.len v.cap,.slice (A7 (A7 s.p s.cap 0 1) (s.cap-0) ((J8 J9 (i+((v.len:Nat):Int))).toNat) 1) ((((J8 J9 (((s.len:Nat):Int)+((v.len:Nat):Int))).toNat)-0)-((J8 J9 (i+((v.len:Nat):Int))).toNat)) ((s.cap-0)-((J8 J9 (i+((v.len:Nat):Int))).toNat))] e λr f=> ∃g:Bool,r= .bool g/\(
    af (!g) (
     aG ((0:Int)<=(J8 J9 (i+((v.len:Nat):Int)))/\(J8 J9 (i+((v.len:Nat):Int)))<=(((((J8 J9 (((s.len:Nat):Int)+((v.len:Nat):Int))).toNat)-0):Nat):Int))<|
     aG ((0:Int)<=i/\i<=(((((J8 J9 (((s.len:Nat):Int)+((v.len:Nat):Int))).toNat)-0):Nat):Int))<|
     BG A P (Builtin.copy_ #[t,t] b #[.slice (A7 (A7 s.p s.cap 0 1) (s.cap-0) ((J8 J9 (i+((v.len:Nat):Int))).toNat) 1) ((((J8 J9 (((s.len:Nat):Int)+((v.len:Nat):Int))).toNat)-0)-((J8 J9 (i+((v.len:Nat):Int))).toNat)) ((s.cap-0)-((J8 J9 (i+((v.len:Nat):Int))).toNat)),.slice (A7 (A7 s.p s.cap 0 1) (s.cap-0) i.toNat 1) ((((J8 J9 (((s.len:Nat):Int)+((v.len:Nat):Int))).toNat)-0)-i.toNat) ((s.cap-0)-i.toNat)]) f λu w=> ∃x:Int,u= .int J9 x/\(
     aG ((0:Int)<=i/\i<=(((((J8 J9 (((s.len:Nat):Int)+((v.len:Nat):Int))).toNat)-0):Nat):Int))<|
     BG A P (Builtin.copy_ #[t,t] b #[.slice (A7 (A7 s.p s.cap 0 1) (s.cap-0) i.toNat 1) ((((J8 J9 (((s.len:Nat):Int)+((v.len:Nat):Int))).toNat)-0)-i.toNat) ((s.cap-0)-i.toNat),.slice v.p v.len v.cap]) w λy z=> ∃B:Int,y= .int J9 B/\(
     d (.slice (A7 s.p s.cap 0 1) (((J8 J9 (((s.len:Nat):Int)+((v.len:Nat):Int))).toNat)-0) (s.cap-0)) z))) (
     aG ((0:Int)<=((s.len:Nat):Int)/\((s.len:Nat):Int)<=(((((J8 J9 (((s.len:Nat):Int)+((v.len:Nat):Int))).toNat)-0):Nat):Int))<|
     BG A P (Builtin.copy_ #[t,t] b #[.slice (A7 (A7 s.p s.cap 0 1) (s.cap-0) (((s.len:Nat):Int).toNat) 1) ((((J8 J9 (((s.len:Nat):Int)+((v.len:Nat):Int))).toNat)-0)-(((s.len:Nat):Int).toNat)) ((s.cap-0)-(((s.len:Nat):Int).toNat)),.slice v.p v.len v.cap]) f λC D=> ∃F:Int,C= .int J9 F/\(
     aG ((0:Int)<=i/\i<=(((((J8 J9 (((s.len:Nat):Int)+((v.len:Nat):Int))).toNat)-0):Nat):Int))<|
     AA A P fr #[.slice (A7 (A7 s.p s.cap 0 1) (s.cap-0) i.toNat 1) ((((J8 J9 (((s.len:Nat):Int)+((v.len:Nat):Int))).toNat)-0)-i.toNat) ((s.cap-0)-i.toNat),.int J9 ((v.len:Nat):Int)] D λG H=>G= .tuple #[]/\(
     d (.slice (A7 s.p s.cap 0 1) (((J8 J9 (((s.len:Nat):Int)+((v.len:Nat):Int))).toNat)-0) (s.cap-0)) H)))))))
theorem XH {e:aa}{b:Nat}{f:Array J0}{T:Q7}{fr:Nat×Nat}(h:e[b]? =some (.cells f T fr)){a:List J0}{g:Nat}(i:(f.toList.drop g).take a.length=a): ∀c v,a[c]? =some v->ah e ((⟨b,g,none⟩:Q6).add c)=some v:=λc v d=>by
 rw[Bf,IJ h];have j:=(List.getElem?_eq_some_iff.1 d).1;rw[<- i,Fc,if_pos j,C5] at d;simpa using d
theorem xH {t ae T ag:Q7}{ai fr:Q8}{G:J0}{H:Nat}(aj:QZ P t T 1 H=true)(k:E.w=1)(aD:P.underlying ae=some (.int J9))(I:(P.info? T).bind (·.zero)=some G)(aE:G.cells= #[G])(hB:0<H)
  (aF: ∀args J,(callFunc ai args).run P J=((Extern.SlicesOverlaps.overlaps #[t,t] #[ag] args).run P J).andThen λv aG=> .ok (.value v) aG)
  {a:aa} {s:Sl} {l:List α} {x:α} {e:J0} {f:Nat} (S:Own E T a s l) (K:E.enc x= [e]) (o:a[f]? =some (.cells #[e] T (0,0))) (aH:s.ag≠some f) (ak:l.length+1<=maxLen) (al:(l.length+1)*H<=140737488355328) {am:A2L}
  (U: ∀m r,Own E T r m (x::l)->Mod (λb=>s.ag=some b) a r->(∀ b,m.ag=some b->s.ag=some b\/a.size<=b)->am (.slice m.p m.len m.cap) r):
  oP A P t ae ai fr s (0:Int) ⟨some ⟨f,0,none⟩,1,1⟩ a am:=by
 unfold oP;have V:=S.len;have bj:maxLen<=9223372036854775807:=by simp[maxLen]
 obtain⟨q,i,z,w,an,W,aI,bk⟩:=qR aj;have aJ:z=G:=by rw[w] at I;simp only[Pa] at I;rw[an] at I;exact BE I
 subst aJ;have ao:MS e=true:=E.one x e (by rw[K];simp);have bm:=Aj o;refine⟨⟨Hb _,by omega⟩,af.no rfl ?_⟩;refine af.intro (λy=>?_) (λy=>?_)
 ·have y:l= []:=by
   have:(0:Int)=((s.len:Nat):Int):=by simpa using y
   exact DA (by omega)
  subst y;have aK:View E a ⟨some ⟨f,0,none⟩,1,1⟩ [x]:=⟨rfl,A0 _,λj ap n=>⟨_,rfl,λaL u L=>by
   have aM:j=0:=by have:=(List.getElem?_eq_some_iff.1 n).1;simpa using this
   subst aM;simp only[HC,BT] at n;subst n;rw[K] at L;have aN:aL=0:=by have:=(List.getElem?_eq_some_iff.1 L).1;simpa using this
   subst aN;simp only[HC,BT] at L;subst L;rw[HX,Bf,Bf];exact AL o rfl⟩⟩
  have aO:QZ P t T E.w H=true:=by rw[k];exact aj
  exact GJ (s:=s) (src:=⟨some ⟨f,0,none⟩,1,1⟩) aO S aK (by simpa using al) (by simpa using ak) λm r aP aQ aR _=>U m r aP aQ aR
 ·have aS:0<l.length:=by
   have: ¬(0:Int)=((s.len:Nat):Int):=by simpa using y
   omega
  rcases S.row with⟨rfl,rfl⟩|⟨g,M,B,C,bn,aT,N,X⟩
  ·simp at aS
  ·rw[k,By] at N X;have d:(l.flatMap E.enc).length=l.length:=by rw[KM,k,By]
   have aq: ∀v∈l.flatMap E.enc,MS v=true:=λv D=>by
    obtain⟨ap,_,aV⟩:=List.mem_flatMap.1 D;exact E.one ap v aV
   have ar:g≠f:=λh=>aH (by rw[Sl.ag,B,h];rfl)
   have bo:=Aj C;have aW:J8 J9 (((s.len:Nat):Int)+(((1:Nat)):Int))=((l.length+1:Nat):Int):=by rw[V];exact Ab (by omega)
   have aX:J8 J9 ((0:Int)+(((1:Nat)):Int))=((1:Nat):Int):=by decide
   have aY:J8 J9 (((l.length+1:Nat):Int)-(0:Int))=((l.length+1:Nat):Int):=by rw[Int.sub_zero];exact ED (by omega)
   have O:(P.info? T).map (·.size)=some 1:=by rw[w];simp[W]
   dsimp only;rw[aW,aX,aY];have aZ:((1:Nat):Int).toNat=1:=rfl;have a0:(0:Int).toNat=0:=rfl;have a1:((l.length+1:Nat):Int).toNat=l.length+1:=by omega
   rw[aZ,a0,a1];have au: ∀j v,[e][j]? =some v->ah a ((⟨f,0,none⟩:Q6).add j)=some v:=XH o (by simp);refine af.intro (λY=>?_) (λY=>?_)
   ·have Z:s.cap<l.length+1:=by
     have:((s.cap:Nat):Int)<((l.length+1:Nat):Int):=by simpa using Y
     omega
    refine⟨⟨Hb _,by omega⟩,?_⟩;refine APh (p:=A7 s.p s.cap 0 1) (cap:=s.cap) q aD w an W aE (by omega) Z (by rw[aI];exact al) ak (by omega) λbp c av a2 aw a3 a4 ab bq=>⟨⟨Hb _,by dsimp only;omega⟩,?_⟩
    have a5:A7 (some (⟨a.size,0,none⟩:Q6)) c 0 1=some ⟨a.size,0,none⟩:=by unfold A7;rw[if_neg (by omega)];rfl
    have a6:A7 (some (⟨a.size,0,none⟩:Q6)) c 1 1=some ⟨a.size,1,none⟩:=by unfold A7;rw[if_neg (by omega)];rfl
    dsimp only;rw[a5];refine oO (vs:= [e]) q O a2 (by simp) (λj v n=>ab.ah (au j v n)) (by simp;omega) (λv D=>by rw[List.mem_singleton.1 D];exact ao) λa7 a8 ax br=>⟨⟨by omega,by omega⟩,⟨Hb _,by omega⟩,?_⟩
    rw[a6,B];have Q:A7 (some (⟨g,0,none⟩:Q6)) s.cap 0 1=some ⟨g,0,none⟩:=by unfold A7;rw[if_neg (by omega)];rfl
    rw[Q];have a9:a7[g]? =some (.cells M T (0,0)):=ax.ag (ab.ag C (λa=>a)) (by omega);refine oO (vs:=l.flatMap E.enc) q O a8 (by rw[d];omega) (XH a9 (by rw[d,HP,<-V];exact X)) (by rw[Ii,d];omega) aq λay ac R ba=>?_
    refine U ⟨some ⟨a.size,0,none⟩,l.length+1,c⟩ ay ⟨rfl,.inr ⟨a.size,_,rfl,ac,a3,a4,by rw[Ii,Ii,k,By];exact aw,?_⟩⟩ ?_ (λb F=> .inr (by simp[Sl.ag] at F;omega))
    ·rw[Og _ _ _ (by rw[Ii,d];omega),Og _ _ _ (by simp;omega)];rw[k,By,AF,K];have bb:av.toList.length=c:=by simp[aw]
     simp only[It,CN,Ds];have bc:(([e]++av.toList.drop (0+1)).take 1)= [e]:=by simp
     rw[bc,No (by simp[d])];rw[Ax (by simp[d])]
    ·refine((Ext.mod ab).trans ((ax.trans R).aj (S':=λb=>s.ag=some b\/b=a.size) λc az h=> .inr h)) |> λaA=>?_
     exact⟨aA.size,λb F bd=>aA.get b F (λbe=>be.elim bd (by omega))⟩
   ·have Z:l.length+1<=s.cap:=by
     have: ¬((s.cap:Nat):Int)<((l.length+1:Nat):Int):=by simpa using Y
     omega
    have Q: ∀c,0<c->A7 (some (⟨g,0,none⟩:Q6)) c 0 1=some ⟨g,0,none⟩:=λc az=>by
     unfold A7;rw[if_neg (by omega)];rfl
    have bf: ∀c,1<c->A7 (some (⟨g,0,none⟩:Q6)) c 1 1=some ⟨g,1,none⟩:=λc az=>by
     unfold A7;rw[if_neg (by omega)];rfl
    refine⟨⟨by omega,by omega⟩,⟨by omega,by omega⟩,?_⟩;rw[B,Q _ (by omega),HD,HD,HD,Q _ (by omega),bf _ (by omega)];intro aC;refine⟨.bool false,a,aC,?_,false,rfl,af.yes rfl ⟨⟨by omega,by omega⟩,⟨Hb _,by omega⟩,?_⟩⟩
    ·rw[aF,Lib.run_overlaps_apart (A.at a aC) t ag T q 1 (λJ=>by rw[Go.run_sizeOf J w];simp[Program.cellsOf,w,W]) ⟨f,0,none⟩ ⟨g,1,none⟩ 1 1 _ _ (λh=>ar h.symm) T T 1 s.cap
      (by show(match a[f]? with|some (.cells c ad _)=>some (ad,c.size)|_=>none)=_;rw[o];rfl) (by show(match a[g]? with|some (.cells c ad _)=>some (ad,c.size)|_=>none)=_;rw[C];simp[N]) (by omega) (Pe o) (Pe o)]
     rfl
    ·refine oO (vs:=l.flatMap E.enc) q O C (by rw[d];omega) (XH C (by rw[d,HP,<-V];exact X)) (by rw[d];omega) aq λay ac R ba=>⟨⟨Hb _,by omega⟩,?_⟩
     refine oO (vs:= [e]) q O ac (by simp) (λj v n=>R.ah (au j v n) (by rw[aU];exact λh=>ar h.symm)) (by rw[Ii];simp;omega) (λv D=>by rw[List.mem_singleton.1 D];exact ao) λbg bh bi bs=>?_
     refine U ⟨some ⟨g,0,none⟩,l.length+1,s.cap⟩ bg ⟨rfl,.inr ⟨g,_,rfl,bh,Z,aT,by rw[Ii,Ii,k,By];exact N,?_⟩⟩ ((R.trans bi).aj λb _ h=>by rw[Sl.ag,B,h];rfl) (λb F=> .inl (by rw[Sl.ag,B];exact F));rw[Og _ _ _ (by rw[Ii];simp;omega),Og _ _ _ (by rw[d];omega)];rw[k,By,AF,K];have bb:M.toList.length=s.cap:=by simp[N]
     have bt:(M.toList.take 1).length=1:=by simp;omega
     simp only[It,CN,Ds,AI];rw[A4 (M.toList.take 1),A0m (by omega),HE (by omega),CN];rw[<- A4,No (by simp[d])];rw[Ax (by simp[d])]
end Go.Lf
namespace Go.Lf.G
open Go
def fS:cJ Nat where
 enc t:= [Ar t]
 w:=1
 len _:=rfl
 pos:=by omega
 one x v a:=by simp at a;subst a;rfl
theorem Cells.pt {b:aa}{a:Q6}{x:Nat}(c:Cells b a (fS.enc x)):ah b a=some (Ar x):=by have d:=c 0 _ rfl;rwa [add_zero] at d
theorem wq:QZ P Au BM fS.w 8=true:=by kernel_rfl
theorem ovT(args:Array J0)(a:World):(callFunc EU args).run P a=((Extern.SlicesOverlaps.overlaps #[Au,Au] #[qY] args).run P a).andThen λv b=> .ok (.value v) b:=
 run_callFunc_extern (fn:=Proofs.Tryz.f231) Proofs.Tryz.func231 (by kernel_rfl) (by kernel_rfl) (by kernel_rfl) (by kernel_rfl) args a
theorem ovI(args:Array J0)(a:World):(callFunc Gu args).run P a=((Extern.SlicesOverlaps.overlaps #[DC,DC] #[qY] args).run P a).andThen λv b=> .ok (.value v) b:=
 run_callFunc_extern (fn:=Proofs.Tryz.f233) Proofs.Tryz.func233 (by kernel_rfl) (by kernel_rfl) (by kernel_rfl) (by kernel_rfl) args a
theorem AT9:(P.info? BM).bind (·.zero)=some (J5 none):=by kernel_rfl
theorem AUR:(P.info? Bp).bind (·.zero)=some (J6 J9 0):=by kernel_rfl
theorem wu:P.underlying Bp=some (.int J9):=by kernel_rfl
theorem ASZ(a:al)(s v:Sl)(i:Int)(b:aa)(c:A2L):Dy a s i v b c=oP a P Au Bp EU Fq s i v b c:=rfl
theorem ATJ(a:al)(s v:Sl)(i:Int)(b:aa)(c:A2L):IZ a s i v b c=oP a P DC Bp Gu I8 s i v b c:=rfl
theorem rf {g:al}{a:aa}{s:Sl}{l:List Nat}{x d:Nat}{f:A2L}(h:Own fS BM a s l)(i:a[d]? =some (J2 #[Ar x] BM (0,0)))(j:s.ag≠some d)(m:l.length<=1000000)
  (k: ∀c e,Own fS BM e c (x::l)->Mod (λb=>s.ag=some b) a e->(∀ b,c.ag=some b->s.ag=some b\/a.size<=b)->f (J4 c.p c.len c.cap) e):
  AA g P BP #[J4 s.p s.len s.cap,J6 J9 0,J4 (some (⟨d,0,none⟩:Q6)) 1 1] a f:=by
 refine Gj (v:=⟨some ⟨d,0,none⟩,1,1⟩) ?_;rw[ASZ];exact xH wq rfl wu AT9 rfl (by decide) ovT h rfl i j (by simp[maxLen];omega) (by omega) k
theorem rh {g:al}{a:aa}{s:Sl}{l:List Int}{x:Int}{d:Nat}{f:A2L}(h:Own Ib Bp a s l)(i:a[d]? =some (J2 #[J6 J9 x] Bp (0,0)))(j:s.ag≠some d)(m:l.length<=1000000)
  (k: ∀c e,Own Ib Bp e c (x::l)->Mod (λb=>s.ag=some b) a e->(∀ b,c.ag=some b->s.ag=some b\/a.size<=b)->f (J4 c.p c.len c.cap) e):
  AA g P DD #[J4 s.p s.len s.cap,J6 J9 0,J4 (some (⟨d,0,none⟩:Q6)) 1 1] a f:=by
 refine NU (v:=⟨some ⟨d,0,none⟩,1,1⟩) ?_;rw[ATJ];exact xH sn rfl wu AUR rfl (by decide) ovI h rfl i j (by simp[maxLen];omega) (by omega) k
structure Db where
 fr:List Pr
 ts:List (Nat×List Pr)
 next:Nat
 aW:Nat
 aw:Nat
 aJ:Nat
 br:Bool
structure Hp where
 d:Nat
 b:Nat
 lg:Nat
 nt:Nat
 ft:Nat
 Sb:Nat->Prop
 ns:List M.DT
 tp:Sl
 np:Sl
 ps:List Nat
abbrev eE(q:Hp)(st:Db)(down:Bool):Array J0:= #[Ar q.b,Ar q.lg,Ar q.nt,Ar q.ft,J4 q.tp.p q.tp.len q.tp.cap,J4 q.np.p q.np.len q.np.cap,J6 J9 (st.next:Int),J6 J9 (st.aW:Int),J3 down]
abbrev eF(st:Db):List Int:=st.ts.map λp=>(p.1:Int)
def nf(h:aa)(k:Nat->Nat)(t:Nat)(l:List Pr):Prop:= ∃b a,bS h t l (NQ l) b a/\a<=h.size/\(∀ c,b<=c->c<a->k c=8)/\Hl l
structure bL (g h:aa) (q:Hp) (k:Nat->Nat) (st:Db) (m:Bx):Prop where
 cell:h[q.d]? =some (J2 (eE q st false) FW (0,0))
 box:Ce h q.b q.Sb m
 log:Ed h q.lg q.b nl st.aw st.br
 dM:Ed h q.nt q.b nn st.aJ false
 fresh:M.dh h q.ft q.ns st.fr
 ck:Own fS BM h q.tp q.ps
 dj:q.ps.length=st.ts.length
 cS: ∀(i:Nat) (t:Nat) (p:Nat×List Pr),q.ps[i]? =some t->st.ts[i]? =some p->nf h k t p.2
 names:Own Ib Bp h q.np (eF st)
 kd:k q.d=1
 kb: ∀c,q.Sb c->k c=2
 kl:k q.lg=3
 kn:k q.nt=4
 kf: ∀c,M.cY q.ft q.ns c->k c=5
 kt: ∀c,q.tp.ag=some c->k c=6
 kx: ∀c,q.np.ag=some c->k c=7
 own: ∀c,k c≠0->g.size<=c/\c<h.size
 ext:Ext g h
theorem Tk {b:Type}{d:cJ b}{T:Q7}{h:aa}{s:Sl}{l:List b}(e:Own d T h s l){c:Nat}(a:s.ag=some c):c<h.size:=by
 rcases e.row with⟨rfl,_⟩|⟨g,j,f,i,_⟩
 ·simp[Sl.ag] at a
 ·rw[Sl.ag,f] at a;have:g=c:=by simpa using a
  subst this;exact Aj i
theorem nf.mod {h h':aa}{k a:Nat->Nat}{t:Nat}{l:List Pr}{b:Nat->Prop}(T:nf h k t l)(x:Mod b h h')(e: ∀c,k c=8-> ¬b c)(f: ∀c,c<h.size->a c=k c):nf h' a t l:=by obtain⟨i,j,n,o,d,p⟩:=T;exact⟨i,j,n.mod x λc c1 c2=>e c (d c c1 c2),AG o x.size,λc c1 c2=>by rw[f c (by omega)];exact d c c1 c2,p⟩
structure DbR (C:Nat->Prop) (g h h':aa) (q:Hp) (k:Nat->Nat) (st:Db) (m:Bx):Prop where
 ext:Ext g h'
 size:h.size<=h'.size
 cell: ¬C 1->h'[q.d]? =some (J2 (eE q st false) FW (0,0))
 box: ¬C 2->Ce h' q.b q.Sb m
 log: ¬C 3->Ed h' q.lg q.b nl st.aw st.br
 dM: ¬C 4->Ed h' q.nt q.b nn st.aJ false
 fresh: ¬C 5->M.dh h' q.ft q.ns st.fr
 ck: ¬C 6->Own fS BM h' q.tp q.ps
 names: ¬C 7->Own Ib Bp h' q.np (eF st)
 cS: ¬C 8-> ∀k',(∀ c,c<h.size->k' c=k c)-> ∀(i:Nat) (t:Nat) (p:Nat×List Pr),q.ps[i]? =some t->st.ts[i]? =some p->nf h' k' t p.2
theorem bL.rest {C:Nat->Prop}{g h h':aa}{q:Hp}{k:Nat->Nat}{st:Db}{m:Bx}(a:bL g h q k st m)(x:Mod (λc=>C (k c)) h h')(f: ¬C 0):DbR C g h h' q k st m:=by
 refine⟨⟨AG a.ext.size x.size,λc d _=>?_⟩,x.size,λb=>x.ag a.cell (by rw[a.kd];exact b),λb=>a.box.mod x λc d=>by rw[a.kb c d];exact b,λb=>a.log.mod x (by rw[a.kl];exact b),λb=>a.dM.mod x (by rw[a.kn];exact b),
  λb=>a.fresh.mod x λc d=>by rw[a.kf c d];exact b,λb=>a.ck.mod x λc d=>by rw[a.kt c d];exact b,λb=>a.names.mod x λc d=>by rw[a.kx c d];exact b,
  λb n e i t p j l=>(a.cS i t p j l).mod x (λc d=>by rw[d];exact b) e⟩
 have e:k c=0:=Decidable.byContradiction λh=>by have:=(a.own c h).1;omega
 exact(x.get c (Fl d a.ext.size) (by rw[e];exact f)).trans (a.ext.get c d (λh=>h))
section
variable {g h h' : aa} {q : Hp} {k : Nat -> Nat} {st : Db} {m : Bx}
theorem bL.ik(a:bL g h q k st m):q.d<h.size:=Aj a.cell
theorem bL.pH(a:bL g h q k st m):q.lg<h.size:=Aj a.log
theorem bL.pI(a:bL g h q k st m):q.nt<h.size:=Aj a.dM
theorem bL.lL(a:bL g h q k st m): ¬q.Sb q.lg:=λb=>by have:=a.kb _ b;rw[a.kl] at this;cases this
theorem bL.tj(a:bL g h q k st m): ¬q.Sb q.nt:=λb=>by have:=a.kb _ b;rw[a.kn] at this;cases this
theorem bL.nC(a:bL g h q k st m): ¬q.Sb q.d:=λb=>by have:=a.kb _ b;rw[a.kd] at this;cases this
theorem bL.dl(a:bL g h q k st m):q.d≠q.lg:=λb=>by have:=a.kd;rw[b,a.kl] at this;cases this
theorem bL.dn(a:bL g h q k st m):q.d≠q.nt:=λb=>by have:=a.kd;rw[b,a.kn] at this;cases this
theorem bL.on(a:bL g h q k st m)(x:Ext h h'):bL g h' q k st m:=by
 have b:=a.rest (C:=λ_=>False) x (λh=>h);exact⟨b.cell λh=>h,b.box λh=>h,b.log λh=>h,b.dM λh=>h,b.fresh λh=>h,b.ck λh=>h,a.dj,b.cS (λh=>h) k (λ_ _=>rfl),b.names λh=>h,a.kd,a.kb,a.kl,a.kn,a.kf,a.kt,a.kx,
  λc d=>⟨(a.own c d).1,Fl (a.own c d).2 x.size⟩,b.ext⟩
theorem bL.beside {e:Nat->Prop}(a:bL g h q k st m)(x:Mod e h h')(f: ∀c,e c->k c=0/\g.size<=c):bL g h' q k st m:=by
 have j:Ext g h':=⟨AG a.ext.size x.size,λc b _=>(x.get c (Fl b a.ext.size) λh=>by have:=(f c h).2;omega).trans (a.ext.get c b (λh=>h))⟩;have d: ∀ {c},k c≠0-> ¬e c:=λb l=>b (f _ l).1
 exact⟨x.ag a.cell (d (by rw[a.kd];decide)),a.box.mod x λc b=>d (by rw[a.kb c b];decide),a.log.mod x (d (by rw[a.kl];decide)),a.dM.mod x (d (by rw[a.kn];decide)),a.fresh.mod x λc b=>d (by rw[a.kf c b];decide),
  a.ck.mod x λc b=>d (by rw[a.kt c b];decide),a.dj,λi t p n o=>(a.cS i t p n o).mod x (λc b=>d (by rw[b];decide)) (λ_ _=>rfl),a.names.mod x λc b=>d (by rw[a.kx c b];decide),a.kd,a.kb,a.kl,a.kn,a.kf,a.kt,a.kx,
  λc b=>⟨(a.own c b).1,Fl (a.own c b).2 x.size⟩,j⟩
open Classical in
noncomputable def Js (k:Nat->Nat) (a:Nat) (b:Nat->Prop) (d:Nat):Nat->Nat:=λc=>if c<a then k c else if b c then d else 0
theorem Gd {a b c:Nat}{d:Nat->Prop}(e:c<a):Js k a d b c=k c:=by unfold Js;rw[if_pos e]
theorem sG {a b c:Nat}{d:Nat->Prop}(f:a<=c)(e:d c):Js k a d b c=b:=by unfold Js;rw[if_neg (by omega),if_pos e]
theorem Vt {a b c:Nat}{S:Nat->Prop}(e:a<=c)(d: ¬S c):Js k a S b c=0:=by unfold Js;rw[if_neg (by omega),if_neg d]
theorem bL.boxed(b:bL g h q k st m){S':Nat->Prop}{p:Bx}{j:Nat}{bH:Db}(r:Ce h' q.b S' p)(x:Mod (λc=>q.Sb c\/(j=3/\c=q.lg)\/(j=4/\c=q.nt)) h h')(s: ∀c,S' c->q.Sb c\/h.size<=c)
  (u:bH.fr=st.fr) (i:bH.ts=st.ts) (v:bH.next=st.next) (w:bH.aW=st.aW)
  (l:(j≠3/\bH.aw=st.aw/\bH.br=st.br)\/Ed h' q.lg q.b nl bH.aw bH.br) (y:(j≠4/\bH.aJ=st.aJ)\/Ed h' q.nt q.b nn bH.aJ false):
  bL g h' {q with Sb:=S'} (Js k h.size S' 2) bH p:=by
 have e:=b.rest (C:=λc=>c=2\/(j=3/\c=3)\/(j=4/\c=4)) (h':=h') (x.aj λc _ a=>by
  rcases a with a|⟨d,rfl⟩|⟨d,rfl⟩
  ·exact .inl (b.kb c a)
  ·exact .inr (.inl ⟨d,b.kl⟩)
  ·exact .inr (.inr ⟨d,b.kn⟩)) (by rintro(h|⟨_,h⟩|⟨_,h⟩)<;>cases h)
 have f: ∀ {c},c<h.size->Js k h.size S' 2 c=k c:=λa=>Gd a
 have z:eE {q with Sb:=S'} bH false=eE q st false:=by simp only[eE,v,w]
 refine⟨by rw[z];exact e.cell (by omega),r,?_,?_,by rw[u];exact e.fresh (by omega),e.ck (by omega),by rw[i];exact b.dj,by rw[i];exact e.cS (by omega) _ (λc a=>f a),by rw[eF,i];exact e.names (by omega),
  by rw[f b.ik];exact b.kd,λc a=>?_,by rw[f b.pH];exact b.kl,by rw[f b.pI];exact b.kn,λc a=>by rw[f (b.fresh.lt a)];exact b.kf c a,λc a=>by rw[f (Tk b.ck a)];exact b.kt c a,
  λc a=>by rw[f (Tk b.names a)];exact b.kx c a,λc a=>?_,e.ext⟩
 ·rcases l with⟨d,n,A⟩|d
  ·rw[n,A];exact e.log (by omega)
  ·exact d
 ·rcases y with⟨d,n⟩|d
  ·rw[n];exact e.dM (by omega)
  ·exact d
 ·by_cases o:c<h.size
  ·rw[f o];rcases s c a with d|d
   ·exact b.kb c d
   ·omega
  ·exact sG (by omega) a
 ·by_cases o:c<h.size
  ·rw[f o] at a;exact⟨(b.own c a).1,by have:=e.size;omega⟩
  ·by_cases t:S' c
   ·exact⟨by have:=b.ext.size;omega,r.lt t⟩
   ·exact absurd (Vt (by omega) t) a
theorem bL.pG(b:bL g h q k st m){f:List M.DT}{j:List Pr}(T:M.dh h' q.ft f j)(x:Mod (M.cY q.ft q.ns) h h')(s: ∀c,M.cY q.ft f c->M.cY q.ft q.ns c\/h.size<=c):
  bL g h' {q with ns:=f} (Js k h.size (M.cY q.ft f) 5) {st with fr:=j} m:=by
 have d:=b.rest (C:=λc=>c=5) (h':=h') (x.aj λc _ a=>b.kf c a) (by decide);have e: ∀ {c},c<h.size->Js k h.size (M.cY q.ft f) 5 c=k c:=λa=>Gd a
 refine⟨d.cell (by decide),d.box (by decide),d.log (by decide),d.dM (by decide),T,d.ck (by decide),b.dj,d.cS (by decide) _ (λc a=>e a),d.names (by decide),
  by rw[e b.ik];exact b.kd,λc a=>by rw[e (b.box.lt a)];exact b.kb c a,by rw[e b.pH];exact b.kl,by rw[e b.pI];exact b.kn,λc a=>?_,λc a=>by rw[e (Tk b.ck a)];exact b.kt c a,
  λc a=>by rw[e (Tk b.names a)];exact b.kx c a,λc a=>?_,d.ext⟩
 ·by_cases i:c<h.size
  ·rw[e i];rcases s c a with l|l
   ·exact b.kf c l
   ·omega
  ·exact sG (by omega) a
 ·by_cases i:c<h.size
  ·rw[e i] at a;exact⟨(b.own c a).1,by have:=d.size;omega⟩
  ·by_cases n:M.cY q.ft f c
   ·exact⟨by have:=b.ext.size;omega,T.lt n⟩
   ·exact absurd (Vt (by omega) n) a
theorem bL.renew(b:bL g h q k st m){gN:Nat}(T:M.dh h' gN [] [])(i:h.size<=gN)(a:h'[q.d]? =some (J2 (eE {q with ft:=gN} st false) FW (0,0)))(x:Mod (λc=>c=q.d) h h'):
  bL g h' {q with ft:=gN,ns:= []} (Js k h.size (· =gN) 5) {st with fr:= []} m:=by
 have d:=b.rest (C:=λc=>c=1) (h':=h') (x.aj λc _ a=>by rw[a];exact b.kd) (by decide);have e: ∀ {c},c<h.size->Js k h.size (· =gN) 5 c=k c:=λa=>Gd a
 have j: ∀c,M.cY gN [] c->c=gN:=λc a=>by
  rcases a with rfl|⟨x,l,_⟩
  ·rfl
  ·cases l
 refine⟨a,d.box (by decide),d.log (by decide),d.dM (by decide),T,d.ck (by decide),b.dj,d.cS (by decide) _ (λc a=>e a),d.names (by decide),
  by rw[e b.ik];exact b.kd,λc a=>by rw[e (b.box.lt a)];exact b.kb c a,by rw[e b.pH];exact b.kl,by rw[e b.pI];exact b.kn,λc a=>by rw[j c a];exact sG i rfl,λc a=>by rw[e (Tk b.ck a)];exact b.kt c a,
  λc a=>by rw[e (Tk b.names a)];exact b.kx c a,λc a=>?_,d.ext⟩
 by_cases n:c<h.size
 ·rw[e n] at a;exact⟨(b.own c a).1,by have:=d.size;omega⟩
 ·by_cases f:c=gN
  ·subst f;exact⟨by have:=b.ext.size;omega,T.lt (.inl rfl)⟩
  ·exact absurd (Vt (S:=(· =gN)) (by omega) f) a
open Classical in
noncomputable def MC (k:Nat->Nat) (b:Nat) (tp np:Sl) (a:Nat->Prop):Nat->Nat:=λc=>if k c≠0 then k c else if tp.ag=some c then 6 else if np.ag=some c then 7 else if a c then 8 else 0
theorem bL.fj(d:bL g h q k st m){tp np:Sl}{ps:List Nat}{ts:List (Nat×List Pr)}{next aW:Nat}{S:Nat->Prop}
  (a:h'[q.d]? =some (J2 (eE {q with tp:=tp,np:=np} {st with next:=next,aW:=aW} false) FW (0,0))) (x:Mod (λc=>c=q.d\/q.tp.ag=some c\/q.np.ag=some c) h h')
  (G:Own fS BM h' tp ps) (on:Own Ib Bp h' np (ts.map λp=>(p.1:Int))) (I:ps.length=ts.length)
  (r: ∀c,tp.ag=some c->q.tp.ag=some c\/(k c=0/\g.size<=c/\np.ag≠some c/\ ¬S c)) (s: ∀c,np.ag=some c->q.np.ag=some c\/(k c=0/\g.size<=c/\tp.ag≠some c/\ ¬S c)) (J: ∀c,S c->g.size<=c/\c<h'.size)
  (K: ∀(i:Nat) (t:Nat) (p:Nat×List Pr),ps[i]? =some t->ts[i]? =some p->(∃ e:Nat,q.ps[e]? =some t/\st.ts[e]? =some p)\/ ∃n j,bS h' t p.2 (NQ p.2) n j/\j<=h'.size/\(∀ c,n<=c->c<j->S c/\k c=0)/\Hl p.2):
  bL g h' {q with tp:=tp,np:=np,ps:=ps} (MC k h.size tp np S) {st with ts:=ts,next:=next,aW:=aW} m:=by
 have l:=d.rest (C:=λc=>c=1\/c=6\/c=7) (h':=h') (x.aj λc _ a=>by
  rcases a with rfl|a|a
  ·exact .inl d.kd
  ·exact .inr (.inl (d.kt c a))
  ·exact .inr (.inr (d.kx c a))) (by decide)
 have f: ∀ {c e},k c=e->e≠0->MC k h.size tp np S c=e:=λb u=>by unfold MC;rw[if_pos (by rw[b];exact u)];exact b
 refine⟨a,l.box (by decide),l.log (by decide),l.dM (by decide),l.fresh (by decide),G,I,λi t p b u=>?_,on,f d.kd (by decide),λc a=>f (d.kb c a) (by decide),f d.kl (by decide),f d.kn (by decide),λc a=>f (d.kf c a) (by decide),λc a=>?_,λc a=>?_,λc a=>?_,l.ext⟩
 ·rcases K i t p b u with⟨e,L,M⟩|⟨n,j,v,w,y,z⟩
  ·obtain⟨n,j,v,w,y,z⟩:=l.cS (by decide) k (λ_ _=>rfl) e t p L M;exact⟨n,j,v,w,λc c1 c2=>f (y c c1 c2) (by decide),z⟩
  ·refine⟨n,j,v,w,λc c1 c2=>?_,z⟩;obtain⟨A,B⟩:=y c c1 c2;have N:tp.ag≠some c:=λD=>by
    rcases r c D with h|h
    ·have:=d.kt c h;rw[B] at this;cases this
    ·exact h.2.2.2 A
   have O:np.ag≠some c:=λD=>by
    rcases s c D with h|h
    ·have:=d.kx c h;rw[B] at this;cases this
    ·exact h.2.2.2 A
   unfold MC;rw[if_neg (by simp[B]),if_neg N,if_neg O,if_pos A]
 ·rcases r c a with b|b
  ·exact f (d.kt c b) (by decide)
  ·unfold MC;rw[if_neg (by simp[b.1]),if_pos a]
 ·rcases s c a with b|b
  ·exact f (d.kx c b) (by decide)
  ·unfold MC;rw[if_neg (by simp[b.1]),if_neg b.2.2.1,if_pos a]
 ·by_cases o:k c=0
  ·unfold MC at a;rw[if_neg (by simp[o])] at a;by_cases E:tp.ag=some c
   ·refine⟨?_,Tk G E⟩;rcases r c E with b|b
    ·have:=d.kt c b;rw[o] at this;cases this
    ·exact b.2.1
   ·rw[if_neg E] at a;by_cases F:np.ag=some c
    ·refine⟨?_,Tk on F⟩;rcases s c F with b|b
     ·have:=d.kx c b;rw[o] at this;cases this
     ·exact b.2.1
    ·rw[if_neg F] at a;by_cases H:S c
     ·exact J c H
     ·rw[if_neg H] at a;exact absurd rfl a
  ·exact⟨(d.own c o).1,by have:=(d.own c o).2;have:=l.size;omega⟩
end
structure Jk (m m':Bx):Prop where
 up:m'.down=false
 calm:m.fuel= -1->m'.fuel= -1
theorem Jk.refl {m:Bx}(a:m.down=false):Jk m m:=⟨a,λa=>a⟩
theorem Jk.trans {m c d:Bx}(a:Jk m c)(b:Jk c d):Jk m d:=⟨b.up,λe=>b.calm (a.calm e)⟩
theorem Zv {m:Bx}(hd:m.down=false)(l:List Fi):Jk m {H7 m with files:=l}:=by refine⟨(AMn l).trans hd,λa=>?_⟩;show(H7 m).fuel= -1;unfold H7;rw[if_neg (by rw[a];decide)];exact a
theorem SC {m:Bx}{k d:A2M}(hd:m.down=false)(b:Jw k=false):(m.fuel=0/\CS m k d=(30,Ng m))\/((CS m k d).1=0/\Jk m (CS m k d).2/\
  ∀x,ff (CS m k d).2 x=if x=k then some (((ff m k).getD (bq,bq)).1,((ff m k).getD (bq,bq)).2++d) else ff m x):=by
 by_cases a:m.fuel=0
 ·left;refine⟨a,?_⟩;unfold CS;rw[if_neg (by simp[hd]),if_neg (by simp[b]),if_pos a]
 ·right;obtain⟨c,e⟩:=wP ⟨hd,a⟩ (d:=d) b;refine⟨c,?_,e⟩;unfold CS;rw[if_neg (by simp[hd]),if_neg (by simp[b]),if_neg a];exact Zv hd _
theorem Ot {m:Bx}{a:A2M}{p:A2M×A2M}(hd:m.down=false)(c:ff m a=some p):(m.fuel=0/\FY m a=(30,Ng m))\/((FY m a).1=0/\Jk m (FY m a).2/\ ∀x,ff (FY m a).2 x=if x=a then some (p.1++p.2,bq) else ff m x):=by
 have d:(Cb a m.files).isNone=false:=by
  cases b:Cb a m.files with
  |none=>unfold ff at c;rw[b] at c;cases c
  |some f=>rfl
 by_cases b:m.fuel=0
 ·left;refine⟨b,?_⟩;unfold FY;rw[if_neg (by simp[hd]),if_neg (by simp[d]),if_pos b]
 ·right;obtain⟨e,g⟩:=wQ ⟨hd,b⟩ c;refine⟨e,?_,g⟩;unfold FY;rw[if_neg (by simp[hd]),if_neg (by simp[d]),if_neg b];exact Zv hd _
theorem Rk {m:Bx}{k:A2M}(hd:m.down=false)(b:(ff m k).isSome=true):(m.fuel=0/\Ci m k=(30,Ng m))\/((Ci m k).1=0/\Jk m (Ci m k).2/\ ∀x,ff (Ci m k).2 x=if x=k then none else ff m x):=by
 have c:(Cb k m.files).isNone=false:=by
  rw[<- Sd] at b;cases a:Cb k m.files with
  |none=>rw[a] at b;cases b
  |some f=>rfl
 by_cases a:m.fuel=0
 ·left;refine⟨a,?_⟩;unfold Ci;rw[if_neg (by simp[hd]),if_neg (by simp[c]),if_pos a]
 ·right;obtain⟨d,e⟩:=wR ⟨hd,a⟩ b;refine⟨d,?_,e⟩;unfold Ci;rw[if_neg (by simp[hd]),if_neg (by simp[c]),if_neg a];exact Zv hd _
theorem px(m:Bx)(x:A2M):ff (Ng m) x=ff m x:=rfl
theorem sH(m:Bx):ba (Ng m).files=ba m.files:=rfl
theorem AGA {ap:al}{g:aa}{H b z:Nat}{h:A2M}{made:Bool}{n:Nat->Prop}{m:Bx}{upto:Int}{I:A2L}(aq:cy g)(ar: ∀j,Mod n g j->cy j)(L:Ed g H b h z made)(N:Ce g b n m)(hd:m.down=false)(au: ¬n H)(a1:h.size<=8)(av:ba m.files<=8000000000000)
  (aw:upto>=(z:Int)->I (J6 J9 1) g)
  (ax:m.fuel≠ -1-> ∀j S' f,Ce j b S' f->f.down=true->Mod n g j->(∀ c,S' c->n c)->ba f.files<=ba m.files->(∀ x,ff f x=ff m x\/(ff f x=none/\ ∃d:Nat,1<=d/\d<=99999999/\(d:Int)<=upto/\x=aC h d))->I (J6 J9 30) j)
  (ay:upto<(z:Int)-> ∀j S' f,Ce j b S' f->Jk m f->Mod n g j->(∀ c,S' c->n c)->ba f.files<=ba m.files->(∀ d:Nat,1<=d->d<=99999999->(d:Int)<=upto->ff f (aC h d)=none)->
   (∀ x,(∀ d:Nat,1<=d->d<=99999999->(d:Int)<=upto->x≠aC h d)->ff f x=ff m x)->I (J6 J9 0) j):AA ap P Je #[Ar H,J6 J9 upto] g I:=by
 refine AB6 ?_;unfold Uo;refine ai.mk λK az=>af.no rfl (aD (AC.mk (AB L rfl) (az _ _ ?_)))
 refine af.intro (λq=>aw (by simpa using q)) (λq=>?_);have aA:upto<(z:Int):=by simpa using q
 refine aD (AY.mk (AL L rfl) (aD (AJ.mk (AB L rfl) ?_)));refine za aq N hd (by omega) av λX Y l A v2 Z O=>⟨Y,_,rfl,af.no rfl ?_⟩
 have ab:(l.map λd:Nat=>(d:Int)).length=l.length:=AS ..;have J: ∀d∈l,1<=d/\d<=99999999/\(ff m (aC h d)).isSome=true:=λd e=>by
  have:=(A.mem d).1 e;rw[Sd] at this;exact this
 have a2:l.Nodup:=List.nodup_iff_pairwise_ne.2 (A.inc.imp λg=>Nat.ne_of_lt g);have a3:=AQa A;refine Loop.rule (λac x s=> ∃(i:Nat) (B:Nat->Prop) (r:Bx),x=((i:Int),())/\Ce s b B r/\Jk m r/\Mod n g s/\Mod n X s/\(∀ c,B c->n c)/\ba r.files<=ba m.files/\(∀ d∈l.take i,(d:Int)<=upto->ff r (aC h d)=none)/\(∀ x,(∀ d∈l.take i,(d:Int)<=upto->x≠aC h d)->ff r x=ff m x)/\i<=l.length/\ac=l.length-i) ?_
  ⟨0,n,m,rfl,N.ext Z,Jk.refl hd,Ext.mod Z,Mod.refl,λ_ g=>g,A0 _,by simp,λ_ _=>rfl,A5 _,rfl⟩
 rintro a4 ac _ s ⟨i,B,r,rfl,Q,C,w,R,D,M,E,u,a5,rfl⟩ aE;have aF:View Ib s Y (l.map λd:Nat=>(d:Int)):=v2.mod R λc v aG=>by have:=O c v;have:=N.lt aG;omega
 rw[v2.len,ab];refine af.intro (λS=>?_) (λS=>?_)
 ·have F:i<l.length:=by simpa using S
  have ah:l[i]? =some l[i]:=A2 F;obtain⟨ad,ae,aH⟩:=J l[i] (B9 F);have y:l.take (i+1)=l.take i++ [l[i]]:=by rw[AD,ah];rfl
  have aI: ∀d∈l.take i,d<l[i]:=λd e=>by
   have:=A.inc;rw[<- DO (i+1) l,y] at this;have aJ:=(List.pairwise_append.1 (List.pairwise_append.1 this).1).2.2 d e l[i] (by simp);exact aJ
  refine ai.mk λaK aL=>?_
  have ag: ∀S' f j,Ce j b S' f->Jk m f->Mod n g j->Mod n X j->(∀ c,S' c->n c)->ba f.files<=ba m.files->(∀ d∈l.take (i+1),(d:Int)<=upto->ff f (aC h d)=none)->(∀ x,(∀ d∈l.take (i+1),(d:Int)<=upto->x≠aC h d)->ff f x=ff m x)->aK () j:=λS' f j aM aN aO aP aQ aR aS O=>by
   refine aL _ _ ?_;dsimp only;rw[Ab (by omega)];exact aE (l.length-(i+1)) _ _ (by omega) ⟨i+1,S',f,rfl,aM,aN,aO,aP,aQ,aR,aS,O,F,rfl⟩
  rw[<- ab,<-v2.len];refine aF.idx (i:=i) (x:=(l[i]:Int)) (by rw[Cl,ah];rfl) λa _ c=>?_
  refine AC.mk c.int ?_;refine af.intro (λq=>?_) (λq=>?_)
  ·have q:(l[i]:Int)<=upto:=by simpa using q
   have T:Ed s H b h z made:=L.mod w au;refine aD (AY.mk (AL T rfl) (aD (AJ.mk (AB T rfl) ?_)));refine Yv (ar s w) (by omega) (by omega) λa6 U=>⟨_,rfl,⟨AL (T.ext U) rfl,?_⟩⟩
   refine SK (Q.ext U) λaj ak V aT am=>⟨_,rfl,?_⟩
   have aU:(ff r (aC h l[i])).isSome=true:=by rw[u (aC h l[i]) λd e _ G=>by have:=aI d e;have:=Iz G;omega];exact aH
   have W:=(Ext.mod U).trans (aT.aj λc _ v=>D c v);rcases Rk (k:=aC h l[i]) C.up aU with⟨aV,aW⟩|⟨aX,ds,an⟩
   ·rw[aW] at V ⊢;refine af.yes rfl (ax (λg=>by have:=C.calm g;rw[aV] at this;cases this) aj ak _ V rfl (w.trans W) (λc v=>D c (am c v)) M λx=>?_);show ff r x=_\/(ff r x=_/\_);by_cases t: ∃d,d∈l.take i/\(d:Int)<=upto/\x=aC h d
    ·obtain⟨d,e,o,rfl⟩:=t;have ao:=J d (Cd e);exact .inr ⟨E d e o,d,ao.1,ao.2.1,o,rfl⟩
    ·exact .inl (u x λd e o G=>t ⟨d,e,o,G⟩)
   rw[aX];refine af.no rfl (ag ak _ aj V (C.trans ds) (w.trans W) (R.trans W) (λc v=>D c (am c v)) (AG (VZ _) M) ?_ ?_)
   ·intro d e o;rw[an];split
    ·rfl
    ·rename_i aY;rw[y] at e;rcases List.mem_append.1 e with e|e
     ·exact E d e o
     ·exact absurd (by rw[List.mem_singleton.1 e]) aY
   ·intro x t;rw[an,if_neg (t l[i] (by rw[y];exact List.mem_append.2 (.inr (List.mem_singleton.2 rfl))) q)];exact u x λd e=>t d (by rw[y];exact List.mem_append.2 (.inl e))
  ·have q: ¬(l[i]:Int)<=upto:=by simpa using q
   refine ag B r s Q C w R D M ?_ ?_
   ·intro d e o;rw[y] at e;rcases List.mem_append.1 e with e|e
    ·exact E d e o
    ·rw[List.mem_singleton.1 e] at o;exact absurd o q
   ·intro x t;exact u x λd e=>t d (by rw[y];exact List.mem_append.2 (.inl e))
 ·have F:i=l.length:=by simp at S;omega
  subst F;rw[Bm] at E u;refine ay aA s B r Q C w D M ?_ ?_
  ·intro d ad ae o;by_cases e:d∈l
   ·exact E d e o
   ·rw[u (aC h d) λk aZ _ G=>e (by rw[Iz G];exact aZ)];have: ¬((ff m (aC h d)).isSome=true):=λg=>e ((A.mem d).2 ⟨ad,ae,by rw[Sd];exact g⟩)
    cases a0:ff m (aC h d) with
    |none=>rfl
    |some p=>rw[a0] at this;exact absurd rfl this
  ·intro x t;exact u x λd e o=>t d (J d e).1 (J d e).2.1 o
theorem ASA {a:Nat}(h:a<=99999999):Jw (aX a)=false:=by
 have b:(aX a).size=1+(Lib.decDigits a).length:=by have:=BB (aX a);rw[Xd] at this;rw[<- this];simp;omega
 have c:(Lib.decDigits a).length<=20:=by rw[Lib.decDigits_length];exact Lib.nDigits_le20 a (by omega)
 unfold Jw;rw[GS,decide_eq_false_iff_not,decide_eq_false_iff_not];refine⟨λh=>?_,by omega⟩;rw[h] at b;have:bq.size=0:=rfl;omega
theorem Qq {A:al}{h:aa}{a:Nat}{R:A2L}(c:cy h)(l:a<=1099511627776)(d: ∀b,Ext h b->R (J7 (aX a)) b):AA A P JW #[J6 J9 a] h R:=by
 refine AJD ?_;unfold vH;refine yW c.cS (by omega) (by omega) λe f=>⟨_,rfl,?_⟩
 have i:Lib.itoa (a:Int)=Lib.decDigits a:=Lib.itoa_nonneg a;rw[i];have n:(Lib.decDigits a).length<=20:=by rw[Lib.decDigits_length];exact Lib.nDigits_le20 a (by omega)
 have j:(⟨(Lib.decDigits a).toArray⟩:A2M).size=(Lib.decDigits a).length:=by simp[ByteArray.size]
 refine⟨?_,?_⟩
 ·rw[j,max_i64];have:(⟨#[116]⟩:A2M).size=1:=rfl;omega
 ·exact d e f
def sI(h:aa)(a:Nat):Prop:= ∃b c1 c2 c3 c d e f,h[a]? =some (J2 #[b,c1,c2,c3,c,d,e,f,J3 true] FW (0,0))
theorem AR3 {A:al}{h:aa}{q:Hp}{st:Db}{R:A2L}(hd:h[q.d]? =some (J2 (eE q st false) FW (0,0)))(b: ∀a,sI a q.d->Mod (· =q.d) h a->a.size=h.size->R (J6 J9 30) a):AA A P Cj #[Ar q.d,J6 J9 30] h R:=by
 refine ACr ?_;unfold XA;refine ai.mk λK c=>af.yes rfl (aD (ae.dw hd (by simp) λd e f i=>c _ _ (b d ?_ f i)))
 exact⟨_,_,_,_,_,_,_,_,by simpa using e⟩
section
variable {A : al} {g h : aa} {q : Hp} {k : Nat -> Nat} {st : Db} {m : Bx} {R : A2L}
theorem bL.im(a:bL g h q k st m)(b:cy g):cy h:=b.ext a.ext
def Grow(k a:Nat->Nat)(b:Nat):Prop:= ∀c,c<b->a c=k c
theorem Grow.refl {k:Nat->Nat}{a:Nat}:Grow k k a:=λ_ _=>rfl
theorem sJ {k:Nat->Nat}{a b:Nat}{d:Nat->Prop}:Grow k (Js k a d b) a:=λc e=>Gd e
theorem ARU(b:bL g h q k st m)(r:st.next<=99999999)(I:st.aW<=99999999)(J:st.ts.length<=60000)(t: ∀p∈st.ts,p.1<=99999999)(C: ∀u,Ext h u->R (J7 (AX (EK ⟨st.next,st.aW,st.ts.map (·.1)⟩))) u):AA A P QF #[Ar q.d] h R:=by
 refine AEZ ?_;unfold Wn;refine aD (AC.mk (AB b.cell rfl) (aD (AC.mk (AB b.cell rfl) (aD (Aa.mk (s:=q.np) (AB b.cell rfl) ?_)))));rw[Bt (by omega)];refine CU (by omega) λL v=>⟨_,rfl,?_⟩
 have c1:=Ap v b.cell;refine⟨AB c1 rfl,AB c1 rfl,?_⟩;rw[Bt (by omega)];refine CU (by omega) λM w=>⟨_,rfl,?_⟩
 have c2:=Ap w c1;have N:=AV (n:=st.next) (by omega);have O:=AV (n:=st.aW) (by omega);have f:q.np.len=st.ts.length:=by rw[b.names.len];simp
 refine⟨AB c2 rfl,by rw[AP,AP,max_i64];omega,?_⟩;rw[f,Bt (by omega),Ao];refine CU (by omega) λD y=>⟨_,rfl,?_⟩
 have c3:=Ap y c2;have Q:=AV (n:=st.ts.length) (by omega);refine⟨by rw[AP,AP,A1,max_i64];omega,?_⟩;refine aD (Aa.mk (s:=q.np) (AB c3 rfl) ?_);rw[Ao];have z:=(v.trans w).trans y;have E:=(b.names.ext z).view;have S: ∀i,((st.ts.map (·.1)).take i).flatMap Bb=((st.ts.map (·.1)).take i).flatMap Bb:=λ_=>rfl
 refine Loop.rule (λB x j=> ∃i:Nat,x=(AX (Bb st.next++Bb st.aW++Bb st.ts.length++((st.ts.map (·.1)).take i).flatMap Bb),(i:Int),())/\B=st.ts.length-i/\i<=st.ts.length/\Ext D j) ?_ ⟨0,by simp,rfl,by omega,Mod.refl⟩;rintro K B _ j ⟨i,rfl,rfl,T,o⟩ F;dsimp only;refine af.intro (λe=>?_) (λe=>?_)
 ·have d:i<st.ts.length:=by rw[<- f];simpa using e
  have ah:st.ts[i]? =some st.ts[i]:=A2 d;have U:=t st.ts[i] (B9 d);refine(E.ext o).idx (i:=i) (x:=(st.ts[i].1:Int)) (by rw[eF,Cl,ah];rfl) λa _ c=>AC.mk c.int ?_
  rw[Bt (by omega)];refine CU (by omega) λV G=>⟨_,rfl,?_⟩
  have W:=AV (n:=st.ts[i].1) (by omega);have X:=VO (l:=(st.ts.map (·.1)).take i) λn r=>by
   obtain⟨p,H,rfl⟩:=List.mem_map.1 (Cd r);exact t p H
  have Y:((st.ts.map (·.1)).take i).length<=60000:=by simp;omega
  refine⟨by rw[AP,AP,max_i64];simp only[A1];omega,?_⟩;rw[Ao,Ab (by omega)];refine F (st.ts.length-(i+1)) _ _ (by omega) ⟨i+1,?_,rfl,d,o.trans G⟩;rw[AD,Cl,ah];simp
 ·have d:i=st.ts.length:=by rw[f] at e;simp at e;omega
  subst d;have:=C j (z.trans o);rw[Ax (by simp)];simpa [EK] using this
theorem APY {n:Nat}{s:Sl}{l:List Pr}(z:cy g)(Q:bL g h q k st m)(hd:m.down=false)(T:Hl l)(an:View BO h s l)(B: ∀c,s.ag=some c->c<h.size)(ao:n<=99999999)(ap:ff m (aX n)=none)(aq:ba m.files+(Jy l).length+1<=8796093022208)
  (S:m.fuel≠ -1-> ∀b S' e,Ce b q.b S' e->e.down=true->Mod q.Sb h b->(∀ c,S' c->q.Sb c\/h.size<=c)->(∀ x,x≠aX n->ff e x=ff m x)->ba e.files<=ba m.files+(Jy l).length+1->R (J1 #[J5 none,J6 J9 30]) b)
  (ar: ∀b S' C e t D U,bL g b {q with Sb:=S'} C st e->Jk m e->(∀ x,ff e x=if x=aX n then some (AX (Jy l),bq) else ff m x)->ba e.files<=ba m.files+(Jy l).length+1->bS b t l (NQ l) D U->h.size<=D->U<=b.size->(∀ c,D<=c->C c=0)->
   Mod q.Sb h b->Grow k C h.size->R (J1 #[Ar t,J6 J9 0]) b):AA A P N9 #[Ar q.d,J6 J9 (n:Int),J4 s.p s.len s.cap] h R:=by
 refine AEh ?_;unfold Yq;refine APF T an B λaC V=>⟨_,_,rfl,af.no rfl ?_⟩
 have p:=Q.on V;refine aD (AY.mk (AL p.cell rfl) ?_);refine Qq (p.im z) (by omega) λE F=>⟨_,rfl,⟨AL (p.on F).cell rfl,?_⟩⟩
 have W:=p.on F;have X:=V.trans F;have aE:=X.size;refine Xt W.box (by rw[AP];exact aq) λY f G H Z=>⟨_,rfl,?_⟩
 have I:=VY Q.box.aR (aX n) (AX (Jy l));rw[AP] at I;have aa:Mod q.Sb h Y:=(Ext.mod X).trans H;have J: ∀c,f c->q.Sb c\/h.size<=c:=λc a=>(Z c a).imp id λh=>by omega
 rcases SC (k:=aX n) (d:=AX (Jy l)) hd (ASA ao) with⟨K,L⟩|⟨L,M,r⟩
 ·rw[L] at G ⊢;refine af.yes rfl ?_;exact S (by rw[K];decide) Y f _ G rfl aa J (λx _=>rfl) (by rw[sH,HK];exact ID _ _)
 rw[L];refine af.no rfl ?_;have o:=W.boxed (j:=2) (bH:=st) G (H.aj λc _ a=> .inl a) Z rfl rfl rfl rfl (.inl ⟨by decide,rfl,rfl⟩) (.inl ⟨by decide,rfl⟩);generalize (CS m (aX n) (AX (Jy l))).2=ab at*
 have aF:Grow k (Js k E.size f 2) E.size:=sJ;refine aD (AY.mk (AL o.cell rfl) ?_);refine Qq (o.im z) (by omega) λau u=>⟨_,rfl,⟨AL (o.on u).cell rfl,?_⟩⟩
 have ac:=o.on u;rw[ap] at r;have av:ff ab (aX n)=some (bq,bq++AX (Jy l)):=by rw[r,if_pos rfl];rfl
 refine pL ac.box λad v N=>⟨_,rfl,?_⟩
 have aw:=YW o.box.aR (aX n);have ae:Mod q.Sb h ad:=by refine aa.then ((Ext.mod u).trans N |>.aj λc _ a=>?_);exact(J c a)
 rcases Ot M.up av with⟨K,O⟩|⟨O,ag,ah⟩
 ·rw[O] at v ⊢;refine af.yes rfl ?_;exact S (λax=>by have:=M.calm ax;rw[K] at this;cases this) ad f _ v rfl ae J (λx i=>by
   rw[px,r,if_neg i]) I
 rw[O];refine af.no rfl ?_;have w:=ac.boxed (j:=2) (bH:=st) v (N.aj λc _ a=> .inl a) (λc a=> .inl a) rfl rfl rfl rfl (.inl ⟨by decide,rfl,rfl⟩) (.inl ⟨by decide,rfl⟩);generalize (FY ab (aX n)).2=ai at*
 refine aD (AY.mk (AL w.cell rfl) ?_);refine Qq (w.im z) (by omega) λaj y=>⟨_,rfl,⟨AL (w.on y).cell rfl,?_⟩⟩
 have ak:=w.on y;refine Yi ak.box ⟨_,_,rfl,?_⟩;have ay:ff ai (aX n)=some (AX (Jy l),bq):=by rw[ah,if_pos rfl,Mh,Mh]
 rw[Yb ag.up,ay];dsimp only;rw[Vi];refine af.no rfl ?_;refine zF T.eQ λal t am az=>⟨_,_,rfl,?_⟩
 have aG:=u.size;have aH:=H.size;have aI:=N.size;have aJ:=y.size;have aA: ∀c,aj.size<=c->Js (Js k E.size f 2) au.size f 2 c=0:=λc a=>by
  have: ¬f c:=λB=>by have:=v.lt B;omega
  exact Vt (by omega) this
 refine ar al f _ ai t aj.size al.size (ak.on am) (M.trans ag) (λx=>?_) (AG aw I) az (by omega) (A0 _) (λc a=>aA c a) ?_ ?_
 ·rw[ah];by_cases i:x=aX n
  ·rw[if_pos i,if_pos i,Mh,Mh]
  ·rw[if_neg i,if_neg i,r,if_neg i]
 ·exact(ae.trans (Ext.mod y)).trans (Ext.mod am)
 ·exact λc a=>by
   rw[Gd (by omega),Gd (by omega)]
end
section
variable {A : al} {g h : aa} {q : Hp} {k : Nat -> Nat} {st : Db} {m : Bx} {R : A2L}
theorem bL.gg(a:bL g h q k st m)(e:cy g){d:aa}(x:Mod (λc=>q.Sb c\/c=q.lg\/c=q.nt) h d):cy d:=
 e.ext (a.rest (C:=λc=>c=2\/c=3\/c=4) (x.aj λc _ b=>by
  rcases b with b|rfl|rfl
  ·exact .inl (a.kb c b)
  ·exact .inr (.inl a.kl)
  ·exact .inr (.inr a.kn)) (by decide)).ext
def cW(st:Db):Nt:=⟨st.next,st.aW,st.ts.map (·.1)⟩
theorem AL1 {B:Bn}{T:Nat->List Pr}(I:cy g)(f:bL g h q k st m)(hd:m.down=false)(ac:BJ (ff m) B)(u:ib (cW st))(ax: ∀a∈(cW st).names,ff m (aX a)=some (AX (Jy (T a)),bq)/\Hl (T a))(ay:1<=st.aJ/\st.aJ+2<=99999999)
  (S: ∀a,st.aJ<=a->a<=99999999->ff m (aC nn a)=none) (bg:ba m.files+1000000<=8000000000000)
  (ad:m.fuel≠ -1-> ∀n S' o,Ce n q.b S' o->o.down=true->Mod (λc=>q.Sb c\/c=q.nt) h n->(∀ c,S' c->q.Sb c\/h.size<=c)->(∀ G,Mm (ff o) G-> ∃l,BJ G l/\nc B st.aJ (cW st) T l)->(∀ b,(∀ a,b≠aC nn a)->ff o b=ff m b)->ba o.files<=ba m.files+700000->R (J6 J9 30) n)
  (aM: ∀n S' az o l,bL g n {q with Sb:=S'} az {st with aJ:=st.aJ+1} o->Jk m o->BJ (ff o) l->Aq l=cW st->l.T=T->l.L=B.L->l.aP=B.aP->l.aY<=max B.aY (st.aJ+1)->(∀ b,(∀ a,b≠aC nn a)->ff o b=ff m b)->
   (∀ a,st.aJ+1<=a->a<=99999999->ff o (aC nn a)=none)->ba o.files<=ba m.files+700000->Mod (λc=>q.Sb c\/c=q.nt) h n->Grow k az h.size->R (J6 J9 0) n):AA A P KV #[Ar q.d] h R:=by
 have aN: ∀p∈st.ts,p.1<=99999999:=λp aO=>by
  have v:=u.below p.1 (List.mem_map.2 ⟨p,aO,rfl⟩);have r:=u.next;simp only[cW] at v r;omega
 have aP:st.ts.length<=60000:=by have:=u.ct;simpa [cW] using this
 have aQ:=zN u;have aR:(cW st).names.length=st.ts.length:=by simp[cW]
 rw[aR] at aQ;have ae:(EK (cW st)).length<=1048576:=by omega
 refine ADn ?_;unfold WZ;refine aD (AY.mk (AB f.cell rfl) ?_);refine ARU f u.next u.aW.2 aP aN λv U=>⟨_,rfl,⟨AB (f.on U).cell rfl,?_⟩⟩
 have J:=f.on U;have bh:=U.size;have aS:(AX (EK ⟨st.next,st.aW,st.ts.map (·.1)⟩)).size=(EK (cW st)).length:=by rw[AP];rfl
 refine zj (J.im I) J.dM J.box J.tj (λn x=>J.gg I (x.aj λc _ e=> .inl e)) (by decide) (by omega) (by rw[aS];omega) (by omega) λr C K V aT aA=>⟨_,rfl,?_⟩
 rw[show bl (AX (EK ⟨st.next,st.aW,st.ts.map (·.1)⟩))=EK (cW st) from EJ _] at K V ⊢;have aU:=VY f.box.aR (aC nn st.aJ) (AX (Ca (EK (cW st))));have bi:=(Jh ae).2;rw[AP] at aU;have L:Mod (λc=>q.Sb c\/c=q.nt) h r:=(Ext.mod U).trans aT;have s: ∀c,C c->q.Sb c\/h.size<=c:=λc e=>(aA c e).imp id λh=>by omega
 rcases SC (k:=aC nn st.aJ) (d:=AX (Ca (EK (cW st)))) hd (zl (by decide) (by omega)) with⟨W,ag⟩|⟨ag,M,aE⟩
 ·rw[ag] at K ⊢;refine af.yes rfl ?_;exact ad (by rw[W];decide) r C _ K rfl L s (λG c=>⟨B,ac.dV c,APp⟩) (λb _=>rfl) (by rw[sH];omega)
 rw[ag] at V ⊢;refine af.no rfl ?_;rw[decide_eq_true rfl,HL] at V;generalize (CS m (aC nn st.aJ) (AX (Ca (EK (cW st))))).2=t at*
 rw[S st.aJ (A0 _) (by omega)] at aE;have X: ∀b,ff t b=if b=aC nn st.aJ then some (bq,AX (Ca (EK (cW st)))) else ff m b:=λb=>by
  rw[aE];split<;>simp only[Option.getD_none,Mh]
 have ah: ¬C q.nt:=λe=>by
  rcases aA _ e with h|h
  ·exact f.tj h
  ·exact h.2 rfl
 have aV:r[q.d]? =some (J2 (eE q st false) FW (0,0)):=L.ag f.cell (by rintro(h|h);exact f.nC h;exact f.dn h);refine aD (AY.mk (AB aV rfl) ?_);have aF:ff t (aC nn st.aJ)=some (bq,AX (Ca (EK (cW st)))):=by rw[X,if_pos rfl]
 have aW:cy r:=f.gg I (L.aj λc _ e=>e.imp id .inr);refine XR aW V K ah (by decide) (by omega) (λaY w D ai aj=>⟨_,_,rfl,?_⟩) λaZ w D ai aj=>⟨_,_,rfl,?_⟩
 ·
  have a0:(FY t (aC nn st.aJ)).1≠0:=aY;rcases Ot M.up aF with⟨W,E⟩|⟨E,_,_⟩
  ·have a1:NS t (aC nn st.aJ) true=(30,Ng t):=E;rw[a1] at D ⊢;refine af.yes rfl ?_;have z:Mod (λc=>q.Sb c\/c=q.nt) h w:=L.then (aj.aj λc _ e=>(s c e).imp .inl id);exact ad (λak=>by have:=M.calm ak;rw[W] at this;cases this) w C _ D rfl z s (λG c=>AMs ac ⟨ay.1,by omega⟩ u ae S ax (F1:=ff (Ng t)) X c) (λb i=>by
    rw[px,X,if_neg (i _)]) (by rw[sH];omega)
  ·exact absurd E a0
 ·rcases Ot M.up aF with⟨W,E⟩|⟨E,al,a2⟩
  ·have aG:(FY t (aC nn st.aJ)).1=0:=aZ;rw[E] at aG;cases aG
  have D:Ce w q.b C (FY t (aC nn st.aJ)).2:=D;have bj:=YW K.aR (aC nn st.aJ);generalize (FY t (aC nn st.aJ)).2=aH at*
  refine af.no rfl ?_;have N: ∀b,ff aH b=if b=aC nn st.aJ then some (AX (Ca (EK (cW st))),bq) else ff m b:=λb=>by
   rw[a2];by_cases i:b=aC nn st.aJ
   ·rw[if_pos i,if_pos i];simp only[Mh]
   ·rw[if_neg i,if_neg i,X,if_neg i]
  obtain⟨aI,aK⟩:=ANi ac ⟨ay.1,by omega⟩ u ae S ax N;have z:Mod (λc=>q.Sb c\/c=q.nt) h w:=L.then (aj.aj λc _ e=>by
   rcases e with e|rfl
   ·exact(s c e).imp .inl id
   ·exact .inl (.inr rfl))
  have a3:w[q.d]? =some (J2 (eE q st false) FW (0,0)):=z.ag f.cell (by rintro(h|h);exact f.nC h;exact f.dn h);refine aD (AY.mk (AB a3 rfl) ?_);have a4:J8 J9 (((st.aJ:Nat):Int)-(1:Int))=(st.aJ:Int)-1:=wrap_i64 (by omega) (by omega);rw[a4];have a5:cy w:=f.gg I (z.aj λc _ e=>e.imp id .inr);have a6: ∀n,Mod C w n->cy n:=λn x=>f.gg I ((z.then (x.aj λc _ e=>(s c e).imp .inl id)).aj λc _ e=>e.imp id .inr)
  have aL:ff aH (aC nn st.aJ)≠none:=by rw[N,if_pos rfl];simp
  refine AGA a5 a6 ai D al.up ah (by decide) (by omega) (λh=>absurd h (by omega)) (λa7 F am H an a8 Y ao a9 Z=>⟨_,rfl,?_⟩) λ_ F am H an bb Y ao a9 Z ap=>⟨_,rfl,?_⟩
  ·have aa:Mod (λc=>q.Sb c\/c=q.nt) h F:=z.then (Y.aj λc _ e=>(s c e).imp .inl id);obtain⟨l,aq,ar,au,av,aw,bc⟩:=AJJ (G:=ff H) aI aK aL λb=>by
    rcases Z b with v|⟨v,a,O,y,ab,r⟩
    ·exact .inl v
    ·exact .inr ⟨v,a,by omega,y,r⟩
   refine ad (λak=>a7 (al.calm (M.calm ak))) F am H an a8 aa (λc e=>s c (ao c e)) (λG c=>⟨l,aq.dV c,av,aw,by omega,.inr ⟨ar,au⟩⟩) (λb i=>?_) (by omega);rcases Z b with v|⟨_,a,_,_,_,r⟩
   ·rw[v,N,if_neg (i _)]
   ·exact absurd r (i a)
  ·have aa:Mod (λc=>q.Sb c\/c=q.nt) h F:=z.then (Y.aj λc _ e=>(s c e).imp .inl id);obtain⟨l,aq,ar,au,av,aw,bc⟩:=AJJ (G:=ff H) aI aK aL λb=>by
    by_cases i: ∃a:Nat,1<=a/\a<=99999999/\(a:Int)<=(st.aJ:Int)-1/\b=aC nn a
    ·obtain⟨a,O,y,ab,rfl⟩:=i;exact .inr ⟨Z a O y ab,a,by omega,y,rfl⟩
    ·exact .inl (ap b λa O y ab Q=>i ⟨a,O,y,ab,Q⟩)
   have bd: ∀b,(∀ a,b≠aC nn a)->ff H b=ff m b:=λb i=>by
    rw[ap b λa _ _ _=>i a,N,if_neg (i _)]
   have be:Ed F q.nt q.b nn (st.aJ+1) false:=ai.mod Y ah;have bf:=f.boxed (j:=4) (bH:= {st with aJ:=st.aJ+1}) an (aa.aj λc _ e=>e.imp id λh=> .inr ⟨rfl,h⟩) (λc e=>s c (ao c e)) rfl rfl rfl rfl (.inl ⟨by decide,rfl,rfl⟩) (.inr be);refine aM F am _ H l bf ((M.trans al).trans bb) aq ar au av aw (by omega) bd (λa O y=>?_) (by omega) aa sJ;rw[ap (aC nn a) λk _ _ bk Q=>by have:=Iz Q;omega,N,if_neg λQ=>by have:=Iz Q;omega];exact S a (by omega) y
end
end Go.Lf.G
namespace Go.Lf.G.M
open Go Go.Lf Go.Lf.G
theorem ALJ {N:al}{n:aa}{b:Nat}{T:Q7}{fr:Nat×Nat}{s:Sl}{l:List Pr}(f:n[b]? =some (J2 #[J4 s.p s.len s.cap] T fr))(v:View BO n s l)(ae:l.length<=1099511627776):
  EY N P (.func (.func DK) #[] #[J5 (some ⟨b,0,none⟩)]) (λc=>c<n.size/\(c=b\/s.ag=some c)) n l:=by
 refine⟨λc o=>o.1,_,_,rfl,λO=>by kernel_rfl,λe D O Q h ag hd hB R S=>?_⟩;rw[qV];refine Ic ?_;unfold Et;have E:=Aj f;have U: ∀d,Mod h e d->d[b]? =some (J2 #[J4 s.p s.len s.cap] T fr):=λd m=>by
  have w:=D b ⟨E,.inl rfl⟩;exact m.ag (w.trans f) (hd b ⟨E,.inl rfl⟩)
 have V: ∀i x,l[i]? =some x-> ∃a,s.p=some a/\ ∀d,Mod h e d->Cells d (a.add (i*3)) (BO.enc x):=λi x F=>by
  obtain⟨a,q,o⟩:=v.cells i x F;refine⟨a,q,λd m W u r=>?_⟩;have G:=o W u r;have H:=Vb G;rw[aU,aU] at H;have I:a.block<n.size/\(a.block=b\/s.ag=some a.block):=⟨H,.inr (by simp[Sl.ag,q])⟩;have w:=D _ I;refine m.ah ((Qw ?_).trans G) ?_
  ·rw[aU,aU];exact w
  ·rw[aU,aU];exact hd _ I
 refine Aa.mk (AL (U e Mod.refl) rfl) ?_;refine Loop.rule (λm x d=> ∃(i:Nat) (k:Nat->Prop),x=((i:Int),())/\m=l.length-i/\i<=l.length/\Mod h e d/\(∀ b,k b->h b\/e.size<=b)/\Q i true k d) ?_ ⟨0,h,rfl,rfl,by omega,Mod.refl,λb f=> .inl f,S⟩;rintro K m _ d ⟨i,k,rfl,rfl,F,t,y,r⟩ X;refine af.intro (λj=>?_) (λj=>?_)
 ·have p:i<l.length:=by simp[v.len] at j;omega
  obtain⟨a,q,o⟩:=V i _ (A2 p);have c1:=o d t;refine bE.mk q (by rw[v.len];exact p) ?_;refine AJ.mk (c1.pair.1) (AJ.mk c1.pair.2.1 (AZ.mk c1.pair.2.2 ?_));refine ao.pair λah Y ai z A aj=>?_
  refine AJ.mk (AL z rfl) (AJ.mk (AB z rfl) (AZ.mk (AB z rfl) ?_));have Z:=hB.bj _ _ _ _ _ r (A.aj (S':=λb=>¬k b/\e.size<=b) λ_ _ e=>e.elim);refine Em.mono (R i _ k Y (A2 p) Z) ?_;rintro _ ab ⟨g,B,rfl,ac,ad,J⟩;have L: ∀b,B b->h b\/e.size<=b:=λb f=>(ac b f).elim (y b) λak=> .inr (by have:=t.size;have:=A.size;omega)
  have M:Mod h e ab:=(t.trans A.mod).then (ad.aj λb _ f=>(y b f));refine⟨g,rfl,?_⟩;refine af.intro (λj=>?_) (λj=>?_)
  ·refine⟨rfl,i+1,g,B,M,L,J,λC=>?_,by omega⟩;subst C;cases j
  ·have C:g=true:=by simpa using j
   subst C;exact X _ _ _ (by omega) ⟨i+1,B,by rw[Ab (by omega)],rfl,by omega,M,L,J⟩
 ·have p:i=l.length:=by simp[v.len] at j;omega
  exact⟨rfl,i,true,k,t,y,r,λ_=>p,by omega⟩
theorem tt {d:al}{a:aa}{s:Sl}{l:List Pr}{e:A2L}(v:View BO a s l)(g:l.length<=1099511627776)
  (h: ∀fv b,EY d P fv (λc=>c<b.size/\(c=a.size\/s.ag=some c)) b l->Ext a b->b.size=a.size+1->e fv b):AA d P Cg #[J4 s.p s.len s.cap] a e:=by
 refine JF ?_;unfold FP;refine ao.mk λi _ j f k=>?_
 exact h _ i (ALJ j (v.ext f) g) f k
theorem pJ {aq:al}{t:aa}{fv:J0}{S:Nat->Prop}{l:List Pr}{e:A2M}{n:Int}{ar:A2L}(A:(fv= .nilFunc/\l= [])\/EY aq P fv S t l)(bh:l.length<=1099511627776)
  (W: ∀G o,Own BO AQ o G (P9 e n l)->(∀ c,G.ag=some c->t.size<=c)->Ext t o->ar (J4 G.p G.len G.cap) o):AA aq P L9 #[fv,J7 e,J6 J9 n] t ar:=by
 refine AEv ?_;unfold Yu;refine ao.mk λau _ aX aY aZ=>ao.mk λq _ a0 av bi=>ao.mk λd _ a1 X bj=>?_
 have Y:Ext t d:=(aY.trans av).trans X;have a2:d[t.size]? =some (J2 #[J7 e] BK (0,0)):=X.ag (av.ag aX (by simp)) (by simp);have aw:d[au.size]? =some (J2 #[J6 J9 n] Bp (0,0)):=X.ag a0 (by simp);refine ai.mk λK ax=>?_
 have ay:P9 e n l= []->K (true,()) d:=λf=>ax _ _ (af.yes rfl (W ⟨none,0,0⟩ d (f▸Own.nil) (λc j=>by simp[Sl.ag] at j) Y))
 rcases A with⟨rfl,rfl⟩|A
 ·exact⟨trivial,af.yes rfl (ay (by simp[P9]))⟩
 refine⟨A.one.2.1,af.no A.one.2.2 ?_⟩;refine AC.mk (AL aw rfl) ?_;cases Q:decide (n<=0)
 ·refine ax _ _ (af.no rfl ?_);have Q:0<n:=by simpa using Q
  have az: ∀o:aa,Mod (λc=>c=q.size) d o->Ext t o:=λo m=>Y.then (m.aj λc _ j=> .inr (by omega))
  have bk:=(Wr (l:=l) (Rf e)).length_le;refine Xr A (λb a=>Y.get b (A.1 b a) (by simp))
   (λi c Z r=>r[t.size]? =some (J2 #[J7 e] BK (0,0))/\r[au.size]? =some (J2 #[J6 J9 n] Bp (0,0))/\ ∃(s:Sl) (u:List Pr),r[q.size]? =some (J2 #[J4 s.p s.len s.cap] AR (0,0))/\Own BO AQ r s u/\(∀ b,Z b↔(b=q.size\/s.ag=some b))/\(∀ b,s.ag=some b->b<r.size/\q.size<b)/\match c with
    |none=>u=l.take i/\i<=(l.takeWhile (Rf e)).length/\(i:Int)<n
    |some aA=>aA=some 0/\u=P9 e n l)
   (λb=>b=q.size) (λb a f=>by have:=A.1 b a;omega) ?_ ?_ ?_ ?_ ?_ ?_
  ·rintro i c Z r ⟨_,_,s,u,q,v,h,k,_⟩ b a;rcases(h b).1 a with rfl|d
   ·exact Aj q
   ·exact(k b d).1
  ·rintro i c Z r o ⟨H,I,s,u,w,v,h,k,a3⟩ m;refine⟨m.ag H (λt=>by omega),m.ag I (λt=>by omega),s,u,m.ag w (λab=>ab.1 ((h _).2 (.inl rfl))),v.mod m (λc j ab=>ab.1 ((h _).2 (.inr j))),h,λb a=>⟨?_,(k b a).2⟩,a3⟩;have:=m.size;have:=(k b a).1;omega
  ·exact⟨a2,aw,⟨none,0,0⟩,[],a1,Own.nil,λb=>by simp[Sl.ag],λb a=>by simp[Sl.ag] at a,by simp,by omega,by simpa using Q⟩
  ·rintro i x ac r rec bm bn J ⟨H,I,s,u,w,v,h,k,rfl,R,a4⟩ aC aZ a5 a6 a7 aD;have bo:=(List.getElem?_eq_some_iff.1 J).1;have aE:=VN (p:=Rf e) (l:=l) R;refine ao.pair λbp aF bq a8 C br=>?_
   refine⟨rec,C.ag a5 (by simp),a6,?_⟩;generalize aG:aF.setIfInBounds (d.size+1) (.loop {rec with state:= .busy})=D;have B:Mod (λb=>b=d.size+1) aF D:=aG▸Mod.setObj rfl;have aH:D[d.size+1]? =some (.loop {rec with state:= .busy}):=by rw[<- aG];exact Cf (by omega)
   have T:=B.ag a8 (by omega);have U:=B.ag (C.ag H (by simp)) (by omega);have aI:=B.ag (C.ag I (by simp)) (by omega);have aJ:Mod (λb=>b=d.size+1) r D:=(Ext.mod C).trans B;have ad:=B.ag (C.ag w (by simp)) (by omega);have bs:=Aj w;have aK:=(v.ext C).mod B (λc j f=>aC ((h _).2 (.inr (f▸j))));have bt:=B.size;have aL:(l.take i).length=i:=by simp;omega
   refine ai.mk λag aM=>?_
   have a9:Rf e x=false->ag (true,()) D:=λL=>aM _ _ (af.yes rfl (aD _ _ (by
    refine⟨ac,λb a=> .inl a,aJ.aj λb _ a=> .inr a,aH,U,aI,s,l.take i,ad,aK,h,λb a=>⟨?_,(k b a).2⟩,rfl,?_⟩
    ·have:=(k b a).1;omega
    ·have:=aE.2.1 _ J L;have H:(l.takeWhile (Rf e)).take i=l.takeWhile (Rf e):=Ax (by omega);have I:(l.takeWhile (Rf e)).take n.toNat=l.takeWhile (Rf e):=Ax (by omega);unfold P9;rw[I,<-oE R,H])))
   have aN:Rf e x=true->ag (false,()) D:=λL=>aM _ _ (af.no rfl (by
    have bu:=aE.1 _ J L;refine Aa.mk (AL ad rfl) (AJ.mk (AL T rfl) (AJ.mk (AB T rfl) (AZ.mk (AB T rfl) ?_)));refine ao.aZ (E:=BO) (x:=x) rfl Gc aK (by rw[aL];omega) (by rw[aL];simp[maxLen];omega) λy ba aP F ah _=>?_
    have bb:s.ag≠some q.size:=λf=>by have:=k _ f;omega
    refine ae.mk (F.ag ad bb) (by simp) λaj bc M bv=>?_
    have bw:=F.size;have ak:aj[q.size]? =some (J2 #[J4 y.p y.len y.cap] AR (0,0)):=by simpa using bc
    have V:=aP.mod M (λc j f=>by
     rcases ah c j with d|d
     ·have:=k _ d;omega
     ·omega)
    have aQ:=M.ag (F.ag U (λf=>by have:=k _ f;omega)) (by omega);have am:=M.ag (F.ag aI (λf=>by have:=k _ f;omega)) (by omega);have bd:l.take i++ [x]=l.take (i+1):=by rw[AD,J];rfl
    rw[bd] at V;have aR: ∀b,(b=q.size\/y.ag=some b)->ac b\/r.size<=b:=by
     rintro b (rfl|a)
     ·exact .inl ((h _).2 (.inl rfl))
     ·rcases ah b a with d|d
      ·exact .inl ((h _).2 (.inr d))
      ·exact .inr (by omega)
    have aS:Mod (λb=>ac b\/b=d.size+1) r aj:=
     ((aJ.aj λb _ a=> .inr a).trans (F.aj λb _ a=> .inl ((h _).2 (.inr a)))).trans (M.aj λb _ a=> .inl ((h _).2 (.inl a)))
    have aT:=M.ag (F.ag aH (λf=>aC ((h _).2 (.inr f)))) (by omega);have aU: ∀b,y.ag=some b->b<aj.size/\q.size<b:=by
     intro b a;have bx:b<ba.size:=by
      rcases aP.row with⟨rfl,_⟩|⟨g,bz,L,be,_⟩
      ·simp[Sl.ag] at a
      ·simp[Sl.ag,L] at a;subst a;exact Aj be
     refine⟨by omega,?_⟩;rcases ah b a with d|d
     ·exact(k _ d).2
     ·omega
    refine Aa.mk (AL ak rfl) (AC.mk (AL am rfl) ?_);have aV:y.len=i+1:=by rw[V.len];simp;omega
    refine af.intro (λz=>aD _ _ ?_) (λz=>a7 _ ?_)
    ·refine⟨_,aR,aS,aT,aQ,am,y,_,ak,V,λ_=>Dd,aU,rfl,?_⟩;have z:((i+1:Nat):Int)=n:=by rw[aV] at z;simpa using z
     unfold P9;rw[<- z,As,oE (by omega)]
    ·refine⟨_,aR,aS,aT,aQ,am,y,_,ak,V,λ_=>Dd,aU,rfl,by omega,?_⟩;have z:((i+1:Nat):Int)≠n:=by rw[aV] at z;simpa using z
     omega))
   refine AJ.mk (AL U rfl) ?_;rw[Cn];refine af.intro (λN=>?_) (λN=>?_)
   ·refine AJ.mk (AL T rfl) (AJ.mk (AL U rfl) ?_);show ag (!aO x.key e,()) D;cases aW:aO x.key e
    ·exact a9 (by simp at N;simp[Rf,N,aW])
    ·exact aN (by simp[Rf,aW])
   ·exact aN (by simp at N;simp[Rf,N])
  ·rintro O' o ⟨_,_,s,u,w,v,h,k,rfl,R,a4⟩ O an bf ap;have bg:=O.size;refine Aa.mk (AL w rfl) ⟨ap,?_⟩;have:P9 e n l=l.take l.length:=by unfold P9;rw[Ax (by omega),<-oE R,Ax (by omega)]
   rw[<- this] at v;refine W s _ (v.mod (Mod.setObj (S:=λc=>c=d.size) rfl) λc j f=>an ((h _).2 (.inr (f▸j)))) (λc j=>by have:=k _ j;omega) ?_;exact(az o O).then (Mod.setObj (.inr (by omega)))
  ·rintro i aA O' o ⟨_,_,s,u,w,v,h,k,rfl,rfl⟩ J O an bf ap;have bg:=O.size;refine Aa.mk (AL w rfl) ⟨ap,?_⟩;refine W s _ (v.mod (Mod.setObj (S:=λc=>c=d.size) rfl) λc j f=>an ((h _).2 (.inr (f▸j)))) (λc j=>by have:=k _ j;omega) ?_;exact(az o O).then (Mod.setObj (.inr (by omega)))
 ·refine ay ?_;have:n.toNat=0:=by simp at Q;omega
  simp[P9,this]
end Go.Lf.G.M
namespace Go.Lf.G
open Go
open M (Sorted Ad Bu Ay Ae Am BL Ag bo A9 aM P9 Rf)
def kB(f t k:A2M):Bool:= !aO k f&&(decide (t=⟨#[]⟩)||aO k t)
def RS(f t:A2M)(l:List Pr):List Pr:=l.filter λx=>kB f t x.key
def ng(m:List Pr)(f t:A2M)(a:Int):List Pr:=(RS f t m).take a.toNat
theorem AAu {p:Pr->Bool}{a:A2M->Bool}(b: ∀x,p x=a x.key)(k:A2M): ∀l:List Pr,Ad k (l.filter p)=if a k then Ad k l else none
 | []=>by split<;>rfl
 |x::l=>by
  have c:=AAu b k l;rw[AT,M.BC];by_cases h:x.key=k
  ·rw[if_pos h];cases d:a k with
   |true=>rw[if_pos (by rw[b,h];exact d),M.BC,if_pos h];rfl
   |false=>
    rw[if_neg (by rw[b,h,d];decide),c,d];rfl
  ·rw[if_neg h];split
   ·rw[M.BC,if_neg h];exact c
   ·exact c
theorem fW(k:A2M): ∀ {l:List Pr},Sorted l->l.drop (aM k l)=l.filter λx=> !aO x.key k
 | [],_=>by simp
 |x::l,s=>by
  have b:=List.pairwise_cons.1 s;rw[Y0,AT];by_cases h:aO x.key k=true
  ·rw[if_pos h,if_neg (by simp[h]),I0];exact fW k b.2
  ·have c: ∀a∈l,(!aO a.key k)=true:=λa d=>by
    grind [aO,absurd,M.Da]
   rw[if_neg h,if_pos (by simp[h]),HP,List.filter_eq_self.2 c]
theorem sK(t:A2M): ∀ {l:List Pr},Sorted l->l.takeWhile (Rf t)=l.filter (Rf t)
 | [],_=>rfl
 |x::l,s=>by
  have a:=List.pairwise_cons.1 s;rw[My,AT];by_cases h:Rf t x=true
  ·rw[if_pos h,if_pos h,sK t a.2]
  ·rw[if_neg h,if_neg h];refine(List.filter_eq_nil_iff.2 λc d b=>h ?_).symm;have e:=a.1 c d;unfold M.Rf at b ⊢;rw[DG] at b ⊢
   grind [M.Da]
theorem AI4 {f t:A2M}{l:List Pr}(s:Sorted l)(b:l.length<=1099511627776):P9 t 1099511627776 (l.drop (aM f l))=RS f t l:=by
 unfold M.P9;have a:Sorted (l.drop (aM f l)):=s.sublist (List.drop_sublist _ _);rw[sK t a,fW f s,List.filter_filter,Ax]
 ·unfold RS;exact HI λx _=>by unfold kB M.Rf;rw[Bool.and_comm]
 grind
theorem XT {f t:A2M}{l:List Pr}(s:Sorted l):Sorted (RS f t l):=s.sublist Gk
theorem AIz(k f t:A2M)(l:List Pr):Ad k (RS f t l)=if kB f t k then Ad k l else none:=AAu (λ_=>rfl) k l
theorem AFR(k f t:A2M): ∀a:List (List Pr),Am k (a.map (RS f t))=if kB f t k then Am k a else none
 | []=>by split<;>rfl
 |l::a=>by
  rw[BW,M.ES,M.ES,AFR k f t a,AIz];split<;>rfl
theorem AQZ {f t:A2M}{c:List (List Pr)}(d:bo c):bo (c.map (RS f t)):=⟨λl a=>by
  obtain⟨x,b,rfl⟩:=List.mem_map.1 a;exact XT (d.sorted x b),λl a=>by
  obtain⟨x,b,rfl⟩:=List.mem_map.1 a;exact λe i=>d.aR x b e (List.mem_filter.1 i).1⟩
theorem ALu {f t:A2M}{a:List (List Pr)}(b:bo a):Ae (a.map (RS f t))=RS f t (Ae a):=
 (M.EC _).ext (XT (M.EC _)) λk=>by simp_all [M.LX,AQZ,AFR,AIz]
theorem AQ8 {f t:A2M}{a:List (List Pr)}(c:bo a)(b:Int):P9 t b (A9 (Ae (a.map (RS f t))))=ng (A9 (Ae a)) f t b:=by
 rw[ALu c];have d:A9 (RS f t (Ae a))=RS f t (A9 (Ae a)):=by simp_all [M.A9,RS,List.filter_filter,HI,Bool.and_comm]
 rw[d];unfold M.P9 ng;have h: ∀x∈RS f t (A9 (Ae a)),Rf t x=true:=λx e=>by
  have:=(List.mem_filter.1 e).2;unfold kB at this;rw[A3] at this;exact this.2
 rw[sK t (XT (VK (M.EC _))),List.filter_eq_self.2 h]
def TZ(A:al)(h:aa)(s:Sl)(b:List (List Pr)):Prop:=
 ∃a,Own jZ Bj h s a/\a.length=b.length/\ ∀(i:Nat) (v:iv) (l:List Pr),a[i]? =some v->b[i]? =some l->(∃ d,EY A P v.v d h l/\ ∀c,d c->s.ag≠some c)/\l.length<=1099511627776
theorem EY.at {A:al}{fv:J0}{b T:Nat->Prop}{h e:aa}{l:List Pr}(d:EY A P fv b h l)(x:Mod T h e)(f: ∀c,b c-> ¬T c):EY A P fv b e l:=
 EY.aj d (λ_ h=>h) (λc a=>by have:=d.1 c a;have:=x.size;omega) λc a=>x.get c (d.1 c a) (f c a)
theorem TZ.ext {A:al}{h a:aa}{s:Sl}{b:List (List Pr)}(q:TZ A h s b)(x:Ext h a):TZ A a s b:=by obtain⟨c,d,e,f⟩:=q;refine⟨c,d.ext x,e,λi v l j n=>?_⟩;obtain⟨⟨o,p,r⟩,t⟩:=f i v l j n;exact⟨⟨o,EY.at p x (λ_ _ h=>h),r⟩,t⟩
theorem TZ.nil {A:al}{h:aa}:TZ A h ⟨none,0,0⟩ []:=⟨[],Own.nil,rfl,λi v l h=>by simp at h⟩
theorem TZ.lK {A:al}{h:aa}{s:Sl}{b:List (List Pr)}(q:TZ A h s b):M.tq A (λ_=>False) h s b:=by obtain⟨f,d,j,n⟩:=q;refine⟨f,d.view,λc a=>⟨d.lt a,λh=>h⟩,j,λi v l o p=> .inr ?_⟩;obtain⟨⟨t,e,u⟩,r⟩:=n i v l o p;exact⟨e.aj (λc a=>⟨e.1 c a,λh=>h⟩) (λc a=>a.1) (λ_ _=>rfl),r⟩
theorem TZ.one {A:al}{h a:aa}{fv:J0}{l:List Pr}{e:Nat->Prop}{b:Nat}(d:EY A P fv e h l)(j:l.length<=1099511627776)(n:a[b]? =some (J2 #[fv] Bj (0,0)))(x:Ext h a)(s:h.size<=b):TZ A a ⟨some ⟨b,0,none⟩,1,1⟩ [l]:=by
 refine⟨[⟨fv,d.one.1⟩],Own.lit (l:= [(⟨fv,d.one.1⟩:iv)]) n rfl (by simp[maxLen]),rfl,λi v t a f=>?_⟩;have o:i=0:=by grind
 subst o;simp only[HC,BT] at a f;subst a f;exact⟨⟨e,EY.at d x (λ_ _ h=>h),λc p r=>by have:=d.1 c p;simp[Sl.ag] at r;omega⟩,j⟩
theorem TZ.add {A:al}{h:aa}{s:Sl}{p:List (List Pr)}{fv:J0}{l:List Pr}{e:Nat->Prop}{K:Sl->aa->Prop}{z:Q7}(q:TZ A h s p)(f:EY A P fv e h l)(H: ∀c,e c->s.ag≠some c)(I:l.length<=1099511627776)(J:p.length<=1000000)
  (B: ∀a d,TZ A d a (p++ [l])->Mod (λb=>s.ag=some b) h d->(∀ b,a.ag=some b->s.ag=some b\/h.size<=b)->K a d):
  ao h (J2 #[fv] Bj) λb j=>BG A P (Builtin.append_ #[BD,BD] z #[J4 s.p s.len s.cap,J4 (some ⟨b,0,none⟩) 1 1]) j λv d=> ∃a:Sl,v=J4 a.p a.len a.cap/\K a d:=by
 obtain⟨r,C,D,L⟩:=q;refine ao.aZ (E:=jZ) (x:=⟨fv,f.one.1⟩) (s:=s) (l:=r) rfl M.AR6 C (by omega) (by simp[maxLen];omega) λa d F u w _=>?_
 have N: ∀ {T:Nat->Prop} {t:J0} {n:List Pr},EY A P t T h n->(∀ c,T c->s.ag≠some c)-> ∃e,EY A P t e d n/\ ∀c,e c->a.ag≠some c:=λ{T} t n f y=>⟨T,EY.at f u (λc o=>y c o),λc o G=>by
  rcases w c G with j|j
  ·exact y c o j
  ·have:=f.1 c o;omega⟩
 refine B a d ⟨r++ [⟨fv,f.one.1⟩],F,by simp[D],λi v n j O=>?_⟩ u w;by_cases Q:i<r.length
 ·grind
 grind
section
variable {A : al} {g h : aa} {q : Hp} {k : Nat -> Nat} {st : Db} {m : Bx} {R : A2L}
def aE(st:Db):List (List Pr):=st.ts.map (·.2)
def Cr(st:Db):List Pr:=MM st.fr (aE st)
theorem bL.j8(a:bL g h q k st m): ∀p∈st.ts,Hl p.2:=λp c=>by
 obtain⟨i,b,rfl⟩:=DB c;have d:i<q.ps.length:=by rw[a.dj];exact b
 obtain⟨e,f,_,_,_,t⟩:=a.cS i q.ps[i] st.ts[i] (A2 d) (A2 b);exact t
theorem bL.gb(b:bL g h q k st m):bo (st.fr::aE st):=by
 refine⟨λl a=>?_,λl a=>?_⟩<;>rcases List.mem_cons.1 a with rfl|a
 ·exact b.fresh.sorted
 ·obtain⟨p,c,rfl⟩:=List.mem_map.1 a;exact(b.j8 p c).aR.1
 ·exact b.fresh.aR
 ·obtain⟨p,c,rfl⟩:=List.mem_map.1 a;exact(b.j8 p c).aR.2
theorem sL(f t:A2M)(l:List Pr):(RS f t l).length<=l.length:=A0n ..
theorem ASm {f t:A2M}(d:bL g h q k st m)(ap:st.fr.length<=1000000)(aq:st.ts.length<=100000)
  (O: ∀fv e,EY A P fv (λc=>c<e.size) e (Ae ((st.fr::aE st).map (RS f t)))->Ext h e->R fv e):AA A P Sr #[Ar q.d,J7 f,J7 t] h R:=by
 refine AE8 ?_;unfold YK;refine aD (AY.mk (AB d.cell rfl) ?_);refine M.tc d.fresh λfv j Q w ar=>⟨_,rfl,?_⟩
 refine M.pJ (.inr Q) (by grind) λsl au y av z=>⟨_,rfl,?_⟩
 rw[AI4 d.fresh.sorted (by omega)] at y;have aw:=sL f t st.fr;refine M.tt y.view (by omega) λax S B C ay=>⟨_,rfl,Ze.mk B.one.1 (ao.mk λaz _ T D aA=>?_)⟩
 have U:=TZ.one B (by omega) T D (A0 _);have E:=((w.trans z).trans C).trans D;have V:=d.on E;refine aD (Aa.mk (s:=q.tp) (AB V.cell rfl) ?_);have aC:=d.dj;have aF:=d.ck.len;refine Loop.rule (λF x p=> ∃(i:Nat) (sl:Sl),x=(sl,(i:Int),())/\F=q.ps.length-i/\i<=q.ps.length/\Ext h p/\(∀ c,sl.ag=some c->h.size<=c)/\TZ A p sl ((st.fr::(aE st).take i).map (RS f t))) ?_ ⟨0,⟨some ⟨S.size,0,none⟩,1,1⟩,rfl,rfl,by omega,E,λc b=>by
  simp[Sl.ag] at b;have:=((w.trans z).trans C).size;omega,by simpa using U⟩
 rintro K F _ p ⟨i,sl,rfl,rfl,aG,l,G,n⟩ W;dsimp only;refine af.intro (λX=>?_) (λX=>?_)
 ·have o:i<q.ps.length:=by grind
  have Y:i<st.ts.length:=by omega
  have H:q.ps[i]? =some q.ps[i]:=A2 o;have Z:st.ts[i]? =some st.ts[i]:=A2 Y;have aa:(aE st)[i]? =some st.ts[i].2:=by unfold aE;grind
  have I:=d.on l;refine I.ck.view.idx H λa _ c=>AY.mk (Cells.pt c) ?_
  obtain⟨aH,aI,ab,ac,aJ,r⟩:=I.cS i _ _ H Z;refine zL ab ac r.eQ λaK aL ad u aM=>⟨_,rfl,?_⟩
  have aN:=r.many;refine M.pJ (.inr ad) (by grind) λaO aP J ae L=>⟨_,rfl,?_⟩
  rw[AI4 r.aR.1 (by omega)] at J;have aQ:=sL f t st.ts[i].2;refine M.tt J.view (by omega) λaR aS N ag aT=>⟨_,rfl,Ze.mk N.one.1 ?_⟩
  have v:=(u.trans L).trans ag;refine TZ.add (n.ext v) N (λc b ah=>?_) (by omega) (by simp[aE];omega) λai e aj ak al=>?_
  ·obtain⟨aU,am,_,_⟩:=n;have aV:=am.lt ah;rcases b.2 with j|j
   ·have:=(u.trans L).size;omega
   ·have:=ae c j;have:=u.size;omega
  ·rw[Ab (by omega)];refine W (q.ps.length-(i+1)) _ _ (by omega) ⟨i+1,ai,rfl,rfl,o,?_,λc b=>?_,?_⟩
   ·exact(l.trans v).then (ak.aj λc _ b=> .inr (G c b))
   ·rcases al c b with j|j
    ·exact G c j
    ·have:=l.size;have:=v.size;omega
   ·rw[AD,aa];simpa using aj
 ·have o:i=q.ps.length:=by grind
  subst o;rw[Ax (by simp[aE];omega)] at n;refine M.sV n.lK (λc h=>h.elim) (by simp[aE];omega) (AQZ d.gb) λfv e an x _=>⟨_,rfl,O fv e (an.aj (λc b=>b.1) (λc b=>b) (λ_ _=>rfl)) (l.trans x)⟩
theorem Zf(b:bL g h q k st m){K:Bool×Unit->aa->Prop}(c:K (false,()) h):af ((some (⟨q.d,0,none⟩:Q6)).isNone) (K (true,()) h) (At (some (⟨q.d,0,none⟩:Q6)) λa=>AZ h (a.add 8) λt=>K (t,()) h):=
 af.no rfl (aD (AZ.mk (AB b.cell rfl) c))
theorem ARL {f t:A2M}{d:Int}(a:bL g h q k st m)(n:st.fr.length<=1000000)(o:st.ts.length<=100000)(C:(Ae (st.fr::aE st)).length<=1099511627776)
  (p: ∀s b,Own BO AQ b s (ng (Cr st) f t d)->(∀ c,s.ag=some c->h.size<=c)->Ext h b->R (J1 #[J4 s.p s.len s.cap,J6 J9 0]) b):AA A P QD #[Ar q.d,J7 f,J7 t,J6 J9 d] h R:=by
 refine ADa ?_;unfold WU;refine ai.mk λK r=>Zf a (r _ _ (af.no rfl ?_))
 refine ASm a n o λfv D u e=>⟨_,rfl,?_⟩
 refine M.sY (.inr u) λE F v i G=>⟨_,rfl,?_⟩
 have w:(A9 (Ae ((st.fr::aE st).map (RS f t)))).length<=1099511627776:=by
  rw[ALu a.gb]
  grind [sB,RS,Ae,aE,sL]
 refine M.pJ (.inr v) w λj x l y z=>⟨j,rfl,?_⟩
 rw[AQ8 a.gb] at l;exact p j x l (λc B=>by have:=y c B;have:=(e.trans i).size;omega) ((e.trans i).trans z)
theorem AFK(key:A2M): ∀ {l:List Pr},Sorted l->M.NZ key l=WC key l
 | [],_=>rfl
 |x::l,s=>by
  have c:=List.pairwise_cons.1 s;have a:=AFK key c.2;unfold M.NZ WC at a ⊢;rw[Y0,M.BC];by_cases h:aO x.key key=true
  ·rw[if_pos h,if_neg (M.NI h),Wf];exact a
  ·rw[if_neg h,HC];by_cases b:x.key=key
   ·simp[b]
   ·have d:Ad key l=none:=M.EO λe f i=>h (by
     grind)
    simp[b,d]
def IQ(m:List Pr)(key:A2M):A2M×Bool:=match Ad key m with|some p=>(p.val,true)|none=>(⟨#[]⟩,false)
theorem APH {key:A2M}(d:bL g h q k st m)(al:st.ts.length<=100000)(I:key.size<=1099511627776)
  (v: ∀B,Ext h B->R (J1 #[J7 (IQ (Cr st) key).1,J3 (IQ (Cr st) key).2,J6 J9 0]) B):AA A P OY #[Ar q.d,J7 key] h R:=by
 refine AE0 ?_;unfold Xx;refine ai.mk λK J=>Zf d (J _ _ (af.no rfl ?_))
 refine aD (AY.mk (AB d.cell rfl) ?_);have C: ∀p,(Ad key st.fr).or (Am key (aE st))=some p->IQ (Cr st) key=(p.val, !p.gone):=λp f=>by
  have e:Ad key (Cr st)=alive (some p):=by unfold Cr;rw[Gs key d.gb,f]
  unfold IQ;rw[e,IP];cases L:p.gone with
  |false=>rfl
  |true=>
   have N:Ag p=0:=by
    cases j:Ad key st.fr with
    |some x=>
     rw[j] at f;simp only[Option.some_or,BT] at f;subst f;exact d.fresh.aR x (M.Oi j).2
    |none=>
     rw[j,LI] at f;unfold M.Am at f;obtain⟨l,O,Q⟩:=A07 f;exact d.gb.aR l (AH _ O) p (M.Oi Q).2
   have S:=(pg N).gone L;show((⟨#[]⟩:A2M),false)=(p.val, !true);rw[sv S];rfl
 have T:(Ad key st.fr).or (Am key (aE st))=none->IQ (Cr st) key=(⟨#[]⟩,false):=λf=>by
  have e:Ad key (Cr st)=alive none:=by unfold Cr;rw[Gs key d.gb,f]
  unfold IQ;rw[e];rfl
 refine M.AQm d.fresh λam U=>⟨_,_,_,_,rfl,?_⟩
 rw[AFK key d.fresh.sorted];refine ao.pair λb V _ n W an=>?_
 have w:=U.trans W;cases j:Ad key st.fr with
 |some p=>
  have e:WC key st.fr=(p,true):=by unfold WC;rw[j]
  rw[e] at n ⊢;refine af.yes rfl (AJ.mk (AB n rfl) (AZ.mk (AB n rfl) ?_));have:=v V w;rw[C p (by rw[j];rfl)] at this;exact this
 |none=>
  have e:WC key st.fr=(M.Uv,false):=by unfold WC;rw[j]
  rw[e] at n ⊢;refine af.no rfl ?_;have X:=d.on w;refine aD (Aa.mk (s:=q.tp) (AB X.cell rfl) ?_);have ap:=d.dj;have aq:=d.ck.len;refine Loop.rule (λD x y=> ∃i:Nat,x=((i:Int),())/\D=q.ps.length-i/\i<=q.ps.length/\Ext h y/\Am key ((aE st).take i)=none) ?_ ⟨0,rfl,rfl,by omega,w,rfl⟩;rintro ar D _ y ⟨i,rfl,rfl,au,z,o⟩ Y;dsimp only;refine af.intro (λZ=>?_) (λZ=>?_)
  ·have r:i<q.ps.length:=by grind
   have aa:i<st.ts.length:=by omega
   have E:q.ps[i]? =some q.ps[i]:=A2 r;have ab:st.ts[i]? =some st.ts[i]:=A2 aa;have ac:(aE st)[i]? =some st.ts[i].2:=by unfold aE;grind
   have F:=d.on z;refine F.ck.view.idx E λa _ c=>AY.mk (Cells.pt c) ?_
   obtain⟨av,aw,ad,ax,ay,ae⟩:=F.cS i _ _ E ab;refine ARp ad ae.eQ I λaz ag=>⟨_,_,_,_,rfl,?_⟩
   refine ao.pair λaA ah _ t aj aC=>?_
   have G:=(z.trans ag).trans aj;have H:(aE st).take (i+1)=(aE st).take i++ [st.ts[i].2]:=by rw[AD,ac];rfl
   have ak:Am key (aE st)=(Ad key st.ts[i].2).or (Am key ((aE st).drop (i+1))):=by
    conv=>lhs;rw[<- DO (i+1) (aE st),H]
    rw[M.QY,M.QY,o,M.ES];have:Am key ([]:List (List Pr))=none:=rfl;rw[this,Option.or_none,LI]
   cases u:Ad key st.ts[i].2 with
   |some p=>
    have e:WC key st.ts[i].2=(p,true):=by unfold WC;rw[u]
    rw[e] at t ⊢;refine af.yes rfl (AJ.mk (AB t rfl) (AZ.mk (AB t rfl) ?_));have:=v ah G;rw[C p (by rw[j,ak,u];rfl)] at this;exact this
   |none=>
    have e:WC key st.ts[i].2=(M.Uv,false):=by unfold WC;rw[u]
    rw[e] at t ⊢;refine af.no rfl ?_;rw[Ab (by omega)];refine Y (q.ps.length-(i+1)) _ _ (by omega) ⟨i+1,rfl,rfl,r,G,?_⟩;rw[H,M.QY,o,M.ES,u];rfl
  ·have r:i=q.ps.length:=by grind
   subst r;rw[Ax (by simp[aE];omega)] at o;have:=v y z;rw[T (by rw[j,o];rfl)] at this;exact this
end
open M (Sorted Ad Bu Ay Ae Am BL Ag bo A9)
def lD(a:Nat):Nat:=20000*a+10000000
structure cu where
 C:Nat
 W0:Nat
 A:Nat
 hC:C<=100000
 hA:A<=60000
 hW:W0+A*lD C<=8000000000000
 bx:Nat
 zf:A2M->Option (A2M×A2M)
def cu.K(a:cu):Nat:=lD a.C
theorem cu.wt(b:cu){a:Nat}(c:a<=b.A):b.W0+a*b.K<=8000000000000:=by
 have d:=b.hW;have f:a*b.K<=b.A*b.K:=AN _ c;have e:b.A*lD b.C=b.A*b.K:=rfl;rw[e] at d;generalize a*b.K=x at*
 generalize b.A*b.K=g at*
 omega
theorem AFw: ∀a:List (List UInt8),(∀ r∈a,r.length<=1048576)->(aI a).length<=(a.map List.length).sum+a.length*14
 | [],_=>by simp
 |r::a,b=>by
  have d:=(Jh (b r CH)).2;have e:=AFw a λx c=>b x (AH _ c)
  rw[Xp];simp only[A1,BW,GW,A6];omega
theorem AFn: ∀a:List (List Pr),((a.map BQ).map List.length).sum=(BQ a.flatten).length
 | []=>rfl
 |b::a=>by
  simp only[BW,GW,List.flatten_cons,AFn a];simp[BQ]
theorem AN7 {a b s c f p:Nat}(d:b<=s+c*14)(e:s=p+f)(g:p<=a*8276)(h:f<=1048576)(i:c<=a+2):b<=8400*a+1100000:=by omega
theorem AMA {l:List Pr}(t:Hl l):(Jy l).length<=8400*l.length+1100000:=by
 have c:=AFw (aT l (NQ l)) (OD t.eQ);have d:((aT l (NQ l)).map List.length).sum=(BQ l).length+(WI l (NQ l)).length:=by have a:=AFn (LJ l);rw[ANK] at a;rw[<- a];simp only[aT,C2,List.sum_append,BW,RM,GW,List.sum_nil,G4]
 have b:(aT l (NQ l)).length<=l.length+2:=by
  have b:(aT l (NQ l)).length=Br l+1:=by simp[aT,JM]
  have e:Br l<=l.length+1:=by unfold Br;omega
  omega
 exact AN7 c d (MN t.ok) (Ya t.eQ) b
def OT(a:Bn):Nat:=((Aq a).names.map λb=>(a.T b).length).sum+(Ig a).flatten.length
structure Ei (F:bP) (st:Db) (D:Bn):Prop where
 ok:BJ F D
 names:(Aq D).names=st.ts.map (·.1)
 ck: ∀p∈st.ts,D.T p.1=p.2
 aW:(Aq D).aW=st.aW
 next:(Aq D).next<=st.next
 below: ∀p∈st.ts,p.1<st.next
 fr:st.fr=Ey D
 gL: ∀n,st.aw<=n->n<=99999999->(st.br=true->n≠st.aw)->F (aC nl n)=none
 jF:st.br=true->F (aC nl st.aw)=some (AX (aI ((D.L st.aw).map (BZ st.aw))),bq)
 jE: ∀n,st.aJ<=n->n<=99999999->F (aC nn n)=none
 eT:1<=st.aW/\st.aW<=st.aw
 aJ:1<=st.aJ
 clean: ∀n,F (aX n)≠none->n∈st.ts.map (·.1)
structure TR (st:Db) (D:Bn) (aH c:Nat):Prop where
 aw:st.aw<=8*aH+4
 aJ:st.aJ<=8*aH+4
 next:st.next<=8*aH+4
 ct:st.ts.length<=aH
 bY:OT D<=c
 aP:D.aP<=8*aH+6
 aY:D.aY<=8*aH+6
structure jq (F:bP) (D:Bn) (aH c:Nat):Prop where
 aP:D.aP<=8*aH+8
 aY:D.aY<=8*aH+8
 next:(Aq D).next<=8*aH+8
 aW:(Aq D).aW<=8*aH+8
 ct:(Aq D).names.length<=aH
 bY:OT D<=c
 nD: ∀n,F (aX n)≠none->n<8*aH+8
def Rec(b:bP)(aH c:Nat)(d:List Pr):Prop:= ∃a,BJ b a/\jq b a aH c/\cH a=d
def kC(a:bP)(aH c:Nat)(b:List Pr):Prop:= ∀G,Mm a G->Rec G aH c b
theorem TR.mono {st:Db}{a:Bn}{aH b c d:Nat}(l:TR st a aH c)(e:aH<=b)(f:c<=d):TR st a b d:=
 ⟨by have:=l.aw;omega,by have:=l.aJ;omega,by have:=l.next;omega,by have:=l.ct;omega,by have:=l.bY;omega,by have:=l.aP;omega,by have:=l.aY;omega⟩
theorem jq.mono {a:bP}{b:Bn}{aH d c e:Nat}(l:jq a b aH c)(h:aH<=d)(i:c<=e):jq a b d e:=
 ⟨by have:=l.aP;omega,by have:=l.aY;omega,by have:=l.next;omega,by have:=l.aW;omega,by have:=l.ct;omega,by have:=l.bY;omega,λf g=>by have:=l.nD f g;omega⟩
theorem Rec.mono {a:bP}{aH b c d:Nat}{e:List Pr}(f:Rec a aH c e)(g:aH<=b)(h:c<=d):Rec a b d e:=by obtain⟨i,j,k,l⟩:=f;exact⟨i,j,k.mono g h,l⟩
theorem Mm.some {a G:bP}(c:Mm a G){x:A2M}(b:G x≠none):a x≠none:=λd=>b (by
 have:=c x;rw[d] at this;exact this)
theorem Ei.iK {b:bP}{st:Db}{a:Bn}(L:Ei b st a):(Aq a).names.length=st.ts.length:=by rw[L.names];simp
theorem Ei.aE {b:bP}{st:Db}{a:Bn}(L:Ei b st a):(Aq a).names.map a.T=G.aE st:=by rw[L.names,AW];exact CM λp c=>L.ck p c
theorem Ei.map {b:bP}{st:Db}{a:Bn}(L:Ei b st a):cH a=Cr st:=by unfold cH Cr MM;rw[L.aE,<-L.fr]
theorem Ei.lM {b:bP}{st:Db}{a:Bn}(L:Ei b st a):ib (Aq a):=zP L.ok
theorem Ei.nd {a:bP}{st:Db}{b:Bn}(L:Ei a st b):(st.ts.map (·.1)).Nodup:=by rw[<- L.names];exact L.lM.nd
theorem Ei.jI {d F':bP}{st:Db}{a:Bn}{aH c:Nat}(L:Ei d st a)(l:TR st a aH c)(e: ∀b,F' (aX b)≠none->b<8*aH+8):jq F' a aH c:=by have:=L.next;have:=l.next;have:=L.eT;have:=l.aw;exact⟨by have:=l.aP;omega,by have:=l.aY;omega,by omega,by rw[L.aW];omega,by rw[L.iK];exact l.ct,l.bY,e⟩
theorem Ei.fJ {a:bP}{st:Db}{b:Bn}{aH c:Nat}(L:Ei a st b)(l:TR st b aH c){n:Nat}(d:a (aX n)≠none):n<st.next:=by obtain⟨p,e,rfl⟩:=List.mem_map.1 (L.clean n d);exact L.below p e
theorem Ei.j7 {a:bP}{st:Db}{b:Bn}{aH c:Nat}(L:Ei a st b)(l:TR st b aH c):a (aX st.next)=none:=by
 cases d:a (aX st.next) with
 |none=>rfl
 |some p=>exact absurd (L.fJ l (n:=st.next) (by rw[d];simp)) (by omega)
theorem Ei.pF {b:bP}{st:Db}{a:Bn}{aH c:Nat}(L:Ei b st a)(l:TR st a aH c):kC b aH c (Cr st):=λG d=>by
 refine⟨a,L.ok.dV d,L.jI l λf e=>?_,L.map⟩;have g:=L.fJ l (d.some e);have:=l.next;omega
theorem Ei.jG {e F':bP}{st:Db}{b:Bn}{aH c:Nat}(L:Ei e st b)(l:TR st b aH c)(h: ∀x,(∀ a,a∉st.ts.map (·.1)->x≠aX a)->F' x=e x)(i: ∀a,F' (aX a)≠none->a<8*aH+8):BJ F' b/\kC F' aH c (Cr st):=by
 have f:BJ F' b:=L.ok.gf λx j=>h x λa d=>j a (by rw[L.names];exact d)
 exact⟨f,λG g=>⟨b,f.dV g,L.jI l λa d=>i a (g.some d),L.map⟩⟩
theorem ALZ {a b:Bn}{f:Nat}(d:b.L=a.L)(e:b.aP=a.aP)(g:(Aq b).aW=f):Ig b=(List.range a.aP).flatMap λc=>if c<f then [] else a.L c:=by unfold Ig;rw[d,e,g]
theorem AFl {a b:Bn}(c:b.L=a.L)(d:b.aP=a.aP)(e:(Aq b).aW=(Aq a).aW):Ig b=Ig a:=by rw[ALZ c d e];rfl
theorem ANc {c a:Bn}{f:Nat}(d:a.L=c.L)(e:a.aP=c.aP)(g:(Aq a).aW=f)(h: ∀b,f<=b->c.L b= []):Ig a= []:=by
 rw[ALZ d e g,List.flatMap_eq_nil_iff];intro b _;split
 ·rfl
 ·exact h b (by omega)
theorem AHv {a b:Bn}(d:b.L=a.L)(e:b.aP=a.aP)(c:Aq b=Aq a)(f:b.T=a.T):cH b=cH a/\OT b=OT a:=by have g:=AFl d e (congrArg Nt.aW c);unfold cH Ey OT;rw[g,c,f];exact⟨rfl,rfl⟩
structure Bq (B:cu) (g h:aa) (q:Hp) (k:Nat->Nat) (st:Db) (m:Bx) (D:Bn) (aH c:Nat):Prop where
 mem:bL g h q k st m
 up:m.down=false
 eJ:Ei (ff m) st D
 lim:TR st D aH c
 wt:ba m.files<=B.W0+aH*B.K
 hc:c<=B.C
theorem Bq.aH {b:cu}{g d:aa}{e:Hp}{f:Nat->Nat}{st:Db}{m:Bx}{h:Bn}{aH i c:Nat}(a:Bq b g d e f st m h aH c)(j:aH<=i):Bq b g d e f st m h i c:=
 ⟨a.mem,a.up,a.eJ,a.lim.mono j (A0 _),AG a.wt (KK (AN _ j) _),a.hc⟩
theorem AOr(l:List (List Pr)):M.total l=(l.map List.length).sum:=rfl
theorem Ei.ct {b:bP}{st:Db}{a:Bn}(L:Ei b st a):OT a=M.total (G.aE st)+(Ig a).flatten.length:=by unfold OT;rw[<- L.aE,AOr,AW];rfl
theorem AMm(a:Bn):(Ey a).length<=(Ig a).flatten.length:=by have:=M.RQ (l:=(Ig a).flatten) (t:= []);unfold Ey;simpa using this
theorem Ei.dq {b:bP}{st:Db}{a:Bn}{aH c:Nat}(L:Ei b st a)(l:TR st a aH c):st.fr.length+M.total (G.aE st)<=c:=by have d:=L.ct;have e:=AMm a;have f:=l.bY;rw[L.fr];omega
theorem Ei.jK {b:bP}{st:Db}{a:Bn}{aH c:Nat}(L:Ei b st a)(l:TR st a aH c):(Ae (st.fr::G.aE st)).length<=c:=by have d:=M.Tw (st.fr::G.aE st);rw[M.AKD] at d;have:=L.dq l;omega
theorem Ei.fR {b:bP}{st:Db}{a:Bn}{aH c:Nat}(L:Ei b st a)(l:TR st a aH c):(Gh (G.aE st)).length<=M.total (G.aE st):=by have d:=M.Tw (G.aE st);have e:=sB (Ae (G.aE st));unfold Gh;omega
structure pa (B:cu) (h h':aa) (q:Hp) (k:Nat->Nat) (m m':Bx) (aH:Nat):Prop where
 fuel:m.fuel≠ -1
 dn:sI h' q.d
 box: ∃S',Ce h' q.b S' m'/\ ∀c,S' c->k c≠0\/h.size<=c
 down:m'.down=true
 mod:Mod (λc=>k c≠0) h h'
 dQ: ∀y,¬cG y->ff m' y=ff m y
 wt:ba m'.files<=B.W0+aH*B.K
section
variable {A : al} {B : cu} {g h : aa} {q : Hp} {k : Nat -> Nat} {st : Db} {m : Bx} {D : Bn} {aH c : Nat} {R : A2L}
theorem Jr {f:aa}{e:Nat->Prop}{i:Bx}(a:bL g h q k st m)(o:Ce f q.b e i)(j:Mod (λc=>q.Sb c\/c=q.lg\/c=q.nt) h f)(l: ∀c,e c->q.Sb c\/h.size<=c)
  (p: ∀d,sI d q.d->Ce d q.b e i->Mod (λc=>k c≠0) h d->(∀ c,e c->k c≠0\/h.size<=c)->R (J6 J9 30) d):AA A P Cj #[Ar q.d,J6 J9 30] f R:=by
 have u:=a.ik;have r:f[q.d]? =some (J2 (eE q st false) FW (0,0)):=j.ag a.cell (by
  rintro(h|h|h)
  ·exact a.nC h
  ·exact a.dl h
  ·exact a.dn h)
 have nd: ¬e q.d:=λb=>by
  rcases l _ b with h|h
  ·exact a.nC h
  ·omega
 refine AR3 r λd s n v=>p d s (o.mod n λc b t=>nd (t▸b)) ((j.aj λc _ b=>?_).trans (n.aj λc _ b=>?_)) λc b=>(l c b).imp (λh=>by rw[a.kb c h];decide) id
 ·rcases b with b|rfl|rfl
  ·rw[a.kb c b];decide
  ·rw[a.kl];decide
  ·rw[a.kn];decide
 ·rw[b,a.kd];decide
theorem ATL(a:Nat):cG (aX a):= .inr (.inr ⟨a,rfl⟩)
theorem ATA(a:Nat):cG (aC nn a):= .inr (.inl ⟨a,rfl⟩)
theorem ATc(a:Nat):cG (aC nl a):= .inl ⟨a,rfl⟩
theorem RP {a:A2M}(h: ¬cG a)(b:Nat):a≠aX b:=λd=>h (d▸ATL b)
theorem lC {a:A2M}(h: ¬cG a)(b:Nat):a≠aC nn b:=λd=>h (d▸ATA b)
theorem pd {a:A2M}(h: ¬cG a)(b:Nat):a≠aC nl b:=λd=>h (d▸ATc b)
theorem APa(d:bL g h q k st m)(L:Ei (ff m) st D)(l:TR st D aH c)(e:c<=B.C)(a:Gh (aE st)≠ []):Hl (Gh (aE st)):=by have f:=L.fR l;have i:=L.dq l;have j:=B.hC;exact⟨a,λx b=>pg (ph.2 x b),ph.1,by omega⟩
theorem cu.step(B:cu){a w' aH d:Nat}(h:a<=B.W0+aH*B.K)(e:w'<=a+d)(hd:d<=20000*B.C+10000000):w'<=B.W0+(aH+1)*B.K:=by
 have b:(aH+1)*B.K=aH*B.K+B.K:=Nat.succ_mul _ _;have f:B.K=20000*B.C+10000000:=rfl;rw[b];generalize aH*B.K=x at*
 omega
theorem AS0 {t b a c:Nat}(d:t<=8400*c+1100000)(e:b<=a)(f:a<=8000000000000)(i:c<=100000):b+t+1<=8796093022208:=by omega
theorem ASY {a b d x:Nat}(e:b<=a+x)(f:d<=b+700000):d<=a+(x+700000):=by grind
theorem AO3(a:Nat):8400*a+1100001+700000<=20000*a+10000000:=by omega
theorem cu.step2(B:cu){a b d aH:Nat}(h:a<=B.W0+aH*B.K)(e:b<=a+(8400*B.C+1100001))(f:d<=b+700000):d<=B.W0+(aH+1)*B.K:=
 B.step h (ASY e f) (AO3 B.C)
theorem AKT(bt:cy g)(S:Bq B g h q k st m D aH c)(hA:aH+1<=B.A)
  (bu: ∀h' ab,pa B h h' q k m ab (aH+1)->kC (ff ab) (aH+1) c (Cr st)->R (J6 J9 30) h')
  (b2: ∀h' aI b3 bH ab r,aI.d=q.d->aI.b=q.b->Bq B g h' aI b3 bH ab r (aH+1) c->Jk m ab->bH.fr=st.fr->Cr bH=Cr st->bH.ts.length<=1->(∀ E,¬cG E->ff ab E=ff m E)->Mod (λc=>k c≠0) h h'->(∀ c,b3 c≠0->k c≠0\/h.size<=c)->R (J6 J9 0) h'):
  AA A P Ju #[Ar q.d] h R:=by
 have cP:=S;obtain⟨u,hd,L,l,a7,b⟩:=S;have ev:=B.hA;have ew:=B.hC;have ex:=B.wt (a:=aH) (by omega);refine Zd ?_;unfold Qz;refine ai.mk λK cQ=>Zf u (cQ _ _ (af.no rfl ?_))
 refine aD (Aa.mk (s:=q.tp) (AB u.cell rfl) ?_);have ey:=u.dj;have cR:=u.ck.len;have ez:=l.ct;refine af.intro (λI=>?_) (λI=>?_)
 ·have f:st.ts.length<=1:=by grind
  exact b2 h q k st m D rfl rfl (cP.aH (by omega)) (Jk.refl hd) rfl rfl f (λ_ _=>rfl) Mod.refl (λc b=> .inl b)
 refine aD (Aa.mk (s:=q.tp) (AB u.cell rfl) ?_);refine Loop.rule (λaK x F=> ∃(i:Nat) (sl:Sl),x=(sl,(i:Int),())/\aK=q.ps.length-i/\i<=q.ps.length/\Ext h F/\(∀ c,sl.ag=some c->h.size<=c)/\TZ A F sl ((aE st).take i)) ?_ ⟨0,⟨none,0,0⟩,rfl,rfl,by omega,Mod.refl,λc b=>by simp[Sl.ag] at b,TZ.nil⟩;rintro eA aK _ F ⟨i,sl,rfl,rfl,a8,aL,bv,a9⟩ b4;dsimp only;refine af.intro (λI=>?_) (λI=>?_)
 ·have V:i<q.ps.length:=by rw[<- cR];simpa using I
  have cS:i<st.ts.length:=by omega
  have b5:q.ps[i]? =some q.ps[i]:=A2 V;have aM:st.ts[i]? =some st.ts[i]:=A2 cS;have cT:(aE st)[i]? =some st.ts[i].2:=by unfold aE;rw[Cl,aM];rfl
  have b6:=u.on aL;refine b6.ck.view.idx b5 λa _ c=>AY.mk (Cells.pt c) ?_
  obtain⟨bw,eB,cU,cV,cX,b7⟩:=b6.cS i _ _ b5 aM;refine zL cU cV b7.eQ λeC bx bz N eD=>⟨_,rfl,Ze.mk bz.one.1 ?_⟩
  rw[M.sU] at bz;have v:=b7.many;refine TZ.add (a9.ext N) bz (λc b e=>?_) (by omega) (by simp[aE];omega) λcY h' aI ab cZ=>?_
  ·obtain⟨eG,c0,_,_⟩:=a9;have ac:=c0.lt e;have eH:=bv c e;rcases b with f|f|f
   ·have:=cX c f.1 f.2;have:=(u.own c (by rw[this];decide)).2;omega
   ·omega
   ·omega
  ·rw[Ab (by omega)];refine b4 (q.ps.length-(i+1)) _ _ (by omega) ⟨i+1,cY,rfl,rfl,V,?_,λc b=>?_,?_⟩
   ·exact(aL.trans N).then (ab.aj λc _ b=> .inr (bv c b))
   ·rcases cZ c b with f|f
    ·exact bv c f
    ·have:=aL.size;have:=N.size;omega
   ·rw[AD,cT];exact aI
 have V:i=q.ps.length:=by
  have: ¬i<q.tp.len:=by simpa using I
  omega
 subst V;rw[Ax (by simp[aE];omega)] at a9;clear b4;have c3:=bo.tail u.gb;refine M.sV a9.lK (λc h=>h.elim) (by simp[aE];omega) c3 λeI b8 c4 b9 _=>⟨_,rfl,?_⟩
 refine M.sY (.inr c4) λeJ bb c5 ca _=>⟨_,rfl,?_⟩
 have eK:=L.fR l;have eL:=L.dq l;have c6:(A9 (Ae (aE st))).length<=1099511627776:=by have:(A9 (Ae (aE st))).length=(Gh (aE st)).length:=rfl;omega
 refine M.XF c5 (λ_ _=>rfl) c6 λbA aN aw c7 c8=>⟨bA,rfl,?_⟩
 have bB:Ext h aN:=((aL.trans b9).trans ca).trans c8;have aw:Own BO AQ aN bA (Gh (aE st)):=aw;have bc:=u.on bB;have eM:=bB.size;refine aD (Aa.mk (s:=q.np) (AB bc.cell rfl) ?_);refine aD (ae.dw bc.cell (by simp) λeN c9 da eO=>?_);refine aD (ae.dw c9 (by simp) λX bC db eP=>?_);have bC:X[q.d]? =some (J2 (eE {q with tp:=⟨none,0,0⟩,np:=⟨none,0,0⟩} {st with next:=st.next,aW:=st.aW} false) FW (0,0)):=by simpa using bC
 have aO:Mod (· =q.d) aN X:=da.trans db;have am:=bc.fj (tp:=⟨none,0,0⟩) (np:=⟨none,0,0⟩) (ps:= []) (ts:= []) (next:=st.next) (aW:=st.aW) (S:=λ_=>False) bC (aO.aj λc _ b=> .inl b) Own.nil Own.nil rfl
  (λc b=>by simp[Sl.ag] at b) (λc b=>by simp[Sl.ag] at b) (λc h=>h.elim) (λi t p f=>by simp at f)
 have dc: ∀c,MC k aN.size ⟨none,0,0⟩ ⟨none,0,0⟩ (λ_=>False) c=k c:=λc=>by
  unfold MC;split
  ·rfl
  ·rename_i f;simp[Sl.ag];omega
 have dd:MC k aN.size ⟨none,0,0⟩ ⟨none,0,0⟩ (λ_=>False)=k:=funext dc;rw[dd] at am;have ax:Mod (λc=>k c≠0) h X:=(Ext.mod bB).trans (aO.aj λc _ b=>by rw[b,u.kd];decide);have de:=bc.names.view;have cb:View Ib X q.np (eF st):=de.mod aO λc b e=>by have:=u.kx c b;rw[e,u.kd] at this;cases this
 have cc:=L.j7 l;have eQ:=l.next;have eR:=l.aJ;have bd:st.next∉st.ts.map (·.1):=λv=>by
  obtain⟨p,W,e⟩:=List.mem_map.1 v;have:=L.below p W;omega
 refine ai.mk λdf dg=>?_
 have cd: ∀(F:aa) (an:Hp) (be:Nat->Nat) (y:Bx) (z:Nat) (w:List (Nat×List Pr)),bL g F an be {st with ts:=w,next:=z} y->an.d=q.d->an.b=q.b->Jk m y->
   (∀ x,x≠aX st.next->ff y x=ff m x)->((w= []/\z=st.next/\Gh (aE st)= []/\ff y (aX st.next)=none)\/(w= [(st.next,Gh (aE st))]/\z=st.next+1/\ff y (aX st.next)=some (AX (Jy (Gh (aE st))),bq)/\Hl (Gh (aE st))))->
   ba y.files<=ba m.files+(8400*B.C+1100001)->Mod (λc=>k c≠0) h F->(∀ c,be c≠0->k c≠0\/h.size<=c)->View Ib F q.np (eF st)->(∀ c,q.np.ag=some c->be c=7)->df () F:=by
  intro F an be y z w ap bf ay bD Y O ce bg aP dh bb;refine dg _ _ ?_;have di: ∀x,(∀ n,x≠aX n)->ff y x=ff m x:=λx J=>Y x (J _)
  have dj:BJ (ff y) D:=L.ok.gf λx J=>Y x (J st.next (by rw[L.names];exact bd))
  have dk:ib (cW {st with ts:=w,next:=z}):=by
   have eS:=L.eT;have eT:=l.aw;rcases O with⟨rfl,rfl,_,_⟩|⟨rfl,rfl,_,_⟩
   ·exact⟨by show st.next<=_;omega,by show 1<=st.aW/\st.aW<=_;omega,by simp[cW],by simp[cW],by simp[cW]⟩
   ·exact⟨by show st.next+1<=_;omega,by show 1<=st.aW/\st.aW<=_;omega,by simp[cW],by simp[cW],by simp[cW]⟩
  have dl: ∀n∈(cW {st with ts:=w,next:=z}).names,ff y (aX n)=some (AX (Jy ((λ_=>Gh (aE st)) n)),bq)/\Hl ((λ_=>Gh (aE st)) n):=λn o=>by
   rcases O with⟨rfl,rfl,_,_⟩|⟨rfl,rfl,f,H⟩
   ·simp[cW] at o
   ·have o:n=st.next:=by simpa [cW] using o
    subst o;exact⟨f,H⟩
  have cf: ∀r:Bn,r.L=D.L->r.aP=D.aP->Aq r=cW {st with ts:=w,next:=z}->r.T=(λ_=>Gh (aE st))->cH r=Cr st/\OT r<=c/\Ey r=st.fr:=λr bE bF ad bh=>by
   have ay:=AFl bE bF (by rw[ad];exact L.aW.symm);have cg:Ey r=st.fr:=by unfold Ey;rw[ay];exact L.fr.symm
   have eU:=L.ct;have eV:=l.bY;refine⟨?_,?_,cg⟩
   ·unfold cH;rw[cg,ad,bh];rcases O with⟨rfl,rfl,f,_⟩|⟨rfl,rfl,_,_⟩
    ·exact ACb u.gb f
    ·exact Wp u.gb
   ·unfold OT;rw[ay,ad,bh];rcases O with⟨rfl,rfl,f,_⟩|⟨rfl,rfl,_,_⟩
    ·show 0+(Ig D).flatten.length<=c;omega
    ·show((Gh (aE st)).length+0)+(Ig D).flatten.length<=c;omega
  have ch: ∀ {aq:bP},(∀ n,aq (aX n)≠none->ff y (aX n)≠none)-> ∀n,aq (aX n)≠none->n<8*(aH+1)+8:=λbG n o=>by
   by_cases e:n=st.next
   ·omega
   ·have f:=bG n o;rw[Y _ λaQ=>e (Jl aQ)] at f;have:=L.fJ l f;omega
  have ci: ∀(r:Bn) (aq:bP),BJ aq r->r.L=D.L->r.aP=D.aP->r.aY<=max D.aY (st.aJ+1)->Aq r=cW {st with ts:=w,next:=z}->r.T=(λ_=>Gh (aE st))->(∀ n,aq (aX n)≠none->ff y (aX n)≠none)->Rec aq (aH+1) c (Cr st):=λr aq f bE bF o ad bh bG=>by
   obtain⟨aR,aS,_⟩:=cf r bE bF ad bh;have:=l.aP;have:=l.aY;have:=L.eT;have:=l.aw;refine⟨r,f,⟨by omega,by omega,?_,?_,?_,aS,ch bG⟩,aR⟩
   ·rw[ad];show z<=_;omega
   ·rw[ad];show st.aW<=_;omega
   ·rw[ad];rcases O with⟨rfl,_⟩|⟨rfl,_⟩<;>simp[cW]
  rw[<- bf];have dm:ba y.files+1000000<=8000000000000:=by have f:=B.wt (a:=aH+1) hA;have H:=B.step (d:=8400*B.C+1100001+1000000) a7 (w':=ba y.files+1000000) (by omega) (by omega);omega
  refine AL1 (T:=λ_=>Gh (aE st)) bt ap bD.up dj dk dl ⟨L.aJ,by show st.aJ+2<=_;omega⟩ (λn aT aU=>by rw[di _ λk=>Qt n k];exact L.jE n aT aU) dm
   (λbI aV bJ ag dn dp bi dq dr Z bK=>⟨_,rfl,af.yes rfl ?_⟩) λaV bJ cj ag D3 ds bM ck ar bN bO bQ cl Z dt bK bi cm=>⟨_,rfl,af.no rfl ?_⟩
  ·refine Jr ap dn (bi.aj λc _ b=>b.imp id .inr) dq λcn du dv dw dx=>⟨_,rfl,?_⟩
   have dy:Mod (λc=>k c≠0) h cn:=bg.then (dw.aj λc _ b=>aP c b);have bj:ba ag.files<=B.W0+(aH+1)*B.K:=B.step2 a7 ce bK;refine bu cn ag ⟨λF=>bI (bD.calm F),by rw[<- bf];exact du,⟨bJ,by rw[<- ay];exact dv,λc b=>?_⟩,dp,dy,λE Q=>?_,bj⟩ λG aY=>?_
   ·rcases dx c b with f|f
    ·exact aP c f
    ·exact .inr (by have:=bg.size;omega)
   ·rw[Z E λn=>lC Q n,Y E (RP Q _)]
   ·obtain⟨r,co,nx⟩:=dr G aY;have cp: ∀n,G (aX n)≠none->ff y (aX n)≠none:=λn o=>by
     have:=aY.some o;rwa [Z _ λj e=>Qt j n e.symm] at this
    rcases nx.last with⟨ah,bk⟩|⟨ah,bk⟩
    ·obtain⟨aR,aS⟩:=AHv nx.L nx.aP ah bk;have:=l.aP;have:=l.aY;have:=L.eT;have:=l.aw;have:=L.next;have dz:=nx.aY;have bR:({st with ts:=w,next:=z}:Db).aJ=st.aJ:=rfl;rw[bR] at dz;exact⟨r,co,⟨by rw[nx.aP];omega,by omega,by rw[ah];omega,by rw[ah,L.aW];omega,by rw[ah,L.iK];omega,by rw[aS];exact l.bY,ch cp⟩,by rw[aR];exact L.map⟩
    ·exact ci r G co nx.L nx.aP nx.aY ah bk cp
  ·
   have bj: ∀ {cq},cq<=ba ag.files->cq<=B.W0+(aH+1)*B.K:=λdA=>B.step2 a7 ce (AG dA bK)
   have dB:View Ib aV q.np (eF st):=dh.mod bi λc b e=>by
    have f:=bb c b;rcases e with e|e
    ·rw[ap.kb c e] at f;cases f
    ·rw[e,ap.kn] at f;cases f
   have dC: ∀c,q.np.ag=some c->c<F.size:=λc b=>(ap.own c (by rw[bb c b];decide)).2
   have eW:q.np.len=st.ts.length:=by rw[u.names.len];simp
   have dD:Mod (λc=>k c≠0) h aV:=bg.then (bi.aj λc _ b=>by
    rcases b with b|b
    ·exact aP c (by rw[ap.kb c b];decide)
    ·exact aP c (by rw[b,ap.kn];decide))
   have dE: ∀c,cj c≠0->k c≠0\/h.size<=c:=λc b=>by
    by_cases ac:c<F.size
    ·rw[cm c ac] at b;exact aP c b
    ·exact .inr (by have:=bg.size;omega)
   have dF: ∀n,(∃ p∈st.ts,p.1=n)->(ff ag (aX n)).isSome=true/\n≠st.next:=λn o=>by
    obtain⟨p,W,rfl⟩:=o;have ac:=L.below p W;have aj:p.1≠st.next:=by omega
    have f:=(L.ok.cS p.1 (by rw[L.names];exact List.mem_map.2 ⟨p,W,rfl⟩)).1;rw[Z _ λj e=>Qt j _ e.symm,Y _ λe=>aj (Jl e),f];exact⟨rfl,aj⟩
   have dG:=L.nd;obtain⟨aR,aS,dH⟩:=cf D3 bO bQ ar bN;have eX:bM.up=bM.up:=rfl;refine Loop.rule (λaK x J=> ∃(i:Nat) (bm:Nat->Prop) (aZ:Nat->Nat) (C:Bx),x=((i:Int),())/\aK=st.ts.length-i/\i<=st.ts.length/\bL g J {an with Sb:=bm} aZ {st with ts:=w,next:=z,aJ:=st.aJ+1} C/\Jk m C/\ba C.files<=ba ag.files/\
     (∀ x,(∀ n∈(st.ts.map (·.1)).take i,x≠aX n)->ff C x=ff ag x)/\(∀ n∈(st.ts.map (·.1)).take i,ff C (aX n)=none)/\Mod (λc=>k c≠0) h J/\(∀ c,aZ c≠0->k c≠0\/h.size<=c)/\View Ib J q.np (eF st)/\(∀ c,q.np.ag=some c->aZ c=7)) ?_
    ⟨0,bJ,cj,ag,rfl,rfl,by omega,ds,bD.trans bM,A0 _,λx _=>rfl,by simp,dD,dE,dB,λc b=>by rw[cm c (dC c b)];exact bb c b⟩
   rintro eY aK _ J ⟨i,bm,aZ,C,rfl,rfl,a8,ak,a0,bS,U,bn,a1,a2,cr,bT⟩ dI;dsimp only;refine af.intro (λI=>?_) (λI=>?_)
   ·have V:i<st.ts.length:=by have:=of_decide_eq_true I;omega
    have aM:st.ts[i]? =some st.ts[i]:=A2 V;have cs:(st.ts.map (·.1))[i]? =some st.ts[i].1:=by rw[Cl,aM];rfl
    have ct:st.ts[i]∈st.ts:=B9 V;have eZ:=L.below _ ct;refine cr.idx (i:=i) (x:=(st.ts[i].1:Int)) (by rw[eF,Cl,aM];rfl) λa _ dJ=>AC.mk dJ.int ?_
    refine aD (AY.mk (AL ak.cell rfl) ?_);refine Qq (ak.im bt) (by omega) λbx N=>⟨_,rfl,⟨AL (ak.on N).cell rfl,?_⟩⟩
    have bU:=ak.on N;refine SK bU.box λb8 cu bV bp cv=>⟨_,rfl,?_⟩
    have dK:st.ts[i].1∉(st.ts.map (·.1)).take i:=λv=>by
     obtain⟨j,a3,e⟩:=DB v;have e0:j<i:=by have:=a3;simp at this;omega
     rw[List.getElem_take] at e;have f:=(List.getElem?_eq_some_iff.1 cs);have H:=(Lz (h₀:=by simp;omega) (h₁:=f.1) dG).1 (e.trans f.2.symm);omega
    have dL:(ff C (aX st.ts[i].1)).isSome=true:=by rw[U _ λn o e=>dK (by rw[Jl e];exact o)];exact(dF _ ⟨_,ct,rfl⟩).1
    have bW:(st.ts.map (·.1)).take (i+1)=(st.ts.map (·.1)).take i++ [st.ts[i].1]:=by rw[AD,cs];rfl
    have dM:Mod (λc=>k c≠0) h b8:=a1.then (((Ext.mod N).trans bp).aj λc _ b=>a2 c (by rw[ak.kb c b];decide));rcases Rk (k:=aX st.ts[i].1) a0.up dL with⟨dN,bX⟩|⟨bX,dO,cw⟩
    ·rw[bX] at bV ⊢;refine af.yes rfl ?_;refine Jr (q:= {an with Sb:=bm}) bU bV (bp.aj λc _ b=> .inl b) (λc b=> .inl (cv c b)) λcx dP dQ dR dS=>⟨_,rfl,?_⟩
     have dT:Mod (λc=>k c≠0) h cx:=(a1.trans (Ext.mod N)).then (dR.aj λc _ b=>a2 c b);have dU: ∀n,ff C (aX n)≠none->ff y (aX n)≠none:=λn o=>by
      by_cases v:n∈(st.ts.map (·.1)).take i
      ·exact absurd (bn n v) o
      ·rw[U _ λj a3 e=>v (by rw[Jl e];exact a3),Z _ λj e=>Qt j n e.symm] at o;exact o
     have bY:BJ (ff C) D3:=ck.gf λx az=>U x λn o e=>az n (by
      rw[ar];intro v;rcases O with⟨rfl,_⟩|⟨rfl,_⟩
      ·simp[cW] at v
      ·have:n=st.next:=by simpa [cW] using v
       have cz:n∈st.ts.map (·.1):=Cd o;rw[this] at cz;exact bd cz) e
     refine bu cx (Ng C) ⟨(λF=>by have:=a0.calm F;rw[dN] at this;cases this),by rw[<- bf];exact dP,⟨cu,by rw[<- ay];exact dQ,λc b=>?_⟩,rfl,dT,λE Q=>?_,bj bS⟩ λG aY=>?_
     ·rcases dS c b with f|f
      ·exact a2 c f
      ·exact .inr (by have:=(a1.trans (Ext.mod N)).size;omega)
     ·rw[px,U E λn _=>RP Q n,Z E λn=>lC Q n,Y E (RP Q _)]
     ·exact ci D3 G (bY.dV aY) bO bQ cl ar bN λn o=>dU n (aY.some o)
    ·rw[bX];refine af.no rfl ?_;have dV:=bU.boxed (j:=2) (bH:= {st with ts:=w,next:=z,aJ:=st.aJ+1}) bV (bp.aj λc _ b=> .inl b) (λc b=> .inl (cv c b)) rfl rfl rfl rfl (.inl ⟨by decide,rfl,rfl⟩) (.inl ⟨by decide,rfl⟩);have dW:=VZ (m:=C) (aX st.ts[i].1);rw[Ab (by omega)];refine dI (st.ts.length-(i+1)) _ _ (by omega) ⟨i+1,cu,_,_,rfl,rfl,V,dV,a0.trans dO,AG dW bS,λx az=>?_,λn o=>?_,dM,λc b=>?_,?_,λc b=>?_⟩
     ·rw[cw,if_neg (az _ (by rw[bW];simp))];exact U x λn o=>az n (by rw[bW];exact List.mem_append.2 (.inl o))
     ·rw[cw];split
      ·rfl
      ·rename_i aj;rw[bW] at o;rcases List.mem_append.1 o with o|o
       ·exact bn n o
       ·exact absurd (by rw[List.mem_singleton.1 o]) aj
     ·by_cases ac:c<bx.size
      ·rw[Gd ac] at b;exact a2 c b
      ·exact .inr (by have:=(a1.trans (Ext.mod N)).size;omega)
     ·exact(cr.ext N).mod bp λc b e=>by
       have f:=bT c b;rw[ak.kb c e] at f;cases f
     ·have ac:c<bx.size:=by have:=(ak.own c (by rw[bT c b];decide)).2;have:=N.size;omega
      rw[Gd ac];exact bT c b
   ·have V:i=st.ts.length:=by have: ¬(i:Int)<((q.np.len:Nat):Int):=of_decide_eq_false I;omega
    subst V;rw[Ax (by simp)] at U bn;have dX: ∀n,ff C (aX n)≠none->n=st.next/\ff y (aX n)≠none:=λn o=>by
     by_cases v:n∈st.ts.map (·.1)
     ·exact absurd (bn n v) o
     ·rw[U _ λj a3 e=>v (by rw[Jl e];exact a3),Z _ λj e=>Qt j n e.symm] at o;refine⟨?_,o⟩;by_cases e:n=st.next
      ·exact e
      ·rw[Y _ λaQ=>e (Jl aQ)] at o;exact absurd (L.clean n o) v
    have cB: ∀n,ff C (aC nl n)=ff m (aC nl n):=λn=>by
     rw[U _ λj _=>MQ n j,Z _ λj=>Wj n j,Y _ (MQ n _)]
    have bY:BJ (ff C) D3:=ck.gf λx az=>U x λn o e=>az n (by
     rw[ar];intro v;rcases O with⟨rfl,_⟩|⟨rfl,_⟩
     ·simp[cW] at v
     ·have:n=st.next:=by simpa [cW] using v
      rw[this] at o;exact bd o) e
    have dY: ∀p∈w,D3.T p.1=p.2:=λp W=>by
     rw[bN];rcases O with⟨rfl,_⟩|⟨rfl,_⟩
     ·cases W
     ·rw[List.mem_singleton.1 W]
    have dZ: ∀p∈w,p.1<z:=λp W=>by
     rcases O with⟨rfl,_⟩|⟨rfl,rfl,_⟩
     ·cases W
     ·rw[List.mem_singleton.1 W];exact Hn _
    have d0: ∀n,ff C (aX n)≠none->n∈w.map (·.1):=λn o=>by
     obtain⟨e,H⟩:=dX n o;rcases O with⟨rfl,_,_,aV⟩|⟨rfl,_⟩
     ·rw[e] at H;exact absurd aV H
     ·simp[e]
    have cC:Ei (ff C) {st with ts:=w,next:=z,aJ:=st.aJ+1} D3:=
     ⟨bY,by rw[ar];rfl,dY,by rw[ar];rfl,by rw[ar];exact A0 _,dZ,dH.symm,λn aT aU aj=>by rw[cB];exact L.gL n aT aU aj,λv=>by rw[cB,bO];exact L.jF v,
      λn aT aU=>by rw[U _ λj _=>Qt n j];exact dt n aT aU,L.eT,by show 1<=st.aJ+1;omega,d0⟩
    have d1:TR {st with ts:=w,next:=z,aJ:=st.aJ+1} D3 (aH+1) c:=by
     have:=l.aw;have:=l.aP;have:=l.aY;have bR:({st with ts:=w,next:=z}:Db).aJ=st.aJ:=rfl;rw[bR] at cl;refine⟨by show st.aw<=_;omega,by show st.aJ+1<=_;omega,?_,?_,aS,by rw[bQ];omega,by omega⟩
     ·show z<=_;omega
     ·show w.length<=_;rcases O with⟨rfl,_⟩|⟨rfl,_⟩<;>simp
    refine b2 J {an with Sb:=bm} aZ _ C D3 bf ay ⟨ak,a0.up,cC,d1,bj bS,b⟩ a0 rfl ?_ ?_ (λE Q=>?_) a1 a2
    ·rw[<- aR];exact cC.map.symm
    ·show w.length<=1;rcases O with⟨rfl,_⟩|⟨rfl,_⟩<;>simp
    ·rw[U E λn _=>RP Q n,Z E λn=>lC Q n,Y E (RP Q _)]
 refine af.intro (λI=>?_) (λI=>?_)
 ·have aj:Gh (aE st)≠ []:=λe=>by
   have f:=of_decide_eq_true I;have H:=aw.len;rw[e] at H;simp at H;omega
  have br:=APa (B:=B) u L l b aj;have e1:=AMA br;refine aD (AC.mk (AB am.cell rfl) ?_);have d2:View BO X bA (Gh (aE st)):=aw.view.mod aO λc b e=>by have:=c7 c b;have:=u.ik;have:=(aL.trans b9).size;have:=ca.size;omega
  have e2:(Jy (Gh (aE st))).length<=8400*B.C+1100000:=by omega
  refine APY (q:= {q with tp:=⟨none,0,0⟩,np:=⟨none,0,0⟩,ps:= []}) (n:=st.next) bt am hd br d2 (λc b=>by have:=aw.lt b;have:=aO.size;omega) (by omega) cc (by omega) (λbI au cD aA d3 d4 a4 d5 aF d6=>⟨_,_,rfl,af.yes rfl ?_⟩) λau cD cE aA t bw a8 bZ d7 aF d6 cF e3 e4 cI a4 cJ=>⟨_,_,rfl,af.no rfl ?_⟩
  ·refine Jr (q:= {q with tp:=⟨none,0,0⟩,np:=⟨none,0,0⟩,ps:= []}) am d3 (a4.aj λc _ b=> .inl b) d5 λav d8 d9 ea eb=>⟨_,rfl,?_⟩
   have ec:BJ (ff aA) D/\kC (ff aA) (aH+1) c (Cr st):=by
    refine L.jG (l.mono (BY _) (A0 _)) (λx J=>aF x (J _ bd)) λn o=>?_
    by_cases e:n=st.next
    ·omega
    ·rw[aF _ λaQ=>e (Jl aQ)] at o;have:=L.fJ l o;omega
   have ed:ba aA.files<=ba m.files+(8400*B.C+1100001):=by omega
   exact bu av aA ⟨bI,d8,⟨cD,d9,λc b=>(eb c b).imp id λh=>by have:=ax.size;omega⟩,d4,ax.then (ea.aj λc _ b=> .inl b),λE Q=>aF E (RP Q _),B.step2 a7 ed (ID _ _)⟩ ec.2
  ·refine ao.mk λav _ ee a5 e5=>?_
   have bs:=bZ.on a5;refine aD (AC.mk (AB bs.cell rfl) (ao.mk λef _ eg a6 e6=>?_));have cK:=bs.on a6;refine aD (ae.dw cK.cell (by simp) λe7 eh ei e8=>aD (ae.dw eh (by simp) λe9 cL ej fa=>?_));refine aD (AC.mk (AB cL rfl) (aD (ae.dw cL (by simp) λal cM ek fb=>?_)));have el:J8 J9 (((st.next:Nat):Int)+(1:Int))=((st.next+1:Nat):Int):=Ab (by omega);have aG:Mod (· =q.d) ef al:=(ei.trans ej).trans ek;have en:al[au.size]? =some (J2 #[Ar t] BM (0,0)):=aG.ag (a6.ag ee λh=>h) (by have:=bZ.ik;show ¬_=q.d;have e:(q.d:Nat)<au.size:=this;omega);have eo:al[av.size]? =some (J2 #[J6 J9 (st.next:Int)] Bp (0,0)):=aG.ag eg (by have:=bs.ik;have e:(q.d:Nat)<av.size:=this;show ¬_=q.d;omega);have ep:Own fS BM al ⟨some ⟨au.size,0,none⟩,1,1⟩ [t]:=Own.lit (l:= [t]) en rfl (by simp[maxLen]);have on:Own Ib Bp al ⟨some ⟨av.size,0,none⟩,1,1⟩ (([(st.next,Gh (aE st))]:List (Nat×List Pr)).map λp=>(p.1:Int)):=Own.lit (l:= [((st.next:Nat):Int)]) eo rfl (by simp[maxLen]);have fc:=a4.size;have cN: ∀c,au.size<=c->cE c=0:=λc b=>cI c (by have:=cF.fJ;omega)
   have eq:=cK.fj (h':=al) (tp:=⟨some ⟨au.size,0,none⟩,1,1⟩) (np:=⟨some ⟨av.size,0,none⟩,1,1⟩) (ps:= [t]) (ts:= [(st.next,Gh (aE st))]) (next:=st.next+1) (aW:=st.aW) (S:=λc=>bw<=c/\c<a8)
    (by rw[el] at cM;simpa [eE] using cM) (aG.aj λc _ b=> .inl b) ep on rfl
    (λc b=> .inr (by
     have e:au.size=c:=by simpa [Sl.ag] using b
     subst e;have b0:=bZ.ext.size;refine⟨cN _ (A0 _),b0,by simp[Sl.ag];omega,by omega⟩))
    (λc b=> .inr (by
     have e:av.size=c:=by simpa [Sl.ag] using b
     subst e;have b0:=bs.ext.size;refine⟨cN _ (by omega),b0,by simp[Sl.ag];omega,by omega⟩))
    (λc b=>⟨by have:=am.ext.size;omega,by omega⟩)
    (λi t' p f H=>by
     have er:i=0:=by have:=(List.getElem?_eq_some_iff.1 f).1;simpa using this
     subst er;simp only[HC,BT] at f H;subst f H;refine .inr ⟨bw,a8,(cF.ext (a5.trans a6)).mod aG (λc c1 c2 e=>?_),by omega,λc c1 c2=>⟨⟨c1,c2⟩,cI c c1⟩,br⟩;have:=am.ik;have bk:(q.d:Nat)<X.size:=this;omega)
   have es:Mod (λc=>k c≠0) h al:=by
    refine(ax.trans ((a4.aj λc _ b=>?_))).trans ((Ext.mod (a5.trans a6)).trans (aG.aj λc _ b=>?_))
    ·rw[u.kb c b];decide
    ·rw[b,u.kd];decide
   have b1: ∀c,q.np.ag=some c->c<X.size/\k c=7:=λc b=>⟨by have:=u.names.lt b;have:=ax.size;omega,u.kx c b⟩
   refine cd al _ _ aA (st.next+1) _ eq rfl rfl d7 (λx J=>by rw[aF,if_neg J]) (.inr ⟨rfl,rfl,by rw[aF,if_pos rfl],br⟩) (by omega) es (λc b=>?_) ?_ λc b=>?_
   ·by_cases ac:c<h.size
    ·left;intro et;have cO:c<X.size:=by have:=ax.size;omega
     have ah:cE c=0:=by rw[cJ c cO];exact et
     have fd:=cO;apply b;unfold MC;rw[if_neg (by simp[ah]),if_neg (by simp[Sl.ag];omega),if_neg (by simp[Sl.ag];have:=a5.size;omega),if_neg (by omega)]
    ·exact .inr (by omega)
   ·refine((cb.mod a4 λc b e=>?_).ext (a5.trans a6)).mod aG λc b e=>?_
    ·have:=(b1 c b).2;rw[u.kb c e] at this;cases this
    ·have:=(b1 c b).2;rw[e,u.kd] at this;cases this
   ·obtain⟨f,H⟩:=b1 c b;unfold MC;rw[cJ c f,H];rfl
 ·have eu:Gh (aE st)= []:=by have f:=of_decide_eq_false I;have H:=aw.len;exact DA (by omega)
  refine cd X _ k m st.next [] am rfl rfl (Jk.refl hd) (λx _=>rfl) (.inl ⟨rfl,rfl,eu,cc⟩) (by omega) ax (λc b=> .inl b) cb λc b=>u.kx c b
end
end Go.Lf.G
