/-
 The plain law of a box, file by file: firm and soft bytes.
-/
import Derived.Test.YtgpmoonnachoaaaGreatDoorLfU2ToS3
import Derived.Test.YtgpmoonnachoaaaGreatDoorLfX2ToS5
import Derived.Test.YtgpmoonnachoaaaGreatDoorLfAToN1
import Derived.Lib.AppendZerosOnto
import Derived.Lib.Overlaps
import Derived.Laws.IdiomCopy
import Derived.Laws.Externs
set_option maxRecDepth 100000
set_option linter.unusedVariables false
set_option linter.unusedSimpArgs false
open Go.IntKind renaming i64→J9,wrap→J8
open Go.Value renaming string→J7,int→J6,pointer→J5,slice→J4,bool→J3,tuple→J1
open Go.Obj renaming cells→J2
open Go renaming Value→J0,Addr→Q6,TypeId→Q7,FuncId→Q8,Program→Q1
open Go.Addr renaming add→Q9,mk→Q5
namespace Go.Lf
open Go
def ff(m:Bx)(a:A2Q):Option (A2Q×A2Q):=(Cn a m.files).map λf=>(f.bZ,f.soft)
theorem VL {m:Bx}{a:A2Q}:(Cn a m.files).isSome=(ff m a).isSome:=by unfold ff;cases Cn a m.files<;>rfl
theorem qT {m:Bx}(hd:m.down=false)(a:A2Q):UN m a=match ff m a with|none=>(bF,31)|some p=>(p.1++p.2,0):=by unfold UN ff;rw[if_neg (by simp[hd])];cases Cn a m.files<;>rfl
theorem qU(m:Bx)(l:List Fi)(a:A2Q):ff {IL m with files:=l} a=(Cn a l).map λf=>(f.bZ,f.soft):=rfl
theorem AKp {a x:A2Q}(l:List Fi):Cn x (UI a l)=if x=a then some ((Cn a l).getD ⟨a,bF,bF⟩) else Cn x l:=by
 unfold UI;cases c:Cn a l with
 |some f=>
  simp only[Option.isSome_some,if_true];by_cases b:x=a
  ·subst b;simp[c]
  ·rw[if_neg b]
 |none=>
  rw[if_neg (by simp),wK (λd e=>Rx c d e)];by_cases b:x=a
  ·subst b;simp
  ·rw[if_neg b,if_neg (λg=>b g.symm)]
def kp(m:Bx):Prop:=m.down=false/\m.fuel≠0
theorem AM9 {m:Bx}(g:kp m){a d:A2Q}(e:LU a=false):(EN m a d).1=0/\ ∀x,ff (EN m a d).2 x=if x=a then some (((ff m a).getD (bF,bF)).1,((ff m a).getD (bF,bF)).2++d) else ff m x:=by
 unfold EN;rw[if_neg (by simp[g.1]),if_neg (by simp[e]),if_neg g.2];refine⟨rfl,λx=>?_⟩;rw[qU,Z0 (g:=Rq d) (λ_=>rfl),AKp];unfold ff;by_cases b:x=a
 ·subst b;rw[if_pos rfl,if_pos rfl];cases c:Cn x m.files with
  |none=>simp[Rq]
  |some f=>
   have:=(KI c).1;simp[Rq,this]
 ·rw[if_neg b,if_neg b];cases c:Cn x m.files with
  |none=>rfl
  |some f=>
   have:=(KI c).1;simp only[HS];rw[if_neg (by rw[this];exact b)]
theorem ARd {m:Bx}(g:kp m){b:A2Q}{p:A2Q×A2Q}(c:ff m b=some p):(Hg m b).1=0/\ ∀x,ff (Hg m b).2 x=if x=b then some (p.1++p.2,bF) else ff m x:=by
 have a: ∃f,Cn b m.files=some f/\(f.bZ,f.soft)=p:=by
  unfold ff at c;cases a:Cn b m.files with
  |none=>rw[a] at c;cases c
  |some f=>rw[a] at c;exact⟨f,rfl,C2 c⟩
 obtain⟨f,a,rfl⟩:=a;unfold Hg;rw[if_neg (by simp[g.1]),if_neg (by simp[a]),if_neg g.2];refine⟨rfl,λx=>?_⟩;rw[qU,Z0 (g:=SH) (λ_=>rfl)];by_cases d:x=b
 ·subst d;have:=(KI a).1;rw[if_pos rfl,a];simp[SH,this]
 ·rw[if_neg d];unfold ff;cases e:Cn x m.files with
  |none=>rfl
  |some h=>
   have:=(KI e).1;simp only[HS];rw[if_neg (by rw[this];exact d)]
theorem ANr {m:Bx}(g:kp m){a:A2Q}(b:(ff m a).isSome=true):(Gr m a).1=0/\ ∀x,ff (Gr m a).2 x=if x=a then none else ff m x:=by
 have c:(Cn a m.files).isNone=false:=by
  rw[<- VL] at b;cases c:Cn a m.files with
  |none=>rw[c] at b;cases b
  |some f=>rfl
 unfold Gr;rw[if_neg (by simp[g.1]),if_neg (by simp[c]),if_neg g.2];refine⟨rfl,λx=>?_⟩;rw[qU,Zq];split<;>rfl
theorem AMa {m:Bx}(l:List Fi):({IL m with files:=l}:Bx).down=m.down:=by show(IL m).down=m.down;unfold IL;split<;>rfl
theorem wz: ∀ {l f:List Nat},l.Pairwise (· < ·)->f.Pairwise (· < ·)->(∀ e,e∈l↔e∈f)->l=f
 | [],[],_,_,_=>rfl
 | [],b::f,_,_,d=>by have:=(d b).2 (by simp);cases this
 |a::l,[],_,_,d=>by have:=(d a).1 (by simp);cases this
 |a::l,b::f,h,i,d=>by
  rw[RT] at h i;have k:a=b:=by
   rcases List.mem_cons.1 ((d a).1 (by simp)) with c|c
   ·exact c
   ·rcases List.mem_cons.1 ((d b).2 (by simp)) with j|j
    ·exact j.symm
    ·have:=i.1 a c;have:=h.1 b j;omega
  subst k;have:l=f:=wz h.2 i.2 λe=>by
   constructor
   ·intro g;rcases List.mem_cons.1 ((d e).1 (AG _ g)) with c|c
    ·have:=h.1 e g;omega
    ·exact c
   ·intro g;rcases List.mem_cons.1 ((d e).2 (AG _ g)) with c|c
    ·have:=i.1 e g;omega
    ·exact c
  rw[this]
end Go.Lf
namespace Go.Lf.G
open Go
theorem AQw {b:A2Q}{m:Bx}{l:List Nat}{c:Nat->List A2Q}(hd:m.down=false)(d: ∀a∈l,∃p,ff m (aC b a)=some p/\NR (bl (p.1++p.2)) ((c a).map bl)):Sr b m l=l.flatMap c:=by
 unfold Sr
 induction l with
 |nil=>rfl
 |cons a l e=>
  obtain⟨p,f,g⟩:=d a (by simp);rw[AH,AH,e λh i=>d h (AG _ i)];congr 1;have j:iR m b a=p.1++p.2:=by unfold iR;rw[qT hd,f]
  rw[j,APg g,Bk]
  conv=>rhs;rw[<- KB (c a)]
  exact CC λx _=>Ku x
theorem yM {nm:A2Q}{a:Nat}(e:nm.size<=8)(b:a<=99999999):LU (aC nm a)=false:=by have c:=APn (nm:=nm) b;unfold LU;rw[Hk,decide_eq_false_iff_not,decide_eq_false_iff_not];refine⟨λd=>?_,by omega⟩;rw[d] at c;have:bF.size=0:=rfl;omega
theorem AQV {i:A2Q}{m:Bx}{l:List Nat}(g:mE i m l):l.length<=99999999:=by
 have j: ∀(l:List Nat) (d:Nat),l.Pairwise (· < ·)->(∀ b∈l,d<b/\b<=99999999)->l.length+d<=99999999\/l= []:=by
  intro l
  induction l with
  |nil=>intro d _ _;exact .inr rfl
  |cons a l k=>
   intro d f h;rw[RT] at f;have n:=h a (by simp);rcases k a f.2 (λb e=>⟨f.1 b e,(h b (AG _ e)).2⟩) with c|c
   ·left;simp only[A5];omega
   ·subst c;left;simp;omega
 rcases j l 0 g.inc (λb e=>by have:=(g.mem b).1 e;omega) with c|c
 ·omega
 ·subst c;simp
structure Lw (h:aa) (lg b:Nat) (nm:A2Q) (hh:aa) (S:Nat->Prop) (m:Bx) (seg:Nat) (made:Bool):Prop where
 box:Cu hh b S m
 log:ET hh lg b nm seg made
 ext:Ext h hh
 fresh: ∀c,S c->h.size<=c/\c≠lg
 lgn:h.size<=lg
def aV(rec:A2Q):A2Q:=AX (Ct (bl rec))
abbrev nx:A2Q:=⟨#[120]⟩
open M (Sorted Af CY BA Ag Au BV Ai bB BH)
abbrev bQ:=A2Q->Option (A2Q×A2Q)
abbrev nl:A2Q:=⟨#[108]⟩
abbrev nn:A2Q:=⟨#[110]⟩
abbrev nt:A2Q:=⟨#[116]⟩
def aX(a:Nat):A2Q:=nt++AX (Lib.decDigits a)
theorem XH(a:Nat):bl (aX a)=116::Lib.decDigits a:=by show(nt++AX (Lib.decDigits a)).data.toList=_;rw[Kf,No];show [116]++(AX (Lib.decDigits a)).data.toList=_;rw[show(AX (Lib.decDigits a)).data.toList=Lib.decDigits a from Be _];rfl
theorem JQ {a b:Nat}(e:aX a=aX b):a=b:=by
 have c:=congrArg bl e;rw[XH,XH] at c;have f:Lib.decDigits a=Lib.decDigits b:=by injection c
 have d:=(Y9 a).2;rw[f,(Y9 b).2] at d;exact d.symm
theorem UG(a:Nat):(bl (aC nl a)).head? =some 108:=by rw[RS];rfl
theorem Xf(a:Nat):(bl (aC nn a)).head? =some 110:=by rw[RS];rfl
theorem rI(a:Nat):(bl (aX a)).head? =some 116:=by rw[XH];rfl
theorem WA(a b:Nat):aC nl a≠aC nn b:=λc=>by have:=UG a;rw[c,Xf] at this;cases this
theorem Lt(a b:Nat):aC nl a≠aX b:=λc=>by have:=UG a;rw[c,rI] at this;cases this
theorem QZ(a b:Nat):aC nn a≠aX b:=λc=>by have:=Xf a;rw[c,rI] at this;cases this
def dd(x:A2Q):Prop:=(∃ a,x=aC nl a)\/(∃ a,x=aC nn a)\/ ∃a,x=aX a
def MZ(b G:bQ):Prop:= ∀x,match b x with
 |none=>G x=none
 |some p=> ∃a,G x=if p.1++p.2.extract 0 a=bF then none else some (p.1++p.2.extract 0 a,bF)
theorem AQv(a:Nat):bF.extract 0 a=bF:=by
 have:(bF.extract 0 a).size=0:=by have:bF.size=0:=rfl;rw[A0O];omega
 have b:=Ku (bF.extract 0 a);have c:bl (bF.extract 0 a)= []:=Tz this;rw[c] at b;exact b.symm
def Nk(a b:Option (A2Q×A2Q)):Prop:=b=a\/(a=some (bF,bF)/\b=none)
theorem MZ.bZ {b G:bQ}(c:MZ b G){x:A2Q}(g: ∀p,b x=some p->p.2=bF):Nk (b x) (G x):=by
 have:=c x;cases d:b x with
 |none=>rw[d] at this;exact .inl this
 |some p=>
  rw[d] at this;obtain⟨i,a⟩:=this;have e:=g p d;obtain⟨h,j⟩:=p;simp only at e;subst e;simp only[AQv,YV] at a;by_cases f:h=bF
  ·subst f;rw[if_pos rfl] at a;exact .inr ⟨rfl,a⟩
  ·rw[if_neg f] at a;exact .inl a
structure gy (F:bQ) (nm:A2Q) (top:Nat) (R:Nat->List (List UInt8)):Prop where
 has: ∀n p,1<=n->n<=99999999->F (aC nm n)=some p->p.2=bF/\NR (bl p.1) (R n)
 iw: ∀n,1<=n->n<=99999999->F (aC nm n)=none->R n= []
 out: ∀n,top<=n->n<=99999999->F (aC nm n)=none
 ly: ∀n,(n=0\/top<=n)->R n= []
def KO {a:Type}(c:Nat->a)(s:Nat)(v:a):Nat->a:=λb=>if b=s then v else c b
theorem EL {a:Type}{b:Nat->a}{s:Nat}{v:a}:KO b s v s=v:=if_pos rfl
theorem F6 {b:Type}{c:Nat->b}{s a:Nat}{v:b}(d:a≠s):KO c s v a=c a:=if_neg d
theorem rJ {a:List (List UInt8)}(b:NR [] a):a= []:=b.uniq (.stop UD)
theorem gy.put {k G:bQ}{f:A2Q}{l eY:Nat}{m:Nat->List (List UInt8)}(i:gy k f l m){s:Nat}{v:List (List UInt8)}(r:1<=s/\s<=99999999)(t:s<eY)(j: ∀a,1<=a->a<=99999999->a≠s->Nk (k (aC f a)) (G (aC f a)))
  (n:(G (aC f s)=none/\v= [])\/ ∃x,G (aC f s)=some (x,bF)/\NR (bl x) v) (u:l<=eY):gy G f eY (KO m s v):=by
 refine⟨λa p g e c=>?_,λa g e c=>?_,λa o e=>?_,λa o=>?_⟩
 ·by_cases d:a=s
  ·subst d;rw[EL];rcases n with⟨b,_⟩|⟨x,b,h⟩
   ·rw[b] at c;cases c
   ·rw[b] at c;cases c;exact⟨rfl,h⟩
  ·rw[F6 d];rcases j a g e d with b|⟨b,h⟩
   ·exact i.has a p g e (b▸c)
   ·rw[h] at c;cases c
 ·by_cases d:a=s
  ·subst d;rw[EL];rcases n with⟨_,b⟩|⟨x,b,_⟩
   ·exact b
   ·rw[b] at c;cases c
  ·rw[F6 d];rcases j a g e d with b|⟨b,h⟩
   ·exact i.iw a g e (b▸c)
   ·obtain⟨_,q⟩:=i.has a _ g e b;exact rJ q
 ·have d:a≠s:=by omega
  rcases j a (by omega) e d with b|⟨b,h⟩
  ·rw[b];exact i.out a (by omega) e
  ·exact h
 ·have d:a≠s:=by omega
  rw[F6 d];exact i.ly a (by omega)
theorem gy.aN {k G:bQ}{f:A2Q}{i:Nat}{l:Nat->List (List UInt8)}(d:gy k f i l)(o:1<=i)(j: ∀a,1<=a->a<=99999999->Nk (k (aC f a)) (G (aC f a))):gy G f i l:=by
 refine⟨λa p g b e=>?_,λa g b e=>?_,λa m b=>?_,d.ly⟩
 ·rcases j a (by omega) b with c|⟨c,h⟩
  ·exact d.has a p g b (c▸e)
  ·rw[h] at e;cases e
 ·rcases j a (by omega) b with c|⟨c,h⟩
  ·exact d.iw a g b (c▸e)
  ·obtain⟨_,n⟩:=d.has a _ g b c;exact rJ n
 ·rcases j a (by omega) b with c|⟨c,h⟩
  ·rw[c];exact d.out a m b
  ·exact h
theorem gy.drop {l G:bQ}{e:A2Q}{h:Nat}{m g:Nat->List (List UInt8)}(i:gy l e h m)(j: ∀a,a<=99999999->(G (aC e a)=l (aC e a)/\g a=m a)\/(G (aC e a)=none/\g a= []))(n: ∀a,(a=0\/h<=a)->g a= []):gy G e h g:=by
 refine⟨λa p k c f=>?_,λa k c f=>?_,λa o c=>?_,n⟩
 ·rcases j a c with⟨b,d⟩|⟨b,d⟩
  ·rw[d];exact i.has a p k c (b▸f)
  ·rw[b] at f;cases f
 ·rcases j a c with⟨b,d⟩|⟨b,d⟩
  ·rw[d];exact i.iw a k c (b▸f)
  ·exact d
 ·rcases j a c with⟨b,d⟩|⟨b,d⟩
  ·rw[b];exact i.out a o c
  ·exact b
theorem zj {rs:List (List UInt8)}{r:List UInt8}(b: ∀x∈rs++ [r],x.length<=1048576)(a:Nat):NR (bl (AX (aJ rs)++(AX (Ct r)).extract 0 a)) rs\/NR (bl (AX (aJ rs)++(AX (Ct r)).extract 0 a)) (rs++ [r]):=by
 have c:bl (AX (aJ rs)++(AX (Ct r)).extract 0 a)=aJ rs++(Ct r).take a:=by show(AX (aJ rs)++(AX (Ct r)).extract 0 a).data.toList=_;rw[Kf,No,SP,SR];rw[show(AX (aJ rs)).data.toList=aJ rs from Be _,show(AX (Ct r)).data.toList=Ct r from Be _];simp
 rw[c];by_cases d:a<(Ct r).length
 ·exact .inl (Ra (λx e=>b x (by simp[e])) (AM8 (b r (by simp)) d))
 ·right;rw[AF (by omega)];have:=Ra (rs:=rs++ [r]) b (t:= []) UD;simpa using this
structure Nt where
 next:Nat
 aV:Nat
 names:List Nat
def EF(x:Nt):List UInt8:=Bd x.next++Bd x.aV++Bd x.names.length++x.names.flatMap Bd
structure hG (x:Nt):Prop where
 next:x.next<=99999999
 aV:1<=x.aV/\x.aV<=99999999
 cn:x.names.length<=60000
 below: ∀n∈x.names,n<x.next
 nd:x.names.Nodup
structure YR (b:List Pr):Prop where
 len:b.length<=64
 ok: ∀x∈b,La x
theorem Uu: ∀ {l:List Nat},(∀ n∈l,n<=99999999)->(l.flatMap Bd).length<=l.length*10
 | [],_=>by simp
 |n::l,a=>by
  have d:=AV (n:=n) (by have:=a n (by simp);omega);have e:=Uu (l:=l) λb c=>a b (AG _ c)
  simp only[AH,A1,A5];omega
theorem zk {x:Nt}(a:hG x):(EF x).length<=30+x.names.length*10:=by
 have c:=AV (n:=x.next) (by have:=a.next;omega);have d:=AV (n:=x.aV) (by have:=a.aV;omega);have e:=AV (n:=x.names.length) (by have:=a.cn;omega);have f:=Uu (l:=x.names) λn b=>by have:=a.below n b;have:=a.next;omega
 simp only[EF,A1];omega
theorem ZI {s:Nat}{b:List Pr}(d:s<=99999999)(a:YR b):(BX s b).length<=20+64*8276:=by have e:=AV (n:=s) (by omega);have f:=AV (n:=b.length) (by have:=a.len;omega);have g:=Ls a.ok;have c:=a.len;have h:b.length*8276<=64*8276:=AS _ c;simp only[BX,A1];omega
structure Bt where
 L:Nat->List (List Pr)
 N:Nat->List Nt
 T:Nat->List Pr
 aQ:Nat
 aW:Nat
def NU(a:Bt):List Nt:=(List.range a.aW).flatMap a.N
def Ao(a:Bt):Nt:=(NU a).getLast?.getD ⟨1,1,[]⟩
def IP(a:Bt):List (List Pr):=(List.range a.aQ).flatMap λb=>if b<(Ao a).aV then [] else a.L b
def Em(a:Bt):List Pr:=BA [] (IP a).flatten
def cA(a:Bt):List Pr:=BH (Ag (Em a::(Ao a).names.map a.T))
structure BJ (F:bQ) (D:Bt):Prop where
 log:gy F nl D.aQ λn=>(D.L n).map (BX n)
 note:gy F nn D.aW λn=>(D.N n).map EF
 cO: ∀n∈(Ao D).names,F (aX n)=some (AX (Jc (D.T n)),bF)/\G6 (D.T n)
 gq: ∀n b,b∈D.L n->YR b
 dP: ∀n x,x∈D.N n->hG x
 dA: ∀x,F x≠none->(bl x).head? =some 116-> ∃n,x=aX n
 cE:1<=D.aQ/\D.aQ<=99999999/\1<=D.aW/\D.aW<=99999999
theorem zl {b:bQ}{a:Bt}(c:BJ b a):hG (Ao a):=by
 unfold Ao;cases d:(NU a).getLast? with
 |none=>exact⟨by simp,by simp,by simp,by simp,by simp⟩
 |some x=>
  have:=T4 d;obtain⟨e,_,f⟩:=List.mem_flatMap.1 this;exact c.dP e x f
theorem ATK {l:List Pr}(t:G6 l):AX (Jc l)≠bF:=λd=>by
 have a:Jc l= []:=by have:=congrArg bl d;rw[EO] at this;exact this
 have e:aT l (Mx l)≠ []:=by simp[aT]
 unfold Jc at a;cases b:aT l (Mx l) with
 |nil=>exact e b
 |cons r f=>
  rw[b] at a;have g:(Ct r).length=0:=by have c:=congrArg List.length a;rw[XP,A1] at c;simp at c;simp[c.1]
  have h:=(JL (r:=r) (Nq t.eM r (by rw[b];simp))).1;omega
theorem VM {a b:Option (A2Q×A2Q)}{l:List Pr}(e:Nk a b)(t:G6 l)(d:a=some (AX (Jc l),bF)):b=some (AX (Jc l),bF):=by
 rcases e with c|⟨c,_⟩
 ·exact c.trans d
 ·rw[d] at c;injection c with c;exact absurd (Prod.mk.inj c).1 (ATK t)
theorem BJ.same {c G:bQ}{e:Bt}(b:BJ c e)(h: ∀a,1<=a->a<=99999999->Nk (c (aC nl a)) (G (aC nl a)))(i: ∀a,1<=a->a<=99999999->Nk (c (aC nn a)) (G (aC nn a)))(j: ∀a∈(Ao e).names,Nk (c (aX a)) (G (aX a)))
  (k: ∀x,G x≠none->c x≠none\/ ∃a,x=aX a):BJ G e:=by
 refine⟨b.log.aN b.cE.1 h,b.note.aN b.cE.2.2.1 i,λa f=>?_,b.gq,b.dP,λx l hd=>?_,b.cE⟩
 ·obtain⟨d,g⟩:=b.cO a f;exact⟨VM (j a f) g d,g⟩
 ·rcases k x l with d|d
  ·exact b.dA x d hd
  ·exact d
theorem BJ.dQ {g G:bQ}{h:Bt}(d:BJ g h)(c:MZ g G):BJ G h:=by
 refine d.same (λb e f=>c.bZ λp a=>(d.log.has b p e f a).1) (λb e f=>c.bZ λp a=>(d.note.has b p e f a).1) (λb i=>c.bZ λp a=>?_) λx j=> .inl λk=>j ?_
 ·rw[(d.cO b i).1] at a;cases a;rfl
 ·have:=c x;rw[k] at this;exact this
open M (Sorted Af CY BA Ag Au BV Ai bB BH aP BF X8)
theorem AQD {x:Pr}(a:La x):Ai x=0:=by
 have c:x.key≠(⟨#[]⟩:A2Q):=λd=>a.key (by rw[d];rfl)
 have f:=a.bK;have g:=a.cp;unfold M.Ai;rw[if_neg ?_,if_neg ?_]
 ·simp only[DB,decide_eq_true_eq];omega
 ·simp only[DB,A4,decide_eq_true_eq,CI,decide_eq_false_iff_not];rintro(b|⟨b,e⟩)
  ·exact c b
  ·exact e (Zz (a.gone b))
theorem oL {x:Pr}(a:Ai x=0):La x:=by
 unfold M.Ai at a;split at a
 ·cases a
 ·rename_i b;split at a
  ·cases a
  ·rename_i c;simp only[DB,A4,decide_eq_true_eq,CI,decide_eq_false_iff_not,not_or,not_and,Decidable.not_not] at b c;refine⟨λd=>b.1 (Zz d),by omega,by omega,λe=>?_⟩;rw[b.2 e];rfl
theorem zC {l:List Pr}(a: ∀x∈l,La x):BV l:=λx b=>AQD (a x b)
theorem zD(a:A2Q): ∀ {b t:List Pr},Sorted t->BV b->Af a (BA t b)=(Af a b.reverse).or (Af a t)
 | [],t,_,_=>rfl
 |x::b,t,s,g=>by
  have d:=g x (by simp);show Af a (BA (CY x t) b)=_;rw[zD a (M.Pb s) λe f=>g e (AG _ f),SD,M.LM,M.Qm d,M.Xh x a s,M.BD];cases Af a b.reverse with
  |some p=>rfl
  |none=>
   by_cases c:x.key=a
   ·rw[if_pos c,if_pos c];rfl
   ·rw[if_neg c,if_neg c];rfl
def alive(a:Option Pr):Option Pr:=a.filter λp=> !p.gone
theorem Hw(x:Pr):alive (some x)=if x.gone then none else some x:=by unfold alive;cases a:x.gone<;>simp[Option.filter,a]
theorem ZW(a:A2Q): ∀ {l:List Pr},Sorted l->Af a (BH l)=alive (Af a l)
 | [],_=>rfl
 |x::l,s=>by
  have e:=List.pairwise_cons.1 s;have c:=ZW a e.2;unfold M.BH at c ⊢;rw[AT,M.BD];by_cases b:x.key=a
  ·rw[if_pos b];cases d:x.gone with
   |false=>rw[if_pos (by rfl),M.BD,if_pos b,Hw,d];rfl
   |true=>
    rw[if_neg (by simp),c];have:Af a l=none:=M.EJ λf g h=>M.Lj (e.1 f g) (b.trans h.symm)
    rw[this,Hw,d];rfl
  ·rw[if_neg b];cases d:x.gone with
   |false=>rw[if_pos (by rfl),M.BD,if_neg b];exact c
   |true=>rw[if_neg (by simp)];exact c
theorem Uq {l:List Pr}(s:Sorted l):Sorted (BH l):=s.sublist Gk
def Lr(fr:List Pr)(ts:List (List Pr)):List Pr:=BH (Ag (fr::ts))
theorem Ew(fr:List Pr)(ts:List (List Pr)):Sorted (Lr fr ts):=Uq (M.Dz _)
theorem Gf(a:A2Q){fr:List Pr}{ts:List (List Pr)}(b:bB (fr::ts)):Af a (Lr fr ts)=alive ((Af a fr).or (Au a ts)):=by unfold Lr;rw[ZW a (M.Dz _),M.Kn a b,M.EM]
def fh(m:List Pr)(p:Pr):List Pr:=m.take (aP p.key m)++(if p.gone then [] else [p])++m.drop (if BF p.key m then aP p.key m+1 else aP p.key m)
def cz(m b:List Pr):List Pr:=b.foldl fh m
theorem UL(a:A2Q)(x:Pr)(l:List Pr):aP a (x::l)=if aM x.key a then aP a l+1 else 0:=by unfold M.aP M.gB;rw[IS];split<;>simp
theorem zE(a:A2Q)(x:Pr)(l:List Pr):BF a (x::l)=if aM x.key a then BF a l else decide (x.key=a):=by unfold M.BF;rw[UL];by_cases b:aM x.key a=true<;>simp[b]
def kB(a:A2Q)(l:List Pr):List Pr:=l.filter λb=> !decide (b.key=a)
theorem zF {k:A2Q}: ∀ {l:List Pr},Sorted l->l.take (aP k l)++l.drop (if BF k l then aP k l+1 else aP k l)=kB k l
 | [],_=>by simp[kB]
 |x::l,s=>by
  have c:=List.pairwise_cons.1 s;have d:=zF (k:=k) c.2;unfold kB at d ⊢;rw[UL,zE,AT];by_cases a:aM x.key k=true
  ·have i:x.key≠k:=M.Lj a;have j:(!decide (x.key=k))=true:=by simp[i]
   simp only[a,if_true,j,I2,Dd];rw[<- d];cases o:BF k l<;>simp
  ·rw[if_neg a,if_neg a,Is,CT];have e:l.filter (λm=> !decide (m.key=k))=l:=by
    refine List.filter_eq_self.2 λf n=>?_
    have g:=c.1 f n;by_cases h:f.key=k
    ·rw[h] at g;exact absurd g a
    ·simp[h]
   by_cases b:x.key=k
   ·rw[if_pos (by simp[b]),if_neg (by simp[b]),e];rfl
   ·rw[if_neg (by simp[b]),if_pos (by simp[b]),e];rfl
theorem rK {m:List Pr}(s:Sorted m)(p:Pr):fh m p=if p.gone then kB p.key m else M.ins p m:=by
 unfold fh;cases a:p.gone with
 |true=>simp only[if_true,AK];exact zF s
 |false=>
  simp only[Cp,if_false];have:=M.mY p m;unfold M.X8 at this;exact this
theorem AN5(b c:A2Q)(m:List Pr):Af b (kB c m)=if c=b then none else Af b m:=by
 unfold kB
 induction m with
 |nil=>split<;>rfl
 |cons x m f=>
  rw[AT,M.BD];by_cases d:x.key=c
  ·rw[if_neg (by simp[d]),f];by_cases a:c=b
   ·rw[if_pos a,if_pos a]
   ·rw[if_neg a,if_neg a,if_neg (λe=>a (d.symm.trans e))]
  ·rw[if_pos (by simp[d]),M.BD,f];by_cases a:x.key=b
   ·rw[if_pos a,if_pos a,if_neg (λe=>d (a.trans e.symm))]
   ·rw[if_neg a,if_neg a]
theorem KE {m:List Pr}(s:Sorted m)(p:Pr):Sorted (fh m p):=by
 rw[rK s];split
 ·exact s.sublist Gk
 ·exact M.XE p s
theorem PK {m:List Pr}(s:Sorted m)(p:Pr)(a:A2Q):Af a (fh m p)=if p.key=a then alive (some p) else Af a m:=by
 rw[rK s];cases b:p.gone with
 |true=>rw[if_pos rfl,AN5,Hw,b];rfl
 |false=>rw[if_neg (by simp),M.Xh p a s,Hw,b];rfl
theorem zG: ∀ {b m:List Pr},Sorted m->Sorted (cz m b)
 | [],_,s=>s
 |p::b,m,s=>zG (b:=b) (KE s p)
theorem YI(a:A2Q): ∀ {b m:List Pr},Sorted m->Af a (cz m b)=match Af a b.reverse with|some p=>alive (some p)|none=>Af a m
 | [],_,_=>rfl
 |p::b,m,s=>by
  show Af a (cz (fh m p) b)=_;rw[YI a (KE s p),SD,M.LM,M.BD];cases Af a b.reverse with
  |some d=>rfl
  |none=>
   rw[PK s];by_cases c:p.key=a
   ·rw[if_pos c,if_pos c];rfl
   ·rw[if_neg c,if_neg c];rfl
theorem zH {fr b:List Pr}{ts:List (List Pr)}(c:bB (fr::ts))(g:BV b):Lr (BA fr b) ts=cz (Lr fr ts) b:=by
 have e:=c.sorted fr (by simp);have f:bB (BA fr b::ts):=⟨λl a=>by
   rcases List.mem_cons.1 a with rfl|a
   ·exact M.RB e
   ·exact c.sorted l (by simp[a]),λl a=>by
   rcases List.mem_cons.1 a with rfl|a
   ·exact M.XU (c.aS fr (by simp))
   ·exact c.aS l (by simp[a])⟩
 refine(Ew _ _).ext (zG (Ew _ _)) λd=>?_
 rw[Gf d f,zD d e g,YI d (Ew _ _),Gf d c];cases Af d b.reverse with
 |some p=>rfl
 |none=>rfl
theorem bB.gJ {ts:List (List Pr)}(b:bB ts):bB ([]::ts):=⟨λl a=>by
  rcases List.mem_cons.1 a with rfl|a
  ·exact List.Pairwise.nil
  ·exact b.sorted l a,λl a=>by
  rcases List.mem_cons.1 a with rfl|a
  ·exact λ_ c=>by cases c
  ·exact b.aS l a⟩
theorem bB.tail {l:List Pr}{ts:List (List Pr)}(b:bB (l::ts)):bB ts:=⟨λx a=>b.sorted x (by simp[a]),λx a=>b.aS x (by simp[a])⟩
theorem AHs {fr:List Pr}{ts:List (List Pr)}(a:bB (fr::ts)):Lr [] (fr::ts)=Lr fr ts:=by
 refine(Ew _ _).ext (Ew _ _) λb=>?_
 rw[Gf b (bB.gJ a),Gf b a,M.EM];rfl
theorem AHW(a b:Option Pr):alive (a.or (alive b))=alive (a.or b):=by
 cases a with
 |some p=>rfl
 |none=>
  cases b with
  |none=>rfl
  |some c=>cases d:c.gone<;>simp[Hw,d,alive]
def GV(ts:List (List Pr)):List Pr:=BH (Ag ts)
theorem oM {ts:List (List Pr)}:Sorted (GV ts)/\BV (GV ts):=⟨Uq (M.Dz _),λx a=>M.Xq _ x (List.mem_filter.1 a).1⟩
theorem bB.left {fr:List Pr}{ts:List (List Pr)}(b:bB (fr::ts)):bB [fr,GV ts]:=⟨λl a=>by
  rcases List.mem_cons.1 a with rfl|a
  ·exact b.sorted _ (by simp)
  ·rw[List.mem_singleton.1 a];exact oM.1,λl a=>by
  rcases List.mem_cons.1 a with rfl|a
  ·exact b.aS _ (by simp)
  ·rw[List.mem_singleton.1 a];exact oM.2⟩
theorem WG {fr:List Pr}{ts:List (List Pr)}(b:bB (fr::ts)):Lr fr [GV ts]=Lr fr ts:=by
 refine(Ew _ _).ext (Ew _ _) λa=>?_
 rw[Gf a (bB.left b),Gf a b,M.EM];have:Af a (GV ts)=alive (Au a ts):=by unfold GV;rw[ZW a (M.Dz _),M.Kn a (bB.tail b)]
 rw[this];have c:Au a ([]:List (List Pr))=none:=rfl;rw[c,Option.or_none,AHW]
theorem ABs {fr:List Pr}{ts:List (List Pr)}(a:bB (fr::ts))(c:GV ts= []):Lr fr []=Lr fr ts:=by
 rw[<- WG a,c];have e:bB [fr]:=⟨λl b=>by rw[List.mem_singleton.1 b];exact a.sorted _ (by simp),λl b=>by rw[List.mem_singleton.1 b];exact a.aS _ (by simp)⟩;have f:bB [fr,[]]:=by have:=bB.left a;rw[c] at this;exact this
 refine(Ew _ _).ext (Ew _ _) λd=>?_
 rw[Gf d e,Gf d f,M.EM];rfl
theorem rL(l:List Pr):(BH l).length<=l.length:=(Gk).length_le
theorem Ti {c:Type}{b:Nat->List c}{t:Nat}: ∀ {t':Nat},t<=t'->(∀ a,t<=a->a<t'->b a= [])->(List.range t').flatMap b=(List.range t).flatMap b
 |0,d,_=>by
  simp_all
 |t'+1,d,e=>by
  by_cases f:t=t'+1
  ·rw[f]
  ·rw[Nx,Ge,Ti (t':=t') (by omega) λa g h=>e a g (by omega)]
   grind
theorem Zj {c:Type}{a:Nat->List c}{s t:Nat}(e:s<t)(d: ∀b,s<b->a b= []):(List.range t).flatMap a=(List.range s).flatMap a++a s:=by rw[Ti (t:=s+1) (by omega) λb f _=>d b (by omega),Nx,Ge];simp
theorem zL {d:Type}{b c:Nat->List d}{t:Nat}(e: ∀a,a<t->b a=c a):(List.range t).flatMap b=(List.range t).flatMap c:=by grind [List.flatMap,List.map_congr_left]
theorem rN {a:Bt}{s:Nat}{l:List Nt}{x:Nt}(c:a.N s=l++ [x])(d: ∀b,s<b->a.N b= [])(e:s<a.aW):Ao a=x:=by unfold Ao NU;rw[Zj e d,c,<-A3,SZ];rfl
theorem BJ.gH {c:bQ}{b:Bt}(d:BJ c b){a:Nat}(e:a=0\/b.aQ<=a):b.L a= []:=by simpa using d.log.ly a e
theorem BJ.gK {c:bQ}{b:Bt}(d:BJ c b){a:Nat}(e:a=0\/b.aW<=a):b.N a= []:=by simpa using d.note.ly a e
theorem BJ.jH {b:bQ}{c:Bt}(d:BJ b c){a:Nat}(e:a<=99999999)(f:b (aC nl a)=none):c.L a= []:=by
 by_cases g:a=0
 ·exact d.gH (.inl g)
 ·simpa using d.log.iw a (by omega) e f
theorem BJ.jM {b:bQ}{c:Bt}(d:BJ b c){a:Nat}(e:a<=99999999)(f:b (aC nn a)=none):c.N a= []:=by
 by_cases g:a=0
 ·exact d.gK (.inl g)
 ·simpa using d.note.iw a (by omega) e f
theorem zM(t a b:List Pr):BA t (a++b)=BA (BA t a) b:=Hi
theorem zN:BV ([]:List Pr):=λ_ a=>by cases a
theorem AKh:Sorted ([]:List Pr):=List.Pairwise.nil
theorem zP(a:Bt):Sorted (Em a)/\BV (Em a):=⟨M.RB AKh,M.XU zN⟩
theorem G6.aS {l:List Pr}(t:G6 l):Sorted l/\BV l:=⟨t.inc,zC t.ok⟩
theorem BJ.fW {f:bQ}{a:Bt}(e:BJ f a):bB (Em a::(Ao a).names.map a.T):=by
 refine⟨λl b=>?_,λl b=>?_⟩<;>rcases List.mem_cons.1 b with rfl|b
 ·exact(zP a).1
 ·obtain⟨c,d,rfl⟩:=List.mem_map.1 b;exact(e.cO c d).2.aS.1
 ·exact(zP a).2
 ·obtain⟨c,d,rfl⟩:=List.mem_map.1 b;exact(e.cO c d).2.aS.2
def TA(a:Bt)(s:Nat)(b:List Pr):Bt:= {a with L:=KO a.L s (a.L s++ [b]),aQ:=max a.aQ (s+1)}
theorem zQ {e:bQ}{a:Bt}(f:BJ e a){s:Nat}{b:List Pr}(l:(Ao a).aV<=s)(m: ∀c,s<c->a.L c= []):IP (TA a s b)=IP a++ [b]:=by
 have d:s<max a.aQ (s+1):=by omega
 have g:IP a=(List.range s).flatMap (λc=>if c<(Ao a).aV then [] else a.L c)++a.L s:=by
  have h:IP a=(List.range (max a.aQ (s+1))).flatMap λc=>if c<(Ao a).aV then [] else a.L c:=by
   refine(Ti (by omega) λc i n=>?_).symm;split
   ·rfl
   ·exact f.gH (.inr i)
  rw[h,Zj (s:=s) d (λc j=>by
   simp_all),if_neg (by omega)]
 have k:IP (TA a s b)=(List.range s).flatMap (λc=>if c<(Ao a).aV then [] else KO a.L s (a.L s++ [b]) c)++KO a.L s (a.L s++ [b]) s:=by
  show(List.range (max a.aQ (s+1))).flatMap (λc=>if c<(Ao a).aV then [] else KO a.L s (a.L s++ [b]) c)=_;rw[Zj (s:=s) d (λc j=>by
   grind [F6]),if_neg (by omega)]
 rw[g,k,EL,A3];congr 1
 grind [zL,F6]
theorem APV {e:bQ}{a:Bt}(f:BJ e a){s:Nat}{b:List Pr}(h:(Ao a).aV<=s)(i: ∀c,s<c->a.L c= [])(g:YR b):Em (TA a s b)=BA (Em a) b/\cA (TA a s b)=cz (cA a) b:=by
 have d:Em (TA a s b)=BA (Em a) b:=by grind [Em,zQ,List.flatten_append,zM]
 refine⟨d,?_⟩;have:=zH f.fW (zC g.ok);unfold cA;rw[d];exact this
theorem AQt {g G:bQ}{d:Bt}(f:BJ g d){s:Nat}{b:List Pr}(j:1<=s/\s+1<=99999999)(k:YR b)(l: ∀a,1<=a->a<=99999999->a≠s->Nk (g (aC nl a)) (G (aC nl a)))(m: ∀a,1<=a->a<=99999999->Nk (g (aC nn a)) (G (aC nn a)))
  (n: ∀a,Nk (g (aX a)) (G (aX a))) (o: ∀x,(∀ a,x≠aC nl a)->G x≠none->g x≠none) (p: ∃x,G (aC nl s)=some (x,bF)/\NR (bl x) ((d.L s++ [b]).map (BX s))):BJ G (TA d s b):=by
 have q: ∀a∈(Ao d).names,G (aX a)=some (AX (Jc (d.T a)),bF)/\G6 (d.T a):=λa r=>
  let ⟨t,i⟩:=f.cO a r
  ⟨VM (n a) i t,i⟩
 refine⟨?_,?_,q,λa c e=>?_,f.dP,λx u hd=>?_,by have:=f.cE;refine⟨?_,?_,this.2.2.1,this.2.2.2⟩<;>simp only[TA]<;>omega⟩
 ·have:=f.log.put (G:=G) (eY:=max d.aQ (s+1)) (s:=s) (v:=(d.L s++ [b]).map (BX s)) ⟨j.1,by omega⟩ (by omega) (λa w y z=>l a w y z) (.inr p) (by omega);have h:(KO (λa=>(d.L a).map (BX a)) s ((d.L s++ [b]).map (BX s)))=λa=>((TA d s b).L a).map (BX a):=by
   funext a;show _=(KO d.L s (d.L s++ [b]) a).map (BX a)
   grind [EL,F6]
  rw[h] at this;exact this
 ·exact f.note.aN f.cE.2.2.1 m
 ·by_cases h:a=s
  ·subst h;have e:c∈KO d.L a (d.L a++ [b]) a:=e;rw[EL] at e;rcases List.mem_append.1 e with e|e
   ·exact f.gq a c e
   ·rw[List.mem_singleton.1 e];exact k
  ·have e:c∈KO d.L s (d.L s++ [b]) a:=e;rw[F6 h] at e;exact f.gq a c e
 ·exact f.dA x (o x (λa h=>by grind [UG]) u) hd
def addN(a:Bt)(s:Nat)(x:Nt)(T:Nat->List Pr):Bt:= {a with N:=KO a.N s [x],T:=T,aW:=max a.aW (s+1)}
theorem zR {a:Bt}{s:Nat}{x:Nt}{T:Nat->List Pr}(c: ∀b,s<b->a.N b= []):Ao (addN a s x T)=x:=by
 refine rN (s:=s) (l:= []) ?_ (λb d=>?_) ?_
 ·show KO a.N s [x] s=_;rw[EL];rfl
 ·show KO a.N s [x] b= []
  grind [F6]
 ·show s<max a.aW (s+1);omega
theorem zS {g G:bQ}{c:Bt}(f:BJ g c){s:Nat}{x:Nt}{T:Nat->List Pr}(i:1<=s/\s+1<=99999999)(j:hG x)(k: ∀a,s<a->c.N a= [])(l: ∀a,1<=a->a<=99999999->Nk (g (aC nl a)) (G (aC nl a)))(m: ∀a,1<=a->a<=99999999->a≠s->Nk (g (aC nn a)) (G (aC nn a)))
  (n: ∀a∈x.names,G (aX a)=some (AX (Jc (T a)),bF)/\G6 (T a)) (o: ∀x,(∀ a,x≠aC nn a)->(∀ a,x≠aX a)->G x≠none->g x≠none) (p: ∃b,G (aC nn s)=some (b,bF)/\NR (bl b) [EF x]):BJ G (addN c s x T):=by
 refine⟨f.log.aN f.cE.1 l,?_,λa h=>?_,f.gq,λa b d=>?_,λb d hd=>?_,by have:=f.cE;refine⟨this.1,this.2.1,?_,?_⟩<;>simp only[addN]<;>omega⟩
 ·have:=f.note.put (G:=G) (eY:=max c.aW (s+1)) (s:=s) (v:= [EF x]) ⟨i.1,by omega⟩ (by omega) (λa q r t=>m a q r t) (.inr p) (by omega);have e:(KO (λa=>(c.N a).map EF) s [EF x])=λa=>((addN c s x T).N a).map EF:=by
   funext a;show _=(KO c.N s [x] a).map EF
   grind [EL,F6]
  rw[e] at this;exact this
 ·rw[zR k] at h;exact n a h
 ·have d:b∈KO c.N s [x] a:=d;by_cases e:a=s
  ·rw[e,EL] at d;rw[List.mem_singleton.1 d];exact j
  ·rw[F6 e] at d;exact f.dP a b d
 ·by_cases e: ∃a,b=aX a
  ·exact e
  ·exact f.dA b (o b (λa e=>by grind [Xf]) (λa u=>e ⟨a,u⟩) d) hd
theorem BJ.fX {e G:bQ}{c:Bt}(f:BJ e c)(d: ∀x,(∀ a,a∉(Ao c).names->x≠aX a)->G x=e x):BJ G c:=by
 refine f.same (λa _ _=> .inl (d _ λb _=>Lt a b)) (λa _ _=> .inl (d _ λb _=>QZ a b)) (λa g=> .inl (d _ λb h i=>h (by rw[<- JQ i];exact g))) λx j=>?_
 grind
open Classical in
noncomputable def Ng (b:Bt) (G:bQ):Bt:= {b with L:=λa=>if a<=99999999/\G (aC nl a)=none then [] else b.L a}
open Classical in
noncomputable def oQ (b:Bt) (G:bQ):Bt:= {b with N:=λa=>if a<=99999999/\G (aC nn a)=none then [] else b.N a}
theorem AJs {b:Bt}{f G:bQ}(g:BJ f b)(h: ∀a,a<=99999999->G (aC nl a)=f (aC nl a)\/(G (aC nl a)=none/\a<(Ao b).aV)):IP (Ng b G)=IP b:=by
 unfold IP;refine zL λa i=>?_
 show(if a<(Ao b).aV then [] else if a<=99999999/\G (aC nl a)=none then [] else b.L a)=_;by_cases c:a<(Ao b).aV
 ·rw[if_pos c,if_pos c]
 ·rw[if_neg c,if_neg c];split
  ·rename_i d;rcases h a d.1 with e|e
   ·rw[e] at d;exact(g.jH d.1 d.2).symm
   ·exact absurd e.2 c
  ·rfl
theorem APZ {f G:bQ}{d:Bt}(c:BJ f d)(m: ∀a,a<=99999999->G (aC nl a)=f (aC nl a)\/(G (aC nl a)=none/\a<(Ao d).aV))(j: ∀x,(∀ a,a<=99999999->x≠aC nl a)->G x=f x):BJ G (Ng d G):=by
 refine⟨c.log.drop (λa k=>?_) (λa g=>?_),c.note.aN c.cE.2.2.1 λa n k=> .inl (j _ λh _ i=>WA h a i.symm),λa g=>?_,λa b e=>?_,c.dP,λx o hd=>?_,c.cE⟩
 ·show _\/(G (aC nl a)=none/\((if a<=99999999/\G (aC nl a)=none then [] else d.L a).map (BX a))= []);rcases m a k with l|l
  ·by_cases p:G (aC nl a)=none
   ·simp_all
   ·left;refine⟨l,?_⟩;show((if a<=99999999/\G (aC nl a)=none then [] else d.L a).map (BX a))=_
    simp_all
  simp_all
 ·show((if a<=99999999/\G (aC nl a)=none then [] else d.L a).map (BX a))= [];split
  ·rfl
  ·rw[c.gH g];rfl
 ·rw[j _ λh _ i=>Lt h a i.symm];exact c.cO a g
 ·have e:b∈(if a<=99999999/\G (aC nl a)=none then [] else d.L a):=e;split at e
  ·cases e
  ·exact c.gq a b e
 ·exact c.dA x (by grind) hd
theorem zT {a:Bt}{G:bQ}{s:Nat}{x:Nt}(d:a.N s= [x])(e: ∀b,s<b->a.N b= [])(c:s<a.aW)(f:G (aC nn s)≠none):Ao (oQ a G)=x:=by
 refine rN (s:=s) (l:= []) ?_ (λb g=>?_) c
 ·show(if s<=99999999/\G (aC nn s)=none then [] else a.N s)=_
  simp_all
 ·show(if b<=99999999/\G (aC nn b)=none then [] else a.N b)= []
  simp_all
theorem APw {g G:bQ}{c:Bt}(d:BJ g c){s:Nat}{x:Nt}(k:c.N s= [x])(f: ∀a,s<a->c.N a= [])(m:s<c.aW)(q:G (aC nn s)≠none)(r: ∀a,a<=99999999->G (aC nn a)=g (aC nn a)\/G (aC nn a)=none)(n: ∀x,(∀ a,a<=99999999->x≠aC nn a)->G x=g x):BJ G (oQ c G):=by
 have t:Ao (oQ c G)=Ao c:=by rw[zT k f m q,rN (l:= []) k f m]
 refine⟨d.log.aN d.cE.1 λa v o=> .inl (n _ λh _ i=>WA a h i),d.note.drop (λa o=>?_) (λa f=>?_),λa p=>?_,d.gq,λa b e=>?_,λx w hd=>?_,d.cE⟩
 ·rcases r a o with j|j
  ·by_cases u:G (aC nn a)=none
   ·right;refine⟨u,?_⟩;show((if a<=99999999/\G (aC nn a)=none then [] else c.N a).map EF)= []
    simp_all
   ·left;refine⟨j,?_⟩;show((if a<=99999999/\G (aC nn a)=none then [] else c.N a).map EF)=_
    simp_all
  ·right;refine⟨j,?_⟩;show((if a<=99999999/\G (aC nn a)=none then [] else c.N a).map EF)= []
   simp_all
 ·show((if a<=99999999/\G (aC nn a)=none then [] else c.N a).map EF)= [];split
  ·rfl
  ·rw[d.gK f];rfl
 ·rw[t] at p;rw[n _ λh _ i=>QZ h a i.symm];exact d.cO a p
 ·have e:b∈(if a<=99999999/\G (aC nn a)=none then [] else c.N a):=e;split at e
  ·cases e
  ·exact d.dP a b e
 ·exact d.dA x (by grind) hd
structure mK (D:Bt) (s:Nat) (x:Nt) (T:Nat->List Pr) (D':Bt):Prop where
 L:D'.L=D.L
 aQ:D'.aQ=D.aQ
 aW:D'.aW<=max D.aW (s+1)
 last:(Ao D'=Ao D/\D'.T=D.T)\/(Ao D'=x/\D'.T=T)
theorem AOi {a:Bt}{s:Nat}{x:Nt}{T:Nat->List Pr}(c: ∀b,s<b->a.N b= []):mK a s x T (addN a s x T):=⟨rfl,rfl,A0 _,.inr ⟨zR c,rfl⟩⟩
theorem APm {a:Bt}{s:Nat}{x:Nt}{T:Nat->List Pr}:mK a s x T a:=⟨rfl,rfl,by omega,.inl ⟨rfl,rfl⟩⟩
theorem ANl {x:Nt}(a:hG x)(b:(EF x).length<=1048576):NR (bl (AX (Ct (EF x)))) [EF x]:=by rw[EO];have:=Ra (rs:= [EF x]) (λc d=>by simp_all) (t:= []) UD;simpa using this
theorem ANX {b g:bQ}{c:Bt}{s:Nat}{x:Nt}{T:Nat->List Pr}(d:BJ b c)(k:1<=s/\s+1<=99999999)(h:hG x)(l:(EF x).length<=1048576)(m: ∀a,s<=a->a<=99999999->b (aC nn a)=none)
  (q: ∀a∈x.names,b (aX a)=some (AX (Jc (T a)),bF)/\G6 (T a)) (f: ∀e,g e=if e=aC nn s then some (AX (Ct (EF x)),bF) else b e):BJ g (addN c s x T)/\ ∀a,s<a->c.N a= []:=by
 have i: ∀a,s<a->c.N a= []:=λa n=>by
  by_cases j:a<=99999999
  ·exact d.jM j (m a (by omega) j)
  ·exact d.gK (.inr (by have:=d.cE;omega))
 refine⟨zS d k h i (λa _ _=> .inl ?_) (λa _ _ o=> .inl ?_) (λa n=>?_) (λe r _ t=>?_) ⟨_,by rw[f,if_pos rfl],ANl h l⟩,i⟩
 ·rw[f,if_neg (WA a s)]
 ·rw[f,if_neg λp=>o (Ig p)]
 ·grind
 simp_all
theorem AMf {g F1 G:bQ}{d:Bt}{s:Nat}{x:Nt}{T:Nat->List Pr}(b:BJ g d)(B:1<=s/\s+1<=99999999)(N:hG x)(V:(EF x).length<=1048576)(C: ∀a,s<=a->a<=99999999->g (aC nn a)=none)
  (y: ∀a∈x.names,g (aX a)=some (AX (Jc (T a)),bF)/\G6 (T a)) (n: ∀e,F1 e=if e=aC nn s then some (bF,AX (Ct (EF x))) else g e) (c:MZ F1 G): ∃i,BJ G i/\mK d s x T i:=by
 have D: ∀a,s<a->d.N a= []:=λa o=>by
  by_cases E:a<=99999999
  ·exact b.jM E (C a (by omega) E)
  ·exact b.gK (.inr (by have:=b.cE;omega))
 have W:d.N s= []:=b.jM (by omega) (C s (A0 _) (by omega));have F: ∀a,1<=a->a<=99999999->Nk (g (aC nl a)) (G (aC nl a)):=λa j k=>by
  have f:F1 (aC nl a)=g (aC nl a):=by rw[n,if_neg (WA a s)]
  have:=c.bZ (x:=aC nl a) λp q=>(b.log.has a p j k (f▸q)).1
  rwa [f] at this
 have H: ∀a,1<=a->a<=99999999->a≠s->Nk (g (aC nn a)) (G (aC nn a)):=λa j k z=>by
  have f:F1 (aC nn a)=g (aC nn a):=by rw[n,if_neg λf=>z (Ig f)]
  have:=c.bZ (x:=aC nn a) λp q=>(b.note.has a p j k (f▸q)).1
  rwa [f] at this
 have O: ∀a l,g (aX a)=some (AX (Jc l),bF)->G6 l->G (aX a)=some (AX (Jc l),bF):=λa l A t=>by
  have f:F1 (aX a)=g (aX a):=by grind
  have:=c.bZ (x:=aX a) λp q=>by grind
  rw[f] at this;exact VM this t A
 have I: ∀e,(∀ a,e≠aC nn a)->G e≠none->g e≠none:=λe m P A=>P (by
  have:=c e;rw[n,if_neg (m s),A] at this;exact this)
 have J:=c (aC nn s);rw[n,if_pos rfl] at J;obtain⟨Q,u⟩:=J;have h:=zj (rs:= []) (r:=EF x) (λr X=>by simp_all) Q;have R:AX (aJ [])=bF:=rfl;rw[R] at h;have K:(G (aC nn s)=none\/ ∃e,G (aC nn s)=some (e,bF)/\NR (bl e) [])-> ∃i,BJ G i/\mK d s x T i:=λS=>by
  have U:NU {d with aW:=max d.aW (s+1)}=NU d:=Ti (by show d.aW<=max d.aW (s+1);omega) λa w _=>b.gK (.inr w)
  have L:Ao {d with aW:=max d.aW (s+1)}=Ao d:=by unfold Ao;rw[U]
  refine⟨{d with aW:=max d.aW (s+1)},⟨b.log.aN b.cE.1 F,?_,λa M=>?_,b.gq,b.dP,λe m hd=>?_,by have:=b.cE;refine⟨this.1,this.2.1,?_,?_⟩<;>simp only[]<;>omega⟩,⟨rfl,rfl,A0 _,.inl ⟨L,rfl⟩⟩⟩
  ·have:=b.note.put (G:=G) (eY:=max d.aW (s+1)) (s:=s) (v:= []) ⟨B.1,by omega⟩ (by omega) (λa j k z=>H a j k z) (S.imp (λb=>⟨b,rfl⟩) λb=>b) (by omega);have f:(KO (λa=>(d.N a).map EF) s [])=λa=>(d.N a).map EF:=by
    funext a
    grind [EL,F6]
   rw[f] at this;exact this
  ·rw[L] at M;obtain⟨w,Y⟩:=b.cO a M
   grind
  ·exact b.dA e (I e (λa f=>by grind [Xf]) m) hd
 split at u
 ·exact K (.inl u)
 ·rcases h with h|h
  ·exact K (.inr ⟨_,u,h⟩)
  ·exact⟨_,zS b B N D F H (λa o=>⟨O a _ (y a o).1 (y a o).2,(y a o).2⟩) (λe w _ m=>I e w m) ⟨_,u,h⟩,AOi D⟩
theorem zU {e G:bQ}{b:Bt}{s:Nat}{x:Nt}{T:Nat->List Pr}(k:BJ e (addN b s x T))(o: ∀a,s<a->b.N a= [])(l:e (aC nn s)≠none)(m: ∀d,G d=e d\/(G d=none/\ ∃a,a<s/\a<=99999999/\d=aC nn a)): ∃c,BJ G c/\Ao c=x/\c.T=T/\c.L=b.L/\c.aQ=b.aQ/\c.aW=max b.aW (s+1):=by
 have f:(addN b s x T).N s= [x]:=by show KO b.N s [x] s=_;rw[EL]
 have g: ∀a,s<a->(addN b s x T).N a= []:=λa p=>by show KO b.N s [x] a=_;grind [F6]
 have h:s<(addN b s x T).aW:=by show s<max b.aW (s+1);omega
 have i:G (aC nn s)≠none:=by
  rcases m (aC nn s) with j|⟨_,a,j,_,n⟩
  ·rw[j];exact l
  ·have:=Ig n;omega
 refine⟨oQ (addN b s x T) G,APw k f g h i (λa q=>?_) λd r=>?_,zT f g h i,rfl,rfl,rfl,rfl⟩
 ·grind
 grind
end Go.Lf.G
namespace Go.Lf
open Go
variable {α : Type} {E : cD α} {A : aq} {P : Q1}
def gZ(a:Array J0):Nat->List J0->Array J0
 |_,[]=>a
 |o,v::b=>gZ (a.setIfInBounds o v) (o+1) b
theorem IQ: ∀(c:List J0) (a:Array J0) (b:Nat),(gZ a b c).size=a.size
 | [],_,_=>rfl
 |v::d,a,b=>by unfold gZ;rw[IQ d];simp
theorem OO: ∀(c:List J0) (b:Array J0) (a:Nat),a+c.length<=b.size->(gZ b a c).toList=b.toList.take a++c++b.toList.drop (a+c.length)
 | [],b,a,e=>by simp[gZ]
 |v::d,b,a,e=>by
  have f:b.size=b.toList.length:=by simp
  simp only[A5] at e;unfold gZ;rw[OO d _ (a+1) (by simp;omega)];rw[DS,Ax,List.take_set_of_le (A0 _),HP (by omega),List.drop_set_of_lt (by omega)];simp only[Ds,A3,List.singleton_append,A5,Dd,CT];rw[show a+1+d.length=a+(d.length+1) by omega]
theorem cT {A:aq}: ∀(h:List J0) (c:Nat) {d:aa} {n b:Nat} {f:Array J0} {T:Q7},d[b]? =some (.cells f T (0,0))-> ∃e,(A.at d n).setCells b c h=A.at e n/\e[b]? =some (.cells (gZ f c h) T (0,0))/\Mod (· =b) d e/\e.size=d.size
 | [],c,d,n,b,f,T,g=>⟨d,rfl,g,Mod.refl,rfl⟩
 |v::i,c,d,n,b,f,T,g=>by
  have j:(dc d ⟨b,c,none⟩ v)[b]? =some (.cells (f.setIfInBounds c v) T (0,0)):=vB g;obtain⟨e,k,l,m,o⟩:=cT (A:=A) i (c+1) (n:=n) j;refine⟨e,?_,l,(Mod.set (S:=(· =b)) (a:=⟨b,c,none⟩) rfl).trans m,by rw[o,Zl]⟩;show((A.at d n).setCell ⟨b,c,none⟩ v).setCells b (c+1) i=_;rw[<- k];rfl
theorem APa {t h j T:Q7}{i:TypeInfo}{f:J0}(n:P.underlying t=some (.slice T))(o:P.underlying h=some (.int J9))(q:P.info? T=some i)(r:i.zero=some f)(D:i.size=1)(s:f.cells= #[f]){a:aa}{p:Q2}{cap b:Nat}{K:Sl->aa->Prop}
  (u:0<b) (F:cap<b) (w:b*i.bytes<=140737488355328) (k:b<=maxLen) (G:0<i.bytes)
  (x: ∀e c l,e[a.size]? =some (.cells l T (0,0))->l.size=c->b<=c->c<=maxLen->Ext a e->e.size=a.size+1->K ⟨some ⟨a.size,0,none⟩,b,c⟩ e):
  BI A P (Builtin.append_ #[t,h] j #[.slice p 0 cap,.int J9 (b:Int)]) a λv e=> ∃g:Sl,v= .slice g.p g.len g.cap/\K g e:=by
 intro d;have y:(Builtin.firstCells i.size 0 (.slice p 0 cap)).run P (A.at a d).drew= .ok ([]:List J0).toArray (A.at a d).drew:=by cases p<;>simp[Builtin.firstCells,loadCells,loadCellsFrom]
 have z:Builtin.nextslicecap (0+b) cap*i.bytes<=281474976710656:=by rw[AI];exact growslice_fits (by omega) w
 have m:=Lib.run_append_grow_zeros (A.at a d) t h j T i f J9 J9 n o q r p 0 cap [] y b u (by omega) (by omega) (by simp only[maxLen] at k;omega) (by omega) z;simp only[AI] at m;have B:=grownCap_ge (A.at a d) b cap T;have C:=grownCap_le_maxLen (A.at a d) b cap T k;generalize grownCap (A.at a d) b cap T=c at*
 refine⟨_,_,d+1,m,⟨some ⟨a.size,0,none⟩,b,c⟩,rfl,x _ c _ (R1 ..) ?_ B C (Mod.push a _) (by show(a.push _).size=a.size+1;simp)⟩;simp[Builtin.zeroCells,s];omega
theorem od {t k T:Q7}(q:P.underlying t=some (.slice T))(r:(P.info? T).map (·.size)=some 1){d:aa}{b e g l h m:Nat}{a:Q6}{i:Array J0}{vs:List J0}{K:Int->aa->Prop}
  (j:d[b]? =some (.cells i T (0,0))) (s:vs.length=min h g) (u: ∀f v,vs[f]? =some v->ag d (a.add f)=some v) (G:e+vs.length<=i.size) (w: ∀v∈vs,Lx v=true)
  (x: ∀c,c[b]? =some (.cells (gZ i e vs) T (0,0))->Mod (· =b) d c->c.size=d.size->K (vs.length:Int) c):
  BI A P (Builtin.copy_ #[t,t] k #[.slice (some ⟨b,e,none⟩) g l,.slice (some a) h m]) d λv c=> ∃o:Int,v= .int J9 o/\K o c:=by
 intro n;have p:=run_copy_cells (P:=P) (A.at d n) t t k T b e g l a h m vs q r s u
  (λf y=>by
   show(ag d ⟨b,e+f,none⟩).isSome=true;rw[Hr j,Ft (by omega)];rfl)
  (λf y=>PL j) (λv z=>PT (w v z))
 obtain⟨c,B,C,D,F⟩:=cT (A:=A) vs e (n:=n) j;rw[B] at p;exact⟨_,c,n,p,_,rfl,x c C D F⟩
def og(A:aq)(P:Q1)(t b:Q7)(h fr:Q8)(s:Sl)(i:Int)(v:Sl)(e:aa)(d:A2P):Prop:=
 aG ((0:Int)<=i/\i<=((s.len:Nat):Int))<|
 af (((v.len:Nat):Int)==(0:Int)) (
  d (.slice s.p s.len s.cap) e) (
  af (i==((s.len:Nat):Int)) (
   BI A P (Builtin.append_ #[t,t] t #[.slice s.p s.len s.cap,.slice v.p v.len v.cap]) e λv1 j=> ∃c:Sl,v1= .slice c.p c.len c.cap/\(
   d (.slice c.p c.len c.cap) j)) (
   af (decide ((J8 J9 (((s.len:Nat):Int)+((v.len:Nat):Int)))>((s.cap:Nat):Int))) (
    aG ((0:Int)<=i/\i<=((s.cap:Nat):Int))<|
    BI A P (Builtin.append_ #[t,b] t #[.slice (BC s.p s.cap 0 1) (i.toNat-0) (s.cap-0),.int J9 (J8 J9 ((J8 J9 (((s.len:Nat):Int)+((v.len:Nat):Int)))-i))]) e λv2 k=> ∃a:Sl,v2= .slice a.p a.len a.cap/\(
    aG ((0:Int)<=i/\i<=((a.len:Nat):Int))<|
    BI A P (Builtin.copy_ #[t,t] b #[.slice (BC a.p a.cap i.toNat 1) (a.len-i.toNat) (a.cap-i.toNat),.slice v.p v.len v.cap]) k λl m=> ∃n:Int,l= .int J9 n/\(
    aG ((0:Int)<=(J8 J9 (i+((v.len:Nat):Int)))/\(J8 J9 (i+((v.len:Nat):Int)))<=((a.len:Nat):Int))<|
    aG ((0:Int)<=i/\i<=((s.len:Nat):Int))<|
    BI A P (Builtin.copy_ #[t,t] b #[.slice (BC a.p a.cap ((J8 J9 (i+((v.len:Nat):Int))).toNat) 1) (a.len-((J8 J9 (i+((v.len:Nat):Int))).toNat)) (a.cap-((J8 J9 (i+((v.len:Nat):Int))).toNat)),.slice (BC s.p s.cap i.toNat 1) (s.len-i.toNat) (s.cap-i.toNat)]) m λo p=> ∃q:Int,o= .int J9 q/\(
    d (.slice a.p a.len a.cap) p)))) (
    aG ((0:Int)<=(J8 J9 (((s.len:Nat):Int)+((v.len:Nat):Int)))/\(J8 J9 (((s.len:Nat):Int)+((v.len:Nat):Int)))<=((s.cap:Nat):Int))<|
    aG ((0:Int)<=(J8 J9 (i+((v.len:Nat):Int)))/\(J8 J9 (i+((v.len:Nat):Int)))<=(((((J8 J9 (((s.len:Nat):Int)+((v.len:Nat):Int))).toNat)-0):Nat):Int))<|
    nD A P h #[.slice v.p v.len v.cap,.slice (BC (BC s.p s.cap 0 1) (s.cap-0) ((J8 J9 (i+((v.len:Nat):Int))).toNat) 1) ((((J8 J9 (((s.len:Nat):Int)+((v.len:Nat):Int))).toNat)-0)-((J8 J9 (i+((v.len:Nat):Int))).toNat)) ((s.cap-0)-((J8 J9 (i+((v.len:Nat):Int))).toNat))] e λr f=> ∃g:Bool,r= .bool g/\(
    af (!g) (
     aG ((0:Int)<=(J8 J9 (i+((v.len:Nat):Int)))/\(J8 J9 (i+((v.len:Nat):Int)))<=(((((J8 J9 (((s.len:Nat):Int)+((v.len:Nat):Int))).toNat)-0):Nat):Int))<|
     aG ((0:Int)<=i/\i<=(((((J8 J9 (((s.len:Nat):Int)+((v.len:Nat):Int))).toNat)-0):Nat):Int))<|
     BI A P (Builtin.copy_ #[t,t] b #[.slice (BC (BC s.p s.cap 0 1) (s.cap-0) ((J8 J9 (i+((v.len:Nat):Int))).toNat) 1) ((((J8 J9 (((s.len:Nat):Int)+((v.len:Nat):Int))).toNat)-0)-((J8 J9 (i+((v.len:Nat):Int))).toNat)) ((s.cap-0)-((J8 J9 (i+((v.len:Nat):Int))).toNat)),.slice (BC (BC s.p s.cap 0 1) (s.cap-0) i.toNat 1) ((((J8 J9 (((s.len:Nat):Int)+((v.len:Nat):Int))).toNat)-0)-i.toNat) ((s.cap-0)-i.toNat)]) f λu w=> ∃x:Int,u= .int J9 x/\(
     aG ((0:Int)<=i/\i<=(((((J8 J9 (((s.len:Nat):Int)+((v.len:Nat):Int))).toNat)-0):Nat):Int))<|
     BI A P (Builtin.copy_ #[t,t] b #[.slice (BC (BC s.p s.cap 0 1) (s.cap-0) i.toNat 1) ((((J8 J9 (((s.len:Nat):Int)+((v.len:Nat):Int))).toNat)-0)-i.toNat) ((s.cap-0)-i.toNat),.slice v.p v.len v.cap]) w λy z=> ∃B:Int,y= .int J9 B/\(
     d (.slice (BC s.p s.cap 0 1) (((J8 J9 (((s.len:Nat):Int)+((v.len:Nat):Int))).toNat)-0) (s.cap-0)) z))) (
     aG ((0:Int)<=((s.len:Nat):Int)/\((s.len:Nat):Int)<=(((((J8 J9 (((s.len:Nat):Int)+((v.len:Nat):Int))).toNat)-0):Nat):Int))<|
     BI A P (Builtin.copy_ #[t,t] b #[.slice (BC (BC s.p s.cap 0 1) (s.cap-0) (((s.len:Nat):Int).toNat) 1) ((((J8 J9 (((s.len:Nat):Int)+((v.len:Nat):Int))).toNat)-0)-(((s.len:Nat):Int).toNat)) ((s.cap-0)-(((s.len:Nat):Int).toNat)),.slice v.p v.len v.cap]) f λC D=> ∃F:Int,C= .int J9 F/\(
     aG ((0:Int)<=i/\i<=(((((J8 J9 (((s.len:Nat):Int)+((v.len:Nat):Int))).toNat)-0):Nat):Int))<|
     AA A P fr #[.slice (BC (BC s.p s.cap 0 1) (s.cap-0) i.toNat 1) ((((J8 J9 (((s.len:Nat):Int)+((v.len:Nat):Int))).toNat)-0)-i.toNat) ((s.cap-0)-i.toNat),.int J9 ((v.len:Nat):Int)] D λG H=>G= .tuple #[]/\(
     d (.slice (BC s.p s.cap 0 1) (((J8 J9 (((s.len:Nat):Int)+((v.len:Nat):Int))).toNat)-0) (s.cap-0)) H)))))))
theorem Wl {e:aa}{b:Nat}{f:Array J0}{T:Q7}{fr:Nat×Nat}(h:e[b]? =some (.cells f T fr)){a:List J0}{g:Nat}(i:(f.toList.drop g).take a.length=a): ∀c v,a[c]? =some v->ag e ((⟨b,g,none⟩:Q6).add c)=some v:=λc v d=>by
 rw[Bh,Hr h];have j:=(List.getElem?_eq_some_iff.1 d).1;rw[<- i,F2,if_pos j,C5] at d;simpa using d
theorem wZ {t ae T ah:Q7}{ai fr:Q8}{G:J0}{H:Nat}(aj:QE P t T 1 H=true)(k:E.w=1)(aD:P.underlying ae=some (.int J9))(I:(P.info? T).bind (·.zero)=some G)(aE:G.cells= #[G])(hB:0<H)
  (aF: ∀args J,(callFunc ai args).run P J=((Extern.SlicesOverlaps.overlaps #[t,t] #[ah] args).run P J).andThen λv aG=> .ok (.value v) aG)
  {a:aa} {s:Sl} {l:List α} {x:α} {e:J0} {f:Nat} (S:Own E T a s l) (K:E.enc x= [e]) (o:a[f]? =some (.cells #[e] T (0,0))) (aH:s.ah≠some f) (ak:l.length+1<=maxLen) (al:(l.length+1)*H<=140737488355328) {am:A2P}
  (U: ∀m r,Own E T r m (x::l)->Mod (λb=>s.ah=some b) a r->(∀ b,m.ah=some b->s.ah=some b\/a.size<=b)->am (.slice m.p m.len m.cap) r):
  og A P t ae ai fr s (0:Int) ⟨some ⟨f,0,none⟩,1,1⟩ a am:=by
 unfold og;have V:=S.len;have bh:maxLen<=9223372036854775807:=by simp[maxLen]
 obtain⟨q,i,z,w,an,W,aI,bi⟩:=qA aj;have aJ:z=G:=by rw[w] at I;simp only[PJ] at I;rw[an] at I;exact C2 I
 subst aJ;have ao:Lx e=true:=E.one x e (by rw[K];simp);have bj:=Ah o;refine⟨⟨GP _,by omega⟩,af.no rfl ?_⟩;refine af.intro (λy=>?_) (λy=>?_)
 ·have y:l= []:=by
   have:(0:Int)=((s.len:Nat):Int):=by simpa using y
   exact CH (by omega)
  subst y;have aK:View E a ⟨some ⟨f,0,none⟩,1,1⟩ [x]:=⟨rfl,A0 _,λj ap n=>⟨_,rfl,λaL u L=>by
   have aM:j=0:=by have:=(List.getElem?_eq_some_iff.1 n).1;simpa using this
   subst aM;simp only[Hv,BW] at n;subst n;rw[K] at L;have aN:aL=0:=by have:=(List.getElem?_eq_some_iff.1 L).1;simpa using this
   subst aN;simp only[Hv,BW] at L;subst L;rw[HU,Bh,Bh];exact AO o rfl⟩⟩
  have aO:QE P t T E.w H=true:=by rw[k];exact aj
  exact Fz (s:=s) (src:=⟨some ⟨f,0,none⟩,1,1⟩) aO S aK (by simpa using al) (by simpa using ak) λm r aP aQ aR _=>U m r aP aQ aR
 ·have aS:0<l.length:=by
   have: ¬(0:Int)=((s.len:Nat):Int):=by simpa using y
   omega
  rcases S.row with⟨rfl,rfl⟩|⟨g,M,B,C,bk,aT,N,X⟩
  ·simp at aS
  ·rw[k,Bs] at N X;have d:(l.flatMap E.enc).length=l.length:=by rw[Jl,k,Bs]
   have aq: ∀v∈l.flatMap E.enc,Lx v=true:=λv D=>by
    obtain⟨ap,_,aV⟩:=List.mem_flatMap.1 D;exact E.one ap v aV
   have ar:g≠f:=λh=>aH (by rw[Sl.ah,B,h];rfl)
   have bm:=Ah C;have aW:J8 J9 (((s.len:Nat):Int)+(((1:Nat)):Int))=((l.length+1:Nat):Int):=by rw[V];exact Aa (by omega)
   have w2:J8 J9 ((0:Int)+(((1:Nat)):Int))=((1:Nat):Int):=by decide
   have w3:J8 J9 (((l.length+1:Nat):Int)-(0:Int))=((l.length+1:Nat):Int):=by rw[Int.sub_zero];exact Fb (by omega)
   have O:(P.info? T).map (·.size)=some 1:=by rw[w];simp[W]
   dsimp only;rw[aW,w2,w3];have aX:((1:Nat):Int).toNat=1:=rfl;have aY:(0:Int).toNat=0:=rfl;have aZ:((l.length+1:Nat):Int).toNat=l.length+1:=by omega
   rw[aX,aY,aZ];have au: ∀j v,[e][j]? =some v->ag a ((⟨f,0,none⟩:Q6).add j)=some v:=Wl o (by simp);refine af.intro (λY=>?_) (λY=>?_)
   ·have Z:s.cap<l.length+1:=by
     have:((s.cap:Nat):Int)<((l.length+1:Nat):Int):=by simpa using Y
     omega
    refine⟨⟨GP _,by omega⟩,?_⟩;refine APa (p:=BC s.p s.cap 0 1) (cap:=s.cap) q aD w an W aE (by omega) Z (by rw[aI];exact al) ak (by omega) λbn c av a0 aw a1 a2 ab bo=>⟨⟨GP _,by dsimp only;omega⟩,?_⟩
    have a3:BC (some (⟨a.size,0,none⟩:Q6)) c 0 1=some ⟨a.size,0,none⟩:=by unfold BC;rw[if_neg (by omega)];rfl
    have a4:BC (some (⟨a.size,0,none⟩:Q6)) c 1 1=some ⟨a.size,1,none⟩:=by unfold BC;rw[if_neg (by omega)];rfl
    dsimp only;rw[a3];refine od (vs:= [e]) q O a0 (by simp) (λj v n=>ab.ag (au j v n)) (by simp;omega) (λv D=>by rw[List.mem_singleton.1 D];exact ao) λa5 a6 ax bp=>⟨⟨by omega,by omega⟩,⟨GP _,by omega⟩,?_⟩
    rw[a4,B];have Q:BC (some (⟨g,0,none⟩:Q6)) s.cap 0 1=some ⟨g,0,none⟩:=by unfold BC;rw[if_neg (by omega)];rfl
    rw[Q];have a7:a5[g]? =some (.cells M T (0,0)):=ax.ah (ab.ah C (λa=>a)) (by omega);refine od (vs:=l.flatMap E.enc) q O a6 (by rw[d];omega) (Wl a7 (by rw[d,JT,<-V];exact X)) (by rw[IQ,d];omega) aq λay ac R a8=>?_
    refine U ⟨some ⟨a.size,0,none⟩,l.length+1,c⟩ ay ⟨rfl,.inr ⟨a.size,_,rfl,ac,a1,a2,by rw[IQ,IQ,k,Bs];exact aw,?_⟩⟩ ?_ (λb F=> .inr (by simp[Sl.ah] at F;omega))
    ·rw[OO _ _ _ (by rw[IQ,d];omega),OO _ _ _ (by simp;omega)];rw[k,Bs,AH,K];have a9:av.toList.length=c:=by simp[aw]
     simp only[Is,CT,Cd];have ba:(([e]++av.toList.drop (0+1)).take 1)= [e]:=by simp
     rw[ba,Of (by simp[d])];rw[AF (by simp[d])]
    ·refine((Ext.mod ab).trans ((ax.trans R).aj (S':=λb=>s.ah=some b\/b=a.size) λc az h=> .inr h)) |> λaA=>?_
     exact⟨aA.size,λb F bb=>aA.get b F (λbc=>bc.elim bb (by omega))⟩
   ·have Z:l.length+1<=s.cap:=by
     have: ¬((s.cap:Nat):Int)<((l.length+1:Nat):Int):=by simpa using Y
     omega
    have Q: ∀c,0<c->BC (some (⟨g,0,none⟩:Q6)) c 0 1=some ⟨g,0,none⟩:=λc az=>by
     unfold BC;rw[if_neg (by omega)];rfl
    have bd: ∀c,1<c->BC (some (⟨g,0,none⟩:Q6)) c 1 1=some ⟨g,1,none⟩:=λc az=>by
     unfold BC;rw[if_neg (by omega)];rfl
    refine⟨⟨by omega,by omega⟩,⟨by omega,by omega⟩,?_⟩;rw[B,Q _ (by omega),HA,HA,HA,Q _ (by omega),bd _ (by omega)];intro aC;refine⟨.bool false,a,aC,?_,false,rfl,af.yes rfl ⟨⟨by omega,by omega⟩,⟨GP _,by omega⟩,?_⟩⟩
    ·rw[aF,Lib.run_overlaps_apart (A.at a aC) t ah T q 1 (λJ=>by rw[Go.run_sizeOf J w];simp[Program.cellsOf,w,W]) ⟨f,0,none⟩ ⟨g,1,none⟩ 1 1 _ _ (λh=>ar h.symm) T T 1 s.cap
      (by show(match a[f]? with|some (.cells c ad _)=>some (ad,c.size)|_=>none)=_;rw[o];rfl) (by show(match a[g]? with|some (.cells c ad _)=>some (ad,c.size)|_=>none)=_;rw[C];simp[N]) (by omega) (PL o) (PL o)]
     rfl
    ·refine od (vs:=l.flatMap E.enc) q O C (by rw[d];omega) (Wl C (by rw[d,JT,<-V];exact X)) (by rw[d];omega) aq λay ac R a8=>⟨⟨GP _,by omega⟩,?_⟩
     refine od (vs:= [e]) q O ac (by simp) (λj v n=>R.ag (au j v n) (by rw[aU];exact λh=>ar h.symm)) (by rw[IQ];simp;omega) (λv D=>by rw[List.mem_singleton.1 D];exact ao) λbe bf bg bq=>?_
     refine U ⟨some ⟨g,0,none⟩,l.length+1,s.cap⟩ be ⟨rfl,.inr ⟨g,_,rfl,bf,Z,aT,by rw[IQ,IQ,k,Bs];exact N,?_⟩⟩ ((R.trans bg).aj λb _ h=>by rw[Sl.ah,B,h];rfl) (λb F=> .inl (by rw[Sl.ah,B];exact F));rw[OO _ _ _ (by rw[IQ];simp;omega),OO _ _ _ (by rw[d];omega)];rw[k,Bs,AH,K];have a9:M.toList.length=s.cap:=by simp[N]
     have br:(M.toList.take 1).length=1:=by simp;omega
     simp only[Is,CT,Cd,AI];rw[A3 (M.toList.take 1),A0s (by omega),HD (by omega),CT];rw[<- A3,Of (by simp[d])];rw[AF (by simp[d])]
end Go.Lf
namespace Go.Lf.G
open Go
def fM:cD Nat where
 enc t:= [Ar t]
 w:=1
 len _:=rfl
 pos:=by omega
 one x v a:=by simp at a;subst a;rfl
theorem Cells.pt {b:aa}{a:Q6}{x:Nat}(c:Cells b a (fM.enc x)):ag b a=some (Ar x):=by have d:=c 0 _ rfl;rwa [add_zero] at d
theorem w6:QE P Aw BK fM.w 8=true:=by kernel_rfl
theorem ovT(args:Array J0)(a:World):(callFunc EP args).run P a=((Extern.SlicesOverlaps.overlaps #[Aw,Aw] #[qE] args).run P a).andThen λv b=> .ok (.value v) b:=
 run_callFunc_extern (fn:=Proofs.Tryz.f231) Proofs.Tryz.func231 (by kernel_rfl) (by kernel_rfl) (by kernel_rfl) (by kernel_rfl) args a
theorem ovI(args:Array J0)(a:World):(callFunc Gh args).run P a=((Extern.SlicesOverlaps.overlaps #[DJ,DJ] #[qE] args).run P a).andThen λv b=> .ok (.value v) b:=
 run_callFunc_extern (fn:=Proofs.Tryz.f233) Proofs.Tryz.func233 (by kernel_rfl) (by kernel_rfl) (by kernel_rfl) (by kernel_rfl) args a
theorem ATo:(P.info? BK).bind (·.zero)=some (J5 none):=by kernel_rfl
theorem AT3:(P.info? Bq).bind (·.zero)=some (J6 J9 0):=by kernel_rfl
theorem w7:P.underlying Bq=some (.int J9):=by kernel_rfl
theorem ASI(a:aq)(s v:Sl)(i:Int)(b:aa)(c:A2P):Dx a s i v b c=og a P Aw Bq EP FV s i v b c:=rfl
theorem AS2(a:aq)(s v:Sl)(i:Int)(b:aa)(c:A2P):IE a s i v b c=og a P DJ Bq Gh Ik s i v b c:=rfl
theorem qH {g:aq}{a:aa}{s:Sl}{l:List Nat}{x d:Nat}{f:A2P}(h:Own fM BK a s l)(i:a[d]? =some (J2 #[Ar x] BK (0,0)))(j:s.ah≠some d)(m:l.length<=1000000)
  (k: ∀c e,Own fM BK e c (x::l)->Mod (λb=>s.ah=some b) a e->(∀ b,c.ah=some b->s.ah=some b\/a.size<=b)->f (J4 c.p c.len c.cap) e):
  AA g P BO #[J4 s.p s.len s.cap,J6 J9 0,J4 (some (⟨d,0,none⟩:Q6)) 1 1] a f:=by
 refine GZ (v:=⟨some ⟨d,0,none⟩,1,1⟩) ?_;rw[ASI];exact wZ w6 rfl w7 ATo rfl (by decide) ovT h rfl i j (by simp[maxLen];omega) (by omega) k
theorem qI {g:aq}{a:aa}{s:Sl}{l:List Int}{x:Int}{d:Nat}{f:A2P}(h:Own IJ Bq a s l)(i:a[d]? =some (J2 #[J6 J9 x] Bq (0,0)))(j:s.ah≠some d)(m:l.length<=1000000)
  (k: ∀c e,Own IJ Bq e c (x::l)->Mod (λb=>s.ah=some b) a e->(∀ b,c.ah=some b->s.ah=some b\/a.size<=b)->f (J4 c.p c.len c.cap) e):
  AA g P DK #[J4 s.p s.len s.cap,J6 J9 0,J4 (some (⟨d,0,none⟩:Q6)) 1 1] a f:=by
 refine NG (v:=⟨some ⟨d,0,none⟩,1,1⟩) ?_;rw[AS2];exact wZ rC rfl w7 AT3 rfl (by decide) ovI h rfl i j (by simp[maxLen];omega) (by omega) k
structure Db where
 fr:List Pr
 ts:List (Nat×List Pr)
 next:Nat
 aV:Nat
 aw:Nat
 aK:Nat
 bq:Bool
structure Hp where
 d:Nat
 b:Nat
 lg:Nat
 nt:Nat
 ft:Nat
 Sb:Nat->Prop
 ns:List M.DX
 tp:Sl
 np:Sl
 ps:List Nat
abbrev eB(q:Hp)(st:Db)(down:Bool):Array J0:= #[Ar q.b,Ar q.lg,Ar q.nt,Ar q.ft,J4 q.tp.p q.tp.len q.tp.cap,J4 q.np.p q.np.len q.np.cap,J6 J9 (st.next:Int),J6 J9 (st.aV:Int),J3 down]
abbrev eE(st:Db):List Int:=st.ts.map λp=>(p.1:Int)
def mL(h:aa)(k:Nat->Nat)(t:Nat)(l:List Pr):Prop:= ∃b a,bR h t l (Mx l) b a/\a<=h.size/\(∀ c,b<=c->c<a->k c=8)/\G6 l
structure bM (g h:aa) (q:Hp) (k:Nat->Nat) (st:Db) (m:Bx):Prop where
 cell:h[q.d]? =some (J2 (eB q st false) FH (0,0))
 box:Cu h q.b q.Sb m
 log:ET h q.lg q.b nl st.aw st.bq
 dP:ET h q.nt q.b nn st.aK false
 fresh:M.cU h q.ft q.ns st.fr
 ck:Own fM BK h q.tp q.ps
 da:q.ps.length=st.ts.length
 cO: ∀(i:Nat) (t:Nat) (p:Nat×List Pr),q.ps[i]? =some t->st.ts[i]? =some p->mL h k t p.2
 names:Own IJ Bq h q.np (eE st)
 kd:k q.d=1
 kb: ∀c,q.Sb c->k c=2
 kl:k q.lg=3
 kn:k q.nt=4
 kf: ∀c,M.cR q.ft q.ns c->k c=5
 kt: ∀c,q.tp.ah=some c->k c=6
 kx: ∀c,q.np.ah=some c->k c=7
 own: ∀c,k c≠0->g.size<=c/\c<h.size
 ext:Ext g h
theorem TN {b:Type}{d:cD b}{T:Q7}{h:aa}{s:Sl}{l:List b}(e:Own d T h s l){c:Nat}(a:s.ah=some c):c<h.size:=by
 rcases e.row with⟨rfl,_⟩|⟨g,j,f,i,_⟩
 ·simp[Sl.ah] at a
 ·rw[Sl.ah,f] at a;have:g=c:=by simpa using a
  subst this;exact Ah i
theorem mL.mod {h h':aa}{k b:Nat->Nat}{t:Nat}{l:List Pr}{d:Nat->Prop}(T:mL h k t l)(x:Mod d h h')(f: ∀c,k c=8-> ¬d c)(i: ∀c,c<h.size->b c=k c):mL h' b t l:=by obtain⟨j,n,o,p,e,r⟩:=T;exact⟨j,n,o.mod x λc a c2=>f c (e c a c2),AE p x.size,λc a c2=>by rw[i c (by omega)];exact e c a c2,r⟩
structure DbR (C:Nat->Prop) (g h h':aa) (q:Hp) (k:Nat->Nat) (st:Db) (m:Bx):Prop where
 ext:Ext g h'
 size:h.size<=h'.size
 cell: ¬C 1->h'[q.d]? =some (J2 (eB q st false) FH (0,0))
 box: ¬C 2->Cu h' q.b q.Sb m
 log: ¬C 3->ET h' q.lg q.b nl st.aw st.bq
 dP: ¬C 4->ET h' q.nt q.b nn st.aK false
 fresh: ¬C 5->M.cU h' q.ft q.ns st.fr
 ck: ¬C 6->Own fM BK h' q.tp q.ps
 names: ¬C 7->Own IJ Bq h' q.np (eE st)
 cO: ¬C 8-> ∀k',(∀ c,c<h.size->k' c=k c)-> ∀(i:Nat) (t:Nat) (p:Nat×List Pr),q.ps[i]? =some t->st.ts[i]? =some p->mL h' k' t p.2
theorem bM.rest {C:Nat->Prop}{g h h':aa}{q:Hp}{k:Nat->Nat}{st:Db}{m:Bx}(a:bM g h q k st m)(x:Mod (λc=>C (k c)) h h')(f: ¬C 0):DbR C g h h' q k st m:=by
 refine⟨⟨AE a.ext.size x.size,λc d _=>?_⟩,x.size,λb=>x.ah a.cell (by rw[a.kd];exact b),λb=>a.box.mod x λc d=>by rw[a.kb c d];exact b,λb=>a.log.mod x (by rw[a.kl];exact b),λb=>a.dP.mod x (by rw[a.kn];exact b),
  λb=>a.fresh.mod x λc d=>by rw[a.kf c d];exact b,λb=>a.ck.mod x λc d=>by rw[a.kt c d];exact b,λb=>a.names.mod x λc d=>by rw[a.kx c d];exact b,
  λb n e i t p j l=>(a.cO i t p j l).mod x (λc d=>by rw[d];exact b) e⟩
 have e:k c=0:=Decidable.byContradiction λh=>by have:=(a.own c h).1;omega
 exact(x.get c (Fk d a.ext.size) (by rw[e];exact f)).trans (a.ext.get c d (λh=>h))
section
variable {g h h' : aa} {q : Hp} {k : Nat -> Nat} {st : Db} {m : Bx}
theorem bM.ia(a:bM g h q k st m):q.d<h.size:=Ah a.cell
theorem bM.p8(a:bM g h q k st m):q.lg<h.size:=Ah a.log
theorem bM.pa(a:bM g h q k st m):q.nt<h.size:=Ah a.dP
theorem bM.lB(a:bM g h q k st m): ¬q.Sb q.lg:=λb=>by have:=a.kb _ b;rw[a.kl] at this;cases this
theorem bM.sB(a:bM g h q k st m): ¬q.Sb q.nt:=λb=>by have:=a.kb _ b;rw[a.kn] at this;cases this
theorem bM.mW(a:bM g h q k st m): ¬q.Sb q.d:=λb=>by have:=a.kb _ b;rw[a.kd] at this;cases this
theorem bM.dl(a:bM g h q k st m):q.d≠q.lg:=λb=>by have:=a.kd;rw[b,a.kl] at this;cases this
theorem bM.dn(a:bM g h q k st m):q.d≠q.nt:=λb=>by have:=a.kd;rw[b,a.kn] at this;cases this
theorem bM.on(a:bM g h q k st m)(x:Ext h h'):bM g h' q k st m:=by
 have b:=a.rest (C:=λ_=>False) x (λh=>h);exact⟨b.cell λh=>h,b.box λh=>h,b.log λh=>h,b.dP λh=>h,b.fresh λh=>h,b.ck λh=>h,a.da,b.cO (λh=>h) k (λ_ _=>rfl),b.names λh=>h,a.kd,a.kb,a.kl,a.kn,a.kf,a.kt,a.kx,
  λc d=>⟨(a.own c d).1,Fk (a.own c d).2 x.size⟩,b.ext⟩
theorem bM.beside {e:Nat->Prop}(a:bM g h q k st m)(x:Mod e h h')(f: ∀c,e c->k c=0/\g.size<=c):bM g h' q k st m:=by
 have j:Ext g h':=⟨AE a.ext.size x.size,λc b _=>(x.get c (Fk b a.ext.size) λh=>by have:=(f c h).2;omega).trans (a.ext.get c b (λh=>h))⟩;have d: ∀ {c},k c≠0-> ¬e c:=λb l=>b (f _ l).1
 exact⟨x.ah a.cell (d (by rw[a.kd];decide)),a.box.mod x λc b=>d (by rw[a.kb c b];decide),a.log.mod x (d (by rw[a.kl];decide)),a.dP.mod x (d (by rw[a.kn];decide)),a.fresh.mod x λc b=>d (by rw[a.kf c b];decide),
  a.ck.mod x λc b=>d (by rw[a.kt c b];decide),a.da,λi t p n o=>(a.cO i t p n o).mod x (λc b=>d (by rw[b];decide)) (λ_ _=>rfl),a.names.mod x λc b=>d (by rw[a.kx c b];decide),a.kd,a.kb,a.kl,a.kn,a.kf,a.kt,a.kx,
  λc b=>⟨(a.own c b).1,Fk (a.own c b).2 x.size⟩,j⟩
open Classical in
noncomputable def Ld (k:Nat->Nat) (a:Nat) (b:Nat->Prop) (d:Nat):Nat->Nat:=λc=>if c<a then k c else if b c then d else 0
theorem GM {a b c:Nat}{d:Nat->Prop}(e:c<a):Ld k a d b c=k c:=by unfold Ld;rw[if_pos e]
theorem rO {a b c:Nat}{d:Nat->Prop}(f:a<=c)(e:d c):Ld k a d b c=b:=by unfold Ld;rw[if_neg (by omega),if_pos e]
theorem VU {a b c:Nat}{S:Nat->Prop}(e:a<=c)(d: ¬S c):Ld k a S b c=0:=by unfold Ld;rw[if_neg (by omega),if_neg d]
theorem bM.boxed(b:bM g h q k st m){S':Nat->Prop}{p:Bx}{j:Nat}{bJ:Db}(r:Cu h' q.b S' p)(x:Mod (λc=>q.Sb c\/(j=3/\c=q.lg)\/(j=4/\c=q.nt)) h h')(s: ∀c,S' c->q.Sb c\/h.size<=c)
  (u:bJ.fr=st.fr) (i:bJ.ts=st.ts) (v:bJ.next=st.next) (w:bJ.aV=st.aV)
  (l:(j≠3/\bJ.aw=st.aw/\bJ.bq=st.bq)\/ET h' q.lg q.b nl bJ.aw bJ.bq) (y:(j≠4/\bJ.aK=st.aK)\/ET h' q.nt q.b nn bJ.aK false):
  bM g h' {q with Sb:=S'} (Ld k h.size S' 2) bJ p:=by
 have e:=b.rest (C:=λc=>c=2\/(j=3/\c=3)\/(j=4/\c=4)) (h':=h') (x.aj λc _ a=>by
  rcases a with a|⟨d,rfl⟩|⟨d,rfl⟩
  ·exact .inl (b.kb c a)
  ·exact .inr (.inl ⟨d,b.kl⟩)
  ·exact .inr (.inr ⟨d,b.kn⟩)) (by rintro(h|⟨_,h⟩|⟨_,h⟩)<;>cases h)
 have f: ∀ {c},c<h.size->Ld k h.size S' 2 c=k c:=λa=>GM a
 have z:eB {q with Sb:=S'} bJ false=eB q st false:=by simp only[eB,v,w]
 refine⟨by rw[z];exact e.cell (by omega),r,?_,?_,by rw[u];exact e.fresh (by omega),e.ck (by omega),by rw[i];exact b.da,by rw[i];exact e.cO (by omega) _ (λc a=>f a),by rw[eE,i];exact e.names (by omega),
  by rw[f b.ia];exact b.kd,λc a=>?_,by rw[f b.p8];exact b.kl,by rw[f b.pa];exact b.kn,λc a=>by rw[f (b.fresh.lt a)];exact b.kf c a,λc a=>by rw[f (TN b.ck a)];exact b.kt c a,
  λc a=>by rw[f (TN b.names a)];exact b.kx c a,λc a=>?_,e.ext⟩
 ·rcases l with⟨d,n,A⟩|d
  ·rw[n,A];exact e.log (by omega)
  ·exact d
 ·rcases y with⟨d,n⟩|d
  ·rw[n];exact e.dP (by omega)
  ·exact d
 ·by_cases o:c<h.size
  ·rw[f o];rcases s c a with d|d
   ·exact b.kb c d
   ·omega
  ·exact rO (by omega) a
 ·by_cases o:c<h.size
  ·rw[f o] at a;exact⟨(b.own c a).1,by have:=e.size;omega⟩
  ·by_cases t:S' c
   ·exact⟨by have:=b.ext.size;omega,r.lt t⟩
   ·exact absurd (VU (by omega) t) a
theorem bM.p7(b:bM g h q k st m){f:List M.DX}{j:List Pr}(T:M.cU h' q.ft f j)(x:Mod (M.cR q.ft q.ns) h h')(s: ∀c,M.cR q.ft f c->M.cR q.ft q.ns c\/h.size<=c):
  bM g h' {q with ns:=f} (Ld k h.size (M.cR q.ft f) 5) {st with fr:=j} m:=by
 have d:=b.rest (C:=λc=>c=5) (h':=h') (x.aj λc _ a=>b.kf c a) (by decide);have e: ∀ {c},c<h.size->Ld k h.size (M.cR q.ft f) 5 c=k c:=λa=>GM a
 refine⟨d.cell (by decide),d.box (by decide),d.log (by decide),d.dP (by decide),T,d.ck (by decide),b.da,d.cO (by decide) _ (λc a=>e a),d.names (by decide),
  by rw[e b.ia];exact b.kd,λc a=>by rw[e (b.box.lt a)];exact b.kb c a,by rw[e b.p8];exact b.kl,by rw[e b.pa];exact b.kn,λc a=>?_,λc a=>by rw[e (TN b.ck a)];exact b.kt c a,
  λc a=>by rw[e (TN b.names a)];exact b.kx c a,λc a=>?_,d.ext⟩
 ·by_cases i:c<h.size
  ·rw[e i];rcases s c a with l|l
   ·exact b.kf c l
   ·omega
  ·exact rO (by omega) a
 ·by_cases i:c<h.size
  ·rw[e i] at a;exact⟨(b.own c a).1,by have:=d.size;omega⟩
  ·by_cases n:M.cR q.ft f c
   ·exact⟨by have:=b.ext.size;omega,T.lt n⟩
   ·exact absurd (VU (by omega) n) a
theorem bM.renew(b:bM g h q k st m){gI:Nat}(T:M.cU h' gI [] [])(i:h.size<=gI)(a:h'[q.d]? =some (J2 (eB {q with ft:=gI} st false) FH (0,0)))(x:Mod (λc=>c=q.d) h h'):
  bM g h' {q with ft:=gI,ns:= []} (Ld k h.size (· =gI) 5) {st with fr:= []} m:=by
 have d:=b.rest (C:=λc=>c=1) (h':=h') (x.aj λc _ a=>by rw[a];exact b.kd) (by decide);have e: ∀ {c},c<h.size->Ld k h.size (· =gI) 5 c=k c:=λa=>GM a
 have j: ∀c,M.cR gI [] c->c=gI:=λc a=>by
  rcases a with rfl|⟨x,l,_⟩
  ·rfl
  ·cases l
 refine⟨a,d.box (by decide),d.log (by decide),d.dP (by decide),T,d.ck (by decide),b.da,d.cO (by decide) _ (λc a=>e a),d.names (by decide),
  by rw[e b.ia];exact b.kd,λc a=>by rw[e (b.box.lt a)];exact b.kb c a,by rw[e b.p8];exact b.kl,by rw[e b.pa];exact b.kn,λc a=>by rw[j c a];exact rO i rfl,λc a=>by rw[e (TN b.ck a)];exact b.kt c a,
  λc a=>by rw[e (TN b.names a)];exact b.kx c a,λc a=>?_,d.ext⟩
 by_cases n:c<h.size
 ·rw[e n] at a;exact⟨(b.own c a).1,by have:=d.size;omega⟩
 ·by_cases f:c=gI
  ·subst f;exact⟨by have:=b.ext.size;omega,T.lt (.inl rfl)⟩
  ·exact absurd (VU (S:=(· =gI)) (by omega) f) a
open Classical in
noncomputable def LY (k:Nat->Nat) (b:Nat) (tp np:Sl) (a:Nat->Prop):Nat->Nat:=λc=>if k c≠0 then k c else if tp.ah=some c then 6 else if np.ah=some c then 7 else if a c then 8 else 0
theorem bM.eX(d:bM g h q k st m){tp np:Sl}{ps:List Nat}{ts:List (Nat×List Pr)}{next aV:Nat}{S:Nat->Prop}
  (a:h'[q.d]? =some (J2 (eB {q with tp:=tp,np:=np} {st with next:=next,aV:=aV} false) FH (0,0))) (x:Mod (λc=>c=q.d\/q.tp.ah=some c\/q.np.ah=some c) h h')
  (H:Own fM BK h' tp ps) (on:Own IJ Bq h' np (ts.map λp=>(p.1:Int))) (J:ps.length=ts.length)
  (r: ∀c,tp.ah=some c->q.tp.ah=some c\/(k c=0/\g.size<=c/\np.ah≠some c/\ ¬S c)) (s: ∀c,np.ah=some c->q.np.ah=some c\/(k c=0/\g.size<=c/\tp.ah≠some c/\ ¬S c)) (K: ∀c,S c->g.size<=c/\c<h'.size)
  (L: ∀(i:Nat) (t:Nat) (p:Nat×List Pr),ps[i]? =some t->ts[i]? =some p->(∃ e:Nat,q.ps[e]? =some t/\st.ts[e]? =some p)\/ ∃n j,bR h' t p.2 (Mx p.2) n j/\j<=h'.size/\(∀ c,n<=c->c<j->S c/\k c=0)/\G6 p.2):
  bM g h' {q with tp:=tp,np:=np,ps:=ps} (LY k h.size tp np S) {st with ts:=ts,next:=next,aV:=aV} m:=by
 have l:=d.rest (C:=λc=>c=1\/c=6\/c=7) (h':=h') (x.aj λc _ a=>by
  rcases a with rfl|a|a
  ·exact .inl d.kd
  ·exact .inr (.inl (d.kt c a))
  ·exact .inr (.inr (d.kx c a))) (by decide)
 have f: ∀ {c e},k c=e->e≠0->LY k h.size tp np S c=e:=λb u=>by unfold LY;rw[if_pos (by rw[b];exact u)];exact b
 refine⟨a,l.box (by decide),l.log (by decide),l.dP (by decide),l.fresh (by decide),H,J,λi t p b u=>?_,on,f d.kd (by decide),λc a=>f (d.kb c a) (by decide),f d.kl (by decide),f d.kn (by decide),λc a=>f (d.kf c a) (by decide),λc a=>?_,λc a=>?_,λc a=>?_,l.ext⟩
 ·rcases L i t p b u with⟨e,M,N⟩|⟨n,j,v,w,y,z⟩
  ·obtain⟨n,j,v,w,y,z⟩:=l.cO (by decide) k (λ_ _=>rfl) e t p M N;exact⟨n,j,v,w,λc A c2=>f (y c A c2) (by decide),z⟩
  ·refine⟨n,j,v,w,λc A c2=>?_,z⟩;obtain⟨B,D⟩:=y c A c2;have O:tp.ah≠some c:=λE=>by
    rcases r c E with h|h
    ·have:=d.kt c h;rw[D] at this;cases this
    ·exact h.2.2.2 B
   have P:np.ah≠some c:=λE=>by
    rcases s c E with h|h
    ·have:=d.kx c h;rw[D] at this;cases this
    ·exact h.2.2.2 B
   unfold LY;rw[if_neg (by simp[D]),if_neg O,if_neg P,if_pos B]
 ·rcases r c a with b|b
  ·exact f (d.kt c b) (by decide)
  ·unfold LY;rw[if_neg (by simp[b.1]),if_pos a]
 ·rcases s c a with b|b
  ·exact f (d.kx c b) (by decide)
  ·unfold LY;rw[if_neg (by simp[b.1]),if_neg b.2.2.1,if_pos a]
 ·by_cases o:k c=0
  ·unfold LY at a;rw[if_neg (by simp[o])] at a;by_cases F:tp.ah=some c
   ·refine⟨?_,TN H F⟩;rcases r c F with b|b
    ·have:=d.kt c b;rw[o] at this;cases this
    ·exact b.2.1
   ·rw[if_neg F] at a;by_cases G:np.ah=some c
    ·refine⟨?_,TN on G⟩;rcases s c G with b|b
     ·have:=d.kx c b;rw[o] at this;cases this
     ·exact b.2.1
    ·rw[if_neg G] at a;by_cases I:S c
     ·exact K c I
     ·rw[if_neg I] at a;exact absurd rfl a
  ·exact⟨(d.own c o).1,by have:=(d.own c o).2;have:=l.size;omega⟩
end
structure JO (m m':Bx):Prop where
 up:m'.down=false
 calm:m.fuel= -1->m'.fuel= -1
theorem JO.refl {m:Bx}(a:m.down=false):JO m m:=⟨a,λa=>a⟩
theorem JO.trans {m c d:Bx}(a:JO m c)(b:JO c d):JO m d:=⟨b.up,λe=>b.calm (a.calm e)⟩
theorem ZP {m:Bx}(hd:m.down=false)(l:List Fi):JO m {IL m with files:=l}:=by refine⟨(AMa l).trans hd,λa=>?_⟩;show(IL m).fuel= -1;unfold IL;rw[if_neg (by rw[a];decide)];exact a
theorem Rj {m:Bx}{k d:A2Q}(hd:m.down=false)(b:LU k=false):(m.fuel=0/\EN m k d=(30,NP m))\/((EN m k d).1=0/\JO m (EN m k d).2/\
  ∀x,ff (EN m k d).2 x=if x=k then some (((ff m k).getD (bF,bF)).1,((ff m k).getD (bF,bF)).2++d) else ff m x):=by
 by_cases a:m.fuel=0
 ·left;refine⟨a,?_⟩;unfold EN;rw[if_neg (by simp[hd]),if_neg (by simp[b]),if_pos a]
 ·right;obtain⟨c,e⟩:=AM9 ⟨hd,a⟩ (d:=d) b;refine⟨c,?_,e⟩;unfold EN;rw[if_neg (by simp[hd]),if_neg (by simp[b]),if_neg a];exact ZP hd _
theorem OY {m:Bx}{a:A2Q}{p:A2Q×A2Q}(hd:m.down=false)(c:ff m a=some p):(m.fuel=0/\Hg m a=(30,NP m))\/((Hg m a).1=0/\JO m (Hg m a).2/\ ∀x,ff (Hg m a).2 x=if x=a then some (p.1++p.2,bF) else ff m x):=by
 have d:(Cn a m.files).isNone=false:=by
  cases b:Cn a m.files with
  |none=>unfold ff at c;rw[b] at c;cases c
  |some f=>rfl
 by_cases b:m.fuel=0
 ·left;refine⟨b,?_⟩;unfold Hg;rw[if_neg (by simp[hd]),if_neg (by simp[d]),if_pos b]
 ·right;obtain⟨e,g⟩:=ARd ⟨hd,b⟩ c;refine⟨e,?_,g⟩;unfold Hg;rw[if_neg (by simp[hd]),if_neg (by simp[d]),if_neg b];exact ZP hd _
theorem RF {m:Bx}{k:A2Q}(hd:m.down=false)(b:(ff m k).isSome=true):(m.fuel=0/\Gr m k=(30,NP m))\/((Gr m k).1=0/\JO m (Gr m k).2/\ ∀x,ff (Gr m k).2 x=if x=k then none else ff m x):=by
 have c:(Cn k m.files).isNone=false:=by
  rw[<- VL] at b;cases a:Cn k m.files with
  |none=>rw[a] at b;cases b
  |some f=>rfl
 by_cases a:m.fuel=0
 ·left;refine⟨a,?_⟩;unfold Gr;rw[if_neg (by simp[hd]),if_neg (by simp[c]),if_pos a]
 ·right;obtain⟨d,e⟩:=ANr ⟨hd,a⟩ b;refine⟨d,?_,e⟩;unfold Gr;rw[if_neg (by simp[hd]),if_neg (by simp[c]),if_neg a];exact ZP hd _
theorem oR(m:Bx)(x:A2Q):ff (NP m) x=ff m x:=rfl
theorem rP(m:Bx):bg (NP m).files=bg m.files:=rfl
theorem zV {an:aq}{g:aa}{H b z:Nat}{h:A2Q}{made:Bool}{n:Nat->Prop}{m:Bx}{upto:Int}{I:A2P}(ao:bY g)(ap: ∀j,Mod n g j->bY j)(L:ET g H b h z made)(N:Cu g b n m)(hd:m.down=false)(ar: ¬n H)(a0:h.size<=8)(au:bg m.files<=8000000000000)
  (av:upto>=(z:Int)->I (J6 J9 1) g)
  (aw:m.fuel≠ -1-> ∀j S' f,Cu j b S' f->f.down=true->Mod n g j->(∀ c,S' c->n c)->bg f.files<=bg m.files->(∀ x,ff f x=ff m x\/(ff f x=none/\ ∃d:Nat,1<=d/\d<=99999999/\(d:Int)<=upto/\x=aC h d))->I (J6 J9 30) j)
  (ax:upto<(z:Int)-> ∀j S' f,Cu j b S' f->JO m f->Mod n g j->(∀ c,S' c->n c)->bg f.files<=bg m.files->(∀ d:Nat,1<=d->d<=99999999->(d:Int)<=upto->ff f (aC h d)=none)->
   (∀ x,(∀ d:Nat,1<=d->d<=99999999->(d:Int)<=upto->x≠aC h d)->ff f x=ff m x)->I (J6 J9 0) j):AA an P JG #[Ar H,J6 J9 upto] g I:=by
 refine ABS ?_;unfold UQ;refine ai.mk λK ay=>af.no rfl (aD (AC.mk (AB L rfl) (ay _ _ ?_)))
 refine af.intro (λq=>av (by simpa using q)) (λq=>?_);have az:upto<(z:Int):=by simpa using q
 refine aD (AY.mk (AO L rfl) (aD (AJ.mk (AB L rfl) ?_)));refine yF ao N hd (by omega) au λX Y l A v2 Z O=>⟨Y,_,rfl,af.no rfl ?_⟩
 have ab:(l.map λd:Nat=>(d:Int)).length=l.length:=AN ..;have J: ∀d∈l,1<=d/\d<=99999999/\(ff m (aC h d)).isSome=true:=λd e=>by
  have:=(A.mem d).1 e;rw[VL] at this;exact this
 have a1:l.Nodup:=List.nodup_iff_pairwise_ne.2 (A.inc.imp λg=>Nat.ne_of_lt g);have a2:=AQV A;refine Loop.rule (λac x s=> ∃(i:Nat) (B:Nat->Prop) (r:Bx),x=((i:Int),())/\Cu s b B r/\JO m r/\Mod n g s/\Mod n X s/\(∀ c,B c->n c)/\bg r.files<=bg m.files/\(∀ d∈l.take i,(d:Int)<=upto->ff r (aC h d)=none)/\(∀ x,(∀ d∈l.take i,(d:Int)<=upto->x≠aC h d)->ff r x=ff m x)/\i<=l.length/\ac=l.length-i) ?_
  ⟨0,n,m,rfl,N.ext Z,JO.refl hd,Ext.mod Z,Mod.refl,λ_ g=>g,A0 _,by simp,λ_ _=>rfl,As _,rfl⟩
 rintro a3 ac _ s ⟨i,B,r,rfl,Q,C,w,R,D,M,E,u,a4,rfl⟩ aA;have aE:View IJ s Y (l.map λd:Nat=>(d:Int)):=v2.mod R λc v aF=>by have:=O c v;have:=N.lt aF;omega
 rw[v2.len,ab];refine af.intro (λS=>?_) (λS=>?_)
 ·have F:i<l.length:=by simpa using S
  have ag:l[i]? =some l[i]:=A2 F;obtain⟨ad,ae,aG⟩:=J l[i] (Bm F);have y:l.take (i+1)=l.take i++ [l[i]]:=by rw[Ax,ag];rfl
  have aH: ∀d∈l.take i,d<l[i]:=λd e=>by
   have:=A.inc;rw[<- CN (i+1) l,y] at this;have aI:=(List.pairwise_append.1 (List.pairwise_append.1 this).1).2.2 d e l[i] (by simp);exact aI
  refine ai.mk λaJ aK=>?_
  have fin: ∀S' f j,Cu j b S' f->JO m f->Mod n g j->Mod n X j->(∀ c,S' c->n c)->bg f.files<=bg m.files->(∀ d∈l.take (i+1),(d:Int)<=upto->ff f (aC h d)=none)->(∀ x,(∀ d∈l.take (i+1),(d:Int)<=upto->x≠aC h d)->ff f x=ff m x)->aJ () j:=λS' f j aL aM aN aO aP aQ aR O=>by
   refine aK _ _ ?_;dsimp only;rw[Aa (by omega)];exact aA (l.length-(i+1)) _ _ (by omega) ⟨i+1,S',f,rfl,aL,aM,aN,aO,aP,aQ,aR,O,F,rfl⟩
  rw[<- ab,<-v2.len];refine aE.idx (i:=i) (x:=(l[i]:Int)) (by rw[By,ag];rfl) λa _ c=>?_
  refine AC.mk c.int ?_;refine af.intro (λq=>?_) (λq=>?_)
  ·have q:(l[i]:Int)<=upto:=by simpa using q
   have T:ET s H b h z made:=L.mod w ar;refine aD (AY.mk (AO T rfl) (aD (AJ.mk (AB T rfl) ?_)));refine YQ (ap s w) (by omega) (by omega) λa5 U=>⟨_,rfl,⟨AO (T.ext U) rfl,?_⟩⟩
   refine XG (Q.ext U) λah aj V aS ak=>⟨_,rfl,?_⟩
   have aT:(ff r (aC h l[i])).isSome=true:=by rw[u (aC h l[i]) λd e _ G=>by have:=aH d e;have:=Ig G;omega];exact aG
   have W:=(Ext.mod U).trans (aS.aj λc _ v=>D c v);rcases RF (k:=aC h l[i]) C.up aT with⟨aU,aV⟩|⟨aW,ds,al⟩
   ·rw[aV] at V ⊢;refine af.yes rfl (aw (λg=>by have:=C.calm g;rw[aU] at this;cases this) ah aj _ V rfl (w.trans W) (λc v=>D c (ak c v)) M λx=>?_);show ff r x=_\/(ff r x=_/\_);by_cases t: ∃d,d∈l.take i/\(d:Int)<=upto/\x=aC h d
    ·obtain⟨d,e,o,rfl⟩:=t;have am:=J d (DM e);exact .inr ⟨E d e o,d,am.1,am.2.1,o,rfl⟩
    ·exact .inl (u x λd e o G=>t ⟨d,e,o,G⟩)
   rw[aW];refine af.no rfl (fin aj _ ah V (C.trans ds) (w.trans W) (R.trans W) (λc v=>D c (ak c v)) (AE (Zd _) M) ?_ ?_)
   ·intro d e o;rw[al];split
    ·rfl
    ·rename_i aX;rw[y] at e;rcases List.mem_append.1 e with e|e
     ·exact E d e o
     ·exact absurd (by rw[List.mem_singleton.1 e]) aX
   ·intro x t;rw[al,if_neg (t l[i] (by rw[y];exact List.mem_append.2 (.inr (List.mem_singleton.2 rfl))) q)];exact u x λd e=>t d (by rw[y];exact List.mem_append.2 (.inl e))
  ·have q: ¬(l[i]:Int)<=upto:=by simpa using q
   refine fin B r s Q C w R D M ?_ ?_
   ·intro d e o;rw[y] at e;rcases List.mem_append.1 e with e|e
    ·exact E d e o
    ·rw[List.mem_singleton.1 e] at o;exact absurd o q
   ·intro x t;exact u x λd e=>t d (by rw[y];exact List.mem_append.2 (.inl e))
 ·have F:i=l.length:=by simp at S;omega
  subst F;rw[BE] at E u;refine ax az s B r Q C w D M ?_ ?_
  ·intro d ad ae o;by_cases e:d∈l
   ·exact E d e o
   ·rw[u (aC h d) λk aY _ G=>e (by rw[Ig G];exact aY)];have: ¬((ff m (aC h d)).isSome=true):=λg=>e ((A.mem d).2 ⟨ad,ae,by rw[VL];exact g⟩)
    cases aZ:ff m (aC h d) with
    |none=>rfl
    |some p=>rw[aZ] at this;exact absurd rfl this
  ·intro x t;exact u x λd e o=>t d (J d e).1 (J d e).2.1 o
theorem ARw {a:Nat}(h:a<=99999999):LU (aX a)=false:=by
 have b:(aX a).size=1+(Lib.decDigits a).length:=by have:=A7 (aX a);rw[XH] at this;rw[<- this];simp;omega
 have c:(Lib.decDigits a).length<=20:=by rw[Lib.decDigits_length];exact Lib.nDigits_le20 a (by omega)
 unfold LU;rw[Hk,decide_eq_false_iff_not,decide_eq_false_iff_not];refine⟨λh=>?_,by omega⟩;rw[h] at b;have:bF.size=0:=rfl;omega
theorem QU {A:aq}{h:aa}{a:Nat}{R:A2P}(c:bY h)(l:a<=1099511627776)(d: ∀b,Ext h b->R (J7 (aX a)) b):AA A P I9 #[J6 J9 a] h R:=by
 refine AIu ?_;unfold vd;refine yC c.cO (by omega) (by omega) λe f=>⟨_,rfl,?_⟩
 have i:Lib.itoa (a:Int)=Lib.decDigits a:=Lib.itoa_nonneg a;rw[i];have n:(Lib.decDigits a).length<=20:=by rw[Lib.decDigits_length];exact Lib.nDigits_le20 a (by omega)
 have j:(⟨(Lib.decDigits a).toArray⟩:A2Q).size=(Lib.decDigits a).length:=by simp[ByteArray.size]
 refine⟨?_,?_⟩
 ·rw[j,max_i64];have:(⟨#[116]⟩:A2Q).size=1:=rfl;omega
 ·exact d e f
def rQ(h:aa)(a:Nat):Prop:= ∃b c c2 d c4 e f i,h[a]? =some (J2 #[b,c,c2,d,c4,e,f,i,J3 true] FH (0,0))
theorem ARr {A:aq}{h:aa}{q:Hp}{st:Db}{R:A2P}(hd:h[q.d]? =some (J2 (eB q st false) FH (0,0)))(b: ∀a,rQ a q.d->Mod (· =q.d) h a->a.size=h.size->R (J6 J9 30) a):AA A P Cg #[Ar q.d,J6 J9 30] h R:=by
 refine ACD ?_;unfold WV;refine ai.mk λK c=>af.yes rfl (aD (ae.dr hd (by simp) λd e f i=>c _ _ (b d ?_ f i)))
 exact⟨_,_,_,_,_,_,_,_,by simpa using e⟩
section
variable {A : aq} {g h : aa} {q : Hp} {k : Nat -> Nat} {st : Db} {m : Bx} {R : A2P}
theorem bM.ib(a:bM g h q k st m)(b:bY g):bY h:=b.ext a.ext
def Grow(k a:Nat->Nat)(b:Nat):Prop:= ∀c,c<b->a c=k c
theorem Grow.refl {k:Nat->Nat}{a:Nat}:Grow k k a:=λ_ _=>rfl
theorem rR {k:Nat->Nat}{a b:Nat}{d:Nat->Prop}:Grow k (Ld k a d b) a:=λc e=>GM e
theorem ARB(b:bM g h q k st m)(t:st.next<=99999999)(L:st.aV<=99999999)(M:st.ts.length<=60000)(u: ∀p∈st.ts,p.1<=99999999)(D: ∀v,Ext h v->R (J7 (AX (EF ⟨st.next,st.aV,st.ts.map (·.1)⟩))) v):AA A P Pw #[Ar q.d] h R:=by
 refine AD7 ?_;unfold WE;refine aD (AC.mk (AB b.cell rfl) (aD (AC.mk (AB b.cell rfl) (aD (AZ.mk (s:=q.np) (AB b.cell rfl) ?_)))));rw[CG (by omega)];refine Cc (by omega) λN w=>⟨_,rfl,?_⟩
 have f:=Am w b.cell;refine⟨AB f rfl,AB f rfl,?_⟩;rw[CG (by omega)];refine Cc (by omega) λO y=>⟨_,rfl,?_⟩
 have c2:=Am y f;have Q:=AV (n:=st.next) (by omega);have S:=AV (n:=st.aV) (by omega);have j:q.np.len=st.ts.length:=by rw[b.names.len];simp
 refine⟨AB c2 rfl,by rw[AP,AP,max_i64];omega,?_⟩;rw[j,CG (by omega),Aj];refine Cc (by omega) λE z=>⟨_,rfl,?_⟩
 have F:=Am z c2;have T:=AV (n:=st.ts.length) (by omega);refine⟨by rw[AP,AP,A1,max_i64];omega,?_⟩;refine aD (AZ.mk (s:=q.np) (AB F rfl) ?_);rw[Aj];have B:=(w.trans y).trans z;have G:=(b.names.ext B).view;have U: ∀i,((st.ts.map (·.1)).take i).flatMap Bd=((st.ts.map (·.1)).take i).flatMap Bd:=λ_=>rfl
 refine Loop.rule (λC x o=> ∃i:Nat,x=(AX (Bd st.next++Bd st.aV++Bd st.ts.length++((st.ts.map (·.1)).take i).flatMap Bd),(i:Int),())/\C=st.ts.length-i/\i<=st.ts.length/\Ext E o) ?_ ⟨0,by simp,rfl,by omega,Mod.refl⟩;rintro K C _ o ⟨i,rfl,rfl,V,r⟩ H;dsimp only;refine af.intro (λe=>?_) (λe=>?_)
 ·have d:i<st.ts.length:=by rw[<- j];simpa using e
  have ag:st.ts[i]? =some st.ts[i]:=A2 d;have W:=u st.ts[i] (Bm d);refine(G.ext r).idx (i:=i) (x:=(st.ts[i].1:Int)) (by rw[eE,By,ag];rfl) λa _ c=>AC.mk c.int ?_
  rw[CG (by omega)];refine Cc (by omega) λX I=>⟨_,rfl,?_⟩
  have Y:=AV (n:=st.ts[i].1) (by omega);have Z:=Uu (l:=(st.ts.map (·.1)).take i) λn t=>by
   obtain⟨p,J,rfl⟩:=List.mem_map.1 (DM t);exact u p J
  have aa:((st.ts.map (·.1)).take i).length<=60000:=by simp;omega
  refine⟨by rw[AP,AP,max_i64];simp only[A1];omega,?_⟩;rw[Aj,Aa (by omega)];refine H (st.ts.length-(i+1)) _ _ (by omega) ⟨i+1,?_,rfl,d,r.trans I⟩;rw[Ax,By,ag];simp
 ·have d:i=st.ts.length:=by rw[j] at e;simp at e;omega
  subst d;have:=D o (B.trans r);rw[AF (by simp)];simpa [EF] using this
theorem zW {n:Nat}{s:Sl}{l:List Pr}(z:bY g)(Q:bM g h q k st m)(hd:m.down=false)(T:G6 l)(an:View BR h s l)(B: ∀c,s.ah=some c->c<h.size)(ao:n<=99999999)(ap:ff m (aX n)=none)(aq:bg m.files+(Jc l).length+1<=8796093022208)
  (S:m.fuel≠ -1-> ∀b S' e,Cu b q.b S' e->e.down=true->Mod q.Sb h b->(∀ c,S' c->q.Sb c\/h.size<=c)->(∀ x,x≠aX n->ff e x=ff m x)->bg e.files<=bg m.files+(Jc l).length+1->R (J1 #[J5 none,J6 J9 30]) b)
  (ar: ∀b S' C e t D U,bM g b {q with Sb:=S'} C st e->JO m e->(∀ x,ff e x=if x=aX n then some (AX (Jc l),bF) else ff m x)->bg e.files<=bg m.files+(Jc l).length+1->bR b t l (Mx l) D U->h.size<=D->U<=b.size->(∀ c,D<=c->C c=0)->
   Mod q.Sb h b->Grow k C h.size->R (J1 #[Ar t,J6 J9 0]) b):AA A P Nl #[Ar q.d,J6 J9 (n:Int),J4 s.p s.len s.cap] h R:=by
 refine AEG ?_;unfold YO;refine AO6 T an B λaC V=>⟨_,_,rfl,af.no rfl ?_⟩
 have p:=Q.on V;refine aD (AY.mk (AO p.cell rfl) ?_);refine QU (p.ib z) (by omega) λE F=>⟨_,rfl,⟨AO (p.on F).cell rfl,?_⟩⟩
 have W:=p.on F;have X:=V.trans F;have aE:=X.size;refine sH W.box (by rw[AP];exact aq) λY f G H Z=>⟨_,rfl,?_⟩
 have I:=Zc Q.box.aS (aX n) (AX (Jc l));rw[AP] at I;have aa:Mod q.Sb h Y:=(Ext.mod X).trans H;have J: ∀c,f c->q.Sb c\/h.size<=c:=λc a=>(Z c a).imp id λh=>by omega
 rcases Rj (k:=aX n) (d:=AX (Jc l)) hd (ARw ao) with⟨K,L⟩|⟨L,M,r⟩
 ·rw[L] at G ⊢;refine af.yes rfl ?_;exact S (by rw[K];decide) Y f _ G rfl aa J (λx _=>rfl) (by rw[rP,HK];exact Ix _ _)
 rw[L];refine af.no rfl ?_;have o:=W.boxed (j:=2) (bJ:=st) G (H.aj λc _ a=> .inl a) Z rfl rfl rfl rfl (.inl ⟨by decide,rfl,rfl⟩) (.inl ⟨by decide,rfl⟩);generalize (EN m (aX n) (AX (Jc l))).2=ab at*
 have aF:Grow k (Ld k E.size f 2) E.size:=rR;refine aD (AY.mk (AO o.cell rfl) ?_);refine QU (o.ib z) (by omega) λau u=>⟨_,rfl,⟨AO (o.on u).cell rfl,?_⟩⟩
 have ac:=o.on u;rw[ap] at r;have av:ff ab (aX n)=some (bF,bF++AX (Jc l)):=by rw[r,if_pos rfl];rfl
 refine sI ac.box λad v N=>⟨_,rfl,?_⟩
 have aw:=o0 o.box.aS (aX n);have ae:Mod q.Sb h ad:=by refine aa.then ((Ext.mod u).trans N |>.aj λc _ a=>?_);exact(J c a)
 rcases OY M.up av with⟨K,O⟩|⟨O,ag,ah⟩
 ·rw[O] at v ⊢;refine af.yes rfl ?_;exact S (λax=>by have:=M.calm ax;rw[K] at this;cases this) ad f _ v rfl ae J (λx i=>by
   rw[oR,r,if_neg i]) I
 rw[O];refine af.no rfl ?_;have w:=ac.boxed (j:=2) (bJ:=st) v (N.aj λc _ a=> .inl a) (λc a=> .inl a) rfl rfl rfl rfl (.inl ⟨by decide,rfl,rfl⟩) (.inl ⟨by decide,rfl⟩);generalize (Hg ab (aX n)).2=ai at*
 refine aD (AY.mk (AO w.cell rfl) ?_);refine QU (w.ib z) (by omega) λaj y=>⟨_,rfl,⟨AO (w.on y).cell rfl,?_⟩⟩
 have ak:=w.on y;refine pg ak.box ⟨_,_,rfl,?_⟩;have ay:ff ai (aX n)=some (AX (Jc l),bF):=by rw[ah,if_pos rfl,RZ,RZ]
 rw[qT ag.up,ay];dsimp only;rw[YV];refine af.no rfl ?_;refine z6 T.eM λal t am az=>⟨_,_,rfl,?_⟩
 have aG:=u.size;have aH:=H.size;have aI:=N.size;have aJ:=y.size;have aA: ∀c,aj.size<=c->Ld (Ld k E.size f 2) au.size f 2 c=0:=λc a=>by
  have: ¬f c:=λB=>by have:=v.lt B;omega
  exact VU (by omega) this
 refine ar al f _ ai t aj.size al.size (ak.on am) (M.trans ag) (λx=>?_) (AE aw I) az (by omega) (A0 _) (λc a=>aA c a) ?_ ?_
 ·rw[ah];by_cases i:x=aX n
  ·rw[if_pos i,if_pos i,RZ,RZ]
  ·rw[if_neg i,if_neg i,r,if_neg i]
 ·exact(ae.trans (Ext.mod y)).trans (Ext.mod am)
 ·exact λc a=>by
   rw[GM (by omega),GM (by omega)]
end
section
variable {A : aq} {g h : aa} {q : Hp} {k : Nat -> Nat} {st : Db} {m : Bx} {R : A2P}
theorem bM.fY(a:bM g h q k st m)(e:bY g){d:aa}(x:Mod (λc=>q.Sb c\/c=q.lg\/c=q.nt) h d):bY d:=
 e.ext (a.rest (C:=λc=>c=2\/c=3\/c=4) (x.aj λc _ b=>by
  rcases b with b|rfl|rfl
  ·exact .inl (a.kb c b)
  ·exact .inr (.inl a.kl)
  ·exact .inr (.inr a.kn)) (by decide)).ext
def cP(st:Db):Nt:=⟨st.next,st.aV,st.ts.map (·.1)⟩
theorem zX {B:Bt}{T:Nat->List Pr}(I:bY g)(f:bM g h q k st m)(hd:m.down=false)(ac:BJ (ff m) B)(u:hG (cP st))(ax: ∀a∈(cP st).names,ff m (aX a)=some (AX (Jc (T a)),bF)/\G6 (T a))(ay:1<=st.aK/\st.aK+2<=99999999)
  (S: ∀a,st.aK<=a->a<=99999999->ff m (aC nn a)=none) (be:bg m.files+1000000<=8000000000000)
  (ad:m.fuel≠ -1-> ∀n S' o,Cu n q.b S' o->o.down=true->Mod (λc=>q.Sb c\/c=q.nt) h n->(∀ c,S' c->q.Sb c\/h.size<=c)->(∀ G,MZ (ff o) G-> ∃l,BJ G l/\mK B st.aK (cP st) T l)->(∀ b,(∀ a,b≠aC nn a)->ff o b=ff m b)->bg o.files<=bg m.files+700000->R (J6 J9 30) n)
  (aM: ∀n S' az o l,bM g n {q with Sb:=S'} az {st with aK:=st.aK+1} o->JO m o->BJ (ff o) l->Ao l=cP st->l.T=T->l.L=B.L->l.aQ=B.aQ->l.aW<=max B.aW (st.aK+1)->(∀ b,(∀ a,b≠aC nn a)->ff o b=ff m b)->
   (∀ a,st.aK+1<=a->a<=99999999->ff o (aC nn a)=none)->bg o.files<=bg m.files+700000->Mod (λc=>q.Sb c\/c=q.nt) h n->Grow k az h.size->R (J6 J9 0) n):AA A P Jt #[Ar q.d] h R:=by
 have aN: ∀p∈st.ts,p.1<=99999999:=λp aO=>by
  have v:=u.below p.1 (List.mem_map.2 ⟨p,aO,rfl⟩);have r:=u.next;simp only[cP] at v r;omega
 have aP:st.ts.length<=60000:=by have:=u.cn;simpa [cP] using this
 have aQ:=zk u;have aR:(cP st).names.length=st.ts.length:=by simp[cP]
 rw[aR] at aQ;have ae:(EF (cP st)).length<=1048576:=by omega
 refine ADG ?_;unfold Vz;refine aD (AY.mk (AB f.cell rfl) ?_);refine ARB f u.next u.aV.2 aP aN λv U=>⟨_,rfl,⟨AB (f.on U).cell rfl,?_⟩⟩
 have J:=f.on U;have bf:=U.size;have aS:(AX (EF ⟨st.next,st.aV,st.ts.map (·.1)⟩)).size=(EF (cP st)).length:=by rw[AP];rfl
 refine yK (J.ib I) J.dP J.box J.sB (λn x=>J.fY I (x.aj λc _ e=> .inl e)) (by decide) (by omega) (by rw[aS];omega) (by omega) λr C K V aT aA=>⟨_,rfl,?_⟩
 rw[show bl (AX (EF ⟨st.next,st.aV,st.ts.map (·.1)⟩))=EF (cP st) from EO _] at K V ⊢;have aU:=Zc f.box.aS (aC nn st.aK) (AX (Ct (EF (cP st))));have bh:=(JL ae).2;rw[AP] at aU;have L:Mod (λc=>q.Sb c\/c=q.nt) h r:=(Ext.mod U).trans aT;have s: ∀c,C c->q.Sb c\/h.size<=c:=λc e=>(aA c e).imp id λh=>by omega
 rcases Rj (k:=aC nn st.aK) (d:=AX (Ct (EF (cP st)))) hd (yM (by decide) (by omega)) with⟨W,ag⟩|⟨ag,M,aE⟩
 ·rw[ag] at K ⊢;refine af.yes rfl ?_;exact ad (by rw[W];decide) r C _ K rfl L s (λG c=>⟨B,ac.dQ c,APm⟩) (λb _=>rfl) (by rw[rP];omega)
 rw[ag] at V ⊢;refine af.no rfl ?_;rw[decide_eq_true rfl,IF] at V;generalize (EN m (aC nn st.aK) (AX (Ct (EF (cP st))))).2=t at*
 rw[S st.aK (A0 _) (by omega)] at aE;have X: ∀b,ff t b=if b=aC nn st.aK then some (bF,AX (Ct (EF (cP st)))) else ff m b:=λb=>by
  rw[aE];split<;>simp only[Option.getD_none,RZ]
 have ah: ¬C q.nt:=λe=>by
  rcases aA _ e with h|h
  ·exact f.sB h
  ·exact h.2 rfl
 have aV:r[q.d]? =some (J2 (eB q st false) FH (0,0)):=L.ah f.cell (by rintro(h|h);exact f.mW h;exact f.dn h);refine aD (AY.mk (AB aV rfl) ?_);have aF:ff t (aC nn st.aK)=some (bF,AX (Ct (EF (cP st)))):=by rw[X,if_pos rfl]
 have aW:bY r:=f.fY I (L.aj λc _ e=>e.imp id .inr);refine Wv aW V K ah (by decide) (by omega) (λaY w D ai aj=>⟨_,_,rfl,?_⟩) λaZ w D ai aj=>⟨_,_,rfl,?_⟩
 ·
  have a0:(Hg t (aC nn st.aK)).1≠0:=aY;rcases OY M.up aF with⟨W,E⟩|⟨E,_,_⟩
  ·have a1:NE t (aC nn st.aK) true=(30,NP t):=E;rw[a1] at D ⊢;refine af.yes rfl ?_;have z:Mod (λc=>q.Sb c\/c=q.nt) h w:=L.then (aj.aj λc _ e=>(s c e).imp .inl id);exact ad (λak=>by have:=M.calm ak;rw[W] at this;cases this) w C _ D rfl z s (λG c=>AMf ac ⟨ay.1,by omega⟩ u ae S ax (F1:=ff (NP t)) X c) (λb i=>by
    rw[oR,X,if_neg (i _)]) (by rw[rP];omega)
  ·exact absurd E a0
 ·rcases OY M.up aF with⟨W,E⟩|⟨E,al,a2⟩
  ·have aG:(Hg t (aC nn st.aK)).1=0:=aZ;rw[E] at aG;cases aG
  have D:Cu w q.b C (Hg t (aC nn st.aK)).2:=D;have bi:=o0 K.aS (aC nn st.aK);generalize (Hg t (aC nn st.aK)).2=aH at*
  refine af.no rfl ?_;have N: ∀b,ff aH b=if b=aC nn st.aK then some (AX (Ct (EF (cP st))),bF) else ff m b:=λb=>by
   rw[a2];by_cases i:b=aC nn st.aK
   ·rw[if_pos i,if_pos i];simp only[RZ]
   ·rw[if_neg i,if_neg i,X,if_neg i]
  obtain⟨aI,aJ⟩:=ANX ac ⟨ay.1,by omega⟩ u ae S ax N;have z:Mod (λc=>q.Sb c\/c=q.nt) h w:=L.then (aj.aj λc _ e=>by
   rcases e with e|rfl
   ·exact(s c e).imp .inl id
   ·exact .inl (.inr rfl))
  have a3:w[q.d]? =some (J2 (eB q st false) FH (0,0)):=z.ah f.cell (by rintro(h|h);exact f.mW h;exact f.dn h);refine aD (AY.mk (AB a3 rfl) ?_);have a4:J8 J9 (((st.aK:Nat):Int)-(1:Int))=(st.aK:Int)-1:=wrap_i64 (by omega) (by omega);rw[a4];have a5:bY w:=f.fY I (z.aj λc _ e=>e.imp id .inr);have a6: ∀n,Mod C w n->bY n:=λn x=>f.fY I ((z.then (x.aj λc _ e=>(s c e).imp .inl id)).aj λc _ e=>e.imp id .inr)
  have aL:ff aH (aC nn st.aK)≠none:=by rw[N,if_pos rfl];simp
  refine zV a5 a6 ai D al.up ah (by decide) (by omega) (λh=>absurd h (by omega)) (λa7 F am H an a8 Y ao w4 Z=>⟨_,rfl,?_⟩) λ_ F am H an a9 Y ao w4 Z ap=>⟨_,rfl,?_⟩
  ·have aa:Mod (λc=>q.Sb c\/c=q.nt) h F:=z.then (Y.aj λc _ e=>(s c e).imp .inl id);obtain⟨l,aq,ar,au,av,aw,ba⟩:=zU (G:=ff H) aI aJ aL λb=>by
    rcases Z b with v|⟨v,a,O,y,ab,r⟩
    ·exact .inl v
    ·exact .inr ⟨v,a,by omega,y,r⟩
   refine ad (λak=>a7 (al.calm (M.calm ak))) F am H an a8 aa (λc e=>s c (ao c e)) (λG c=>⟨l,aq.dQ c,av,aw,by omega,.inr ⟨ar,au⟩⟩) (λb i=>?_) (by omega);rcases Z b with v|⟨_,a,_,_,_,r⟩
   ·rw[v,N,if_neg (i _)]
   ·exact absurd r (i a)
  ·have aa:Mod (λc=>q.Sb c\/c=q.nt) h F:=z.then (Y.aj λc _ e=>(s c e).imp .inl id);obtain⟨l,aq,ar,au,av,aw,ba⟩:=zU (G:=ff H) aI aJ aL λb=>by
    by_cases i: ∃a:Nat,1<=a/\a<=99999999/\(a:Int)<=(st.aK:Int)-1/\b=aC nn a
    ·obtain⟨a,O,y,ab,rfl⟩:=i;exact .inr ⟨Z a O y ab,a,by omega,y,rfl⟩
    ·exact .inl (ap b λa O y ab Q=>i ⟨a,O,y,ab,Q⟩)
   have bb: ∀b,(∀ a,b≠aC nn a)->ff H b=ff m b:=λb i=>by
    rw[ap b λa _ _ _=>i a,N,if_neg (i _)]
   have bc:ET F q.nt q.b nn (st.aK+1) false:=ai.mod Y ah;have bd:=f.boxed (j:=4) (bJ:= {st with aK:=st.aK+1}) an (aa.aj λc _ e=>e.imp id λh=> .inr ⟨rfl,h⟩) (λc e=>s c (ao c e)) rfl rfl rfl rfl (.inl ⟨by decide,rfl,rfl⟩) (.inr bc);refine aM F am _ H l bd ((M.trans al).trans a9) aq ar au av aw (by omega) bb (λa O y=>?_) (by omega) aa rR;rw[ap (aC nn a) λk _ _ bj Q=>by have:=Ig Q;omega,N,if_neg λQ=>by have:=Ig Q;omega];exact S a (by omega) y
end
end Go.Lf.G
namespace Go.Lf.G.M
open Go Go.Lf Go.Lf.G
theorem AKw {O:aq}{n:aa}{b:Nat}{T:Q7}{fr:Nat×Nat}{s:Sl}{l:List Pr}(f:n[b]? =some (J2 #[J4 s.p s.len s.cap] T fr))(v:View BR n s l)(ag:l.length<=1099511627776):
  ER O P (.func (.func DU) #[] #[J5 (some ⟨b,0,none⟩)]) (λc=>c<n.size/\(c=b\/s.ah=some c)) n l:=by
 refine⟨λc o=>o.1,_,_,rfl,λQ=>by kernel_rfl,λe E Q R h ah hd hB S U=>?_⟩;rw[qC];refine IK ?_;unfold Ef;have F:=Ah f;have V: ∀d,Mod h e d->d[b]? =some (J2 #[J4 s.p s.len s.cap] T fr):=λd m=>by
  have w:=E b ⟨F,.inl rfl⟩;exact m.ah (w.trans f) (hd b ⟨F,.inl rfl⟩)
 have W: ∀i x,l[i]? =some x-> ∃a,s.p=some a/\ ∀d,Mod h e d->Cells d (a.add (i*3)) (BR.enc x):=λi x G=>by
  obtain⟨a,q,o⟩:=v.cells i x G;refine⟨a,q,λd m X u r=>?_⟩;have H:=o X u r;have I:=VD H;rw[aU,aU] at I;have J:a.block<n.size/\(a.block=b\/s.ah=some a.block):=⟨I,.inr (by simp[Sl.ah,q])⟩;have w:=E _ J;refine m.ag ((Qb ?_).trans H) ?_
  ·rw[aU,aU];exact w
  ·rw[aU,aU];exact hd _ J
 refine AZ.mk (AO (V e Mod.refl) rfl) ?_;refine Loop.rule (λm x d=> ∃(i:Nat) (k:Nat->Prop),x=((i:Int),())/\m=l.length-i/\i<=l.length/\Mod h e d/\(∀ b,k b->h b\/e.size<=b)/\R i true k d) ?_ ⟨0,h,rfl,rfl,by omega,Mod.refl,λb f=> .inl f,U⟩;rintro K m _ d ⟨i,k,rfl,rfl,G,t,y,r⟩ Y;refine af.intro (λj=>?_) (λj=>?_)
 ·have p:i<l.length:=by simp[v.len] at j;omega
  obtain⟨a,q,o⟩:=W i _ (A2 p);have z:=o d t;refine bI.mk q (by rw[v.len];exact p) ?_;refine AJ.mk (z.pair.1) (AJ.mk z.pair.2.1 (Ac.mk z.pair.2.2 ?_));refine al.pair λai Z aj A B ak=>?_
  refine AJ.mk (AO A rfl) (AJ.mk (AB A rfl) (Ac.mk (AB A rfl) ?_));have ab:=hB.ba _ _ _ _ _ r (B.aj (S':=λb=>¬k b/\e.size<=b) λ_ _ e=>e.elim);refine Ec.mono (S i _ k Z (A2 p) ab) ?_;rintro _ ac ⟨g,C,rfl,ad,ae,L⟩;have M: ∀b,C b->h b\/e.size<=b:=λb f=>(ad b f).elim (y b) λam=> .inr (by have:=t.size;have:=B.size;omega)
  have N:Mod h e ac:=(t.trans B.mod).then (ae.aj λb _ f=>(y b f));refine⟨g,rfl,?_⟩;refine af.intro (λj=>?_) (λj=>?_)
  ·refine⟨rfl,i+1,g,C,N,M,L,λD=>?_,by omega⟩;subst D;cases j
  ·have D:g=true:=by simpa using j
   subst D;exact Y _ _ _ (by omega) ⟨i+1,C,by rw[Aa (by omega)],rfl,by omega,N,M,L⟩
 ·have p:i=l.length:=by simp[v.len] at j;omega
  exact⟨rfl,i,true,k,t,y,r,λ_=>p,by omega⟩
theorem sD {d:aq}{a:aa}{s:Sl}{l:List Pr}{e:A2P}(v:View BR a s l)(g:l.length<=1099511627776)
  (h: ∀fv b,ER d P fv (λc=>c<b.size/\(c=a.size\/s.ah=some c)) b l->Ext a b->b.size=a.size+1->e fv b):AA d P Cf #[J4 s.p s.len s.cap] a e:=by
 refine Iw ?_;unfold Ez;refine al.mk λi _ j f k=>?_
 exact h _ i (AKw j (v.ext f) g) f k
theorem pb {ap:aq}{t:aa}{fv:J0}{S:Nat->Prop}{l:List Pr}{e:A2Q}{n:Int}{ar:A2P}(A:(fv= .nilFunc/\l= [])\/ER ap P fv S t l)(bh:l.length<=1099511627776)
  (W: ∀G o,Own BR AR o G (Po e n l)->(∀ c,G.ah=some c->t.size<=c)->Ext t o->ar (J4 G.p G.len G.cap) o):AA ap P LV #[fv,J7 e,J6 J9 n] t ar:=by
 refine AEb ?_;unfold YP;refine al.mk λau _ aX aY aZ=>al.mk λq _ a0 av bi=>al.mk λd _ a1 X bj=>?_
 have Y:Ext t d:=(aY.trans av).trans X;have a2:d[t.size]? =some (J2 #[J7 e] Az (0,0)):=X.ah (av.ah aX (by simp)) (by simp);have aw:d[au.size]? =some (J2 #[J6 J9 n] Bq (0,0)):=X.ah a0 (by simp);refine ai.mk λK ax=>?_
 have ay:Po e n l= []->K (true,()) d:=λf=>ax _ _ (af.yes rfl (W ⟨none,0,0⟩ d (f▸Own.nil) (λc j=>by simp[Sl.ah] at j) Y))
 rcases A with⟨rfl,rfl⟩|A
 ·exact⟨trivial,af.yes rfl (ay (by simp[Po]))⟩
 refine⟨A.one.2.1,af.no A.one.2.2 ?_⟩;refine AC.mk (AO aw rfl) ?_;cases Q:decide (n<=0)
 ·refine ax _ _ (af.no rfl ?_);have Q:0<n:=by simpa using Q
  have az: ∀o:aa,Mod (λc=>c=q.size) d o->Ext t o:=λo m=>Y.then (m.aj λc _ j=> .inr (by omega))
  have bk:=(Zs (l:=l) (RA e)).length_le;refine XQ A (λb a=>Y.get b (A.1 b a) (by simp))
   (λi c Z r=>r[t.size]? =some (J2 #[J7 e] Az (0,0))/\r[au.size]? =some (J2 #[J6 J9 n] Bq (0,0))/\ ∃(s:Sl) (u:List Pr),r[q.size]? =some (J2 #[J4 s.p s.len s.cap] AQ (0,0))/\Own BR AR r s u/\(∀ b,Z b↔(b=q.size\/s.ah=some b))/\(∀ b,s.ah=some b->b<r.size/\q.size<b)/\match c with
    |none=>u=l.take i/\i<=(l.takeWhile (RA e)).length/\(i:Int)<n
    |some aA=>aA=some 0/\u=Po e n l)
   (λb=>b=q.size) (λb a f=>by have:=A.1 b a;omega) ?_ ?_ ?_ ?_ ?_ ?_
  ·rintro i c Z r ⟨_,_,s,u,q,v,h,k,_⟩ b a;rcases(h b).1 a with rfl|d
   ·exact Ah q
   ·exact(k b d).1
  ·rintro i c Z r o ⟨H,I,s,u,w,v,h,k,a3⟩ m;refine⟨m.ah H (λt=>by omega),m.ah I (λt=>by omega),s,u,m.ah w (λab=>ab.1 ((h _).2 (.inl rfl))),v.mod m (λc j ab=>ab.1 ((h _).2 (.inr j))),h,λb a=>⟨?_,(k b a).2⟩,a3⟩;have:=m.size;have:=(k b a).1;omega
  ·exact⟨a2,aw,⟨none,0,0⟩,[],a1,Own.nil,λb=>by simp[Sl.ah],λb a=>by simp[Sl.ah] at a,by simp,by omega,by simpa using Q⟩
  ·rintro i x ac r rec bm bn J ⟨H,I,s,u,w,v,h,k,rfl,R,a4⟩ aC aZ a5 a6 a7 aD;have bo:=(List.getElem?_eq_some_iff.1 J).1;have aE:=Ut (p:=RA e) (l:=l) R;refine al.pair λbp aF bq a8 C br=>?_
   refine⟨rec,C.ah a5 (by simp),a6,?_⟩;generalize aG:aF.setIfInBounds (d.size+1) (.loop {rec with state:= .busy})=D;have B:Mod (λb=>b=d.size+1) aF D:=aG▸Mod.setObj rfl;have aH:D[d.size+1]? =some (.loop {rec with state:= .busy}):=by rw[<- aG];exact Cb (by omega)
   have T:=B.ah a8 (by omega);have U:=B.ah (C.ah H (by simp)) (by omega);have aI:=B.ah (C.ah I (by simp)) (by omega);have aJ:Mod (λb=>b=d.size+1) r D:=(Ext.mod C).trans B;have ad:=B.ah (C.ah w (by simp)) (by omega);have bs:=Ah w;have aK:=(v.ext C).mod B (λc j f=>aC ((h _).2 (.inr (f▸j))));have bt:=B.size;have aL:(l.take i).length=i:=by simp;omega
   refine ai.mk λag aN=>?_
   have a9:RA e x=false->ag (true,()) D:=λL=>aN _ _ (af.yes rfl (aD _ _ (by
    refine⟨ac,λb a=> .inl a,aJ.aj λb _ a=> .inr a,aH,U,aI,s,l.take i,ad,aK,h,λb a=>⟨?_,(k b a).2⟩,rfl,?_⟩
    ·have:=(k b a).1;omega
    ·have:=aE.2.1 _ J L;have H:(l.takeWhile (RA e)).take i=l.takeWhile (RA e):=AF (by omega);have I:(l.takeWhile (RA e)).take n.toNat=l.takeWhile (RA e):=AF (by omega);unfold Po;rw[I,<-nP R,H])))
   have aO:RA e x=true->ag (false,()) D:=λL=>aN _ _ (af.no rfl (by
    have bu:=aE.1 _ J L;refine AZ.mk (AO ad rfl) (AJ.mk (AO T rfl) (AJ.mk (AB T rfl) (Ac.mk (AB T rfl) ?_)));refine al.aY (E:=BR) (x:=x) rfl G5 aK (by rw[aL];omega) (by rw[aL];simp[maxLen];omega) λy ba aP F ah _=>?_
    have bb:s.ah≠some q.size:=λf=>by have:=k _ f;omega
    refine ae.mk (F.ah ad bb) (by simp) λaj bc M bv=>?_
    have bw:=F.size;have ak:aj[q.size]? =some (J2 #[J4 y.p y.len y.cap] AQ (0,0)):=by simpa using bc
    have V:=aP.mod M (λc j f=>by
     rcases ah c j with d|d
     ·have:=k _ d;omega
     ·omega)
    have aQ:=M.ah (F.ah U (λf=>by have:=k _ f;omega)) (by omega);have am:=M.ah (F.ah aI (λf=>by have:=k _ f;omega)) (by omega);have bd:l.take i++ [x]=l.take (i+1):=by rw[Ax,J];rfl
    rw[bd] at V;have aR: ∀b,(b=q.size\/y.ah=some b)->ac b\/r.size<=b:=by
     rintro b (rfl|a)
     ·exact .inl ((h _).2 (.inl rfl))
     ·rcases ah b a with d|d
      ·exact .inl ((h _).2 (.inr d))
      ·exact .inr (by omega)
    have aS:Mod (λb=>ac b\/b=d.size+1) r aj:=
     ((aJ.aj λb _ a=> .inr a).trans (F.aj λb _ a=> .inl ((h _).2 (.inr a)))).trans (M.aj λb _ a=> .inl ((h _).2 (.inl a)))
    have aT:=M.ah (F.ah aH (λf=>aC ((h _).2 (.inr f)))) (by omega);have aU: ∀b,y.ah=some b->b<aj.size/\q.size<b:=by
     intro b a;have bx:b<ba.size:=by
      rcases aP.row with⟨rfl,_⟩|⟨g,bz,L,be,_⟩
      ·simp[Sl.ah] at a
      ·simp[Sl.ah,L] at a;subst a;exact Ah be
     refine⟨by omega,?_⟩;rcases ah b a with d|d
     ·exact(k _ d).2
     ·omega
    refine AZ.mk (AO ak rfl) (AC.mk (AO am rfl) ?_);have aV:y.len=i+1:=by rw[V.len];simp;omega
    refine af.intro (λz=>aD _ _ ?_) (λz=>a7 _ ?_)
    ·refine⟨_,aR,aS,aT,aQ,am,y,_,ak,V,λ_=>CM,aU,rfl,?_⟩;have z:((i+1:Nat):Int)=n:=by rw[aV] at z;simpa using z
     unfold Po;rw[<- z,A6,nP (by omega)]
    ·refine⟨_,aR,aS,aT,aQ,am,y,_,ak,V,λ_=>CM,aU,rfl,by omega,?_⟩;have z:((i+1:Nat):Int)≠n:=by rw[aV] at z;simpa using z
     omega))
   refine AJ.mk (AO U rfl) ?_;rw[CU];refine af.intro (λN=>?_) (λN=>?_)
   ·refine AJ.mk (AO T rfl) (AJ.mk (AO U rfl) ?_);show ag (!aM x.key e,()) D;cases aW:aM x.key e
    ·exact a9 (by simp at N;simp[RA,N,aW])
    ·exact aO (by simp[RA,aW])
   ·exact aO (by simp at N;simp[RA,N])
  ·rintro O' o ⟨_,_,s,u,w,v,h,k,rfl,R,a4⟩ O an bf ao;have bg:=O.size;refine AZ.mk (AO w rfl) ⟨ao,?_⟩;have:Po e n l=l.take l.length:=by unfold Po;rw[AF (by omega),<-nP R,AF (by omega)]
   rw[<- this] at v;refine W s _ (v.mod (Mod.setObj (S:=λc=>c=d.size) rfl) λc j f=>an ((h _).2 (.inr (f▸j)))) (λc j=>by have:=k _ j;omega) ?_;exact(az o O).then (Mod.setObj (.inr (by omega)))
  ·rintro i aA O' o ⟨_,_,s,u,w,v,h,k,rfl,rfl⟩ J O an bf ao;have bg:=O.size;refine AZ.mk (AO w rfl) ⟨ao,?_⟩;refine W s _ (v.mod (Mod.setObj (S:=λc=>c=d.size) rfl) λc j f=>an ((h _).2 (.inr (f▸j)))) (λc j=>by have:=k _ j;omega) ?_;exact(az o O).then (Mod.setObj (.inr (by omega)))
 ·refine ay ?_;have:n.toNat=0:=by simp at Q;omega
  simp[Po,this]
end Go.Lf.G.M
namespace Go.Lf.G
open Go
open M (Sorted Af CY BA Ag Au BV Ai bB BH aP Po RA)
def kC(f t k:A2Q):Bool:= !aM k f&&(decide (t=⟨#[]⟩)||aM k t)
def Qu(f t:A2Q)(l:List Pr):List Pr:=l.filter λx=>kC f t x.key
def mM(m:List Pr)(f t:A2Q)(a:Int):List Pr:=(Qu f t m).take a.toNat
theorem zY {p:Pr->Bool}{a:A2Q->Bool}(b: ∀x,p x=a x.key)(k:A2Q): ∀l:List Pr,Af k (l.filter p)=if a k then Af k l else none
 | []=>by split<;>rfl
 |x::l=>by
  have c:=zY b k l;rw[AT,M.BD];by_cases h:x.key=k
  ·rw[if_pos h];cases d:a k with
   |true=>rw[if_pos (by rw[b,h];exact d),M.BD,if_pos h];rfl
   |false=>
    rw[if_neg (by rw[b,h,d];decide),c,d];rfl
  ·rw[if_neg h];split
   ·rw[M.BD,if_neg h];exact c
   ·exact c
theorem fR(k:A2Q): ∀ {l:List Pr},Sorted l->l.drop (aP k l)=l.filter λx=> !aM x.key k
 | [],_=>by simp
 |x::l,s=>by
  have b:=List.pairwise_cons.1 s;rw[UL,AT];by_cases h:aM x.key k=true
  ·rw[if_pos h,if_neg (by simp[h]),HW];exact fR k b.2
  ·have c: ∀a∈l,(!aM a.key k)=true:=λa d=>by
    grind [aM,absurd,M.Da]
   rw[if_neg h,if_pos (by simp[h]),JT,List.filter_eq_self.2 c]
theorem rS(t:A2Q): ∀ {l:List Pr},Sorted l->l.takeWhile (RA t)=l.filter (RA t)
 | [],_=>rfl
 |x::l,s=>by
  have a:=List.pairwise_cons.1 s;rw[IS,AT];by_cases h:RA t x=true
  ·rw[if_pos h,if_pos h,rS t a.2]
  ·rw[if_neg h,if_neg h];refine(List.filter_eq_nil_iff.2 λc d b=>h ?_).symm;have e:=a.1 c d;unfold M.RA at b ⊢;rw[DB] at b ⊢
   grind [M.Da]
theorem zZ {f t:A2Q}{l:List Pr}(s:Sorted l)(b:l.length<=1099511627776):Po t 1099511627776 (l.drop (aP f l))=Qu f t l:=by
 unfold M.Po;have a:Sorted (l.drop (aP f l)):=s.sublist (List.drop_sublist _ _);rw[rS t a,fR f s,List.filter_filter,AF]
 ·unfold Qu;exact HG λx _=>by unfold kC M.RA;rw[Bool.and_comm]
 grind
theorem Ww {f t:A2Q}{l:List Pr}(s:Sorted l):Sorted (Qu f t l):=s.sublist Gk
theorem AIf(k f t:A2Q)(l:List Pr):Af k (Qu f t l)=if kC f t k then Af k l else none:=zY (λ_=>rfl) k l
theorem AFD(k f t:A2Q): ∀a:List (List Pr),Au k (a.map (Qu f t))=if kC f t k then Au k a else none
 | []=>by split<;>rfl
 |l::a=>by
  rw[B9,M.EM,M.EM,AFD k f t a,AIf];split<;>rfl
theorem AQU {f t:A2Q}{c:List (List Pr)}(d:bB c):bB (c.map (Qu f t)):=⟨λl a=>by
  obtain⟨x,b,rfl⟩:=List.mem_map.1 a;exact Ww (d.sorted x b),λl a=>by
  obtain⟨x,b,rfl⟩:=List.mem_map.1 a;exact λe i=>d.aS x b e (List.mem_filter.1 i).1⟩
theorem ALb {f t:A2Q}{a:List (List Pr)}(b:bB a):Ag (a.map (Qu f t))=Qu f t (Ag a):=
 (M.Dz _).ext (Ww (M.Dz _)) λk=>by simp_all [M.Kn,AQU,AFD,AIf]
theorem AQx {f t:A2Q}{a:List (List Pr)}(c:bB a)(b:Int):Po t b (BH (Ag (a.map (Qu f t))))=mM (BH (Ag a)) f t b:=by
 rw[ALb c];have d:BH (Qu f t (Ag a))=Qu f t (BH (Ag a)):=by simp_all [M.BH,Qu,List.filter_filter,HG,Bool.and_comm]
 rw[d];unfold M.Po mM;have h: ∀x∈Qu f t (BH (Ag a)),RA t x=true:=λx e=>by
  have:=(List.mem_filter.1 e).2;unfold kC at this;rw[A4] at this;exact this.2
 rw[rS t (Ww (Uq (M.Dz _))),List.filter_eq_self.2 h]
def TF(A:aq)(h:aa)(s:Sl)(b:List (List Pr)):Prop:=
 ∃a,Own jZ Bl h s a/\a.length=b.length/\ ∀(i:Nat) (v:ig) (l:List Pr),a[i]? =some v->b[i]? =some l->(∃ d,ER A P v.v d h l/\ ∀c,d c->s.ah≠some c)/\l.length<=1099511627776
theorem ER.at {A:aq}{fv:J0}{b T:Nat->Prop}{h e:aa}{l:List Pr}(d:ER A P fv b h l)(x:Mod T h e)(f: ∀c,b c-> ¬T c):ER A P fv b e l:=
 ER.aj d (λ_ h=>h) (λc a=>by have:=d.1 c a;have:=x.size;omega) λc a=>x.get c (d.1 c a) (f c a)
theorem TF.ext {A:aq}{h a:aa}{s:Sl}{b:List (List Pr)}(q:TF A h s b)(x:Ext h a):TF A a s b:=by obtain⟨c,d,e,f⟩:=q;refine⟨c,d.ext x,e,λi v l j n=>?_⟩;obtain⟨⟨o,p,r⟩,t⟩:=f i v l j n;exact⟨⟨o,ER.at p x (λ_ _ h=>h),r⟩,t⟩
theorem TF.nil {A:aq}{h:aa}:TF A h ⟨none,0,0⟩ []:=⟨[],Own.nil,rfl,λi v l h=>by simp at h⟩
theorem TF.lA {A:aq}{h:aa}{s:Sl}{b:List (List Pr)}(q:TF A h s b):M.sC A (λ_=>False) h s b:=by obtain⟨f,d,j,n⟩:=q;refine⟨f,d.view,λc a=>⟨d.lt a,λh=>h⟩,j,λi v l o p=> .inr ?_⟩;obtain⟨⟨t,e,u⟩,r⟩:=n i v l o p;exact⟨e.aj (λc a=>⟨e.1 c a,λh=>h⟩) (λc a=>a.1) (λ_ _=>rfl),r⟩
theorem TF.one {A:aq}{h a:aa}{fv:J0}{l:List Pr}{e:Nat->Prop}{b:Nat}(d:ER A P fv e h l)(j:l.length<=1099511627776)(n:a[b]? =some (J2 #[fv] Bl (0,0)))(x:Ext h a)(s:h.size<=b):TF A a ⟨some ⟨b,0,none⟩,1,1⟩ [l]:=by
 refine⟨[⟨fv,d.one.1⟩],Own.lit (l:= [(⟨fv,d.one.1⟩:ig)]) n rfl (by simp[maxLen]),rfl,λi v t a f=>?_⟩;have o:i=0:=by grind
 subst o;simp only[Hv,BW] at a f;subst a f;exact⟨⟨e,ER.at d x (λ_ _ h=>h),λc p r=>by have:=d.1 c p;simp[Sl.ah] at r;omega⟩,j⟩
theorem TF.add {A:aq}{h:aa}{s:Sl}{p:List (List Pr)}{fv:J0}{l:List Pr}{e:Nat->Prop}{K:Sl->aa->Prop}{z:Q7}(q:TF A h s p)(f:ER A P fv e h l)(H: ∀c,e c->s.ah≠some c)(I:l.length<=1099511627776)(J:p.length<=1000000)
  (B: ∀a d,TF A d a (p++ [l])->Mod (λb=>s.ah=some b) h d->(∀ b,a.ah=some b->s.ah=some b\/h.size<=b)->K a d):
  al h (J2 #[fv] Bl) λb j=>BI A P (Builtin.append_ #[BG,BG] z #[J4 s.p s.len s.cap,J4 (some ⟨b,0,none⟩) 1 1]) j λv d=> ∃a:Sl,v=J4 a.p a.len a.cap/\K a d:=by
 obtain⟨r,C,D,L⟩:=q;refine al.aY (E:=jZ) (x:=⟨fv,f.one.1⟩) (s:=s) (l:=r) rfl M.ARt C (by omega) (by simp[maxLen];omega) λa d F u w _=>?_
 have N: ∀ {T:Nat->Prop} {t:J0} {n:List Pr},ER A P t T h n->(∀ c,T c->s.ah≠some c)-> ∃e,ER A P t e d n/\ ∀c,e c->a.ah≠some c:=λ{T} t n f y=>⟨T,ER.at f u (λc o=>y c o),λc o G=>by
  rcases w c G with j|j
  ·exact y c o j
  ·have:=f.1 c o;omega⟩
 refine B a d ⟨r++ [⟨fv,f.one.1⟩],F,by simp[D],λi v n j O=>?_⟩ u w;by_cases Q:i<r.length
 ·grind
 grind
section
variable {A : aq} {g h : aa} {q : Hp} {k : Nat -> Nat} {st : Db} {m : Bx} {R : A2P}
def aF(st:Db):List (List Pr):=st.ts.map (·.2)
def Cm(st:Db):List Pr:=Lr st.fr (aF st)
theorem bM.iZ(a:bM g h q k st m): ∀p∈st.ts,G6 p.2:=λp c=>by
 obtain⟨i,b,rfl⟩:=DA c;have d:i<q.ps.length:=by rw[a.da];exact b
 obtain⟨e,f,_,_,_,t⟩:=a.cO i q.ps[i] st.ts[i] (A2 d) (A2 b);exact t
theorem bM.fW(b:bM g h q k st m):bB (st.fr::aF st):=by
 refine⟨λl a=>?_,λl a=>?_⟩<;>rcases List.mem_cons.1 a with rfl|a
 ·exact b.fresh.sorted
 ·obtain⟨p,c,rfl⟩:=List.mem_map.1 a;exact(b.iZ p c).aS.1
 ·exact b.fresh.aS
 ·obtain⟨p,c,rfl⟩:=List.mem_map.1 a;exact(b.iZ p c).aS.2
theorem rT(f t:A2Q)(l:List Pr):(Qu f t l).length<=l.length:=A0t ..
theorem ASW {f t:A2Q}(d:bM g h q k st m)(ap:st.fr.length<=1000000)(aq:st.ts.length<=100000)
  (O: ∀fv e,ER A P fv (λc=>c<e.size) e (Ag ((st.fr::aF st).map (Qu f t)))->Ext h e->R fv e):AA A P R5 #[Ar q.d,J7 f,J7 t] h R:=by
 refine AEs ?_;unfold Xo;refine aD (AY.mk (AB d.cell rfl) ?_);refine M.sv d.fresh λfv j Q w ar=>⟨_,rfl,?_⟩
 refine M.pb (.inr Q) (by grind) λsl au y av z=>⟨_,rfl,?_⟩
 rw[zZ d.fresh.sorted (by omega)] at y;have aw:=rT f t st.fr;refine M.sD y.view (by omega) λax S B C ay=>⟨_,rfl,Yw.mk B.one.1 (al.mk λaz _ T D aA=>?_)⟩
 have U:=TF.one B (by omega) T D (A0 _);have E:=((w.trans z).trans C).trans D;have V:=d.on E;refine aD (AZ.mk (s:=q.tp) (AB V.cell rfl) ?_);have aC:=d.da;have aE:=d.ck.len;refine Loop.rule (λF x p=> ∃(i:Nat) (sl:Sl),x=(sl,(i:Int),())/\F=q.ps.length-i/\i<=q.ps.length/\Ext h p/\(∀ c,sl.ah=some c->h.size<=c)/\TF A p sl ((st.fr::(aF st).take i).map (Qu f t))) ?_ ⟨0,⟨some ⟨S.size,0,none⟩,1,1⟩,rfl,rfl,by omega,E,λc b=>by
  simp[Sl.ah] at b;have:=((w.trans z).trans C).size;omega,by simpa using U⟩
 rintro K F _ p ⟨i,sl,rfl,rfl,aG,l,G,n⟩ W;dsimp only;refine af.intro (λX=>?_) (λX=>?_)
 ·have o:i<q.ps.length:=by grind
  have Y:i<st.ts.length:=by omega
  have H:q.ps[i]? =some q.ps[i]:=A2 o;have Z:st.ts[i]? =some st.ts[i]:=A2 Y;have aa:(aF st)[i]? =some st.ts[i].2:=by unfold aF;grind
  have I:=d.on l;refine I.ck.view.idx H λa _ c=>AY.mk (Cells.pt c) ?_
  obtain⟨aH,aI,ab,ac,aJ,r⟩:=I.cO i _ _ H Z;refine zi ab ac r.eM λaK aL ad u aM=>⟨_,rfl,?_⟩
  have aN:=r.many;refine M.pb (.inr ad) (by grind) λaO aP J ae L=>⟨_,rfl,?_⟩
  rw[zZ r.aS.1 (by omega)] at J;have aQ:=rT f t st.ts[i].2;refine M.sD J.view (by omega) λaR aS N ag aT=>⟨_,rfl,Yw.mk N.one.1 ?_⟩
  have v:=(u.trans L).trans ag;refine TF.add (n.ext v) N (λc b ah=>?_) (by omega) (by simp[aF];omega) λai e aj ak am=>?_
  ·obtain⟨aU,an,_,_⟩:=n;have aV:=an.lt ah;rcases b.2 with j|j
   ·have:=(u.trans L).size;omega
   ·have:=ae c j;have:=u.size;omega
  ·rw[Aa (by omega)];refine W (q.ps.length-(i+1)) _ _ (by omega) ⟨i+1,ai,rfl,rfl,o,?_,λc b=>?_,?_⟩
   ·exact(l.trans v).then (ak.aj λc _ b=> .inr (G c b))
   ·rcases am c b with j|j
    ·exact G c j
    ·have:=l.size;have:=v.size;omega
   ·rw[Ax,aa];simpa using aj
 ·have o:i=q.ps.length:=by grind
  subst o;rw[AF (by simp[aF];omega)] at n;refine M.sn n.lA (λc h=>h.elim) (by simp[aF];omega) (AQU d.fW) λfv e ao x _=>⟨_,rfl,O fv e (ao.aj (λc b=>b.1) (λc b=>b) (λ_ _=>rfl)) (l.trans x)⟩
theorem Yx(b:bM g h q k st m){K:Bool×Unit->aa->Prop}(c:K (false,()) h):af ((some (⟨q.d,0,none⟩:Q6)).isNone) (K (true,()) h) (At (some (⟨q.d,0,none⟩:Q6)) λa=>Ac h (a.add 8) λt=>K (t,()) h):=
 af.no rfl (aD (Ac.mk (AB b.cell rfl) c))
theorem AQ4 {f t:A2Q}{d:Int}(a:bM g h q k st m)(n:st.fr.length<=1000000)(o:st.ts.length<=100000)(C:(Ag (st.fr::aF st)).length<=1099511627776)
  (p: ∀s b,Own BR AR b s (mM (Cm st) f t d)->(∀ c,s.ah=some c->h.size<=c)->Ext h b->R (J1 #[J4 s.p s.len s.cap,J6 J9 0]) b):AA A P Pt #[Ar q.d,J7 f,J7 t,J6 J9 d] h R:=by
 refine AC1 ?_;unfold Vs;refine ai.mk λK r=>Yx a (r _ _ (af.no rfl ?_))
 refine ASW a n o λfv D u e=>⟨_,rfl,?_⟩
 refine M.sq (.inr u) λE F v i G=>⟨_,rfl,?_⟩
 have w:(BH (Ag ((st.fr::aF st).map (Qu f t)))).length<=1099511627776:=by
  rw[ALb a.fW]
  grind [rL,Qu,Ag,aF,rT]
 refine M.pb (.inr v) w λj x l y z=>⟨j,rfl,?_⟩
 rw[AQx a.fW] at l;exact p j x l (λc B=>by have:=y c B;have:=(e.trans i).size;omega) ((e.trans i).trans z)
theorem AE5(key:A2Q): ∀ {l:List Pr},Sorted l->M.NK key l=Vf key l
 | [],_=>rfl
 |x::l,s=>by
  have c:=List.pairwise_cons.1 s;have a:=AE5 key c.2;unfold M.NK Vf at a ⊢;rw[UL,M.BD];by_cases h:aM x.key key=true
  ·rw[if_pos h,if_neg (M.Lj h),Xs];exact a
  ·rw[if_neg h,Hv];by_cases b:x.key=key
   ·simp[b]
   ·have d:Af key l=none:=M.EJ λe f i=>h (by
     grind)
    simp[b,d]
def Iu(m:List Pr)(key:A2Q):A2Q×Bool:=match Af key m with|some p=>(p.val,true)|none=>(⟨#[]⟩,false)
theorem AO8 {key:A2Q}(d:bM g h q k st m)(am:st.ts.length<=100000)(I:key.size<=1099511627776)
  (v: ∀B,Ext h B->R (J1 #[J7 (Iu (Cm st) key).1,J3 (Iu (Cm st) key).2,J6 J9 0]) B):AA A P OH #[Ar q.d,J7 key] h R:=by
 refine AEg ?_;unfold XV;refine ai.mk λK J=>Yx d (J _ _ (af.no rfl ?_))
 refine aD (AY.mk (AB d.cell rfl) ?_);have C: ∀p,(Af key st.fr).or (Au key (aF st))=some p->Iu (Cm st) key=(p.val, !p.gone):=λp f=>by
  have e:Af key (Cm st)=alive (some p):=by unfold Cm;rw[Gf key d.fW,f]
  unfold Iu;rw[e,Hw];cases L:p.gone with
  |false=>rfl
  |true=>
   have N:Ai p=0:=by
    cases j:Af key st.fr with
    |some x=>
     rw[j] at f;simp only[Option.some_or,BW] at f;subst f;exact d.fresh.aS x (M.ML j).2
    |none=>
     rw[j,LR] at f;unfold M.Au at f;obtain⟨l,O,Q⟩:=A0c f;exact d.fW.aS l (AG _ O) p (M.ML Q).2
   have S:=(oL N).gone L;show((⟨#[]⟩:A2Q),false)=(p.val, !true);rw[Zz S];rfl
 have T:(Af key st.fr).or (Au key (aF st))=none->Iu (Cm st) key=(⟨#[]⟩,false):=λf=>by
  have e:Af key (Cm st)=alive none:=by unfold Cm;rw[Gf key d.fW,f]
  unfold Iu;rw[e];rfl
 refine M.AQc d.fresh λan U=>⟨_,_,_,_,rfl,?_⟩
 rw[AE5 key d.fresh.sorted];refine al.pair λb V _ n W ao=>?_
 have w:=U.trans W;cases j:Af key st.fr with
 |some p=>
  have e:Vf key st.fr=(p,true):=by unfold Vf;rw[j]
  rw[e] at n ⊢;refine af.yes rfl (AJ.mk (AB n rfl) (Ac.mk (AB n rfl) ?_));have:=v V w;rw[C p (by rw[j];rfl)] at this;exact this
 |none=>
  have e:Vf key st.fr=(M.UY,false):=by unfold Vf;rw[j]
  rw[e] at n ⊢;refine af.no rfl ?_;have X:=d.on w;refine aD (AZ.mk (s:=q.tp) (AB X.cell rfl) ?_);have ap:=d.da;have aq:=d.ck.len;refine Loop.rule (λD x y=> ∃i:Nat,x=((i:Int),())/\D=q.ps.length-i/\i<=q.ps.length/\Ext h y/\Au key ((aF st).take i)=none) ?_ ⟨0,rfl,rfl,by omega,w,rfl⟩;rintro ar D _ y ⟨i,rfl,rfl,au,z,o⟩ Y;dsimp only;refine af.intro (λZ=>?_) (λZ=>?_)
  ·have r:i<q.ps.length:=by grind
   have aa:i<st.ts.length:=by omega
   have E:q.ps[i]? =some q.ps[i]:=A2 r;have ab:st.ts[i]? =some st.ts[i]:=A2 aa;have ac:(aF st)[i]? =some st.ts[i].2:=by unfold aF;grind
   have F:=d.on z;refine F.ck.view.idx E λa _ c=>AY.mk (Cells.pt c) ?_
   obtain⟨av,aw,ad,ax,ay,ae⟩:=F.cO i _ _ E ab;refine ARa ad ae.eM I λaz ag=>⟨_,_,_,_,rfl,?_⟩
   refine al.pair λaA ah _ t aj aC=>?_
   have G:=(z.trans ag).trans aj;have H:(aF st).take (i+1)=(aF st).take i++ [st.ts[i].2]:=by rw[Ax,ac];rfl
   have ak:Au key (aF st)=(Af key st.ts[i].2).or (Au key ((aF st).drop (i+1))):=by
    conv=>lhs;rw[<- CN (i+1) (aF st),H]
    rw[M.QD,M.QD,o,M.EM];have:Au key ([]:List (List Pr))=none:=rfl;rw[this,Option.or_none,LR]
   cases u:Af key st.ts[i].2 with
   |some p=>
    have e:Vf key st.ts[i].2=(p,true):=by unfold Vf;rw[u]
    rw[e] at t ⊢;refine af.yes rfl (AJ.mk (AB t rfl) (Ac.mk (AB t rfl) ?_));have:=v ah G;rw[C p (by rw[j,ak,u];rfl)] at this;exact this
   |none=>
    have e:Vf key st.ts[i].2=(M.UY,false):=by unfold Vf;rw[u]
    rw[e] at t ⊢;refine af.no rfl ?_;rw[Aa (by omega)];refine Y (q.ps.length-(i+1)) _ _ (by omega) ⟨i+1,rfl,rfl,r,G,?_⟩;rw[H,M.QD,o,M.EM,u];rfl
  ·have r:i=q.ps.length:=by grind
   subst r;rw[AF (by simp[aF];omega)] at o;have:=v y z;rw[T (by rw[j,o];rfl)] at this;exact this
end
open M (Sorted Af CY BA Ag Au BV Ai bB BH)
def rU(a:Nat):Nat:=20000*a+10000000
structure cH where
 C:Nat
 W0:Nat
 A:Nat
 hC:C<=100000
 hA:A<=60000
 hW:W0+A*rU C<=8000000000000
def cH.K(a:cH):Nat:=rU a.C
theorem cH.wt(b:cH){a:Nat}(c:a<=b.A):b.W0+a*b.K<=8000000000000:=by
 have d:=b.hW;have f:a*b.K<=b.A*b.K:=AS _ c;have e:b.A*rU b.C=b.A*b.K:=rfl;rw[e] at d;generalize a*b.K=x at*
 generalize b.A*b.K=g at*
 omega
theorem AFf: ∀a:List (List UInt8),(∀ r∈a,r.length<=1048576)->(aJ a).length<=(a.map List.length).sum+a.length*14
 | [],_=>by simp
 |r::a,b=>by
  have d:=(JL (b r Cl)).2;have e:=AFf a λx c=>b x (AG _ c)
  rw[XP];simp only[A1,B9,FF,A5];omega
theorem AFV: ∀a:List (List Pr),((a.map BP).map List.length).sum=(BP a.flatten).length
 | []=>rfl
 |b::a=>by
  simp only[B9,FF,List.flatten_cons,AFV a];simp[BP]
theorem ANu {a b s c f p:Nat}(d:b<=s+c*14)(e:s=p+f)(g:p<=a*8276)(h:f<=1048576)(i:c<=a+2):b<=8400*a+1100000:=by omega
theorem ALv {l:List Pr}(t:G6 l):(Jc l).length<=8400*l.length+1100000:=by
 have c:=AFf (aT l (Mx l)) (Nq t.eM);have d:((aT l (Mx l)).map List.length).sum=(BP l).length+(Vk l (Mx l)).length:=by have a:=AFV (Ka l);rw[AM7] at a;rw[<- a];simp only[aT,AW,List.sum_append,B9,Mu,FF,List.sum_nil,G3]
 have b:(aT l (Mx l)).length<=l.length+2:=by
  have b:(aT l (Mx l)).length=Bu l+1:=by simp[aT,I5]
  have e:Bu l<=l.length+1:=by unfold Bu;omega
  omega
 exact ANu c d (Ls t.ok) (X9 t.eM) b
def N8(a:Bt):Nat:=((Ao a).names.map λb=>(a.T b).length).sum+(IP a).flatten.length
structure Es (F:bQ) (st:Db) (D:Bt):Prop where
 ok:BJ F D
 names:(Ao D).names=st.ts.map (·.1)
 ck: ∀p∈st.ts,D.T p.1=p.2
 aV:(Ao D).aV=st.aV
 next:(Ao D).next<=st.next
 below: ∀p∈st.ts,p.1<st.next
 fr:st.fr=Em D
 gG: ∀n,st.aw<=n->n<=99999999->(st.bq=true->n≠st.aw)->F (aC nl n)=none
 jF:st.bq=true->F (aC nl st.aw)=some (AX (aJ ((D.L st.aw).map (BX st.aw))),bF)
 jE: ∀n,st.aK<=n->n<=99999999->F (aC nn n)=none
 eN:1<=st.aV/\st.aV<=st.aw
 aK:1<=st.aK
 clean: ∀n,F (aX n)≠none->n∈st.ts.map (·.1)
structure Sv (st:Db) (D:Bt) (aI c:Nat):Prop where
 aw:st.aw<=8*aI+4
 aK:st.aK<=8*aI+4
 next:st.next<=8*aI+4
 cn:st.ts.length<=aI
 bX:N8 D<=c
 aQ:D.aQ<=8*aI+6
 aW:D.aW<=8*aI+6
structure AIG (F:bQ) (D:Bt) (aI c:Nat):Prop where
 aQ:D.aQ<=8*aI+8
 aW:D.aW<=8*aI+8
 next:(Ao D).next<=8*aI+8
 aV:(Ao D).aV<=8*aI+8
 cn:(Ao D).names.length<=aI
 bX:N8 D<=c
 mX: ∀n,F (aX n)≠none->n<8*aI+8
def Rec(b:bQ)(aI c:Nat)(d:List Pr):Prop:= ∃a,BJ b a/\AIG b a aI c/\cA a=d
def kD(a:bQ)(aI c:Nat)(b:List Pr):Prop:= ∀G,MZ a G->Rec G aI c b
theorem Sv.mono {st:Db}{a:Bt}{aI b c d:Nat}(l:Sv st a aI c)(e:aI<=b)(f:c<=d):Sv st a b d:=
 ⟨by have:=l.aw;omega,by have:=l.aK;omega,by have:=l.next;omega,by have:=l.cn;omega,by have:=l.bX;omega,by have:=l.aQ;omega,by have:=l.aW;omega⟩
theorem AIG.mono {a:bQ}{b:Bt}{aI d c e:Nat}(l:AIG a b aI c)(h:aI<=d)(i:c<=e):AIG a b d e:=
 ⟨by have:=l.aQ;omega,by have:=l.aW;omega,by have:=l.next;omega,by have:=l.aV;omega,by have:=l.cn;omega,by have:=l.bX;omega,λf g=>by have:=l.mX f g;omega⟩
theorem Rec.mono {a:bQ}{aI b c d:Nat}{e:List Pr}(f:Rec a aI c e)(g:aI<=b)(h:c<=d):Rec a b d e:=by obtain⟨i,j,k,l⟩:=f;exact⟨i,j,k.mono g h,l⟩
theorem MZ.some {a G:bQ}(c:MZ a G){x:A2Q}(b:G x≠none):a x≠none:=λd=>b (by
 have:=c x;rw[d] at this;exact this)
theorem Es.iG {b:bQ}{st:Db}{a:Bt}(L:Es b st a):(Ao a).names.length=st.ts.length:=by rw[L.names];simp
theorem Es.aF {b:bQ}{st:Db}{a:Bt}(L:Es b st a):(Ao a).names.map a.T=G.aF st:=by rw[L.names,Bk];exact CC λp c=>L.ck p c
theorem Es.map {b:bQ}{st:Db}{a:Bt}(L:Es b st a):cA a=Cm st:=by unfold cA Cm Lr;rw[L.aF,<-L.fr]
theorem Es.lC {b:bQ}{st:Db}{a:Bt}(L:Es b st a):hG (Ao a):=zl L.ok
theorem Es.nd {a:bQ}{st:Db}{b:Bt}(L:Es a st b):(st.ts.map (·.1)).Nodup:=by rw[<- L.names];exact L.lC.nd
theorem Es.jI {d F':bQ}{st:Db}{a:Bt}{aI c:Nat}(L:Es d st a)(l:Sv st a aI c)(e: ∀b,F' (aX b)≠none->b<8*aI+8):AIG F' a aI c:=by have:=L.next;have:=l.next;have:=L.eN;have:=l.aw;exact⟨by have:=l.aQ;omega,by have:=l.aW;omega,by omega,by rw[L.aV];omega,by rw[L.iG];exact l.cn,l.bX,e⟩
theorem Es.fB {a:bQ}{st:Db}{b:Bt}{aI c:Nat}(L:Es a st b)(l:Sv st b aI c){n:Nat}(d:a (aX n)≠none):n<st.next:=by obtain⟨p,e,rfl⟩:=List.mem_map.1 (L.clean n d);exact L.below p e
theorem Es.iY {a:bQ}{st:Db}{b:Bt}{aI c:Nat}(L:Es a st b)(l:Sv st b aI c):a (aX st.next)=none:=by
 cases d:a (aX st.next) with
 |none=>rfl
 |some p=>exact absurd (L.fB l (n:=st.next) (by rw[d];simp)) (by omega)
theorem Es.p6 {b:bQ}{st:Db}{a:Bt}{aI c:Nat}(L:Es b st a)(l:Sv st a aI c):kD b aI c (Cm st):=λG d=>by
 refine⟨a,L.ok.dQ d,L.jI l λf e=>?_,L.map⟩;have g:=L.fB l (d.some e);have:=l.next;omega
theorem Es.jG {e F':bQ}{st:Db}{b:Bt}{aI c:Nat}(L:Es e st b)(l:Sv st b aI c)(h: ∀x,(∀ a,a∉st.ts.map (·.1)->x≠aX a)->F' x=e x)(i: ∀a,F' (aX a)≠none->a<8*aI+8):BJ F' b/\kD F' aI c (Cm st):=by
 have f:BJ F' b:=L.ok.fX λx j=>h x λa d=>j a (by rw[L.names];exact d)
 exact⟨f,λG g=>⟨b,f.dQ g,L.jI l λa d=>i a (g.some d),L.map⟩⟩
theorem ALE {a b:Bt}{f:Nat}(d:b.L=a.L)(e:b.aQ=a.aQ)(g:(Ao b).aV=f):IP b=(List.range a.aQ).flatMap λc=>if c<f then [] else a.L c:=by unfold IP;rw[d,e,g]
theorem AFT {a b:Bt}(c:b.L=a.L)(d:b.aQ=a.aQ)(e:(Ao b).aV=(Ao a).aV):IP b=IP a:=by rw[ALE c d e];rfl
theorem ANQ {c a:Bt}{f:Nat}(d:a.L=c.L)(e:a.aQ=c.aQ)(g:(Ao a).aV=f)(h: ∀b,f<=b->c.L b= []):IP a= []:=by
 rw[ALE d e g,List.flatMap_eq_nil_iff];intro b _;split
 ·rfl
 ·exact h b (by omega)
theorem AHd {a b:Bt}(d:b.L=a.L)(e:b.aQ=a.aQ)(c:Ao b=Ao a)(f:b.T=a.T):cA b=cA a/\N8 b=N8 a:=by have g:=AFT d e (congrArg Nt.aV c);unfold cA Em N8;rw[g,c,f];exact⟨rfl,rfl⟩
structure Bz (B:cH) (g h:aa) (q:Hp) (k:Nat->Nat) (st:Db) (m:Bx) (D:Bt) (aI c:Nat):Prop where
 mem:bM g h q k st m
 up:m.down=false
 eZ:Es (ff m) st D
 lim:Sv st D aI c
 wt:bg m.files<=B.W0+aI*B.K
 hc:c<=B.C
theorem Bz.aI {b:cH}{g d:aa}{e:Hp}{f:Nat->Nat}{st:Db}{m:Bx}{h:Bt}{aI i c:Nat}(a:Bz b g d e f st m h aI c)(j:aI<=i):Bz b g d e f st m h i c:=
 ⟨a.mem,a.up,a.eZ,a.lim.mono j (A0 _),AE a.wt (Lo (AS _ j) _),a.hc⟩
theorem AOg(l:List (List Pr)):M.total l=(l.map List.length).sum:=rfl
theorem Es.cn {b:bQ}{st:Db}{a:Bt}(L:Es b st a):N8 a=M.total (G.aF st)+(IP a).flatten.length:=by unfold N8;rw[<- L.aF,AOg,Bk];rfl
theorem AMZ(a:Bt):(Em a).length<=(IP a).flatten.length:=by have:=M.Qt (l:=(IP a).flatten) (t:= []);unfold Em;simpa using this
theorem Es.dj {b:bQ}{st:Db}{a:Bt}{aI c:Nat}(L:Es b st a)(l:Sv st a aI c):st.fr.length+M.total (G.aF st)<=c:=by have d:=L.cn;have e:=AMZ a;have f:=l.bX;rw[L.fr];omega
theorem Es.jK {b:bQ}{st:Db}{a:Bt}{aI c:Nat}(L:Es b st a)(l:Sv st a aI c):(Ag (st.fr::G.aF st)).length<=c:=by have d:=M.TV (st.fr::G.aF st);rw[M.AJr] at d;have:=L.dj l;omega
theorem Es.fL {b:bQ}{st:Db}{a:Bt}{aI c:Nat}(L:Es b st a)(l:Sv st a aI c):(GV (G.aF st)).length<=M.total (G.aF st):=by have d:=M.TV (G.aF st);have e:=rL (Ag (G.aF st));unfold GV;omega
structure oJ (B:cH) (h h':aa) (q:Hp) (k:Nat->Nat) (m m':Bx) (aI:Nat):Prop where
 fuel:m.fuel≠ -1
 dn:rQ h' q.d
 box: ∃S',Cu h' q.b S' m'/\ ∀c,S' c->k c≠0\/h.size<=c
 down:m'.down=true
 mod:Mod (λc=>k c≠0) h h'
 fw: ∀y,¬dd y->ff m' y=ff m y
 wt:bg m'.files<=B.W0+aI*B.K
section
variable {A : aq} {B : cH} {g h : aa} {q : Hp} {k : Nat -> Nat} {st : Db} {m : Bx} {D : Bt} {aI c : Nat} {R : A2P}
theorem JV {f:aa}{e:Nat->Prop}{i:Bx}(a:bM g h q k st m)(o:Cu f q.b e i)(j:Mod (λc=>q.Sb c\/c=q.lg\/c=q.nt) h f)(l: ∀c,e c->q.Sb c\/h.size<=c)
  (p: ∀d,rQ d q.d->Cu d q.b e i->Mod (λc=>k c≠0) h d->(∀ c,e c->k c≠0\/h.size<=c)->R (J6 J9 30) d):AA A P Cg #[Ar q.d,J6 J9 30] f R:=by
 have u:=a.ia;have r:f[q.d]? =some (J2 (eB q st false) FH (0,0)):=j.ah a.cell (by
  rintro(h|h|h)
  ·exact a.mW h
  ·exact a.dl h
  ·exact a.dn h)
 have nd: ¬e q.d:=λb=>by
  rcases l _ b with h|h
  ·exact a.mW h
  ·omega
 refine ARr r λd s n v=>p d s (o.mod n λc b t=>nd (t▸b)) ((j.aj λc _ b=>?_).trans (n.aj λc _ b=>?_)) λc b=>(l c b).imp (λh=>by rw[a.kb c h];decide) id
 ·rcases b with b|rfl|rfl
  ·rw[a.kb c b];decide
  ·rw[a.kl];decide
  ·rw[a.kn];decide
 ·rw[b,a.kd];decide
theorem AS4(a:Nat):dd (aX a):= .inr (.inr ⟨a,rfl⟩)
theorem ASv(a:Nat):dd (aC nn a):= .inr (.inl ⟨a,rfl⟩)
theorem ATJ(a:Nat):dd (aC nl a):= .inl ⟨a,rfl⟩
theorem Qs {a:A2Q}(h: ¬dd a)(b:Nat):a≠aX b:=λd=>h (d▸AS4 b)
theorem lj {a:A2Q}(h: ¬dd a)(b:Nat):a≠aC nn b:=λd=>h (d▸ASv b)
theorem oK {a:A2Q}(h: ¬dd a)(b:Nat):a≠aC nl b:=λd=>h (d▸ATJ b)
theorem APS(d:bM g h q k st m)(L:Es (ff m) st D)(l:Sv st D aI c)(e:c<=B.C)(a:GV (aF st)≠ []):G6 (GV (aF st)):=by have f:=L.fL l;have i:=L.dj l;have j:=B.hC;exact⟨a,λx b=>oL (oM.2 x b),oM.1,by omega⟩
theorem cH.step(B:cH){a w' aI d:Nat}(h:a<=B.W0+aI*B.K)(e:w'<=a+d)(hd:d<=20000*B.C+10000000):w'<=B.W0+(aI+1)*B.K:=by
 have b:(aI+1)*B.K=aI*B.K+B.K:=Nat.succ_mul _ _;have f:B.K=20000*B.C+10000000:=rfl;rw[b];generalize aI*B.K=x at*
 omega
theorem ASk {t b a c:Nat}(d:t<=8400*c+1100000)(e:b<=a)(f:a<=8000000000000)(i:c<=100000):b+t+1<=8796093022208:=by omega
theorem ASH {a b d x:Nat}(e:b<=a+x)(f:d<=b+700000):d<=a+(x+700000):=by grind
theorem AOt(a:Nat):8400*a+1100001+700000<=20000*a+10000000:=by omega
theorem cH.step2(B:cH){a b d aI:Nat}(h:a<=B.W0+aI*B.K)(e:b<=a+(8400*B.C+1100001))(f:d<=b+700000):d<=B.W0+(aI+1)*B.K:=
 B.step h (ASH e f) (AOt B.C)
theorem AJ6(br:bY g)(S:Bz B g h q k st m D aI c)(hA:aI+1<=B.A)
  (bs: ∀h' ab,oJ B h h' q k m ab (aI+1)->kD (ff ab) (aI+1) c (Cm st)->R (J6 J9 30) h')
  (b4: ∀h' aH b5 bJ ab r,aH.d=q.d->aH.b=q.b->Bz B g h' aH b5 bJ ab r (aI+1) c->JO m ab->bJ.fr=st.fr->Cm bJ=Cm st->bJ.ts.length<=1->(∀ E,¬dd E->ff ab E=ff m E)->Mod (λc=>k c≠0) h h'->(∀ c,b5 c≠0->k c≠0\/h.size<=c)->R (J6 J9 0) h'):
  AA A P JY #[Ar q.d] h R:=by
 have cN:=S;obtain⟨u,hd,L,l,a7,b⟩:=S;have et:=B.hA;have eu:=B.hC;have ev:=B.wt (a:=aI) (by omega);refine Yv ?_;unfold Qg;refine ai.mk λK cO=>Yx u (cO _ _ (af.no rfl ?_))
 refine aD (AZ.mk (s:=q.tp) (AB u.cell rfl) ?_);have ew:=u.da;have cQ:=u.ck.len;have ex:=l.cn;refine af.intro (λI=>?_) (λI=>?_)
 ·have f:st.ts.length<=1:=by grind
  exact b4 h q k st m D rfl rfl (cN.aI (by omega)) (JO.refl hd) rfl rfl f (λ_ _=>rfl) Mod.refl (λc b=> .inl b)
 refine aD (AZ.mk (s:=q.tp) (AB u.cell rfl) ?_);refine Loop.rule (λaJ x F=> ∃(i:Nat) (sl:Sl),x=(sl,(i:Int),())/\aJ=q.ps.length-i/\i<=q.ps.length/\Ext h F/\(∀ c,sl.ah=some c->h.size<=c)/\TF A F sl ((aF st).take i)) ?_ ⟨0,⟨none,0,0⟩,rfl,rfl,by omega,Mod.refl,λc b=>by simp[Sl.ah] at b,TF.nil⟩;rintro ey aJ _ F ⟨i,sl,rfl,rfl,a8,aL,bt,a9⟩ b6;dsimp only;refine af.intro (λI=>?_) (λI=>?_)
 ·have V:i<q.ps.length:=by rw[<- cQ];simpa using I
  have cR:i<st.ts.length:=by omega
  have b7:q.ps[i]? =some q.ps[i]:=A2 V;have aM:st.ts[i]? =some st.ts[i]:=A2 cR;have cS:(aF st)[i]? =some st.ts[i].2:=by unfold aF;rw[By,aM];rfl
  have b8:=u.on aL;refine b8.ck.view.idx b7 λa _ c=>AY.mk (Cells.pt c) ?_
  obtain⟨bu,ez,cT,cU,cV,b9⟩:=b8.cO i _ _ b7 aM;refine zi cT cU b9.eM λeA bv bw N eC=>⟨_,rfl,Yw.mk bw.one.1 ?_⟩
  rw[M.sk] at bw;have v:=b9.many;refine TF.add (a9.ext N) bw (λc b e=>?_) (by omega) (by simp[aF];omega) λcW h' aH ab cX=>?_
  ·obtain⟨eD,cY,_,_⟩:=a9;have ac:=cY.lt e;have eF:=bt c e;rcases b with f|f|f
   ·have:=cV c f.1 f.2;have:=(u.own c (by rw[this];decide)).2;omega
   ·omega
   ·omega
  ·rw[Aa (by omega)];refine b6 (q.ps.length-(i+1)) _ _ (by omega) ⟨i+1,cW,rfl,rfl,V,?_,λc b=>?_,?_⟩
   ·exact(aL.trans N).then (ab.aj λc _ b=> .inr (bt c b))
   ·rcases cX c b with f|f
    ·exact bt c f
    ·have:=aL.size;have:=N.size;omega
   ·rw[Ax,cS];exact aH
 have V:i=q.ps.length:=by
  have: ¬i<q.tp.len:=by simpa using I
  omega
 subst V;rw[AF (by simp[aF];omega)] at a9;clear b6;have cZ:=bB.tail u.fW;refine M.sn a9.lA (λc h=>h.elim) (by simp[aF];omega) cZ λeG ca c0 cb _=>⟨_,rfl,?_⟩
 refine M.sq (.inr c0) λeH ba c1 cc _=>⟨_,rfl,?_⟩
 have eI:=L.fL l;have eJ:=L.dj l;have c3:(BH (Ag (aF st))).length<=1099511627776:=by have:(BH (Ag (aF st))).length=(GV (aF st)).length:=rfl;omega
 refine M.We c1 (λ_ _=>rfl) c3 λbx aN aw c4 c5=>⟨bx,rfl,?_⟩
 have bz:Ext h aN:=((aL.trans cb).trans cc).trans c5;have aw:Own BR AR aN bx (GV (aF st)):=aw;have bb:=u.on bz;have eK:=bz.size;refine aD (AZ.mk (s:=q.np) (AB bb.cell rfl) ?_);refine aD (ae.dr bb.cell (by simp) λeL c6 c7 eM=>?_);refine aD (ae.dr c6 (by simp) λX bA c8 eN=>?_);have bA:X[q.d]? =some (J2 (eB {q with tp:=⟨none,0,0⟩,np:=⟨none,0,0⟩} {st with next:=st.next,aV:=st.aV} false) FH (0,0)):=by simpa using bA
 have aO:Mod (· =q.d) aN X:=c7.trans c8;have an:=bb.eX (tp:=⟨none,0,0⟩) (np:=⟨none,0,0⟩) (ps:= []) (ts:= []) (next:=st.next) (aV:=st.aV) (S:=λ_=>False) bA (aO.aj λc _ b=> .inl b) Own.nil Own.nil rfl
  (λc b=>by simp[Sl.ah] at b) (λc b=>by simp[Sl.ah] at b) (λc h=>h.elim) (λi t p f=>by simp at f)
 have c9: ∀c,LY k aN.size ⟨none,0,0⟩ ⟨none,0,0⟩ (λ_=>False) c=k c:=λc=>by
  unfold LY;split
  ·rfl
  ·rename_i f;simp[Sl.ah];omega
 have da:LY k aN.size ⟨none,0,0⟩ ⟨none,0,0⟩ (λ_=>False)=k:=funext c9;rw[da] at an;have ax:Mod (λc=>k c≠0) h X:=(Ext.mod bz).trans (aO.aj λc _ b=>by rw[b,u.kd];decide);have db:=bb.names.view;have cd:View IJ X q.np (eE st):=db.mod aO λc b e=>by have:=u.kx c b;rw[e,u.kd] at this;cases this
 have ce:=L.iY l;have eO:=l.next;have eP:=l.aK;have bc:st.next∉st.ts.map (·.1):=λv=>by
  obtain⟨p,W,e⟩:=List.mem_map.1 v;have:=L.below p W;omega
 refine ai.mk λdc de=>?_
 have fin: ∀(F:aa) (ao:Hp) (bd:Nat->Nat) (y:Bx) (z:Nat) (w:List (Nat×List Pr)),bM g F ao bd {st with ts:=w,next:=z} y->ao.d=q.d->ao.b=q.b->JO m y->
   (∀ x,x≠aX st.next->ff y x=ff m x)->((w= []/\z=st.next/\GV (aF st)= []/\ff y (aX st.next)=none)\/(w= [(st.next,GV (aF st))]/\z=st.next+1/\ff y (aX st.next)=some (AX (Jc (GV (aF st))),bF)/\G6 (GV (aF st))))->
   bg y.files<=bg m.files+(8400*B.C+1100001)->Mod (λc=>k c≠0) h F->(∀ c,bd c≠0->k c≠0\/h.size<=c)->View IJ F q.np (eE st)->(∀ c,q.np.ah=some c->bd c=7)->dc () F:=by
  intro F ao bd y z w ap be ay bC Y O cf bf aP df ba;refine de _ _ ?_;have dg: ∀x,(∀ n,x≠aX n)->ff y x=ff m x:=λx J=>Y x (J _)
  have dh:BJ (ff y) D:=L.ok.fX λx J=>Y x (J st.next (by rw[L.names];exact bc))
  have di:hG (cP {st with ts:=w,next:=z}):=by
   have eQ:=L.eN;have eR:=l.aw;rcases O with⟨rfl,rfl,_,_⟩|⟨rfl,rfl,_,_⟩
   ·exact⟨by show st.next<=_;omega,by show 1<=st.aV/\st.aV<=_;omega,by simp[cP],by simp[cP],by simp[cP]⟩
   ·exact⟨by show st.next+1<=_;omega,by show 1<=st.aV/\st.aV<=_;omega,by simp[cP],by simp[cP],by simp[cP]⟩
  have dj: ∀n∈(cP {st with ts:=w,next:=z}).names,ff y (aX n)=some (AX (Jc ((λ_=>GV (aF st)) n)),bF)/\G6 ((λ_=>GV (aF st)) n):=λn o=>by
   rcases O with⟨rfl,rfl,_,_⟩|⟨rfl,rfl,f,H⟩
   ·simp[cP] at o
   ·have o:n=st.next:=by simpa [cP] using o
    subst o;exact⟨f,H⟩
  have cg: ∀r:Bt,r.L=D.L->r.aQ=D.aQ->Ao r=cP {st with ts:=w,next:=z}->r.T=(λ_=>GV (aF st))->cA r=Cm st/\N8 r<=c/\Em r=st.fr:=λr bD bE ad bh=>by
   have ay:=AFT bD bE (by rw[ad];exact L.aV.symm);have ch:Em r=st.fr:=by unfold Em;rw[ay];exact L.fr.symm
   have eS:=L.cn;have eT:=l.bX;refine⟨?_,?_,ch⟩
   ·unfold cA;rw[ch,ad,bh];rcases O with⟨rfl,rfl,f,_⟩|⟨rfl,rfl,_,_⟩
    ·exact ABs u.fW f
    ·exact WG u.fW
   ·unfold N8;rw[ay,ad,bh];rcases O with⟨rfl,rfl,f,_⟩|⟨rfl,rfl,_,_⟩
    ·show 0+(IP D).flatten.length<=c;omega
    ·show((GV (aF st)).length+0)+(IP D).flatten.length<=c;omega
  have ci: ∀ {aq:bQ},(∀ n,aq (aX n)≠none->ff y (aX n)≠none)-> ∀n,aq (aX n)≠none->n<8*(aI+1)+8:=λbG n o=>by
   by_cases e:n=st.next
   ·omega
   ·have f:=bG n o;rw[Y _ λaQ=>e (JQ aQ)] at f;have:=L.fB l f;omega
  have cj: ∀(r:Bt) (aq:bQ),BJ aq r->r.L=D.L->r.aQ=D.aQ->r.aW<=max D.aW (st.aK+1)->Ao r=cP {st with ts:=w,next:=z}->r.T=(λ_=>GV (aF st))->(∀ n,aq (aX n)≠none->ff y (aX n)≠none)->Rec aq (aI+1) c (Cm st):=λr aq f bD bE o ad bh bG=>by
   obtain⟨aR,aS,_⟩:=cg r bD bE ad bh;have:=l.aQ;have:=l.aW;have:=L.eN;have:=l.aw;refine⟨r,f,⟨by omega,by omega,?_,?_,?_,aS,ci bG⟩,aR⟩
   ·rw[ad];show z<=_;omega
   ·rw[ad];show st.aV<=_;omega
   ·rw[ad];rcases O with⟨rfl,_⟩|⟨rfl,_⟩<;>simp[cP]
  rw[<- be];have dk:bg y.files+1000000<=8000000000000:=by have f:=B.wt (a:=aI+1) hA;have H:=B.step (d:=8400*B.C+1100001+1000000) a7 (w':=bg y.files+1000000) (by omega) (by omega);omega
  refine zX (T:=λ_=>GV (aF st)) br ap bC.up dh di dj ⟨L.aK,by show st.aK+2<=_;omega⟩ (λn aT aU=>by rw[dg _ λk=>QZ n k];exact L.jE n aT aU) dk
   (λbH aW bI ag dl dm bi dn dp Z bK=>⟨_,rfl,af.yes rfl ?_⟩) λaW bI ck ag D3 dq bL cl ar bN bO bP cm Z dr bK bi cn=>⟨_,rfl,af.no rfl ?_⟩
  ·refine JV ap dl (bi.aj λc _ b=>b.imp id .inr) dn λco ds dt du dv=>⟨_,rfl,?_⟩
   have dw:Mod (λc=>k c≠0) h co:=bf.then (du.aj λc _ b=>aP c b);have bj:bg ag.files<=B.W0+(aI+1)*B.K:=B.step2 a7 cf bK;refine bs co ag ⟨λF=>bH (bC.calm F),by rw[<- be];exact ds,⟨bI,by rw[<- ay];exact dt,λc b=>?_⟩,dm,dw,λE Q=>?_,bj⟩ λG aY=>?_
   ·rcases dv c b with f|f
    ·exact aP c f
    ·exact .inr (by have:=bf.size;omega)
   ·rw[Z E λn=>lj Q n,Y E (Qs Q _)]
   ·obtain⟨r,cp,nx⟩:=dp G aY;have cq: ∀n,G (aX n)≠none->ff y (aX n)≠none:=λn o=>by
     have:=aY.some o;rwa [Z _ λj e=>QZ j n e.symm] at this
    rcases nx.last with⟨ah,bk⟩|⟨ah,bk⟩
    ·obtain⟨aR,aS⟩:=AHd nx.L nx.aQ ah bk;have:=l.aQ;have:=l.aW;have:=L.eN;have:=l.aw;have:=L.next;have dx:=nx.aW;have bR:({st with ts:=w,next:=z}:Db).aK=st.aK:=rfl;rw[bR] at dx;exact⟨r,cp,⟨by rw[nx.aQ];omega,by omega,by rw[ah];omega,by rw[ah,L.aV];omega,by rw[ah,L.iG];omega,by rw[aS];exact l.bX,ci cq⟩,by rw[aR];exact L.map⟩
    ·exact cj r G cp nx.L nx.aQ nx.aW ah bk cq
  ·
   have bj: ∀ {cr},cr<=bg ag.files->cr<=B.W0+(aI+1)*B.K:=λdy=>B.step2 a7 cf (AE dy bK)
   have dz:View IJ aW q.np (eE st):=df.mod bi λc b e=>by
    have f:=ba c b;rcases e with e|e
    ·rw[ap.kb c e] at f;cases f
    ·rw[e,ap.kn] at f;cases f
   have dA: ∀c,q.np.ah=some c->c<F.size:=λc b=>(ap.own c (by rw[ba c b];decide)).2
   have eU:q.np.len=st.ts.length:=by rw[u.names.len];simp
   have dB:Mod (λc=>k c≠0) h aW:=bf.then (bi.aj λc _ b=>by
    rcases b with b|b
    ·exact aP c (by rw[ap.kb c b];decide)
    ·exact aP c (by rw[b,ap.kn];decide))
   have dC: ∀c,ck c≠0->k c≠0\/h.size<=c:=λc b=>by
    by_cases ac:c<F.size
    ·rw[cn c ac] at b;exact aP c b
    ·exact .inr (by have:=bf.size;omega)
   have dD: ∀n,(∃ p∈st.ts,p.1=n)->(ff ag (aX n)).isSome=true/\n≠st.next:=λn o=>by
    obtain⟨p,W,rfl⟩:=o;have ac:=L.below p W;have aj:p.1≠st.next:=by omega
    have f:=(L.ok.cO p.1 (by rw[L.names];exact List.mem_map.2 ⟨p,W,rfl⟩)).1;rw[Z _ λj e=>QZ j _ e.symm,Y _ λe=>aj (JQ e),f];exact⟨rfl,aj⟩
   have dE:=L.nd;obtain⟨aR,aS,dF⟩:=cg D3 bO bP ar bN;have eV:bL.up=bL.up:=rfl;refine Loop.rule (λaJ x J=> ∃(i:Nat) (bm:Nat->Prop) (aZ:Nat->Nat) (C:Bx),x=((i:Int),())/\aJ=st.ts.length-i/\i<=st.ts.length/\bM g J {ao with Sb:=bm} aZ {st with ts:=w,next:=z,aK:=st.aK+1} C/\JO m C/\bg C.files<=bg ag.files/\
     (∀ x,(∀ n∈(st.ts.map (·.1)).take i,x≠aX n)->ff C x=ff ag x)/\(∀ n∈(st.ts.map (·.1)).take i,ff C (aX n)=none)/\Mod (λc=>k c≠0) h J/\(∀ c,aZ c≠0->k c≠0\/h.size<=c)/\View IJ J q.np (eE st)/\(∀ c,q.np.ah=some c->aZ c=7)) ?_
    ⟨0,bI,ck,ag,rfl,rfl,by omega,dq,bC.trans bL,A0 _,λx _=>rfl,by simp,dB,dC,dz,λc b=>by rw[cn c (dA c b)];exact ba c b⟩
   rintro eW aJ _ J ⟨i,bm,aZ,C,rfl,rfl,a8,ak,a0,bS,U,bn,a1,a2,cs,bT⟩ dG;dsimp only;refine af.intro (λI=>?_) (λI=>?_)
   ·have V:i<st.ts.length:=by have:=of_decide_eq_true I;omega
    have aM:st.ts[i]? =some st.ts[i]:=A2 V;have ct:(st.ts.map (·.1))[i]? =some st.ts[i].1:=by rw[By,aM];rfl
    have cu:st.ts[i]∈st.ts:=Bm V;have eX:=L.below _ cu;refine cs.idx (i:=i) (x:=(st.ts[i].1:Int)) (by rw[eE,By,aM];rfl) λa _ dH=>AC.mk dH.int ?_
    refine aD (AY.mk (AO ak.cell rfl) ?_);refine QU (ak.ib br) (by omega) λbv N=>⟨_,rfl,⟨AO (ak.on N).cell rfl,?_⟩⟩
    have bU:=ak.on N;refine XG bU.box λca cv bV bo cw=>⟨_,rfl,?_⟩
    have dI:st.ts[i].1∉(st.ts.map (·.1)).take i:=λv=>by
     obtain⟨j,a3,e⟩:=DA v;have eY:j<i:=by have:=a3;simp at this;omega
     rw[List.getElem_take] at e;have f:=(List.getElem?_eq_some_iff.1 ct);have H:=(LO (h₀:=by simp;omega) (h₁:=f.1) dE).1 (e.trans f.2.symm);omega
    have dJ:(ff C (aX st.ts[i].1)).isSome=true:=by rw[U _ λn o e=>dI (by rw[JQ e];exact o)];exact(dD _ ⟨_,cu,rfl⟩).1
    have bW:(st.ts.map (·.1)).take (i+1)=(st.ts.map (·.1)).take i++ [st.ts[i].1]:=by rw[Ax,ct];rfl
    have dK:Mod (λc=>k c≠0) h ca:=a1.then (((Ext.mod N).trans bo).aj λc _ b=>a2 c (by rw[ak.kb c b];decide));rcases RF (k:=aX st.ts[i].1) a0.up dJ with⟨dL,bX⟩|⟨bX,dM,cx⟩
    ·rw[bX] at bV ⊢;refine af.yes rfl ?_;refine JV (q:= {ao with Sb:=bm}) bU bV (bo.aj λc _ b=> .inl b) (λc b=> .inl (cw c b)) λcy dN dO dP dQ=>⟨_,rfl,?_⟩
     have dR:Mod (λc=>k c≠0) h cy:=(a1.trans (Ext.mod N)).then (dP.aj λc _ b=>a2 c b);have dS: ∀n,ff C (aX n)≠none->ff y (aX n)≠none:=λn o=>by
      by_cases v:n∈(st.ts.map (·.1)).take i
      ·exact absurd (bn n v) o
      ·rw[U _ λj a3 e=>v (by rw[JQ e];exact a3),Z _ λj e=>QZ j n e.symm] at o;exact o
     have bZ:BJ (ff C) D3:=cl.fX λx az=>U x λn o e=>az n (by
      rw[ar];intro v;rcases O with⟨rfl,_⟩|⟨rfl,_⟩
      ·simp[cP] at v
      ·have:n=st.next:=by simpa [cP] using v
       have cz:n∈st.ts.map (·.1):=DM o;rw[this] at cz;exact bc cz) e
     refine bs cy (NP C) ⟨(λF=>by have:=a0.calm F;rw[dL] at this;cases this),by rw[<- be];exact dN,⟨cv,by rw[<- ay];exact dO,λc b=>?_⟩,rfl,dR,λE Q=>?_,bj bS⟩ λG aY=>?_
     ·rcases dQ c b with f|f
      ·exact a2 c f
      ·exact .inr (by have:=(a1.trans (Ext.mod N)).size;omega)
     ·rw[oR,U E λn _=>Qs Q n,Z E λn=>lj Q n,Y E (Qs Q _)]
     ·exact cj D3 G (bZ.dQ aY) bO bP cm ar bN λn o=>dS n (aY.some o)
    ·rw[bX];refine af.no rfl ?_;have dT:=bU.boxed (j:=2) (bJ:= {st with ts:=w,next:=z,aK:=st.aK+1}) bV (bo.aj λc _ b=> .inl b) (λc b=> .inl (cw c b)) rfl rfl rfl rfl (.inl ⟨by decide,rfl,rfl⟩) (.inl ⟨by decide,rfl⟩);have dU:=Zd (m:=C) (aX st.ts[i].1);rw[Aa (by omega)];refine dG (st.ts.length-(i+1)) _ _ (by omega) ⟨i+1,cv,_,_,rfl,rfl,V,dT,a0.trans dM,AE dU bS,λx az=>?_,λn o=>?_,dK,λc b=>?_,?_,λc b=>?_⟩
     ·rw[cx,if_neg (az _ (by rw[bW];simp))];exact U x λn o=>az n (by rw[bW];exact List.mem_append.2 (.inl o))
     ·rw[cx];split
      ·rfl
      ·rename_i aj;rw[bW] at o;rcases List.mem_append.1 o with o|o
       ·exact bn n o
       ·exact absurd (by rw[List.mem_singleton.1 o]) aj
     ·by_cases ac:c<bv.size
      ·rw[GM ac] at b;exact a2 c b
      ·exact .inr (by have:=(a1.trans (Ext.mod N)).size;omega)
     ·exact(cs.ext N).mod bo λc b e=>by
       have f:=bT c b;rw[ak.kb c e] at f;cases f
     ·have ac:c<bv.size:=by have:=(ak.own c (by rw[bT c b];decide)).2;have:=N.size;omega
      rw[GM ac];exact bT c b
   ·have V:i=st.ts.length:=by have: ¬(i:Int)<((q.np.len:Nat):Int):=of_decide_eq_false I;omega
    subst V;rw[AF (by simp)] at U bn;have dV: ∀n,ff C (aX n)≠none->n=st.next/\ff y (aX n)≠none:=λn o=>by
     by_cases v:n∈st.ts.map (·.1)
     ·exact absurd (bn n v) o
     ·rw[U _ λj a3 e=>v (by rw[JQ e];exact a3),Z _ λj e=>QZ j n e.symm] at o;refine⟨?_,o⟩;by_cases e:n=st.next
      ·exact e
      ·rw[Y _ λaQ=>e (JQ aQ)] at o;exact absurd (L.clean n o) v
    have cB: ∀n,ff C (aC nl n)=ff m (aC nl n):=λn=>by
     rw[U _ λj _=>Lt n j,Z _ λj=>WA n j,Y _ (Lt n _)]
    have bZ:BJ (ff C) D3:=cl.fX λx az=>U x λn o e=>az n (by
     rw[ar];intro v;rcases O with⟨rfl,_⟩|⟨rfl,_⟩
     ·simp[cP] at v
     ·have:n=st.next:=by simpa [cP] using v
      rw[this] at o;exact bc o) e
    have dW: ∀p∈w,D3.T p.1=p.2:=λp W=>by
     rw[bN];rcases O with⟨rfl,_⟩|⟨rfl,_⟩
     ·cases W
     ·rw[List.mem_singleton.1 W]
    have dX: ∀p∈w,p.1<z:=λp W=>by
     rcases O with⟨rfl,_⟩|⟨rfl,rfl,_⟩
     ·cases W
     ·rw[List.mem_singleton.1 W];exact Hj _
    have dY: ∀n,ff C (aX n)≠none->n∈w.map (·.1):=λn o=>by
     obtain⟨e,H⟩:=dV n o;rcases O with⟨rfl,_,_,aW⟩|⟨rfl,_⟩
     ·rw[e] at H;exact absurd aW H
     ·simp[e]
    have cC:Es (ff C) {st with ts:=w,next:=z,aK:=st.aK+1} D3:=
     ⟨bZ,by rw[ar];rfl,dW,by rw[ar];rfl,by rw[ar];exact A0 _,dX,dF.symm,λn aT aU aj=>by rw[cB];exact L.gG n aT aU aj,λv=>by rw[cB,bO];exact L.jF v,
      λn aT aU=>by rw[U _ λj _=>QZ n j];exact dr n aT aU,L.eN,by show 1<=st.aK+1;omega,dY⟩
    have dZ:Sv {st with ts:=w,next:=z,aK:=st.aK+1} D3 (aI+1) c:=by
     have:=l.aw;have:=l.aQ;have:=l.aW;have bR:({st with ts:=w,next:=z}:Db).aK=st.aK:=rfl;rw[bR] at cm;refine⟨by show st.aw<=_;omega,by show st.aK+1<=_;omega,?_,?_,aS,by rw[bP];omega,by omega⟩
     ·show z<=_;omega
     ·show w.length<=_;rcases O with⟨rfl,_⟩|⟨rfl,_⟩<;>simp
    refine b4 J {ao with Sb:=bm} aZ _ C D3 be ay ⟨ak,a0.up,cC,dZ,bj bS,b⟩ a0 rfl ?_ ?_ (λE Q=>?_) a1 a2
    ·rw[<- aR];exact cC.map.symm
    ·show w.length<=1;rcases O with⟨rfl,_⟩|⟨rfl,_⟩<;>simp
    ·rw[U E λn _=>Qs Q n,Z E λn=>lj Q n,Y E (Qs Q _)]
 refine af.intro (λI=>?_) (λI=>?_)
 ·have aj:GV (aF st)≠ []:=λe=>by
   have f:=of_decide_eq_true I;have H:=aw.len;rw[e] at H;simp at H;omega
  have bp:=APS (B:=B) u L l b aj;have eZ:=ALv bp;refine aD (AC.mk (AB an.cell rfl) ?_);have d0:View BR X bx (GV (aF st)):=aw.view.mod aO λc b e=>by have:=c4 c b;have:=u.ia;have:=(aL.trans cb).size;have:=cc.size;omega
  have e0:(Jc (GV (aF st))).length<=8400*B.C+1100000:=by omega
  refine zW (q:= {q with tp:=⟨none,0,0⟩,np:=⟨none,0,0⟩,ps:= []}) (n:=st.next) br an hd bp d0 (λc b=>by have:=aw.lt b;have:=aO.size;omega) (by omega) ce (by omega) (λbH au cD aA d1 d2 a4 d3 aE d4=>⟨_,_,rfl,af.yes rfl ?_⟩) λau cD cE aA t bu a8 b0 d5 aE d4 cF e1 e2 cG a4 cH=>⟨_,_,rfl,af.no rfl ?_⟩
  ·refine JV (q:= {q with tp:=⟨none,0,0⟩,np:=⟨none,0,0⟩,ps:= []}) an d1 (a4.aj λc _ b=> .inl b) d3 λav d6 d7 d8 d9=>⟨_,rfl,?_⟩
   have ea:BJ (ff aA) D/\kD (ff aA) (aI+1) c (Cm st):=by
    refine L.jG (l.mono (BY _) (A0 _)) (λx J=>aE x (J _ bc)) λn o=>?_
    by_cases e:n=st.next
    ·omega
    ·rw[aE _ λaQ=>e (JQ aQ)] at o;have:=L.fB l o;omega
   have eb:bg aA.files<=bg m.files+(8400*B.C+1100001):=by omega
   exact bs av aA ⟨bH,d6,⟨cD,d7,λc b=>(d9 c b).imp id λh=>by have:=ax.size;omega⟩,d2,ax.then (d8.aj λc _ b=> .inl b),λE Q=>aE E (Qs Q _),B.step2 a7 eb (Ix _ _)⟩ ea.2
  ·refine al.mk λav _ ec a5 e3=>?_
   have bq:=b0.on a5;refine aD (AC.mk (AB bq.cell rfl) (al.mk λed _ ee a6 e4=>?_));have cI:=bq.on a6;refine aD (ae.dr cI.cell (by simp) λe5 ef eg e6=>aD (ae.dr ef (by simp) λe7 cJ eh e8=>?_));refine aD (AC.mk (AB cJ rfl) (aD (ae.dr cJ (by simp) λam cK ei e9=>?_)));have ej:J8 J9 (((st.next:Nat):Int)+(1:Int))=((st.next+1:Nat):Int):=Aa (by omega);have aG:Mod (· =q.d) ed am:=(eg.trans eh).trans ei;have ek:am[au.size]? =some (J2 #[Ar t] BK (0,0)):=aG.ah (a6.ah ec λh=>h) (by have:=b0.ia;show ¬_=q.d;have e:(q.d:Nat)<au.size:=this;omega);have el:am[av.size]? =some (J2 #[J6 J9 (st.next:Int)] Bq (0,0)):=aG.ah ee (by have:=bq.ia;have e:(q.d:Nat)<av.size:=this;show ¬_=q.d;omega);have en:Own fM BK am ⟨some ⟨au.size,0,none⟩,1,1⟩ [t]:=Own.lit (l:= [t]) ek rfl (by simp[maxLen]);have on:Own IJ Bq am ⟨some ⟨av.size,0,none⟩,1,1⟩ (([(st.next,GV (aF st))]:List (Nat×List Pr)).map λp=>(p.1:Int)):=Own.lit (l:= [((st.next:Nat):Int)]) el rfl (by simp[maxLen]);have fa:=a4.size;have cL: ∀c,au.size<=c->cE c=0:=λc b=>cG c (by have:=cF.fB;omega)
   have eo:=cI.eX (h':=am) (tp:=⟨some ⟨au.size,0,none⟩,1,1⟩) (np:=⟨some ⟨av.size,0,none⟩,1,1⟩) (ps:= [t]) (ts:= [(st.next,GV (aF st))]) (next:=st.next+1) (aV:=st.aV) (S:=λc=>bu<=c/\c<a8)
    (by rw[ej] at cK;simpa [eB] using cK) (aG.aj λc _ b=> .inl b) en on rfl
    (λc b=> .inr (by
     have e:au.size=c:=by simpa [Sl.ah] using b
     subst e;have b1:=b0.ext.size;refine⟨cL _ (A0 _),b1,by simp[Sl.ah];omega,by omega⟩))
    (λc b=> .inr (by
     have e:av.size=c:=by simpa [Sl.ah] using b
     subst e;have b1:=bq.ext.size;refine⟨cL _ (by omega),b1,by simp[Sl.ah];omega,by omega⟩))
    (λc b=>⟨by have:=an.ext.size;omega,by omega⟩)
    (λi t' p f H=>by
     have ep:i=0:=by have:=(List.getElem?_eq_some_iff.1 f).1;simpa using this
     subst ep;simp only[Hv,BW] at f H;subst f H;refine .inr ⟨bu,a8,(cF.ext (a5.trans a6)).mod aG (λc b2 c2 e=>?_),by omega,λc b2 c2=>⟨⟨b2,c2⟩,cG c b2⟩,bp⟩;have:=an.ia;have bk:(q.d:Nat)<X.size:=this;omega)
   have eq:Mod (λc=>k c≠0) h am:=by
    refine(ax.trans ((a4.aj λc _ b=>?_))).trans ((Ext.mod (a5.trans a6)).trans (aG.aj λc _ b=>?_))
    ·rw[u.kb c b];decide
    ·rw[b,u.kd];decide
   have b3: ∀c,q.np.ah=some c->c<X.size/\k c=7:=λc b=>⟨by have:=u.names.lt b;have:=ax.size;omega,u.kx c b⟩
   refine fin am _ _ aA (st.next+1) _ eo rfl rfl d5 (λx J=>by rw[aE,if_neg J]) (.inr ⟨rfl,rfl,by rw[aE,if_pos rfl],bp⟩) (by omega) eq (λc b=>?_) ?_ λc b=>?_
   ·by_cases ac:c<h.size
    ·left;intro er;have cM:c<X.size:=by have:=ax.size;omega
     have ah:cE c=0:=by rw[cH c cM];exact er
     have fb:=cM;apply b;unfold LY;rw[if_neg (by simp[ah]),if_neg (by simp[Sl.ah];omega),if_neg (by simp[Sl.ah];have:=a5.size;omega),if_neg (by omega)]
    ·exact .inr (by omega)
   ·refine((cd.mod a4 λc b e=>?_).ext (a5.trans a6)).mod aG λc b e=>?_
    ·have:=(b3 c b).2;rw[u.kb c e] at this;cases this
    ·have:=(b3 c b).2;rw[e,u.kd] at this;cases this
   ·obtain⟨f,H⟩:=b3 c b;unfold LY;rw[cH c f,H];rfl
 ·have es:GV (aF st)= []:=by have f:=of_decide_eq_false I;have H:=aw.len;exact CH (by omega)
  refine fin X _ k m st.next [] an rfl rfl (JO.refl hd) (λx _=>rfl) (.inl ⟨rfl,rfl,es,ce⟩) (by omega) ax (λc b=> .inl b) cd λc b=>u.kx c b
end
end Go.Lf.G
